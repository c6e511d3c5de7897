/- StreamOne, the plain law of reading: what is read without an error is just the head, the frames of the blocks, foot and tail. No condition. -/
import Derived.Test.YtljcogimeimknaaRdTake
import Derived.Test.YtljcogimeimknaaK8t
namespace Go.Proofs.Ytljcogimeimknaa
open Go.RowKit Go.Shelf
set_option linter.unusedVariables false
set_option maxRecDepth 100000

/-- what an In has not moved yet -/
def txt (c : CIn Src) : List UInt8 := c.held ++ c.s.left
theorem src_lay (s : Src) (m : Nat) : (srcM.lay s m).take (srcM.num s m).toNat ++ (srcM.nxt s m).left = s.left := by
  show (s.gives m).take (((s.gives m).length : Nat) : Int).toNat ++ s.rest m = s.left
  rw [Int.toNat_natCast, List.take_length]; exact s.parts m
theorem tkB_txt (s : Src) (b : List UInt8) (n : Nat) : tkB srcM s b n ++ (srcM.nxt s (askN n b.length)).left = b ++ s.left := by
  unfold tkB; rw [List.append_assoc, src_lay]
theorem tk_txt : ∀ (F : Nat) (s : Src) (i : Nat) (b : List UInt8) (n : Nat), (tk srcM F s i b n).2.1 = 0 → (tk srcM F s i b n).1 ++ (tk srcM F s i b n).2.2.1.left = b ++ s.left
  | 0, s, i, b, n, _ => rfl
  | F + 1, s, i, b, n, h => by
    revert h
    unfold tk
    split
    · intro _; rfl
    split
    · intro h; exact absurd h (by simp)
    split
    · intro _; exact tkB_txt s b n
    split
    · intro h; exact absurd h (by simp)
    split
    · rename_i h1; intro h; exact absurd h h1
    split
    · intro h; exact absurd h (by simp)
    · intro h; rw [tk_txt F _ _ _ _ h]; exact tkB_txt s b n
theorem src_err (s : Src) (n : Nat) : s.err n = 0 ∨ s.err n = 31 ∨ s.err n = 32 := by unfold Src.err; split <;> (try split) <;> (try split) <;> simp
theorem tk_over : ∀ (F : Nat) (s : Src) (i : Nat), (tk srcM F s i [] 1).2.1 = 41 → s.left = []
  | 0, s, i, h => by exact absurd h (by show (0 : Int) ≠ 41; decide)
  | F + 1, s, i, h => by
    revert h
    unfold tk
    split
    · intro h; exact absurd h (by show (0 : Int) ≠ 41; decide)
    split
    · intro h; exact absurd h (by simp)
    rename_i hbad
    split
    · intro h; exact absurd h (by show (0 : Int) ≠ 41; decide)
    rename_i hl
    have hlen := tkB_len (R := srcM) (s := s) (b := []) (n := 1) rfl hbad
    have hg := src_lay s (askN 1 ([] : List UInt8).length)
    have h0 : ¬ 0 < srcM.num s (askN 1 ([] : List UInt8).length) := by
      have e1 : askN 1 ([] : List UInt8).length = 1 := rfl
      rw [e1] at hbad hlen ⊢
      simp only [List.length_nil] at hlen
      omega
    have hn : (srcM.num s (askN 1 ([] : List UInt8).length)).toNat = 0 := by omega
    rw [hn, List.take_zero, List.nil_append] at hg
    split
    · rename_i h31
      intro _
      rw [← hg]
      have he : ((s.err (askN 1 ([] : List UInt8).length) : Nat) : Int) = 31 := h31
      have he : s.err (askN 1 ([] : List UInt8).length) = 31 := by omega
      show s.rest _ = []
      unfold Src.err at he
      split at he
      · cases he
      · rename_i hb
        unfold Src.rest
        rw [if_neg hb]
        split at he
        · rename_i h; rw [h]; exact List.drop_nil
        · split at he
          · rename_i h; exact h.2
          · cases he
    rename_i h31
    split
    · intro h
      have : s.err (askN 1 ([] : List UInt8).length) = 0 ∨ s.err (askN 1 ([] : List UInt8).length) = 31 ∨ s.err (askN 1 ([] : List UInt8).length) = 32 := src_err _ _
      have h : ((s.err (askN 1 ([] : List UInt8).length) : Nat) : Int) = 41 := h
      omega
    split
    · intro h; exact absurd h (by simp)
    · intro h
      have hb : tkB srcM s [] 1 = [] := List.eq_nil_of_length_eq_zero (by rw [hlen, hn]; rfl)
      rw [hb] at h
      rw [← hg]; exact tk_over F _ _ h
section
variable {L Bd : Nat} {M : Int} {c : CIn Src}
theorem bytesM_txt {n : Int} (h : (bytesM srcM M n c).2.1 = 0) : txt c = (bytesM srcM M n c).1 ++ txt (bytesM srcM M n c).2.2 ∧ (bytesM srcM M n c).2.2.pl = c.pl + n.toNat := by
  revert h
  unfold bytesM
  split
  · rename_i h1; intro h; exact absurd h h1
  split
  · intro h; exact absurd h (by simp)
  split
  · intro h; exact absurd h (by simp)
  split
  · rename_i h1; intro _; subst h1; exact ⟨rfl, rfl⟩
  split
  · rename_i h1; intro _
    refine ⟨?_, rfl⟩
    have := tk_txt _ _ _ _ _ h1
    unfold txt
    dsimp only
    rw [List.nil_append, this]
  · rename_i h1; intro h; exact absurd h h1
theorem byteM_txt (hO : OkayC srcM (SrcR L) mxI Bd c) (h : (byteM srcM mxI c).2.1 = 0) : txt c = (byteM srcM mxI c).1 :: txt (byteM srcM mxI c).2.2 ∧ (byteM srcM mxI c).2.2.pl = c.pl + 1 := by
  have q := (hO.bytes (n := 1) src_muR (src_leR L)).2.1
  obtain ⟨h1, h2⟩ := bytesM_txt (M := mxI) (n := 1) (c := c) h
  have hl := (q h).2
  refine ⟨?_, h2⟩
  show txt c = (bytesM srcM mxI 1 c).1.headD 0 :: txt (bytesM srcM mxI 1 c).2.2
  rw [h1]
  obtain ⟨x, hx⟩ : ∃ x, (bytesM srcM mxI 1 c).1 = [x] := List.length_eq_one_iff.1 hl
  rw [hx]; rfl
theorem numG_txt {a : Nat} : ∀ (F Bd : Nat) (c : CIn Src) (n : Nat) (bs : List UInt8), OkayC srcM (SrcR L) mxI Bd c → Inv bs n 0 → bs.length + F = 11 → (numG srcM mxI a F c n 0 bs).2.1 = 0 →
    ∃ t, txt c = t ++ txt (numG srcM mxI a F c n 0 bs).2.2 ∧ rd (bs ++ t) 0 0 = ((numG srcM mxI a F c n 0 bs).1, (bs ++ t).length, 0) ∧ (numG srcM mxI a F c n 0 bs).2.2.pl = c.pl + t.length := by
  intro F
  induction F with
  | zero => intro Bd c n bs _ hi hl; have := hi.len; omega
  | succ F ih =>
    intro Bd c n bs hO hi hl h
    have hT := byteM_txt hO
    have hO2 := hO.byte src_muR (src_leR L)
    obtain ⟨⟨x, e, c1⟩, hX⟩ : ∃ X, byteM srcM mxI c = X := ⟨_, rfl⟩
    rw [hX] at hT hO2
    dsimp only at hT hO2
    revert h
    unfold numG
    rw [hX]
    dsimp only
    split
    · rename_i h1; intro h; exact absurd h h1
    rename_i h1
    obtain ⟨t1, t2⟩ := hT (Classical.not_not.1 h1)
    obtain ⟨⟨d, er, n2, s2, b2⟩, hq⟩ : ∃ X, tq 0 n bs x = X := ⟨_, rfl⟩
    have hst := hi.step x hq
    rw [hq]
    dsimp only
    have hb2 : b2 = bs ++ [x] ∧ (d = true → s2 = 1) ∧ (er = 0 → d = false → s2 = 0) := by
      unfold tq at hq
      rw [if_neg (by decide)] at hq
      split at hq
      · cases hq; exact ⟨rfl, (fun h => by cases h), (fun h => by cases h)⟩
      split at hq
      · cases hq; exact ⟨rfl, (fun h => by cases h), (fun h => by cases h)⟩
      · cases hq
        refine ⟨rfl, fun h => if_pos (of_decide_eq_true h), fun _ h => if_neg (of_decide_eq_false h)⟩
    obtain ⟨rfl, hd1, hd0⟩ := hb2
    split
    · rename_i h2; intro h; exact absurd h (by simpa using h2)
    rename_i h2
    split
    · rename_i h3
      intro _
      have hs := hd1 h3
      subst hs
      have hr : rd (bs ++ [x]) 0 0 = (n2, (bs ++ [x]).length, 0) := by
        rcases hst with h | h | h
        · omega
        · exact h.2.2
        · omega
      exact ⟨[x], by rw [t1]; rfl, hr, by rw [t2]; rfl⟩
    · rename_i h3
      have hs := hd0 (by simpa using h2) (by simpa using h3)
      subst hs
      intro h
      obtain ⟨t, u1, u2, u3⟩ := ih (Bd + 32) c1 n2 (bs ++ [x]) hO2 hst (by simp; omega) h
      refine ⟨x :: t, by rw [t1, u1]; rfl, ?_, by rw [u3, t2]; simp; omega⟩
      have : bs ++ x :: t = bs ++ [x] ++ t := by simp
      rw [this]; exact u2
theorem numM_txt (hO : OkayC srcM (SrcR L) mxI Bd c) (h : (numM srcM mxI c).2.1 = 0) : txt c = vb (numM srcM mxI c).1 ++ txt (numM srcM mxI c).2.2 ∧ (numM srcM mxI c).2.2.pl = c.pl + (vb (numM srcM mxI c).1).length := by
  obtain ⟨t, h1, h2, h3⟩ := numG_txt (a := c.pl) 11 Bd c 0 [] hO Inv.start rfl h
  rw [List.nil_append] at h2
  obtain ⟨_, h4, _⟩ := rd_vbs h2
  rw [List.take_length] at h4
  subst h4
  exact ⟨h1, h3⟩
theorem openE_four {b x : List UInt8} (hl : x.length = 4) (h : openE (b ++ x) = 0) : x = four (sum b) := by
  unfold openE at h
  rw [if_neg (by simp; omega)] at h
  have e : (b ++ x).length - 4 = b.length := by simp; omega
  rw [e, List.take_left, List.drop_left] at h
  split at h
  · rename_i h1; exact h1.symm
  · cases h
theorem bodyM_txt {n : Nat} (hO : OkayC srcM (SrcR L) mxI Bd c) (h : (bodyM mxI c n).2.1 = 0) :
    txt c = (bodyM mxI c n).1 ++ (four (sum (bodyM mxI c n).1) ++ txt (bodyM mxI c n).2.2.2) ∧ (bodyM mxI c n).2.2.2.pl = c.pl + n + 4 := by
  have q := (hO.bytes (n := (n : Int)) src_muR (src_leR L))
  have t1 := bytesM_txt (M := mxI) (n := (n : Int)) (c := c)
  revert h
  unfold bodyM bdB
  split
  · rename_i h1; intro h; exact absurd h h1
  rename_i h1
  obtain ⟨u1, u2⟩ := t1 (Classical.not_not.1 h1)
  have q2 := (q.1.bytes (n := 4) src_muR (src_leR L)).2.1
  have t2 := bytesM_txt (M := mxI) (n := 4) (c := (bytesM srcM mxI (n : Int) c).2.2)
  unfold bdS
  split
  · rename_i h2; intro h; exact absurd h h2
  rename_i h2
  obtain ⟨v1, v2⟩ := t2 (Classical.not_not.1 h2)
  have hl := (q2 (Classical.not_not.1 h2)).2
  split
  · rename_i h3; intro h; exact absurd h h3
  rename_i h3
  intro _
  have hf := openE_four hl (Classical.not_not.1 h3)
  dsimp only
  refine ⟨?_, by rw [v2, u2]; rfl⟩
  rw [← hf, u1, ← v1]
theorem endM_txt (h0 : (endM srcM c).1 = true) (h : (endM srcM c).2.1 = 0) : txt c = [] := by
  revert h0 h
  unfold endM
  split
  · intro h; cases h
  split
  · intro h; cases h
  rename_i h2
  have h2 : c.held = [] := Classical.not_not.1 h2
  split
  · intro h; cases h
  split
  · rename_i h3; intro _ _
    unfold txt; rw [h2, tk_over _ _ _ h3]; rfl
  · intro h; cases h
end
theorem dif_none : ∀ {a b : List UInt8}, a.length = b.length → dif a b = none → a = b
  | [], [], _, _ => rfl
  | [], _ :: _, h, _ => by simp at h
  | _ :: _, [], h, _ => by simp at h
  | x :: r, y :: t, h, hd => by
    unfold dif at hd
    split at hd
    · cases hd
    · rename_i h1
      have h1 : x = y := Classical.not_not.1 h1
      subst h1
      have : dif r t = none := by cases hh : dif r t with | none => rfl | some k => rw [hh] at hd; cases hd
      rw [dif_none (by simpa using h) this]
/-- a frame that yields a block -/
structure One (s : RS) (l : List Ent) (s' : RS) : Prop where
  t : txt s.c = blkf l ++ txt s'.c
  ph : s'.ph = 1
  er : s'.er = s.er
  rows : s'.rows = s.rows ++ [(lastK l, (s.c.pl : Int), ((blkf l).length : Int), (l.length : Int))]
  pl : s'.c.pl = s.c.pl + (blkf l).length
  n : 1 ≤ l.length ∧ l.length ≤ 64
  srt : (srt l).2 = 0
  many : s.rows.length ≠ 8388608
  up : ¬ (0 < s.rows.length ∧ 0 ≤ cmp (lastR s.rows) (frst l))
/-- what a frame is: a block's, or it ends -/
def Frm (s : RS) (X : RX) : Prop := (X.1.2 = true → One s X.1.1 X.2) ∧ (X.1.2 = false → s.er = 0 → X.2.er = 0 → txt s.c = frm 70 (fbs s.rows) ++ tailB s.c.pl ∧ X.2.rows = s.rows)
theorem Frm.fail {s s0 : RS} (c : CIn Src) {e : Int} (p : Nat) (he : e ≠ 0) : Frm s (s0.fail c e p) := ⟨fun h => (by cases h), fun _ _ h => absurd h he⟩
theorem frM_frm {L Bd : Nat} {s : RS} (h : OkayC srcM (SrcR L) mxI Bd s.c) : Frm s (frM mxI s) := by
  unfold frM
  have n1 := Nr.byte h
  have r1 := byteM_er (M := mxI) (c := s.c)
  have T1 := byteM_txt h
  obtain ⟨⟨kd, e1, k1⟩, hX1⟩ : ∃ X, byteM srcM mxI s.c = X := ⟨_, rfl⟩
  rw [hX1] at n1 r1 T1 ⊢
  dsimp only at n1 r1 T1
  unfold frK
  split
  · rename_i h1; exact .fail _ _ h1
  rename_i h1
  obtain ⟨t1, p1⟩ := T1 (Classical.not_not.1 h1)
  have n2 := n1.trans (Nr.num n1.ok (r1 (Classical.not_not.1 h1)))
  have T2 := numM_txt n1.ok
  obtain ⟨⟨nn, e2, k2⟩, hX2⟩ : ∃ X, numM srcM mxI k1 = X := ⟨_, rfl⟩
  dsimp only
  rw [hX2] at n2 T2 ⊢
  dsimp only at n2 T2
  split
  · rename_i hk
    have hk : kd = 70 := hk
    subst hk
    unfold ftN
    split
    · rename_i h2; exact .fail _ _ h2
    rename_i h2
    obtain ⟨t2, p2⟩ := T2 (Classical.not_not.1 h2)
    split
    · exact .fail _ _ (by decide)
    rename_i hn
    have hn : nn = (fbs s.rows).length := Classical.not_not.1 hn
    have n3 := n2.trans (Nr.body n2.ok (fbs s.rows).length)
    have T3 := bodyM_txt (n := (fbs s.rows).length) n2.ok
    have l3 := bodyM_len (n := (fbs s.rows).length) n2.ok
    dsimp only
    obtain ⟨⟨b3, e3, p3, k3⟩, hX3⟩ : ∃ X, bodyM mxI k2 (fbs s.rows).length = X := ⟨_, rfl⟩
    rw [hX3] at n3 T3 l3 ⊢
    dsimp only at n3 T3 l3
    unfold ftD
    split
    · rename_i h3; exact .fail _ _ h3
    rename_i h3
    obtain ⟨t3, pl3⟩ := T3 (Classical.not_not.1 h3)
    split
    · exact .fail _ _ (by decide)
    rename_i hd
    have hb := dif_none (l3 (Classical.not_not.1 h3)) hd
    have T4 := bytesM_txt (M := mxI) (n := 12) (c := k3)
    dsimp only
    obtain ⟨⟨t, e4, k4⟩, hX4⟩ : ∃ X, bytesM srcM mxI 12 k3 = X := ⟨_, rfl⟩
    rw [hX4] at T4 ⊢
    dsimp only at T4
    unfold ftT
    split
    · rename_i h4; exact .fail _ _ h4
    rename_i h4
    obtain ⟨t4, p4⟩ := T4 (Classical.not_not.1 h4)
    split
    · exact .fail _ _ (by decide)
    rename_i h5
    have h5 : t = tailB s.c.pl := Classical.not_not.1 h5
    dsimp only
    have T5 := endM_txt (c := k4)
    obtain ⟨⟨ov, e5, k5⟩, hX5⟩ : ∃ X, endM srcM k4 = X := ⟨_, rfl⟩
    rw [hX5] at T5 ⊢
    dsimp only at T5
    unfold ftE
    split
    · rename_i h6; exact .fail _ _ h6
    rename_i h6
    split
    · exact .fail _ _ (by decide)
    rename_i h7
    have t5 := T5 (by simpa using h7) (Classical.not_not.1 h6)
    refine ⟨fun h => (by cases h), fun _ _ _ => ⟨?_, rfl⟩⟩
    rw [t1, t2, t3, t4, t5, hn, hb, h5]
    unfold frm
    simp
  rename_i hk
  split
  · exact .fail _ _ (by decide)
  rename_i hk2
  have hk2 : kd = 66 := Classical.not_not.1 hk2
  subst hk2
  split
  · exact .fail _ _ (by decide)
  rename_i hmany
  unfold frN
  split
  · rename_i h2; exact .fail _ _ h2
  rename_i h2
  obtain ⟨t2, p2⟩ := T2 (Classical.not_not.1 h2)
  split
  · exact .fail _ _ (by decide)
  rename_i hn
  have T3 := bodyM_txt (n := nn) n2.ok
  have l3 := bodyM_len (n := nn) n2.ok
  dsimp only at hn ⊢
  obtain ⟨⟨b3, e3, p3, k3⟩, hX3⟩ : ∃ X, bodyM mxI k2 nn = X := ⟨_, rfl⟩
  rw [hX3] at T3 l3 ⊢
  dsimp only at T3 l3
  unfold frD
  split
  · rename_i h3; exact .fail _ _ h3
  rename_i h3
  obtain ⟨t3, pl3⟩ := T3 (Classical.not_not.1 h3)
  have l3 := l3 (Classical.not_not.1 h3)
  unfold frL
  dsimp only
  split
  · rename_i h4; exact .fail _ _ h4
  rename_i h4
  split
  · exact .fail _ _ (by decide)
  rename_i hup
  obtain ⟨⟨l, q, e5⟩, hX5⟩ : ∃ X, bread b3 = X := ⟨_, rfl⟩
  rw [hX5] at h4 hup ⊢
  obtain rfl : e5 = 0 := Classical.not_not.1 h4
  obtain ⟨g1, g2, g3⟩ := bread_back (by rw [l3]; omega) hX5
  have hlen : (blkf l).length = 1 + (vb nn).length + nn + 4 := by
    unfold blkf
    rw [frm_len, g3, l3]; omega
  have hpl : k3.pl = s.c.pl + (blkf l).length := by rw [pl3, p2, p1, hlen]; omega
  refine ⟨fun _ => ⟨?_, rfl, rfl, ?_, hpl, ⟨by show 1 ≤ l.length; omega, by show l.length ≤ 64; omega⟩, g2, hmany, hup⟩, fun h => (by cases h)⟩
  · rw [t1, t2, t3]
    show _ = frm 66 (bld l) ++ txt k3
    unfold frm
    rw [g3, l3]
    simp
  · show s.rows ++ [(lastK l, (s.c.pl : Int), (k3.pl : Int) - (s.c.pl : Int), (l.length : Int))] = _
    have e : (k3.pl : Int) - (s.c.pl : Int) = ((blkf l).length : Int) := by rw [hpl]; push_cast; omega
    rw [e]

/-- a reader that has read the blocks L of b -/
structure On (b : List UInt8) (L : List (List Ent)) (s : RS) : Prop where
  er : s.er = 0
  rows : s.rows = rowsL L
  st : (s.ph = 0 ∧ L = [] ∧ txt s.c = b) ∨ (s.ph = 1 ∧ b = headB ++ (outL L ++ txt s.c) ∧ s.c.pl = endL L)
  ok : OkL L
theorem On.zero (b : List UInt8) (gs : List Int) (f : Int) (eager : Bool) : On b [] (RS0 ⟨gs, f, 0, b, eager⟩) := ⟨rfl, rfl, .inl ⟨rfl, rfl, rfl⟩, fun l h => by simp at h⟩
/-- the next block goes behind -/
def Nxt1 (L : List (List Ent)) (l : List Ent) : Prop := (1 ≤ l.length ∧ l.length ≤ 64) ∧ (srt l).2 = 0 ∧ L.length < 8388608 ∧ ¬ (0 < L.length ∧ 0 ≤ cmp (lastR (rowsL L)) (frst l))
theorem On.next {b : List UInt8} {L : List (List Ent)} {s : RS} {n : Nat} (h : On b L s) (hk : s.Ok n) :
    ((nxM mxI s).1.2 = true → On b (L ++ [(nxM mxI s).1.1]) (nxM mxI s).2 ∧ Nxt1 L (nxM mxI s).1.1) ∧ ((nxM mxI s).1.2 = false → (nxM mxI s).2.er = 0 → b = headB ++ outL L ++ finB L) := by
  have hO := hk.ok.most (m' := mxI) (by decide)
  have hm := hk.many
  have main : ∀ (s1 : RS) (Bd : Nat), OkayC srcM (SrcR n) mxI Bd s1.c → s1.er = 0 → s1.rows = rowsL L → b = headB ++ (outL L ++ txt s1.c) → s1.c.pl = endL L →
      ((frM mxI s1).1.2 = true → On b (L ++ [(frM mxI s1).1.1]) (frM mxI s1).2 ∧ Nxt1 L (frM mxI s1).1.1) ∧ ((frM mxI s1).1.2 = false → (frM mxI s1).2.er = 0 → b = headB ++ outL L ++ finB L) := by
    intro s1 Bd hO1 he hr hb hp
    obtain ⟨f1, f2⟩ := frM_frm hO1
    refine ⟨fun ht => ?_, fun hf he2 => ?_⟩
    · have o := f1 ht
      have hlen : L.length = s1.rows.length := by rw [hr, rowsL_len]
      have hm' : s.rows.length = L.length := by rw [h.rows, rowsL_len]
      refine ⟨⟨by rw [o.er, he], by rw [o.rows, hr, hp, rowsL_snoc], .inr ⟨o.ph, ?_, ?_⟩, h.ok.snoc ⟨o.n.2, o.srt⟩ (by intro e; have := o.n.1; rw [e] at this; simp at this)⟩, o.n, o.srt, ?_, ?_⟩
      · rw [outL_snoc, hb, o.t]; simp
      · rw [o.pl, hp]; unfold endL; rw [outL_snoc, List.length_append]; omega
      · have := o.many; omega
      · have := o.up; rwa [hr, rowsL_len] at this
    · obtain ⟨t, _⟩ := f2 hf he he2
      rw [hb, t, hr, hp]
      unfold finB
      simp
  unfold nxM
  rcases h.st with ⟨h0, hL, ht⟩ | ⟨h1, hb, hp⟩
  · subst hL
    rw [if_pos h0]
    unfold hdM
    have n1 := Nr.bytes hO 8
    have T1 := bytesM_txt (M := mxI) (n := 8) (c := s.c)
    obtain ⟨⟨x, e1, k1⟩, hX1⟩ : ∃ X, bytesM srcM mxI 8 s.c = X := ⟨_, rfl⟩
    rw [hX1] at n1 T1 ⊢
    dsimp only at n1 T1
    unfold hdH
    split
    · rename_i h1; exact ⟨fun h => (by cases h), fun _ h => absurd h h1⟩
    rename_i h1
    obtain ⟨t1, p1⟩ := T1 (Classical.not_not.1 h1)
    split
    · exact ⟨fun h => (by cases h), fun _ h => absurd h (by show (81 : Int) ≠ 0; decide)⟩
    rename_i h2
    have h2 : x = headB := Classical.not_not.1 h2
    refine main { s with c := k1, ph := 1 } _ n1.ok h.er h.rows ?_ ?_
    · show b = headB ++ (outL [] ++ txt k1)
      rw [← ht, t1, h2]; rfl
    · show k1.pl = endL []
      rw [p1, hk.h0 h0]; rfl
  · rw [if_neg (by omega), if_pos h1]
    exact main s _ hO h.er h.rows hb hp
/-- entry by entry, a block -/
theorem takeM_blk {k : Nat} {s s1 s2 : RS} {es l : List Ent} (h : takeM k s [] = (es, s2, [], true)) (hx : nxM mxI s = ((l, true), s1)) (hl : l ≠ []) : ∃ es1, es = l ++ es1 ∧ takeM k s1 [] = (es1, s2, [], true) := by
  obtain ⟨e, t, rfl⟩ : ∃ e t, l = e :: t := by cases l with | nil => exact absurd rfl hl | cons e t => exact ⟨e, t, rfl⟩
  have h1 : takeM (t.length + 1) s [] = (e :: t, s1, [], false) := by
    rw [takeM_some (stepM_next hx), takeM_left t.length t (Nat.le_refl _), List.take_length, List.drop_length]
  have h2 := takeM_add k _ _ _ _ _ _ h1
  have h3 := takeM_more k (t.length + 1 + k) _ _ _ _ _ h (by omega)
  rw [h3] at h2
  obtain ⟨⟨es1, x⟩, hX⟩ : ∃ X, takeM k s1 [] = X := ⟨_, rfl⟩
  rw [hX] at h2
  dsimp only at h2
  injection h2 with q1 q2
  exact ⟨es1, q1, by rw [hX, ← q2]⟩
theorem takeM_end {k : Nat} {s s1 s2 : RS} {es l : List Ent} (h : takeM k s [] = (es, s2, [], true)) (hx : nxM mxI s = ((l, false), s1)) : es = [] ∧ s2 = s1 := by
  obtain ⟨j, rfl⟩ : ∃ j, k = j + 1 := by cases k with | zero => cases h | succ j => exact ⟨j, rfl⟩
  rw [takeM_none (stepM_end hx)] at h
  injection h with q1 q2
  injection q2 with q2 q3
  exact ⟨q1.symm, q2.symm⟩
end Go.Proofs.Ytljcogimeimknaa
