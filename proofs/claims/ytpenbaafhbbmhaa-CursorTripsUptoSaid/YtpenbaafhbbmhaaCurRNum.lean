/- The document's In: Byte, End, Number: contracts over any reader of the document's. Conditions: numbers and what is taken within reach. -/
import Derived.Test.YtpenbaafhbbmhaaCurRIn2
import Derived.Test.YtpenbaafhbbmhaaCurRTk
import Derived.Test.YtpenbaafhbbmhaaCurNum
namespace Go.Proofs.Ytpenbaafhbbmhaa
open Go.RowKit Go.Shelf
set_option maxRecDepth 100000
set_option linter.unusedVariables false
set_option linter.unusedSimpArgs false

section
variable {σ : Type} {R : Rm σ} {v : Value} {lo Br : Nat} {St : σ → (Nat → Prop) → World → Prop}
variable {g : Nat} {most : Int} {c : CIn σ} {S : Nat → Prop} {w : World}
theorem RIn.set_pl (RL : RdrL R v lo Br St) {Sr : Nat → Prop} {hv : Value} (h : RIn St lo g most v c S Sr hv w) (k : Nat) : RIn St lo g most v { c with pl := k } S Sr hv (w.setCell ⟨g, 2, none⟩ (.int .i64 (k : Nat))) where
  io := h.io.s2 k
  ow := h.ow.turns (setT w 2 _) fun j hj e => (h.hs j hj).2.2 e
  st := RL.frame _ _ _ _ _ h.st (setT w 2 _) (fun j hj e => by have e : j = g := e; subst e; exact h.ng hj) (fun j e => by have e : j = g := e; subst e; exact (h.inS _ h.sg).1)
  sr := h.sr
  sg := h.sg
  ng := h.ng
  hs := h.hs
  inS j hj := by have := h.inS j hj; simpa using this
theorem RIn.set_er (RL : RdrL R v lo Br St) {Sr : Nat → Prop} {hv : Value} (h : RIn St lo g most v c S Sr hv w) (e : Int) : RIn St lo g most v { c with er := e } S Sr hv (w.setCell ⟨g, 3, none⟩ (.int .i64 e)) where
  io := h.io.s3 e
  ow := h.ow.turns (setT w 3 _) fun j hj e => (h.hs j hj).2.2 e
  st := RL.frame _ _ _ _ _ h.st (setT w 3 _) (fun j hj e => by have e : j = g := e; subst e; exact h.ng hj) (fun j e => by have e : j = g := e; subst e; exact (h.inS _ h.sg).1)
  sr := h.sr
  sg := h.sg
  ng := h.ng
  hs := h.hs
  inS j hj := by have := h.inS j hj; simpa using this
/-- behind Byte of the document's -/
def RBytePost (St : σ → (Nat → Prop) → World → Prop) (X : UInt8 × Int × CIn σ) (S : Nat → Prop) (lo g : Nat) (most : Int) (v : Value) (w : World) (r : Ending) (w' : World) : Prop :=
  r = .returned (.tuple #[.int .u8 (B X.1), .int .i64 X.2.1]) ∧ RAns St lo g most v S w X.2.2 w'
set_option maxHeartbeats 2000000 in
theorem rbyte_any (RL : RdrL R v lo Br St) (hmu : ∀ s n, R.mu (R.nxt s n) ≤ R.mu s)
    (g : Nat) (most : Int) (c : CIn σ) (S : Nat → Prop) (w : World) (P : σ → Prop) (hP : ∀ s n, P s → P (R.nxt s n)) (Bd : Nat) (hO : Okay R P most Bd c) (hI : RObj St lo g most v c S w) (hm : most ≤ 9223372036854775807) (hc : Bd + 32 ≤ Br) :
    Calls Try.prog 34 #[.pointer (some ⟨g, 0, none⟩)] w (RBytePost St (byteM R most c) S lo g most v w) := by
  have BY := Lib.hid (rbytes_any RL hmu g most 1 c S w P hP Bd hO hI (by omega) hm hc (fun _ _ => .inl (by decide)))
  obtain ⟨-, k1, k2⟩ := hO.bytes (n := 1) hmu hP
  unfold byteM
  obtain ⟨⟨b, e, c'⟩, hX⟩ : ∃ X, bytesM R most 1 c = X := ⟨_, rfl⟩
  rw [hX] at BY k1 k2 ⊢
  dsimp only at k1 k2 ⊢
  clear hX hI hO
  go_enter Try.func34, Try.ntmps34
  go_wp2_with fail
  refine BY.out.mono ?_
  rintro r w2 ⟨bv, rfl, ho, hA⟩
  have A := Lib.hid hA
  dsimp only at ho ⊢
  by_cases h0 : e = 0
  · obtain ⟨x, rfl⟩ : ∃ x, b = [x] := by
      have := (k1 h0).2
      match b, this with
      | [x], _ => exact ⟨x, rfl⟩
    subst h0
    obtain ⟨ab, nb, cb, rfl, hs⟩ := ho.slN
    obtain rfl : 1 = nb := hs.len
    obtain ⟨b1, o1, rfl, hcell⟩ := hs.2.2.2 0 x rfl
    have hcell : w2.cell? ⟨b1, o1, none⟩ = some (.int .u8 (B x)) := hcell
    clear hA ho hs k1 k2
    go_wp2_with fail
    go_ret2
    exact ⟨rfl, A.out⟩
  · obtain rfl := k2 h0
    have t4 : (e != 0) = true := by rw [bne_iff_ne]; exact h0
    clear hA ho k1 k2 h0
    go_wp2_with fail
    go_ret2
    exact ⟨rfl, A.out⟩
/-- behind End of the document's -/
def REndPost (St : σ → (Nat → Prop) → World → Prop) (X : Bool × Int × CIn σ) (S : Nat → Prop) (lo g : Nat) (most : Int) (v : Value) (w : World) (r : Ending) (w' : World) : Prop :=
  r = .returned (.tuple #[.bool X.1, .int .i64 X.2.1]) ∧ RAns St lo g most v S w X.2.2 w'
set_option maxHeartbeats 4000000 in
theorem rend_any (RL : RdrL R v lo Br St) (hmu : ∀ s n, R.mu (R.nxt s n) ≤ R.mu s)
    (g : Nat) (most : Int) (c : CIn σ) (S : Nat → Prop) (w : World) (P : σ → Prop) (hP : ∀ s n, P s → P (R.nxt s n)) (Bd : Nat) (hO : Okay R P most Bd c) (hI : RObj St lo g most v c S w) (hc : Bd + 32 ≤ Br) :
    Calls Try.prog 38 #[.pointer (some ⟨g, 0, none⟩)] w (REndPost St (endM R c) S lo g most v w) := by
  obtain ⟨X, hX⟩ : ∃ X, endM R c = X := ⟨_, rfl⟩
  rw [hX]
  have SAME := Lib.hid (fun (W : World) (hW : Below w.heap.size w W) => RAns.same RL hI hW)
  obtain ⟨Sr, hv, hR⟩ := hI
  have c3 := hR.io.c3
  have c4 := hR.io.c4
  have RI := Lib.hid hR
  have HX := Lib.hid hX
  have HO := Lib.hid hO
  have hlg := (hR.inS g hR.sg).1
  obtain ⟨ah, ch, hhv, hsh⟩ := hR.ow.slB
  subst hhv
  clear hX hR hO
  by_cases he : c.er ≠ 0
  · have XE := Lib.hid (show X = (false, c.er, c) by rw [← HX.out]; exact end_er he)
    have t1 : (c.er != 0) = true := by rw [bne_iff_ne]; exact he
    clear he c4
    go_enter Try.func38, Try.ntmps38
    go_wp2_with fail
    go_quiet (fail)
    go_wp2_with fail
    go_ret2
    rw [XE.out]
    exact ⟨rfl, SAME.out _ (keep_drewN (Below.refl _ _) _)⟩
  have he : c.er = 0 := by simpa using he
  have t1 : (c.er != 0) = false := by rw [bne_eq_false_iff_eq]; exact he
  by_cases hhe : c.held ≠ []
  · have XE := Lib.hid (show X = (false, 0, c) by rw [← HX.out]; exact end_held he hhe)
    have hl : 0 < c.held.length := List.length_pos_iff.2 hhe
    obtain ⟨L, hL⟩ : ∃ L, c.held.length = L := ⟨_, rfl⟩
    rw [hL] at hl c4
    have t2 : decide ((L : Int) > 0) = true := decide_eq_true (by omega)
    have t2' : decide (0 < L) = true := decide_eq_true hl
    clear he hhe hL
    go_enter Try.func38, Try.ntmps38
    go_wp2_with fail
    go_ret2
    rw [XE.out]
    exact ⟨rfl, SAME.out _ (Below.refl _ _)⟩
  have hhe : c.held = [] := by simpa using hhe
  obtain ⟨⟨b, e, s', i'⟩, hK⟩ : ∃ Y, tk R (R.mu c.s * 17 + 17) c.s c.idle c.held 1 = Y := ⟨_, rfl⟩
  have XE := Lib.hid (show X = if e = 0 then (false, 0, ⟨s', c.pl, 0, i', b⟩) else if e = 41 then (true, 0, ⟨s', c.pl, 0, i', []⟩) else (false, e, ⟨s', c.pl, e, i', []⟩) by rw [← HX.out]; exact end_take he hhe (by rw [← hhe]; exact hK))
  have hid := HO.out.idle he
  have hbu := HO.out.bud
  have WT := (rwant_any RL hmu g most c.pl c.er c.s Sr c.idle c.held _ 1 w RI.out.io RI.out.ow (fun j hj => (RI.out.hs j hj).2) RI.out.st RI.out.ng hlg HO.out.held (Nat.le_refl _) (by omega) hid (by omega) (.inl (by decide)))
  rw [hK] at WT
  have WTH := Lib.hid WT
  have HCE := Lib.hid he
  rw [hhe] at c4
  have c4' : w.cell? ⟨g, 4, none⟩ = some (.slice ah 0 ch) := c4
  clear WT hK hhe c4 he
  go_enter Try.func38, Try.ntmps38
  go_wp2_with fail
  refine WTH.out.mono ?_
  rintro r w2 ⟨bv, S2, b', rfl, hb', ho, hio, hst, hsub, hdis, htu⟩
  dsimp only at hb' hio hst ⊢
  obtain ⟨ab, nb, cb, rfl, -⟩ := ho.slN
  have ng2 : ¬ S2 g := fun h => by rcases hsub g h with e | e; (exact RI.out.ng e); (have := RI.out.io.lt; omega)
  have TU2 := Lib.hid (show Turns S w w2 from htu.mono fun j hj e => by
    rcases e with e | e | e
    · exact RI.out.sr j e
    · subst e; exact RI.out.sg
    · exact (RI.out.hs j e).1)
  have SUB := Lib.hid (show ∀ j, (S2 j ∨ j = g) → S j ∨ w.heap.size ≤ j from fun j hj => by
    rcases hj with hj | hj
    · rcases hsub j hj with e | e
      · exact .inl (RI.out.sr j e)
      · exact .inr e
    · subst hj; exact .inl RI.out.sg)
  have INS := Lib.hid (show ∀ j, (S2 j ∨ j = g) → lo ≤ j ∧ j < w2.heap.size from fun j hj => by
    rcases hj with hj | hj
    · exact RL.inS _ _ _ hst j hj
    · subst hj; exact ⟨hlg, hio.lt⟩)
  have BASE := Lib.hid (show RIn St lo g most v ⟨s', c.pl, 0, i', []⟩ (fun j => S2 j ∨ j = g) S2 (.slice none 0 0) w2 from
    { io := by have := hio; rw [HCE.out] at this; exact this, ow := OwT.nil _ _ _ _, st := hst, sr := fun j hj => .inl hj, sg := .inr rfl, ng := ng2, hs := fun j e => (by cases e), inS := INS.out })
  have O2 := Lib.hid ho
  have DIS := Lib.hid hdis
  have hol := ho.lt
  have HOL := Lib.hid hol
  have HB := Lib.hid hb'
  have d3 := BASE.out.io.c3
  have f3 := BASE.out.io.free 3
  have d4 := BASE.out.io.c4
  have f4 := BASE.out.io.free 4
  clear ho hio hst hsub hdis htu ng2 WTH hol hb'
  by_cases h41 : e = 41
  · have t5 : (e == 41) = true := by rw [beq_iff_eq]; exact h41
    have XF := Lib.hid (show X = (true, 0, ⟨s', c.pl, 0, i', []⟩) by rw [XE.out, if_neg (by omega), if_pos h41])
    clear h41
    go_wp2_with fail
    go_ret2
    rw [XF.out]
    exact ⟨rfl, _, ⟨_, _, BASE.out⟩, SUB.out, TU2.out⟩
  · have t5 : (e == 41) = false := by rw [beq_eq_false_iff_ne]; exact h41
    by_cases h0 : e = 0
    · have t6 : (e != 0) = false := by rw [bne_eq_false_iff_eq]; exact h0
      have hbb := HB.out h0
      have XF := Lib.hid (show X = (false, 0, ⟨s', c.pl, 0, i', b'⟩) by rw [XE.out, if_pos h0, hbb])
      have TT := setT (g := g) w2 4 (.slice ab nb cb)
      have FIN := Lib.hid (show RAns St lo g most v S w ⟨s', c.pl, 0, i', b'⟩ (w2.setCell ⟨g, 4, none⟩ (.slice ab nb cb)) from
        ⟨fun j => (S2 j ∨ j = g) ∨ Value.ownBlock (.slice ab nb cb) = some j, ⟨S2, .slice ab nb cb,
          { io := BASE.out.io.s4 _, ow := O2.out.turns TT fun j hj e => (DIS.out j hj).2.1 e, st := RL.frame _ _ _ _ _ BASE.out.st TT (fun j hj e => by have e : j = g := e; subst e; exact BASE.out.ng hj) (fun j e => by have e : j = g := e; omega), sr := fun j hj => .inl (.inl hj), sg := .inl (.inr rfl), ng := BASE.out.ng
            hs := fun j hj => ⟨.inr hj, (DIS.out j hj).1, (DIS.out j hj).2.1⟩
            inS := fun j hj => by
              rcases hj with hj | hj
              · have := INS.out j hj; simpa using this
              · have := HOL.out j hj; simpa using this }⟩, fun j hj => by
          rcases hj with hj | hj
          · exact SUB.out j hj
          · rcases (DIS.out j hj).2.2 with q | q
            · exact .inl (RI.out.hs j q).1
            · exact .inr q, TU2.out.trans TT fun j _ e => by have e : j = g := e; subst e; exact RI.out.sg⟩)
      clear h41 h0 hbb TT
      go_wp2_with fail
      go_ret2
      rw [XF.out]
      exact ⟨rfl, FIN.out⟩
    · have t6 : (e != 0) = true := by rw [bne_iff_ne]; exact h0
      have XF := Lib.hid (show X = (false, e, ⟨s', c.pl, e, i', []⟩) by rw [XE.out, if_neg h0, if_neg h41])
      have FIN := Lib.hid (show RAns St lo g most v S w ⟨s', c.pl, e, i', []⟩ (w2.setCell ⟨g, 3, none⟩ (.int .i64 e)) from
        ⟨_, ⟨_, _, BASE.out.set_er RL e⟩, SUB.out, TU2.out.trans (setT w2 3 _) fun j _ e => by have e : j = g := e; subst e; exact RI.out.sg⟩)
      clear h41 h0
      go_wp2_with fail
      go_ret2
      rw [XF.out]
      exact ⟨rfl, FIN.out⟩
/-- the document's taker in block gt -/
def Rt1 (w : World) (gt : Nat) (x : Value) (s : Nat) : Prop := Rt w gt (fun _ => x) (fun _ => s)
theorem rtk_any (gt base : Nat) (x : Value) (s n : Nat) (bs : List UInt8) (c : UInt8) (w : World) (d : Bool) (er n2 s2 : Nat) (b2 : List UInt8) (hq : tq s n bs c = (d, er, n2, s2, b2)) (hi : Inv bs n s) (hgb : gt < base) (hbw : base ≤ w.heap.size)
    (h : Rt1 w gt x s) (ho : OwT fB w base 5 x bs) :
    Calls Try.prog 50 #[.pointer (some ⟨gt, 0, none⟩), .int .u8 (B c)] w fun e w' => e = .returned (.tuple #[.bool d, .int .i64 er]) ∧ ∃ y, OwT fB w' base 5 y b2 ∧ Rt1 w' gt y s2 ∧ Turns (fun j => j = gt ∨ x.ownBlock = some j) w w' ∧ ∀ j, y.ownBlock = some j → x.ownBlock = some j ∨ w.heap.size ≤ j := by
  refine (qtake_any gt 0 base (fun _ => s) (fun _ => x) n bs c w d er n2 s2 b2 (by omega) hq hi hgb hbw h ho).mono ?_
  rintro e w' ⟨rfl, y, h1, h2, h3, h4⟩
  obtain ⟨k1, k2, k3, k4, k5⟩ := h3
  exact ⟨rfl, y, h1, h2, ⟨k1, k2, k3, k4, fun j hj hs => k5 j hj (fun e => hs (.inl e)) (fun e => hs (.inr e.symm))⟩, h4⟩
theorem rtn_any (gt base : Nat) (x : Value) (s n : Nat) (bs : List UInt8) (w : World) (hi : Inv bs n s) (h : Rt1 w gt x s) (ho : OwT fB w base 5 x bs) :
    Calls Try.prog 51 #[.pointer (some ⟨gt, 0, none⟩)] w fun e w' => e = .returned (.tuple #[.int .u64 (nv s n : Nat), .bool (decide (s = 1))]) ∧ w = w' :=
  qnumber_any gt 0 base (fun _ => s) (fun _ => x) n bs w (by omega) hi h ho
theorem Rt1.turns {T : Nat → Prop} {w w' : World} {gt s : Nat} {x : Value} (h : Rt1 w gt x s) (ht : Turns T w w') (hg : ¬ T gt) : Rt1 w' gt x s := ht.heap h hg
theorem Rt1.lt {w : World} {gt s : Nat} {x : Value} (h : Rt1 w gt x s) : gt < w.heap.size := Rt.lt h
/-- behind Number of the document's -/
def RNumPost (St : σ → (Nat → Prop) → World → Prop) (X : Nat × Int × CIn σ) (S : Nat → Prop) (lo g : Nat) (most : Int) (v : Value) (w : World) (r : Ending) (w' : World) : Prop :=
  r = .returned (.tuple #[.int .u64 (X.1 : Nat), .int .i64 X.2.1]) ∧ RAns St lo g most v S w X.2.2 w'
/-- in the midst of it -/
structure RNuM (R : Rm σ) (P : σ → Prop) (St : σ → (Nat → Prop) → World → Prop) (lo g : Nat) (most : Int) (v : Value) (w : World) (S0 : Nat → Prop) (X : Nat × Int × CIn σ) (at0 gt Bd F : Nat) (c : CIn σ) (n : Nat) (bs : List UInt8) (tv : Value) (S : Nat → Prop) (W : World) : Prop where
  eq : numG R most at0 F c n 0 bs = X
  ob : RObj St lo g most v c S W
  sub : ∀ j, S j → S0 j ∨ w.heap.size ≤ j
  tu : Turns S0 w W
  tk : Rt1 W gt tv 0
  ow : OwT fB W (gt + 1) 5 tv bs
  inv : Inv bs n 0
  fl : F + bs.length = 11
  ok : Okay R P most (Bd + 32 * bs.length) c
  nt : ¬ S gt
  no : ∀ j, tv.ownBlock = some j → ¬ S j
  hz : gt + 1 ≤ W.heap.size
set_option maxHeartbeats 4000000 in
theorem rnum_any (RL : RdrL R v lo Br St) (hmu : ∀ s n, R.mu (R.nxt s n) ≤ R.mu s)
    (g : Nat) (most : Int) (c : CIn σ) (S0 : Nat → Prop) (w : World) (P : σ → Prop) (hP : ∀ s n, P s → P (R.nxt s n)) (Bd : Nat) (hO : Okay R P most Bd c) (hI : RObj St lo g most v c S0 w) (hm : most ≤ 9223372036854775807) (hc : Bd + 400 ≤ Br) :
    Calls Try.prog 37 #[.pointer (some ⟨g, 0, none⟩)] w (RNumPost St (numM R most c) S0 lo g most v w) := by
  obtain ⟨X, hX⟩ : ∃ X, numM R most c = X := ⟨_, rfl⟩
  rw [hX]
  have SAME := Lib.hid (fun (W : World) (hW : Below w.heap.size w W) => RAns.same RL hI hW)
  have OB := Lib.hid hI
  obtain ⟨Sr, hv, hR⟩ := hI
  have c2 := hR.io.c2
  have c3 := hR.io.c3
  have lg := hR.io.lt
  have hlg := (hR.inS g hR.sg).1
  have SG := Lib.hid hR.sg
  have HX := Lib.hid hX
  have HO := Lib.hid hO
  obtain ⟨at0, hat⟩ : ∃ a, c.pl = a := ⟨_, rfl⟩
  have HAT := Lib.hid hat
  rw [hat] at c2
  clear hX hR hO hat
  by_cases he : c.er ≠ 0
  · have XE := Lib.hid (show X = (0, c.er, c) by
      have hb : byteM R most c = (0, c.er, c) := by unfold byteM; rw [bytes_er he]; rfl
      obtain ⟨⟨d, er, n2, s2, b2⟩, hq⟩ : ∃ Y, tq 0 0 [] (0 : UInt8) = Y := ⟨_, rfl⟩
      have h := numG_step (at0 := c.pl) (F := 10) hb hq
      rw [if_pos he] at h
      rw [← HX.out]
      exact h)
    have t1 : (c.er != 0) = true := by rw [bne_iff_ne]; exact he
    clear he c2
    go_enter Try.func37, Try.ntmps37
    go_wp2_with fail
    go_quiet (fail)
    go_wp2_with fail
    go_ret2
    rw [XE.out]
    exact ⟨rfl, SAME.out _ (keep_drewN (Below.refl _ _) _)⟩
  have he : c.er = 0 := by simpa using he
  have t1 : (c.er != 0) = false := by rw [bne_eq_false_iff_eq]; exact he
  clear he
  go_enter Try.func37, Try.ntmps37
  go_wp2_with fail
  obtain ⟨w1, hw1⟩ : ∃ V, w.alloc (.cells #[.slice none 0 0, .int .i64 0] 118) = V := ⟨_, rfl⟩
  have hb1 : Below w.heap.size w w1 := hw1 ▸ (Below.refl _ _).alloc (Nat.le_refl _) _
  have htk : Rt1 w1 w.heap.size (.slice none 0 0) 0 := hw1 ▸ heap_new w _
  have hz1 : w1.heap.size = w.heap.size + 1 := by rw [← hw1]; simp
  rw [hw1]
  have M0 := Lib.hid (show RNuM R P St lo g most v w S0 X at0 w.heap.size Bd 11 c 0 [] (.slice none 0 0) S0 w1 from
    { eq := by rw [← HX.out, ← HAT.out]; rfl
      ob := OB.out.turns RL (T := fun _ => False) (.of_below hb1) (fun _ _ e => e) (fun _ e => e.elim)
      sub := fun j hj => .inl hj, tu := .of_below hb1, tk := htk, ow := OwT.nil _ _ _ _, inv := .start, fl := rfl, ok := HO.out.mono (by omega), nt := fun h => by have := (OB.out.inS _ h).2; omega, no := fun j e => (by cases e), hz := by omega })
  clear htk hb1 c2 c3 hw1 hz1
  obtain ⟨gt, hgt⟩ : ∃ gt, w.heap.size = gt := ⟨_, rfl⟩
  rw [hgt] at M0 lg ⊢
  have HGT := Lib.hid hgt
  clear hgt
  go_wp2_with fail
  go_loopg [] 11 (fun F wr => ∃ c' n bs tv S, RNuM R P St lo g most v w S0 X at0 gt Bd F c' n bs tv S wr)
  case atStart => exact ⟨_, _, _, _, _, M0.out⟩
  case round =>
    obtain ⟨c', n, bs, tv, S, hM⟩ := hrel
    have M := Lib.hid hM
    clear hM M0
    have hbl : bs.length ≤ 9 := by
      rcases M.out.inv with h | h | h
      · exact h.2.1
      · exact absurd h.1 (by decide)
      · exact absurd h.1 (by decide)
    obtain ⟨F, hF⟩ : ∃ F, gk = F + 1 := ⟨gk - 1, by have := M.out.fl; omega⟩
    subst hF
    have BY := Lib.hid (rbyte_any RL hmu g most c' S wr P hP (Bd + 32 * bs.length) M.out.ok M.out.ob hm (by omega))
    have OKB := Lib.hid (M.out.ok.byte hmu hP)
    obtain ⟨⟨x, e, c2⟩, hX2⟩ : ∃ Y, byteM R most c' = Y := ⟨_, rfl⟩
    obtain ⟨⟨d, er, n2, s2, b2⟩, hq⟩ : ∃ Y, tq 0 n bs x = Y := ⟨_, rfl⟩
    have EQ := Lib.hid (show X = _ from M.out.eq.symm.trans (numG_step hX2 hq))
    rw [hX2] at BY OKB
    dsimp only at OKB
    have HQ := Lib.hid hq
    clear hX2 hq
    go_wp2_with fail
    refine BY.out.mono ?_
    rintro r w2 ⟨rfl, S2, hob, hsub, htu⟩
    dsimp only at hob ⊢
    have hwr := M.out.hz
    have hlo := M.out.ow.lt
    have SUB2 := Lib.hid (show ∀ j, S2 j → S0 j ∨ w.heap.size ≤ j from fun j hj => by
      rcases hsub j hj with q | q
      · exact M.out.sub j q
      · exact .inr (Nat.le_trans M.out.tu.size q))
    have TU2 := Lib.hid (M.out.tu.trans htu fun j hj q => by
      rcases M.out.sub j q with q | q
      · exact q
      · omega)
    have TK2 := Lib.hid (M.out.tk.turns htu M.out.nt)
    have OW2 := Lib.hid (M.out.ow.turns htu fun j hj => M.out.no j hj)
    have NT2 := Lib.hid (show ¬ S2 gt from fun h => by rcases hsub gt h with q | q; (exact M.out.nt q); (omega))
    have NO2 := Lib.hid (show ∀ j, tv.ownBlock = some j → ¬ S2 j from fun j hj h => by rcases hsub j h with q | q; (exact M.out.no j hj q); (have := (hlo j hj).2; omega))
    have hz2 : gt + 1 ≤ w2.heap.size := Nat.le_trans hwr htu.size
    have INV := Lib.hid M.out.inv
    have hfl := M.out.fl
    have OB2 := Lib.hid hob
    have INS2 := Lib.hid hob.inS
    clear hob hsub htu hlo BY M
    by_cases h0 : e = 0
    · subst h0
      have TKE := Lib.hid (rtk_any gt (gt + 1) tv 0 n bs x w2 d er n2 s2 b2 HQ.out INV.out (by omega) hz2 TK2.out OW2.out)
      go_wp2_with fail
      refine TKE.out.mono ?_
      rintro r w3 ⟨rfl, tv2, how, htk, htu3, hown⟩
      have hlo2 := OW2.out.lt
      have OB3 := Lib.hid (OB2.out.turns RL htu3 (fun j hj e => by rcases e with e | e; (subst e; exact NT2.out hj); (exact NO2.out j e hj)) (fun j e => by rcases e with e | e; (omega); (have := (hlo2 j e).1; omega)))
      have TU3 := Lib.hid (TU2.out.trans htu3 fun j hj e => by have := HGT.out; rcases e with e | e; (omega); (have := (hlo2 j e).1; omega))
      have OW3 := Lib.hid how
      have TK3 := Lib.hid htk
      have NO3 := Lib.hid (show ∀ j, tv2.ownBlock = some j → ¬ S2 j from fun j hj h => by rcases hown j hj with q | q; (exact NO2.out j q h); (have := (INS2.out j h).2; omega))
      have hz3 : gt + 1 ≤ w3.heap.size := Nat.le_trans hz2 htu3.size
      clear how htk htu3 hown hlo2 TKE
      by_cases hr0 : er = 0
      · subst hr0
        obtain ⟨k1, k2, k3⟩ := tq_go HQ.out
        cases d
        · obtain rfl := k2 rfl
          obtain rfl := k3
          have GO := Lib.hid (show RNuM R P St lo g most v w S0 X at0 gt Bd F c2 n2 (bs ++ [x]) tv2 S2 w3 from
            { eq := by rw [EQ.out]; rfl
              ob := OB3.out, sub := SUB2.out, tu := TU3.out, tk := TK3.out, ow := OW3.out, inv := INV.out.step x HQ.out, fl := by rw [List.length_append]; simp; omega, ok := OKB.out.mono (by rw [List.length_append]; simp; omega), nt := NT2.out, no := NO3.out, hz := hz3 })
          clear k1 k2
          go_wp2_with fail
          go_roundg F
          case measure => omega
          case rel => exact ⟨_, _, _, _, _, GO.out⟩
        · obtain rfl := k1 rfl
          have XE := Lib.hid (show X = (n2, 0, c2) by rw [EQ.out]; rfl)
          have PN := Lib.hid (rtn_any gt (gt + 1) tv2 1 n2 b2 w3 (INV.out.step x HQ.out) TK3.out OW3.out)
          clear k1 k2 k3
          go_wp2_with fail
          refine PN.out.mono ?_
          rintro r w4 ⟨rfl, rfl⟩
          go_wp2_with fail
          go_ret2
          rw [XE.out]
          exact ⟨rfl, S2, OB3.out, SUB2.out, TU3.out⟩
      · have XE := Lib.hid (show X = (0, (er : Int), { c2 with pl := at0, er := er }) by rw [EQ.out, if_neg (by simp), if_pos hr0])
        have t2 : ((er : Int) != 0) = true := by rw [bne_iff_ne]; omega
        have t2' : (er != 0) = true := by rw [bne_iff_ne]; exact hr0
        obtain ⟨Sr2, hv2, hR2⟩ := OB3.out
        have d2 := hR2.io.c2
        have f2 := hR2.io.free 2
        have h4 := hR2.set_pl RL at0
        have d3 := h4.io.c3
        have f3 := h4.io.free 3
        have FIN := Lib.hid (h4.set_er RL er)
        have TT : Turns (fun j => j = g) w3 ((w3.setCell ⟨g, 2, none⟩ (.int .i64 (at0 : Nat))).setCell ⟨g, 3, none⟩ (.int .i64 (er : Int))) := (setT _ _ _).trans (setT _ _ _) fun _ _ e => e
        have TF := Lib.hid (TU3.out.trans TT fun j _ e => by have e : j = g := e; subst e; exact SG.out)
        clear hr0 hR2 h4 TT
        go_wp2_with fail
        go_ret2
        rw [XE.out]
        exact ⟨rfl, S2, ⟨_, _, FIN.out⟩, SUB2.out, TF.out⟩
    · have XE := Lib.hid (show X = (0, e, { c2 with pl := at0 }) by rw [EQ.out, if_pos h0])
      have t1' : (e != 0) = true := by rw [bne_iff_ne]; exact h0
      obtain ⟨Sr2, hv2, hR2⟩ := OB2.out
      have d2 := hR2.io.c2
      have f2 := hR2.io.free 2
      have FIN := Lib.hid (hR2.set_pl RL at0)
      have TF := Lib.hid (TU2.out.trans (setT w2 2 (.int .i64 (at0 : Nat))) fun j _ e => by have e : j = g := e; subst e; exact SG.out)
      clear h0 hR2
      go_wp2_with fail
      go_ret2
      rw [XE.out]
      exact ⟨rfl, S2, ⟨_, _, FIN.out⟩, SUB2.out, TF.out⟩
end
end Go.Proofs.Ytpenbaafhbbmhaa
