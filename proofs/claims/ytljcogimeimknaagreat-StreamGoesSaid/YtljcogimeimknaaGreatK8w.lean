/- Several texts in one: RdHead, RdOk, RdTop, EntSpP, FootSame, FootSpoil, RdDuo, RdGrows. Each has its own sentence and conditions below. -/
import Derived.Test.YtljcogimeimknaaGreatRdFrame
import Derived.Test.YtljcogimeimknaaGreatK8s
import Derived.Test.YtljcogimeimknaaGreatK8f
import Derived.Test.YtljcogimeimknaaGreatK8t
import Derived.Test.YtljcogimeimknaaGreatK8d
import Derived.Test.YtljcogimeimknaaGreatK8b
import Derived.Test.YtljcogimeimknaaGreatK8a
import Derived.BigQuiet
import Derived.Deep.QuietTactic
import Derived.Deep.Cut
import Derived.Test.YtljcogimeimknaaGreatK8v
import Derived.Test.YtljcogimeimknaaGreatK8q
/- A reader of streams: head, Block: contracts. Conditions: the reader's budget, its rows and the places within reach. -/
namespace Go.Proofs.YtljcogimeimknaaGreat
open Go.RowKit Go.Shelf
set_option linter.unusedVariables false
set_option linter.unusedSimpArgs false

section
variable {w : World} {lo gs g gi : Nat} {S : Nat → Prop} {lv rv : Value} {vs : List RV} {s : RS} {who : Nat → Nat} {L Bd : Nat}
set_option maxRecDepth 100000 in
set_option maxHeartbeats 4000000 in
theorem rdhead_any (h : Rdp w lo gs g gi S lv rv vs s who) (hO : OkayC srcM (SrcR L) mxI Bd s.c) (hBd : Bd + 7000 ≤ 4611686018427387904) (hL : L ≤ 140737488351232) (hmany : s.rows.length ≤ 8388608) (hfit : FitR 140737488351232 s.rows) (hpl : s.c.pl ≤ 1000) (hph : s.ph = 0) :
    Calls Tryz.prog 58 #[.pointer (some ⟨g, 0, none⟩)] w (RXPost lo gs g gi lv who w (hdM mxI s)) := by
  obtain ⟨⟨b, e1, k1⟩, hX1⟩ : ∃ X, bytesM srcM mxI 8 s.c = X := ⟨_, rfl⟩
  obtain ⟨Y, hY⟩ : ∃ Y, hdM mxI s = Y := ⟨_, rfl⟩
  have hM : Y = if e1 ≠ 0 then s.fail k1 e1 0 else if b ≠ headB then s.fail k1 81 0 else frM mxI { s with c := k1, ph := 1 } := by
    rw [← hY]; unfold hdM hdH; rw [hX1]
  rw [hY]
  clear hY
  have hO1 := (hO.bytes (n := 8) src_muR (src_leR L)).1
  rw [hX1] at hO1
  have hp1 := bytesM_pl (M := mxI) (n := 8) (c := s.c)
  have hr1 := bytesM_er (M := mxI) (n := 8) (c := s.c) (by decide)
  rw [hX1] at hp1 hr1
  dsimp only at hO1 hp1 hr1
  have BT := inBytes_any h hO (by omega) hL 8 (by omega)
  rw [show (((8 : Nat) : Int)) = 8 from rfl, hX1] at BT
  replace BT := Lib.hid BT
  have c0 := h.c0
  have HM := Lib.hid hM
  have O1 := Lib.hid hO1
  have HP1 : Hid (k1.pl ≤ 2000) := Lib.hid (by have : (8 : Int).toNat = 8 := rfl; omega)
  have ER1 := Lib.hid hr1
  have FIT := Lib.hid hfit
  clear h hO hM hX1 hO1 hp1 hr1 hfit hph hpl
  go_enter Tryz.func58, Tryz.ntmps58
  go_wp2_with fail
  refine BT.out.mono ?_
  rintro r w1 ⟨bv, S1, who1, rfl, ho1, hz1, hR1, hG1⟩
  have R1 := Lib.hid hR1
  have G1 := Lib.hid hG1
  obtain ⟨a1, n1, m1, rfl, z1⟩ := ho1.slN
  have r1 := run_str (P := Tryz.prog) (dst := 9) Tryz.underlying22 Tryz.underlying5 Tryz.underlying9 w1 _ _ _ _ z1
  have c1 := hR1.c1
  have f1 := hR1.free 1
  obtain ⟨q, hq⟩ : ∃ q, nextV g s.ph = .func (.func q) #[.pointer (some ⟨g, 0, none⟩)] #[] := ⟨_, rfl⟩
  dsimp only at c1
  rw [hq] at c1
  clear hR1 hG1 ho1 hz1 z1 BT hq
  by_cases h1 : e1 = 0
  case neg =>
    have t1 : (e1 != 0) = true := by rw [bne_iff_ne]; exact h1
    have FIN := Lib.hid (show Y = s.fail k1 e1 0 by rw [HM.out, if_pos h1])
    clear h1
    go_wp2_with (go_at_call 100; refine (fail_post (s := s) R1.out G1.out rfl e1 0).mono ?_; rintro r w9 ⟨rfl, hp9⟩; have P9 := Lib.hid hp9; clear hp9)
    go_ret2
    rw [FIN.out]
    exact P9.out
  subst h1
  have t1 : ((0 : Int) != 0) = false := by decide
  by_cases h2 : b = headB
  case neg =>
    have hq2 : ((strB b).toList == [99, 111, 112, 112, 105, 99, 101, 1]) = false := by rw [strB_list]; exact beq_eq_false_iff_ne.2 h2
    have FIN := Lib.hid (show Y = s.fail k1 81 0 by rw [HM.out, if_neg (by simp), if_pos h2])
    clear h2
    go_wp2_with (go_at_call 100; refine (fail_post (s := s) R1.out G1.out rfl 81 0).mono ?_; rintro r w9 ⟨rfl, hp9⟩; have P9 := Lib.hid hp9; clear hp9)
    go_ret2
    rw [FIN.out]
    exact P9.out
  have hq2 : ((strB b).toList == [99, 111, 112, 112, 105, 99, 101, 1]) = true := by rw [strB_list]; exact beq_iff_eq.2 h2
  have FIN := Lib.hid (show Y = frM mxI { s with c := k1, ph := 1 } by rw [HM.out, if_neg (by simp), if_neg (by simpa using h2)])
  have hmf : ∀ (fn : Fn) (first cap : Array Value) (w : World), (Instr.makeFunc fn first cap).run Tryz.prog w = .ok (.func fn first cap) w := fun _ _ _ _ => rfl
  obtain ⟨hR2, hG2⟩ := R1.out.updG (Turns.set (S := fun j => j = g) w1 (i := 1) rfl (nextV g 1)) (lv' := lv) (ph := 1) (er := s.er) (pt := s.pt) (set_block R1.out.blk _)
  have R2 := Lib.hid hR2
  have G2 := Lib.hid (G1.out.trans hG2)
  clear h2 hR2 hG2
  go_wp2_with fail
  refine (rdframe_any R2.out O1.out (by omega) hL hmany FIT.out (by have := HP1.out; dsimp only; omega) (ER1.out (by simp)) rfl).mono ?_
  rintro r w9 hp9
  replace hp9 := hp9.trans G2.out
  obtain ⟨y, es, S9, rv9, vs9, who9, rfl, hl9, hz9, hR9, hG9⟩ := hp9
  have P9 := Lib.hid (And.intro hl9 (And.intro hz9 (And.intro hR9 hG9)))
  clear hl9 hz9 hR9 hG9
  go_wp2_with fail
  go_ret2
  rw [FIN.out]
  exact ⟨y, es, S9, rv9, vs9, who9, rfl, P9.out.1, P9.out.2.1, P9.out.2.2.1, P9.out.2.2.2⟩
/-- what a reader that stands rightly is -/
structure RS.Ok (s : RS) (L : Nat) : Prop where
  ok : OkayC srcM (SrcR L) 10000000000000 (17 * L + 7000 * s.rows.length + (if s.ph = 2 then 7000 else 0)) s.c
  ph : s.ph < 3
  er : s.ph ≠ 2 → s.c.er = 0
  pl : s.ph ≠ 2 → s.c.pl ≤ 8 + 70000 * s.rows.length
  h0 : s.ph = 0 → s.c.pl = 0
  many : s.rows.length ≤ 8388608
  fit : FitR 64 s.rows
theorem OkayC.most {P : Src → Prop} {m m' : Int} {Bd : Nat} {c : CIn Src} (h : OkayC srcM P m Bd c) (hm : m ≤ m') : OkayC srcM P m' Bd c := { h with pl := by have := h.pl; omega }
theorem FitR.mono {m m' : Nat} {rs : List Row} (h : FitR m rs) (hm : m ≤ m') : FitR m' rs := fun r hr => ⟨Nat.le_trans (h r hr).1 hm, (h r hr).2⟩
set_option maxRecDepth 100000 in
set_option maxHeartbeats 4000000 in
/-- Block, where All has left nothing -/
theorem rdblock_any (ap : Option Addr) (al : Nat) (h : Rdp w lo gs g gi S (.slice ap 0 al) rv vs s who) (hk : s.Ok L) (hL : L ≤ 140737488351232) :
    Calls Tryz.prog 26 #[.pointer (some ⟨g, 0, none⟩)] w (RXPost lo gs g gi (.slice ap 0 al) who w (nxM mxI s)) := by
  have c1 := h.c1
  have c2 := h.c2
  have hO := hk.ok.most (m' := mxI) (by decide)
  have hp := hk.ph
  have hmany := hk.many
  have hfit := hk.fit.mono (show 64 ≤ 140737488351232 by decide)
  by_cases h0 : s.ph = 0
  · have CC : Hid (Calls Tryz.prog 58 #[.pointer (some ⟨g, 0, none⟩)] w (RXPost lo gs g gi (.slice ap 0 al) who w (nxM mxI s))) := Lib.hid (by
      unfold nxM; rw [if_pos h0]
      exact rdhead_any h hO (by split <;> omega) hL hmany hfit (by have := hk.h0 h0; omega) h0)
    have e1 : nextV g s.ph = .func (.func 58) #[.pointer (some ⟨g, 0, none⟩)] #[] := by unfold nextV; rw [if_pos h0]
    rw [e1] at c1
    clear h hk hO hp hmany hfit e1 h0
    go_enter Tryz.func26, Tryz.ntmps26
    go_wp2_with fail
    refine CC.out.mono ?_
    rintro r w9 hp9
    obtain ⟨y, es, S9, rv9, vs9, who9, rfl, hl9, hz9, hR9, hG9⟩ := hp9
    have P9 := Lib.hid (And.intro hl9 (And.intro hz9 (And.intro hR9 hG9)))
    clear hl9 hz9 hR9 hG9
    go_wp2_with fail
    go_ret2
    exact ⟨y, es, S9, rv9, vs9, who9, rfl, P9.out.1, P9.out.2.1, P9.out.2.2.1, P9.out.2.2.2⟩
  by_cases h1 : s.ph = 1
  · have CC : Hid (Calls Tryz.prog 101 #[.pointer (some ⟨g, 0, none⟩)] w (RXPost lo gs g gi (.slice ap 0 al) who w (nxM mxI s))) := Lib.hid (by
      unfold nxM; rw [if_neg h0, if_pos h1]
      exact rdframe_any h hO (by split <;> omega) hL hmany hfit (by have := hk.pl (by omega); omega) (hk.er (by omega)) h1)
    have e1 : nextV g s.ph = .func (.func 101) #[.pointer (some ⟨g, 0, none⟩)] #[] := by unfold nextV; rw [if_neg h0, if_pos h1]
    rw [e1] at c1
    clear h hk hO hp hmany hfit e1 h0 h1
    go_enter Tryz.func26, Tryz.ntmps26
    go_wp2_with fail
    refine CC.out.mono ?_
    rintro r w9 hp9
    obtain ⟨y, es, S9, rv9, vs9, who9, rfl, hl9, hz9, hR9, hG9⟩ := hp9
    have P9 := Lib.hid (And.intro hl9 (And.intro hz9 (And.intro hR9 hG9)))
    clear hl9 hz9 hR9 hG9
    go_wp2_with fail
    go_ret2
    exact ⟨y, es, S9, rv9, vs9, who9, rfl, P9.out.1, P9.out.2.1, P9.out.2.2.1, P9.out.2.2.2⟩
  · have CC : Hid (Calls Tryz.prog 138 #[.pointer (some ⟨g, 0, none⟩)] w (RXPost lo gs g gi (.slice ap 0 al) who w (nxM mxI s))) := Lib.hid (by
      unfold nxM; rw [if_neg h0, if_neg h1]
      refine (rended_any w g).mono ?_
      rintro r w' ⟨rfl, rfl⟩
      exact ⟨_, [], S, rv, vs, who, rfl, RdL.nil _ _, fun j hj => (RLB_nil hj).elim, h, Gr.refl _ _⟩)
    have e1 : nextV g s.ph = .func (.func 138) #[.pointer (some ⟨g, 0, none⟩)] #[] := by unfold nextV; rw [if_neg h0, if_neg h1]
    rw [e1] at c1
    clear h hk hO hp hmany hfit e1 h0 h1
    go_enter Tryz.func26, Tryz.ntmps26
    go_wp2_with fail
    refine CC.out.mono ?_
    rintro r w9 hp9
    obtain ⟨y, es, S9, rv9, vs9, who9, rfl, hl9, hz9, hR9, hG9⟩ := hp9
    have P9 := Lib.hid (And.intro hl9 (And.intro hz9 (And.intro hR9 hG9)))
    clear hl9 hz9 hR9 hG9
    go_wp2_with fail
    go_ret2
    exact ⟨y, es, S9, rv9, vs9, who9, rfl, P9.out.1, P9.out.2.1, P9.out.2.2.1, P9.out.2.2.2⟩
end
end Go.Proofs.YtljcogimeimknaaGreat
/- A reader of streams that stands rightly goes on so: plain. No condition. -/
namespace Go.Proofs.YtljcogimeimknaaGreat
open Go.RowKit Go.Shelf
set_option linter.unusedVariables false
set_option maxRecDepth 100000

/-- an In that has gone on: by so many calls, so many places -/
structure Nr (L Bd : Nat) (c c' : CIn Src) (k m : Nat) : Prop where
  ok : OkayC srcM (SrcR L) mxI (Bd + k) c'
  pl : c'.pl ≤ c.pl + m
section
variable {L Bd k m k' m' n : Nat} {c c' c2 : CIn Src}
theorem Nr.trans (h : Nr L Bd c c' k m) (h2 : Nr L (Bd + k) c' c2 k' m') : Nr L Bd c c2 (k + k') (m + m') :=
  ⟨by rw [← Nat.add_assoc]; exact h2.ok, by have := h.pl; have := h2.pl; omega⟩
theorem Nr.mono (h : Nr L Bd c c' k m) (hk : k ≤ k') (hm : m ≤ m') : Nr L Bd c c' k' m' := ⟨h.ok.mono (by omega), by have := h.pl; omega⟩
theorem Nr.bytes (h : OkayC srcM (SrcR L) mxI Bd c) (n : Int) : Nr L Bd c (bytesM srcM mxI n c).2.2 32 n.toNat := ⟨(h.bytes src_muR (src_leR L)).1, bytesM_pl⟩
theorem Nr.byte (h : OkayC srcM (SrcR L) mxI Bd c) : Nr L Bd c (byteM srcM mxI c).2.2 32 1 := ⟨h.byte src_muR (src_leR L), byteM_pl⟩
theorem Nr.num (h : OkayC srcM (SrcR L) mxI Bd c) (he : c.er = 0) : Nr L Bd c (numM srcM mxI c).2.2 352 11 := ⟨h.num src_muR (src_leR L), numM_pl he⟩
theorem Nr.body (h : OkayC srcM (SrcR L) mxI Bd c) (n : Nat) : Nr L Bd c (bodyM mxI c n).2.2.2 64 (n + 4) := ⟨h.body, by have := bodyM_pl (M := mxI) (c := c) (n := n); omega⟩
theorem Nr.end' (h : OkayC srcM (SrcR L) mxI Bd c) : Nr L Bd c (endM srcM c).2.2 32 0 := ⟨h.end' src_muR (src_leR L), by rw [endM_pl]; exact Nat.le_refl _⟩
end
theorem bodyM_er {c : CIn Src} {n : Nat} (h : (bodyM mxI c n).2.1 = 0) : (bodyM mxI c n).2.2.2.er = 0 := by
  revert h
  unfold bodyM bdB
  split
  · intro h; rename_i h2; exact absurd h h2
  unfold bdS
  have q := bytesM_er (M := mxI) (n := 4) (c := (bytesM srcM mxI (n : Int) c).2.2) (by decide)
  split
  · intro h; rename_i h3; exact absurd h h3
  rename_i h3
  split
  · intro h; rename_i h4; exact absurd h h4
  · intro _; exact q (Classical.not_not.1 h3)
/-- what a frame leaves: it has ended, or there is one more row -/
def After (L Bd : Nat) (s s' : RS) : Prop :=
  (s'.ph = 2 ∧ s'.rows = s.rows ∧ Nr L Bd s.c s'.c 700 1000000000) ∨
  (s'.ph = 1 ∧ s.rows.length ≠ 8388608 ∧ Nr L Bd s.c s'.c 700 65600 ∧ s'.c.er = 0 ∧ ∃ (k : List UInt8) (n : Nat), s'.rows = s.rows ++ [(k, ((s.c.pl : Int), (s'.c.pl : Int) - (s.c.pl : Int), (n : Int)))] ∧ k.length ≤ 64 ∧ n ≤ 64)
theorem After.fail {L Bd k m : Nat} {s s0 : RS} {c' : CIn Src} {e : Int} {p : Nat} (h : Nr L Bd s.c c' k m) (hk : k ≤ 700) (hm : m ≤ 1000000000) (hr : s0.rows = s.rows) : After L Bd s (s0.fail c' e p).2 := .inl ⟨rfl, hr, h.mono hk hm⟩
theorem frM_after {L Bd : Nat} {s : RS} (h : OkayC srcM (SrcR L) mxI Bd s.c) : After L Bd s (frM mxI s).2 := by
  unfold frM
  have n1 := Nr.byte h
  have r1 := byteM_er (M := mxI) (c := s.c)
  obtain ⟨⟨kd, e1, k1⟩, hX1⟩ : ∃ X, byteM srcM mxI s.c = X := ⟨_, rfl⟩
  rw [hX1] at n1 r1 ⊢
  dsimp only at n1 r1
  unfold frK
  split
  · exact .fail n1 (by decide) (by decide) rfl
  rename_i h1
  have n2 := n1.trans (Nr.num n1.ok (r1 (Classical.not_not.1 h1)))
  obtain ⟨⟨nn, e2, k2⟩, hX2⟩ : ∃ X, numM srcM mxI k1 = X := ⟨_, rfl⟩
  dsimp only
  rw [hX2] at n2 ⊢
  dsimp only at n2
  split
  · unfold ftN
    split
    · exact .fail n2 (by decide) (by decide) rfl
    split
    · exact .fail n2 (by decide) (by decide) rfl
    have hF := fbs_le s.rows
    have n3 := n2.trans (Nr.body n2.ok (fbs s.rows).length)
    dsimp only
    obtain ⟨⟨b3, e3, p3, k3⟩, hX3⟩ : ∃ X, bodyM mxI k2 (fbs s.rows).length = X := ⟨_, rfl⟩
    rw [hX3] at n3 ⊢
    dsimp only at n3
    unfold ftD
    split
    · exact .fail n3 (by decide) (by omega) rfl
    split
    · exact .fail n3 (by decide) (by omega) rfl
    have n4 := n3.trans (Nr.bytes n3.ok 12)
    dsimp only
    obtain ⟨⟨t, e4, k4⟩, hX4⟩ : ∃ X, bytesM srcM mxI 12 k3 = X := ⟨_, rfl⟩
    rw [hX4] at n4 ⊢
    dsimp only at n4
    have e12 : (12 : Int).toNat = 12 := rfl
    rw [e12] at n4
    unfold ftT
    split
    · exact .fail n4 (by decide) (by omega) rfl
    split
    · exact .fail n4 (by decide) (by omega) rfl
    have n5 := n4.trans (Nr.end' n4.ok)
    dsimp only
    obtain ⟨⟨ov, e5, k5⟩, hX5⟩ : ∃ X, endM srcM k4 = X := ⟨_, rfl⟩
    rw [hX5] at n5 ⊢
    dsimp only at n5
    unfold ftE
    split
    · exact .fail n5 (by decide) (by omega) rfl
    split
    · exact .fail n5 (by decide) (by omega) rfl
    · exact .inl ⟨rfl, rfl, n5.mono (by decide) (by omega)⟩
  split
  · exact .fail n1 (by decide) (by decide) rfl
  split
  · exact .fail n1 (by decide) (by decide) rfl
  rename_i hmany
  unfold frN
  split
  · exact .fail n2 (by decide) (by decide) rfl
  split
  · exact .fail n2 (by decide) (by decide) rfl
  rename_i hn
  have n3 := n2.trans (Nr.body n2.ok nn)
  have r3 := bodyM_er (c := k2) (n := nn)
  have l3 := bodyM_len (n := nn) n2.ok
  dsimp only at hn ⊢
  obtain ⟨⟨b3, e3, p3, k3⟩, hX3⟩ : ∃ X, bodyM mxI k2 nn = X := ⟨_, rfl⟩
  rw [hX3] at n3 r3 l3 ⊢
  dsimp only at n3 r3 l3
  unfold frD
  split
  · exact .fail n3 (by decide) (by omega) rfl
  rename_i h3
  have h3 : e3 = 0 := Classical.not_not.1 h3
  unfold frL
  dsimp only
  split
  · exact .fail n3 (by decide) (by omega) rfl
  rename_i h4
  split
  · exact .fail n3 (by decide) (by omega) rfl
  obtain ⟨⟨l, q, e5⟩, hX5⟩ : ∃ X, bread b3 = X := ⟨_, rfl⟩
  rw [hX5] at h4 ⊢
  obtain rfl : e5 = 0 := Classical.not_not.1 h4
  obtain ⟨g1, g2, g3⟩ := bread_good (by rw [l3 h3]; omega) hX5
  obtain ⟨j, hj⟩ : ∃ j, l.length = j + 1 := ⟨l.length - 1, by omega⟩
  obtain ⟨x, hx⟩ : ∃ x, l[j]? = some x := ⟨_, List.getElem?_eq_getElem (by omega)⟩
  exact .inr ⟨rfl, hmany, n3.mono (by decide) (by omega), r3 h3, lastK l, l.length, rfl, by rw [lastK_at' hj hx]; exact (g3 x (List.mem_of_getElem? hx)).2, g2⟩
theorem OkayC.at' {P : Src → Prop} {m m' : Int} {Bd Bd' : Nat} {c : CIn Src} (h : OkayC srcM P m Bd c) (hm : (c.pl : Int) ≤ m') (hb : Bd ≤ Bd') : OkayC srcM P m' Bd' c := { h.mono hb with pl := hm }
theorem After.ok {L Bd B0 : Nat} {s s' : RS} (h : After L Bd s s') (hB : Bd ≤ 17 * L + 7000 * s.rows.length + 100) (hp : s.c.pl ≤ 100 + 70000 * s.rows.length) (hp2 : s.c.pl ≤ 8 + 70000 * s.rows.length) (hm : s.rows.length ≤ 8388608) (hf : FitR 64 s.rows) : s'.Ok L := by
  rcases h with ⟨h1, h2, h3⟩ | ⟨h1, h2, h3, h4, k, n, h5, h6, h7⟩
  · have hpl := h3.pl
    have q0 : s'.ph < 3 := by omega
    have q1 : s'.ph = 0 → s'.c.pl = 0 := fun e => by omega
    have q2 : (s'.c.pl : Int) ≤ 10000000000000 := by omega
    have q3 : Bd + 700 ≤ 17 * L + 7000 * s'.rows.length + (if s'.ph = 2 then 7000 else 0) := by rw [h2, if_pos h1]; omega
    exact ⟨h3.ok.at' q2 q3, q0, fun e => absurd h1 e, fun e => absurd h1 e, q1, by rw [h2]; exact hm, by rw [h2]; exact hf⟩
  · have hpl := h3.pl
    have hl : s'.rows.length = s.rows.length + 1 := by rw [h5]; simp
    have q0 : s'.ph < 3 := by omega
    have q1 : s'.ph = 0 → s'.c.pl = 0 := fun e => by omega
    have q2 : (s'.c.pl : Int) ≤ 10000000000000 := by omega
    have q4 : s'.c.pl ≤ 8 + 70000 * s'.rows.length := by omega
    have q5 : s'.rows.length ≤ 8388608 := by omega
    have q3 : Bd + 700 ≤ 17 * L + 7000 * s'.rows.length + (if s'.ph = 2 then 7000 else 0) := by split <;> omega
    refine ⟨h3.ok.at' q2 q3, q0, fun _ => h4, fun _ => q4, q1, q5, fun r hr => ?_⟩
    rw [h5, List.mem_append] at hr
    rcases hr with hr | hr
    · exact hf r hr
    · obtain rfl := List.mem_singleton.1 hr
      exact ⟨h6, ⟨by show -9223372036854775808 ≤ (s.c.pl : Int); omega, by show (s.c.pl : Int) ≤ 9223372036854775807; omega⟩, ⟨by show -9223372036854775808 ≤ (s'.c.pl : Int) - (s.c.pl : Int); omega, by show (s'.c.pl : Int) - (s.c.pl : Int) ≤ 9223372036854775807; omega⟩, by show -9223372036854775808 ≤ (n : Int); omega, by show (n : Int) ≤ 9223372036854775807; omega⟩
/-- it goes on standing rightly -/
theorem RS.Ok.next {s : RS} {L : Nat} (h : s.Ok L) : (nxM mxI s).2.Ok L := by
  have hO := h.ok.most (m' := mxI) (by decide)
  unfold nxM
  by_cases h0 : s.ph = 0
  · rw [if_pos h0]
    rw [if_neg (by omega)] at hO
    have hpl := h.h0 h0
    have n1 := Nr.bytes hO 8
    have r1 := bytesM_er (M := mxI) (n := 8) (c := s.c) (by decide)
    unfold hdM
    obtain ⟨⟨b, e1, k1⟩, hX1⟩ : ∃ X, bytesM srcM mxI 8 s.c = X := ⟨_, rfl⟩
    rw [hX1] at n1 r1 ⊢
    dsimp only at n1 r1
    have e8 : (8 : Int).toNat = 8 := rfl
    rw [e8] at n1
    unfold hdH
    have hf : ∀ e p, (s.fail k1 e p).2.Ok L := fun e p => (After.fail (L := L) (s := s) (s0 := s) n1 (by decide) (by decide) rfl).ok (B0 := 0) (by omega) (by omega) (by omega) h.many h.fit
    split
    · exact hf _ _
    split
    · exact hf _ _
    rename_i h1 h2
    have := n1.pl
    exact (frM_after (s := { s with c := k1, ph := 1 }) n1.ok).ok (B0 := 0) (by show _ ≤ 17 * L + 7000 * s.rows.length + 100; omega) (by show k1.pl ≤ _; omega) (by show k1.pl ≤ 8 + 70000 * s.rows.length; omega) h.many h.fit
  · rw [if_neg h0]
    by_cases h1 : s.ph = 1
    · rw [if_pos h1]
      rw [if_neg (by omega)] at hO
      have hpl := h.pl (by omega)
      exact (frM_after hO).ok (B0 := 0) (by omega) (by omega) hpl h.many h.fit
    · rw [if_neg h1]; exact h
/-- either bound gives the same -/
theorem RS.Ok.same {s : RS} {L : Nat} (h : s.Ok L) : nxM 4611686018427387904 s = nxM 9223372036854775807 s := by
  have hm := h.many
  refine nxM_mx (fun e => h.er e) h.ph (fun e => ?_) (fun e => ?_)
  · have := h.pl e; omega
  · have := h.pl e; omega
theorem RS0.ok {x : Src} {L : Nat} (h : SrcR L x) (hc : x.calls = 0) : (RS0 x).Ok L :=
  ⟨{ idle := fun _ => Nat.zero_le _, id2 := Nat.zero_le _, pl := by show (0 : Int) ≤ _; decide, held := Nat.zero_le _, p := h, bud := by
      show x.calls + x.left.length * 17 ≤ 17 * L + 7000 * 0 + (if (0 : Nat) = 2 then 7000 else 0)
      have : x.left.length ≤ L := h
      rw [hc, if_neg (by decide)]; omega }, by show 0 < 3; decide, fun _ => rfl, fun _ => Nat.zero_le _, fun _ => rfl, Nat.zero_le _, fun r hr => by cases hr⟩
end Go.Proofs.YtljcogimeimknaaGreat
/- A reader of streams: NewReader, Fault, Spans: contracts. Conditions: its rows within reach. -/
namespace Go.Proofs.YtljcogimeimknaaGreat
open Go.RowKit Go.Shelf
set_option linter.unusedVariables false
set_option linter.unusedSimpArgs false

section
variable {w : World} {lo gs g gi : Nat} {S : Nat → Prop} {lv rv : Value} {vs : List RV} {s : RS} {who : Nat → Nat}
set_option maxRecDepth 100000 in
theorem rdfault_any (h : Rdp w lo gs g gi S lv rv vs s who) :
    Calls Tryz.prog 68 #[.pointer (some ⟨g, 0, none⟩)] w fun r w' => r = .returned (.tuple #[.int .i64 s.er, .int .i64 (s.pt : Nat)]) ∧ Drw w w' := by
  have c4 := h.c4
  have c5 := h.c5
  clear h
  go_enter Tryz.func68, Tryz.ntmps68
  go_wp2_with fail
  go_quiet (fail)
  go_wp2_with fail
  go_ret2
  exact ⟨rfl, by first | exact (Drw.refl _).more _ | exact Drw.refl _⟩
set_option maxRecDepth 100000 in
theorem rdspans_any (h : Rdp w lo gs g gi S lv rv vs s who) (hmany : s.rows.length ≤ 8388608) (hk : ∀ r, r ∈ s.rows → r.1.length ≤ 1000) :
    Calls Tryz.prog 69 #[.pointer (some ⟨g, 0, none⟩)] w fun e w' => ∃ a n c vs2, e = .returned (.slice a n c) ∧ OwR w' w.heap.size (.slice a n c) vs2 ∧ KTx w' w.heap.size w'.heap.size (.slice a n c) vs2 s.rows ∧ Below w.heap.size w w' := by
  obtain ⟨aR, nR, cR, hrv, hsp⟩ := h.spv
  subst hrv
  have c3 := h.c3
  have hn : nR ≤ 100000000 := by rw [← hsp.spans.1]; omega
  have CP := Lib.hid (copied_any aR nR cR vs s.rows w hn hk hsp)
  clear h hsp hk
  go_enter Tryz.func69, Tryz.ntmps69
  go_wp2_with fail
  refine CP.out.mono ?_
  rintro e w1 ⟨a2, c2, vs2, rfl, h1, h2, h3⟩
  have H1 := Lib.hid h1
  have H2 := Lib.hid h2
  have H3 := Lib.hid h3
  clear h1 h2 h3
  go_wp2_with fail
  go_ret
  exact ⟨a2, nR, c2, vs2, rfl, H1.out, H2.out, H3.out⟩
end
set_option maxRecDepth 100000 in
theorem rdnil_any (w : World) : Calls Tryz.prog 24 #[.nilIface] w fun r w' => r = .returned (.pointer none) ∧ w = w' := by
  have hq := run_eql_nil_nil (P := Tryz.prog) w 112 rfl
  go_enter Tryz.func24, Tryz.ntmps24
  go_wp2_with fail
  go_ret
  exact ⟨rfl, rfl⟩
noncomputable def whoN (g gi : Nat) (S : Nat → Prop) : Nat → Nat := by
  classical exact fun j => if j = g then 1 else if j = gi then 2 else if S j then 3 else 0
theorem whoN_1 {g gi : Nat} {S : Nat → Prop} : whoN g gi S g = 1 := by unfold whoN; rw [if_pos rfl]
theorem whoN_2 {g gi : Nat} {S : Nat → Prop} (h : gi ≠ g) : whoN g gi S gi = 2 := by unfold whoN; rw [if_neg h, if_pos rfl]
theorem whoN_3 {g gi j : Nat} {S : Nat → Prop} (h1 : j ≠ g) (h2 : j ≠ gi) (h : S j) : whoN g gi S j = 3 := by unfold whoN; rw [if_neg h1, if_neg h2, if_pos h]
theorem whoN_ne {g gi j : Nat} {S : Nat → Prop} (h : whoN g gi S j ≠ 0) : j = g ∨ j = gi ∨ S j := by
  unfold whoN at h
  split at h
  · exact .inl (by assumption)
  split at h
  · exact .inr (.inl (by assumption))
  split at h
  · exact .inr (.inr (by assumption))
  · exact absurd rfl h
set_option maxRecDepth 100000 in
theorem rdnew_any {lo gs : Nat} {x : Src} {S : Nat → Prop} {w : World} (h : SrcP gs lo x S w) (hlo : lo ≤ w.heap.size) :
    Calls Tryz.prog 24 #[srcI gs] w fun r w' => ∃ g gi who, r = .returned (.pointer (some ⟨g, 0, none⟩)) ∧ Rdp w' lo gs g gi S (.slice none 0 0) (.slice none 0 0) [] (RS0 x) who ∧ Below w.heap.size w w' ∧ (∀ j, who j ≠ 0 → S j ∨ w.heap.size ≤ j) := by
  have hmf : ∀ (fn : Fn) (first cap : Array Value) (w : World), (Instr.makeFunc fn first cap).run Tryz.prog w = .ok (.func fn first cap) w := fun _ _ _ _ => rfl
  have hq := run_eql_held_nil (P := Tryz.prog) w 112 58 (.pointer (some ⟨gs, 0, none⟩)) rfl
  have H := Lib.hid h
  clear h
  go_enter Tryz.func24, Tryz.ntmps24
  go_wp2_with fail
  refine (newIn_any 58 (.pointer (some ⟨gs, 0, none⟩)) 9223372036854775807 w (by decide)).mono ?_
  rintro r w1 ⟨rfl, hIn, hb1⟩
  rw [show max (0 : Int) 9223372036854775807 = 9223372036854775807 from rfl] at hIn
  obtain ⟨gi, hgi⟩ : ∃ gi, w.heap.size = gi := ⟨_, rfl⟩
  rw [hgi] at hIn hlo
  have HGI := Lib.hid hgi
  obtain ⟨w2, hw2⟩ : ∃ V, w1.alloc (.cells #[.pointer (some ⟨gi, 0, none⟩), .nilFunc, .slice none 0 0, .slice none 0 0, .int .i64 0, .int .i64 0] 116) = V := ⟨_, rfl⟩
  have b2 : Below w1.heap.size w1 w2 := hw2 ▸ (Below.refl _ _).alloc (Nat.le_refl _) _
  have x2 : w2.heap[w1.heap.size]? = some (.cells #[.pointer (some ⟨gi, 0, none⟩), .nilFunc, .slice none 0 0, .slice none 0 0, .int .i64 0, .int .i64 0] 116 (0, 0)) := hw2 ▸ heap_new w1 _
  obtain ⟨g, hg⟩ : ∃ g, w1.heap.size = g := ⟨_, rfl⟩
  have hgg : gi < g := by rw [← hg]; exact hIn.lt
  have IN1 := Lib.hid hIn
  have B1 := Lib.hid hb1
  have B2 := Lib.hid b2
  rw [hg] at x2
  have X2 := Lib.hid x2
  have HG := Lib.hid hg
  have HW2 := Lib.hid hw2
  have c1 := cell_of x2 1 (v := .nilFunc) rfl
  have f1 := free_block x2 1
  clear hIn hb1 b2 x2 hg hw2 hgi
  rw [HGI.out]
  go_upto_region 4 with (fail)
  rw [HW2.out, HG.out]
  go_wp2_with fail
  go_ret
  obtain ⟨w3, hw3⟩ : ∃ V, w2.setCell ⟨g, 1, none⟩ (nextV g 0) = V := ⟨_, rfl⟩
  have ht : Turns (fun j => j = g) w2 w3 := hw3 ▸ Turns.set (S := fun j => j = g) w2 (i := 1) rfl (nextV g 0)
  have hx := set_block (i := 1) X2.out (nextV g 0)
  rw [hw3] at hx
  have hS2 := (H.out.keep B1.out).keep B2.out
  have hnS : ∀ j, S j → j < gi := fun j hj => by have := (H.out.inS j hj).2; rw [HGI.out] at this; exact this
  have hz : g < w3.heap.size := (Array.getElem?_eq_some_iff.1 hx).1
  have hb3 : Below w.heap.size w w3 := by
    have h1 := keep_trans B1.out B2.out
    rw [← hw3]
    exact h1.setCell (by rw [HGI.out]; show gi ≤ g; omega) _
  rw [show w2.setCell ⟨g, 1, none⟩ (.func (.func 58) #[.pointer (some ⟨g, 0, none⟩)] #[]) = w3 from hw3]
  have hx' : w3.heap[g]? = some (.cells (rdC g gi (RS0 x).ph (.slice none 0 0) (.slice none 0 0) (RS0 x).er (RS0 x).pt) 116 (0, 0)) := hx
  have hg2 : gi ≠ g := by omega
  have nw : w.heap.size ≤ w3.heap.size := hb3.size
  have hlo' : lo ≤ gi := hlo
  refine ⟨g, gi, whoN g gi S, rfl, ⟨fun j hj => ?_, by omega, hx', whoN_1, (IN1.out.turns (Turns.of_below (S := fun _ => False) B2.out) id).turns ht hg2, whoN_2 hg2, hS2.turns ht fun j hj => by have := hnS j hj; omega, fun j hj => whoN_3 (by have := hnS j hj; omega) (by have := hnS j hj; omega) hj, OwT.nil _ _ _ _, fun j e => (by cases e), rfl, fun i v r hv => by simp at hv⟩, hb3, fun j hj => ?_⟩
  · rcases whoN_ne hj with e | e | e
    · subst e; exact ⟨by omega, hz⟩
    · subst e; exact ⟨hlo, by omega⟩
    · have := hS2.inS j e
      exact ⟨this.1, Nat.lt_of_lt_of_le this.2 ht.size⟩
  · rcases whoN_ne hj with e | e | e
    · subst e; exact .inr (by rw [HGI.out]; omega)
    · subst e; exact .inr (by rw [HGI.out]; exact Nat.le_refl _)
    · exact .inl e
end Go.Proofs.YtljcogimeimknaaGreat
/- Whoever has entries writes over them: contract of the reference's Spoil, the blocks named by a predicate. Conditions: the entries lie in memory of their own. Written by a program of this place (gen_EntSpP.py). -/
namespace Go.Proofs.YtljcogimeimknaaGreat
open Go.RowKit
set_option linter.unusedVariables false

/-- a text's block holds bytes -/
def KbP (w : World) (gl : Nat) (P : Nat → Prop) (s : Sv) : Prop :=
  (s.1 = none ∧ s.2.2 = 0) ∨ ∃ (g : Nat) (bs : List UInt8), s.1 = some ⟨g, 0, none⟩ ∧ w.heap[g]? = some (.cells (bs.map Bf).toArray 5 (0, 0)) ∧ bs.length = s.2.2 ∧ g ≠ gl ∧ P g ∧ s.2.2 ≤ 9223372036854775807
theorem KbP.setB {w : World} {gl g i : Nat} {P : Nat → Prop} {s : Sv} (h : KbP w gl P s) {y : UInt8} : KbP (w.setCell ⟨g, i, none⟩ (.int .u8 (B y))) gl P s := by
  rcases h with h | ⟨g', bs, h1, h2, h3, h4⟩
  · exact .inl h
  · by_cases e : g' = g
    · subst e
      refine .inr ⟨g', bs.set i y, h1, ?_, by rw [List.length_set]; exact h3, h4⟩
      rw [set_block h2]
      congr 2
      apply Array.ext'
      rw [Array.toList_setIfInBounds]
      simp only [List.map_set]
    · exact .inr ⟨g', bs, h1, (Below.heap_setCell w ⟨g, i, none⟩ _ g' (by exact e)).trans h2, h3, h4⟩
theorem KbP.setL {w : World} {gl i : Nat} {P : Nat → Prop} {s : Sv} (h : KbP w gl P s) {v : Value} : KbP (w.setCell ⟨gl, i, none⟩ v) gl P s := by
  rcases h with h | ⟨g', bs, h1, h2, h3, h4, h5⟩
  · exact .inl h
  · exact .inr ⟨g', bs, h1, (Below.heap_setCell w ⟨gl, i, none⟩ _ g' h4).trans h2, h3, h4, h5⟩
theorem KbP.cap {w : World} {gl : Nat} {P : Nat → Prop} {s : Sv} (h : KbP w gl P s) : s.2.2 ≤ 9223372036854775807 := by
  rcases h with ⟨_, h⟩ | ⟨_, _, _, _, _, _, _, h⟩
  · omega
  · exact h
theorem KbP.of_own {w : World} {lo gl : Nat} {P : Nat → Prop} {s : Sv} {e : TypeId} {xs : List UInt8} {n : Nat} (he : e = 5) (h : OwT fB w lo e (.slice s.1 n s.2.2) xs) (hb : ∀ j, Value.ownBlock (.slice s.1 n s.2.2) = some j → P j) (hf : Off (.slice s.1 n s.2.2) gl) : KbP w gl P s := by
  subst he
  rcases h with ⟨e, _⟩ | ⟨g, cap, ys, e, hg, hh, hl, hn, hc, ht⟩
  · left
    injection e with e1 e2 e3
    exact ⟨e1, e3⟩
  · right
    injection e with e1 e2 e3
    have hob : Value.ownBlock (.slice s.1 n s.2.2) = some g := by rw [e1]; rfl
    refine ⟨g, ys, e1, by rw [hh, flat_fB], by rw [hl, e3], hf g hob, hb g hob, ?_⟩
    rw [e3]; unfold maxLen at hc; omega
/-- a list of entries that may be written over -/
def SpP (w : World) (P : Nat → Prop) (a : Option Addr) (n c : Nat) : Prop :=
  (a = none ∧ n = 0 ∧ c = 0) ∨ ∃ (gl : Nat) (ys : List (Sv × Sv)), a = some ⟨gl, 0, none⟩ ∧ w.heap[gl]? = some (.cells (ys.flatMap fE).toArray 51 (0, 0)) ∧ ys.length = c ∧ n ≤ c ∧ c ≤ 9223372036854775807 ∧ P gl ∧ ∀ x, x ∈ ys → KbP w gl P x.1 ∧ KbP w gl P x.2
set_option maxHeartbeats 4000000 in
set_option maxRecDepth 100000 in
theorem espoilP_any (a : Option Addr) (n c : Nat) (P : Nat → Prop) (w : World) (h : SpP w P a n c) :
    Calls Tryz.prog 22 #[.slice a n c] w fun e w' => e = .returned (.tuple #[]) ∧ Turns P w w' := by
  rcases h with ⟨rfl, rfl, rfl⟩ | ⟨gl, ys, rfl, hb, hyl, hnc, hcm2, hl1, hkb⟩
  · have hcut := fun W : World => run_cutE W none 0 0 .i64 0 (Nat.le_refl _)
    have hcap : ∀ W : World, (Builtin.cap_ #[48] 3 #[.slice none 0 0]).run Tryz.prog W = .ok (goInt 0) W := fun W => run_cap_slice W _ _ _ _ _ Tryz.underlying48
    go_enter Tryz.func22, Tryz.ntmps22
    go_wp2_with fail
    go_loopw [2] (fun i wr => i = .int .i64 0 ∧ Turns P w wr) (fun _ _ => 0)
    case atStart => exact ⟨rfl, Turns.refl _ _⟩
    case round =>
      obtain ⟨rfl, hc⟩ := hrel
      have C := Lib.hid hc; clear hc
      go_wp2_with fail
      go_end0
      exact ⟨rfl, C.out⟩
  · have HB := Lib.hid hb
    have HKB := Lib.hid hkb
    have HYL := Lib.hid hyl
    have hcut := fun W : World => run_cutE W (some ⟨gl, 0, none⟩) n c .i64 c (Nat.le_refl _)
    have hcap : ∀ W : World, (Builtin.cap_ #[48] 3 #[.slice (some ⟨gl, 0, none⟩) n c]).run Tryz.prog W = .ok (goInt c) W := fun W => run_cap_slice W _ _ _ _ _ Tryz.underlying48
    clear hb hkb hyl
    go_enter Tryz.func22, Tryz.ntmps22
    go_wp2_with fail
    go_loopw [2] (fun i wr => ∃ (k : Nat) (ys : List (Sv × Sv)), k ≤ c ∧ i = .int .i64 (k : Nat) ∧ ys.length = c ∧ wr.heap[gl]? = some (.cells (ys.flatMap fE).toArray 51 (0, 0)) ∧ (∀ x, x ∈ ys → KbP wr gl P x.1 ∧ KbP wr gl P x.2) ∧ Turns P w wr) (fun i _ => c - (intOf i).toNat)
    case atStart => exact ⟨0, ys, Nat.zero_le _, rfl, HYL.out, HB.out, HKB.out, Turns.refl _ _⟩
    case round =>
      clear HB HKB HYL
      obtain ⟨k, zs, hk, rfl, hzl, hb, hkb, hc⟩ := hrel
      have C := Lib.hid hc
      have L := Lib.hid hb
      have KB := Lib.hid hkb
      have HZL := Lib.hid hzl
      clear hc hkb
      by_cases hlt : k < c
      · obtain ⟨⟨⟨ax, nx, cx⟩, ⟨ay, ny, cy⟩⟩, hx⟩ : ∃ e, zs[k]? = some e := ⟨_, List.getElem?_eq_getElem (by rw [hzl]; exact hlt)⟩
        obtain ⟨hkx, hky⟩ := KB.out _ (List.mem_of_getElem? hx)
        dsimp only at hkx hky
        have hcx : cx ≤ 9223372036854775807 := hkx.cap
        have hcy : cy ≤ 9223372036854775807 := hky.cap
        have HX := Lib.hid hkx
        have HY := Lib.hid hky
        have HXX := Lib.hid hx
        have hcut2 := fun W : World => run_cutto eltB W ax nx cx .i64 cx (Nat.le_refl _)
        have hcap2 : ∀ W : World, (Builtin.cap_ #[22] 3 #[.slice ax nx cx]).run Tryz.prog W = .ok (goInt cx) W := fun W => run_cap_slice W _ _ _ _ _ Tryz.underlying22
        have c0 : wr.cell? ⟨gl, k * 2, none⟩ = some (.slice ax nx cx) := by
          have := eflat_at hx 0 (by omega)
          exact cell_of hb (k * 2) (by simpa [sv] using this)
        clear hb hx hkx hky hzl hcut hcap
        go_wp2_with fail
        go_quiet (fail)
        go_wp2_with fail
        replace C := Lib.hid (C.out.drewN nq)
        replace L : Hid ((wr.drewN nq).heap[gl]? = some (.cells (zs.flatMap fE).toArray 51 (0, 0))) := L
        replace KB : Hid (∀ x, x ∈ zs → KbP (wr.drewN nq) gl P x.1 ∧ KbP (wr.drewN nq) gl P x.2) := KB
        replace HX : Hid (KbP (wr.drewN nq) gl P (ax, nx, cx)) := HX
        replace HY : Hid (KbP (wr.drewN nq) gl P (ay, ny, cy)) := HY
        clear c0 hcut2 hcap2
        generalize wr.drewN nq = w2 at *
        go_loopw [4] (fun i wr => ∃ m : Nat, m ≤ cx ∧ i = .int .i64 (m : Nat) ∧ wr.heap[gl]? = some (.cells (zs.flatMap fE).toArray 51 (0, 0)) ∧ ((∀ x, x ∈ zs → KbP wr gl P x.1 ∧ KbP wr gl P x.2) ∧ KbP wr gl P (ax, nx, cx) ∧ KbP wr gl P (ay, ny, cy)) ∧ Turns P w wr) (fun i _ => cx - (intOf i).toNat)
        case atStart => exact ⟨0, Nat.zero_le _, rfl, L.out, ⟨KB.out, HX.out, HY.out⟩, C.out⟩
        case round =>
          clear L KB HX HY C
          obtain ⟨m, hm, rfl, hb, ⟨hkb, hkx, hky⟩, hc⟩ := hrel
          have C := Lib.hid hc
          have L := Lib.hid hb
          have KB := Lib.hid hkb
          have HX := Lib.hid hkx
          have HY := Lib.hid hky
          clear hc hkb
          by_cases hlt2 : m < cx
          · rcases hkx with ⟨_, h⟩ | ⟨g, bs, e1, hg, hbl, hne, hg1, _⟩
            · have h : cx = 0 := h; omega
            · have e1 : ax = some ⟨g, 0, none⟩ := e1
              subst e1
              have hbl : bs.length = cx := hbl
              obtain ⟨y, hy⟩ : ∃ e, bs[m]? = some e := ⟨_, List.getElem?_eq_getElem (by omega)⟩
              have c0 : wr.cell? ⟨g, m, none⟩ = some (.int .u8 (B y)) := cell_of hg m (by simp [hy])
              have f0 := free_block hg m
              have hyx : bits .xor .u8 (B y) 255 = B (y ^^^ 255) := B_xor y 255
              have L2 := Lib.hid ((Below.heap_setCell wr ⟨g, m, none⟩ (.int .u8 (B (y ^^^ 255))) gl (fun e => hne e.symm)).trans L.out)
              have KB2 := Lib.hid (show ∀ x, x ∈ zs → KbP (wr.setCell ⟨g, m, none⟩ (.int .u8 (B (y ^^^ 255)))) gl P x.1 ∧ KbP (wr.setCell ⟨g, m, none⟩ (.int .u8 (B (y ^^^ 255)))) gl P x.2 from fun x hx => ⟨(KB.out x hx).1.setB, (KB.out x hx).2.setB⟩)
              have HX2 := Lib.hid (HX.out.setB (g := g) (i := m) (y := y ^^^ 255))
              have HY2 := Lib.hid (HY.out.setB (g := g) (i := m) (y := y ^^^ 255))
              have C2 := Lib.hid (C.out.trans (Turns.set (S := P) wr (b := g) (i := m) hg1 (.int .u8 (B (y ^^^ 255)))) fun _ _ e => e)
              clear hb hg hbl hy HX HY KB hky
              go_wp2_with fail
              go_roundw
              case rel => exact ⟨m + 1, by omega, by go_num, L2.out, ⟨KB2.out, HX2.out, HY2.out⟩, C2.out⟩
              case measure => simp [intOf]; omega
          · have c0 : wr.cell? ⟨gl, k * 2 + 1, none⟩ = some (.slice ay ny cy) := by
              have := eflat_at HXX.out 1 (by omega)
              exact cell_of hb (k * 2 + 1) (by simpa [sv] using this)
            have hcut2 := fun W : World => run_cutto eltB W ay ny cy .i64 cy (Nat.le_refl _)
            have hcap2 : ∀ W : World, (Builtin.cap_ #[22] 3 #[.slice ay ny cy]).run Tryz.prog W = .ok (goInt cy) W := fun W => run_cap_slice W _ _ _ _ _ Tryz.underlying22
            obtain ⟨wo, rfl⟩ : ∃ wo : World, wo = wr := ⟨_, rfl⟩
            clear hb hkx hky
            go_wp2_with fail
            go_quiet (fail)
            go_wp2_with fail
            replace C := Lib.hid (C.out.drewN nq)
            replace L : Hid ((wo.drewN nq).heap[gl]? = some (.cells (zs.flatMap fE).toArray 51 (0, 0))) := L
            replace KB : Hid (∀ x, x ∈ zs → KbP (wo.drewN nq) gl P x.1 ∧ KbP (wo.drewN nq) gl P x.2) := KB
            replace HX : Hid (KbP (wo.drewN nq) gl P (ax, nx, cx)) := HX
            replace HY : Hid (KbP (wo.drewN nq) gl P (ay, ny, cy)) := HY
            clear c0 hcut2 hcap2
            generalize wo.drewN nq = w3 at *
            go_loopw [6] (fun i wr => ∃ m : Nat, m ≤ cy ∧ i = .int .i64 (m : Nat) ∧ wr.heap[gl]? = some (.cells (zs.flatMap fE).toArray 51 (0, 0)) ∧ ((∀ x, x ∈ zs → KbP wr gl P x.1 ∧ KbP wr gl P x.2) ∧ KbP wr gl P (ax, nx, cx) ∧ KbP wr gl P (ay, ny, cy)) ∧ Turns P w wr) (fun i _ => cy - (intOf i).toNat)
            case atStart => exact ⟨0, Nat.zero_le _, rfl, L.out, ⟨KB.out, HX.out, HY.out⟩, C.out⟩
            case round =>
              clear L KB HX HY C
              obtain ⟨m, hm, rfl, hb, ⟨hkb, hkx, hky⟩, hc⟩ := hrel
              have C := Lib.hid hc
              have L := Lib.hid hb
              have KB := Lib.hid hkb
              have HX := Lib.hid hkx
              have HY := Lib.hid hky
              clear hc hkb
              by_cases hlt2 : m < cy
              · rcases hky with ⟨_, h⟩ | ⟨g, bs, e1, hg, hbl, hne, hg1, _⟩
                · have h : cy = 0 := h; omega
                · have e1 : ay = some ⟨g, 0, none⟩ := e1
                  subst e1
                  have hbl : bs.length = cy := hbl
                  obtain ⟨y, hy⟩ : ∃ e, bs[m]? = some e := ⟨_, List.getElem?_eq_getElem (by omega)⟩
                  have c0 : wr.cell? ⟨g, m, none⟩ = some (.int .u8 (B y)) := cell_of hg m (by simp [hy])
                  have f0 := free_block hg m
                  have hyx : bits .xor .u8 (B y) 255 = B (y ^^^ 255) := B_xor y 255
                  have L2 := Lib.hid ((Below.heap_setCell wr ⟨g, m, none⟩ (.int .u8 (B (y ^^^ 255))) gl (fun e => hne e.symm)).trans L.out)
                  have KB2 := Lib.hid (show ∀ x, x ∈ zs → KbP (wr.setCell ⟨g, m, none⟩ (.int .u8 (B (y ^^^ 255)))) gl P x.1 ∧ KbP (wr.setCell ⟨g, m, none⟩ (.int .u8 (B (y ^^^ 255)))) gl P x.2 from fun x hx => ⟨(KB.out x hx).1.setB, (KB.out x hx).2.setB⟩)
                  have HX2 := Lib.hid (HX.out.setB (g := g) (i := m) (y := y ^^^ 255))
                  have HY2 := Lib.hid (HY.out.setB (g := g) (i := m) (y := y ^^^ 255))
                  have C2 := Lib.hid (C.out.trans (Turns.set (S := P) wr (b := g) (i := m) hg1 (.int .u8 (B (y ^^^ 255)))) fun _ _ e => e)
                  clear hb hg hbl hy HX HY KB hkx
                  go_wp2_with fail
                  go_roundw
                  case rel => exact ⟨m + 1, by omega, by go_num, L2.out, ⟨KB2.out, HX2.out, HY2.out⟩, C2.out⟩
                  case measure => simp [intOf]; omega
              · obtain ⟨v0, v1, ⟨c0, f0⟩, ⟨c1, f1⟩, hF⟩ := erow_set2 L.out (k := k) (by rw [HZL.out]; exact hlt) ((none, 0, 0), (none, 0, 0)) (s1 := .slice none 0 0) (s2 := .slice none 0 0) rfl
                have HF := Lib.hid hF
                have KF := Lib.hid (show ∀ x, x ∈ zs.set k ((none, 0, 0), (none, 0, 0)) → KbP ((wr.setCell ⟨gl, k * 2, none⟩ (.slice none 0 0)).setCell ⟨gl, k * 2 + 1, none⟩ (.slice none 0 0)) gl P x.1 ∧ KbP ((wr.setCell ⟨gl, k * 2, none⟩ (.slice none 0 0)).setCell ⟨gl, k * 2 + 1, none⟩ (.slice none 0 0)) gl P x.2 from fun x hx => by
                  rcases List.mem_or_eq_of_mem_set hx with h | h
                  · exact ⟨((KB.out x h).1.setL).setL, ((KB.out x h).2.setL).setL⟩
                  · subst h; exact ⟨.inl ⟨rfl, rfl⟩, .inl ⟨rfl, rfl⟩⟩)
                have CF := Lib.hid ((C.out.trans (Turns.set (S := P) wr (b := gl) (i := k * 2) hl1 (.slice none 0 0)) fun _ _ e => e).trans (Turns.set (S := P) _ (b := gl) (i := k * 2 + 1) hl1 (.slice none 0 0)) fun _ _ e => e)
                clear hF hb hkx hky HX HY KB
                go_wp2_with fail
                go_roundw
                case rel => exact ⟨k + 1, _, by omega, by go_num, by rw [List.length_set]; exact HZL.out, HF.out, KF.out, CF.out⟩
                case measure => simp [intOf]; omega
      · go_wp2_with fail
        go_end0
        exact ⟨rfl, C.out⟩
theorem RdW.spoilP {w : World} {lo : Nat} {vs : List (Sv × Sv)} {es : List Ent} {a : Option Addr} {n c : Nat} (h : RdW w lo (.slice a n c) vs es) : SpP w (RLB (.slice a n c) vs) a n c := by
  rcases h.own with ⟨e, _⟩ | ⟨g, cap, e, hg, hb, hn, hc⟩
  · injection e with e1 e2 e3
    exact .inl ⟨e1, e2, e3⟩
  · injection e with e1 e2 e3
    have hob : Value.ownBlock (.slice a n c) = some g := by rw [e1]; rfl
    refine .inr ⟨g, vs ++ List.replicate (cap - vs.length) zE, e1, hb, by simp; omega, by omega, by unfold maxLen at hc; omega, .inl hob, fun x hx => ?_⟩
    rw [List.mem_append] at hx
    rcases hx with hx | hx
    · obtain ⟨i, hil, rfl⟩ := List.mem_iff_getElem.1 hx
      have hx' : vs[i]? = some vs[i] := List.getElem?_eq_getElem hil
      obtain ⟨q, hq⟩ := h.get hx'
      obtain ⟨o1, o2⟩ := h.txt i _ q hx' hq
      have hoff := h.off i _ hx' g hob
      exact ⟨.of_own (n := vs[i].1.2.1) rfl o1 (fun j hj => .inr ⟨i, _, hx', .inl hj⟩) (fun j hj e => hoff.1 (by rw [← e]; exact hj)),
        .of_own (n := vs[i].2.2.1) rfl o2 (fun j hj => .inr ⟨i, _, hx', .inr hj⟩) (fun j hj e => hoff.2 (by rw [← e]; exact hj))⟩
    · rw [(List.mem_replicate.1 hx).2]
      exact ⟨.inl ⟨rfl, rfl⟩, .inl ⟨rfl, rfl⟩⟩
theorem RdW.lenLe {w : World} {lo : Nat} {y : Value} {vs : List (Sv × Sv)} {es : List Ent} (h : RdW w lo y vs es) : es.length ≤ 9223372036854775807 := by
  have hl := h.len
  rcases h.own with ⟨_, e⟩ | ⟨g, cap, e, hg, hb, hn, hc⟩
  · rw [← hl, e]; simp
  · unfold maxLen at hc; omega
end Go.Proofs.YtljcogimeimknaaGreat
/- Are rows the same: contract of the reference's Same. Conditions: the slices within reach. -/
namespace Go.Proofs.YtljcogimeimknaaGreat
set_option linter.unusedVariables false
open Go.RowKit

theorem strB_eqF (xs ys : List UInt8) : ((strB xs).toList == (strB ys).toList) = decide (xs = ys) := by
  rw [strB_list, strB_list]
  by_cases h : xs = ys
  · subst h; simp
  · rw [decide_eq_false h]; simp [h]
set_option maxHeartbeats 2000000 in
set_option maxRecDepth 100000 in
theorem rsame_any (a : Option Addr) (n c : Nat) (a' : Option Addr) (n' c' : Nat) (rs rs' : List Row) (w : World) (hn : n ≤ 9223372036854775807) (hn' : n' ≤ 9223372036854775807)
    (h : Spans w a n c rs) (h' : Spans w a' n' c' rs') :
    Calls Tryz.prog 14 #[.slice a n c, .slice a' n' c'] w fun e w' => e = .returned (.bool (decide (rs = rs'))) ∧ Below w.heap.size w w' := by
  obtain rfl : n = rs.length := h.1.symm
  obtain rfl : n' = rs'.length := h'.1.symm
  have H := Lib.hid h; clear h
  have H' := Lib.hid h'; clear h'
  by_cases hl : rs.length = rs'.length
  · have f1 : ((rs.length : Int) != (rs'.length : Int)) = false := by rw [hl]; simp
    have f2 : (rs.length != rs'.length) = false := by rw [hl]; simp
    have hl2 : rs'.length ≤ rs.length := by omega
    have HL := Lib.hid hl; clear hl
    go_enter Tryz.func14, Tryz.ntmps14
    go_wp2_with fail
    go_loopw [5] (fun i wr => ∃ k : Nat, k ≤ rs.length ∧ i = .int .i64 k ∧ rs.take k = rs'.take k ∧ Below w.heap.size w wr) (fun i _ => rs.length - (intOf i).toNat)
    case atStart => exact ⟨0, Nat.zero_le _, rfl, by simp, Below.refl _ _⟩
    case round =>
      obtain ⟨k, hk, rfl, he, hb⟩ := hrel
      have HE := Lib.hid he; clear he
      have B := Lib.hid hb; clear hb
      by_cases hlt : k < rs.length
      · obtain ⟨⟨kk, x, y, z⟩, hx⟩ : ∃ e, rs[k]? = some e := ⟨_, List.getElem?_eq_getElem hlt⟩
        obtain ⟨⟨kk', x', y', z'⟩, hy⟩ : ∃ e, rs'[k]? = some e := ⟨_, List.getElem?_eq_getElem (by have := HL.out; omega)⟩
        obtain ⟨b, o, ak, nk, ck, rfl, c0, c1, c2, c3, s0⟩ := (H.out.keep B.out).2.2.2 k kk x y z hx
        obtain ⟨b', o', ak', nk', ck', rfl, c0', c1', c2', c3', s0'⟩ := (H'.out.keep B.out).2.2.2 k kk' x' y' z' hy
        have r1 := fun q : Nat => run_str (P := Tryz.prog) (dst := 9) Tryz.underlying22 Tryz.underlying5 (by kernel_rfl) _ _ _ _ _ (s0.drewN q)
        have r2 := fun q : Nat => run_str (P := Tryz.prog) (dst := 9) Tryz.underlying22 Tryz.underlying5 (by kernel_rfl) _ _ _ _ _ (s0'.drewN q)
        have HX := Lib.hid hx; clear hx
        have HY := Lib.hid hy; clear hy
        have hlt' : k < rs'.length := by have := HL.out; omega
        have key : (kk, x, y, z) = (kk', x', y', z') ↔ rs.take (k + 1) = rs'.take (k + 1) := by
          rw [List.take_add_one, List.take_add_one, HX.out, HY.out, HE.out]; simp
        have KEY := Lib.hid key; clear key
        by_cases e1 : kk = kk'
        · have q1 : ((strB kk).toList == (strB kk').toList) = true := by rw [strB_eqF, decide_eq_true e1]
          by_cases e2 : x = x'
          · have q2 : (x != x') = false := by rw [e2]; simp
            by_cases e3 : y = y'
            · have q3 : (y != y') = false := by rw [e3]; simp
              by_cases e4 : z = z'
              · have q4 : (z != z') = false := by rw [e4]; simp
                have EQ := Lib.hid (show (kk, x, y, z) = (kk', x', y', z') by rw [e1, e2, e3, e4])
                clear e1 e2 e3 e4
                go_wp2_with fail
                go_quiet (fail)
                go_wp2_with fail
                go_roundw
                case rel => exact ⟨k + 1, by omega, by go_num, KEY.out.1 EQ.out, keep_drewN B.out _⟩
                case measure => simp [intOf]; omega
              · have q4 : (z != z') = true := by rw [bne_iff_ne]; exact e4
                have NE := Lib.hid (show ¬ (kk, x, y, z) = (kk', x', y', z') from fun e => e4 (by simp at e; exact e.2.2.2))
                clear e1 e2 e3 e4
                go_wp2_with fail
                go_quiet (fail)
                go_wp2_with fail
                go_ret
                exact ⟨ret_bool (by symm; rw [decide_eq_false_iff_not]; intro e; exact NE.out (KEY.out.2 (by rw [e]))), keep_drewN B.out _⟩
            · have q3 : (y != y') = true := by rw [bne_iff_ne]; exact e3
              have NE := Lib.hid (show ¬ (kk, x, y, z) = (kk', x', y', z') from fun e => e3 (by simp at e; exact e.2.2.1))
              clear e1 e2 e3
              go_wp2_with fail
              go_quiet (fail)
              go_wp2_with fail
              go_ret
              exact ⟨ret_bool (by symm; rw [decide_eq_false_iff_not]; intro e; exact NE.out (KEY.out.2 (by rw [e]))), keep_drewN B.out _⟩
          · have q2 : (x != x') = true := by rw [bne_iff_ne]; exact e2
            have NE := Lib.hid (show ¬ (kk, x, y, z) = (kk', x', y', z') from fun e => e2 (by simp at e; exact e.2.1))
            clear e1 e2
            go_wp2_with fail
            go_quiet (fail)
            go_wp2_with fail
            go_ret
            exact ⟨ret_bool (by symm; rw [decide_eq_false_iff_not]; intro e; exact NE.out (KEY.out.2 (by rw [e]))), keep_drewN B.out _⟩
        · have q1 : ((strB kk).toList == (strB kk').toList) = false := by rw [strB_eqF, decide_eq_false e1]
          have NE := Lib.hid (show ¬ (kk, x, y, z) = (kk', x', y', z') from fun e => e1 (by simp at e; exact e.1))
          clear e1
          go_wp2_with fail
          go_quiet (fail)
          go_wp2_with fail
          go_ret
          exact ⟨ret_bool (by symm; rw [decide_eq_false_iff_not]; intro e; exact NE.out (KEY.out.2 (by rw [e]))), keep_drewN B.out _⟩
      · go_wp2_with fail
        go_ret
        refine ⟨ret_bool ?_, B.out⟩
        have e1 := HE.out; have e2 := HL.out
        rw [List.take_of_length_le (by omega), List.take_of_length_le (by omega)] at e1
        symm; rw [decide_eq_true_eq]; exact e1
  · have f1 : ((rs.length : Int) != (rs'.length : Int)) = true := by rw [bne_iff_ne]; omega
    have f2 : (rs.length != rs'.length) = true := by rw [bne_iff_ne]; omega
    go_enter Tryz.func14, Tryz.ntmps14
    go_wp2_with fail
    go_ret
    refine ⟨ret_bool ?_, Below.refl _ _⟩
    symm; rw [decide_eq_false_iff_not]
    intro e; exact hl (by rw [e])
end Go.Proofs.YtljcogimeimknaaGreat
/- Whoever has rows writes over them: contract of the reference's Spoil. Conditions: the rows lie in memory of their own. -/
namespace Go.Proofs.YtljcogimeimknaaGreat
set_option linter.unusedVariables false
open Go.RowKit

/-- blocks between lo and hi alone may have changed -/
structure Chg (lo hi : Nat) (w w' : World) : Prop where
  os : w'.os = w.os
  tape : w'.tape = w.tape
  output : w'.output = w.output
  size : w.heap.size ≤ w'.heap.size
  block : ∀ j, j < w.heap.size → ¬ (lo ≤ j ∧ j < hi) → w'.heap[j]? = w.heap[j]?
theorem Chg.refl (lo hi : Nat) (w : World) : Chg lo hi w w := ⟨rfl, rfl, rfl, Nat.le_refl _, fun _ _ _ => rfl⟩
theorem Chg.set {lo hi : Nat} {w w' : World} (h : Chg lo hi w w') {g i : Nat} (hl : lo ≤ g) (hh : g < hi) (v : Value) : Chg lo hi w (w'.setCell ⟨g, i, none⟩ v) :=
  ⟨h.os, h.tape, h.output, by simpa using h.size, fun j hj hn => (Below.heap_setCell w' ⟨g, i, none⟩ v j (fun e => hn (by subst e; exact ⟨hl, hh⟩))).trans (h.block j hj hn)⟩
theorem Chg.drewN {lo hi : Nat} {w w' : World} (h : Chg lo hi w w') (n : Nat) : Chg lo hi w (w'.drewN n) := ⟨h.os, h.tape, h.output, h.size, h.block⟩
theorem Chg.below {lo hi B : Nat} {w0 w w' : World} (h : Chg lo hi w w') (hb : Below B w0 w) (hB : B ≤ lo) (hBw : B ≤ w.heap.size) : Below B w0 w' :=
  hb.trans ⟨h.os, h.tape, h.output, h.size, fun j hj => h.block j (by omega) (by omega)⟩
/-- a key's block holds bytes -/
def Kb (w : World) (gl lo hi : Nat) (x : RV) : Prop :=
  (x.1.1 = none ∧ x.1.2.2 = 0) ∨ ∃ (g : Nat) (bs : List UInt8), x.1.1 = some ⟨g, 0, none⟩ ∧ w.heap[g]? = some (.cells (bs.map Bf).toArray 5 (0, 0)) ∧ bs.length = x.1.2.2 ∧ g ≠ gl ∧ lo ≤ g ∧ g < hi ∧ x.1.2.2 ≤ 9223372036854775807
theorem Kb.setB {w : World} {gl lo hi g i : Nat} {x : RV} (h : Kb w gl lo hi x) {y : UInt8} : Kb (w.setCell ⟨g, i, none⟩ (.int .u8 (B y))) gl lo hi x := by
  rcases h with h | ⟨g', bs, h1, h2, h3, h4⟩
  · exact .inl h
  · by_cases e : g' = g
    · subst e
      refine .inr ⟨g', bs.set i y, h1, ?_, by rw [List.length_set]; exact h3, h4⟩
      rw [set_block h2]
      congr 2
      apply Array.ext'
      rw [Array.toList_setIfInBounds]
      simp only [List.map_set]
    · exact .inr ⟨g', bs, h1, (Below.heap_setCell w ⟨g, i, none⟩ _ g' (by exact e)).trans h2, h3, h4⟩
theorem Kb.setL {w : World} {gl lo hi i : Nat} {x : RV} (h : Kb w gl lo hi x) {v : Value} : Kb (w.setCell ⟨gl, i, none⟩ v) gl lo hi x := by
  rcases h with h | ⟨g', bs, h1, h2, h3, h4, h5⟩
  · exact .inl h
  · exact .inr ⟨g', bs, h1, (Below.heap_setCell w ⟨gl, i, none⟩ _ g' h4).trans h2, h3, h4, h5⟩
theorem Kb.of_own {w : World} {lo hi gl : Nat} {x : RV} {k : List UInt8} (h : OwT fB w lo 5 (kV x) k) (hb : ∀ j, (kV x).ownBlock = some j → lo ≤ j ∧ j < hi) (hf : Off (kV x) gl) : Kb w gl lo hi x := by
  rcases h with ⟨e, _⟩ | ⟨g, cap, ys, e, hg, hh, hl, hn, hc, ht⟩
  · left
    injection e with e1 e2 e3
    exact ⟨e1, e3⟩
  · right
    injection e with e1 e2 e3
    have hob : (kV x).ownBlock = some g := by show Value.ownBlock (.slice x.1.1 x.1.2.1 x.1.2.2) = some g; rw [e1]; rfl
    refine ⟨g, ys, e1, by rw [hh, flat_fB], by rw [hl, e3], hf g hob, (hb g hob).1, (hb g hob).2, ?_⟩
    rw [e3]; unfold maxLen at hc; omega
theorem flat_set4 {ys : List RV} {k : Nat} {x : RV} (hk : k < ys.length) (a b c d : Value) (hx : fR x = [a, b, c, d]) :
    (((((ys.flatMap fR).set (k * 4) a).set (k * 4 + 1) b).set (k * 4 + 2) c).set (k * 4 + 3) d) = (ys.set k x).flatMap fR := by
  induction ys generalizing k with
  | nil => simp at hk
  | cons y r ih =>
    cases k with
    | zero =>
      rw [List.set_cons_zero, List.flatMap_cons, List.flatMap_cons, hx]
      rfl
    | succ k =>
      have e := ih (k := k) (by simpa using hk)
      rw [List.set_cons_succ, List.flatMap_cons, List.flatMap_cons, ← e]
      have s : ∀ (l : List Value) (i : Nat) (v : Value), (fR y ++ l).set (i + 4) v = fR y ++ l.set i v := by
        intro l i v
        rw [List.set_append_right _ _ (by rw [fR_len]; omega), fR_len]
        rfl
      rw [show (k + 1) * 4 = k * 4 + 4 by omega, show k * 4 + 4 + 1 = k * 4 + 1 + 4 by omega, show k * 4 + 4 + 2 = k * 4 + 2 + 4 by omega, show k * 4 + 4 + 3 = k * 4 + 3 + 4 by omega, s, s, s, s]
theorem flat_at {ys : List RV} {k : Nat} {x : RV} (h : ys[k]? = some x) (j : Nat) (hj : j < 4) : (ys.flatMap fR)[k * 4 + j]? = (fR x)[j]? := by
  have := flat_get fR_len ys k x j ((fR x)[j]'(by rw [fR_len]; exact hj)) h (List.getElem?_eq_getElem _)
  rw [this]; exact (List.getElem?_eq_getElem _).symm
theorem row_cells {w : World} {gl : Nat} {t : TypeId} {cs : Array Value} (h : w.heap[gl]? = some (.cells cs t (0, 0))) (i : Nat) (hi : i < cs.size) (v : Value) :
    (∃ u, w.cell? ⟨gl, i, none⟩ = some u ∧ w.frozen? ⟨gl, i, none⟩ = false) ∧ (w.setCell ⟨gl, i, none⟩ v).heap[gl]? = some (.cells (cs.setIfInBounds i v) t (0, 0)) :=
  ⟨⟨cs[i], cell_of h i (Array.getElem?_eq_getElem hi), free_block h i⟩, set_block (i := i) h v⟩
set_option maxHeartbeats 2000000 in
theorem row_set4 {w : World} {gl : Nat} {ys : List RV} {t : TypeId} (h : w.heap[gl]? = some (.cells (ys.flatMap fR).toArray t (0, 0))) {k : Nat} (hk : k < ys.length) (x : RV) :
    ∃ v0 v1 v2 v3, (w.cell? ⟨gl, k * 4, none⟩ = some v0 ∧ w.frozen? ⟨gl, k * 4, none⟩ = false) ∧ ((w.setCell ⟨gl, k * 4, none⟩ (kV x)).cell? ⟨gl, k * 4 + 1, none⟩ = some v1 ∧ (w.setCell ⟨gl, k * 4, none⟩ (kV x)).frozen? ⟨gl, k * 4 + 1, none⟩ = false) ∧
      (((w.setCell ⟨gl, k * 4, none⟩ (kV x)).setCell ⟨gl, k * 4 + 1, none⟩ (.int .i64 x.2.1)).cell? ⟨gl, k * 4 + 2, none⟩ = some v2 ∧ ((w.setCell ⟨gl, k * 4, none⟩ (kV x)).setCell ⟨gl, k * 4 + 1, none⟩ (.int .i64 x.2.1)).frozen? ⟨gl, k * 4 + 2, none⟩ = false) ∧
      ((((w.setCell ⟨gl, k * 4, none⟩ (kV x)).setCell ⟨gl, k * 4 + 1, none⟩ (.int .i64 x.2.1)).setCell ⟨gl, k * 4 + 2, none⟩ (.int .i64 x.2.2.1)).cell? ⟨gl, k * 4 + 3, none⟩ = some v3 ∧ (((w.setCell ⟨gl, k * 4, none⟩ (kV x)).setCell ⟨gl, k * 4 + 1, none⟩ (.int .i64 x.2.1)).setCell ⟨gl, k * 4 + 2, none⟩ (.int .i64 x.2.2.1)).frozen? ⟨gl, k * 4 + 3, none⟩ = false) ∧
      ((((w.setCell ⟨gl, k * 4, none⟩ (kV x)).setCell ⟨gl, k * 4 + 1, none⟩ (.int .i64 x.2.1)).setCell ⟨gl, k * 4 + 2, none⟩ (.int .i64 x.2.2.1)).setCell ⟨gl, k * 4 + 3, none⟩ (.int .i64 x.2.2.2)).heap[gl]? = some (.cells ((ys.set k x).flatMap fR).toArray t (0, 0)) := by
  have hl : (ys.flatMap fR).length = ys.length * 4 := flat_length fR_len ys
  obtain ⟨cs, hcs⟩ : ∃ cs, (ys.flatMap fR).toArray = cs := ⟨_, rfl⟩
  have hsz : cs.size = ys.length * 4 := by rw [← hcs, List.size_toArray, hl]
  rw [hcs] at h
  obtain ⟨⟨v0, c0⟩, h1⟩ := row_cells h (k * 4) (by omega) (kV x)
  obtain ⟨⟨v1, c1⟩, h2⟩ := row_cells h1 (k * 4 + 1) (by rw [Array.size_setIfInBounds]; omega) (.int .i64 x.2.1)
  obtain ⟨⟨v2, c2⟩, h3⟩ := row_cells h2 (k * 4 + 2) (by rw [Array.size_setIfInBounds, Array.size_setIfInBounds]; omega) (.int .i64 x.2.2.1)
  obtain ⟨⟨v3, c3⟩, h4⟩ := row_cells h3 (k * 4 + 3) (by rw [Array.size_setIfInBounds, Array.size_setIfInBounds, Array.size_setIfInBounds]; omega) (.int .i64 x.2.2.2)
  refine ⟨v0, v1, v2, v3, c0, c1, c2, c3, ?_⟩
  rw [h4, ← hcs]
  congr 2
  apply Array.ext'
  simp only [Array.toList_setIfInBounds]
  exact flat_set4 hk _ _ _ _ rfl

set_option maxHeartbeats 4000000 in
set_option maxRecDepth 100000 in
theorem rspoil_any (a : Option Addr) (n c : Nat) (vs : List RV) (rs : List Row) (lo hi : Nat) (w : World) (hO : OwR w lo (.slice a n c) vs) (hK : KTx w lo hi (.slice a n c) vs rs) (hh : ∀ j, Value.ownBlock (.slice a n c) = some j → lo ≤ j ∧ j < hi) :
    Calls Tryz.prog 15 #[.slice a n c] w fun e w' => e = .returned (.tuple #[]) ∧ Chg lo hi w w' := by
  rcases hO with ⟨hv, rfl⟩ | ⟨gl, cap, hv, hg, hb, hnc, hcm⟩
  · injection hv with e1 e2 e3
    subst e1 e2 e3
    have hcut := fun W : World => run_cutR W none 0 0 .i64 0 (Nat.le_refl _)
    have hcap : ∀ W : World, (Builtin.cap_ #[33] 3 #[.slice none 0 0]).run Tryz.prog W = .ok (goInt 0) W := fun W => run_cap_slice W _ _ _ _ _ Tryz.underlying33
    go_enter Tryz.func15, Tryz.ntmps15
    go_wp2_with fail
    go_loopw [2] (fun i wr => i = .int .i64 0 ∧ Chg lo hi w wr) (fun _ _ => 0)
    case atStart => exact ⟨rfl, Chg.refl _ _ _⟩
    case round =>
      obtain ⟨rfl, hc⟩ := hrel
      have C := Lib.hid hc; clear hc
      go_wp2_with fail
      go_end0
      exact ⟨rfl, C.out⟩
  · injection hv with e1 e2 e3
    subst e1 e2 e3
    obtain ⟨hl1, hl2⟩ := hh gl rfl
    have hkb : ∀ x, x ∈ vs ++ List.replicate (c - vs.length) zR → Kb w gl lo hi x := by
      intro x hx
      rcases List.mem_append.1 hx with hx | hx
      · obtain ⟨i, hi2, e⟩ := List.mem_iff_getElem.1 hx
        obtain ⟨r, hr⟩ : ∃ r, rs[i]? = some r := ⟨_, List.getElem?_eq_getElem (by rw [← hK.1]; exact hi2)⟩
        obtain ⟨_, ho, hb2, hf⟩ := hK.2 i x r (by rw [← e]; exact List.getElem?_eq_getElem hi2) hr
        exact Kb.of_own ho hb2 (hf gl rfl)
      · obtain ⟨_, rfl⟩ := List.mem_replicate.1 hx
        exact .inl ⟨rfl, rfl⟩
    obtain ⟨ys, hys⟩ : ∃ ys, vs ++ List.replicate (c - vs.length) zR = ys := ⟨_, rfl⟩
    have hyl : ys.length = c := by rw [← hys]; simp; omega
    rw [hys] at hb hkb
    have HB := Lib.hid hb
    have HKB := Lib.hid hkb
    have hcm2 : c ≤ 9223372036854775807 := by unfold maxLen at hcm; omega
    have HYL := Lib.hid hyl
    obtain ⟨nv, hnv⟩ : ∃ x, vs.length = x := ⟨_, rfl⟩
    rw [hnv] at hnc ⊢
    have hcut := fun W : World => run_cutR W (some ⟨gl, 0, none⟩) nv c .i64 c (Nat.le_refl _)
    have hcap : ∀ W : World, (Builtin.cap_ #[33] 3 #[.slice (some ⟨gl, 0, none⟩) nv c]).run Tryz.prog W = .ok (goInt c) W := fun W => run_cap_slice W _ _ _ _ _ Tryz.underlying33
    clear hb hkb hys hh hK hyl hnv hcm
    go_enter Tryz.func15, Tryz.ntmps15
    go_wp2_with fail
    go_loopw [2] (fun i wr => ∃ (k : Nat) (ys : List RV), k ≤ c ∧ i = .int .i64 (k : Nat) ∧ ys.length = c ∧ wr.heap[gl]? = some (.cells (ys.flatMap fR).toArray 94 (0, 0)) ∧ (∀ x, x ∈ ys → Kb wr gl lo hi x) ∧ Chg lo hi w wr) (fun i _ => c - (intOf i).toNat)
    case atStart => exact ⟨0, ys, Nat.zero_le _, rfl, HYL.out, HB.out, HKB.out, Chg.refl _ _ _⟩
    case round =>
      clear HB HKB HYL
      obtain ⟨k, zs, hk, rfl, hzl, hb, hkb, hc⟩ := hrel
      have C := Lib.hid hc
      have L := Lib.hid hb
      have KB := Lib.hid hkb
      have HZL := Lib.hid hzl
      clear hc hkb
      by_cases hlt : k < c
      · obtain ⟨x, hx⟩ : ∃ e, zs[k]? = some e := ⟨_, List.getElem?_eq_getElem (by rw [hzl]; exact hlt)⟩
        have c0 : wr.cell? ⟨gl, k * 4, none⟩ = some (kV x) := by
          have := flat_at hx 0 (by omega)
          exact cell_of hb (k * 4) (by simpa using this)
        obtain ⟨⟨ax, nx, cx⟩, X, Y, Z⟩ := x
        replace c0 : wr.cell? ⟨gl, k * 4, none⟩ = some (.slice ax nx cx) := c0
        have hkx := KB.out _ (List.mem_of_getElem? hx)
        have hcx : cx ≤ 9223372036854775807 := by
          rcases hkx with ⟨_, h⟩ | ⟨_, _, _, _, _, _, _, _, h⟩
          · have h : cx = 0 := h; omega
          · exact h
        have HX := Lib.hid hkx
        have hcut2 := fun W : World => run_cutto eltB W ax nx cx .i64 cx (Nat.le_refl _)
        have hcap2 : ∀ W : World, (Builtin.cap_ #[22] 3 #[.slice ax nx cx]).run Tryz.prog W = .ok (goInt cx) W := fun W => run_cap_slice W _ _ _ _ _ Tryz.underlying22
        clear hb hx hkx hzl hcut hcap
        go_wp2_with fail
        go_quiet (fail)
        go_wp2_with fail
        replace C := Lib.hid (C.out.drewN nq)
        replace L : Hid ((wr.drewN nq).heap[gl]? = some (.cells (zs.flatMap fR).toArray 94 (0, 0))) := L
        replace KB : Hid (∀ x, x ∈ zs → Kb (wr.drewN nq) gl lo hi x) := KB
        replace HX : Hid (Kb (wr.drewN nq) gl lo hi ((ax, nx, cx), X, Y, Z)) := HX
        clear c0 hcut2 hcap2
        generalize wr.drewN nq = w2 at *
        go_loopw [4] (fun i wr => ∃ m : Nat, m ≤ cx ∧ i = .int .i64 (m : Nat) ∧ wr.heap[gl]? = some (.cells (zs.flatMap fR).toArray 94 (0, 0)) ∧ ((∀ x, x ∈ zs → Kb wr gl lo hi x) ∧ Kb wr gl lo hi ((ax, nx, cx), X, Y, Z)) ∧ Chg lo hi w wr) (fun i _ => cx - (intOf i).toNat)
        case atStart => exact ⟨0, Nat.zero_le _, rfl, L.out, ⟨KB.out, HX.out⟩, C.out⟩
        case round =>
          clear L KB HX C
          obtain ⟨m, hm, rfl, hb, ⟨hkb, hkx⟩, hc⟩ := hrel
          have C := Lib.hid hc
          have L := Lib.hid hb
          have KB := Lib.hid hkb
          have HX := Lib.hid hkx
          clear hc hkb
          by_cases hlt2 : m < cx
          · rcases hkx with ⟨_, h⟩ | ⟨g, bs, e1, hg, hbl, hne, hg1, hg2, _⟩
            · have h : cx = 0 := h; omega
            · have e1 : ax = some ⟨g, 0, none⟩ := e1
              subst e1
              have hbl : bs.length = cx := hbl
              obtain ⟨y, hy⟩ : ∃ e, bs[m]? = some e := ⟨_, List.getElem?_eq_getElem (by omega)⟩
              have c0 : wr.cell? ⟨g, m, none⟩ = some (.int .u8 (B y)) := cell_of hg m (by simp [hy])
              have f0 := free_block hg m
              have hyx : bits .xor .u8 (B y) 255 = B (y ^^^ 255) := B_xor y 255
              have L2 := Lib.hid ((Below.heap_setCell wr ⟨g, m, none⟩ (.int .u8 (B (y ^^^ 255))) gl (fun e => hne e.symm)).trans L.out)
              have KB2 := Lib.hid (show ∀ x, x ∈ zs → Kb (wr.setCell ⟨g, m, none⟩ (.int .u8 (B (y ^^^ 255)))) gl lo hi x from fun x hx => (KB.out x hx).setB)
              have HX2 := Lib.hid (HX.out.setB (g := g) (i := m) (y := y ^^^ 255))
              have C2 := Lib.hid (C.out.set (g := g) (i := m) hg1 hg2 (.int .u8 (B (y ^^^ 255))))
              clear hb hg hbl hy HX KB
              go_wp2_with fail
              go_roundw
              case rel => exact ⟨m + 1, by omega, by go_num, L2.out, ⟨KB2.out, HX2.out⟩, C2.out⟩
              case measure => simp [intOf]; omega
          · obtain ⟨v0, v1, v2, v3, ⟨c0, f0⟩, ⟨c1, f1⟩, ⟨c2, f2⟩, ⟨c3, f3⟩, hF⟩ := row_set4 L.out (k := k) (by rw [HZL.out]; exact hlt) ((none, 0, 0), -1, 0, 0)
            have HF := Lib.hid hF
            have KF := Lib.hid (show ∀ x, x ∈ zs.set k ((none, 0, 0), -1, 0, 0) → Kb ((((wr.setCell ⟨gl, k * 4, none⟩ (.slice none 0 0)).setCell ⟨gl, k * 4 + 1, none⟩ (.int .i64 (-1))).setCell ⟨gl, k * 4 + 2, none⟩ (.int .i64 0)).setCell ⟨gl, k * 4 + 3, none⟩ (.int .i64 0)) gl lo hi x from fun x hx => by
              rcases List.mem_or_eq_of_mem_set hx with h | h
              · exact (((KB.out x h).setL.setL).setL).setL
              · subst h; exact .inl ⟨rfl, rfl⟩)
            have CF := Lib.hid ((((C.out.set (g := gl) (i := k * 4) hl1 hl2 (.slice none 0 0)).set (g := gl) (i := k * 4 + 1) hl1 hl2 (.int .i64 (-1))).set (g := gl) (i := k * 4 + 2) hl1 hl2 (.int .i64 0)).set (g := gl) (i := k * 4 + 3) hl1 hl2 (.int .i64 0))
            clear hF hb hkx HX KB
            go_wp2_with fail
            go_roundw
            case rel => exact ⟨k + 1, _, by omega, by go_num, by rw [List.length_set]; exact HZL.out, HF.out, KF.out, CF.out⟩
            case measure => simp [intOf]; omega
      · go_wp2_with fail
        go_end0
        exact ⟨rfl, C.out⟩
end Go.Proofs.YtljcogimeimknaaGreat
/- A reader of streams and the document's, side by side over one feed: what stands of both; the law's stands. No condition. -/
namespace Go.Proofs.YtljcogimeimknaaGreat
open Go.RowKit Go.Shelf
set_option linter.unusedVariables false
set_option linter.unusedSimpArgs false

structure RDuo (w0 w : World) (bs : List UInt8) (lo gs g gi gt g2 gi2 : Nat) (bg : Bool) (S S' : Nat → Prop) (lv rv lv' rv' : Value) (vs vs' : List RV) (s s' : RS) (who who' : Nat → Nat) : Prop where
  l : Rdp w lo gs g gi S lv rv vs s who
  r : Rrp w bs lo gt g2 gi2 bg S' lv' rv' vs' s' who'
  d : ∀ j, who j ≠ 0 → who' j = 0
  b : Below lo w0 w
section
variable {w0 w w' w1 : World} {bs : List UInt8} {lo gs g gi gt g2 gi2 : Nat} {bg : Bool} {S S' : Nat → Prop} {lv rv lv' rv' : Value} {vs vs' : List RV} {s s' s1 : RS} {who who' : Nat → Nat}
theorem RDuo.turn (hbl : bs.length ≤ 140737488351232) {T : Nat → Prop} (h : RDuo w0 w bs lo gs g gi gt g2 gi2 bg S S' lv rv lv' rv' vs vs' s s' who who') (ht : Turns T w w') (hT : ∀ j, T j → who j = 0 ∧ who' j = 0 ∧ lo ≤ j) :
    RDuo w0 w' bs lo gs g gi gt g2 gi2 bg S S' lv rv lv' rv' vs vs' s s' who who' :=
  ⟨h.l.turn ht fun j hj => (hT j hj).1, h.r.turn hbl ht (fun j hj => (hT j hj).2.1) (fun j hj => (hT j hj).2.2), h.d, ht.below h.b h.l.lw fun j hj => (hT j hj).2.2⟩
theorem RDuo.keep (hbl : bs.length ≤ 140737488351232) (h : RDuo w0 w bs lo gs g gi gt g2 gi2 bg S S' lv rv lv' rv' vs vs' s s' who who') (hb : Below w.heap.size w w') :
    RDuo w0 w' bs lo gs g gi gt g2 gi2 bg S S' lv rv lv' rv' vs vs' s s' who who' :=
  h.turn hbl (T := fun _ => False) (.of_below hb) (fun _ e => e.elim)
theorem RDuo.new (h : RDuo w0 w bs lo gs g gi gt g2 gi2 bg S S' lv rv lv' rv' vs vs' s s' who who') : ∀ j, w.heap.size ≤ j → who j = 0 ∧ who' j = 0 := fun j hj =>
  ⟨Classical.byContradiction fun e => by have := (h.l.low j e).2; omega, Classical.byContradiction fun e => by have := (h.r.low j e).2; omega⟩
theorem RDuo.d' (h : RDuo w0 w bs lo gs g gi gt g2 gi2 bg S S' lv rv lv' rv' vs vs' s s' who who') : ∀ j, who' j ≠ 0 → who j = 0 := fun j hj => Classical.byContradiction fun e => hj (h.d j e)
/-- the program's has gone on -/
theorem RDuo.left (hbl : bs.length ≤ 140737488351232) {S1 : Nat → Prop} {lv1 rv1 : Value} {vs1 : List RV} {who1 : Nat → Nat} (h : RDuo w0 w bs lo gs g gi gt g2 gi2 bg S S' lv rv lv' rv' vs vs' s s' who who') (h1 : Rdp w1 lo gs g gi S1 lv1 rv1 vs1 s1 who1) (hg : Gr w w1 who who1) :
    RDuo w0 w1 bs lo gs g gi gt g2 gi2 bg S1 S' lv1 rv1 lv' rv' vs1 vs' s1 s' who1 who' := by
  refine ⟨h1, h.r.turn hbl hg.t (fun j hj => h.d j hj) (fun j hj => (h.l.low j hj).1), fun j hj => ?_, hg.t.below h.b h.l.lw fun j hj => (h.l.low j hj).1⟩
  by_cases hlt : j < w.heap.size
  · rw [hg.o j hlt] at hj; exact h.d j hj
  · exact (h.new j (by omega)).2
/-- the document's has gone on -/
theorem RDuo.right {S1 : Nat → Prop} {bg1 : Bool} {lv1 rv1 : Value} {vs1 : List RV} {who1 : Nat → Nat} (h : RDuo w0 w bs lo gs g gi gt g2 gi2 bg S S' lv rv lv' rv' vs vs' s s' who who') (h1 : Rrp w1 bs lo gt g2 gi2 bg1 S1 lv1 rv1 vs1 s1 who1) (hg : GrW w w1 who' who1) :
    RDuo w0 w1 bs lo gs g gi gt g2 gi2 bg1 S S1 lv rv lv1 rv1 vs vs1 s s1 who who1 :=
  ⟨h.l.turn hg.t fun j hj => h.d' j hj.1, h1, fun j hj => hg.zero (h.l.low j hj).2 (h.d j hj), hg.t.below h.b h.l.lw fun j hj => (h.r.low j hj.1).1⟩

theorem Chg.tur {lo hi : Nat} {w w' : World} (h : Chg lo hi w w') : Turns (fun j => lo ≤ j ∧ j < hi) w w' := ⟨h.os, h.tape, h.output, h.size, h.block⟩
set_option maxRecDepth 100000 in
set_option maxHeartbeats 4000000 in
/-- the law's stands -/
theorem stands_any (hbl : bs.length ≤ 140737488351232) {L : Nat} (h : RDuo w0 w bs lo gs g gi gt g2 gi2 bg S S' lv rv lv' rv' vs vs' s s who who') (hk : s.Ok L) :
    Calls Tryz.prog 28 #[.pointer (some ⟨g, 0, none⟩), .pointer (some ⟨gs, 0, none⟩), .pointer (some ⟨g2, 0, none⟩), .pointer (some ⟨gt, 0, none⟩)] w fun e w' => e = .returned (.bool true) ∧ Below w.heap.size w w' := by
  have FA := Lib.hid (rdfault_any h.l)
  have hmany := hk.many
  have hfit := hk.fit
  have H := Lib.hid h
  clear h hk
  go_enter Tryz.func28, Tryz.ntmps28
  go_wp2_with fail
  refine FA.out.mono ?_
  rintro e w1 ⟨rfl, hd1⟩
  have H1 := Lib.hid (H.out.keep hbl hd1.below)
  have B1 := Lib.hid hd1.below
  have SP := rdspans_any H1.out.l hmany (fun r hr => by have := (hfit r hr).1; omega)
  clear hd1 FA hfit
  go_wp2_with fail
  refine SP.mono ?_
  rintro e w2 ⟨a, n, c, vs2, rfl, hO, hK, hb⟩
  have H2 := Lib.hid (H1.out.keep hbl hb)
  have B2 := Lib.hid (keep_trans B1.out hb)
  have O2 := Lib.hid hO
  have K2 := Lib.hid hK
  have hnn : n ≤ 9223372036854775807 := by have := (KTx.spans hO hK).1; omega
  have Z12 := Lib.hid hb.size
  obtain ⟨a2, n2, c2, hrv, hsp⟩ := H2.out.r.spv
  subst hrv
  have SP2 := Lib.hid hsp.spans
  have hn2 : n2 ≤ 9223372036854775807 := by have := hsp.spans.1; omega
  have c5 := H2.out.r.c5
  clear hb hO hK hsp SP
  go_wp2_with fail
  refine (rsame_any a n c a2 n2 c2 s.rows s.rows w2 hnn hn2 (KTx.spans O2.out K2.out) SP2.out).mono ?_
  rintro e w3 ⟨rfl, hb⟩
  have H3 := Lib.hid (H2.out.keep hbl hb)
  have B3 := Lib.hid (keep_trans B2.out hb)
  have O3 := Lib.hid (O2.out.keep hb)
  have HH := Lib.hid (show ∀ j, Value.ownBlock (.slice a n c) = some j → w1.heap.size ≤ j ∧ j < w2.heap.size from fun j hj => O2.out.t.lt j hj)
  have K3 := Lib.hid (K2.out.same fun j _ h2 => hb.block j h2)
  have Z1 := Lib.hid (show w.heap.size ≤ w1.heap.size from B1.out.size)
  have Z3 := Lib.hid (show w.heap.size ≤ w3.heap.size from B3.out.size)
  rw [decide_eq_true rfl]
  clear hb c5
  go_wp2_with fail
  refine (rspoil_any a n c vs2 s.rows w1.heap.size w2.heap.size w3 O3.out K3.out HH.out).mono ?_
  rintro e w4 ⟨rfl, hch⟩
  have B4 := Lib.hid (hch.tur.below B3.out Z3.out fun j hj => Nat.le_trans Z1.out hj.1)
  have H4 := Lib.hid (H.out.keep hbl B4.out)
  have CL := Lib.hid (calls_any gs lo s.c.s S w4 H4.out.l.st)
  have LF := Lib.hid (left_any gs lo s.c.s S w4 H4.out.l.st)
  clear hch
  go_wp2_with fail
  refine CL.out.mono ?_
  rintro e w5 ⟨rfl, rfl⟩
  go_wp2_with fail
  refine LF.out.mono ?_
  rintro e w5 ⟨rfl, rfl⟩
  have c3 := H4.out.r.c3
  have c4 := H4.out.r.c4
  obtain ⟨Sr, hv, hR⟩ := H4.out.r.io
  obtain ⟨hsr, hrs, -⟩ := hR.st
  obtain ⟨ab9, nb9, cb9, ag9, ng9, cg9, i9, hc9, -, ⟨ax, nx, cx, hxe, hxs, -⟩, hi9, hl9⟩ := hrs.blk
  obtain ⟨rfl, rfl, rfl⟩ : ab9 = ax ∧ nb9 = nx ∧ cb9 = cx := by simpa using hxe
  have HNB := Lib.hid (show bs.length = nb9 from hxs.len)
  have z0 : w4.cell? ⟨gt, 0, none⟩ = some (.slice ab9 nb9 cb9) := cell_of hc9 0 rfl
  have z1 : w4.cell? ⟨gt, 4, none⟩ = some (.int .i64 (s.c.s.calls : Nat)) := cell_of hc9 4 rfl
  have z2 : w4.cell? ⟨gt, 5, none⟩ = some (.int .i64 (i9 : Nat)) := cell_of hc9 5 rfl
  have HL9 := Lib.hid (show s.c.s.left.length = bs.length - i9 by rw [hl9, List.length_drop])
  have r1 : IntKind.i64.wrap ((nb9 : Int) - (i9 : Int)) = (s.c.s.left.length : Nat) := by have := HNB.out; rw [IntWalk.i64_in _ (by omega), HL9.out]; omega
  obtain ⟨er, her⟩ : ∃ x, s.er = x := ⟨_, rfl⟩
  obtain ⟨pt, hpt⟩ : ∃ x, s.pt = x := ⟨_, rfl⟩
  obtain ⟨cs, hcs⟩ : ∃ x, s.c.s.calls = x := ⟨_, rfl⟩
  obtain ⟨lf, hlf⟩ : ∃ x, s.c.s.left.length = x := ⟨_, rfl⟩
  rw [hcs] at z1
  rw [hlf] at r1
  rw [her] at c3
  rw [hpt] at c4
  rw [her, hpt, hcs, hlf]
  clear HNB hnn hn2 hmany hR hsr hrs hc9 hl9 hxs hxe H H1 H2 H3 H4 SP2 O2 O3 K2 K3 HL9 her hpt hcs hlf hv hi9
  have t1 : ((er : Int) == er) = true := by simp
  have t2 : ((pt : Int) == (pt : Int)) = true := by simp
  have t3 : ((cs : Int) == (cs : Int)) = true := by simp
  have t4 : ((lf : Int) == (lf : Int)) = true := by simp
  go_wp2_with fail
  go_quiet (fail)
  go_wp2_with fail
  go_ret
  exact ⟨rfl, keep_drewN B4.out _⟩
end
end Go.Proofs.YtljcogimeimknaaGreat
/- A reader of streams: a Block gives a row more, or nothing: plain. No condition. -/
namespace Go.Proofs.YtljcogimeimknaaGreat
open Go.RowKit Go.Shelf
set_option linter.unusedVariables false

/-- a Block gives a row more, or nothing -/
def Grows (s : RS) (X : RX) : Prop := (X.1.2 = true ∧ ∃ r, X.2.rows = s.rows ++ [r]) ∨ (X.1.2 = false ∧ X.1.1 = [] ∧ X.2.rows = s.rows)
theorem Grows.len {s : RS} {X : RX} (h : Grows s X) : X.2.rows.length = s.rows.length + (if X.1.2 = true then 1 else 0) := by
  rcases h with ⟨h, r, e⟩ | ⟨h, _, e⟩
  · rw [h, e]; simp
  · rw [h, e]; simp
theorem fail_grows {s s0 : RS} (h : s0.rows = s.rows) (c : CIn Src) (e : Int) (p : Nat) : Grows s (s0.fail c e p) := .inr ⟨rfl, rfl, h⟩
theorem ftE_grows (s : RS) (p : Nat) (X : Bool × Int × CIn Src) : Grows s (ftE s p X) := by
  unfold ftE
  split
  · exact fail_grows rfl _ _ _
  split
  · exact fail_grows rfl _ _ _
  · exact .inr ⟨rfl, rfl, rfl⟩
theorem ftT_grows (s : RS) (b p : Nat) (X : List UInt8 × Int × CIn Src) : Grows s (ftT s b p X) := by
  unfold ftT
  split
  · exact fail_grows rfl _ _ _
  split
  · exact fail_grows rfl _ _ _
  · exact ftE_grows _ _ _
theorem ftD_grows (M : Int) (s : RS) (b p : Nat) (X : List UInt8 × Int × Nat × CIn Src) : Grows s (ftD M s b p X) := by
  unfold ftD
  split
  · exact fail_grows rfl _ _ _
  split
  · exact fail_grows rfl _ _ _
  · exact ftT_grows _ _ _ _
theorem ftN_grows (M : Int) (s : RS) (b p : Nat) (X : Nat × Int × CIn Src) : Grows s (ftN M s b p X) := by
  unfold ftN
  split
  · exact fail_grows rfl _ _ _
  split
  · exact fail_grows rfl _ _ _
  · exact ftD_grows _ _ _ _ _
theorem frL_grows (s : RS) (b p : Nat) (c : CIn Src) (X : List Ent × Nat × Int) : Grows s (frL s b p c X) := by
  unfold frL
  split
  · exact fail_grows rfl _ _ _
  split
  · exact fail_grows rfl _ _ _
  · exact .inl ⟨rfl, _, rfl⟩
theorem frD_grows (s : RS) (b p : Nat) (X : List UInt8 × Int × Nat × CIn Src) : Grows s (frD s b p X) := by
  unfold frD
  split
  · exact fail_grows rfl _ _ _
  · exact frL_grows _ _ _ _ _
theorem frN_grows (M : Int) (s : RS) (b p : Nat) (X : Nat × Int × CIn Src) : Grows s (frN M s b p X) := by
  unfold frN
  split
  · exact fail_grows rfl _ _ _
  split
  · exact fail_grows rfl _ _ _
  · exact frD_grows _ _ _ _
theorem frM_grows (M : Int) (s : RS) : Grows s (frM M s) := by
  unfold frM frK
  split
  · exact fail_grows rfl _ _ _
  split
  · exact ftN_grows _ _ _ _ _
  split
  · exact fail_grows rfl _ _ _
  split
  · exact fail_grows rfl _ _ _
  · exact frN_grows _ _ _ _ _
theorem nxM_grows (M : Int) (s : RS) : Grows s (nxM M s) := by
  unfold nxM
  split
  · unfold hdM hdH
    split
    · exact fail_grows rfl _ _ _
    split
    · exact fail_grows rfl _ _ _
    · exact frM_grows M { s with c := _, ph := 1 }
  split
  · exact frM_grows _ _
  · exact .inr ⟨rfl, rfl, rfl⟩
end Go.Proofs.YtljcogimeimknaaGreat
