/- Several texts in one: RdHead, RdOk, RdTop, EntSpP, FootSame, FootSpoil, RdDuo, RdGrows. Each has its own sentence and conditions below. -/
import Derived.Test.YtljcogimeimknaaRdFrame
import Derived.Test.YtljcogimeimknaaK8s
import Derived.Test.YtljcogimeimknaaK8f
import Derived.Test.YtljcogimeimknaaK8t
import Derived.Test.YtljcogimeimknaaK8d
import Derived.Test.YtljcogimeimknaaK8b
import Derived.Test.YtljcogimeimknaaK8a
import Derived.BigQuiet
import Derived.Deep.QuietTactic
import Derived.Deep.Cut
import Derived.Test.YtljcogimeimknaaK8v
import Derived.Test.YtljcogimeimknaaK8q
/- A reader of streams: head, Block: contracts. Conditions: the reader's budget, its rows and the places within reach. -/
namespace Go.Proofs.Ytljcogimeimknaa
open Go.RowKit Go.Shelf
set_option linter.unusedVariables false
set_option linter.unusedSimpArgs false

section
variable {w : World} {lo gs g gi : Nat} {S : Nat → Prop} {lv rv : Value} {vs : List RV} {s : RS} {who : Nat → Nat} {L Bd : Nat}
set_option maxRecDepth 100000 in
set_option maxHeartbeats 4000000 in
theorem rdhead_any (h : Rdp w lo gs g gi S lv rv vs s who) (hO : OkayC srcM (SrcR L) mxI Bd s.c) (hBd : Bd + 7000 ≤ 4611686018427387904) (hL : L ≤ 140737488351232) (hmany : s.rows.length ≤ 8388608) (hfit : FitR 140737488351232 s.rows) (hpl : s.c.pl ≤ 1000) (hph : s.ph = 0) :
    Calls Try.prog 57 #[.pointer (some ⟨g, 0, none⟩)] w (RXPost lo gs g gi lv who w (hdM mxI s)) := by
  obtain ⟨⟨b, e1, k1⟩, hX1⟩ : ∃ X, bytesM srcM mxI 8 s.c = X := ⟨_, rfl⟩
  obtain ⟨Y, hY⟩ : ∃ Y, hdM mxI s = Y := ⟨_, rfl⟩
  have hM : Y = if e1 ≠ 0 then s.fail k1 e1 0 else if b ≠ headB then s.fail k1 81 0 else frM mxI { s with c := k1, ph := 1 } := by
    rw [← hY]; unfold hdM hdH; rw [hX1]
  rw [hY]
  clear hY
  have hO1 := (hO.bytes (n := 8) src_muR (src_leR L)).1
  rw [hX1] at hO1
  have hp1 := bytesM_pl (M := mxI) (n := 8) (c := s.c)
  have hr1 := bytesM_er (M := mxI) (n := 8) (c := s.c) (by decide)
  rw [hX1] at hp1 hr1
  dsimp only at hO1 hp1 hr1
  have BT := inBytes_any h hO (by omega) hL 8 (by omega)
  rw [show (((8 : Nat) : Int)) = 8 from rfl, hX1] at BT
  replace BT := Lib.hid BT
  have c0 := h.c0
  have HM := Lib.hid hM
  have O1 := Lib.hid hO1
  have HP1 : Hid (k1.pl ≤ 2000) := Lib.hid (by have : (8 : Int).toNat = 8 := rfl; omega)
  have ER1 := Lib.hid hr1
  have FIT := Lib.hid hfit
  clear h hO hM hX1 hO1 hp1 hr1 hfit hph hpl
  go_enter Try.func57, Try.ntmps57
  go_wp2_with fail
  refine BT.out.mono ?_
  rintro r w1 ⟨bv, S1, who1, rfl, ho1, hz1, hR1, hG1⟩
  have R1 := Lib.hid hR1
  have G1 := Lib.hid hG1
  obtain ⟨a1, n1, m1, rfl, z1⟩ := ho1.slN
  have r1 := run_str (P := Try.prog) (dst := 9) Try.underlying25 Try.underlying5 Try.underlying9 w1 _ _ _ _ z1
  have c1 := hR1.c1
  have f1 := hR1.free 1
  obtain ⟨q, hq⟩ : ∃ q, nextV g s.ph = .func (.func q) #[.pointer (some ⟨g, 0, none⟩)] #[] := ⟨_, rfl⟩
  dsimp only at c1
  rw [hq] at c1
  clear hR1 hG1 ho1 hz1 z1 BT hq
  by_cases h1 : e1 = 0
  case neg =>
    have t1 : (e1 != 0) = true := by rw [bne_iff_ne]; exact h1
    have FIN := Lib.hid (show Y = s.fail k1 e1 0 by rw [HM.out, if_pos h1])
    clear h1
    go_wp2_with (go_at_call 82; refine (fail_post (s := s) R1.out G1.out rfl e1 0).mono ?_; rintro r w9 ⟨rfl, hp9⟩; have P9 := Lib.hid hp9; clear hp9)
    go_ret2
    rw [FIN.out]
    exact P9.out
  subst h1
  have t1 : ((0 : Int) != 0) = false := by decide
  by_cases h2 : b = headB
  case neg =>
    have hq2 : ((strB b).toList == [99, 111, 112, 112, 105, 99, 101, 1]) = false := by rw [strB_list]; exact beq_eq_false_iff_ne.2 h2
    have FIN := Lib.hid (show Y = s.fail k1 81 0 by rw [HM.out, if_neg (by simp), if_pos h2])
    clear h2
    go_wp2_with (go_at_call 82; refine (fail_post (s := s) R1.out G1.out rfl 81 0).mono ?_; rintro r w9 ⟨rfl, hp9⟩; have P9 := Lib.hid hp9; clear hp9)
    go_ret2
    rw [FIN.out]
    exact P9.out
  have hq2 : ((strB b).toList == [99, 111, 112, 112, 105, 99, 101, 1]) = true := by rw [strB_list]; exact beq_iff_eq.2 h2
  have FIN := Lib.hid (show Y = frM mxI { s with c := k1, ph := 1 } by rw [HM.out, if_neg (by simp), if_neg (by simpa using h2)])
  have hmf : ∀ (fn : Fn) (first cap : Array Value) (w : World), (Instr.makeFunc fn first cap).run Try.prog w = .ok (.func fn first cap) w := fun _ _ _ _ => rfl
  obtain ⟨hR2, hG2⟩ := R1.out.updG (Turns.set (S := fun j => j = g) w1 (i := 1) rfl (nextV g 1)) (lv' := lv) (ph := 1) (er := s.er) (pt := s.pt) (set_block R1.out.blk _)
  have R2 := Lib.hid hR2
  have G2 := Lib.hid (G1.out.trans hG2)
  clear h2 hR2 hG2
  go_wp2_with fail
  refine (rdframe_any R2.out O1.out (by omega) hL hmany FIT.out (by have := HP1.out; dsimp only; omega) (ER1.out (by simp)) rfl).mono ?_
  rintro r w9 hp9
  replace hp9 := hp9.trans G2.out
  obtain ⟨y, es, S9, rv9, vs9, who9, rfl, hl9, hz9, hR9, hG9⟩ := hp9
  have P9 := Lib.hid (And.intro hl9 (And.intro hz9 (And.intro hR9 hG9)))
  clear hl9 hz9 hR9 hG9
  go_wp2_with fail
  go_ret2
  rw [FIN.out]
  exact ⟨y, es, S9, rv9, vs9, who9, rfl, P9.out.1, P9.out.2.1, P9.out.2.2.1, P9.out.2.2.2⟩
/-- what a reader that stands rightly is -/
structure RS.Ok (s : RS) (L : Nat) : Prop where
  ok : OkayC srcM (SrcR L) 10000000000000 (17 * L + 7000 * s.rows.length + (if s.ph = 2 then 7000 else 0)) s.c
  ph : s.ph < 3
  er : s.ph ≠ 2 → s.c.er = 0
  pl : s.ph ≠ 2 → s.c.pl ≤ 8 + 70000 * s.rows.length
  h0 : s.ph = 0 → s.c.pl = 0
  many : s.rows.length ≤ 8388608
  fit : FitR 64 s.rows
theorem OkayC.most {P : Src → Prop} {m m' : Int} {Bd : Nat} {c : CIn Src} (h : OkayC srcM P m Bd c) (hm : m ≤ m') : OkayC srcM P m' Bd c := { h with pl := by have := h.pl; omega }
theorem FitR.mono {m m' : Nat} {rs : List Row} (h : FitR m rs) (hm : m ≤ m') : FitR m' rs := fun r hr => ⟨Nat.le_trans (h r hr).1 hm, (h r hr).2⟩
set_option maxRecDepth 100000 in
set_option maxHeartbeats 4000000 in
/-- Block, where All has left nothing -/
theorem rdblock_any (ap : Option Addr) (al : Nat) (h : Rdp w lo gs g gi S (.slice ap 0 al) rv vs s who) (hk : s.Ok L) (hL : L ≤ 140737488351232) :
    Calls Try.prog 32 #[.pointer (some ⟨g, 0, none⟩)] w (RXPost lo gs g gi (.slice ap 0 al) who w (nxM mxI s)) := by
  have c1 := h.c1
  have c2 := h.c2
  have hO := hk.ok.most (m' := mxI) (by decide)
  have hp := hk.ph
  have hmany := hk.many
  have hfit := hk.fit.mono (show 64 ≤ 140737488351232 by decide)
  by_cases h0 : s.ph = 0
  · have CC : Hid (Calls Try.prog 57 #[.pointer (some ⟨g, 0, none⟩)] w (RXPost lo gs g gi (.slice ap 0 al) who w (nxM mxI s))) := Lib.hid (by
      unfold nxM; rw [if_pos h0]
      exact rdhead_any h hO (by split <;> omega) hL hmany hfit (by have := hk.h0 h0; omega) h0)
    have e1 : nextV g s.ph = .func (.func 57) #[.pointer (some ⟨g, 0, none⟩)] #[] := by unfold nextV; rw [if_pos h0]
    rw [e1] at c1
    clear h hk hO hp hmany hfit e1 h0
    go_enter Try.func32, Try.ntmps32
    go_wp2_with fail
    refine CC.out.mono ?_
    rintro r w9 hp9
    obtain ⟨y, es, S9, rv9, vs9, who9, rfl, hl9, hz9, hR9, hG9⟩ := hp9
    have P9 := Lib.hid (And.intro hl9 (And.intro hz9 (And.intro hR9 hG9)))
    clear hl9 hz9 hR9 hG9
    go_wp2_with fail
    go_ret2
    exact ⟨y, es, S9, rv9, vs9, who9, rfl, P9.out.1, P9.out.2.1, P9.out.2.2.1, P9.out.2.2.2⟩
  by_cases h1 : s.ph = 1
  · have CC : Hid (Calls Try.prog 83 #[.pointer (some ⟨g, 0, none⟩)] w (RXPost lo gs g gi (.slice ap 0 al) who w (nxM mxI s))) := Lib.hid (by
      unfold nxM; rw [if_neg h0, if_pos h1]
      exact rdframe_any h hO (by split <;> omega) hL hmany hfit (by have := hk.pl (by omega); omega) (hk.er (by omega)) h1)
    have e1 : nextV g s.ph = .func (.func 83) #[.pointer (some ⟨g, 0, none⟩)] #[] := by unfold nextV; rw [if_neg h0, if_pos h1]
    rw [e1] at c1
    clear h hk hO hp hmany hfit e1 h0 h1
    go_enter Try.func32, Try.ntmps32
    go_wp2_with fail
    refine CC.out.mono ?_
    rintro r w9 hp9
    obtain ⟨y, es, S9, rv9, vs9, who9, rfl, hl9, hz9, hR9, hG9⟩ := hp9
    have P9 := Lib.hid (And.intro hl9 (And.intro hz9 (And.intro hR9 hG9)))
    clear hl9 hz9 hR9 hG9
    go_wp2_with fail
    go_ret2
    exact ⟨y, es, S9, rv9, vs9, who9, rfl, P9.out.1, P9.out.2.1, P9.out.2.2.1, P9.out.2.2.2⟩
  · have CC : Hid (Calls Try.prog 100 #[.pointer (some ⟨g, 0, none⟩)] w (RXPost lo gs g gi (.slice ap 0 al) who w (nxM mxI s))) := Lib.hid (by
      unfold nxM; rw [if_neg h0, if_neg h1]
      refine (rended_any w g).mono ?_
      rintro r w' ⟨rfl, rfl⟩
      exact ⟨_, [], S, rv, vs, who, rfl, RdL.nil _ _, fun j hj => (RLB_nil hj).elim, h, Gr.refl _ _⟩)
    have e1 : nextV g s.ph = .func (.func 100) #[.pointer (some ⟨g, 0, none⟩)] #[] := by unfold nextV; rw [if_neg h0, if_neg h1]
    rw [e1] at c1
    clear h hk hO hp hmany hfit e1 h0 h1
    go_enter Try.func32, Try.ntmps32
    go_wp2_with fail
    refine CC.out.mono ?_
    rintro r w9 hp9
    obtain ⟨y, es, S9, rv9, vs9, who9, rfl, hl9, hz9, hR9, hG9⟩ := hp9
    have P9 := Lib.hid (And.intro hl9 (And.intro hz9 (And.intro hR9 hG9)))
    clear hl9 hz9 hR9 hG9
    go_wp2_with fail
    go_ret2
    exact ⟨y, es, S9, rv9, vs9, who9, rfl, P9.out.1, P9.out.2.1, P9.out.2.2.1, P9.out.2.2.2⟩
end
end Go.Proofs.Ytljcogimeimknaa
/- A reader of streams that stands rightly goes on so: plain. No condition. -/
namespace Go.Proofs.Ytljcogimeimknaa
open Go.RowKit Go.Shelf
set_option linter.unusedVariables false
set_option maxRecDepth 100000

/-- an In that has gone on: by so many calls, so many places -/
structure Nr (L Bd : Nat) (c c' : CIn Src) (k m : Nat) : Prop where
  ok : OkayC srcM (SrcR L) mxI (Bd + k) c'
  pl : c'.pl ≤ c.pl + m
section
variable {L Bd k m k' m' n : Nat} {c c' c2 : CIn Src}
theorem Nr.trans (h : Nr L Bd c c' k m) (h2 : Nr L (Bd + k) c' c2 k' m') : Nr L Bd c c2 (k + k') (m + m') :=
  ⟨by rw [← Nat.add_assoc]; exact h2.ok, by have := h.pl; have := h2.pl; omega⟩
theorem Nr.mono (h : Nr L Bd c c' k m) (hk : k ≤ k') (hm : m ≤ m') : Nr L Bd c c' k' m' := ⟨h.ok.mono (by omega), by have := h.pl; omega⟩
theorem Nr.bytes (h : OkayC srcM (SrcR L) mxI Bd c) (n : Int) : Nr L Bd c (bytesM srcM mxI n c).2.2 32 n.toNat := ⟨(h.bytes src_muR (src_leR L)).1, bytesM_pl⟩
theorem Nr.byte (h : OkayC srcM (SrcR L) mxI Bd c) : Nr L Bd c (byteM srcM mxI c).2.2 32 1 := ⟨h.byte src_muR (src_leR L), byteM_pl⟩
theorem Nr.num (h : OkayC srcM (SrcR L) mxI Bd c) (he : c.er = 0) : Nr L Bd c (numM srcM mxI c).2.2 352 11 := ⟨h.num src_muR (src_leR L), numM_pl he⟩
theorem Nr.body (h : OkayC srcM (SrcR L) mxI Bd c) (n : Nat) : Nr L Bd c (bodyM mxI c n).2.2.2 64 (n + 4) := ⟨h.body, by have := bodyM_pl (M := mxI) (c := c) (n := n); omega⟩
theorem Nr.end' (h : OkayC srcM (SrcR L) mxI Bd c) : Nr L Bd c (endM srcM c).2.2 32 0 := ⟨h.end' src_muR (src_leR L), by rw [endM_pl]; exact Nat.le_refl _⟩
end
theorem bodyM_er {c : CIn Src} {n : Nat} (h : (bodyM mxI c n).2.1 = 0) : (bodyM mxI c n).2.2.2.er = 0 := by
  revert h
  unfold bodyM bdB
  split
  · intro h; rename_i h2; exact absurd h h2
  unfold bdS
  have q := bytesM_er (M := mxI) (n := 4) (c := (bytesM srcM mxI (n : Int) c).2.2) (by decide)
  split
  · intro h; rename_i h3; exact absurd h h3
  rename_i h3
  split
  · intro h; rename_i h4; exact absurd h h4
  · intro _; exact q (Classical.not_not.1 h3)
/-- what a frame leaves: it has ended, or there is one more row -/
def After (L Bd : Nat) (s s' : RS) : Prop :=
  (s'.ph = 2 ∧ s'.rows = s.rows ∧ Nr L Bd s.c s'.c 700 1000000000) ∨
  (s'.ph = 1 ∧ s.rows.length ≠ 8388608 ∧ Nr L Bd s.c s'.c 700 65600 ∧ s'.c.er = 0 ∧ ∃ (k : List UInt8) (n : Nat), s'.rows = s.rows ++ [(k, ((s.c.pl : Int), (s'.c.pl : Int) - (s.c.pl : Int), (n : Int)))] ∧ k.length ≤ 64 ∧ n ≤ 64)
theorem After.fail {L Bd k m : Nat} {s s0 : RS} {c' : CIn Src} {e : Int} {p : Nat} (h : Nr L Bd s.c c' k m) (hk : k ≤ 700) (hm : m ≤ 1000000000) (hr : s0.rows = s.rows) : After L Bd s (s0.fail c' e p).2 := .inl ⟨rfl, hr, h.mono hk hm⟩
theorem frM_after {L Bd : Nat} {s : RS} (h : OkayC srcM (SrcR L) mxI Bd s.c) : After L Bd s (frM mxI s).2 := by
  unfold frM
  have n1 := Nr.byte h
  have r1 := byteM_er (M := mxI) (c := s.c)
  obtain ⟨⟨kd, e1, k1⟩, hX1⟩ : ∃ X, byteM srcM mxI s.c = X := ⟨_, rfl⟩
  rw [hX1] at n1 r1 ⊢
  dsimp only at n1 r1
  unfold frK
  split
  · exact .fail n1 (by decide) (by decide) rfl
  rename_i h1
  have n2 := n1.trans (Nr.num n1.ok (r1 (Classical.not_not.1 h1)))
  obtain ⟨⟨nn, e2, k2⟩, hX2⟩ : ∃ X, numM srcM mxI k1 = X := ⟨_, rfl⟩
  dsimp only
  rw [hX2] at n2 ⊢
  dsimp only at n2
  split
  · unfold ftN
    split
    · exact .fail n2 (by decide) (by decide) rfl
    split
    · exact .fail n2 (by decide) (by decide) rfl
    have hF := fbs_le s.rows
    have n3 := n2.trans (Nr.body n2.ok (fbs s.rows).length)
    dsimp only
    obtain ⟨⟨b3, e3, p3, k3⟩, hX3⟩ : ∃ X, bodyM mxI k2 (fbs s.rows).length = X := ⟨_, rfl⟩
    rw [hX3] at n3 ⊢
    dsimp only at n3
    unfold ftD
    split
    · exact .fail n3 (by decide) (by omega) rfl
    split
    · exact .fail n3 (by decide) (by omega) rfl
    have n4 := n3.trans (Nr.bytes n3.ok 12)
    dsimp only
    obtain ⟨⟨t, e4, k4⟩, hX4⟩ : ∃ X, bytesM srcM mxI 12 k3 = X := ⟨_, rfl⟩
    rw [hX4] at n4 ⊢
    dsimp only at n4
    have e12 : (12 : Int).toNat = 12 := rfl
    rw [e12] at n4
    unfold ftT
    split
    · exact .fail n4 (by decide) (by omega) rfl
    split
    · exact .fail n4 (by decide) (by omega) rfl
    have n5 := n4.trans (Nr.end' n4.ok)
    dsimp only
    obtain ⟨⟨ov, e5, k5⟩, hX5⟩ : ∃ X, endM srcM k4 = X := ⟨_, rfl⟩
    rw [hX5] at n5 ⊢
    dsimp only at n5
    unfold ftE
    split
    · exact .fail n5 (by decide) (by omega) rfl
    split
    · exact .fail n5 (by decide) (by omega) rfl
    · exact .inl ⟨rfl, rfl, n5.mono (by decide) (by omega)⟩
  split
  · exact .fail n1 (by decide) (by decide) rfl
  split
  · exact .fail n1 (by decide) (by decide) rfl
  rename_i hmany
  unfold frN
  split
  · exact .fail n2 (by decide) (by decide) rfl
  split
  · exact .fail n2 (by decide) (by decide) rfl
  rename_i hn
  have n3 := n2.trans (Nr.body n2.ok nn)
  have r3 := bodyM_er (c := k2) (n := nn)
  have l3 := bodyM_len (n := nn) n2.ok
  dsimp only at hn ⊢
  obtain ⟨⟨b3, e3, p3, k3⟩, hX3⟩ : ∃ X, bodyM mxI k2 nn = X := ⟨_, rfl⟩
  rw [hX3] at n3 r3 l3 ⊢
  dsimp only at n3 r3 l3
  unfold frD
  split
  · exact .fail n3 (by decide) (by omega) rfl
  rename_i h3
  have h3 : e3 = 0 := Classical.not_not.1 h3
  unfold frL
  dsimp only
  split
  · exact .fail n3 (by decide) (by omega) rfl
  rename_i h4
  split
  · exact .fail n3 (by decide) (by omega) rfl
  obtain ⟨⟨l, q, e5⟩, hX5⟩ : ∃ X, bread b3 = X := ⟨_, rfl⟩
  rw [hX5] at h4 ⊢
  obtain rfl : e5 = 0 := Classical.not_not.1 h4
  obtain ⟨g1, g2, g3⟩ := bread_good (by rw [l3 h3]; omega) hX5
  obtain ⟨j, hj⟩ : ∃ j, l.length = j + 1 := ⟨l.length - 1, by omega⟩
  obtain ⟨x, hx⟩ : ∃ x, l[j]? = some x := ⟨_, List.getElem?_eq_getElem (by omega)⟩
  exact .inr ⟨rfl, hmany, n3.mono (by decide) (by omega), r3 h3, lastK l, l.length, rfl, by rw [lastK_at' hj hx]; exact (g3 x (List.mem_of_getElem? hx)).2, g2⟩
theorem OkayC.at' {P : Src → Prop} {m m' : Int} {Bd Bd' : Nat} {c : CIn Src} (h : OkayC srcM P m Bd c) (hm : (c.pl : Int) ≤ m') (hb : Bd ≤ Bd') : OkayC srcM P m' Bd' c := { h.mono hb with pl := hm }
theorem After.ok {L Bd B0 : Nat} {s s' : RS} (h : After L Bd s s') (hB : Bd ≤ 17 * L + 7000 * s.rows.length + 100) (hp : s.c.pl ≤ 100 + 70000 * s.rows.length) (hp2 : s.c.pl ≤ 8 + 70000 * s.rows.length) (hm : s.rows.length ≤ 8388608) (hf : FitR 64 s.rows) : s'.Ok L := by
  rcases h with ⟨h1, h2, h3⟩ | ⟨h1, h2, h3, h4, k, n, h5, h6, h7⟩
  · have hpl := h3.pl
    have q0 : s'.ph < 3 := by omega
    have q1 : s'.ph = 0 → s'.c.pl = 0 := fun e => by omega
    have q2 : (s'.c.pl : Int) ≤ 10000000000000 := by omega
    have q3 : Bd + 700 ≤ 17 * L + 7000 * s'.rows.length + (if s'.ph = 2 then 7000 else 0) := by rw [h2, if_pos h1]; omega
    exact ⟨h3.ok.at' q2 q3, q0, fun e => absurd h1 e, fun e => absurd h1 e, q1, by rw [h2]; exact hm, by rw [h2]; exact hf⟩
  · have hpl := h3.pl
    have hl : s'.rows.length = s.rows.length + 1 := by rw [h5]; simp
    have q0 : s'.ph < 3 := by omega
    have q1 : s'.ph = 0 → s'.c.pl = 0 := fun e => by omega
    have q2 : (s'.c.pl : Int) ≤ 10000000000000 := by omega
    have q4 : s'.c.pl ≤ 8 + 70000 * s'.rows.length := by omega
    have q5 : s'.rows.length ≤ 8388608 := by omega
    have q3 : Bd + 700 ≤ 17 * L + 7000 * s'.rows.length + (if s'.ph = 2 then 7000 else 0) := by split <;> omega
    refine ⟨h3.ok.at' q2 q3, q0, fun _ => h4, fun _ => q4, q1, q5, fun r hr => ?_⟩
    rw [h5, List.mem_append] at hr
    rcases hr with hr | hr
    · exact hf r hr
    · obtain rfl := List.mem_singleton.1 hr
      exact ⟨h6, ⟨by show -9223372036854775808 ≤ (s.c.pl : Int); omega, by show (s.c.pl : Int) ≤ 9223372036854775807; omega⟩, ⟨by show -9223372036854775808 ≤ (s'.c.pl : Int) - (s.c.pl : Int); omega, by show (s'.c.pl : Int) - (s.c.pl : Int) ≤ 9223372036854775807; omega⟩, by show -9223372036854775808 ≤ (n : Int); omega, by show (n : Int) ≤ 9223372036854775807; omega⟩
/-- it goes on standing rightly -/
theorem RS.Ok.next {s : RS} {L : Nat} (h : s.Ok L) : (nxM mxI s).2.Ok L := by
  have hO := h.ok.most (m' := mxI) (by decide)
  unfold nxM
  by_cases h0 : s.ph = 0
  · rw [if_pos h0]
    rw [if_neg (by omega)] at hO
    have hpl := h.h0 h0
    have n1 := Nr.bytes hO 8
    have r1 := bytesM_er (M := mxI) (n := 8) (c := s.c) (by decide)
    unfold hdM
    obtain ⟨⟨b, e1, k1⟩, hX1⟩ : ∃ X, bytesM srcM mxI 8 s.c = X := ⟨_, rfl⟩
    rw [hX1] at n1 r1 ⊢
    dsimp only at n1 r1
    have e8 : (8 : Int).toNat = 8 := rfl
    rw [e8] at n1
    unfold hdH
    have hf : ∀ e p, (s.fail k1 e p).2.Ok L := fun e p => (After.fail (L := L) (s := s) (s0 := s) n1 (by decide) (by decide) rfl).ok (B0 := 0) (by omega) (by omega) (by omega) h.many h.fit
    split
    · exact hf _ _
    split
    · exact hf _ _
    rename_i h1 h2
    have := n1.pl
    exact (frM_after (s := { s with c := k1, ph := 1 }) n1.ok).ok (B0 := 0) (by show _ ≤ 17 * L + 7000 * s.rows.length + 100; omega) (by show k1.pl ≤ _; omega) (by show k1.pl ≤ 8 + 70000 * s.rows.length; omega) h.many h.fit
  · rw [if_neg h0]
    by_cases h1 : s.ph = 1
    · rw [if_pos h1]
      rw [if_neg (by omega)] at hO
      have hpl := h.pl (by omega)
      exact (frM_after hO).ok (B0 := 0) (by omega) (by omega) hpl h.many h.fit
    · rw [if_neg h1]; exact h
/-- either bound gives the same -/
theorem RS.Ok.same {s : RS} {L : Nat} (h : s.Ok L) : nxM 4611686018427387904 s = nxM 9223372036854775807 s := by
  have hm := h.many
  refine nxM_mx (fun e => h.er e) h.ph (fun e => ?_) (fun e => ?_)
  · have := h.pl e; omega
  · have := h.pl e; omega
theorem RS0.ok {x : Src} {L : Nat} (h : SrcR L x) (hc : x.calls = 0) : (RS0 x).Ok L :=
  ⟨{ idle := fun _ => Nat.zero_le _, id2 := Nat.zero_le _, pl := by show (0 : Int) ≤ _; decide, held := Nat.zero_le _, p := h, bud := by
      show x.calls + x.left.length * 17 ≤ 17 * L + 7000 * 0 + (if (0 : Nat) = 2 then 7000 else 0)
      have : x.left.length ≤ L := h
      rw [hc, if_neg (by decide)]; omega }, by show 0 < 3; decide, fun _ => rfl, fun _ => Nat.zero_le _, fun _ => rfl, Nat.zero_le _, fun r hr => by cases hr⟩
end Go.Proofs.Ytljcogimeimknaa
/- A reader of streams: NewReader, Fault, Spans: contracts. Conditions: its rows within reach. -/
namespace Go.Proofs.Ytljcogimeimknaa
open Go.RowKit Go.Shelf
set_option linter.unusedVariables false
set_option linter.unusedSimpArgs false

section
variable {w : World} {lo gs g gi : Nat} {S : Nat → Prop} {lv rv : Value} {vs : List RV} {s : RS} {who : Nat → Nat}
set_option maxRecDepth 100000 in
theorem rdfault_any (h : Rdp w lo gs g gi S lv rv vs s who) :
    Calls Try.prog 34 #[.pointer (some ⟨g, 0, none⟩)] w fun r w' => r = .returned (.tuple #[.int .i64 s.er, .int .i64 (s.pt : Nat)]) ∧ Drw w w' := by
  have c4 := h.c4
  have c5 := h.c5
  clear h
  go_enter Try.func34, Try.ntmps34
  go_wp2_with fail
  go_quiet (fail)
  go_wp2_with fail
  go_ret2
  exact ⟨rfl, by first | exact (Drw.refl _).more _ | exact Drw.refl _⟩
end
set_option maxRecDepth 100000 in
theorem rdnil_any (w : World) : Calls Try.prog 30 #[.nilIface] w fun r w' => r = .returned (.pointer none) ∧ w = w' := by
  have hq := run_eql_nil_nil (P := Try.prog) w 94 rfl
  go_enter Try.func30, Try.ntmps30
  go_wp2_with fail
  go_ret
  exact ⟨rfl, rfl⟩
noncomputable def whoN (g gi : Nat) (S : Nat → Prop) : Nat → Nat := by
  classical exact fun j => if j = g then 1 else if j = gi then 2 else if S j then 3 else 0
theorem whoN_1 {g gi : Nat} {S : Nat → Prop} : whoN g gi S g = 1 := by unfold whoN; rw [if_pos rfl]
theorem whoN_2 {g gi : Nat} {S : Nat → Prop} (h : gi ≠ g) : whoN g gi S gi = 2 := by unfold whoN; rw [if_neg h, if_pos rfl]
theorem whoN_3 {g gi j : Nat} {S : Nat → Prop} (h1 : j ≠ g) (h2 : j ≠ gi) (h : S j) : whoN g gi S j = 3 := by unfold whoN; rw [if_neg h1, if_neg h2, if_pos h]
theorem whoN_ne {g gi j : Nat} {S : Nat → Prop} (h : whoN g gi S j ≠ 0) : j = g ∨ j = gi ∨ S j := by
  unfold whoN at h
  split at h
  · exact .inl (by assumption)
  split at h
  · exact .inr (.inl (by assumption))
  split at h
  · exact .inr (.inr (by assumption))
  · exact absurd rfl h
set_option maxRecDepth 100000 in
theorem rdnew_any {lo gs : Nat} {x : Src} {S : Nat → Prop} {w : World} (h : SrcP gs lo x S w) (hlo : lo ≤ w.heap.size) :
    Calls Try.prog 30 #[srcI gs] w fun r w' => ∃ g gi who, r = .returned (.pointer (some ⟨g, 0, none⟩)) ∧ Rdp w' lo gs g gi S (.slice none 0 0) (.slice none 0 0) [] (RS0 x) who ∧ Below w.heap.size w w' ∧ (∀ j, who j ≠ 0 → S j ∨ w.heap.size ≤ j) := by
  have hmf : ∀ (fn : Fn) (first cap : Array Value) (w : World), (Instr.makeFunc fn first cap).run Try.prog w = .ok (.func fn first cap) w := fun _ _ _ _ => rfl
  have hq := run_eql_held_nil (P := Try.prog) w 94 59 (.pointer (some ⟨gs, 0, none⟩)) rfl
  have H := Lib.hid h
  clear h
  go_enter Try.func30, Try.ntmps30
  go_wp2_with fail
  refine (newIn_any 59 (.pointer (some ⟨gs, 0, none⟩)) 9223372036854775807 w (by decide)).mono ?_
  rintro r w1 ⟨rfl, hIn, hb1⟩
  rw [show max (0 : Int) 9223372036854775807 = 9223372036854775807 from rfl] at hIn
  obtain ⟨gi, hgi⟩ : ∃ gi, w.heap.size = gi := ⟨_, rfl⟩
  rw [hgi] at hIn hlo
  have HGI := Lib.hid hgi
  obtain ⟨w2, hw2⟩ : ∃ V, w1.alloc (.cells #[.pointer (some ⟨gi, 0, none⟩), .nilFunc, .slice none 0 0, .slice none 0 0, .int .i64 0, .int .i64 0] 98) = V := ⟨_, rfl⟩
  have b2 : Below w1.heap.size w1 w2 := hw2 ▸ (Below.refl _ _).alloc (Nat.le_refl _) _
  have x2 : w2.heap[w1.heap.size]? = some (.cells #[.pointer (some ⟨gi, 0, none⟩), .nilFunc, .slice none 0 0, .slice none 0 0, .int .i64 0, .int .i64 0] 98 (0, 0)) := hw2 ▸ heap_new w1 _
  obtain ⟨g, hg⟩ : ∃ g, w1.heap.size = g := ⟨_, rfl⟩
  have hgg : gi < g := by rw [← hg]; exact hIn.lt
  have IN1 := Lib.hid hIn
  have B1 := Lib.hid hb1
  have B2 := Lib.hid b2
  rw [hg] at x2
  have X2 := Lib.hid x2
  have HG := Lib.hid hg
  have HW2 := Lib.hid hw2
  have c1 := cell_of x2 1 (v := .nilFunc) rfl
  have f1 := free_block x2 1
  clear hIn hb1 b2 x2 hg hw2 hgi
  rw [HGI.out]
  go_upto_region 4 with (fail)
  rw [HW2.out, HG.out]
  go_wp2_with fail
  go_ret
  obtain ⟨w3, hw3⟩ : ∃ V, w2.setCell ⟨g, 1, none⟩ (nextV g 0) = V := ⟨_, rfl⟩
  have ht : Turns (fun j => j = g) w2 w3 := hw3 ▸ Turns.set (S := fun j => j = g) w2 (i := 1) rfl (nextV g 0)
  have hx := set_block (i := 1) X2.out (nextV g 0)
  rw [hw3] at hx
  have hS2 := (H.out.keep B1.out).keep B2.out
  have hnS : ∀ j, S j → j < gi := fun j hj => by have := (H.out.inS j hj).2; rw [HGI.out] at this; exact this
  have hz : g < w3.heap.size := (Array.getElem?_eq_some_iff.1 hx).1
  have hb3 : Below w.heap.size w w3 := by
    have h1 := keep_trans B1.out B2.out
    rw [← hw3]
    exact h1.setCell (by rw [HGI.out]; show gi ≤ g; omega) _
  rw [show w2.setCell ⟨g, 1, none⟩ (.func (.func 57) #[.pointer (some ⟨g, 0, none⟩)] #[]) = w3 from hw3]
  have hx' : w3.heap[g]? = some (.cells (rdC g gi (RS0 x).ph (.slice none 0 0) (.slice none 0 0) (RS0 x).er (RS0 x).pt) 98 (0, 0)) := hx
  have hg2 : gi ≠ g := by omega
  have nw : w.heap.size ≤ w3.heap.size := hb3.size
  have hlo' : lo ≤ gi := hlo
  refine ⟨g, gi, whoN g gi S, rfl, ⟨fun j hj => ?_, by omega, hx', whoN_1, (IN1.out.turns (Turns.of_below (S := fun _ => False) B2.out) id).turns ht hg2, whoN_2 hg2, hS2.turns ht fun j hj => by have := hnS j hj; omega, fun j hj => whoN_3 (by have := hnS j hj; omega) (by have := hnS j hj; omega) hj, OwT.nil _ _ _ _, fun j e => (by cases e), rfl, fun i v r hv => by simp at hv⟩, hb3, fun j hj => ?_⟩
  · rcases whoN_ne hj with e | e | e
    · subst e; exact ⟨by omega, hz⟩
    · subst e; exact ⟨hlo, by omega⟩
    · have := hS2.inS j e
      exact ⟨this.1, Nat.lt_of_lt_of_le this.2 ht.size⟩
  · rcases whoN_ne hj with e | e | e
    · subst e; exact .inr (by rw [HGI.out]; omega)
    · subst e; exact .inr (by rw [HGI.out]; exact Nat.le_refl _)
    · exact .inl e
end Go.Proofs.Ytljcogimeimknaa
/- Whoever has entries writes over them: contract of the reference's Spoil, the blocks named by a predicate. Conditions: the entries lie in memory of their own. Written by a program of this place (gen_EntSpP.py). -/
namespace Go.Proofs.Ytljcogimeimknaa
open Go.RowKit
set_option linter.unusedVariables false

/-- a text's block holds bytes -/
def KbP (w : World) (gl : Nat) (P : Nat → Prop) (s : Sv) : Prop :=
  (s.1 = none ∧ s.2.2 = 0) ∨ ∃ (g : Nat) (bs : List UInt8), s.1 = some ⟨g, 0, none⟩ ∧ w.heap[g]? = some (.cells (bs.map Bf).toArray 5 (0, 0)) ∧ bs.length = s.2.2 ∧ g ≠ gl ∧ P g ∧ s.2.2 ≤ 9223372036854775807
theorem KbP.setL {w : World} {gl i : Nat} {P : Nat → Prop} {s : Sv} (h : KbP w gl P s) {v : Value} : KbP (w.setCell ⟨gl, i, none⟩ v) gl P s := by
  rcases h with h | ⟨g', bs, h1, h2, h3, h4, h5⟩
  · exact .inl h
  · exact .inr ⟨g', bs, h1, (Below.heap_setCell w ⟨gl, i, none⟩ _ g' h4).trans h2, h3, h4, h5⟩
theorem KbP.cap {w : World} {gl : Nat} {P : Nat → Prop} {s : Sv} (h : KbP w gl P s) : s.2.2 ≤ 9223372036854775807 := by
  rcases h with ⟨_, h⟩ | ⟨_, _, _, _, _, _, _, h⟩
  · omega
  · exact h
end Go.Proofs.Ytljcogimeimknaa
/- Are rows the same: contract of the reference's Same. Conditions: the slices within reach. -/
namespace Go.Proofs.Ytljcogimeimknaa
set_option linter.unusedVariables false
open Go.RowKit

end Go.Proofs.Ytljcogimeimknaa
/- Whoever has rows writes over them: contract of the reference's Spoil. Conditions: the rows lie in memory of their own. -/
namespace Go.Proofs.Ytljcogimeimknaa
set_option linter.unusedVariables false
open Go.RowKit

/-- blocks between lo and hi alone may have changed -/
structure Chg (lo hi : Nat) (w w' : World) : Prop where
  os : w'.os = w.os
  tape : w'.tape = w.tape
  output : w'.output = w.output
  size : w.heap.size ≤ w'.heap.size
  block : ∀ j, j < w.heap.size → ¬ (lo ≤ j ∧ j < hi) → w'.heap[j]? = w.heap[j]?
theorem Chg.refl (lo hi : Nat) (w : World) : Chg lo hi w w := ⟨rfl, rfl, rfl, Nat.le_refl _, fun _ _ _ => rfl⟩
theorem Chg.set {lo hi : Nat} {w w' : World} (h : Chg lo hi w w') {g i : Nat} (hl : lo ≤ g) (hh : g < hi) (v : Value) : Chg lo hi w (w'.setCell ⟨g, i, none⟩ v) :=
  ⟨h.os, h.tape, h.output, by simpa using h.size, fun j hj hn => (Below.heap_setCell w' ⟨g, i, none⟩ v j (fun e => hn (by subst e; exact ⟨hl, hh⟩))).trans (h.block j hj hn)⟩
theorem Chg.drewN {lo hi : Nat} {w w' : World} (h : Chg lo hi w w') (n : Nat) : Chg lo hi w (w'.drewN n) := ⟨h.os, h.tape, h.output, h.size, h.block⟩
theorem Chg.below {lo hi B : Nat} {w0 w w' : World} (h : Chg lo hi w w') (hb : Below B w0 w) (hB : B ≤ lo) (hBw : B ≤ w.heap.size) : Below B w0 w' :=
  hb.trans ⟨h.os, h.tape, h.output, h.size, fun j hj => h.block j (by omega) (by omega)⟩
/-- a key's block holds bytes -/
def Kb (w : World) (gl lo hi : Nat) (x : RV) : Prop :=
  (x.1.1 = none ∧ x.1.2.2 = 0) ∨ ∃ (g : Nat) (bs : List UInt8), x.1.1 = some ⟨g, 0, none⟩ ∧ w.heap[g]? = some (.cells (bs.map Bf).toArray 5 (0, 0)) ∧ bs.length = x.1.2.2 ∧ g ≠ gl ∧ lo ≤ g ∧ g < hi ∧ x.1.2.2 ≤ 9223372036854775807
theorem Kb.setL {w : World} {gl lo hi i : Nat} {x : RV} (h : Kb w gl lo hi x) {v : Value} : Kb (w.setCell ⟨gl, i, none⟩ v) gl lo hi x := by
  rcases h with h | ⟨g', bs, h1, h2, h3, h4, h5⟩
  · exact .inl h
  · exact .inr ⟨g', bs, h1, (Below.heap_setCell w ⟨gl, i, none⟩ _ g' h4).trans h2, h3, h4, h5⟩
end Go.Proofs.Ytljcogimeimknaa
/- A reader of streams and the document's, side by side over one feed: what stands of both; the law's stands. No condition. -/
namespace Go.Proofs.Ytljcogimeimknaa
open Go.RowKit Go.Shelf
set_option linter.unusedVariables false
set_option linter.unusedSimpArgs false

section
variable {w0 w w' w1 : World} {bs : List UInt8} {lo gs g gi gt g2 gi2 : Nat} {bg : Bool} {S S' : Nat → Prop} {lv rv lv' rv' : Value} {vs vs' : List RV} {s s' s1 : RS} {who who' : Nat → Nat}
end
end Go.Proofs.Ytljcogimeimknaa
/- A reader of streams: a Block gives a row more, or nothing: plain. No condition. -/
namespace Go.Proofs.Ytljcogimeimknaa
open Go.RowKit Go.Shelf
set_option linter.unusedVariables false

/-- a Block gives a row more, or nothing -/
def Grows (s : RS) (X : RX) : Prop := (X.1.2 = true ∧ ∃ r, X.2.rows = s.rows ++ [r]) ∨ (X.1.2 = false ∧ X.1.1 = [] ∧ X.2.rows = s.rows)
theorem Grows.len {s : RS} {X : RX} (h : Grows s X) : X.2.rows.length = s.rows.length + (if X.1.2 = true then 1 else 0) := by
  rcases h with ⟨h, r, e⟩ | ⟨h, _, e⟩
  · rw [h, e]; simp
  · rw [h, e]; simp
theorem fail_grows {s s0 : RS} (h : s0.rows = s.rows) (c : CIn Src) (e : Int) (p : Nat) : Grows s (s0.fail c e p) := .inr ⟨rfl, rfl, h⟩
theorem ftE_grows (s : RS) (p : Nat) (X : Bool × Int × CIn Src) : Grows s (ftE s p X) := by
  unfold ftE
  split
  · exact fail_grows rfl _ _ _
  split
  · exact fail_grows rfl _ _ _
  · exact .inr ⟨rfl, rfl, rfl⟩
theorem ftT_grows (s : RS) (b p : Nat) (X : List UInt8 × Int × CIn Src) : Grows s (ftT s b p X) := by
  unfold ftT
  split
  · exact fail_grows rfl _ _ _
  split
  · exact fail_grows rfl _ _ _
  · exact ftE_grows _ _ _
theorem ftD_grows (M : Int) (s : RS) (b p : Nat) (X : List UInt8 × Int × Nat × CIn Src) : Grows s (ftD M s b p X) := by
  unfold ftD
  split
  · exact fail_grows rfl _ _ _
  split
  · exact fail_grows rfl _ _ _
  · exact ftT_grows _ _ _ _
theorem ftN_grows (M : Int) (s : RS) (b p : Nat) (X : Nat × Int × CIn Src) : Grows s (ftN M s b p X) := by
  unfold ftN
  split
  · exact fail_grows rfl _ _ _
  split
  · exact fail_grows rfl _ _ _
  · exact ftD_grows _ _ _ _ _
theorem frL_grows (s : RS) (b p : Nat) (c : CIn Src) (X : List Ent × Nat × Int) : Grows s (frL s b p c X) := by
  unfold frL
  split
  · exact fail_grows rfl _ _ _
  split
  · exact fail_grows rfl _ _ _
  · exact .inl ⟨rfl, _, rfl⟩
theorem frD_grows (s : RS) (b p : Nat) (X : List UInt8 × Int × Nat × CIn Src) : Grows s (frD s b p X) := by
  unfold frD
  split
  · exact fail_grows rfl _ _ _
  · exact frL_grows _ _ _ _ _
theorem frN_grows (M : Int) (s : RS) (b p : Nat) (X : Nat × Int × CIn Src) : Grows s (frN M s b p X) := by
  unfold frN
  split
  · exact fail_grows rfl _ _ _
  split
  · exact fail_grows rfl _ _ _
  · exact frD_grows _ _ _ _
theorem frM_grows (M : Int) (s : RS) : Grows s (frM M s) := by
  unfold frM frK
  split
  · exact fail_grows rfl _ _ _
  split
  · exact ftN_grows _ _ _ _ _
  split
  · exact fail_grows rfl _ _ _
  split
  · exact fail_grows rfl _ _ _
  · exact frN_grows _ _ _ _ _
theorem nxM_grows (M : Int) (s : RS) : Grows s (nxM M s) := by
  unfold nxM
  split
  · unfold hdM hdH
    split
    · exact fail_grows rfl _ _ _
    split
    · exact fail_grows rfl _ _ _
    · exact frM_grows M { s with c := _, ph := 1 }
  split
  · exact frM_grows _ _
  · exact .inr ⟨rfl, rfl, rfl⟩
end Go.Proofs.Ytljcogimeimknaa
