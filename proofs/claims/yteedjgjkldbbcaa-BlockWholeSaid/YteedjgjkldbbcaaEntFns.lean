/- May an entry be, do entries rise, copies of entries with marks, are they kept: contracts, the program's and the reference's. Conditions: the slices within reach. -/
import Derived.Test.YteedjgjkldbbcaaEntM
import Derived.Test.YteedjgjkldbbcaaBCmp
import Derived.Test.YteedjgjkldbbcaaRCmp
import Derived.Test.YteedjgjkldbbcaaPCom
import Derived.Test.YteedjgjkldbbcaaClone
import Derived.Lib.SliceRun
import Derived.Laws.CopyOwn
import Derived.Deep.RegionWith
import Derived.Deep.RegionLaw
import Derived.Deep.DeepCutAuto
import Derived.Test.YteedjgjkldbbcaaStr
import Derived.Deep.LoopGhost
import Derived.IntWalk
namespace Go.Proofs.Yteedjgjkldbbcaa
open Go.RowKit

theorem keyn_any (a : Option Addr) (n c : Nat) (w : World) (hn : n ≤ 140737488351232) :
    Calls Try.prog 65 #[.slice a n c] w fun e w' => e = .returned (.int .i64 (keyN n : Nat)) ∧ w' = w := by
  by_cases h : n = 0 ∨ 64 < n
  · have hk : keyN n = 3 := by unfold keyN; rw [if_pos h]
    have HK := Lib.hid hk; clear hk
    by_cases h0 : n = 0
    · subst h0
      go_enter Try.func65, Try.ntmps65
      go_wp2_with fail
      go_ret
      exact ⟨ret_int (by rw [HK.out]; rfl), rfl⟩
    · have f1 : ((n : Int) == 0) = false := by rw [beq_eq_false_iff_ne]; omega
      have f2 : (n == 0) = false := by rw [beq_eq_false_iff_ne]; omega
      have f3 : (n : Int) > 64 := by omega
      clear h h0
      go_enter Try.func65, Try.ntmps65
      go_wp2_with fail
      go_ret
      exact ⟨ret_int (by rw [HK.out]; rfl), rfl⟩
  · have hk : keyN n = 0 := by unfold keyN; rw [if_neg h]
    have HK := Lib.hid hk; clear hk
    have f1 : ((n : Int) == 0) = false := by rw [beq_eq_false_iff_ne]; omega
    have f2 : (n == 0) = false := by rw [beq_eq_false_iff_ne]; omega
    have f3 : ¬ (n : Int) > 64 := by omega
    clear h
    go_enter Try.func65, Try.ntmps65
    go_wp2_with fail
    go_ret
    exact ⟨ret_int (by rw [HK.out]; rfl), rfl⟩
theorem rkeyn_any (a : Option Addr) (n c : Nat) (w : World) (hn : n ≤ 140737488351232) :
    Calls Try.prog 70 #[.slice a n c] w fun e w' => e = .returned (.int .i64 (keyN n : Nat)) ∧ w' = w := by
  by_cases h : n = 0 ∨ 64 < n
  · have hk : keyN n = 3 := by unfold keyN; rw [if_pos h]
    have HK := Lib.hid hk; clear hk
    by_cases h0 : (n : Int) < 1
    · go_enter Try.func70, Try.ntmps70
      go_wp2_with fail
      go_ret
      exact ⟨ret_int (by rw [HK.out]; rfl), rfl⟩
    · have f3 : (n : Int) > 64 := by omega
      clear h
      go_enter Try.func70, Try.ntmps70
      go_wp2_with fail
      go_ret
      exact ⟨ret_int (by rw [HK.out]; rfl), rfl⟩
  · have hk : keyN n = 0 := by unfold keyN; rw [if_neg h]
    have HK := Lib.hid hk; clear hk
    have f1 : ¬ (n : Int) < 1 := by omega
    have f3 : ¬ (n : Int) > 64 := by omega
    clear h
    go_enter Try.func70, Try.ntmps70
    go_wp2_with fail
    go_ret
    exact ⟨ret_int (by rw [HK.out]; rfl), rfl⟩
theorem valn_any (a : Option Addr) (n c : Nat) (w : World) (hn : n ≤ 140737488351232) :
    Calls Try.prog 66 #[.slice a n c] w fun e w' => e = .returned (.int .i64 (valN n : Nat)) ∧ w' = w := by
  by_cases h : 256 < n
  · have hk : valN n = 3 := by unfold valN; rw [if_pos h]
    have HK := Lib.hid hk; clear hk
    have f3 : (n : Int) > 256 := by omega
    go_enter Try.func66, Try.ntmps66
    go_wp2_with fail
    go_ret
    exact ⟨ret_int (by rw [HK.out]; rfl), rfl⟩
  · have hk : valN n = 0 := by unfold valN; rw [if_neg h]
    have HK := Lib.hid hk; clear hk
    have f3 : ¬ (n : Int) > 256 := by omega
    go_enter Try.func66, Try.ntmps66
    go_wp2_with fail
    go_ret
    exact ⟨ret_int (by rw [HK.out]; rfl), rfl⟩
theorem rvaln_any (a : Option Addr) (n c : Nat) (w : World) (hn : n ≤ 140737488351232) :
    Calls Try.prog 71 #[.slice a n c] w fun e w' => e = .returned (.int .i64 (valN n : Nat)) ∧ w' = w := by
  by_cases h : 256 < n
  · have hk : valN n = 3 := by unfold valN; rw [if_pos h]
    have HK := Lib.hid hk; clear hk
    have f3 : (n : Int) > 256 := by omega
    go_enter Try.func71, Try.ntmps71
    go_wp2_with fail
    go_ret
    exact ⟨ret_int (by rw [HK.out]; rfl), rfl⟩
  · have hk : valN n = 0 := by unfold valN; rw [if_neg h]
    have HK := Lib.hid hk; clear hk
    have f3 : ¬ (n : Int) > 256 := by omega
    go_enter Try.func71, Try.ntmps71
    go_wp2_with fail
    go_ret
    exact ⟨ret_int (by rw [HK.out]; rfl), rfl⟩
theorem keyN_cases (n : Nat) : keyN n = 0 ∨ keyN n = 3 := by unfold keyN; split <;> simp
theorem valN_cases (n : Nat) : valN n = 0 ∨ valN n = 3 := by unfold valN; split <;> simp
set_option maxRecDepth 100000 in
set_option maxHeartbeats 400000 in
theorem check_any (ak : Option Addr) (nk ck : Nat) (av : Option Addr) (nv cv : Nat) (w : World) (hk : nk ≤ 140737488351232) (hv : nv ≤ 140737488351232) :
    Calls Try.prog 42 #[.agg #[.slice ak nk ck, .slice av nv cv]] w fun e w' => e = .returned (.int .i64 (chkN nk nv : Nat)) ∧ Below w.heap.size w w' := by
  have e1 := keyN_cases nk
  have e2 := valN_cases nv
  obtain ⟨x, hx⟩ : ∃ x, keyN nk = x := ⟨_, rfl⟩
  obtain ⟨y, hy⟩ : ∃ y, valN nv = y := ⟨_, rfl⟩
  have hc : chkN nk nv = max x y := by unfold chkN; rw [hx, hy]
  rw [hx] at e1; rw [hy] at e2
  have k1 := fun W : World => keyn_any ak nk ck W hk
  have k2 := fun W : World => valn_any av nv cv W hv
  rw [hx] at k1; rw [hy] at k2
  have K1 := Lib.hid k1; clear k1
  have K2 := Lib.hid k2; clear k2 hx hy
  have HC := Lib.hid hc; clear hc
  rcases e1 with rfl | rfl <;> rcases e2 with rfl | rfl
  all_goals
    go_enter Try.func42, Try.ntmps42
    go_wp2_with fail
    go_quiet ((first
      | (go_at_call 65; exact Calls.quiet_of_same (K1.out _))
      | (go_at_call 66; exact Calls.quiet_of_same (K2.out _))))
    go_wp2_with fail
    go_ret
    exact ⟨ret_int (by rw [HC.out]; rfl), keep_drewN ((Below.refl _ _).alloc (Nat.le_refl _) _) _⟩
set_option maxRecDepth 100000 in
set_option maxHeartbeats 400000 in
theorem rcheck_any (ak : Option Addr) (nk ck : Nat) (av : Option Addr) (nv cv : Nat) (w : World) (hk : nk ≤ 140737488351232) (hv : nv ≤ 140737488351232) :
    Calls Try.prog 46 #[.agg #[.slice ak nk ck, .slice av nv cv]] w fun e w' => e = .returned (.int .i64 (chkN nk nv : Nat)) ∧ Below w.heap.size w w' := by
  have e1 := keyN_cases nk
  have e2 := valN_cases nv
  obtain ⟨x, hx⟩ : ∃ x, keyN nk = x := ⟨_, rfl⟩
  obtain ⟨y, hy⟩ : ∃ y, valN nv = y := ⟨_, rfl⟩
  have hc : chkN nk nv = max x y := by unfold chkN; rw [hx, hy]
  rw [hx] at e1; rw [hy] at e2
  have k1 := fun W : World => rkeyn_any ak nk ck W hk
  have k2 := fun W : World => rvaln_any av nv cv W hv
  rw [hx] at k1; rw [hy] at k2
  have K1 := Lib.hid k1; clear k1
  have K2 := Lib.hid k2; clear k2 hx hy
  have HC := Lib.hid hc; clear hc
  rcases e1 with rfl | rfl
  · go_enter Try.func46, Try.ntmps46
    go_wp2_with fail
    refine (K1.out _).mono ?_
    rintro e w2 ⟨rfl, h2⟩
    obtain rfl := h2.symm
    go_wp2_with fail
    refine (K2.out _).mono ?_
    rintro e w2 ⟨rfl, h2⟩
    obtain rfl := h2.symm
    go_wp2_with fail
    go_ret
    exact ⟨ret_int (by rw [HC.out]; simp), (Below.refl _ _).alloc (Nat.le_refl _) _⟩
  · go_enter Try.func46, Try.ntmps46
    go_wp2_with fail
    refine (K1.out _).mono ?_
    rintro e w2 ⟨rfl, h2⟩
    obtain rfl := h2.symm
    go_wp2_with fail
    go_ret
    exact ⟨ret_int (by rw [HC.out]; rcases e2 with rfl | rfl <;> rfl), (Below.refl _ _).alloc (Nat.le_refl _) _⟩

theorem marked_any (a : Option Addr) (n c : Nat) (xs : List UInt8) (w : World) (hn : n ≤ 140737488351232) (h : Sl Bf w a n c xs) :
    Calls Try.prog 36 #[.slice a n c] w fun e w' => ∃ a2 c2, e = .returned (.slice a2 n c2) ∧ Mkd w' w.heap.size w'.heap.size (a2, n, c2) xs ∧ Below w.heap.size w w' := by
  obtain rfl : n = xs.length := h.len.symm
  have H := Lib.hid h; clear h
  obtain ⟨m, hm⟩ : ∃ m, xs.length + 1 = m := ⟨_, rfl⟩
  have hm1 : ((xs.length : Int) + 1) = (m : Int) := by omega
  have HM1 := Lib.hid hm1; clear hm1
  have hm2 : m ≤ 140737488351233 := by omega
  have hm3 : xs.length ≤ m := by omega
  have HM := Lib.hid hm; clear hm
  go_enter Try.func36, Try.ntmps36
  go_wp2_with (first
    | (at_make; refine wpList_mkT eltTB rfl _ _ rfl w.heap.size 0 m (Nat.zero_le _) rfl rfl rfl HM1.out (by omega) (by unfold maxLen; omega) (Nat.le_refl _) ?_; intro x0 w1 _ h1 _ hb1; have O1 := Lib.hid h1; have B1 := Lib.hid hb1; clear h1 hb1)
    | (at_builtin; refine wpList_appT eltTB rfl (.tmp 6) (.tmp 7) rfl w.heap.size _ [] (by rfl) O1.out a xs.length c xs (by rfl) (H.out.keep B1.out).toT (by simp; unfold maxLen; omega) (by simp; omega) B1.out.size xs rfl ?_; intro v2 w2 h2 hg2 hv2 hb2; obtain ⟨a2, n2, c2, rfl, z2⟩ := h2.slN; obtain rfl : xs.length = n2 := z2.len; have B2 := Lib.hid (B1.out.trans hb2); have O2 := Lib.hid h2; clear h2 hg2 hv2 hb2 z2)
    | (at_builtin; refine wpList_appT eltTB rfl (.tmp 8) (.tmp 9) rfl w.heap.size _ xs (by rfl) (O2.out.alloc _) _ 1 1 [77] (by rfl) (Sl.lit _ _ _ _ _ rfl rfl).toT (by unfold maxLen; omega) (by omega) (by have := B2.out.size; simp; omega) (xs ++ [77]) rfl ?_; intro v3 w3 h3 hg3 hv3 hb3; obtain ⟨a3, n3, c3, rfl, z3⟩ := h3.slN; obtain rfl : m = n3 := (by rw [← z3.len, List.length_append, ← HM.out]; rfl); have B3 := Lib.hid ((B2.out.alloc B2.out.size _).trans hb3); have hc3 := z3.le; have hcut := fun (W : World) => run_cutto eltB W a3 m c3 .i64 xs.length (by omega); have O3 := Lib.hid h3; clear h3 hg3 hv3 hb3 z3))
  go_ret
  have h3 := O3.out
  rw [← HM.out] at h3
  exact ⟨a3, c3, rfl, ⟨rfl, h3, h3.lt⟩, B3.out⟩
end Go.Proofs.Yteedjgjkldbbcaa
