/- sort.Search over a block's restarts: contract. Conditions: few restarts; the asked function tells of each number. -/
import Derived.Test.YtljcogimeimknaaGreatBlockFindM
import Derived.Test.YtljcogimeimknaaGreatK8b
import Derived.Test.YtljcogimeimknaaGreatK8a
namespace Go.Proofs.YtljcogimeimknaaGreat
open Go.RowKit
set_option linter.unusedVariables false
set_option linter.unusedSimpArgs false

set_option maxRecDepth 100000 in
set_option maxHeartbeats 2000000 in
theorem bsearch_any (x3 x10 x5 : Value) (m : Nat) (p : Nat → Bool) (w : World) (hm : m ≤ 1000000)
    (hp : ∀ (i : Nat) (W : World), i < m → Below w.heap.size w W → Calls Tryz.prog 134 #[.int .i64 (i : Nat), x3, x10, x5] W fun e w' => e = .returned (.bool (p i)) ∧ Below W.heap.size W w') :
    Calls Tryz.prog 89 #[.int .i64 (m : Nat), .func (.func 134) #[] #[x3, x10, x5]] w fun e w' => (∃ r : Nat, r ≤ m ∧ (r = 0 ∨ p (r - 1) = false) ∧ (r = m ∨ p r = true) ∧ e = .returned (.int .i64 (r : Nat))) ∧ Below w.heap.size w w' := by
  have HP := Lib.hid hp
  clear hp
  go_enter Tryz.func89, Tryz.ntmps89
  go_wp2_with fail
  go_loopw [5, 6] (fun i j wr => ∃ a c : Nat, i = .int .i64 (a : Nat) ∧ j = .int .i64 (c : Nat) ∧ a ≤ c ∧ c ≤ m ∧ (a = 0 ∨ p (a - 1) = false) ∧ (c = m ∨ p c = true) ∧ Below w.heap.size w wr) (fun i j _ => (intOf j).toNat - (intOf i).toNat)
  case atStart => exact ⟨0, m, rfl, rfl, Nat.zero_le _, Nat.le_refl _, .inl rfl, .inl rfl, Below.refl _ _⟩
  case round =>
    obtain ⟨a, c, rfl, rfl, hac, hcm, hlo, hhi, hb⟩ := hrel
    have HB := Lib.hid hb
    have HLO := Lib.hid hlo
    have HHI := Lib.hid hhi
    clear hb hlo hhi
    by_cases hlt : a < c
    · have t1 : decide ((a : Int) < (c : Nat)) = true := decide_eq_true (by omega)
      have t1' : decide (a < c) = true := decide_eq_true hlt
      obtain ⟨h, hh⟩ : ∃ h : Nat, (a + c) / 2 = h := ⟨_, rfl⟩
      have hah : a ≤ h := by omega
      have hhc : h < c := by omega
      go_wp2_with fail
      have hhe : ((a : Int) + c) / 2 = (h : Nat) := by omega
      rw [hhe]
      refine (HP.out h wr (by omega) HB.out).mono ?_
      rintro e w1 ⟨rfl, hb1⟩
      have B1 := Lib.hid (HB.out.trans (hb1.mono HB.out.size))
      clear hb1 hhe
      cases hph : p h with
      | true =>
        have HPH := Lib.hid hph
        clear hph
        go_wp2_with fail
        go_roundw
        case rel => exact ⟨a, h, rfl, rfl, hah, by omega, HLO.out, .inr HPH.out, B1.out⟩
        case measure => simp [intOf]; omega
      | false =>
        have HPH := Lib.hid hph
        clear hph
        have r1 : IntKind.i64.wrap ((h : Int) + 1) = ((h + 1 : Nat) : Int) := by have := IntWalk.i64_in ((h : Int) + 1) (by omega); rw [this]; omega
        go_wp2_with fail
        go_roundw
        case rel => exact ⟨h + 1, c, by simp, rfl, by omega, hcm, .inr (by rw [Nat.add_sub_cancel]; exact HPH.out), HHI.out, B1.out⟩
        case measure => simp [intOf]; omega
    · have t1 : decide ((a : Int) < (c : Nat)) = false := decide_eq_false (by omega)
      have t1' : decide (a < c) = false := decide_eq_false hlt
      go_wp2_with fail
      go_ret
      refine ⟨⟨a, by omega, HLO.out, ?_, rfl⟩, HB.out⟩
      have : a = c := by omega
      subst this
      exact HHI.out
end Go.Proofs.YtljcogimeimknaaGreat
