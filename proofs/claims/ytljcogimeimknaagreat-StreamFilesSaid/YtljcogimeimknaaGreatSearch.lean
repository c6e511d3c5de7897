/- sort.Search with a question that only reads: contract. Conditions: the question answers within the bounds. -/
import Derived.Test.YtljcogimeimknaaGreatK8a
import Derived.IntWalk
import Derived.Deep.Cut
import Derived.Conc.MuLone
namespace Go.Proofs.YtljcogimeimknaaGreat
open Go.RowKit

set_option maxRecDepth 100000 in
set_option maxHeartbeats 1000000 in
theorem search_any (fn : FuncId) (c1 c2 : Value) (n : Nat) (q : Nat → Bool) (w : World) (hn : n ≤ 4611686018427387903)
    (hr : ∀ (args : Array Value) (W : World), (callFunc fn args).run Tryz.prog W = .ok (.enter fn args) W)
    (h : ∀ (i : Nat) (W : World), i < n → Drw w W → Calls Tryz.prog fn #[.int .i64 (i : Nat), c1, c2] W fun e w' => e = .returned (.bool (q i)) ∧ Drw W w') :
    Calls Tryz.prog 89 #[.int .i64 (n : Nat), .func (.func fn) #[] #[c1, c2]] w fun e w' => (∃ r : Nat, e = .returned (.int .i64 (r : Nat)) ∧ r ≤ n ∧ (0 < r → q (r - 1) = false) ∧ (r < n → q r = true)) ∧ Drw w w' := by
  have H := Lib.hid h; clear h
  go_enter Tryz.func89, Tryz.ntmps89
  go_wp2_with fail
  go_loopw [5, 6] (fun i j wr => ∃ x y : Nat, i = .int .i64 (x : Nat) ∧ j = .int .i64 (y : Nat) ∧ x ≤ y ∧ y ≤ n ∧ (0 < x → q (x - 1) = false) ∧ (y < n → q y = true) ∧ Drw w wr) (fun i j _ => (intOf j).toNat - (intOf i).toNat)
  case atStart => exact ⟨0, n, rfl, rfl, Nat.zero_le _, Nat.le_refl _, fun h => by omega, fun h => by omega, Drw.refl _⟩
  case round =>
    obtain ⟨x, y, rfl, rfl, hxy, hy, h0, h1, hd⟩ := hrel
    have H0 := Lib.hid h0; have H1 := Lib.hid h1; have D := Lib.hid hd
    clear h0 h1 hd
    by_cases hlt : x < y
    · obtain ⟨m, hm⟩ : ∃ m, (x + y) / 2 = m := ⟨_, rfl⟩
      have r1 : IntKind.i64.wrap ((x : Int) + y) = (x : Int) + y := IntWalk.i64_in _ (by omega)
      have r2 : IntKind.u64.wrap ((x : Int) + y) = (x : Int) + y := by rw [IntKind.wrap_u64]; omega
      have r3 : ((x : Int) + y) / 2 = (m : Nat) := by omega
      have r4 : IntKind.i64.wrap (m : Int) = m := IntWalk.i64_in _ (by omega)
      have r5 : IntKind.u64.wrap (m : Int) = m := by rw [IntKind.wrap_u64]; omega
      have hm1 : x ≤ m := by omega
      have hm2 : m < y := by omega
      have HC := Lib.hid (H.out m wr (by omega) D.out)
      obtain ⟨b, hb⟩ : ∃ b, q m = b := ⟨_, rfl⟩
      rw [hb] at HC
      have HB := Lib.hid hb
      clear hb hm
      go_wp2_with fail
      refine HC.out.mono ?_
      rintro e w2 ⟨rfl, hd⟩
      have D2 := Lib.hid (D.out.trans hd)
      clear hd r1 r2 r3 r4 r5 HC hr
      cases b with
      | true =>
        go_wp2_with fail
        go_roundw
        case rel => exact ⟨x, m, rfl, rfl, hm1, by omega, H0.out, fun _ => HB.out, D2.out⟩
        case measure => simp [intOf]; omega
      | false =>
        go_wp2_with fail
        go_roundw
        case rel => exact ⟨m + 1, y, by go_num, rfl, by omega, hy, fun _ => HB.out, H1.out, D2.out⟩
        case measure => simp [intOf]; omega
    · obtain rfl : x = y := by omega
      go_wp2_with fail
      go_ret
      exact ⟨⟨x, rfl, hy, H0.out, H1.out⟩, D.out⟩
end Go.Proofs.YtljcogimeimknaaGreat
