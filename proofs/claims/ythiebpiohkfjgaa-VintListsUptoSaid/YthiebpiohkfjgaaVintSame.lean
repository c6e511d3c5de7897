/- sameNumbers: contract. Conditions: the slices within reach. -/
import Derived.Test.YthiebpiohkfjgaaVintJoin
namespace Go.Proofs.Ythiebpiohkfjgaa
open Go.RowKit

theorem take_snoc_n {l r : List Nat} {k : Nat} {x y : Nat} (hx : l[k]? = some x) (hy : r[k]? = some y) (h : l.take k = r.take k) : l.take (k + 1) = r.take (k + 1) ↔ x = y := by
  rw [List.take_add_one, List.take_add_one, hx, hy, h]; simp

set_option maxHeartbeats 400000 in
theorem sameNum_any (a : Option Addr) (n c : Nat) (xs : List Nat) (a' : Option Addr) (c' : Nat) (w : World) (hn : n ≤ 9223372036854775807)
    (h : Sl Nf w a n c xs) (h' : Sl Nf w a' n c' xs) :
    Calls Try.prog 28 #[.slice a n c, .slice a' n c'] w fun e w' => e = .returned (.bool true) ∧ Below w.heap.size w w' := by
  have H := Lib.hid h; clear h
  have H' := Lib.hid h'; clear h'
  go_enter Try.func28, Try.ntmps28
  go_wp2_with fail
  go_loopw [5] (fun i wr => ∃ k : Nat, k ≤ n ∧ i = .int .i64 k ∧ Below w.heap.size w wr) (fun i _ => n - (intOf i).toNat)
  case atStart => exact ⟨0, Nat.zero_le _, rfl, Below.refl _ _⟩
  case round =>
    obtain ⟨k, hk, rfl, hb⟩ := hrel
    have HB := Lib.hid hb; clear hb
    by_cases hlt : k < n
    · obtain ⟨x, b, o, hx, rfl, hc⟩ := (H.out.keep HB.out).at k hlt
      obtain ⟨y, b', o', hy, rfl, hc'⟩ := (H'.out.keep HB.out).at k hlt
      obtain rfl : x = y := by rw [hx] at hy; exact Option.some.inj hy
      have hc : wr.cell? ⟨b, o + k, none⟩ = some (.int .u64 x) := hc
      have hc' : wr.cell? ⟨b', o' + k, none⟩ = some (.int .u64 x) := hc'
      clear hx hy
      go_wp2_with fail
      go_quiet (fail)
      go_wp2_with fail
      go_roundw
      case rel => exact ⟨k + 1, by omega, by go_num, keep_drewN HB.out _⟩
      case measure => simp [intOf]; omega
    · go_wp2_with fail
      go_ret
      exact ⟨ret_bool rfl, HB.out⟩
end Go.Proofs.Ythiebpiohkfjgaa
