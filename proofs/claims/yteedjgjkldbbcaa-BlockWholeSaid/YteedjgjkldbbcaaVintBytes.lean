/- The bytes of a number: contract. Condition: the number fits. -/
import Derived.Test.YteedjgjkldbbcaaVintPut
namespace Go.Proofs.Yteedjgjkldbbcaa
open Go.RowKit

theorem vbytes_any (n : Nat) (w : World) (hn : n < 18446744073709551616) :
    Calls Try.prog 49 #[.int .u64 n] w fun e w' => ∃ v, e = .returned v ∧ OwT fB w' w.heap.size 5 v (vb n) ∧ Below w.heap.size w w' := by
  have HN := Lib.hid hn; clear hn
  go_enter Try.func49, Try.ntmps49
  go_wp2_with fail
  refine (vput_any _ [] w.heap.size n _ (Nat.le_refl _) (by simp) HN.out (OwT.nil _ _ _ _)).mono ?_
  rintro e w' ⟨v, rfl, hv, hb⟩
  go_wp2_with fail
  go_ret
  exact ⟨_, rfl, hv, hb⟩
end Go.Proofs.Yteedjgjkldbbcaa
