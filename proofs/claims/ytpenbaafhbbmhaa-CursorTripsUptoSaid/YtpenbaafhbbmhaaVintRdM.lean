/- What a list shows at a place. No condition. -/
import Derived.Test.YtpenbaafhbbmhaaVintTake
import Derived.WalkMore
import Derived.Test.YtpenbaafhbbmhaaByte
namespace Go.Proofs.Ytpenbaafhbbmhaa
set_option linter.unusedVariables false
open Go.RowKit

theorem vdrop_cons {xs : List UInt8} {k : Nat} {x : UInt8} (h : xs[k]? = some x) : xs.drop k = x :: xs.drop (k + 1) := by
  obtain ⟨hk, e⟩ := List.getElem?_eq_some_iff.1 h
  rw [List.drop_eq_getElem_cons hk, e]
end Go.Proofs.Ytpenbaafhbbmhaa
