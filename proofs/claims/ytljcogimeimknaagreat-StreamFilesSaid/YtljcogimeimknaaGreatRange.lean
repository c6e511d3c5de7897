/- A range over a function, told by its record: one round; the statement, outermost and within a round. No condition. -/
import Derived.Test.YtljcogimeimknaaGreatK8a
import Derived.RangeFuncBox
import Derived.RangeFuncNested
import Derived.RangeFuncBound
import Derived.RangeFuncCalls
import Derived.RangeFuncLeaves
namespace Go.Proofs.YtljcogimeimknaaGreat
open Go.RowKit

section
variable {F : Fence} {n : Nat} {P : Program}
end
end Go.Proofs.YtljcogimeimknaaGreat
