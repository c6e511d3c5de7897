/- Append onto a typed row, in a fence (within a range over a function). No condition but the sizes. -/
import Derived.Test.YtljcogimeimknaaK8a
import Derived.OwnWalkIn
import Derived.RangeFuncWrites
namespace Go.Proofs.Ytljcogimeimknaa
open Go.RowKit
/-- a step of append's: what is no cells stays -/
theorem keepsFrom_own {α : Type} {f : α → List Value} {B base : Nat} {e : TypeId} {W W' : World} {v : Value} {xs : List α} (ho : OwT f W base e v xs) (hg : W.grownBy W' v.ownBlock) : KeepsFrom B W W' := by
  refine ⟨hg.size, fun k o _ hk hc => (hg.block k (Array.getElem?_eq_some_iff.1 hk).1 fun e => ?_).trans hk⟩
  rcases ho with ⟨rfl, _⟩ | ⟨g, cap, ys, rfl, _, hh, _⟩
  · cases e
  · cases e; rw [hh] at hk; cases hk; cases hc
end Go.Proofs.Ytljcogimeimknaa
