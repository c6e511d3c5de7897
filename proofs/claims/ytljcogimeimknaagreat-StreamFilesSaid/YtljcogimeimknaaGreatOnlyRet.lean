/- What stands behind a body that returns: false at every other way out; several new blocks; a range left by its end or a break. No condition. -/
import Derived.Test.YtljcogimeimknaaGreatRange
import Derived.Test.YtljcogimeimknaaGreatK8a
namespace Go.Proofs.YtljcogimeimknaaGreat
open Go.RowKit
set_option linter.unusedVariables false
theorem allocs_get (w : World) : ∀ (os : List Obj), (os.foldl World.alloc w).heap.size = w.heap.size + os.length ∧ Below w.heap.size w (os.foldl World.alloc w) ∧ ∀ i o, os[i]? = some o → (os.foldl World.alloc w).heap[w.heap.size + i]? = some o := by
  intro os
  have main : ∀ r : List Obj, (r.reverse.foldl World.alloc w).heap.size = w.heap.size + r.reverse.length ∧ Below w.heap.size w (r.reverse.foldl World.alloc w) ∧ ∀ i o, r.reverse[i]? = some o → (r.reverse.foldl World.alloc w).heap[w.heap.size + i]? = some o := by
    intro r
    induction r with
    | nil => exact ⟨rfl, Below.refl _ _, fun i o h => by simp at h⟩
    | cons x r ih =>
      obtain ⟨h1, h2, h3⟩ := ih
      rw [List.reverse_cons, List.foldl_append]
      generalize r.reverse = q at *
      show ((q.foldl World.alloc w).alloc x).heap.size = _ ∧ Below w.heap.size w ((q.foldl World.alloc w).alloc x) ∧ ∀ i o, _ → ((q.foldl World.alloc w).alloc x).heap[w.heap.size + i]? = some o
      refine ⟨by simp [h1]; omega, h2.alloc (by omega) _, fun i o hi => ?_⟩
      by_cases hq : i < q.length
      · rw [List.getElem?_append_left hq] at hi
        exact (Below.heap_alloc _ x _ (by rw [h1]; omega)).trans (h3 i o hi)
      · rw [List.getElem?_append_right (by omega)] at hi
        have hi0 : i - q.length = 0 := by have := (List.getElem?_eq_some_iff.1 hi).1; simp at this; omega
        rw [hi0] at hi
        obtain rfl : x = o := by simpa using hi
        have hw : w.heap.size + i = (q.foldl World.alloc w).heap.size := by rw [h1]; omega
        rw [hw]; exact heap_new _ _
  have := main os.reverse
  rwa [List.reverse_reverse] at this
end Go.Proofs.YtljcogimeimknaaGreat
