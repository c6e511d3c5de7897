/- What stands behind a body that returns: false at every other way out; several new blocks; a range left by its end or a break. No condition. -/
import Derived.Test.YtljcogimeimknaaRange
import Derived.Test.YtljcogimeimknaaK8a
namespace Go.Proofs.Ytljcogimeimknaa
open Go.RowKit
set_option linter.unusedVariables false
def onlyRet (Q : Exit → Act → World → Prop) : Exit → Act → World → Prop
  | .ret, a, w => Q .ret a w
  | _, _, _ => False
theorem onlyRet_imp {Q : Exit → Act → World → Prop} : ∀ e a w, onlyRet Q e a w → Q e a w := by
  intro e a w h
  cases e with
  | ret => exact h
  | _ => exact h.elim
theorem allocs_get (w : World) : ∀ (os : List Obj), (os.foldl World.alloc w).heap.size = w.heap.size + os.length ∧ Below w.heap.size w (os.foldl World.alloc w) ∧ ∀ i o, os[i]? = some o → (os.foldl World.alloc w).heap[w.heap.size + i]? = some o := by
  intro os
  have main : ∀ r : List Obj, (r.reverse.foldl World.alloc w).heap.size = w.heap.size + r.reverse.length ∧ Below w.heap.size w (r.reverse.foldl World.alloc w) ∧ ∀ i o, r.reverse[i]? = some o → (r.reverse.foldl World.alloc w).heap[w.heap.size + i]? = some o := by
    intro r
    induction r with
    | nil => exact ⟨rfl, Below.refl _ _, fun i o h => by simp at h⟩
    | cons x r ih =>
      obtain ⟨h1, h2, h3⟩ := ih
      rw [List.reverse_cons, List.foldl_append]
      generalize r.reverse = q at *
      show ((q.foldl World.alloc w).alloc x).heap.size = _ ∧ Below w.heap.size w ((q.foldl World.alloc w).alloc x) ∧ ∀ i o, _ → ((q.foldl World.alloc w).alloc x).heap[w.heap.size + i]? = some o
      refine ⟨by simp [h1]; omega, h2.alloc (by omega) _, fun i o hi => ?_⟩
      by_cases hq : i < q.length
      · rw [List.getElem?_append_left hq] at hi
        exact (Below.heap_alloc _ x _ (by rw [h1]; omega)).trans (h3 i o hi)
      · rw [List.getElem?_append_right (by omega)] at hi
        have hi0 : i - q.length = 0 := by have := (List.getElem?_eq_some_iff.1 hi).1; simp at this; omega
        rw [hi0] at hi
        obtain rfl : x = o := by simpa using hi
        have hw : w.heap.size + i = (q.foldl World.alloc w).heap.size := by rw [h1]; omega
        rw [hw]; exact heap_new _ _
  have := main os.reverse
  rwa [List.reverse_reverse] at this
theorem turns_put {w : World} {g : Nat} (o : Obj) : Turns (fun j => j = g) w (w.putObj g o) := by
  have h := grownBy_putObj' w g o
  exact ⟨h.os, h.tape, h.output, h.size, fun j hj hn => h.block j hj (fun e => by injection e with e; exact hn e)⟩
/-- A RANGE LEFT AT ITS END OR BY A BREAK: both ways meet. -/
theorem range_cut {F : Fence} {n : Nat} {P : Program} {c : Code} {K : Act → World → Prop} {Q' : Exit → Act → World → Prop} {t : Array Value} {ds0 : List Deferred} {w : World} {id : Nat} (R : List Deferred → World → Prop) (rest : ∀ ds W, R ds W → K { tmps := t, defers := ds } W)
    (first : ∀ J : List Deferred → World → Prop, (∀ ds W, R ds W → J ds W) → c.wpIn F n P (fun e a' W => (e = .normal ∨ e = .exit id) ∧ a'.tmps = t ∧ J a'.defers W) { tmps := t, defers := ds0 } w) : c.wpIn F n P (Exit.inBlock id (Exit.then K Q')) { tmps := t, defers := ds0 } w := by
  refine wpIn_mono (first R fun _ _ q => q) ?_
  rintro e ⟨t', ds⟩ W ⟨h, rfl, hr⟩
  rcases h with rfl | rfl
  · simp only [Exit.inBlock]
    exact rest _ _ hr
  · simp only [Exit.inBlock, if_true]
    exact rest _ _ hr
theorem yield_mono {F : Fence} {n : Nat} {P : Program} {l : Nat} {args : Array Value} {W : World} {R R' : Ending → World → Prop} (h : YieldAt F n P l args W R) (hm : ∀ e W', R e W' → R' e W') : YieldAt F n P l args W R' := by
  obtain ⟨fn', tm, asg, bod, hy, hR⟩ := h
  exact ⟨fn', tm, asg, bod, hy, hR.mono hm⟩
end Go.Proofs.Ytljcogimeimknaa
