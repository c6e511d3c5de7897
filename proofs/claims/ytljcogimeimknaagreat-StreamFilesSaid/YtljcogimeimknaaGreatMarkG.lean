/- Marks of ranges over functions, at a function's end; a range that is left by its end or a break. No condition. -/
import Derived.Test.YtljcogimeimknaaGreatRangeW
import Derived.Sort.LoopGhostIn
namespace Go.Proofs.YtljcogimeimknaaGreat
open Go.RowKit Go.Shelf
set_option linter.unusedVariables false

def mark (D : Nat) : Deferred := { target := .collected D, args := #[] }
theorem leaves_mk {F : Fence} {n : Nat} {P : Program} {fn : Func} {tmps : Array Value} {R : Ending → World → Prop} : ∀ (Ds : List Nat) (w : World), (∀ D, D ∈ Ds → w.heap[D]? = some (.deferred (some []))) → Ds.Nodup →
    (∀ w', Turns (fun j => j ∈ Ds) w w' → LeavesInM F n P fn tmps R [] .returning w') → LeavesInM F n P fn tmps R (Ds.map mark) .returning w := by
  intro Ds
  induction Ds with
  | nil => intro w _ _ h; exact h w (Turns.refl _ _)
  | cons D Ds ih =>
    intro w hw hnd h
    have hD := hw D List.mem_cons_self
    obtain ⟨h1, h2⟩ := List.nodup_cons.1 hnd
    refine ⟨by simp, .inl ⟨D, _, rfl, run_takeDeferred hD, ih _ (fun E hE => (World.putObj_heap_other (fun e => h1 (by rw [← e]; exact hE))).trans (hw E (List.mem_cons_of_mem _ hE))) h2 fun w' ht => h w' ?_⟩⟩
    exact (Turns.putObj (T := fun j => j ∈ D :: Ds) w D (.deferred none) List.mem_cons_self).trans ht fun j _ hj => List.mem_cons_of_mem _ hj

theorem range_cutG {F : Fence} {n : Nat} {P : Program} {c : Code} {K : Act → World → Prop} {Q' : Exit → Act → World → Prop} {t : Array Value} {ds0 : List Deferred} {w : World} {id : Nat} (R : List Deferred → World → Prop) (rest : ∀ ds W, R ds W → K { tmps := t, defers := ds } W)
    (first : ∀ J : List Deferred → World → Prop, (∀ ds W, R ds W → J ds W) → c.wpIn F n P (fun e a' W => (e = .normal ∨ e = .exit id) ∧ a'.tmps = t ∧ J a'.defers W) { tmps := t, defers := ds0 } w) : c.wpIn F n P (Exit.inBlock id (Exit.then K Q')) { tmps := t, defers := ds0 } w := by
  refine wpIn_mono (first R fun _ _ q => q) ?_
  rintro e ⟨t', ds⟩ W ⟨h, rfl, hr⟩
  rcases h with rfl | rfl
  · simp only [Exit.inBlock]
    exact rest _ _ hr
  · simp only [Exit.inBlock, if_true]
    exact rest _ _ hr

end Go.Proofs.YtljcogimeimknaaGreat
