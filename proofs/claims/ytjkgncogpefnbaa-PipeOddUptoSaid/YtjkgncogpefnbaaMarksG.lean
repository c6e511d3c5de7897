/- Marks of loops over a function among the deferred calls: a function leaves through all of them. Conditions: each mark's block is open, and no block is named twice. -/
import Derived.Test.YtjkgncogpefnbaaRange
import Derived.Test.YtjkgncogpefnbaaTurnsS
import Derived.LoopIn
import Derived.Sort.LoopGhostIn
namespace Go.Proofs.Ytjkgncogpefnbaa
open Go.RowKit
attribute [local go_sem] Oper.semAt_some

/-- the marks `ds` are open, lie at or behind `low` and not in T, no two alike -/
def Marks (low : Nat) (T : Nat → Prop) (ds : List Deferred) (W : World) : Prop :=
  (ds.map (·.target)).Nodup ∧ ∀ d, d ∈ ds → ∃ D, low ≤ D ∧ ¬ T D ∧ d = { target := .collected D, args := #[] } ∧ W.heap[D]? = some (.deferred (some []))
theorem Marks.nil (low : Nat) (T : Nat → Prop) (W : World) : Marks low T [] W := ⟨List.nodup_nil, fun d h => by cases h⟩
/-- what is done to the blocks of T2 and to new ones; T grows by new ones -/
theorem Marks.turns {low : Nat} {T T' T2 : Nat → Prop} {ds : List Deferred} {W W' : World} (h : Marks low T ds W) (ht : Turns T2 W W') (h2 : ∀ j, T2 j → T j ∨ j < low ∨ W.heap.size ≤ j) (h3 : ∀ j, T' j → T j ∨ j < low ∨ W.heap.size ≤ j) : Marks low T' ds W' :=
  ⟨h.1, fun d hd => by
    obtain ⟨D, h1, hn, he, hk⟩ := h.2 d hd
    have hlt := (Array.getElem?_eq_some_iff.1 hk).1
    exact ⟨D, h1, fun e => by rcases h3 D e with q | q | q; (exact hn q); (omega); (omega), he, (ht.block D hlt fun e => by rcases h2 D e with q | q | q; (exact hn q); (omega); (omega)).trans hk⟩⟩
theorem Marks.more {low : Nat} {T : Nat → Prop} {ds : List Deferred} {W : World} {D B : Nat} (h : Marks low T ds W) (hlt : ∀ d, d ∈ ds → ∀ D', d.target = .collected D' → D' < B) (hB : B ≤ D) (hD : low ≤ D) (hT : ¬ T D) (hK : W.heap[D]? = some (.deferred (some []))) :
    Marks low T ({ target := .collected D, args := #[] } :: ds) W :=
  ⟨by rw [List.map_cons, List.nodup_cons]; exact ⟨fun hm => by obtain ⟨d, h1, h2⟩ := List.mem_map.1 hm; have := hlt d h1 D h2; omega, h.1⟩,
   fun d hd => by
    rcases List.mem_cons.1 hd with rfl | hd
    · exact ⟨D, hD, hT, rfl, hK⟩
    · exact h.2 d hd⟩
theorem Marks.lt {low : Nat} {T : Nat → Prop} {ds : List Deferred} {W : World} (h : Marks low T ds W) : ∀ d, d ∈ ds → ∀ D', d.target = .collected D' → D' < W.heap.size := by
  intro d hd D' e
  obtain ⟨D, h1, hn, rfl, hk⟩ := h.2 d hd
  injection e with e
  subst e
  exact (Array.getElem?_eq_some_iff.1 hk).1
/-- out through all marks: what abides where a mark is shut holds at the end -/
theorem leaves_marks {F : Fence} {n : Nat} {P : Program} {fn : Func} {tmps : Array Value} {R : Ending → World → Prop} {R0 : World → Prop} {low : Nat} {T : Nat → Prop}
    (hput : ∀ W D, low ≤ D → R0 W → W.heap[D]? = some (.deferred (some [])) → R0 (W.putObj D (.deferred none)))
    (hend : ∀ W, R0 W → LeavesIn F n P fn tmps R [] .returning W) : ∀ (ds : List Deferred) (W : World), Marks low T ds W → R0 W → LeavesInM F n P fn tmps R ds .returning W := by
  intro ds
  induction ds with
  | nil => exact fun W _ h => hend W h
  | cons d ds ih =>
    intro W hm h
    obtain ⟨D, h1, hn, rfl, h3⟩ := hm.2 d (List.mem_cons_self ..)
    refine ⟨by simp, .inl ⟨D, _, rfl, run_takeDeferred h3, ?_⟩⟩
    refine ih _ ⟨(List.nodup_cons.1 hm.1).2, fun d hd => ?_⟩ (hput W D h1 h h3)
    obtain ⟨D', k1, kn, rfl, k3⟩ := hm.2 d (List.mem_cons_of_mem _ hd)
    refine ⟨D', k1, kn, rfl, (World.putObj_heap_other (fun e => ?_)).trans k3⟩
    subst e
    exact (List.nodup_cons.1 hm.1).1 (List.mem_map.2 ⟨_, hd, rfl⟩)
/-- A RANGE LEFT AT ITS END OR BY A BREAK: both ways meet. -/
theorem range_cut {F : Fence} {n : Nat} {P : Program} {c : Code} {K : Act → World → Prop} {Q' : Exit → Act → World → Prop} {t : Array Value} {ds0 : List Deferred} {w : World} {id : Nat} (R : List Deferred → World → Prop) (rest : ∀ ds W, R ds W → K { tmps := t, defers := ds } W)
    (first : ∀ J : List Deferred → World → Prop, (∀ ds W, R ds W → J ds W) → c.wpIn F n P (fun e a' W => (e = .normal ∨ e = .exit id) ∧ a'.tmps = t ∧ J a'.defers W) { tmps := t, defers := ds0 } w) : c.wpIn F n P (Exit.inBlock id (Exit.then K Q')) { tmps := t, defers := ds0 } w := by
  refine wpIn_mono (first R fun _ _ q => q) ?_
  rintro e ⟨t', ds⟩ W ⟨h, rfl, hr⟩
  rcases h with rfl | rfl
  · simp only [Exit.inBlock]
    exact rest _ _ hr
  · simp only [Exit.inBlock, if_true]
    exact rest _ _ hr
end Go.Proofs.Ytjkgncogpefnbaa
