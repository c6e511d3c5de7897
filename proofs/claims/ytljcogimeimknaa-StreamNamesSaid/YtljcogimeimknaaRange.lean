/- A range over a function, told by its record: one round; the statement, outermost and within a round. No condition. -/
import Derived.Test.YtljcogimeimknaaK8a
import Derived.RangeFuncBox
import Derived.RangeFuncNested
import Derived.RangeFuncBound
import Derived.RangeFuncCalls
import Derived.RangeFuncLeaves
namespace Go.Proofs.Ytljcogimeimknaa
open Go.RowKit

/-- the record of a loop, by its state and what is pending -/
def lrec (fn : FuncId) (tmps : Array Value) (ps : Array Tmp) (assign body : Code) (D : Nat) (st : LoopState) (pe : Option Code) : Obj :=
  .loop { state := st, pending := pe, fn := fn, tmps := tmps, params := ps, assign := assign, body := body, defers := D }
/-- a round's end, by how its body was left -/
def roundEnd (l : Nat) (rc : LoopState → Option Code → Obj) (R : Ending → World → Prop) : Exit → Act → World → Prop
  | .normal, _, W => W.heap[l]? = some (rc .busy none) ∧ R (.returned (.bool true)) (W.putObj l (rc .ready none))
  | .ret, _, W => W.heap[l]? = some (rc .busy none) ∧ R (.returned (.bool false)) (W.putObj l (rc .done (some .ret)))
  | .exit id, _, W => W.heap[l]? = some (rc .busy none) ∧ R (.returned (.bool false)) (W.putObj l (rc .done (some (.exit id))))
  | .goto t, _, W => W.heap[l]? = some (rc .busy none) ∧ R (.returned (.bool false)) (W.putObj l (rc .done (some (.goto t))))
  | .panic _, _, _ => False
  | .outgrown, _, _ => False
section
variable {F : Fence} {n : Nat} {P : Program}
theorem round_at {l D : Nat} {fn : FuncId} {tmps args : Array Value} {ps : Array Tmp} {assign body : Code} {W : World} {R : Ending → World → Prop} (hF : F.fn fn) (hl : W.heap[l]? = some (lrec fn tmps ps assign body D .ready none)) (hs : args.size = ps.size)
    (h : assign.wpIn (F.inRound l) n P (Exit.then (fun a' Wa => Wa.heap[l]? = some (lrec fn tmps ps assign body D .ready none) ∧
        body.wpIn (F.inRound l) n P (roundEnd l (lrec fn tmps ps assign body D) R) a' (Wa.putObj l (lrec fn tmps ps assign body D .busy none))) (fun _ _ _ => False)) { tmps := (ps.zip args).foldl (fun t (p, v) => t.setIfInBounds p v) tmps, defers := [] } W) :
    YieldAt F n P l args W R := by
  refine ⟨fn, _, assign, body, run_yield hl hs, roundIn_of_wpIn hF (wpIn_mono h ?_)⟩
  rintro e a' Wa ha
  cases e with
  | normal =>
    obtain ⟨hla, hb⟩ := ha
    refine ⟨_, run_beginRound hla rfl, wpIn_mono hb ?_⟩
    rintro e a3 W3 h3
    cases e with
    | normal => exact ⟨_, _, run_endRound none h3.1, h3.2⟩
    | ret => exact ⟨_, _, run_endRound (some .ret) h3.1, h3.2⟩
    | exit id => exact ⟨_, _, run_endRound (some (.exit id)) h3.1, h3.2⟩
    | goto t => exact ⟨_, _, run_endRound (some (.goto t)) h3.1, h3.2⟩
    | panic ch => exact h3.elim
    | outgrown => exact h3.elim
  | _ => exact ha.elim
/-- the same, what follows the assignments behind a variable -/
theorem round_at2 {l D : Nat} {fn : FuncId} {tmps args : Array Value} {ps : Array Tmp} {assign body : Code} {W : World} {R : Ending → World → Prop} (hF : F.fn fn) (hl : W.heap[l]? = some (lrec fn tmps ps assign body D .ready none)) (hs : args.size = ps.size)
    (h : ∀ K : Act → World → Prop, (∀ a' Wa, Wa.heap[l]? = some (lrec fn tmps ps assign body D .ready none) → body.wpIn (F.inRound l) n P (roundEnd l (lrec fn tmps ps assign body D) R) a' (Wa.putObj l (lrec fn tmps ps assign body D .busy none)) → K a' Wa) →
      assign.wpIn (F.inRound l) n P (Exit.then K (fun _ _ _ => False)) { tmps := (ps.zip args).foldl (fun t (p, v) => t.setIfInBounds p v) tmps, defers := [] } W) :
    YieldAt F n P l args W R := round_at hF hl hs (h _ fun _ _ h1 h2 => ⟨h1, h2⟩)
/-- behind the function that was ranged over -/
def rangeEnd (F : Fence) (n : Nat) (P : Program) (l : Nat) (rc : LoopState → Option Code → Obj) (Q : Exit → Act → World → Prop) (a : Act) (e : Ending) (W : World) : Prop :=
  (∃ v, e = .returned v) ∧ ((W.heap[l]? = some (rc .ready none) ∧ Q .normal a (W.putObj l (rc .exhausted none))) ∨
    ∃ c, W.heap[l]? = some (rc .done (some c)) ∧ c.wpIn F n P Q a (W.putObj l (rc .exhausted (some c))))
theorem range_outer {g : Operand} {ps : Array Tmp} {assign body : Code} {Q : Exit → Act → World → Prop} {a : Act} {w : World} (hro : F.round = none) (h1 : 1 ≤ n) {gf : Nat} {lb : Array Value} (hg : a.eval g = .func (.func gf) #[] lb) (hFg : F.fn gf)
    (eg : ∀ args w, (callFunc gf args).run P w = .ok (.enter gf args) w)
    (h : ∀ fn, F.fn fn → CallsIn F (n - 1) P gf (#[.func (.yield (w.heap.size + 1)) #[] #[]] ++ lb) ((w.alloc (.deferred (some []))).alloc (lrec fn a.tmps ps assign body w.heap.size .ready none))
      (rangeEnd F n P (w.heap.size + 1) (lrec fn a.tmps ps assign body w.heap.size) Q { a with defers := { target := .collected w.heap.size, args := #[] } :: a.defers })) :
    (Code.rangeFunc g ps assign body).wpIn F n P Q a w := by
  refine wpIn_rangeFunc ?_
  intro fn hfn
  rw [hro]
  have h := h fn hfn
  have he := run_enterLoop_outer (P := P) (w := w) fn a.tmps ps assign body
  change (Instr.enterLoop fn a.tmps ps assign body none).run P w = .ok _ ((w.alloc (.deferred (some []))).alloc (lrec fn a.tmps ps assign body w.heap.size .ready none)) at he
  generalize (w.alloc (.deferred (some []))).alloc (lrec fn a.tmps ps assign body w.heap.size .ready none) = W1 at h he
  refine ⟨w.heap.size + 1, [{ target := .collected w.heap.size, args := #[] }], W1, { target := .fn (.func gf) lb, args := #[.func (.yield (w.heap.size + 1)) #[] #[]] }, W1, gf, #[.func (.yield (w.heap.size + 1)) #[] #[]] ++ lb, W1, ?_, ?_, ?_, ?_, ?_, ?_⟩
  · exact he
  · simp only [resolve, hg]
    simp [go_sem]
  · intro f' hf'; simp [Target.leads] at hf'; subst hf'; exact hFg
  · simp [invoke, go_sem, eg]
  · exact fun _ => h1
  refine CallsIn.mono h ?_
  · rintro e W2 ⟨⟨v, rfl⟩, (⟨hl, hq⟩ | ⟨c, hl, hq⟩)⟩
    · exact ⟨none, _, run_endLoop hl (by simp), hq⟩
    · exact ⟨some c, _, run_endLoop hl (by simp), hq⟩
theorem range_inner {g : Operand} {ps : Array Tmp} {assign body : Code} {Q : Exit → Act → World → Prop} {a : Act} {w : World} {l₀ : Nat} {r₀ : Loop} (hro : F.round = some l₀) (hl₀ : w.heap[l₀]? = some (.loop r₀)) (h1 : 1 ≤ n) {gf : Nat} {lb : Array Value}
    (hg : a.eval g = .func (.func gf) #[] lb) (hFg : F.fn gf) (eg : ∀ args w, (callFunc gf args).run P w = .ok (.enter gf args) w)
    (h : ∀ fn, F.fn fn → CallsIn F (n - 1) P gf (#[.func (.yield w.heap.size) #[] #[]] ++ lb) (w.alloc (lrec fn a.tmps ps assign body r₀.defers .ready none))
      (rangeEnd F n P w.heap.size (lrec fn a.tmps ps assign body r₀.defers) Q a)) :
    (Code.rangeFunc g ps assign body).wpIn F n P Q a w := by
  refine wpIn_rangeFunc ?_
  intro fn hfn
  rw [hro]
  have h := h fn hfn
  have he := run_enterLoop_inner (P := P) hl₀ fn a.tmps ps assign body
  change (Instr.enterLoop fn a.tmps ps assign body (some l₀)).run P w = .ok _ (w.alloc (lrec fn a.tmps ps assign body r₀.defers .ready none)) at he
  generalize w.alloc (lrec fn a.tmps ps assign body r₀.defers .ready none) = W1 at h he
  refine ⟨w.heap.size, [], W1, { target := .fn (.func gf) lb, args := #[.func (.yield w.heap.size) #[] #[]] }, W1, gf, #[.func (.yield w.heap.size) #[] #[]] ++ lb, W1, ?_, ?_, ?_, ?_, ?_, ?_⟩
  · exact he
  · simp only [resolve, hg]
    simp [go_sem]
  · intro f' hf'; simp [Target.leads] at hf'; subst hf'; exact hFg
  · simp [invoke, go_sem, eg]
  · exact fun _ => h1
  refine CallsIn.mono h ?_
  · rintro e W2 ⟨⟨v, rfl⟩, (⟨hl, hq⟩ | ⟨c, hl, hq⟩)⟩
    · exact ⟨none, _, run_endLoop hl (by simp), hq⟩
    · exact ⟨some c, _, run_endLoop hl (by simp), hq⟩
end
end Go.Proofs.Ytljcogimeimknaa
