/- A range over a function whose iterator keeps memory of its own (blocks with an owner): the law. No condition. -/
import Derived.Test.YtljcogimeimknaaGreatK8f
import Derived.RangeFuncNested
import Derived.RangeFuncBound
import Derived.RangeFuncCalls
import Derived.RangeFuncLeaves
import Derived.Shelf.Abstract
namespace Go.Proofs.YtljcogimeimknaaGreat
open Go.RowKit Go.Shelf
set_option linter.unusedVariables false

theorem Turns.putObj {T : Nat → Prop} (W : World) (l : Nat) (o : Obj) (hl : T l) : Turns T W (W.putObj l o) := by
  have h := grownBy_putObj' W l o
  exact ⟨h.os, h.tape, h.output, h.size, fun k hk hs => h.block k hk (fun e => by injection e with e; subst e; exact hs hl)⟩
/-- what an iterator that owns blocks hands back: R: so many have come; E: all have come -/
def SeqW {α : Type} (F : Fence) (n : Nat) (P : Program) (gf : Nat) (lb : Array Value) (encs : α → Array Value) (R E : List α → (Nat → Nat) → World → Prop) (who0 : Nat → Nat) : Prop :=
  ∀ (l : Nat) (J Jx : List α → (Nat → Nat) → World → Prop) (W : World), R [] who0 W →
    (∀ pre who who' A B, J pre who A → Gr A B who who' → J pre who' B) →
    (∀ pre x who W1, J pre who W1 → R (pre ++ [x]) who W1 → YieldAt F (n - 1) P l (encs x) W1 fun e W' =>
      (e = .returned (.bool true) ∧ J (pre ++ [x]) who W' ∧ Turns (fun j => who j = 0) W1 W') ∨ (e = .returned (.bool false) ∧ Jx (pre ++ [x]) who W' ∧ Turns (fun j => who j = 0) W1 W')) →
    J [] who0 W →
    CallsIn F n P gf (#[.func (.yield l) #[] #[]] ++ lb) W fun e W' => (∃ v, e = .returned v) ∧ ((∃ xs who, E xs who W' ∧ J xs who W') ∨ (∃ pre who, R pre who W' ∧ Jx pre who W'))
/-- how a round may be left -/
def postW {α : Type} (B : Nat) (I : List α → (Nat → Nat) → World → Prop) (Ix : Code → List α → (Nat → Nat) → World → Prop) (xs : List α) (who : Nat → Nat) (W : World) : Exit → Act → World → Prop
  | .normal, _, W' => KeepsFrom B W W' ∧ Turns (fun j => who j = 0) W W' ∧ I xs who W'
  | .ret, _, W' => KeepsFrom B W W' ∧ Turns (fun j => who j = 0) W W' ∧ Ix .ret xs who W'
  | .exit id, _, W' => KeepsFrom B W W' ∧ Turns (fun j => who j = 0) W W' ∧ Ix (.exit id) xs who W'
  | .goto t, _, W' => KeepsFrom B W W' ∧ Turns (fun j => who j = 0) W W' ∧ Ix (.goto t) xs who W'
  | .panic _, _, _ => False
  | .outgrown, _, _ => False

variable {F : Fence} {n : Nat} {P : Program}
theorem wpIn_rangeW {α : Type} {g : Operand} {ps : Array Tmp} {assign body : Code} {Q : Exit → Act → World → Prop} {a : Act} {w : World}
    (hro : F.round = none) (h1 : 1 ≤ n) {gf : Nat} {lb : Array Value} (hg : a.eval g = .func (.func gf) #[] lb) (hFg : F.fn gf) (eg : ∀ args w, (callFunc gf args).run P w = .ok (.enter gf args) w)
    {encs : α → Array Value} {R E : List α → (Nat → Nat) → World → Prop} {who0 : Nat → Nat} (hseq : SeqW F (n - 1) P gf lb encs R E who0) (hps : ∀ x, (encs x).size = ps.size)
    (hRt : ∀ pre who A B, R pre who A → Turns (fun j => who j = 0) A B → R pre who B) (hEt : ∀ pre who A B, E pre who A → Turns (fun j => who j = 0) A B → E pre who B) (hR0 : R [] who0 w) (hw0 : ∀ j, w.heap.size ≤ j → who0 j = 0)
    (I : List α → (Nat → Nat) → World → Prop) (Ix : Code → List α → (Nat → Nat) → World → Prop)
    (hI : ∀ pre who who' A B, I pre who A → Gr A B who who' → I pre who' B)
    (hIp : ∀ pre who W l o o', I pre who W → w.heap.size ≤ l → W.heap[l]? = some o → o.isCells = false → I pre who (W.putObj l o'))
    (hIxp : ∀ c pre who W l o o', Ix c pre who W → w.heap.size ≤ l → W.heap[l]? = some o → o.isCells = false → Ix c pre who (W.putObj l o'))
    (h0 : I [] who0 w) (a₁ : α → Act)
    (hassign : ∀ (l : Nat) (x : α) (W : World) (K : Act → World → Prop), K (a₁ x) W →
      assign.wpIn (F.inRound l) (n - 1 - 1) P (Exit.then K (fun _ _ _ => False)) { tmps := (ps.zip (encs x)).foldl (fun t (p, v) => t.setIfInBounds p v) a.tmps, defers := [] } W)
    (hbody : ∀ (l : Nat) (pre : List α) (x : α) (who : Nat → Nat) (W : World), I pre who W → R (pre ++ [x]) who W → body.wpIn (F.inRound l) (n - 1 - 1) P (postW w.heap.size I Ix (pre ++ [x]) who W) (a₁ x) W)
    (hdone : ∀ (D : Nat) (xs : List α) (who : Nat → Nat) (W : World), w.heap.size ≤ D → E xs who W → I xs who W → W.heap[D]? = some (.deferred (some [])) → who D = 0 → Q .normal { a with defers := { target := .collected D, args := #[] } :: a.defers } W)
    (hstop : ∀ (D : Nat) (c : Code) (pre : List α) (who : Nat → Nat) (W : World), w.heap.size ≤ D → R pre who W → Ix c pre who W → W.heap[D]? = some (.deferred (some [])) → who D = 0 → c.wpIn F n P Q { a with defers := { target := .collected D, args := #[] } :: a.defers } W) :
    (Code.rangeFunc g ps assign body).wpIn F n P Q a w := by
  refine wpIn_rangeFunc fun fn hfn => ?_
  rw [hro]
  obtain ⟨D, hD⟩ : ∃ D, w.heap.size = D := ⟨_, rfl⟩
  obtain ⟨rec, hrec⟩ : ∃ rec : LoopState → Option Code → Loop, rec = fun st pe => { state := st, pending := pe, fn, tmps := a.tmps, params := ps, assign, body, defers := D } := ⟨_, rfl⟩
  obtain ⟨V, hV⟩ : ∃ V, (w.alloc (.deferred (some []))).alloc (.loop (rec .ready none)) = V := ⟨_, rfl⟩
  have hbV : Below w.heap.size w V := by rw [← hV]; exact ((Below.refl _ w).alloc (Nat.le_refl _) _).alloc (by simp) _
  have hz : (w.alloc (.deferred (some []))).heap.size = D + 1 := by rw [World.size_alloc, hD]
  have hL : V.heap[D + 1]? = some (.loop (rec .ready none)) := by
    have h := World.alloc_heap_new (w.alloc (.deferred (some []))) (.loop (rec .ready none))
    rw [hz] at h; rw [← hV]; exact h
  have hK : V.heap[D]? = some (.deferred (some [])) := by
    have h := World.alloc_heap_new w (.deferred (some []))
    rw [hD] at h; rw [← hV]; exact (Below.heap_alloc _ _ _ (by rw [hz]; omega)).trans h
  have hTV : Turns (fun j => who0 j = 0) w V := (Turns.of_below (S := fun _ => False) hbV).mono (fun _ _ e => e.elim)
  have hIV : I [] who0 V := hI _ _ _ _ _ h0 (Gr.below hbV)
  have hstep : ∀ {T : Nat → Prop} {W W' : World} {j : Nat} {o : Obj}, Turns T W W' → W.heap[j]? = some o → ¬ T j → W'.heap[j]? = some o := fun ht ho hn => ht.heap ho hn
  refine ⟨D + 1, [{ target := .collected D, args := #[] }], V, { target := .fn (.func gf) lb, args := #[.func (.yield (D + 1)) #[] #[]] }, V, gf,
    #[.func (.yield (D + 1)) #[] #[]] ++ lb, V, ?_, ?_, ?_, ?_, fun _ => h1, ?_⟩
  · rw [← hV, hrec, ← hD]; exact run_enterLoop_outer _ _ _ _ _
  · simp only [resolve, hg]
    simp [go_sem]
  · intro f' hf'; simp [Target.leads] at hf'; subst hf'; exact hFg
  · simp [invoke, go_sem, eg]
  · have key := hseq (D + 1)
      (fun pre who W => I pre who W ∧ W.heap[D + 1]? = some (.loop (rec .ready none)) ∧ W.heap[D]? = some (.deferred (some [])) ∧ who (D + 1) = 0 ∧ who D = 0)
      (fun pre who W => ∃ c, Ix c pre who W ∧ W.heap[D + 1]? = some (.loop (rec .done (some c))) ∧ W.heap[D]? = some (.deferred (some [])) ∧ who (D + 1) = 0 ∧ who D = 0)
      V (hRt _ _ _ _ hR0 hTV) ?_ ?_ ⟨hIV, hL, hK, hw0 _ (by omega), hw0 _ (by omega)⟩
    · refine key.mono ?_
      rintro e W2 ⟨⟨v, rfl⟩, (⟨xs, who, hE, hi, hl, hk, z1, z2⟩ | ⟨pre, who, hE, c, hi, hl, hk, z1, z2⟩)⟩
      · have hend := run_endLoop (P := P) hl (by rw [hrec]; simp)
        rw [hrec] at hend
        exact ⟨none, _, hend, hdone D xs who _ (by omega) (hEt _ _ _ _ hE (Turns.putObj (T := fun j => who j = 0) _ _ _ z1)) (hIp _ _ _ _ _ _ hi (by omega) hl rfl) ((World.putObj_heap_other (by omega)).trans hk) z2⟩
      · have hend := run_endLoop (P := P) hl (by rw [hrec]; simp)
        rw [hrec] at hend
        exact ⟨some c, _, hend, hstop D c pre who _ (by omega) (hRt _ _ _ _ hE (Turns.putObj (T := fun j => who j = 0) _ _ _ z1)) (hIxp _ _ _ _ _ _ _ hi (by omega) hl rfl) ((World.putObj_heap_other (by omega)).trans hk) z2⟩
    · rintro pre who who' A B ⟨hi, hl, hk, z1, z2⟩ hG
      have l1 := (Array.getElem?_eq_some_iff.1 hl).1
      exact ⟨hI _ _ _ _ _ hi hG, hstep hG.t hl (fun e => e z1), hstep hG.t hk (fun e => e z2), (hG.o _ l1).trans z1, (hG.o _ (by omega)).trans z2⟩
    · rintro pre x who W ⟨hi, hl, hk, z1, z2⟩ hR
      have l1 : D + 1 < W.heap.size := (Array.getElem?_eq_some_iff.1 hl).1
      have hy := run_yield (P := P) (args := encs x) hl (by rw [hrec]; exact hps x)
      rw [hrec] at hy
      refine ⟨fn, _, assign, body, hy, roundIn_of_wpIn hfn (hassign _ x W _ ⟨_, run_beginRound hl (by rw [hrec]), ?_⟩)⟩
      obtain ⟨W1, hW1⟩ : ∃ W1, W.putObj (D + 1) (.loop { rec .ready none with state := .busy }) = W1 := ⟨_, rfl⟩
      have ht1 : Turns (fun j => who j = 0) W W1 := hW1 ▸ Turns.putObj (T := fun j => who j = 0) W (D + 1) _ z1
      have hl1 : W1.heap[D + 1]? = some (.loop { rec .ready none with state := .busy }) := by rw [← hW1]; exact World.putObj_heap_same l1
      have hk1 : W1.heap[D]? = some (.deferred (some [])) := by rw [← hW1]; exact (World.putObj_heap_other (by omega)).trans hk
      have hi1 : I pre who W1 := hW1 ▸ hIp _ _ _ _ _ _ hi (by omega) hl rfl
      rw [hW1]
      refine wpIn_mono (hbody _ pre x who W1 hi1 (hRt _ _ _ _ hR ht1)) ?_
      have fin : ∀ (jump : Option Code) (W3 : World), KeepsFrom w.heap.size W1 W3 → Turns (fun j => who j = 0) W1 W3 →
          ∃ W4, (Instr.endRound (D + 1) jump).run P W3 = .ok (.bool jump.isNone) W4 ∧ W4 = W3.putObj (D + 1) (.loop (rec (if jump.isNone then .ready else .done) jump)) ∧ W3.heap[D + 1]? = some (.loop { rec .ready none with state := .busy }) ∧
            W4.heap[D + 1]? = some (.loop (rec (if jump.isNone then .ready else .done) jump)) ∧ W4.heap[D]? = some (.deferred (some [])) ∧ Turns (fun j => who j = 0) W W4 := fun jump W3 hk3 ht3 => by
        have hl3 := hk3.same _ _ (by omega) hl1 rfl
        have hk4 := hk3.same _ _ (by omega) hk1 rfl
        have hr := run_endRound (P := P) jump hl3
        rw [hrec] at hr
        refine ⟨_, hr, by rw [hrec], hl3, by rw [hrec]; exact World.putObj_heap_same (Array.getElem?_eq_some_iff.1 hl3).1, (World.putObj_heap_other (by omega)).trans hk4, (ht1.trans ht3 fun _ _ e => e).trans (Turns.putObj (T := fun j => who j = 0) _ _ _ z1) fun _ _ e => e⟩
      rintro e a3 W3 hp
      cases e with
      | normal =>
        obtain ⟨hk3, ht3, hi3⟩ := hp
        obtain ⟨W4, hr, hW4, hl3, hl4, hk4, ht4⟩ := fin none W3 hk3 ht3
        subst hW4
        exact ⟨_, _, hr, .inl ⟨rfl, ⟨hIp _ _ _ _ _ _ hi3 (by omega) hl3 rfl, hl4, hk4, z1, z2⟩, ht4⟩⟩
      | ret =>
        obtain ⟨hk3, ht3, hi3⟩ := hp
        obtain ⟨W4, hr, hW4, hl3, hl4, hk4, ht4⟩ := fin (some .ret) W3 hk3 ht3
        subst hW4
        exact ⟨_, _, hr, .inr ⟨rfl, ⟨.ret, hIxp _ _ _ _ _ _ _ hi3 (by omega) hl3 rfl, hl4, hk4, z1, z2⟩, ht4⟩⟩
      | exit id =>
        obtain ⟨hk3, ht3, hi3⟩ := hp
        obtain ⟨W4, hr, hW4, hl3, hl4, hk4, ht4⟩ := fin (some (.exit id)) W3 hk3 ht3
        subst hW4
        exact ⟨_, _, hr, .inr ⟨rfl, ⟨.exit id, hIxp _ _ _ _ _ _ _ hi3 (by omega) hl3 rfl, hl4, hk4, z1, z2⟩, ht4⟩⟩
      | goto t =>
        obtain ⟨hk3, ht3, hi3⟩ := hp
        obtain ⟨W4, hr, hW4, hl3, hl4, hk4, ht4⟩ := fin (some (.goto t)) W3 hk3 ht3
        subst hW4
        exact ⟨_, _, hr, .inr ⟨rfl, ⟨.goto t, hIxp _ _ _ _ _ _ _ hi3 (by omega) hl3 rfl, hl4, hk4, z1, z2⟩, ht4⟩⟩
      | panic ch => exact hp.elim
      | outgrown => exact hp.elim
end Go.Proofs.YtljcogimeimknaaGreat
