/- Entries that an iterator gave away: owner 6. No condition. -/
import Derived.Test.YtljcogimeimknaaGreatRangeW
import Derived.Test.YtljcogimeimknaaGreatBlockRead
namespace Go.Proofs.YtljcogimeimknaaGreat
open Go.RowKit Go.Shelf
set_option linter.unusedVariables false

/-- blocks of P are given away: owner 6 -/
noncomputable def who6 (who : Nat → Nat) (P : Nat → Prop) : Nat → Nat := by
 classical exact fun j => if P j then 6 else who j
theorem who6_in {who : Nat → Nat} {P : Nat → Prop} {j : Nat} (h : P j) : who6 who P j = 6 := by unfold who6; rw [if_pos h]
theorem who6_no {who : Nat → Nat} {P : Nat → Prop} {j : Nat} (h : ¬ P j) : who6 who P j = who j := by unfold who6; rw [if_neg h]
theorem who6_ne {who : Nat → Nat} {P : Nat → Prop} {j : Nat} (h : who6 who P j ≠ 0) : P j ∨ who j ≠ 0 := by
  by_cases hp : P j
  · exact .inl hp
  · rw [who6_no hp] at h; exact .inr h
theorem who6_six {who : Nat → Nat} {P : Nat → Prop} {j : Nat} (h : who j = 6) : who6 who P j = 6 := by
  by_cases hp : P j
  · exact who6_in hp
  · rw [who6_no hp]; exact h
section
variable {w w' w1 : World} {lo : Nat} {who who' : Nat → Nat}
theorem Gr.own6 (h : Gr w w' who who') {P : Nat → Prop} (hP : ∀ j, P j → w.heap.size ≤ j) : Gr w w' who (who6 who' P) :=
  ⟨h.t, fun j hj => by rw [who6_no fun hp => by have := hP j hp; omega]; exact h.o j hj⟩
/-- entries that were given: their texts -/
def GvP (w : World) (lo : Nat) (pre : List (Sv × Sv)) (es : List Ent) (who : Nat → Nat) : Prop :=
 pre.length = es.length ∧ ∀ (i : Nat) (x : Sv × Sv) (e : Ent), pre[i]? = some x → es[i]? = some e → OwT fB w lo 5 (sv x.1) e.1 ∧ OwT fB w lo 5 (sv x.2) e.2 ∧ ∀ j, (sv x.1).ownBlock = some j ∨ (sv x.2).ownBlock = some j → who j = 6
theorem GvP.nil : GvP w lo [] [] who := ⟨rfl, fun i x e h _ => by simp at h⟩
theorem GvP.turn {T : Nat → Prop} {pre : List (Sv × Sv)} {es : List Ent} (h : GvP w lo pre es who) (ht : Turns T w w') (hT : ∀ j, T j → who j ≠ 6) (hw : ∀ j, who j = 6 → who' j = 6) : GvP w' lo pre es who' :=
 ⟨h.1, fun i x e hx he => by
  obtain ⟨o1, o2, o3⟩ := h.2 i x e hx he
  exact ⟨o1.turns ht fun j hj hs => hT j hs (o3 j (.inl hj)), o2.turns ht fun j hj hs => hT j hs (o3 j (.inr hj)), fun j hj => hw j (o3 j hj)⟩⟩
theorem GvP.snoc {pre : List (Sv × Sv)} {es : List Ent} (h : GvP w lo pre es who) {x : Sv × Sv} {e : Ent} (hx : OwT fB w lo 5 (sv x.1) e.1 ∧ OwT fB w lo 5 (sv x.2) e.2 ∧ ∀ j, (sv x.1).ownBlock = some j ∨ (sv x.2).ownBlock = some j → who j = 6) : GvP w lo (pre ++ [x]) (es ++ [e]) who := by
 have hl := h.1
 refine ⟨by rw [List.length_append, List.length_append, hl]; rfl, fun i y f hy hf => ?_⟩
 by_cases hi : i < pre.length
 · rw [List.getElem?_append_left hi] at hy
   rw [List.getElem?_append_left (by omega)] at hf
   exact h.2 i y f hy hf
 · rw [List.getElem?_append_right (by omega)] at hy
   rw [List.getElem?_append_right (by omega)] at hf
   have h0 : i - pre.length = 0 := by have := (List.getElem?_eq_some_iff.1 hy).1; simp at this; omega
   rw [h0] at hy
   rw [← hl, h0] at hf
   obtain rfl : x = y := by simpa using hy
   obtain rfl : e = f := by simpa using hf
   exact hx
theorem GvP.tail {x : Sv × Sv} {e : Ent} {vs : List (Sv × Sv)} {es : List Ent} (h : GvP w lo (x :: vs) (e :: es) who) : GvP w lo vs es who :=
 ⟨by simpa using h.1, fun i y f hy hf => h.2 (i + 1) y f (by simpa using hy) (by simpa using hf)⟩
/-- the texts' blocks of what was given -/
def GvB (pre : List (Sv × Sv)) (j : Nat) : Prop := ∃ (i : Nat) (x : Sv × Sv), pre[i]? = some x ∧ ((sv x.1).ownBlock = some j ∨ (sv x.2).ownBlock = some j)
theorem GvB.snoc {pre : List (Sv × Sv)} {x : Sv × Sv} {j : Nat} (h : GvB (pre ++ [x]) j) : GvB pre j ∨ ((sv x.1).ownBlock = some j ∨ (sv x.2).ownBlock = some j) := by
 obtain ⟨i, y, hy, hj⟩ := h
 by_cases hi : i < pre.length
 · rw [List.getElem?_append_left hi] at hy; exact .inl ⟨i, y, hy, hj⟩
 · rw [List.getElem?_append_right (by omega)] at hy
   have h0 : i - pre.length = 0 := by have := (List.getElem?_eq_some_iff.1 hy).1; simp at this; omega
   rw [h0] at hy
   obtain rfl : x = y := by simpa using hy
   exact .inr hj
theorem GvP.low {pre : List (Sv × Sv)} {es : List Ent} (h : GvP w lo pre es who) {j : Nat} (hj : GvB pre j) : who j = 6 ∧ j < w.heap.size := by
 obtain ⟨i, x, hx, hj⟩ := hj
 obtain ⟨e, he⟩ : ∃ e, es[i]? = some e := ⟨_, List.getElem?_eq_getElem (by have := (List.getElem?_eq_some_iff.1 hx).1; have := h.1; omega)⟩
 obtain ⟨o1, o2, o3⟩ := h.2 i x e hx he
 exact ⟨o3 j hj, by rcases hj with q | q; exact (o1.lt j q).2; exact (o2.lt j q).2⟩
end
end Go.Proofs.YtljcogimeimknaaGreat
