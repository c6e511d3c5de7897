/- What a reading of an entry answers; an entry's cell. No condition. -/
import Derived.Test.YteedjgjkldbbcaaPairReadM
import Derived.Test.YteedjgjkldbbcaaEntM
namespace Go.Proofs.Yteedjgjkldbbcaa
open Go.RowKit
set_option linter.unusedVariables false

/-- an entry of the call's own, a place, an error -/
def RdPost (w : World) (k v : List UInt8) (q : Nat) (er : Int) (e : Ending) (w' : World) : Prop :=
  ∃ vk vv mid, e = .returned (.tuple #[.agg #[vk, vv], .int .i64 q, .int .i64 er]) ∧ OwT fB w' w.heap.size 5 vk k ∧ OwT fB w' mid 5 vv v ∧ (∀ j, vk.ownBlock = some j → j < mid) ∧ w.heap.size ≤ mid ∧ Below w.heap.size w w'
theorem RdPost.no {w w' : World} {q : Nat} {er : Int} (hb : Below w.heap.size w w') : RdPost w [] [] q er (.returned (.tuple #[.agg #[.slice none 0 0, .slice none 0 0], .int .i64 q, .int .i64 er])) w' :=
  ⟨_, _, w.heap.size, rfl, OwT.nil _ _ _ _, OwT.nil _ _ _ _, (fun j hj => by cases hj), Nat.le_refl _, hb⟩
theorem OwT.offB {w : World} {base g : Nat} {e : TypeId} {x : Value} {xs : List UInt8} (h : OwT fB w base e x xs) (hg : g < base) (i : Nat) (v : Value) : OwT fB (w.setCell ⟨g, i, none⟩ v) base e x xs :=
  h.of_block fun j hj => Below.heap_setCell _ _ _ _ (by have := (h.lt j hj).1; intro e; have e : j = g := e; omega)
/-- one cell entry block -/
def Eb (w : World) (g : Nat) (x y : Value) : Prop := w.heap[g]? = some (.cells #[x, y] 41 (0, 0))
theorem Eb.c0 {w : World} {g : Nat} {x y : Value} (h : Eb w g x y) : w.cell? ⟨g, 0, none⟩ = some x := by unfold Eb at h; simp [World.cell?, h]
theorem Eb.c1 {w : World} {g : Nat} {x y : Value} (h : Eb w g x y) : w.cell? ⟨g, 1, none⟩ = some y := by unfold Eb at h; simp [World.cell?, h]
theorem Eb.free {w : World} {g : Nat} {x y : Value} (h : Eb w g x y) (i : Nat) : w.frozen? ⟨g, i, none⟩ = false := by unfold Eb at h; simp [World.frozen?, h]
theorem Eb.lt {w : World} {g : Nat} {x y : Value} (h : Eb w g x y) : g < w.heap.size := (Array.getElem?_eq_some_iff.1 h).1
theorem Eb.keep {w w' : World} {g : Nat} {x y : Value} (h : Eb w g x y) (hb : Below w.heap.size w w') : Eb w' g x y := (hb.block g h.lt).trans h
theorem Eb.off {w : World} {g ga : Nat} {x y : Value} (h : Eb w g x y) (hne : g ≠ ga) (k : Nat) (v : Value) : Eb (w.setCell ⟨ga, k, none⟩ v) g x y := (Below.heap_setCell _ _ _ _ hne).trans h
theorem Eb.set0 {w : World} {g : Nat} {x y : Value} (h : Eb w g x y) (z : Value) : Eb (w.setCell ⟨g, 0, none⟩ z) g z y := by
  unfold Eb at h ⊢
  simp only [World.setCell, Array.getElem?_modify, if_true]
  rw [h]; rfl
theorem Eb.set1 {w : World} {g : Nat} {x y : Value} (h : Eb w g x y) (z : Value) : Eb (w.setCell ⟨g, 1, none⟩ z) g x z := by
  unfold Eb at h ⊢
  simp only [World.setCell, Array.getElem?_modify, if_true]
  rw [h]; rfl
theorem Eb.none2 {w : World} {g : Nat} {x y : Value} (h : Eb w g x y) : Eb ((w.setCell ⟨g, 0, none⟩ (.slice none 0 0)).setCell ⟨g, 1, none⟩ (.slice none 0 0)) g (.slice none 0 0) (.slice none 0 0) := (h.set0 _).set1 _
def erd (p b : List UInt8) (z : Int) : Ent × Nat × Int := if 0 ≤ z ∧ z ≤ b.length then pread p b z.toNat else (([], []), 0, 1)
end Go.Proofs.Yteedjgjkldbbcaa
