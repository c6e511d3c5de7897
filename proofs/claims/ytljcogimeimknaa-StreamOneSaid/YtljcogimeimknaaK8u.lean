/- Several texts in one: PipeSoft, PipeRef, PipeRefK, PipeRefGen, CurRIn, CurRWant, CurRIn2. Each has its own sentence and conditions below. -/
import Derived.Test.YtljcogimeimknaaK8p
import Derived.Deep.RegionHeld3
import Derived.Deep.DeepCutAuto
import Derived.Test.YtljcogimeimknaaK8r
import Derived.Test.YtljcogimeimknaaK8q
/- Places that may be written; the document's source in cells. No condition. -/
namespace Go.Proofs.Ytljcogimeimknaa
open Go.RowKit
set_option linter.unusedVariables false
set_option linter.unusedSimpArgs false

/-- every place of a slice holds something and may be written -/
def SoftV (w : World) (a : Option Addr) (n : Nat) : Prop := ∀ i, i < n → ∃ v b o, a = some ⟨b, o, none⟩ ∧ w.cell? ⟨b, o + i, none⟩ = some v ∧ w.frozen? ⟨b, o + i, none⟩ = false
theorem SoftV.set {w : World} {b o n k : Nat} (h : SoftV w (some ⟨b, o, none⟩) n) (y : Value) : SoftV (w.setCell ⟨b, o + k, none⟩ y) (some ⟨b, o, none⟩) n := by
  intro i hi
  obtain ⟨x, b', o', e, hc, hf⟩ := h i hi
  cases e
  by_cases hik : i = k
  · subst hik
    exact ⟨y, b, o, rfl, World.cell?_setCell_same _ _ _ hc, (World.frozen?_setCell _ _ _ _).trans hf⟩
  · exact ⟨x, b, o, rfl, (World.cell?_setCell_other _ _ _ _ (by simp)).trans hc, (World.frozen?_setCell _ _ _ _).trans hf⟩
theorem frozen_block {w w' : World} {b i : Nat} (h : w'.heap[b]? = w.heap[b]?) : w'.frozen? ⟨b, i, none⟩ = w.frozen? ⟨b, i, none⟩ := by simp only [World.frozen?, h]
theorem SoftV.turns {w w' : World} {a : Option Addr} {n : Nat} {T : Nat → Prop} (h : SoftV w a n) (ht : Turns T w w') (hd : ∀ b o, a = some ⟨b, o, none⟩ → ¬ T b) : SoftV w' a n := by
  intro i hi
  obtain ⟨x, b, o, e, hc, hf⟩ := h i hi
  have hb := ht.block b (cell_lt hc) (hd b o e)
  exact ⟨x, b, o, e, (World.cell?_of_block (w := w) hb).trans hc, (frozen_block hb).trans hf⟩
theorem Soft.turns {w w' : World} {a : Option Addr} {n : Nat} {T : Nat → Prop} (h : Soft w a n) (ht : Turns T w w') (hd : ∀ b o, a = some ⟨b, o, none⟩ → ¬ T b) : Soft w' a n := by
  intro i hi
  obtain ⟨x, b, o, e, hc, hf⟩ := h i hi
  have hb := ht.block b (cell_lt hc) (hd b o e)
  exact ⟨x, b, o, e, (World.cell?_of_block (w := w) hb).trans hc, (frozen_block hb).trans hf⟩
end Go.Proofs.Ytljcogimeimknaa
/- The document's source, not odd: contracts of most and Read. Conditions: numbers within reach. -/
namespace Go.Proofs.Ytljcogimeimknaa
open Go.RowKit
set_option maxRecDepth 100000
set_option linter.unusedVariables false
set_option linter.unusedSimpArgs false

end Go.Proofs.Ytljcogimeimknaa
/- The document's sink, not odd: contract of Write. Conditions: numbers and what is taken within reach. -/
namespace Go.Proofs.Ytljcogimeimknaa
open Go.RowKit
set_option maxRecDepth 100000
set_option linter.unusedVariables false
set_option linter.unusedSimpArgs false

end Go.Proofs.Ytljcogimeimknaa
/- The document's readers and writers of any make, in memory; its source and its sink are such. Conditions: numbers within reach. -/
namespace Go.Proofs.Ytljcogimeimknaa
open Go.RowKit
set_option linter.unusedVariables false

end Go.Proofs.Ytljcogimeimknaa
/- The document's In: ask, want: contracts over any reader of the document's. Conditions: numbers and what is taken within reach. -/
namespace Go.Proofs.Ytljcogimeimknaa
open Go.RowKit Go.Shelf
set_option maxRecDepth 100000
set_option linter.unusedVariables false
set_option linter.unusedSimpArgs false

section
variable {w w' : World} {g pl i : Nat} {most er : Int} {rp hv : Value}
end
end Go.Proofs.Ytljcogimeimknaa
/- The document's In: want: contract over any reader of the document's. Conditions: numbers and what is taken within reach. -/
namespace Go.Proofs.Ytljcogimeimknaa
open Go.RowKit Go.Shelf
set_option maxRecDepth 100000
set_option linter.unusedVariables false
set_option linter.unusedSimpArgs false

end Go.Proofs.Ytljcogimeimknaa
/- The document's In: Bytes, Byte, End: contracts over any reader of the document's. Conditions: numbers and what is taken within reach. -/
namespace Go.Proofs.Ytljcogimeimknaa
open Go.RowKit Go.Shelf
set_option maxRecDepth 100000
set_option linter.unusedVariables false
set_option linter.unusedSimpArgs false

section
variable {σ : Type} {R : Rm σ} {v : Value} {lo Br : Nat} {St : σ → (Nat → Prop) → World → Prop}
variable {g : Nat} {most : Int} {c c2 c3 : CIn σ} {S S2 T : Nat → Prop} {w w1 w2 : World}
end
end Go.Proofs.Ytljcogimeimknaa
