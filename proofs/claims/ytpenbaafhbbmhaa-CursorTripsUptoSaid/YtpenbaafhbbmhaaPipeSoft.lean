/- Places that may be written; the document's source in cells. No condition. -/
import Derived.Test.YtpenbaafhbbmhaaPipeGen
import Derived.Deep.RegionHeld3
import Derived.Deep.DeepCutAuto
namespace Go.Proofs.Ytpenbaafhbbmhaa
open Go.RowKit
set_option linter.unusedVariables false
set_option linter.unusedSimpArgs false

/-- every place of a slice holds something and may be written -/
def SoftV (w : World) (a : Option Addr) (n : Nat) : Prop := ∀ i, i < n → ∃ v b o, a = some ⟨b, o, none⟩ ∧ w.cell? ⟨b, o + i, none⟩ = some v ∧ w.frozen? ⟨b, o + i, none⟩ = false
theorem SoftV.set {w : World} {b o n k : Nat} (h : SoftV w (some ⟨b, o, none⟩) n) (y : Value) : SoftV (w.setCell ⟨b, o + k, none⟩ y) (some ⟨b, o, none⟩) n := by
  intro i hi
  obtain ⟨x, b', o', e, hc, hf⟩ := h i hi
  cases e
  by_cases hik : i = k
  · subst hik
    exact ⟨y, b, o, rfl, World.cell?_setCell_same _ _ _ hc, (World.frozen?_setCell _ _ _ _).trans hf⟩
  · exact ⟨x, b, o, rfl, (World.cell?_setCell_other _ _ _ _ (by simp)).trans hc, (World.frozen?_setCell _ _ _ _).trans hf⟩
theorem OwT.softZ {w : World} {base : Nat} {e : TypeId} {a : Option Addr} {n c : Nat} {xs : List Int} (h : OwT fZs w base e (.slice a n c) xs) : SoftV w a n := by
  rcases h with ⟨hv, _⟩ | ⟨g, cap, ys, hv, hg, hh, hl, hn, hc, ht⟩
  · cases hv; intro i hi; omega
  · cases hv
    intro i hi
    have hy : ys[i]? = some ys[i] := List.getElem?_eq_getElem (by omega)
    have e : ys.flatMap fZs = ys.map fZ := by clear hh hl hn hc ht hy hi; induction ys <;> simp_all [fZs]
    refine ⟨fZ ys[i], g, 0, rfl, ?_, ?_⟩
    · simp only [World.cell?, hh, Nat.zero_add, e]; simp [hy]
    · simp [World.frozen?, hh]
theorem frozen_block {w w' : World} {b i : Nat} (h : w'.heap[b]? = w.heap[b]?) : w'.frozen? ⟨b, i, none⟩ = w.frozen? ⟨b, i, none⟩ := by simp only [World.frozen?, h]
theorem SoftV.turns {w w' : World} {a : Option Addr} {n : Nat} {T : Nat → Prop} (h : SoftV w a n) (ht : Turns T w w') (hd : ∀ b o, a = some ⟨b, o, none⟩ → ¬ T b) : SoftV w' a n := by
  intro i hi
  obtain ⟨x, b, o, e, hc, hf⟩ := h i hi
  have hb := ht.block b (cell_lt hc) (hd b o e)
  exact ⟨x, b, o, e, (World.cell?_of_block (w := w) hb).trans hc, (frozen_block hb).trans hf⟩
theorem Soft.turns {w w' : World} {a : Option Addr} {n : Nat} {T : Nat → Prop} (h : Soft w a n) (ht : Turns T w w') (hd : ∀ b o, a = some ⟨b, o, none⟩ → ¬ T b) : Soft w' a n := by
  intro i hi
  obtain ⟨x, b, o, e, hc, hf⟩ := h i hi
  have hb := ht.block b (cell_lt hc) (hd b o e)
  exact ⟨x, b, o, e, (World.cell?_of_block (w := w) hb).trans hc, (frozen_block hb).trans hf⟩
/-- the reference's source, not odd, called k times, at byte i -/
def rcells (ab : Option Addr) (nb cb : Nat) (ag : Option Addr) (ng cg : Nat) (xf : Int) (eager : Bool) (k i : Nat) : Array Value :=
  #[.slice ab nb cb, .slice ag ng cg, .int .i64 xf, .bool eager, .int .i64 (k : Nat), .int .i64 (i : Nat), .bool false, .slice none 0 0, .slice none 0 0, .int .u8 0, .int .u8 0, .slice none 0 0]
end Go.Proofs.Ytpenbaafhbbmhaa
