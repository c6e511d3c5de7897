/- StreamFiles: helpers: lent bytes are soft, a file's Spans. Conditions: the file's rows are right. -/
import Derived.Test.YtljcogimeimknaaGreatF8a
import Derived.Test.YtljcogimeimknaaGreatFileOpen
namespace Go.Proofs.YtljcogimeimknaaGreat
open Go.RowKit
open Lib (hid)
set_option linter.unusedVariables false
set_option linter.unusedSimpArgs false

theorem Lent.soft {w : World} {g : Nat} {xs : List UInt8} (h : Lent w g xs) : Soft w (some ⟨g, 0, none⟩) (xs.length + 2) := fun i hi => by
  have hl : (xs ++ [77, 78]).length = xs.length + 2 := by simp
  refine ⟨(xs ++ [77, 78])[i]'(by omega), g, 0, rfl, ?_, free_block h _⟩
  rw [Nat.zero_add]
  exact cell_of h i (by rw [List.getElem?_toArray, List.getElem?_map, List.getElem?_eq_getElem (show i < (xs ++ [77, 78]).length by omega)]; rfl)
set_option maxRecDepth 100000 in
theorem sspansF_any {w : World} {lo hi g : Nat} {b : List UInt8} {rs : List Row} {a : Option Addr} {c : Nat} {a2 : Option Addr} {c2 : Nat} {vs : List RV} (h : FlO w lo hi g b rs a c a2 c2 vs) (hR : FRows b.length rs) :
    Calls Tryz.prog 13 #[.pointer (some ⟨g, 0, none⟩)] w fun e w' => ∃ a n c vs2, e = .returned (.slice a n c) ∧ OwR w' w.heap.size (.slice a n c) vs2 ∧ KTx w' w.heap.size w'.heap.size (.slice a n c) vs2 rs ∧ Below w.heap.size w w' := by
  have c1 := cell_of h.blk 1 (v := .slice a2 rs.length c2) rfl
  have hm := hR.many
  have CP := hid (copied_any a2 rs.length c2 vs rs w (by omega) (fun r hr => by have := (hR.row r hr).1; omega) h.spv)
  clear h hR
  go_enter Tryz.func13, Tryz.ntmps13
  go_wp2_with fail
  refine CP.out.mono ?_
  rintro e w1 ⟨a3, c3, vs3, rfl, h1, h2, h3⟩
  have H1 := hid h1
  have H2 := hid h2
  have H3 := hid h3
  clear h1 h2 h3
  go_wp2_with fail
  go_ret
  exact ⟨a3, _, c3, vs3, rfl, H1.out, H2.out, H3.out⟩
end Go.Proofs.YtljcogimeimknaaGreat
