/- A slice of texts in memory. No condition. -/
import Derived.Test.YtjkgncogpefnbaaByte
namespace Go.Proofs.Ytjkgncogpefnbaa
open Go.RowKit

/-- a slice of texts -/
def Rows2 (w : World) (a : Option Addr) (n c : Nat) (xss : List (List UInt8)) : Prop :=
  xss.length = n ∧ n ≤ c ∧ ∀ (i : Nat) (xs : List UInt8), xss[i]? = some xs → ∃ b o ax nx cx, a = some ⟨b, o, none⟩ ∧ w.cell? ⟨b, o + i, none⟩ = some (.slice ax nx cx) ∧ Sl Bf w ax nx cx xs
theorem Rows2.keep {w w' : World} {a : Option Addr} {n c : Nat} {xss : List (List UInt8)} (h : Rows2 w a n c xss) (hb : Below w.heap.size w w') : Rows2 w' a n c xss := by
  refine ⟨h.1, h.2.1, fun i xs hi => ?_⟩
  obtain ⟨b, o, ax, nx, cx, ha, hc, hs⟩ := h.2.2 i xs hi
  exact ⟨b, o, ax, nx, cx, ha, (World.cell?_of_block (a := ⟨b, _, none⟩) (hb.block b (cell_lt hc))).trans hc, hs.keep hb⟩
end Go.Proofs.Ytjkgncogpefnbaa
