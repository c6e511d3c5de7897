/- Rows of bytes of a call's own may be written over (a law package without lent and kept). No condition. -/
import Derived.Test.YtpenbaafhbbmhaaByte
import Derived.Test.YtpenbaafhbbmhaaHelpS
namespace Go.Proofs.Ytpenbaafhbbmhaa
open Go.RowKit

theorem OwT.soft {w : World} {base : Nat} {e : TypeId} {a : Option Addr} {n c : Nat} {xs : List UInt8} (h : OwT fB w base e (.slice a n c) xs) : Soft w a c := by
  rcases h with ⟨hv, _⟩ | ⟨g, cap, ys, hv, hg, hh, hl, hn, hc, ht⟩
  · cases hv; intro i hi; omega
  · cases hv
    intro i hi
    have hy : ys[i]? = some ys[i] := List.getElem?_eq_getElem (by omega)
    refine ⟨ys[i], g, 0, rfl, ?_, ?_⟩
    · simp only [World.cell?, hh, Nat.zero_add, flat_fB]; simp [hy]
    · simp [World.frozen?, hh]
end Go.Proofs.Ytpenbaafhbbmhaa
