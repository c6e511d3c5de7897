/- From the row's reading to slices of numbers of 16 bits. No condition. -/
import Derived.Test.YtjkgncogpefnbaaOpen
namespace Go.Proofs.Ytjkgncogpefnbaa
open Go.ChangeShapes Go.WideShapes Go.ChangeAt Go.RowKit

theorem wf_u16_of {x : Int} (h : (Lit.int .u16 x).wf = true) : 0 ≤ x ∧ x ≤ 65535 := by
  simp [Lit.wf, IntKind.min, IntKind.max, IntKind.signed, IntKind.bits] at h; omega
theorem opens_u16s {H : Type} {enc : TypeId × Value → H} {P : Program} {t e : TypeId} (ht : P.underlying t = some (.slice e)) (he : P.underlying e = some (.int .u16)) (hc : P.cellsOf e = 1)
    {W : World} {a : Option Addr} {n c : Nat} {d : DataW H} {p : List MemPlace} (h : DataW.Trod enc P W 0 (fun _ => true) true t (.slice a n c) d p) :
    ∃ zs : List Nat, Sl (fun m : Nat => Value.int .u16 (m : Int)) W a n c zs ∧ (∀ m, m ∈ zs → m ≤ 65535) ∧ ((d = .nil ∧ c = 0) ∨ ∃ elems spare, d = .slice elems spare ∧ elems.length + spare.length = c) := by
  obtain ⟨zs, hs, hw, hd⟩ := opens_ints ht he hc h
  refine ⟨zs.map Int.toNat, ⟨by rw [List.length_map]; exact hs.1, hs.2.1, hs.2.2.1, fun i x hx => ?_⟩, fun m hm => ?_, hd⟩
  · rw [List.getElem?_map] at hx
    cases hz : zs[i]? with
    | none => rw [hz] at hx; cases hx
    | some z =>
      rw [hz] at hx; cases hx
      obtain ⟨b, o, ha, hcell⟩ := hs.2.2.2 i z hz
      refine ⟨b, o, ha, ?_⟩
      have hb := wf_u16_of (hw z (List.mem_of_getElem? hz))
      rw [hcell]
      show _ = some (Value.int .u16 ((z.toNat : Nat) : Int))
      rw [Int.toNat_of_nonneg hb.1]
  · obtain ⟨z, hz, rfl⟩ := List.mem_map.1 hm
    have hb := wf_u16_of (hw z hz)
    omega
end Go.Proofs.Ytjkgncogpefnbaa
