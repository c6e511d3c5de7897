/- From the row's reading to slices of bools and of numbers of 64 bits. No condition. -/
import Derived.Test.YthiebpiohkfjgaaOpen
import Derived.Deep.Grids
namespace Go.Proofs.Ythiebpiohkfjgaa
open Go.ChangeShapes Go.WideShapes Go.ChangeAt Go.RowKit

theorem opens_bools {H : Type} {enc : TypeId × Value → H} {P : Program} {t e : TypeId} (ht : P.underlying t = some (.slice e)) (he : P.underlying e = some .bool) (hc : P.cellsOf e = 1)
    {W : World} {a : Option Addr} {n c : Nat} {d : DataW H} {p : List MemPlace} (h : DataW.Trod enc P W 0 (fun _ => true) true t (.slice a n c) d p) :
    ∃ zs : List Bool, Sl Value.bool W a n c zs ∧ ((d = .nil ∧ c = 0) ∨ ∃ elems spare, d = .slice elems spare ∧ elems.length + spare.length = c) := by
  obtain ⟨fuel, hf⟩ := h
  rcases Go.Deep.open_bools ht he hc hf with ⟨hcs, hx⟩ | ⟨x, l, c', V, hcs, _, hl, hm, hx, hcell⟩
  · simp [Value.cells] at hcs
    obtain ⟨rfl, rfl, rfl⟩ := hcs
    simp only [Prod.mk.injEq] at hx
    exact ⟨[], Sl.nil _ _, .inl ⟨hx.1, rfl⟩⟩
  · simp [Value.cells] at hcs
    obtain ⟨rfl, rfl, rfl⟩ := hcs
    simp only [Prod.mk.injEq] at hx
    refine ⟨(List.range n).map V, ⟨by simp, hl, by simp, fun i z hi => ?_⟩, .inr ⟨_, _, hx.1, by simp; omega⟩⟩
    have hin : i < n := by have := (List.getElem?_eq_some_iff.1 hi).1; simp at this; omega
    have hc0 := hcell i (by omega)
    obtain ⟨b, off, s⟩ := x
    have hc00 := hcell 0 (by omega)
    obtain rfl : s = none := by simpa [Addr.add] using World.cell?_spot hc00
    refine ⟨b, off, rfl, ?_⟩
    have e : (⟨b, off, none⟩ : Addr).add i = ⟨b, off + i, none⟩ := by unfold Addr.add; split <;> simp_all
    rw [e] at hc0
    rw [List.getElem?_map, List.getElem?_range hin] at hi
    cases hi
    exact hc0

/-- numbers of 64 bits -/
theorem opens_u64s {H : Type} {enc : TypeId × Value → H} {P : Program} {t e : TypeId} (ht : P.underlying t = some (.slice e)) (he : P.underlying e = some (.int .u64)) (hc : P.cellsOf e = 1)
    {W : World} {a : Option Addr} {n c : Nat} {d : DataW H} {p : List MemPlace} (h : DataW.Trod enc P W 0 (fun _ => true) true t (.slice a n c) d p) :
    ∃ zs : List Nat, Sl (fun m : Nat => Value.int .u64 (m : Int)) W a n c zs ∧ (∀ m, m ∈ zs → m < 18446744073709551616) ∧ ((d = .nil ∧ c = 0) ∨ ∃ elems spare, d = .slice elems spare ∧ elems.length + spare.length = c) := by
  obtain ⟨zs, hs, hw, hd⟩ := opens_ints ht he hc h
  refine ⟨zs.map Int.toNat, ⟨by rw [List.length_map]; exact hs.1, hs.2.1, hs.2.2.1, fun i x hx => ?_⟩, fun m hm => ?_, hd⟩
  · rw [List.getElem?_map] at hx
    cases hz : zs[i]? with
    | none => rw [hz] at hx; cases hx
    | some z =>
      rw [hz] at hx; cases hx
      obtain ⟨b, o, ha, hcell⟩ := hs.2.2.2 i z hz
      refine ⟨b, o, ha, ?_⟩
      have hb := wf_u64_of (hw z (List.mem_of_getElem? hz))
      rw [hcell]
      show _ = some (Value.int .u64 ((z.toNat : Nat) : Int))
      rw [Int.toNat_of_nonneg hb.1]
  · obtain ⟨z, hz, rfl⟩ := List.mem_map.1 hm
    have hb := wf_u64_of (hw z hz)
    omega
end Go.Proofs.Ythiebpiohkfjgaa
