/- From the row's reading to a slice of texts. No condition. -/
import Derived.Test.YteedjgjkldbbcaaK6a
import Derived.Test.YteedjgjkldbbcaaK6b
import Derived.Deep.Slices
namespace Go.Proofs.Yteedjgjkldbbcaa
open Go.ChangeShapes Go.WideShapes Go.RowKit

def textSum (ks : List (List UInt8)) : Nat := (ks.map List.length).sum
theorem opens_texts {H : Type} {enc : TypeId × Value → H} {P : Program} {t q u : TypeId} (ht : P.underlying t = some (.slice q)) (c0 : P.cellsOf q = 1)
    (hq : P.underlying q = some (.slice u)) (hu : P.underlying u = some (.int .u8)) (hc : P.cellsOf u = 1) (hb1 : P.bytesOf u = 1)
    {W : World} {a : Option Addr} {n c : Nat} {d : DataW H} {p : List MemPlace} (h : DataW.Trod enc P W 0 (fun _ => true) true t (.slice a n c) d p) :
    ∃ ks, Rows2 W a n c ks ∧ (∀ M, (∀ m, m ∈ d.weights P t → m ≤ M) → c * P.bytesOf q ≤ M ∧ ∀ k, k ∈ ks → k.length ≤ M) ∧ c + 1 + textSum ks ≤ Rows.uptoBulk d := by
  obtain ⟨fuel, hf⟩ := h
  rcases Go.Deep.open_slice1 ht c0 hf with ⟨hcs, hx⟩ | ⟨x, len, cap, m, k, V, D, Pl, hcs, _, hl, _, hm, hd, hx⟩
  · simp [Value.cells] at hcs
    obtain ⟨rfl, rfl, rfl⟩ := hcs
    simp only [Prod.mk.injEq] at hx
    refine ⟨[], ⟨rfl, Nat.le_refl _, fun i xs h => by simp at h⟩, fun M _ => ⟨by simp, fun k hk => by cases hk⟩, ?_⟩
    rw [hx.1]; simp [textSum, Rows.uptoBulk]
  · simp [Value.cells] at hcs
    obtain ⟨rfl, rfl, rfl⟩ := hcs
    simp only [if_true] at hm
    subst hm
    simp only [Prod.mk.injEq] at hd
    obtain ⟨hd, _⟩ := hd
    have each : ∀ i, i < m → ∃ y : List UInt8, ∃ av nv cv, W.cell? (x.add i) = some (.slice av nv cv) ∧ Sl Bf W av nv cv y ∧ ((D i = .nil ∧ cv = 0) ∨ ∃ elems spare, D i = .slice elems spare ∧ elems.length + spare.length = cv) := by
      intro i hi
      obtain ⟨h0, h1⟩ := hx i hi
      obtain ⟨av, nv, cv, ys, e0, s0, d0⟩ := trod_bytes hq hu hc h1
      exact ⟨ys, av, nv, cv, by rw [h0, e0], s0, d0⟩
    obtain ⟨Y, hY⟩ := Go.Deep.choose_lt each
    have hin : ∀ i, i < n → i < m := fun i hi => by omega
    refine ⟨(List.range n).map Y, ⟨by simp, hl, fun i y hy => ?_⟩, fun M hM => ⟨?_, fun y hy => ?_⟩, ?_⟩
    · have hin2 : i < n := by have := (List.getElem?_eq_some_iff.1 hy).1; simpa using this
      have hYi : Y i = y := by simpa [hin2] using hy
      obtain ⟨av, nv, cv, g0, s0, _⟩ := hY i (hin i hin2)
      obtain ⟨b, off, s⟩ := x
      have hs : s = none := by
        obtain ⟨_, _, _, g00, _⟩ := hY 0 (by omega)
        simpa [Addr.add] using World.cell?_spot g00
      subst hs
      have e0 : (⟨b, off, none⟩ : Addr).add i = ⟨b, off + i, none⟩ := by unfold Addr.add; split <;> simp_all
      rw [e0] at g0
      rw [hYi] at s0
      exact ⟨b, off, av, nv, cv, rfl, g0, s0⟩
    · refine hM _ ?_
      rw [hd]
      simp [DataW.weights, ht]
      left
      congr 1
      omega
    · obtain ⟨i, hi, rfl⟩ := List.mem_map.1 hy
      have hin2 : i < n := List.mem_range.1 hi
      obtain ⟨av, nv, cv, _, s0, d0⟩ := hY i (hin i hin2)
      have mem : ∀ z, z ∈ (D i).weights P q → z ≤ M := by
        intro z hz
        refine hM z ?_
        rw [hd]
        simp only [DataW.weights, ht, List.mem_cons, List.mem_append]
        exact .inr (.inl (weights_mem_all hz (List.mem_map.2 ⟨i, hi, rfl⟩)))
      have w0 := weights_text hq d0
      rw [hb1, Nat.mul_one] at w0
      have l0 := s0.len; have q0 := s0.le
      rcases w0 with e | e
      · omega
      · have := mem cv e; omega
    · rw [hd]
      simp only [Rows.uptoBulk]
      have h1 := bulk_sum D (fun i => (Y i).length) (List.range n) (fun i hi => by
        obtain ⟨av, nv, cv, _, s0, d0⟩ := hY i (hin i (List.mem_range.1 hi))
        have b0 := bulk_slice d0
        have l0 := s0.len; have q0 := s0.le
        omega)
      have h2 := bulk_length ((List.range (m - n)).map fun j => D (n + j))
      simp only [List.length_map, List.length_range] at h1 h2
      have e : textSum ((List.range n).map Y) = ((List.range n).map fun i => (Y i).length).sum := by unfold textSum; rw [List.map_map]; rfl
      rw [e]; omega
end Go.Proofs.Yteedjgjkldbbcaa
