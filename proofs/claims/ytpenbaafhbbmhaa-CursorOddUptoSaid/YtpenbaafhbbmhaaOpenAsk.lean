/- From the row's reading to scripts: of two numbers each, of a number and a text each. No condition. -/
import Derived.Test.YtpenbaafhbbmhaaOpenEnt
import Derived.Test.YtpenbaafhbbmhaaCurScript
namespace Go.Proofs.Ytpenbaafhbbmhaa
open Go.ChangeShapes Go.WideShapes Go.RowKit
set_option linter.unusedVariables false

theorem opens_asks {H : Type} {enc : TypeId × Value → H} {P : Program} {t e ti : TypeId} {f0 f1 : Field} (ht : P.underlying t = some (.slice e)) (he : P.underlying e = some (.struct #[f0, f1]))
    (ce : P.cellsOf e = 2) (o0 : f0.offset = 0) (o1 : f1.offset = 1) (t0 : f0.type = ti) (t1 : f1.type = ti) (c0 : P.cellsOf ti = 1) (hi : P.underlying ti = some (.int .i64))
    {W : World} {a : Option Addr} {n c : Nat} {d : DataW H} {p : List MemPlace} (h : DataW.Trod enc P W 0 (fun _ => true) true t (.slice a n c) d p) :
    ∃ l, Asks W a n c l ∧ AsksW l ∧ (∀ M, (∀ m, m ∈ d.weights P t → m ≤ M) → c * P.bytesOf e ≤ M) ∧ c + 1 ≤ Rows.uptoBulk d := by
  obtain ⟨fuel, hf⟩ := h
  rcases Go.Deep.open_slice_pairs ht he ce o0 o1 (by rw [t0]; exact c0) (by rw [t1]; exact c0) hf with ⟨hcs, hx⟩ | ⟨x, len, cap, m, k, V0, V1, D0, D1, P0, P1, hcs, _, hl, _, hm, hd, hx⟩
  · simp [Value.cells] at hcs
    obtain ⟨rfl, rfl, rfl⟩ := hcs
    simp only [Prod.mk.injEq] at hx
    refine ⟨[], ⟨rfl, Nat.le_refl _, by simp⟩, fun x h => (by cases h), fun M _ => (by simp), ?_⟩
    rw [hx.1]; simp [Rows.uptoBulk]
  · simp [Value.cells] at hcs
    obtain ⟨rfl, rfl, rfl⟩ := hcs
    simp only [if_true] at hm
    subst hm
    simp only [Prod.mk.injEq] at hd
    obtain ⟨hd, _⟩ := hd
    rw [t0, t1] at hx
    have each : ∀ i, i < n → ∃ y : Int × Int, W.cell? (x.add (i * 2)) = some (.int .i64 y.1) ∧ W.cell? (x.add (i * 2 + 1)) = some (.int .i64 y.2) ∧ -9223372036854775808 ≤ y.2 ∧ y.2 ≤ 9223372036854775807 := by
      intro i hi2
      obtain ⟨h0, h1, h2, h3⟩ := hx i (by omega)
      obtain ⟨z0, e0, _, _⟩ := DataW.trod_int hi h2
      obtain ⟨z1, e1, _, w1⟩ := DataW.trod_int hi h3
      have b1 := wf_i64_of w1
      exact ⟨(z0, z1), by rw [h0]; simpa using e0, by rw [h1]; simpa using e1, b1.1, b1.2⟩
    obtain ⟨Y, hY⟩ := Go.Deep.choose_lt each
    refine ⟨(List.range n).map Y, ⟨by simp, hl, fun i y hi2 => ?_⟩, fun y hy => ?_, fun M hM => ?_, ?_⟩
    · have hin : i < n := by have := (List.getElem?_eq_some_iff.1 hi2).1; simpa using this
      obtain rfl : Y i = y := by simpa [hin] using hi2
      obtain ⟨g0, g1, _⟩ := hY i hin
      obtain ⟨b, off, s⟩ := x
      have hs : s = none := by
        obtain ⟨g00, _⟩ := hY 0 (by omega)
        simpa [Addr.add] using World.cell?_spot g00
      subst hs
      have e0 : (⟨b, off, none⟩ : Addr).add (i * 2) = ⟨b, off + i * 2, none⟩ := by unfold Addr.add; split <;> simp_all
      have e1 : (⟨b, off, none⟩ : Addr).add (i * 2 + 1) = ⟨b, off + i * 2 + 1, none⟩ := by unfold Addr.add; split <;> simp_all <;> omega
      rw [e0] at g0
      rw [e1] at g1
      exact ⟨b, off, rfl, g0, g1⟩
    · obtain ⟨i, hi2, rfl⟩ := List.mem_map.1 hy
      exact (hY i (List.mem_range.1 hi2)).2.2
    · refine hM _ ?_
      rw [hd]
      simp [DataW.weights, ht]
      left
      congr 1
      omega
    · rw [hd]
      simp only [Rows.uptoBulk]
      have h1 := bulk_length ((List.range n).map fun i => (.agg [D0 i, D1 i] : DataW H))
      have h2 := bulk_length ((List.range (m - n)).map fun j => (.agg [D0 (n + j), D1 (n + j)] : DataW H))
      simp only [List.length_map, List.length_range] at h1 h2
      omega
theorem opens_lays {H : Type} {enc : TypeId × Value → H} {P : Program} {t e ti q u : TypeId} {f0 f1 : Field} (ht : P.underlying t = some (.slice e)) (he : P.underlying e = some (.struct #[f0, f1]))
    (ce : P.cellsOf e = 2) (o0 : f0.offset = 0) (o1 : f1.offset = 1) (t0 : f0.type = ti) (t1 : f1.type = q) (c0 : P.cellsOf ti = 1) (c1 : P.cellsOf q = 1) (hi : P.underlying ti = some (.int .i64)) (hq : P.underlying q = some (.slice u)) (hu : P.underlying u = some (.int .u8)) (hc : P.cellsOf u = 1)
    {W : World} {a : Option Addr} {n c : Nat} {d : DataW H} {p : List MemPlace} (h : DataW.Trod enc P W 0 (fun _ => true) true t (.slice a n c) d p) :
    ∃ l, Lays W a n c l ∧ c + 1 + laySum l ≤ Rows.uptoBulk d := by
  obtain ⟨fuel, hf⟩ := h
  rcases Go.Deep.open_slice_pairs ht he ce o0 o1 (by rw [t0]; exact c0) (by rw [t1]; exact c1) hf with ⟨hcs, hx⟩ | ⟨x, len, cap, m, k, V0, V1, D0, D1, P0, P1, hcs, _, hl, _, hm, hd, hx⟩
  · simp [Value.cells] at hcs
    obtain ⟨rfl, rfl, rfl⟩ := hcs
    simp only [Prod.mk.injEq] at hx
    refine ⟨[], ⟨rfl, Nat.le_refl _, by simp⟩, ?_⟩
    rw [hx.1]; simp [laySum, Rows.uptoBulk]
  · simp [Value.cells] at hcs
    obtain ⟨rfl, rfl, rfl⟩ := hcs
    simp only [if_true] at hm
    subst hm
    simp only [Prod.mk.injEq] at hd
    obtain ⟨hd, _⟩ := hd
    rw [t0, t1] at hx
    have each : ∀ i, i < n → ∃ y : Int × List UInt8, ∃ av nv cv, W.cell? (x.add (i * 2)) = some (.int .i64 y.1) ∧ W.cell? (x.add (i * 2 + 1)) = some (.slice av nv cv) ∧ Sl Bf W av nv cv y.2 ∧ ((D1 i = .nil ∧ cv = 0) ∨ ∃ elems spare, D1 i = .slice elems spare ∧ elems.length + spare.length = cv) := by
      intro i hi2
      obtain ⟨h0, h1, h2, h3⟩ := hx i (by omega)
      obtain ⟨z0, e0, _, _⟩ := DataW.trod_int hi h2
      obtain ⟨av, nv, cv, vs, e1, s1, d1⟩ := trod_bytes hq hu hc h3
      exact ⟨(z0, vs), av, nv, cv, by rw [h0]; simpa using e0, by rw [h1, e1], s1, d1⟩
    obtain ⟨Y, hY⟩ := Go.Deep.choose_lt each
    refine ⟨(List.range n).map Y, ⟨by simp, hl, fun i y hi2 => ?_⟩, ?_⟩
    · have hin : i < n := by have := (List.getElem?_eq_some_iff.1 hi2).1; simpa using this
      obtain rfl : Y i = y := by simpa [hin] using hi2
      obtain ⟨av, nv, cv, g0, g1, s1, _⟩ := hY i hin
      obtain ⟨b, off, s⟩ := x
      have hs : s = none := by
        obtain ⟨_, _, _, g00, _⟩ := hY 0 (by omega)
        simpa [Addr.add] using World.cell?_spot g00
      subst hs
      have e0 : (⟨b, off, none⟩ : Addr).add (i * 2) = ⟨b, off + i * 2, none⟩ := by unfold Addr.add; split <;> simp_all
      have e1 : (⟨b, off, none⟩ : Addr).add (i * 2 + 1) = ⟨b, off + i * 2 + 1, none⟩ := by unfold Addr.add; split <;> simp_all <;> omega
      rw [e0] at g0
      rw [e1] at g1
      exact ⟨b, off, av, nv, cv, rfl, g0, g1, s1⟩
    · rw [hd]
      simp only [Rows.uptoBulk]
      have h1 := bulk_sum (fun i => (.agg [D0 i, D1 i] : DataW H)) (fun i => (Y i).2.length) (List.range n) (fun i hi => by
        obtain ⟨av, nv, cv, _, _, s1, d1⟩ := hY i (List.mem_range.1 hi)
        have b1 := bulk_slice d1
        have l1 := s1.len; have q1 := s1.le
        simp only [Rows.uptoBulk, Rows.uptoBulkAll]; omega)
      have h2 := bulk_length ((List.range (m - n)).map fun j => (.agg [D0 (n + j), D1 (n + j)] : DataW H))
      simp only [List.length_map, List.length_range] at h1 h2
      have e : laySum ((List.range n).map Y) = ((List.range n).map fun i => (Y i).2.length).sum := by unfold laySum; rw [List.map_map]; rfl
      rw [e]; omega
end Go.Proofs.Ytpenbaafhbbmhaa
