/- From the row's reading to a slice of rows of a foot. No condition. -/
import Derived.Test.YtpmijgeakmmieaaOpenEnt
import Derived.Test.YtpmijgeakmmieaaFootM
import Derived.Deep.Slices
import Derived.Lib.SmallJoins
namespace Go.Proofs.Ytpmijgeakmmieaa
open Go.ChangeShapes Go.WideShapes Go.RowKit

def keySum (rs : List Row) : Nat := (rs.map fun r => r.1.length).sum
/-- the numbers are within bounds -/
def NumR (rs : List Row) : Prop := ∀ r, r ∈ rs → (-9223372036854775808 ≤ r.2.1 ∧ r.2.1 ≤ 9223372036854775807) ∧ (-9223372036854775808 ≤ r.2.2.1 ∧ r.2.2.1 ≤ 9223372036854775807) ∧ (-9223372036854775808 ≤ r.2.2.2 ∧ r.2.2.2 ≤ 9223372036854775807)
theorem NumR.fit {rs : List Row} {M : Nat} (h : NumR rs) (hk : ∀ r, r ∈ rs → r.1.length ≤ M) : FitR M rs := fun r hr => ⟨hk r hr, h r hr⟩
theorem trod_rows {H : Type} {enc : TypeId × Value → H} {P : Program} {t e q u ti : TypeId} {f0 f1 f2 f3 : Field} (ht : P.underlying t = some (.slice e)) (he : P.underlying e = some (.struct #[f0, f1, f2, f3]))
    (ce : P.cellsOf e = 4) (o0 : f0.offset = 0) (o1 : f1.offset = 1) (o2 : f2.offset = 2) (o3 : f3.offset = 3) (t0 : f0.type = q) (t1 : f1.type = ti) (t2 : f2.type = ti) (t3 : f3.type = ti) (c0 : P.cellsOf q = 1) (ci : P.cellsOf ti = 1)
    (hq : P.underlying q = some (.slice u)) (hu : P.underlying u = some (.int .u8)) (hc : P.cellsOf u = 1) (hb1 : P.bytesOf u = 1) (hi : P.underlying ti = some (.int .i64))
    {W : World} {V : Value} {fuel : Nat} {y : DataW H × List MemPlace} (h : DataW.trod enc P W 0 (fun _ => true) true fuel t [V] = some y) :
    ∃ a n c rs, V = .slice a n c ∧ Spans W a n c rs ∧ NumR rs ∧ (∀ M, (∀ m, m ∈ y.1.weights P t → m ≤ M) → c * P.bytesOf e ≤ M ∧ ∀ r, r ∈ rs → r.1.length ≤ M) ∧ c + 1 + keySum rs ≤ Rows.uptoBulk y.1 := by
  rcases Go.Deep.open_slice ht h with ⟨hcs, hx⟩ | ⟨x, n, c, m, k, D, Pl, hcs, _, hl, hmx, hm, hd, hx⟩
  · obtain rfl : V = .slice none 0 0 := by simpa using hcs
    subst hx
    refine ⟨none, 0, 0, [], rfl, ⟨rfl, Nat.le_refl _, fun _ => rfl, fun i k x y z h => by simp at h⟩, fun r hr => (by cases hr), fun M _ => ⟨by simp, fun r hr => by cases hr⟩, ?_⟩
    simp [keySum, Rows.uptoBulk]
  · obtain rfl : V = .slice (some x) n c := by simpa using hcs
    simp only [if_true] at hm
    subst hm
    have each : ∀ i, i < m → ∃ r : Row, ∃ (av : Option Addr) (nv cv : Nat) (dk dx dy dz : DataW H), W.cell? (x.add (i * 4)) = some (.slice av nv cv) ∧ W.cell? ((x.add (i * 4)).add 1) = some (.int .i64 r.2.1) ∧ W.cell? ((x.add (i * 4)).add 2) = some (.int .i64 r.2.2.1) ∧ W.cell? ((x.add (i * 4)).add 3) = some (.int .i64 r.2.2.2) ∧ Sl Bf W av nv cv r.1 ∧
        D i = .agg [dk, dx, dy, dz] ∧ ((dk = .nil ∧ cv = 0) ∨ ∃ elems spare, dk = .slice elems spare ∧ elems.length + spare.length = cv) ∧ (Lit.int .i64 r.2.1).wf = true ∧ (Lit.int .i64 r.2.2.1).wf = true ∧ (Lit.int .i64 r.2.2.2).wf = true := by
      intro i hi2
      obtain ⟨cs', h1, h2⟩ := hx i hi2
      rw [ce] at h1
      obtain ⟨_, hlen, hcell⟩ := World.cells?_some h1
      obtain ⟨y0, y1, y2, y3, k', hxy, _, g0, g1, g2, g3⟩ := Go.Joins.trod_struct4 he h2
      match cs', hlen with
      | [v0, v1, v2, v3], _ =>
        rw [o0, t0, c0] at g0
        rw [o1, t1, ci] at g1
        rw [o2, t2, ci] at g2
        rw [o3, t3, ci] at g3
        simp at g0 g1 g2 g3
        have e0 := hcell 0 (by omega)
        have e1 := hcell 1 (by omega)
        have e2 := hcell 2 (by omega)
        have e3 := hcell 3 (by omega)
        simp [Addr.add] at e0
        obtain ⟨z1, ei1, _, w1⟩ := DataW.trod_int hi g1
        obtain ⟨z2, ei2, _, w2⟩ := DataW.trod_int hi g2
        obtain ⟨z3, ei3, _, w3⟩ := DataW.trod_int hi g3
        obtain rfl : v1 = .int .i64 z1 := by simpa using ei1
        obtain rfl : v2 = .int .i64 z2 := by simpa using ei2
        obtain rfl : v3 = .int .i64 z3 := by simpa using ei3
        obtain ⟨av, nv, cv, xs, rfl, hs, hdk⟩ := trod_bytes hq hu hc g0
        simp only [Prod.mk.injEq] at hxy
        refine ⟨(xs, z1, z2, z3), av, nv, cv, y0.1, y1.1, y2.1, y3.1, ?_, by simpa using e1, by simpa using e2, by simpa using e3, hs, hxy.1, hdk, w1, w2, w3⟩
        simpa [Addr.add] using e0
    obtain ⟨Y, hY⟩ := Go.Deep.choose_lt each
    subst hd
    have hin : ∀ i, i < n → i < m := fun i hi => by omega
    refine ⟨some x, n, m, (List.range n).map Y, rfl, ⟨by simp, hl, by simp, fun i k' x' y' z' hi => ?_⟩, fun r hr => ?_, fun M hM => ⟨?_, fun r hr => ?_⟩, ?_⟩
    · have hin2 : i < n := by have := (List.getElem?_eq_some_iff.1 hi).1; simpa using this
      have hYi : Y i = (k', x', y', z') := by simpa [hin2] using hi
      obtain ⟨av, nv, cv, dk, dx, dy, dz, g0, g1, g2, g3, s0, _⟩ := hY i (hin i hin2)
      obtain ⟨b, off, s⟩ := x
      have hs : s = none := by
        obtain ⟨_, _, _, _, _, _, _, g00, _⟩ := hY 0 (by omega)
        simpa [Addr.add] using World.cell?_spot g00
      subst hs
      have ea : (⟨b, off, none⟩ : Addr).add (i * 4) = ⟨b, off + i * 4, none⟩ := by unfold Addr.add; split <;> simp_all
      rw [ea] at g0 g1 g2 g3
      rw [hYi] at g1 g2 g3 s0
      exact ⟨b, off, av, nv, cv, rfl, g0, g1, g2, g3, s0⟩
    · obtain ⟨i, hi, rfl⟩ := List.mem_map.1 hr
      obtain ⟨av, nv, cv, dk, dx, dy, dz, _, _, _, _, s0, _, _, w1, w2, w3⟩ := hY i (hin i (List.mem_range.1 hi))
      exact ⟨wf_i64_of w1, wf_i64_of w2, wf_i64_of w3⟩
    · refine hM _ ?_
      simp [DataW.weights, ht]
      left
      congr 1
      omega
    · obtain ⟨i, hi, rfl⟩ := List.mem_map.1 hr
      have hin2 : i < n := List.mem_range.1 hi
      obtain ⟨av, nv, cv, dk, dx, dy, dz, _, _, _, _, s0, hD, d0, _⟩ := hY i (hin i hin2)
      have mem : ∀ z, z ∈ DataW.weightsEach P [q, ti, ti, ti] [dk, dx, dy, dz] → z ≤ M := by
        intro z hz
        refine hM z ?_
        simp only [DataW.weights, ht, List.mem_cons, List.mem_append]
        refine .inr (.inl (weights_mem_all (d := .agg [dk, dx, dy, dz]) ?_ (List.mem_map.2 ⟨i, hi, hD⟩)))
        simp only [DataW.weights, he]
        simpa [t0, t1, t2, t3] using hz
      have w0 := weights_text hq d0
      rw [hb1, Nat.mul_one] at w0
      have l0 := s0.len; have q0 := s0.le
      rcases w0 with e | e
      · omega
      · have := mem cv (by simp only [DataW.weightsEach, List.mem_append]; exact .inl e); omega
    · simp only [Rows.uptoBulk]
      have h1 := bulk_sum D (fun i => (Y i).1.length) (List.range n) (fun i hi => by
        obtain ⟨av, nv, cv, dk, dx, dy, dz, _, _, _, _, s0, hD, d0, _⟩ := hY i (hin i (List.mem_range.1 hi))
        have b0 := bulk_slice d0
        have l0 := s0.len; have q0 := s0.le
        have := bulk_one dx; 
        rw [hD]
        simp only [Rows.uptoBulk, Rows.uptoBulkAll]; omega)
      have h2 := bulk_length ((List.range (m - n)).map fun j => D (n + j))
      simp only [List.length_map, List.length_range] at h1 h2
      have e : keySum ((List.range n).map Y) = ((List.range n).map fun i => (Y i).1.length).sum := by unfold keySum; rw [List.map_map]; rfl
      rw [e]; omega
theorem opens_rows {H : Type} {enc : TypeId × Value → H} {P : Program} {t e q u ti : TypeId} {f0 f1 f2 f3 : Field} (ht : P.underlying t = some (.slice e)) (he : P.underlying e = some (.struct #[f0, f1, f2, f3]))
    (ce : P.cellsOf e = 4) (o0 : f0.offset = 0) (o1 : f1.offset = 1) (o2 : f2.offset = 2) (o3 : f3.offset = 3) (t0 : f0.type = q) (t1 : f1.type = ti) (t2 : f2.type = ti) (t3 : f3.type = ti) (c0 : P.cellsOf q = 1) (ci : P.cellsOf ti = 1)
    (hq : P.underlying q = some (.slice u)) (hu : P.underlying u = some (.int .u8)) (hc : P.cellsOf u = 1) (hb1 : P.bytesOf u = 1) (hi : P.underlying ti = some (.int .i64))
    {W : World} {a : Option Addr} {n c : Nat} {d : DataW H} {p : List MemPlace} (h : DataW.Trod enc P W 0 (fun _ => true) true t (.slice a n c) d p) :
    ∃ rs, Spans W a n c rs ∧ NumR rs ∧ (∀ M, (∀ m, m ∈ d.weights P t → m ≤ M) → c * P.bytesOf e ≤ M ∧ ∀ r, r ∈ rs → r.1.length ≤ M) ∧ c + 1 + keySum rs ≤ Rows.uptoBulk d := by
  obtain ⟨fuel, hf⟩ := h
  obtain ⟨a', n', c', rs, e, r⟩ := trod_rows (y := (d, p)) ht he ce o0 o1 o2 o3 t0 t1 t2 t3 c0 ci hq hu hc hb1 hi (V := .slice a n c) (by simpa [Value.cells] using hf)
  cases e
  exact ⟨rs, r⟩
end Go.Proofs.Ytpmijgeakmmieaa
