/- From the row's reading to items, and to what law CursorTrips is handed. No condition. -/
import Derived.Test.YtpenbaafhbbmhaaOpenPipe
import Derived.Test.YtpenbaafhbbmhaaK4t
import Derived.Deep.Slices
import Derived.Deep.Strs
namespace Go.Proofs.Ytpenbaafhbbmhaa
open Go.ChangeShapes Go.WideShapes Go.RowKit
set_option linter.unusedVariables false

theorem opens_items {H : Type} {enc : TypeId × Value → H} {P : Program} {t e tb ti q u : TypeId} {f0 f1 f2 : Field} (ht : P.underlying t = some (.slice e)) (he : P.underlying e = some (.struct #[f0, f1, f2]))
    (ce : P.cellsOf e = 3) (o0 : f0.offset = 0) (o1 : f1.offset = 1) (o2 : f2.offset = 2) (t0 : f0.type = tb) (t1 : f1.type = ti) (t2 : f2.type = q) (c0 : P.cellsOf tb = 1) (c1 : P.cellsOf ti = 1) (c2 : P.cellsOf q = 1)
    (hb : P.underlying tb = some .bool) (hi : P.underlying ti = some (.int .u64)) (hq : P.underlying q = some (.slice u)) (hu : P.underlying u = some (.int .u8)) (hc : P.cellsOf u = 1)
    {W : World} {V : Value} {n : Nat} {x : DataW H × List MemPlace} (h : DataW.trod enc P W 0 (fun _ => true) true n t [V] = some x) :
    ∃ a l c L, V = .slice a l c ∧ Itms W a l c L ∧ ItmsW L ∧ c + itmSum L + 1 ≤ Rows.uptoBulk x.1 := by
  rcases Go.Deep.open_slice ht h with ⟨hcs, hd⟩ | ⟨y, len, cap, m, k, D, Pl, hcs, _, hl, _, hm, hd, hx⟩
  · obtain rfl : V = .slice none 0 0 := List.cons.inj hcs |>.1
    exact ⟨none, 0, 0, [], rfl, ⟨rfl, Nat.le_refl _, by simp⟩, fun x h => (by cases h), by rw [hd]; simp [itmSum, Rows.uptoBulk]⟩
  · obtain rfl : V = .slice (some y) len cap := List.cons.inj hcs |>.1
    simp only [if_true] at hm
    subst hm
    have each : ∀ i, i < len → ∃ z : Itm, ∃ av nv cv, W.cell? (y.add (i * 3)) = some (.bool z.1) ∧ W.cell? ((y.add (i * 3)).add 1) = some (.int .u64 (z.2.1 : Nat)) ∧ W.cell? ((y.add (i * 3)).add 2) = some (.slice av nv cv) ∧ Sl Bf W av nv cv z.2.2 ∧ z.2.1 < 18446744073709551616 ∧ z.2.2.length + 1 ≤ Rows.uptoBulk (D i) := by
      intro i hi2
      obtain ⟨cs', h1, h2⟩ := hx i (by omega)
      rw [ce] at h1
      obtain ⟨_, hlen, hcell⟩ := World.cells?_some h1
      obtain ⟨y0, y1, y2, k', hxy, _, g0, g1, g2⟩ := Go.Deep.trod_struct3 he h2
      match cs', hlen with
      | [v0, v1, v2], _ =>
        rw [o0, t0, c0] at g0
        rw [o1, t1, c1] at g1
        rw [o2, t2, c2] at g2
        simp at g0 g1 g2
        have e0 := hcell 0 (by omega)
        have e1 := hcell 1 (by omega)
        have e2 := hcell 2 (by omega)
        simp [Addr.add] at e0
        obtain ⟨b0, eb, _⟩ := DataW.trod_bool hb g0
        obtain ⟨z1, ei, _, w1⟩ := DataW.trod_int hi g1
        obtain rfl : v0 = .bool b0 := by simpa using eb
        obtain rfl : v1 = .int .u64 z1 := by simpa using ei
        obtain ⟨w1, w1'⟩ := wf_u64_of w1
        obtain ⟨z, rfl⟩ : ∃ z : Nat, z1 = z := ⟨z1.toNat, by omega⟩
        obtain ⟨av, nv, cv, xs, rfl, hs, hbk⟩ := trod_bytes hq hu hc g2
        have hbk := bulk_slice hbk
        have hle := hs.le
        have hln := hs.len
        simp only [Prod.mk.injEq] at hxy
        refine ⟨(b0, z, xs), av, nv, cv, ?_, by simpa using e1, by simpa using e2, hs, by show z < _; omega, ?_⟩
        · simpa [Addr.add] using e0
        · rw [hxy.1]; simp only [Rows.uptoBulk, Rows.uptoBulkAll]; omega
    obtain ⟨Y, hY⟩ := Go.Deep.choose_lt each
    refine ⟨_, _, _, (List.range len).map Y, rfl, ⟨by simp, hl, fun i z hz => ?_⟩, fun z hz => ?_, ?_⟩
    · have hin : i < len := by have := (List.getElem?_eq_some_iff.1 hz).1; simpa using this
      have hYi : Y i = z := by simpa [hin] using hz
      obtain ⟨av, nv, cv, g0, g1, g2, s0, _⟩ := hY i hin
      obtain ⟨b, off, s⟩ := y
      have hs : s = none := by
        obtain ⟨_, _, _, g00, _⟩ := hY 0 (by omega)
        simpa [Addr.add] using World.cell?_spot g00
      subst hs
      have ea : (⟨b, off, none⟩ : Addr).add (i * 3) = ⟨b, off + i * 3, none⟩ := by unfold Addr.add; split <;> simp_all
      rw [ea] at g0 g1 g2
      rw [hYi] at g0 g1 s0
      exact ⟨b, off, av, nv, cv, rfl, g0, g1, g2, s0⟩
    · obtain ⟨i, hi2, rfl⟩ := List.mem_map.1 hz
      obtain ⟨_, _, _, _, _, _, _, h5, _⟩ := hY i (List.mem_range.1 hi2)
      exact h5
    · rw [hd]
      have h1 := bulk_sum D (fun i => (Y i).2.2.length) (List.range len) (fun i hi2 => by
        obtain ⟨_, _, _, _, _, _, _, _, h6⟩ := hY i (List.mem_range.1 hi2)
        exact h6)
      have h2 := bulk_length ((List.range (m - len)).map fun j => D (len + j))
      have e : itmSum ((List.range len).map Y) = ((List.range len).map fun i => (Y i).2.2.length).sum := by unfold itmSum; rw [List.map_map]; rfl
      simp only [Rows.uptoBulk]
      simp only [List.length_map, List.length_range] at h1 h2
      rw [e]; omega
theorem trod_struct6 {H : Type} {enc : TypeId × Value → H} {P : Program} {w : World} {base : Nat} {spare : Nat → Bool} {held : Bool} {t : TypeId} {f0 f1 f2 f3 f4 f5 : Field} {fuel : Nat} {cs : List Value} {x : DataW H × List MemPlace} (ht : P.underlying t = some (.struct #[f0, f1, f2, f3, f4, f5])) (h : DataW.trod enc P w base spare held fuel t cs = some x) :
    ∃ y0 y1 y2 y3 y4 y5 n, x = (.agg [y0.1, y1.1, y2.1, y3.1, y4.1, y5.1], y0.2 ++ (y1.2 ++ (y2.2 ++ (y3.2 ++ (y4.2 ++ y5.2))))) ∧ cs.length = P.cellsOf t ∧ DataW.trod enc P w base spare held n f0.type ((cs.drop f0.offset).take (P.cellsOf f0.type)) = some y0 ∧
      DataW.trod enc P w base spare held n f1.type ((cs.drop f1.offset).take (P.cellsOf f1.type)) = some y1 ∧ DataW.trod enc P w base spare held n f2.type ((cs.drop f2.offset).take (P.cellsOf f2.type)) = some y2 ∧
      DataW.trod enc P w base spare held n f3.type ((cs.drop f3.offset).take (P.cellsOf f3.type)) = some y3 ∧ DataW.trod enc P w base spare held n f4.type ((cs.drop f4.offset).take (P.cellsOf f4.type)) = some y4 ∧ DataW.trod enc P w base spare held n f5.type ((cs.drop f5.offset).take (P.cellsOf f5.type)) = some y5 := by
  obtain ⟨xs, n, _, rfl, hl, hlen, hf⟩ := DataW.trod_struct ht h
  match xs, hlen with
  | [y0, y1, y2, y3, y4, y5], _ => exact ⟨y0, y1, y2, y3, y4, y5, n, by simp, hl, by simpa using hf 0 f0 rfl, by simpa using hf 1 f1 rfl, by simpa using hf 2 f2 rfl, by simpa using hf 3 f3 rfl, by simpa using hf 4 f4 rfl, by simpa using hf 5 f5 rfl⟩
theorem opens_trips {H : Type} {enc : TypeId × Value → H} {P : Program} {ql tl tb tu q u qi ti tw : TypeId} {h0 h1 h2 h3 h4 h5 f0 f1 f2 : Field} (hs : P.underlying tw = some (.struct #[h0, h1, h2, h3, h4, h5])) (cw : P.cellsOf tw = 6)
    (y0 : h0.offset = 0) (y1 : h1.offset = 1) (y2 : h2.offset = 2) (y3 : h3.offset = 3) (y4 : h4.offset = 4) (y5 : h5.offset = 5) (x0 : h0.type = ql) (x1 : h1.type = qi) (x2 : h2.type = ti) (x3 : h3.type = qi) (x4 : h4.type = ti) (x5 : h5.type = tb)
    (cql : P.cellsOf ql = 1) (cqi : P.cellsOf qi = 1) (ci : P.cellsOf ti = 1) (cb : P.cellsOf tb = 1) (hqi : P.underlying qi = some (.slice ti)) (hi : P.underlying ti = some (.int .i64))
    (ht : P.underlying ql = some (.slice tl)) (he : P.underlying tl = some (.struct #[f0, f1, f2])) (ce : P.cellsOf tl = 3) (o0 : f0.offset = 0) (o1 : f1.offset = 1) (o2 : f2.offset = 2) (t0 : f0.type = tb) (t1 : f1.type = tu) (t2 : f2.type = q) (c1 : P.cellsOf tu = 1) (c2 : P.cellsOf q = 1)
    (hb : P.underlying tb = some .bool) (hu64 : P.underlying tu = some (.int .u64)) (hq : P.underlying q = some (.slice u)) (hu : P.underlying u = some (.int .u8)) (hc : P.cellsOf u = 1)
    {W : World} {r : Reach} {b0 : Nat} {v : Value} {d : DataW H} {p : List MemPlace} (hv : Value.okWide P W r b0 tw v) (h : DataW.Trod enc P W 0 (fun _ => true) true tw v d p) :
    ∃ a0 n0 k0 l0 a1 n1 k1 xs1 z2 a3 n3 k3 xs3 z4 e5, v = .agg #[.slice a0 n0 k0, .slice a1 n1 k1, .int .i64 z2, .slice a3 n3 k3, .int .i64 z4, .bool e5] ∧ Itms W a0 n0 k0 l0 ∧ ItmsW l0 ∧ Sl (Value.int .i64) W a1 n1 k1 xs1 ∧ IntsW xs1 ∧ Sl (Value.int .i64) W a3 n3 k3 xs3 ∧ IntsW xs3 ∧
      k0 + itmSum l0 + k1 + k3 + 3 ≤ Rows.uptoBulk d := by
  obtain ⟨cs', rfl, hsz⟩ := okWide_struct hs hv
  obtain ⟨l⟩ := cs'
  match l, hsz.trans cw with
  | [v0, v1, v2, v3, v4, v5], _ =>
    obtain ⟨fuel, hf⟩ := h
    obtain ⟨z0, z1, z2, z3, z4, z5, k', hx, _, g0, g1, g2, g3, g4, g5⟩ := trod_struct6 hs hf
    rw [y0, x0, cql] at g0
    rw [y1, x1, cqi] at g1
    rw [y2, x2, ci] at g2
    rw [y3, x3, cqi] at g3
    rw [y4, x4, ci] at g4
    rw [y5, x5, cb] at g5
    simp [Value.cells] at g0 g1 g2 g3 g4 g5
    obtain ⟨a0, n0, k0, l0, rfl, S0, I0, B0⟩ := opens_items ht he ce o0 o1 o2 t0 t1 t2 cb c1 c2 hb hu64 hq hu hc g0
    obtain ⟨a1, n1, k1, xs1, rfl, S1, I1, D1⟩ := trod_ints hqi hi ci g1
    obtain ⟨w2, e2, _, _⟩ := DataW.trod_int hi g2
    obtain rfl : v2 = .int .i64 w2 := by simpa using e2
    obtain ⟨a3, n3, k3, xs3, rfl, S3, I3, D3⟩ := trod_ints hqi hi ci g3
    obtain ⟨w4, e4, _, _⟩ := DataW.trod_int hi g4
    obtain rfl : v4 = .int .i64 w4 := by simpa using e4
    obtain ⟨w5, e5, _⟩ := DataW.trod_bool hb g5
    obtain rfl : v5 = .bool w5 := by simpa using e5
    have b1 := bulk_slice D1; have b3 := bulk_slice D3
    simp only [Prod.mk.injEq] at hx
    refine ⟨a0, n0, k0, l0, a1, n1, k1, xs1, w2, a3, n3, k3, xs3, w4, w5, rfl, S0, I0, S1, I1, S3, I3, ?_⟩
    rw [hx.1]; simp only [Rows.uptoBulk, Rows.uptoBulkAll]; omega
end Go.Proofs.Ytpenbaafhbbmhaa
