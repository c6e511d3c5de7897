/- From the row's reading to a struct of a text, an entry and two texts more. No condition. -/
import Derived.Test.YtajmojldckpchaaOpenEnt
import Derived.Lib.SmallJoins
namespace Go.Proofs.Ytajmojldckpchaa
open Go.ChangeShapes Go.WideShapes Go.RowKit

theorem opens_trip {H : Type} {enc : TypeId × Value → H} {P : Program} {t ee q u : TypeId} {f0 f1 f2 f3 g0 g1 : Field} (hs : P.underlying t = some (.struct #[f0, f1, f2, f3])) (ct : P.cellsOf t = 5) (he : P.underlying ee = some (.struct #[g0, g1])) (ce : P.cellsOf ee = 2)
    (o0 : f0.offset = 0) (o1 : f1.offset = 1) (o2 : f2.offset = 3) (o3 : f3.offset = 4) (t0 : f0.type = q) (t1 : f1.type = ee) (t2 : f2.type = q) (t3 : f3.type = q) (p0 : g0.offset = 0) (p1 : g1.offset = 1) (u0 : g0.type = q) (u1 : g1.type = q)
    (cq : P.cellsOf q = 1) (hq : P.underlying q = some (.slice u)) (hu : P.underlying u = some (.int .u8)) (hc : P.cellsOf u = 1)
    {W : World} {r : Reach} {b0 : Nat} {v : Value} {d : DataW H} {p : List MemPlace} (hv : Value.okWide P W r b0 t v) (h : DataW.Trod enc P W 0 (fun _ => true) true t v d p) :
    ∃ a0 n0 c0 xs0 a1 n1 c1 xs1 a2 n2 c2 xs2 a3 n3 c3 xs3 a4 n4 c4 xs4, v = .agg #[.slice a0 n0 c0, .slice a1 n1 c1, .slice a2 n2 c2, .slice a3 n3 c3, .slice a4 n4 c4] ∧ Sl Bf W a0 n0 c0 xs0 ∧ Sl Bf W a1 n1 c1 xs1 ∧ Sl Bf W a2 n2 c2 xs2 ∧ Sl Bf W a3 n3 c3 xs3 ∧ Sl Bf W a4 n4 c4 xs4 ∧
      n0 + n1 + n2 + n3 + n4 ≤ Rows.uptoBulk d := by
  obtain ⟨cs, rfl, hsz⟩ := okWide_struct hs hv
  obtain ⟨l⟩ := cs
  match l, hsz.trans ct with
  | [c0, c1, c2, c3, c4], _ =>
    obtain ⟨fuel, hf⟩ := h
    obtain ⟨xs, n, _, hx, _, hlen, hg⟩ := DataW.trod_struct hs hf
    match xs, hlen with
    | [y0, y1, y2, y3], _ =>
      have k0 : DataW.trod enc P W 0 (fun _ => true) true n q [c0] = some y0 := by simpa [Value.cells, o0, t0, cq] using hg 0 f0 rfl
      have k1 : DataW.trod enc P W 0 (fun _ => true) true n ee [c1, c2] = some y1 := by simpa [Value.cells, o1, t1, ce] using hg 1 f1 rfl
      have k2 : DataW.trod enc P W 0 (fun _ => true) true n q [c3] = some y2 := by simpa [Value.cells, o2, t2, cq] using hg 2 f2 rfl
      have k3 : DataW.trod enc P W 0 (fun _ => true) true n q [c4] = some y3 := by simpa [Value.cells, o3, t3, cq] using hg 3 f3 rfl
      obtain ⟨zs, m, _, hz, _, zlen, hk⟩ := DataW.trod_struct he k1
      match zs, zlen with
      | [z0, z1], _ =>
        have j0 : DataW.trod enc P W 0 (fun _ => true) true m q [c1] = some z0 := by simpa [p0, u0, cq] using hk 0 g0 rfl
        have j1 : DataW.trod enc P W 0 (fun _ => true) true m q [c2] = some z1 := by simpa [p1, u1, cq] using hk 1 g1 rfl
        obtain ⟨a0, n0, c0', xs0, rfl, s0, d0⟩ := trod_bytes hq hu hc k0
        obtain ⟨a1, n1, c1', xs1, rfl, s1, d1⟩ := trod_bytes hq hu hc j0
        obtain ⟨a2, n2, c2', xs2, rfl, s2, d2⟩ := trod_bytes hq hu hc j1
        obtain ⟨a3, n3, c3', xs3, rfl, s3, d3⟩ := trod_bytes hq hu hc k2
        obtain ⟨a4, n4, c4', xs4, rfl, s4, d4⟩ := trod_bytes hq hu hc k3
        refine ⟨_, _, _, _, _, _, _, _, _, _, _, _, _, _, _, _, _, _, _, _, rfl, s0, s1, s2, s3, s4, ?_⟩
        have e1 : d = .agg [y0.1, y1.1, y2.1, y3.1] := by have := congrArg Prod.fst hx; simpa using this
        have e2 : y1.1 = .agg [z0.1, z1.1] := by have := congrArg Prod.fst hz; simpa using this
        have b0 := bulk_slice d0; have b1 := bulk_slice d1; have b2 := bulk_slice d2; have b3 := bulk_slice d3; have b4 := bulk_slice d4
        have l0 := s0.le; have l1 := s1.le; have l2 := s2.le; have l3 := s3.le; have l4 := s4.le
        rw [e1, e2]
        simp only [Rows.uptoBulk, Rows.uptoBulkAll]
        omega
end Go.Proofs.Ytajmojldckpchaa
