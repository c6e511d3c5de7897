/- From the row's reading to what chapter 04's odd reader and writer tell, and two scripts. No condition. -/
import Derived.Test.YtpenbaafhbbmhaaOpenPipe
import Derived.Test.YtpenbaafhbbmhaaOpenAsk
import Derived.Lib.SmallJoins
namespace Go.Proofs.Ytpenbaafhbbmhaa
open Go.ChangeShapes Go.WideShapes Go.RowKit
set_option linter.unusedVariables false

theorem slice_form {H : Type} {enc : TypeId × Value → H} {P : Program} {W : World} {t e : TypeId} {f0 f1 : Field} (ht : P.underlying t = some (.slice e)) (he : P.underlying e = some (.struct #[f0, f1]))
    (ce : P.cellsOf e = 2) (o0 : f0.offset = 0) (o1 : f1.offset = 1) (c0 : P.cellsOf f0.type = 1) (c1 : P.cellsOf f1.type = 1) {V : Value} {n : Nat} {x : DataW H × List MemPlace} (h : DataW.trod enc P W 0 (fun _ => true) true n t [V] = some x) : ∃ a l c, V = .slice a l c := by
  rcases Go.Deep.open_slice_pairs ht he ce o0 o1 c0 c1 h with ⟨hcs, _⟩ | ⟨a, len, cap, m, k, V0, V1, D0, D1, P0, P1, hcs, _⟩
  · exact ⟨_, _, _, List.cons.inj hcs |>.1⟩
  · exact ⟨_, _, _, List.cons.inj hcs |>.1⟩
theorem opens_oddc {H : Type} {enc : TypeId × Value → H} {P : Program} {qi qe ti te tw qa ta ql tl q u : TypeId} {h0 h1 h2 h3 f0 f1 g0 g1 : Field} (hs : P.underlying tw = some (.struct #[h0, h1, h2, h3])) (cw : P.cellsOf tw = 4)
    (y0 : h0.offset = 0) (y1 : h1.offset = 1) (y2 : h2.offset = 2) (y3 : h3.offset = 3) (x0 : h0.type = qi) (x1 : h1.type = qe) (x2 : h2.type = qa) (x3 : h3.type = ql)
    (cqi : P.cellsOf qi = 1) (cqe : P.cellsOf qe = 1) (cqa : P.cellsOf qa = 1) (cql : P.cellsOf ql = 1) (ci : P.cellsOf ti = 1) (cee : P.cellsOf te = 1) (hqi : P.underlying qi = some (.slice ti)) (hqe : P.underlying qe = some (.slice te)) (hi : P.underlying ti = some (.int .i64)) (hee : P.underlying te = some (.int .i64))
    (hta : P.underlying qa = some (.slice ta)) (hea : P.underlying ta = some (.struct #[f0, f1])) (cea : P.cellsOf ta = 2) (o0 : f0.offset = 0) (o1 : f1.offset = 1) (t0 : f0.type = ti) (t1 : f1.type = ti)
    (htl : P.underlying ql = some (.slice tl)) (hel : P.underlying tl = some (.struct #[g0, g1])) (cel : P.cellsOf tl = 2) (p0 : g0.offset = 0) (p1 : g1.offset = 1) (s0 : g0.type = ti) (s1 : g1.type = q) (cq : P.cellsOf q = 1) (hq : P.underlying q = some (.slice u)) (hu : P.underlying u = some (.int .u8)) (hc : P.cellsOf u = 1)
    {W : World} {r : Reach} {b0 : Nat} {v : Value} {d : DataW H} {p : List MemPlace} (hv : Value.okWide P W r b0 tw v) (h : DataW.Trod enc P W 0 (fun _ => true) true tw v d p) :
    ∃ a0 n0 k0 xs0 a1 n1 k1 xs1 a2 n2 k2 l2 a3 n3 k3 l3, v = .agg #[.slice a0 n0 k0, .slice a1 n1 k1, .slice a2 n2 k2, .slice a3 n3 k3] ∧ Sl (Value.int .i64) W a0 n0 k0 xs0 ∧ IntsW xs0 ∧ Sl (Value.int .i64) W a1 n1 k1 xs1 ∧ Asks W a2 n2 k2 l2 ∧ AsksW l2 ∧ Lays W a3 n3 k3 l3 ∧
      k0 + k1 + k2 + k3 + laySum l3 + 1 ≤ Rows.uptoBulk d := by
  obtain ⟨cs', rfl, hsz⟩ := okWide_struct hs hv
  obtain ⟨l⟩ := cs'
  match l, hsz.trans cw with
  | [v0, v1, v2, v3], _ =>
    obtain ⟨fuel, hf⟩ := h
    obtain ⟨z0, z1, z2, z3, k', hx, _, g0, g1, g2, g3⟩ := Go.Joins.trod_struct4 hs hf
    rw [y0, x0, cqi] at g0
    rw [y1, x1, cqe] at g1
    rw [y2, x2, cqa] at g2
    rw [y3, x3, cql] at g3
    simp [Value.cells] at g0 g1 g2 g3
    obtain ⟨a0, n0, k0, xs0, rfl, S0, I0, D0⟩ := trod_ints hqi hi ci g0
    obtain ⟨a1, n1, k1, xs1, rfl, S1, I1, D1⟩ := trod_ints hqe hee cee g1
    obtain ⟨a2, n2, k2, rfl⟩ := slice_form hta hea cea o0 o1 (by rw [t0]; exact ci) (by rw [t1]; exact ci) g2
    obtain ⟨l2, S2, I2, _, B2⟩ := opens_asks (d := z2.1) (p := z2.2) hta hea cea o0 o1 t0 t1 ci hi ⟨k', by simpa [Value.cells] using g2⟩
    obtain ⟨a3, n3, k3, rfl⟩ := slice_form htl hel cel p0 p1 (by rw [s0]; exact ci) (by rw [s1]; exact cq) g3
    obtain ⟨l3, S3, B3⟩ := opens_lays (d := z3.1) (p := z3.2) htl hel cel p0 p1 s0 s1 ci cq hi hq hu hc ⟨k', by simpa [Value.cells] using g3⟩
    have b0 := bulk_slice D0; have b1 := bulk_slice D1
    simp only [Prod.mk.injEq] at hx
    refine ⟨a0, n0, k0, xs0, a1, n1, k1, xs1, a2, n2, k2, l2, a3, n3, k3, l3, rfl, S0, I0, S1, S2, I2, S3, ?_⟩
    rw [hx.1]; simp only [Rows.uptoBulk, Rows.uptoBulkAll]; omega
end Go.Proofs.Ytpenbaafhbbmhaa
