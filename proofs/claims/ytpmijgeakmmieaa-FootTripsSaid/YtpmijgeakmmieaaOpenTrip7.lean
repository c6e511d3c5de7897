/- From the row's reading to a struct of rows of a foot, a text, a number and a text. No condition. -/
import Derived.Test.YtpmijgeakmmieaaOpenRows
namespace Go.Proofs.Ytpmijgeakmmieaa
open Go.ChangeShapes Go.WideShapes Go.RowKit

theorem opens_trip7 {H : Type} {enc : TypeId × Value → H} {P : Program} {tt t e q u ti : TypeId} {h0 h1 h2 h3 f0 f1 f2 f3 : Field} (hs : P.underlying tt = some (.struct #[h0, h1, h2, h3])) (cs : P.cellsOf tt = 4)
    (y0 : h0.offset = 0) (y1 : h1.offset = 1) (y2 : h2.offset = 2) (y3 : h3.offset = 3) (x0 : h0.type = t) (x1 : h1.type = q) (x2 : h2.type = ti) (x3 : h3.type = q) (ct : P.cellsOf t = 1)
    (ht : P.underlying t = some (.slice e)) (he : P.underlying e = some (.struct #[f0, f1, f2, f3]))
    (ce : P.cellsOf e = 4) (o0 : f0.offset = 0) (o1 : f1.offset = 1) (o2 : f2.offset = 2) (o3 : f3.offset = 3) (t0 : f0.type = q) (t1 : f1.type = ti) (t2 : f2.type = ti) (t3 : f3.type = ti) (c0 : P.cellsOf q = 1) (ci : P.cellsOf ti = 1)
    (hq : P.underlying q = some (.slice u)) (hu : P.underlying u = some (.int .u8)) (hc : P.cellsOf u = 1) (hb1 : P.bytesOf u = 1) (hi : P.underlying ti = some (.int .i64))
    {W : World} {r : Reach} {b0 : Nat} {v : Value} {d : DataW H} {p : List MemPlace} (hv : Value.okWide P W r b0 tt v) (h : DataW.Trod enc P W 0 (fun _ => true) true tt v d p) :
    ∃ a0 n0 k0 rs a1 n1 k1 xs1 z a3 n3 k3 xs3, v = .agg #[.slice a0 n0 k0, .slice a1 n1 k1, .int .i64 z, .slice a3 n3 k3] ∧ Spans W a0 n0 k0 rs ∧ NumR rs ∧ Sl Bf W a1 n1 k1 xs1 ∧ (-9223372036854775808 ≤ z ∧ z ≤ 9223372036854775807) ∧ Sl Bf W a3 n3 k3 xs3 ∧
      (∀ M, (∀ m, m ∈ d.weights P tt → m ≤ M) → k0 * P.bytesOf e ≤ M ∧ (∀ r, r ∈ rs → r.1.length ≤ M) ∧ k1 ≤ M ∧ k3 ≤ M) := by
  obtain ⟨cs', rfl, hsz⟩ := okWide_struct hs hv
  obtain ⟨l⟩ := cs'
  match l, hsz.trans cs with
  | [v0, v1, v2, v3], _ =>
    obtain ⟨fuel, hf⟩ := h
    obtain ⟨z0, z1, z2, z3, k', hxy, _, g0, g1, g2, g3⟩ := Go.Joins.trod_struct4 hs hf
    rw [y0, x0, ct] at g0
    rw [y1, x1, c0] at g1
    rw [y2, x2, ci] at g2
    rw [y3, x3, c0] at g3
    simp [Value.cells] at g0 g1 g2 g3
    obtain ⟨a0, n0, k0, rs, rfl, S0, N0, M0, _⟩ := trod_rows ht he ce o0 o1 o2 o3 t0 t1 t2 t3 c0 ci hq hu hc hb1 hi g0
    obtain ⟨a1, n1, k1, xs1, rfl, S1, D1⟩ := trod_bytes hq hu hc g1
    obtain ⟨zz, ei, _, w2⟩ := DataW.trod_int hi g2
    obtain rfl : v2 = .int .i64 zz := by simpa using ei
    obtain ⟨a3, n3, k3, xs3, rfl, S3, D3⟩ := trod_bytes hq hu hc g3
    simp only [Prod.mk.injEq] at hxy
    refine ⟨a0, n0, k0, rs, a1, n1, k1, xs1, zz, a3, n3, k3, xs3, rfl, S0, N0, S1, wf_i64_of w2, S3, fun M hM => ?_⟩
    rw [hxy.1] at hM
    have mem : ∀ m, m ∈ DataW.weightsEach P [t, q, ti, q] [z0.1, z1.1, z2.1, z3.1] → m ≤ M := by
      intro m hm
      refine hM m ?_
      simp only [DataW.weights, hs]
      simpa [x0, x1, x2, x3] using hm
    obtain ⟨r1, r2⟩ := M0 M (fun m hm => mem m (by simp only [DataW.weightsEach, List.mem_append]; exact .inl hm))
    refine ⟨r1, r2, ?_, ?_⟩
    · have w := weights_text (P := P) hq D1
      rw [hb1, Nat.mul_one] at w
      rcases w with e | e
      · omega
      · exact mem _ (by simp only [DataW.weightsEach, List.mem_append]; exact .inr (.inl e))
    · have w := weights_text (P := P) hq D3
      rw [hb1, Nat.mul_one] at w
      rcases w with e | e
      · omega
      · exact mem _ (by simp only [DataW.weightsEach, List.mem_append]; exact .inr (.inr (.inr (.inl e))))
end Go.Proofs.Ytpmijgeakmmieaa
