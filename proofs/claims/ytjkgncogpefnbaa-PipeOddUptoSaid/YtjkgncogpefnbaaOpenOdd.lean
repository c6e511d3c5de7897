/- From the row's reading to numbers and errors that a reader and a writer tell, and a size. No condition. -/
import Derived.Test.YtjkgncogpefnbaaOpenPipe
namespace Go.Proofs.Ytjkgncogpefnbaa
open Go.ChangeShapes Go.WideShapes Go.RowKit
set_option linter.unusedVariables false

theorem trod_struct5 {H : Type} {enc : TypeId × Value → H} {P : Program} {w : World} {base : Nat} {spare : Nat → Bool} {held : Bool} {t : TypeId} {f0 f1 f2 f3 f4 : Field} {fuel : Nat} {cs : List Value} {x : DataW H × List MemPlace} (ht : P.underlying t = some (.struct #[f0, f1, f2, f3, f4])) (h : DataW.trod enc P w base spare held fuel t cs = some x) :
    ∃ y0 y1 y2 y3 y4 n, x = (.agg [y0.1, y1.1, y2.1, y3.1, y4.1], y0.2 ++ (y1.2 ++ (y2.2 ++ (y3.2 ++ y4.2)))) ∧ cs.length = P.cellsOf t ∧ DataW.trod enc P w base spare held n f0.type ((cs.drop f0.offset).take (P.cellsOf f0.type)) = some y0 ∧
      DataW.trod enc P w base spare held n f1.type ((cs.drop f1.offset).take (P.cellsOf f1.type)) = some y1 ∧ DataW.trod enc P w base spare held n f2.type ((cs.drop f2.offset).take (P.cellsOf f2.type)) = some y2 ∧
      DataW.trod enc P w base spare held n f3.type ((cs.drop f3.offset).take (P.cellsOf f3.type)) = some y3 ∧ DataW.trod enc P w base spare held n f4.type ((cs.drop f4.offset).take (P.cellsOf f4.type)) = some y4 := by
  obtain ⟨xs, n, _, rfl, hl, hlen, hf⟩ := DataW.trod_struct ht h
  match xs, hlen with
  | [y0, y1, y2, y3, y4], _ => exact ⟨y0, y1, y2, y3, y4, n, by simp, hl, by simpa using hf 0 f0 rfl, by simpa using hf 1 f1 rfl, by simpa using hf 2 f2 rfl, by simpa using hf 3 f3 rfl, by simpa using hf 4 f4 rfl⟩
theorem opens_odd {H : Type} {enc : TypeId × Value → H} {P : Program} {qi ti qe te tw : TypeId} {h0 h1 h2 h3 h4 : Field} (hs : P.underlying tw = some (.struct #[h0, h1, h2, h3, h4])) (cw : P.cellsOf tw = 5)
    (y0 : h0.offset = 0) (y1 : h1.offset = 1) (y2 : h2.offset = 2) (y3 : h3.offset = 3) (y4 : h4.offset = 4) (x0 : h0.type = qi) (x1 : h1.type = qe) (x2 : h2.type = qi) (x3 : h3.type = qe) (x4 : h4.type = ti)
    (cqi : P.cellsOf qi = 1) (cqe : P.cellsOf qe = 1) (ci : P.cellsOf ti = 1) (ce : P.cellsOf te = 1) (hqi : P.underlying qi = some (.slice ti)) (hqe : P.underlying qe = some (.slice te)) (hi : P.underlying ti = some (.int .i64)) (he : P.underlying te = some (.int .i64))
    {W : World} {r : Reach} {b0 : Nat} {v : Value} {d : DataW H} {p : List MemPlace} (hv : Value.okWide P W r b0 tw v) (h : DataW.Trod enc P W 0 (fun _ => true) true tw v d p) :
    ∃ a0 n0 k0 xs0 a1 n1 k1 xs1 a2 n2 k2 xs2 a3 n3 k3 xs3 z, v = .agg #[.slice a0 n0 k0, .slice a1 n1 k1, .slice a2 n2 k2, .slice a3 n3 k3, .int .i64 z] ∧ Sl (Value.int .i64) W a0 n0 k0 xs0 ∧ IntsW xs0 ∧ Sl (Value.int .i64) W a1 n1 k1 xs1 ∧ Sl (Value.int .i64) W a2 n2 k2 xs2 ∧ IntsW xs2 ∧ Sl (Value.int .i64) W a3 n3 k3 xs3 ∧
      k0 + k1 + k2 + k3 + 1 ≤ Rows.uptoBulk d := by
  obtain ⟨cs', rfl, hsz⟩ := okWide_struct hs hv
  obtain ⟨l⟩ := cs'
  match l, hsz.trans cw with
  | [v0, v1, v2, v3, v4], _ =>
    obtain ⟨fuel, hf⟩ := h
    obtain ⟨z0, z1, z2, z3, z4, k', hx, _, g0, g1, g2, g3, g4⟩ := trod_struct5 hs hf
    rw [y0, x0, cqi] at g0
    rw [y1, x1, cqe] at g1
    rw [y2, x2, cqi] at g2
    rw [y3, x3, cqe] at g3
    rw [y4, x4, ci] at g4
    simp [Value.cells] at g0 g1 g2 g3 g4
    obtain ⟨a0, n0, k0, xs0, rfl, S0, I0, D0⟩ := trod_ints hqi hi ci g0
    obtain ⟨a1, n1, k1, xs1, rfl, S1, I1, D1⟩ := trod_ints hqe he ce g1
    obtain ⟨a2, n2, k2, xs2, rfl, S2, I2, D2⟩ := trod_ints hqi hi ci g2
    obtain ⟨a3, n3, k3, xs3, rfl, S3, I3, D3⟩ := trod_ints hqe he ce g3
    obtain ⟨zz, ez, _, w2⟩ := DataW.trod_int hi g4
    obtain rfl : v4 = .int .i64 zz := by simpa using ez
    have b0 := bulk_slice D0; have b1 := bulk_slice D1; have b2 := bulk_slice D2; have b3 := bulk_slice D3
    simp only [Prod.mk.injEq] at hx
    refine ⟨a0, n0, k0, xs0, a1, n1, k1, xs1, a2, n2, k2, xs2, a3, n3, k3, xs3, zz, rfl, S0, I0, S1, S2, I2, S3, ?_⟩
    rw [hx.1]; simp only [Rows.uptoBulk, Rows.uptoBulkAll]; omega
end Go.Proofs.Ytjkgncogpefnbaa
