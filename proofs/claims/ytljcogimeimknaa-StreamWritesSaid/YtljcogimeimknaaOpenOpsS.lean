/- From the row's reading to a script for a writer of streams. No condition. -/
import Derived.Test.YtljcogimeimknaaK8a
import Derived.Test.YtljcogimeimknaaStmOps
import Derived.Deep.Slices
import Derived.Deep.Strs
import Derived.Lib.SmallJoins
namespace Go.Proofs.Ytljcogimeimknaa
open Go.ChangeShapes Go.WideShapes Go.RowKit
set_option linter.unusedVariables false

theorem opens_opsS {H : Type} {enc : TypeId × Value → H} {P : Program} {t e ti en q u : TypeId} {f0 f1 g0 g1 : Field} (ht : P.underlying t = some (.slice e)) (he : P.underlying e = some (.struct #[f0, f1]))
    (ce : P.cellsOf e = 3) (o0 : f0.offset = 0) (o1 : f1.offset = 1) (t0 : f0.type = ti) (t1 : f1.type = en) (ci : P.cellsOf ti = 1)
    (hen : P.underlying en = some (.struct #[g0, g1])) (cen : P.cellsOf en = 2) (p0 : g0.offset = 0) (p1 : g1.offset = 1) (u0 : g0.type = q) (u1 : g1.type = q) (cq : P.cellsOf q = 1)
    (hi : P.underlying ti = some (.int .i64)) (hq : P.underlying q = some (.slice u)) (hu : P.underlying u = some (.int .u8)) (hc : P.cellsOf u = 1) (hb1 : P.bytesOf u = 1)
    {W : World} {a : Option Addr} {n c : Nat} {d : DataW H} {p : List MemPlace} (h : DataW.Trod enc P W 0 (fun _ => true) true t (.slice a n c) d p) :
    ∃ os, OpsS W a n c os ∧ (∀ M, (∀ m, m ∈ d.weights P t → m ≤ M) → c * P.bytesOf e ≤ M ∧ ∀ x, x ∈ os → x.2.1.length ≤ M ∧ x.2.2.length ≤ M) := by
  obtain ⟨fuel, hf⟩ := h
  rcases Go.Deep.open_slice ht hf with ⟨hcs, hx⟩ | ⟨x, len, cap, m, k, D, Pl, hcs, _, hl, hmx, hm, hd, hx⟩
  · simp [Value.cells] at hcs
    obtain ⟨rfl, rfl, rfl⟩ := hcs
    exact ⟨[], ⟨rfl, Nat.le_refl _, fun _ => rfl, fun i q h => by simp at h⟩, fun M _ => ⟨by simp, fun x hx => by cases hx⟩⟩
  · simp [Value.cells] at hcs
    obtain ⟨rfl, rfl, rfl⟩ := hcs
    simp only [if_true] at hm
    subst hm
    have each : ∀ i, i < m → ∃ y : OpS, ∃ (ak : Option Addr) (nk ck : Nat) (av : Option Addr) (nv cv : Nat) (d0 dk dv : DataW H), W.cell? (x.add (i * 3)) = some (.int .i64 y.1) ∧ W.cell? ((x.add (i * 3)).add 1) = some (.slice ak nk ck) ∧ W.cell? ((x.add (i * 3)).add 2) = some (.slice av nv cv) ∧
        Sl Bf W ak nk ck y.2.1 ∧ Sl Bf W av nv cv y.2.2 ∧ D i = .agg [d0, .agg [dk, dv]] ∧ ((dk = .nil ∧ ck = 0) ∨ ∃ elems spare, dk = .slice elems spare ∧ elems.length + spare.length = ck) ∧ ((dv = .nil ∧ cv = 0) ∨ ∃ elems spare, dv = .slice elems spare ∧ elems.length + spare.length = cv) := by
      intro i hi2
      obtain ⟨cs', h1, h2⟩ := hx i hi2
      rw [ce] at h1
      obtain ⟨_, hlen, hcell⟩ := World.cells?_some h1
      obtain ⟨ys, k', hy, hxy, _, ylen, hk0⟩ := DataW.trod_struct he h2
      match cs', hlen, ys, ylen with
      | [v0, v1, v2], _, [y0, y1], _ =>
        have e0' : DataW.trod enc P W 0 (fun _ => true) true k' ti [v0] = some y0 := by simpa [o0, t0, ci] using hk0 0 f0 rfl
        have e2' : DataW.trod enc P W 0 (fun _ => true) true k' en [v1, v2] = some y1 := by simpa [o1, t1, cen] using hk0 1 f1 rfl
        obtain ⟨zs, m', _, hz, _, zlen, hk⟩ := DataW.trod_struct hen e2'
        match zs, zlen with
        | [z0, z1], _ =>
          have j0 : DataW.trod enc P W 0 (fun _ => true) true m' q [v1] = some z0 := by simpa [p0, u0, cq] using hk 0 g0 rfl
          have j1 : DataW.trod enc P W 0 (fun _ => true) true m' q [v2] = some z1 := by simpa [p1, u1, cq] using hk 1 g1 rfl
          have c0 := hcell 0 (by omega)
          have c1 := hcell 1 (by omega)
          have c2 := hcell 2 (by omega)
          simp [Addr.add] at c0
          obtain ⟨w1, ei, _⟩ := DataW.trod_int hi e0'
          obtain rfl : v0 = .int .i64 w1 := by simpa using ei
          obtain ⟨ak, nk, ck, ks, rfl, s0, d0⟩ := trod_bytes hq hu hc j0
          obtain ⟨av, nv, cv, vs, rfl, s1, d1⟩ := trod_bytes hq hu hc j1
          have e2 : y1.1 = .agg [z0.1, z1.1] := by have := congrArg Prod.fst hz; simpa using this
          have e3 : D i = .agg [y0.1, y1.1] := by have := congrArg Prod.fst hxy; simpa using this
          refine ⟨(w1, ks, vs), ak, nk, ck, av, nv, cv, y0.1, z0.1, z1.1, ?_, by simpa using c1, by simpa using c2, s0, s1, by rw [e3, e2], d0, d1⟩
          simpa [Addr.add] using c0
    obtain ⟨Y, hY⟩ := Go.Deep.choose_lt each
    simp only [Prod.mk.injEq] at hd
    obtain ⟨hd, _⟩ := hd
    have hin : ∀ i, i < n → i < m := fun i hi => by omega
    refine ⟨(List.range n).map Y, ⟨by simp, hl, by simp, fun i y hi => ?_⟩, fun M hM => ⟨?_, fun y hy => ?_⟩⟩
    · have hin2 : i < n := by have := (List.getElem?_eq_some_iff.1 hi).1; simpa using this
      obtain rfl : Y i = y := by simpa [hin2] using hi
      obtain ⟨ak, nk, ck, av, nv, cv, d0, dk, dv, g0, g1, g2, s0, s1, _⟩ := hY i (hin i hin2)
      obtain ⟨b, off, s⟩ := x
      have hs : s = none := by
        obtain ⟨_, _, _, _, _, _, _, _, _, g00, _⟩ := hY 0 (by omega)
        simpa [Addr.add] using World.cell?_spot g00
      subst hs
      have ea : (⟨b, off, none⟩ : Addr).add (i * 3) = ⟨b, off + i * 3, none⟩ := by unfold Addr.add; split <;> simp_all
      rw [ea] at g0 g1 g2
      exact ⟨b, off, ak, nk, ck, av, nv, cv, rfl, g0, g1, g2, s0, s1⟩
    · refine hM _ ?_
      rw [hd]
      simp [DataW.weights, ht]
      left
      congr 1
      omega
    · obtain ⟨i, hi, rfl⟩ := List.mem_map.1 hy
      have hin2 : i < n := List.mem_range.1 hi
      obtain ⟨ak, nk, ck, av, nv, cv, d0, dk, dv, _, _, _, s0, s1, hD, k0, k1⟩ := hY i (hin i hin2)
      have mem : ∀ z, z ∈ DataW.weightsEach P [q, q] [dk, dv] → z ≤ M := by
        intro z hz
        refine hM z ?_
        rw [hd]
        simp only [DataW.weights, ht, List.mem_cons, List.mem_append]
        refine .inr (.inl (weights_mem_all (d := .agg [d0, .agg [dk, dv]]) ?_ (List.mem_map.2 ⟨i, hi, hD⟩)))
        simp only [DataW.weights, he, DataW.weightsEach, t0, t1, hen, List.mem_append, u0, u1]
        simp only [DataW.weightsEach, List.mem_append] at hz
        simp [DataW.weights, hen, DataW.weightsEach, t0, t1, u0, u1]
        right
        simpa using hz
      have w0 := weights_text hq k0
      have w1 := weights_text hq k1
      rw [hb1, Nat.mul_one] at w0 w1
      have l0 := s0.len; have l1 := s1.len; have q0 := s0.le; have q1 := s1.le
      refine ⟨?_, ?_⟩
      · rcases w0 with e | e
        · omega
        · have := mem ck (by simp only [DataW.weightsEach, List.mem_append]; exact .inl e); omega
      · rcases w1 with e | e
        · omega
        · have := mem cv (by simp only [DataW.weightsEach, List.mem_append]; exact .inr (.inl e)); omega
end Go.Proofs.Ytljcogimeimknaa
