/- Several texts in one: OpenTexts, OpenTwo, OpenAsk8. Each has its own sentence and conditions below. -/
import Derived.Test.YtljcogimeimknaaGreatK8a
import Derived.Test.YtljcogimeimknaaGreatK8b
import Derived.Deep.Slices
import Derived.Lib.SmallJoins
/- From the row's reading to a slice of texts. No condition. -/
namespace Go.Proofs.YtljcogimeimknaaGreat
set_option linter.unusedVariables false
open Go.ChangeShapes Go.WideShapes Go.RowKit

def textSum (ks : List (List UInt8)) : Nat := (ks.map List.length).sum
theorem opens_texts {H : Type} {enc : TypeId × Value → H} {P : Program} {t q u : TypeId} (ht : P.underlying t = some (.slice q)) (c0 : P.cellsOf q = 1)
    (hq : P.underlying q = some (.slice u)) (hu : P.underlying u = some (.int .u8)) (hc : P.cellsOf u = 1) (hb1 : P.bytesOf u = 1)
    {W : World} {a : Option Addr} {n c : Nat} {d : DataW H} {p : List MemPlace} (h : DataW.Trod enc P W 0 (fun _ => true) true t (.slice a n c) d p) :
    ∃ ks, Rows2 W a n c ks ∧ (∀ M, (∀ m, m ∈ d.weights P t → m ≤ M) → c * P.bytesOf q ≤ M ∧ ∀ k, k ∈ ks → k.length ≤ M) ∧ c + 1 + textSum ks ≤ Rows.uptoBulk d := by
  obtain ⟨fuel, hf⟩ := h
  rcases Go.Deep.open_slice1 ht c0 hf with ⟨hcs, hx⟩ | ⟨x, len, cap, m, k, V, D, Pl, hcs, _, hl, _, hm, hd, hx⟩
  · simp [Value.cells] at hcs
    obtain ⟨rfl, rfl, rfl⟩ := hcs
    simp only [Prod.mk.injEq] at hx
    refine ⟨[], ⟨rfl, Nat.le_refl _, fun i xs h => by simp at h⟩, fun M _ => ⟨by simp, fun k hk => by cases hk⟩, ?_⟩
    rw [hx.1]; simp [textSum, Rows.uptoBulk]
  · simp [Value.cells] at hcs
    obtain ⟨rfl, rfl, rfl⟩ := hcs
    simp only [if_true] at hm
    subst hm
    simp only [Prod.mk.injEq] at hd
    obtain ⟨hd, _⟩ := hd
    have each : ∀ i, i < m → ∃ y : List UInt8, ∃ av nv cv, W.cell? (x.add i) = some (.slice av nv cv) ∧ Sl Bf W av nv cv y ∧ ((D i = .nil ∧ cv = 0) ∨ ∃ elems spare, D i = .slice elems spare ∧ elems.length + spare.length = cv) := by
      intro i hi
      obtain ⟨h0, h1⟩ := hx i hi
      obtain ⟨av, nv, cv, ys, e0, s0, d0⟩ := trod_bytes hq hu hc h1
      exact ⟨ys, av, nv, cv, by rw [h0, e0], s0, d0⟩
    obtain ⟨Y, hY⟩ := Go.Deep.choose_lt each
    have hin : ∀ i, i < n → i < m := fun i hi => by omega
    refine ⟨(List.range n).map Y, ⟨by simp, hl, fun i y hy => ?_⟩, fun M hM => ⟨?_, fun y hy => ?_⟩, ?_⟩
    · have hin2 : i < n := by have := (List.getElem?_eq_some_iff.1 hy).1; simpa using this
      have hYi : Y i = y := by simpa [hin2] using hy
      obtain ⟨av, nv, cv, g0, s0, _⟩ := hY i (hin i hin2)
      obtain ⟨b, off, s⟩ := x
      have hs : s = none := by
        obtain ⟨_, _, _, g00, _⟩ := hY 0 (by omega)
        simpa [Addr.add] using World.cell?_spot g00
      subst hs
      have e0 : (⟨b, off, none⟩ : Addr).add i = ⟨b, off + i, none⟩ := by unfold Addr.add; split <;> simp_all
      rw [e0] at g0
      rw [hYi] at s0
      exact ⟨b, off, av, nv, cv, rfl, g0, s0⟩
    · refine hM _ ?_
      rw [hd]
      simp [DataW.weights, ht]
      left
      congr 1
      omega
    · obtain ⟨i, hi, rfl⟩ := List.mem_map.1 hy
      have hin2 : i < n := List.mem_range.1 hi
      obtain ⟨av, nv, cv, _, s0, d0⟩ := hY i (hin i hin2)
      have mem : ∀ z, z ∈ (D i).weights P q → z ≤ M := by
        intro z hz
        refine hM z ?_
        rw [hd]
        simp only [DataW.weights, ht, List.mem_cons, List.mem_append]
        exact .inr (.inl (weights_mem_all hz (List.mem_map.2 ⟨i, hi, rfl⟩)))
      have w0 := weights_text hq d0
      rw [hb1, Nat.mul_one] at w0
      have l0 := s0.len; have q0 := s0.le
      rcases w0 with e | e
      · omega
      · have := mem cv e; omega
    · rw [hd]
      simp only [Rows.uptoBulk]
      have h1 := bulk_sum D (fun i => (Y i).length) (List.range n) (fun i hi => by
        obtain ⟨av, nv, cv, _, s0, d0⟩ := hY i (hin i (List.mem_range.1 hi))
        have b0 := bulk_slice d0
        have l0 := s0.len; have q0 := s0.le
        omega)
      have h2 := bulk_length ((List.range (m - n)).map fun j => D (n + j))
      simp only [List.length_map, List.length_range] at h1 h2
      have e : textSum ((List.range n).map Y) = ((List.range n).map fun i => (Y i).length).sum := by unfold textSum; rw [List.map_map]; rfl
      rw [e]; omega
end Go.Proofs.YtljcogimeimknaaGreat
/- From the row's reading to an array of two registers. -/
namespace Go.Proofs.YtljcogimeimknaaGreat
set_option linter.unusedVariables false
open Go.ChangeShapes Go.RowKit

theorem trod_array2 {H : Type} {enc : TypeId × Value → H} {P : Program} {w : World} {base : Nat} {spare : Nat → Bool} {held : Bool} {t e : TypeId} {fuel : Nat} {c0 c1 : Value} {x : DataW H × List MemPlace} (ht : P.underlying t = some (.array 2 e)) (hce : P.cellsOf e = 1)
    (h : DataW.trod enc P w base spare held fuel t [c0, c1] = some x) :
    ∃ y0 y1 n, x = (.agg [y0.1, y1.1], y0.2 ++ y1.2) ∧ DataW.trod enc P w base spare held n e [c0] = some y0 ∧ DataW.trod enc P w base spare held n e [c1] = some y1 := by
  cases fuel with
  | zero => simp [DataW.trod] at h
  | succ n =>
    unfold DataW.trod at h
    rw [ht] at h
    have r2 : List.range 2 = [0, 1] := rfl
    simp [r2, hce] at h
    obtain ⟨_, h⟩ := h
    cases h0 : DataW.trod enc P w base spare held n e [c0] with
    | none => simp [h0] at h
    | some y0 =>
      cases h1 : DataW.trod enc P w base spare held n e [c1] with
      | none => simp [h0, h1] at h
      | some y1 =>
        simp [h0, h1] at h
        exact ⟨y0, y1, n, h.symm, h0, h1⟩

end Go.Proofs.YtljcogimeimknaaGreat
/- From the row's reading to a struct of texts, of pairs of texts (arrays of two) and a number. No condition. -/
namespace Go.Proofs.YtljcogimeimknaaGreat
open Go.ChangeShapes Go.WideShapes Go.RowKit
set_option linter.unusedVariables false

theorem opens_pairs {H : Type} {enc : TypeId × Value → H} {P : Program} {t e q u : TypeId} (ht : P.underlying t = some (.slice e)) (he : P.underlying e = some (.array 2 q))
    (ce : P.cellsOf e = 2) (c0 : P.cellsOf q = 1) (hq : P.underlying q = some (.slice u)) (hu : P.underlying u = some (.int .u8)) (hc : P.cellsOf u = 1) (hb1 : P.bytesOf u = 1)
    {W : World} {a : Option Addr} {n c : Nat} {d : DataW H} {p : List MemPlace} (h : DataW.Trod enc P W 0 (fun _ => true) true t (.slice a n c) d p) :
    ∃ es, Ents W a n c es ∧ (∀ M, (∀ m, m ∈ d.weights P t → m ≤ M) → c * P.bytesOf e ≤ M ∧ ∀ x, x ∈ es → x.1.length ≤ M ∧ x.2.length ≤ M) := by
  obtain ⟨fuel, hf⟩ := h
  rcases Go.Deep.open_slice ht hf with ⟨hcs, hx⟩ | ⟨x, len, cap, m, k, D, Pl, hcs, _, hl, _, hm, hd, hx⟩
  · simp [Value.cells] at hcs
    obtain ⟨rfl, rfl, rfl⟩ := hcs
    exact ⟨[], ⟨rfl, Nat.le_refl _, fun _ => rfl, by simp⟩, fun M _ => ⟨by simp, by simp⟩⟩
  · simp [Value.cells] at hcs
    obtain ⟨rfl, rfl, rfl⟩ := hcs
    simp only [if_true] at hm
    subst hm
    simp only [Prod.mk.injEq] at hd
    obtain ⟨hd, _⟩ := hd
    have each : ∀ i, i < n → ∃ y : (List UInt8 × List UInt8), ∃ ak nk ck av nv cv z0 z1, W.cell? (x.add (i * 2)) = some (.slice ak nk ck) ∧ W.cell? (x.add (i * 2 + 1)) = some (.slice av nv cv) ∧ Sl Bf W ak nk ck y.1 ∧ Sl Bf W av nv cv y.2 ∧
        D i = .agg [z0, z1] ∧ ((z0 = .nil ∧ ck = 0) ∨ ∃ elems spare, z0 = .slice elems spare ∧ elems.length + spare.length = ck) ∧ ((z1 = .nil ∧ cv = 0) ∨ ∃ elems spare, z1 = .slice elems spare ∧ elems.length + spare.length = cv) := by
      intro i hi
      obtain ⟨cs', h1, h2⟩ := hx i (by omega)
      rw [ce] at h1
      obtain ⟨_, hlen, hcell⟩ := World.cells?_some h1
      match cs', hlen with
      | [v0, v1], _ =>
        obtain ⟨y0, y1, n', hxy, g0, g1⟩ := trod_array2 he c0 h2
        have e0 := hcell 0 (by omega)
        have e1 := hcell 1 (by omega)
        rw [Go.Deep.add_add] at e0 e1
        obtain ⟨ak, nk, ck, ks, ev0, s0, d0⟩ := trod_bytes hq hu hc g0
        obtain ⟨av, nv, cv, vs, ev1, s1, d1⟩ := trod_bytes hq hu hc g1
        subst ev0 ev1
        simp only [Prod.mk.injEq] at hxy
        exact ⟨(ks, vs), ak, nk, ck, av, nv, cv, y0.1, y1.1, by simpa using e0, by simpa using e1, s0, s1, hxy.1, d0, d1⟩
    obtain ⟨Y, hY⟩ := Go.Deep.choose_lt each
    refine ⟨(List.range n).map Y, ⟨by simp, hl, by simp, fun i k v hi => ?_⟩, fun M hM => ⟨?_, fun y hy => ?_⟩⟩
    · have hin : i < n := by have := (List.getElem?_eq_some_iff.1 hi).1; simpa using this
      have hYi : Y i = (k, v) := by simpa [hin] using hi
      obtain ⟨ak, nk, ck, av, nv, cv, z0, z1, g0, g1, s0, s1, _⟩ := hY i hin
      obtain ⟨b, off, s⟩ := x
      have hs : s = none := by
        obtain ⟨_, _, _, _, _, _, _, _, g00, _⟩ := hY 0 (by omega)
        simpa [Addr.add] using World.cell?_spot g00
      subst hs
      have e0 : (⟨b, off, none⟩ : Addr).add (i * 2) = ⟨b, off + i * 2, none⟩ := by unfold Addr.add; split <;> simp_all
      have e1 : (⟨b, off, none⟩ : Addr).add (i * 2 + 1) = ⟨b, off + i * 2 + 1, none⟩ := by unfold Addr.add; split <;> simp_all <;> omega
      rw [e0] at g0
      rw [e1] at g1
      rw [hYi] at s0 s1
      exact ⟨b, off, ak, nk, ck, av, nv, cv, rfl, g0, g1, s0, s1⟩
    · refine hM _ ?_
      rw [hd]
      simp [DataW.weights, ht]
      left
      congr 1
      omega
    · obtain ⟨i, hi, rfl⟩ := List.mem_map.1 hy
      have hin : i < n := List.mem_range.1 hi
      obtain ⟨ak, nk, ck, av, nv, cv, z0, z1, _, _, s0, s1, hDi, d0, d1⟩ := hY i hin
      have mem : ∀ z, z ∈ DataW.weightsAll P q [z0, z1] → z ≤ M := by
        intro z hz
        refine hM z ?_
        rw [hd]
        simp only [DataW.weights, ht, List.mem_cons, List.mem_append]
        refine .inr (.inl (weights_mem_all (d := .agg [z0, z1]) ?_ (List.mem_map.2 ⟨i, hi, hDi⟩)))
        simp only [DataW.weights, he]
        exact hz
      have w0 := weights_text hq d0
      have w1 := weights_text hq d1
      rw [hb1, Nat.mul_one] at w0 w1
      have l0 := s0.len; have l1 := s1.len; have q0 := s0.le; have q1 := s1.le
      refine ⟨?_, ?_⟩
      · rcases w0 with e | e
        · omega
        · have := mem ck (by simp only [DataW.weightsAll, List.mem_append]; exact .inl e); omega
      · rcases w1 with e | e
        · omega
        · have := mem cv (by simp only [DataW.weightsAll, List.mem_append]; exact .inr (.inl e)); omega
theorem slice_any {H : Type} {enc : TypeId × Value → H} {P : Program} {W : World} {t e : TypeId} (ht : P.underlying t = some (.slice e)) {V : Value} {n : Nat} {x : DataW H × List MemPlace} (h : DataW.trod enc P W 0 (fun _ => true) true n t [V] = some x) : ∃ a l c, V = .slice a l c := by
  rcases Go.Deep.open_slice ht h with ⟨hcs, _⟩ | ⟨a, len, cap, m, k, D, Pl, hcs, _⟩
  · exact ⟨_, _, _, List.cons.inj hcs |>.1⟩
  · exact ⟨_, _, _, List.cons.inj hcs |>.1⟩
theorem opens_ask8 {H : Type} {enc : TypeId × Value → H} {P : Program} {tw qa qb e q u ti : TypeId} {f0 f1 f2 : Field} (hs : P.underlying tw = some (.struct #[f0, f1, f2])) (hone : Go.Deep.oneCellFields P #[f0, f1, f2] = true) (cw : P.cellsOf tw = 3) (t0 : f0.type = qa) (t1 : f1.type = qb) (t2 : f2.type = ti)
    (ha : P.underlying qa = some (.slice q)) (hb : P.underlying qb = some (.slice e)) (he : P.underlying e = some (.array 2 q)) (ce : P.cellsOf e = 2) (c0 : P.cellsOf q = 1) (hq : P.underlying q = some (.slice u)) (hu : P.underlying u = some (.int .u8)) (hc : P.cellsOf u = 1) (hb1 : P.bytesOf u = 1) (hi : P.underlying ti = some (.int .i64))
    {W : World} {r : Reach} {b0 : Nat} {v : Value} {d : DataW H} {p : List MemPlace} (hv : Value.okWide P W r b0 tw v) (h : DataW.Trod enc P W 0 (fun _ => true) true tw v d p) :
    ∃ aK nK cK keys aR nR cR rgs z, v = .agg #[.slice aK nK cK, .slice aR nR cR, .int .i64 z] ∧ Rows2 W aK nK cK keys ∧ Ents W aR nR cR rgs ∧ (-9223372036854775808 ≤ z ∧ z ≤ 9223372036854775807) ∧
      (∀ M, (∀ m, m ∈ d.weights P tw → m ≤ M) → (cK * P.bytesOf q ≤ M ∧ ∀ k, k ∈ keys → k.length ≤ M) ∧ cR * P.bytesOf e ≤ M ∧ ∀ k, k ∈ rgs → k.1.length ≤ M ∧ k.2.length ≤ M) := by
  obtain ⟨v0, v1, v2, z0, z1, z2, k', rfl, rfl, rfl, g0, g1, g2⟩ := Go.Joins.open_agg3 hs hone cw hv h
  rw [t0] at g0
  rw [t1] at g1
  rw [t2] at g2
  obtain ⟨aK, nK, cK, rfl⟩ := slice_any ha g0
  obtain ⟨aR, nR, cR, rfl⟩ := slice_any hb g1
  obtain ⟨keys, K, MK, _⟩ := opens_texts (d := z0.1) (p := z0.2) ha c0 hq hu hc hb1 ⟨k', by simpa [Value.cells] using g0⟩
  obtain ⟨rgs, R, MR⟩ := opens_pairs (d := z1.1) (p := z1.2) hb he ce c0 hq hu hc hb1 ⟨k', by simpa [Value.cells] using g1⟩
  obtain ⟨zz, ei, _, w2⟩ := DataW.trod_int hi g2
  obtain rfl : v2 = .int .i64 zz := by simpa using ei
  refine ⟨aK, nK, cK, keys, aR, nR, cR, rgs, zz, rfl, K, R, wf_i64_of w2, fun M hM => ?_⟩
  have mem : ∀ m, m ∈ DataW.weightsEach P [qa, qb, ti] [z0.1, z1.1, z2.1] → m ≤ M := by
    intro m hm
    refine hM m ?_
    simp only [DataW.weights, hs]
    simpa [t0, t1, t2] using hm
  exact ⟨MK M fun m hm => mem m (by simp only [DataW.weightsEach, List.mem_append]; exact .inl hm), MR M fun m hm => mem m (by simp only [DataW.weightsEach, List.mem_append]; exact .inr (.inl hm))⟩
end Go.Proofs.YtljcogimeimknaaGreat
