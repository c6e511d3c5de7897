/- From the row's reading to a feed (bytes, numbers, a number, a bool), and to a way (a feed, numbers, two numbers). No condition. -/
import Derived.Test.YtpenbaafhbbmhaaOpenEnt
import Derived.Lib.SmallJoins
import Derived.Deep.Grids
namespace Go.Proofs.Ytpenbaafhbbmhaa
open Go.ChangeShapes Go.WideShapes Go.RowKit
set_option linter.unusedVariables false

/-- numbers that came in -/
def IntsW (l : List Int) : Prop := ∀ x, x ∈ l → -9223372036854775808 ≤ x ∧ x ≤ 9223372036854775807
theorem trod_ints {H : Type} {enc : TypeId × Value → H} {P : Program} {t e : TypeId} (ht : P.underlying t = some (.slice e)) (he : P.underlying e = some (.int .i64)) (hc : P.cellsOf e = 1)
    {W : World} {V : Value} {n : Nat} {x : DataW H × List MemPlace} (h : DataW.trod enc P W 0 (fun _ => true) true n t [V] = some x) :
    ∃ a l c xs, V = .slice a l c ∧ Sl (Value.int .i64) W a l c xs ∧ IntsW xs ∧ ((x.1 = .nil ∧ c = 0) ∨ ∃ elems spare, x.1 = .slice elems spare ∧ elems.length + spare.length = c) := by
  have key : ∀ a l c, V = .slice a l c → ∃ a l c xs, V = .slice a l c ∧ Sl (Value.int .i64) W a l c xs ∧ IntsW xs ∧ ((x.1 = .nil ∧ c = 0) ∨ ∃ elems spare, x.1 = .slice elems spare ∧ elems.length + spare.length = c) := by
    rintro a l c rfl
    obtain ⟨xs, hs, hw, hd⟩ := opens_ints (d := x.1) (p := x.2) ht he hc ⟨n, by simpa [Value.cells] using h⟩
    exact ⟨_, _, _, xs, rfl, hs, fun z hz => wf_i64_of (hw z hz), hd⟩
  rcases open_ints ht he hc h with ⟨hcs, _⟩ | ⟨y, l, c', zs, hcs, _⟩
  · exact key none 0 0 (by simpa using hcs)
  · exact key (some y) l c' (by simpa using hcs)
theorem cap_le {H : Type} {P : Program} {q u : TypeId} {d : DataW H} {c k M : Nat} (hq : P.underlying q = some (.slice u)) (hk : P.bytesOf u = k) (hk0 : 0 < k) (hd : (d = .nil ∧ c = 0) ∨ ∃ elems spare, d = .slice elems spare ∧ elems.length + spare.length = c) (hM : ∀ m, m ∈ d.weights P q → m ≤ M) : c * k ≤ M := by
  have w := weights_text (P := P) hq hd
  rw [hk] at w
  rcases w with e | e
  · subst e; rw [Nat.zero_mul]; exact Nat.zero_le _
  · exact hM _ e
/-- a feed's cells -/
structure FeedR (P : Program) (q u ti tb : TypeId) (tf : TypeId) (f0 f1 f2 f3 : Field) (qi : TypeId) : Prop where
  hs : P.underlying tf = some (.struct #[f0, f1, f2, f3])
  o0 : f0.offset = 0
  o1 : f1.offset = 1
  o2 : f2.offset = 2
  o3 : f3.offset = 3
  t0 : f0.type = q
  t1 : f1.type = qi
  t2 : f2.type = ti
  t3 : f3.type = tb
  cq : P.cellsOf q = 1
  cqi : P.cellsOf qi = 1
  ci : P.cellsOf ti = 1
  cb : P.cellsOf tb = 1
  hq : P.underlying q = some (.slice u)
  hu : P.underlying u = some (.int .u8)
  cu : P.cellsOf u = 1
  bu : P.bytesOf u = 1
  hqi : P.underlying qi = some (.slice ti)
  hi : P.underlying ti = some (.int .i64)
  bi : P.bytesOf ti = 8
  hb : P.underlying tb = some .bool
  cf : P.cellsOf tf = 4
theorem feed_of {H : Type} {enc : TypeId × Value → H} {P : Program} {q u ti tb tf qi : TypeId} {f0 f1 f2 f3 : Field} (F : FeedR P q u ti tb tf f0 f1 f2 f3 qi) {W : World} {n : Nat} {v0 v1 v2 v3 : Value} {x : DataW H × List MemPlace}
    (h : DataW.trod enc P W 0 (fun _ => true) true n tf [v0, v1, v2, v3] = some x) :
    ∃ a0 n0 k0 xs0 a1 n1 k1 xs1 z eb, v0 = .slice a0 n0 k0 ∧ v1 = .slice a1 n1 k1 ∧ v2 = .int .i64 z ∧ v3 = .bool eb ∧ Sl Bf W a0 n0 k0 xs0 ∧ Sl (Value.int .i64) W a1 n1 k1 xs1 ∧ IntsW xs1 ∧ (-9223372036854775808 ≤ z ∧ z ≤ 9223372036854775807) ∧
      k0 + k1 + 2 ≤ Rows.uptoBulk x.1 ∧ (∀ M, (∀ m, m ∈ x.1.weights P tf → m ≤ M) → k0 ≤ M ∧ k1 * 8 ≤ M) := by
  obtain ⟨z0, z1, z2, z3, k', hx, _, g0, g1, g2, g3⟩ := Go.Joins.trod_struct4 F.hs h
  rw [F.o0, F.t0, F.cq] at g0
  rw [F.o1, F.t1, F.cqi] at g1
  rw [F.o2, F.t2, F.ci] at g2
  rw [F.o3, F.t3, F.cb] at g3
  simp at g0 g1 g2 g3
  obtain ⟨a0, n0, k0, xs0, rfl, S0, D0⟩ := trod_bytes F.hq F.hu F.cu g0
  obtain ⟨a1, n1, k1, xs1, rfl, S1, I1, D1⟩ := trod_ints F.hqi F.hi F.ci g1
  obtain ⟨zz, ei, _, w2⟩ := DataW.trod_int F.hi g2
  obtain rfl : v2 = .int .i64 zz := by simpa using ei
  obtain ⟨bb, eb, _⟩ := DataW.trod_bool F.hb g3
  obtain rfl : v3 = .bool bb := by simpa using eb
  have b0 := bulk_slice D0; have b1 := bulk_slice D1
  subst hx
  refine ⟨a0, n0, k0, xs0, a1, n1, k1, xs1, zz, bb, rfl, rfl, rfl, rfl, S0, S1, I1, wf_i64_of w2, ?_, fun M hM => ?_⟩
  · simp only [Rows.uptoBulk, Rows.uptoBulkAll]; omega
  · have mem : ∀ m, m ∈ DataW.weightsEach P [q, qi, ti, tb] [z0.1, z1.1, z2.1, z3.1] → m ≤ M := by
      intro m hm
      refine hM m ?_
      simp only [DataW.weights, F.hs]
      simpa [F.t0, F.t1, F.t2, F.t3] using hm
    have r0 := cap_le F.hq F.bu (by decide) D0 (fun m hm => mem m (by simp only [DataW.weightsEach, List.mem_append]; exact .inl hm))
    have r1 := cap_le F.hqi F.bi (by decide) D1 (fun m hm => mem m (by simp only [DataW.weightsEach, List.mem_append]; exact .inr (.inl hm)))
    exact ⟨by omega, r1⟩
theorem opens_feed {H : Type} {enc : TypeId × Value → H} {P : Program} {q u ti tb tf qi : TypeId} {f0 f1 f2 f3 : Field} (F : FeedR P q u ti tb tf f0 f1 f2 f3 qi) {W : World} {r : Reach} {b0 : Nat} {v : Value} {d : DataW H} {p : List MemPlace} (hv : Value.okWide P W r b0 tf v) (h : DataW.Trod enc P W 0 (fun _ => true) true tf v d p) :
    ∃ a0 n0 k0 xs0 a1 n1 k1 xs1 z eb, v = .agg #[.slice a0 n0 k0, .slice a1 n1 k1, .int .i64 z, .bool eb] ∧ Sl Bf W a0 n0 k0 xs0 ∧ Sl (Value.int .i64) W a1 n1 k1 xs1 ∧ IntsW xs1 ∧ (-9223372036854775808 ≤ z ∧ z ≤ 9223372036854775807) ∧
      k0 + k1 + 2 ≤ Rows.uptoBulk d ∧ (∀ M, (∀ m, m ∈ d.weights P tf → m ≤ M) → k0 ≤ M ∧ k1 * 8 ≤ M) := by
  obtain ⟨cs', rfl, hsz⟩ := okWide_struct F.hs hv
  obtain ⟨l⟩ := cs'
  match l, hsz.trans F.cf with
  | [v0, v1, v2, v3], _ =>
    obtain ⟨fuel, hf⟩ := h
    obtain ⟨a0, n0, k0, xs0, a1, n1, k1, xs1, z, eb, rfl, rfl, rfl, rfl, r⟩ := feed_of F (x := (d, p)) (by simpa [Value.cells] using hf)
    exact ⟨a0, n0, k0, xs0, a1, n1, k1, xs1, z, eb, rfl, r⟩
theorem opens_way {H : Type} {enc : TypeId × Value → H} {P : Program} {q u ti tb tf qi tw : TypeId} {f0 f1 f2 f3 h0 h1 h2 h3 : Field} (F : FeedR P q u ti tb tf f0 f1 f2 f3 qi) (hs : P.underlying tw = some (.struct #[h0, h1, h2, h3])) (cw : P.cellsOf tw = 7)
    (y0 : h0.offset = 0) (y1 : h1.offset = 4) (y2 : h2.offset = 5) (y3 : h3.offset = 6) (x0 : h0.type = tf) (x1 : h1.type = qi) (x2 : h2.type = ti) (x3 : h3.type = ti) {W : World} {r : Reach} {b0 : Nat} {v : Value} {d : DataW H} {p : List MemPlace} (hv : Value.okWide P W r b0 tw v) (h : DataW.Trod enc P W 0 (fun _ => true) true tw v d p) :
    ∃ a0 n0 k0 xs0 a1 n1 k1 xs1 z eb a2 n2 k2 xs2 zf zs, v = .agg #[.slice a0 n0 k0, .slice a1 n1 k1, .int .i64 z, .bool eb, .slice a2 n2 k2, .int .i64 zf, .int .i64 zs] ∧ Sl Bf W a0 n0 k0 xs0 ∧ Sl (Value.int .i64) W a1 n1 k1 xs1 ∧ IntsW xs1 ∧ Sl (Value.int .i64) W a2 n2 k2 xs2 ∧ IntsW xs2 ∧
      k0 + k1 + k2 + 3 ≤ Rows.uptoBulk d ∧ (∀ M, (∀ m, m ∈ d.weights P tw → m ≤ M) → k0 ≤ M ∧ k1 * 8 ≤ M ∧ k2 * 8 ≤ M) := by
  obtain ⟨cs', rfl, hsz⟩ := okWide_struct hs hv
  obtain ⟨l⟩ := cs'
  match l, hsz.trans cw with
  | [v0, v1, v2, v3, v4, v5, v6], _ =>
    obtain ⟨fuel, hf⟩ := h
    obtain ⟨z0, z1, z2, z3, k', hx, _, g0, g1, g2, g3⟩ := Go.Joins.trod_struct4 hs hf
    rw [y0, x0, F.cf] at g0
    rw [y1, x1, F.cqi] at g1
    rw [y2, x2, F.ci] at g2
    rw [y3, x3, F.ci] at g3
    simp [Value.cells] at g0 g1 g2 g3
    obtain ⟨a0, n0, k0, xs0, a1, n1, k1, xs1, z, eb, rfl, rfl, rfl, rfl, S0, S1, I1, bz, B0, M0⟩ := feed_of F g0
    obtain ⟨a2, n2, k2, xs2, rfl, S2, I2, D2⟩ := trod_ints F.hqi F.hi F.ci g1
    obtain ⟨zf, ef, _, w2⟩ := DataW.trod_int F.hi g2
    obtain rfl : v5 = .int .i64 zf := by simpa using ef
    obtain ⟨zs, es, _, w3⟩ := DataW.trod_int F.hi g3
    obtain rfl : v6 = .int .i64 zs := by simpa using es
    have b2 := bulk_slice D2
    simp only [Prod.mk.injEq] at hx
    refine ⟨a0, n0, k0, xs0, a1, n1, k1, xs1, z, eb, a2, n2, k2, xs2, zf, zs, rfl, S0, S1, I1, S2, I2, ?_, fun M hM => ?_⟩
    · rw [hx.1]; simp only [Rows.uptoBulk, Rows.uptoBulkAll]; omega
    · rw [hx.1] at hM
      have mem : ∀ m, m ∈ DataW.weightsEach P [tf, qi, ti, ti] [z0.1, z1.1, z2.1, z3.1] → m ≤ M := by
        intro m hm
        refine hM m ?_
        simp only [DataW.weights, hs]
        simpa [x0, x1, x2, x3] using hm
      obtain ⟨r0, r1⟩ := M0 M (fun m hm => mem m (by simp only [DataW.weightsEach, List.mem_append]; exact .inl hm))
      have r2 := cap_le F.hqi F.bi (by decide) D2 (fun m hm => mem m (by simp only [DataW.weightsEach, List.mem_append]; exact .inr (.inl hm)))
      exact ⟨r0, r1, r2⟩
end Go.Proofs.Ytpenbaafhbbmhaa
