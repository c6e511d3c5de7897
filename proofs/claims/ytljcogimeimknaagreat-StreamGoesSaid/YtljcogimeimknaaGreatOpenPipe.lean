/- From the row's reading to a feed (bytes, numbers, a number, a bool), and to a way (a feed, numbers, two numbers). No condition. -/
import Derived.Test.YtljcogimeimknaaGreatK8a
import Derived.Lib.SmallJoins
import Derived.Deep.Grids
namespace Go.Proofs.YtljcogimeimknaaGreat
open Go.ChangeShapes Go.WideShapes Go.RowKit
set_option linter.unusedVariables false

/-- numbers that came in -/
def IntsW (l : List Int) : Prop := ∀ x, x ∈ l → -9223372036854775808 ≤ x ∧ x ≤ 9223372036854775807
theorem trod_ints {H : Type} {enc : TypeId × Value → H} {P : Program} {t e : TypeId} (ht : P.underlying t = some (.slice e)) (he : P.underlying e = some (.int .i64)) (hc : P.cellsOf e = 1)
    {W : World} {V : Value} {n : Nat} {x : DataW H × List MemPlace} (h : DataW.trod enc P W 0 (fun _ => true) true n t [V] = some x) :
    ∃ a l c xs, V = .slice a l c ∧ Sl (Value.int .i64) W a l c xs ∧ IntsW xs ∧ ((x.1 = .nil ∧ c = 0) ∨ ∃ elems spare, x.1 = .slice elems spare ∧ elems.length + spare.length = c) := by
  have key : ∀ a l c, V = .slice a l c → ∃ a l c xs, V = .slice a l c ∧ Sl (Value.int .i64) W a l c xs ∧ IntsW xs ∧ ((x.1 = .nil ∧ c = 0) ∨ ∃ elems spare, x.1 = .slice elems spare ∧ elems.length + spare.length = c) := by
    rintro a l c rfl
    obtain ⟨xs, hs, hw, hd⟩ := opens_ints (d := x.1) (p := x.2) ht he hc ⟨n, by simpa [Value.cells] using h⟩
    exact ⟨_, _, _, xs, rfl, hs, fun z hz => wf_i64_of (hw z hz), hd⟩
  rcases open_ints ht he hc h with ⟨hcs, _⟩ | ⟨y, l, c', zs, hcs, _⟩
  · exact key none 0 0 (by simpa using hcs)
  · exact key (some y) l c' (by simpa using hcs)
theorem cap_le {H : Type} {P : Program} {q u : TypeId} {d : DataW H} {c k M : Nat} (hq : P.underlying q = some (.slice u)) (hk : P.bytesOf u = k) (hk0 : 0 < k) (hd : (d = .nil ∧ c = 0) ∨ ∃ elems spare, d = .slice elems spare ∧ elems.length + spare.length = c) (hM : ∀ m, m ∈ d.weights P q → m ≤ M) : c * k ≤ M := by
  have w := weights_text (P := P) hq hd
  rw [hk] at w
  rcases w with e | e
  · subst e; rw [Nat.zero_mul]; exact Nat.zero_le _
  · exact hM _ e
/-- a feed's cells -/
structure FeedR (P : Program) (q u ti tb : TypeId) (tf : TypeId) (f0 f1 f2 f3 : Field) (qi : TypeId) : Prop where
  hs : P.underlying tf = some (.struct #[f0, f1, f2, f3])
  o0 : f0.offset = 0
  o1 : f1.offset = 1
  o2 : f2.offset = 2
  o3 : f3.offset = 3
  t0 : f0.type = q
  t1 : f1.type = qi
  t2 : f2.type = ti
  t3 : f3.type = tb
  cq : P.cellsOf q = 1
  cqi : P.cellsOf qi = 1
  ci : P.cellsOf ti = 1
  cb : P.cellsOf tb = 1
  hq : P.underlying q = some (.slice u)
  hu : P.underlying u = some (.int .u8)
  cu : P.cellsOf u = 1
  bu : P.bytesOf u = 1
  hqi : P.underlying qi = some (.slice ti)
  hi : P.underlying ti = some (.int .i64)
  bi : P.bytesOf ti = 8
  hb : P.underlying tb = some .bool
  cf : P.cellsOf tf = 4
theorem feed_of {H : Type} {enc : TypeId × Value → H} {P : Program} {q u ti tb tf qi : TypeId} {f0 f1 f2 f3 : Field} (F : FeedR P q u ti tb tf f0 f1 f2 f3 qi) {W : World} {n : Nat} {v0 v1 v2 v3 : Value} {x : DataW H × List MemPlace}
    (h : DataW.trod enc P W 0 (fun _ => true) true n tf [v0, v1, v2, v3] = some x) :
    ∃ a0 n0 k0 xs0 a1 n1 k1 xs1 z eb, v0 = .slice a0 n0 k0 ∧ v1 = .slice a1 n1 k1 ∧ v2 = .int .i64 z ∧ v3 = .bool eb ∧ Sl Bf W a0 n0 k0 xs0 ∧ Sl (Value.int .i64) W a1 n1 k1 xs1 ∧ IntsW xs1 ∧ (-9223372036854775808 ≤ z ∧ z ≤ 9223372036854775807) ∧
      k0 + k1 + 2 ≤ Rows.uptoBulk x.1 ∧ (∀ M, (∀ m, m ∈ x.1.weights P tf → m ≤ M) → k0 ≤ M ∧ k1 * 8 ≤ M) := by
  obtain ⟨z0, z1, z2, z3, k', hx, _, g0, g1, g2, g3⟩ := Go.Joins.trod_struct4 F.hs h
  rw [F.o0, F.t0, F.cq] at g0
  rw [F.o1, F.t1, F.cqi] at g1
  rw [F.o2, F.t2, F.ci] at g2
  rw [F.o3, F.t3, F.cb] at g3
  simp at g0 g1 g2 g3
  obtain ⟨a0, n0, k0, xs0, rfl, S0, D0⟩ := trod_bytes F.hq F.hu F.cu g0
  obtain ⟨a1, n1, k1, xs1, rfl, S1, I1, D1⟩ := trod_ints F.hqi F.hi F.ci g1
  obtain ⟨zz, ei, _, w2⟩ := DataW.trod_int F.hi g2
  obtain rfl : v2 = .int .i64 zz := by simpa using ei
  obtain ⟨bb, eb, _⟩ := DataW.trod_bool F.hb g3
  obtain rfl : v3 = .bool bb := by simpa using eb
  have b0 := bulk_slice D0; have b1 := bulk_slice D1
  subst hx
  refine ⟨a0, n0, k0, xs0, a1, n1, k1, xs1, zz, bb, rfl, rfl, rfl, rfl, S0, S1, I1, wf_i64_of w2, ?_, fun M hM => ?_⟩
  · simp only [Rows.uptoBulk, Rows.uptoBulkAll]; omega
  · have mem : ∀ m, m ∈ DataW.weightsEach P [q, qi, ti, tb] [z0.1, z1.1, z2.1, z3.1] → m ≤ M := by
      intro m hm
      refine hM m ?_
      simp only [DataW.weights, F.hs]
      simpa [F.t0, F.t1, F.t2, F.t3] using hm
    have r0 := cap_le F.hq F.bu (by decide) D0 (fun m hm => mem m (by simp only [DataW.weightsEach, List.mem_append]; exact .inl hm))
    have r1 := cap_le F.hqi F.bi (by decide) D1 (fun m hm => mem m (by simp only [DataW.weightsEach, List.mem_append]; exact .inr (.inl hm)))
    exact ⟨by omega, r1⟩
theorem opens_feed {H : Type} {enc : TypeId × Value → H} {P : Program} {q u ti tb tf qi : TypeId} {f0 f1 f2 f3 : Field} (F : FeedR P q u ti tb tf f0 f1 f2 f3 qi) {W : World} {r : Reach} {b0 : Nat} {v : Value} {d : DataW H} {p : List MemPlace} (hv : Value.okWide P W r b0 tf v) (h : DataW.Trod enc P W 0 (fun _ => true) true tf v d p) :
    ∃ a0 n0 k0 xs0 a1 n1 k1 xs1 z eb, v = .agg #[.slice a0 n0 k0, .slice a1 n1 k1, .int .i64 z, .bool eb] ∧ Sl Bf W a0 n0 k0 xs0 ∧ Sl (Value.int .i64) W a1 n1 k1 xs1 ∧ IntsW xs1 ∧ (-9223372036854775808 ≤ z ∧ z ≤ 9223372036854775807) ∧
      k0 + k1 + 2 ≤ Rows.uptoBulk d ∧ (∀ M, (∀ m, m ∈ d.weights P tf → m ≤ M) → k0 ≤ M ∧ k1 * 8 ≤ M) := by
  obtain ⟨cs', rfl, hsz⟩ := okWide_struct F.hs hv
  obtain ⟨l⟩ := cs'
  match l, hsz.trans F.cf with
  | [v0, v1, v2, v3], _ =>
    obtain ⟨fuel, hf⟩ := h
    obtain ⟨a0, n0, k0, xs0, a1, n1, k1, xs1, z, eb, rfl, rfl, rfl, rfl, r⟩ := feed_of F (x := (d, p)) (by simpa [Value.cells] using hf)
    exact ⟨a0, n0, k0, xs0, a1, n1, k1, xs1, z, eb, rfl, r⟩
end Go.Proofs.YtljcogimeimknaaGreat
