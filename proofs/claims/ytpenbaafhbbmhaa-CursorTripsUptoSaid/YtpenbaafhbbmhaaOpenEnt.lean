/- From the row's reading to a slice of entries (structs of two slices of bytes). No condition. -/
import Derived.Test.YtpenbaafhbbmhaaOpen
import Derived.Deep.SlicePairs
namespace Go.Proofs.Ytpenbaafhbbmhaa
open Go.ChangeShapes Go.RowKit

/-- a slice of entries that reads as a list of pairs of texts -/
def Ents (w : World) (a : Option Addr) (n c : Nat) (es : List (List UInt8 × List UInt8)) : Prop :=
  es.length = n ∧ n ≤ c ∧ (a = none → c = 0) ∧ ∀ i k v, es[i]? = some (k, v) → ∃ b o ak nk ck av nv cv, a = some ⟨b, o, none⟩ ∧ w.cell? ⟨b, o + i * 2, none⟩ = some (.slice ak nk ck) ∧ w.cell? ⟨b, o + i * 2 + 1, none⟩ = some (.slice av nv cv) ∧ Sl Bf w ak nk ck k ∧ Sl Bf w av nv cv v

theorem trod_bytes {H : Type} {enc : TypeId × Value → H} {P : Program} {t e : TypeId} (ht : P.underlying t = some (.slice e)) (he : P.underlying e = some (.int .u8)) (hc : P.cellsOf e = 1)
    {W : World} {V : Value} {n : Nat} {x : DataW H × List MemPlace} (h : DataW.trod enc P W 0 (fun _ => true) true n t [V] = some x) :
    ∃ a l c xs, V = .slice a l c ∧ Sl Bf W a l c xs ∧ ((x.1 = .nil ∧ c = 0) ∨ ∃ elems spare, x.1 = .slice elems spare ∧ elems.length + spare.length = c) := by
  have key : ∀ a l c, V = .slice a l c → ∃ a l c xs, V = .slice a l c ∧ Sl Bf W a l c xs ∧ ((x.1 = .nil ∧ c = 0) ∨ ∃ elems spare, x.1 = .slice elems spare ∧ elems.length + spare.length = c) := by
    rintro a l c rfl
    obtain ⟨xs, hs, hd⟩ := opens_bytes (d := x.1) (p := x.2) ht he hc ⟨n, by simpa [Value.cells] using h⟩
    exact ⟨_, _, _, xs, rfl, hs, hd⟩
  rcases open_ints ht he hc h with ⟨hcs, _⟩ | ⟨y, l, c', zs, hcs, _⟩
  · exact key none 0 0 (by simpa using hcs)
  · exact key (some y) l c' (by simpa using hcs)

theorem weights_mem_all {H : Type} {P : Program} {e : TypeId} {d : DataW H} {m : Nat} (hm : m ∈ d.weights P e) : ∀ {l : List (DataW H)}, d ∈ l → m ∈ DataW.weightsAll P e l
  | [], h => by cases h
  | x :: r, h => by
    simp only [DataW.weightsAll, List.mem_append]
    cases List.mem_cons.1 h with
    | inl e => subst e; exact .inl hm
    | inr e => exact .inr (weights_mem_all hm e)
/-- of a text's reading: its room is among the weights, and within the bulk -/
theorem weights_text {H : Type} {P : Program} {q u : TypeId} {d : DataW H} {c : Nat} (hq : P.underlying q = some (.slice u)) (hd : (d = .nil ∧ c = 0) ∨ ∃ elems spare, d = .slice elems spare ∧ elems.length + spare.length = c) :
    c = 0 ∨ c * P.bytesOf u ∈ d.weights P q := by
  rcases hd with ⟨_, rfl⟩ | ⟨el, sp, rfl, hl⟩
  · exact .inl rfl
  · refine .inr ?_
    subst hl
    simp [DataW.weights, hq]
theorem bulk_sum {H : Type} (D : Nat → DataW H) (f : Nat → Nat) : ∀ l : List Nat, (∀ i, i ∈ l → f i + 1 ≤ Rows.uptoBulk (D i)) → (l.map f).sum + l.length ≤ Rows.uptoBulkAll (l.map D)
  | [], _ => by simp
  | x :: r, h => by
    have h1 := h x (by simp)
    have h2 := bulk_sum D f r (fun i hi => h i (by simp [hi]))
    simp only [List.map_cons, List.sum_cons, List.length_cons, Rows.uptoBulkAll]; omega

def entSum (es : List (List UInt8 × List UInt8)) : Nat := (es.map fun e => e.1.length + e.2.length).sum
theorem opens_ents {H : Type} {enc : TypeId × Value → H} {P : Program} {t e q u : TypeId} {f0 f1 : Field} (ht : P.underlying t = some (.slice e)) (he : P.underlying e = some (.struct #[f0, f1]))
    (ce : P.cellsOf e = 2) (o0 : f0.offset = 0) (o1 : f1.offset = 1) (t0 : f0.type = q) (t1 : f1.type = q) (c0 : P.cellsOf q = 1) (hq : P.underlying q = some (.slice u)) (hu : P.underlying u = some (.int .u8)) (hc : P.cellsOf u = 1) (hb1 : P.bytesOf u = 1)
    {W : World} {a : Option Addr} {n c : Nat} {d : DataW H} {p : List MemPlace} (h : DataW.Trod enc P W 0 (fun _ => true) true t (.slice a n c) d p) :
    ∃ es, Ents W a n c es ∧ (∀ M, (∀ m, m ∈ d.weights P t → m ≤ M) → c * P.bytesOf e ≤ M ∧ ∀ x, x ∈ es → x.1.length ≤ M ∧ x.2.length ≤ M) ∧ c + 1 + entSum es ≤ Rows.uptoBulk d := by
  obtain ⟨fuel, hf⟩ := h
  rcases Go.Deep.open_slice_pairs ht he ce o0 o1 (by rw [t0]; exact c0) (by rw [t1]; exact c0) hf with ⟨hcs, hx⟩ | ⟨x, len, cap, m, k, V0, V1, D0, D1, P0, P1, hcs, _, hl, _, hm, hd, hx⟩
  · simp [Value.cells] at hcs
    obtain ⟨rfl, rfl, rfl⟩ := hcs
    simp only [Prod.mk.injEq] at hx
    refine ⟨[], ⟨rfl, Nat.le_refl _, fun _ => rfl, by simp⟩, fun M _ => ⟨by simp, by simp⟩, ?_⟩
    rw [hx.1]; simp [entSum, Rows.uptoBulk]
  · simp [Value.cells] at hcs
    obtain ⟨rfl, rfl, rfl⟩ := hcs
    simp only [if_true] at hm
    subst hm
    simp only [Prod.mk.injEq] at hd
    obtain ⟨hd, _⟩ := hd
    rw [t0, t1] at hx
    have each : ∀ i, i < n → ∃ y : (List UInt8 × List UInt8), ∃ ak nk ck av nv cv, W.cell? (x.add (i * 2)) = some (.slice ak nk ck) ∧ W.cell? (x.add (i * 2 + 1)) = some (.slice av nv cv) ∧ Sl Bf W ak nk ck y.1 ∧ Sl Bf W av nv cv y.2 ∧
        ((D0 i = .nil ∧ ck = 0) ∨ ∃ elems spare, D0 i = .slice elems spare ∧ elems.length + spare.length = ck) ∧ ((D1 i = .nil ∧ cv = 0) ∨ ∃ elems spare, D1 i = .slice elems spare ∧ elems.length + spare.length = cv) := by
      intro i hi
      obtain ⟨h0, h1, h2, h3⟩ := hx i (by omega)
      obtain ⟨ak, nk, ck, ks, e0, s0, d0⟩ := trod_bytes hq hu hc h2
      obtain ⟨av, nv, cv, vs, e1, s1, d1⟩ := trod_bytes hq hu hc h3
      exact ⟨(ks, vs), ak, nk, ck, av, nv, cv, by rw [h0, e0], by rw [h1, e1], s0, s1, d0, d1⟩
    obtain ⟨Y, hY⟩ := Go.Deep.choose_lt each
    refine ⟨(List.range n).map Y, ⟨by simp, hl, by simp, fun i k v hi => ?_⟩, fun M hM => ⟨?_, fun y hy => ?_⟩, ?_⟩
    · have hin : i < n := by have := (List.getElem?_eq_some_iff.1 hi).1; simpa using this
      have hYi : Y i = (k, v) := by simpa [hin] using hi
      obtain ⟨ak, nk, ck, av, nv, cv, g0, g1, s0, s1, _⟩ := hY i hin
      obtain ⟨b, off, s⟩ := x
      have hs : s = none := by
        obtain ⟨_, _, _, _, _, _, g00, _⟩ := hY 0 (by omega)
        simpa [Addr.add] using World.cell?_spot g00
      subst hs
      have e0 : (⟨b, off, none⟩ : Addr).add (i * 2) = ⟨b, off + i * 2, none⟩ := by unfold Addr.add; split <;> simp_all
      have e1 : (⟨b, off, none⟩ : Addr).add (i * 2 + 1) = ⟨b, off + i * 2 + 1, none⟩ := by unfold Addr.add; split <;> simp_all <;> omega
      rw [e0] at g0
      rw [e1] at g1
      rw [hYi] at s0 s1
      exact ⟨b, off, ak, nk, ck, av, nv, cv, rfl, g0, g1, s0, s1⟩
    · refine hM _ ?_
      rw [hd]
      simp [DataW.weights, ht]
      left
      congr 1
      omega
    · obtain ⟨i, hi, rfl⟩ := List.mem_map.1 hy
      have hin : i < n := List.mem_range.1 hi
      obtain ⟨ak, nk, ck, av, nv, cv, _, _, s0, s1, d0, d1⟩ := hY i hin
      have mem : ∀ z, z ∈ DataW.weightsEach P [q, q] [D0 i, D1 i] → z ≤ M := by
        intro z hz
        refine hM z ?_
        rw [hd]
        simp only [DataW.weights, ht, List.mem_cons, List.mem_append]
        refine .inr (.inl (weights_mem_all (d := .agg [D0 i, D1 i]) ?_ (List.mem_map.2 ⟨i, hi, rfl⟩)))
        simp only [DataW.weights, he]
        simpa [t0, t1] using hz
      have w0 := weights_text hq d0
      have w1 := weights_text hq d1
      rw [hb1, Nat.mul_one] at w0 w1
      have l0 := s0.len; have l1 := s1.len; have q0 := s0.le; have q1 := s1.le
      refine ⟨?_, ?_⟩
      · rcases w0 with e | e
        · omega
        · have := mem ck (by simp only [DataW.weightsEach, List.mem_append]; exact .inl e); omega
      · rcases w1 with e | e
        · omega
        · have := mem cv (by simp only [DataW.weightsEach, List.mem_append]; exact .inr (.inl e)); omega
    · rw [hd]
      simp only [Rows.uptoBulk]
      have h1 := bulk_sum (fun i => (.agg [D0 i, D1 i] : DataW H)) (fun i => (Y i).1.length + (Y i).2.length) (List.range n) (fun i hi => by
        obtain ⟨ak, nk, ck, av, nv, cv, _, _, s0, s1, d0, d1⟩ := hY i (List.mem_range.1 hi)
        have b0 := bulk_slice d0; have b1 := bulk_slice d1
        have l0 := s0.len; have l1 := s1.len; have q0 := s0.le; have q1 := s1.le
        simp only [Rows.uptoBulk, Rows.uptoBulkAll]; omega)
      have h2 := bulk_length ((List.range (m - n)).map fun j => (.agg [D0 (n + j), D1 (n + j)] : DataW H))
      simp only [List.length_map, List.length_range] at h1 h2
      have e : entSum ((List.range n).map Y) = ((List.range n).map fun i => (Y i).1.length + (Y i).2.length).sum := by unfold entSum; rw [List.map_map]; rfl
      rw [e]; omega
end Go.Proofs.Ytpenbaafhbbmhaa
