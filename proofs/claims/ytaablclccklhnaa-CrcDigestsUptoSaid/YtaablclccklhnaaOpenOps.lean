/- From the row's reading to a slice of operations (structs of a Bool, an int and a slice of bytes), with the bulk of their bytes. No condition. -/
import Derived.Test.YtaablclccklhnaaOpen
import Derived.Deep.Slices
import Derived.Deep.Strs
namespace Go.Proofs.Ytaablclccklhnaa
open Go.ChangeShapes Go.RowKit

/-- an operation of a script -/
abbrev OpT := Bool × Int × List UInt8
/-- a slice of operations that reads as a list -/
def Ops (w : World) (a : Option Addr) (n c : Nat) (os : List OpT) : Prop :=
  os.length = n ∧ n ≤ c ∧ (a = none → c = 0) ∧ ∀ i q, os[i]? = some q → ∃ b o av nv cv, a = some ⟨b, o, none⟩ ∧ w.cell? ⟨b, o + i * 3, none⟩ = some (.bool q.1) ∧ w.cell? ⟨b, o + i * 3 + 1, none⟩ = some (.int .i64 q.2.1) ∧
    w.cell? ⟨b, o + i * 3 + 2, none⟩ = some (.slice av nv cv) ∧ Sl Bf w av nv cv q.2.2

theorem trod_bytes {H : Type} {enc : TypeId × Value → H} {P : Program} {t e : TypeId} (ht : P.underlying t = some (.slice e)) (he : P.underlying e = some (.int .u8)) (hc : P.cellsOf e = 1)
    {W : World} {V : Value} {n : Nat} {x : DataW H × List MemPlace} (h : DataW.trod enc P W 0 (fun _ => true) true n t [V] = some x) :
    ∃ a l c xs, V = .slice a l c ∧ Sl Bf W a l c xs ∧ l ≤ Rows.uptoBulk x.1 := by
  rcases open_ints ht he hc h with ⟨hcs, _⟩ | ⟨y, l, c', zs, hcs, _⟩
  · obtain rfl : V = .slice none 0 0 := by simpa using hcs
    exact ⟨none, 0, 0, [], rfl, Sl.nil _ _, Nat.zero_le _⟩
  · obtain rfl : V = .slice (some y) l c' := by simpa using hcs
    obtain ⟨xs, hs, hd⟩ := opens_bytes (d := x.1) (p := x.2) ht he hc ⟨n, by simpa [Value.cells] using h⟩
    have := bulk_slice hd
    have := hs.le
    exact ⟨_, _, _, xs, rfl, hs, by omega⟩

theorem bulk_map {H : Type} (D : Nat → DataW H) (L : Nat → Nat) : ∀ l : List Nat, (∀ i, i ∈ l → L i ≤ Rows.uptoBulk (D i)) → (l.map L).sum ≤ Rows.uptoBulkAll (l.map D)
  | [], _ => by simp [Rows.uptoBulkAll]
  | i :: r, h => by
    have := bulk_map D L r (fun j hj => h j (List.mem_cons_of_mem _ hj))
    have := h i (List.mem_cons_self ..)
    simp only [List.map_cons, List.sum_cons, Rows.uptoBulkAll]; omega

theorem opens_ops {H : Type} {enc : TypeId × Value → H} {P : Program} {t e tb ti q u : TypeId} {f0 f1 f2 : Field} (ht : P.underlying t = some (.slice e)) (he : P.underlying e = some (.struct #[f0, f1, f2]))
    (ce : P.cellsOf e = 3) (o0 : f0.offset = 0) (o1 : f1.offset = 1) (o2 : f2.offset = 2) (t0 : f0.type = tb) (t1 : f1.type = ti) (t2 : f2.type = q) (c0 : P.cellsOf tb = 1) (c1 : P.cellsOf ti = 1) (c2 : P.cellsOf q = 1)
    (hb : P.underlying tb = some .bool) (hi : P.underlying ti = some (.int .i64)) (hq : P.underlying q = some (.slice u)) (hu : P.underlying u = some (.int .u8)) (hc : P.cellsOf u = 1)
    {W : World} {a : Option Addr} {n c : Nat} {d : DataW H} {p : List MemPlace} (h : DataW.Trod enc P W 0 (fun _ => true) true t (.slice a n c) d p) :
    ∃ os, Ops W a n c os ∧ (os.map (·.2.2.length)).sum ≤ Rows.uptoBulk d ∧ n ≤ Rows.uptoBulk d := by
  obtain ⟨fuel, hf⟩ := h
  rcases Go.Deep.open_slice ht hf with ⟨hcs, _⟩ | ⟨x, len, cap, m, k, D, Pl, hcs, _, hl, _, hm, hd, hx⟩
  · simp [Value.cells] at hcs
    obtain ⟨rfl, rfl, rfl⟩ := hcs
    exact ⟨[], ⟨rfl, Nat.le_refl _, fun _ => rfl, by simp⟩, by simp, Nat.zero_le _⟩
  · simp [Value.cells] at hcs
    obtain ⟨rfl, rfl, rfl⟩ := hcs
    simp only [if_true] at hm
    subst hm
    have each : ∀ i, i < n → ∃ y : OpT, ∃ av nv cv, W.cell? (x.add (i * 3)) = some (.bool y.1) ∧ W.cell? ((x.add (i * 3)).add 1) = some (.int .i64 y.2.1) ∧ W.cell? ((x.add (i * 3)).add 2) = some (.slice av nv cv) ∧ Sl Bf W av nv cv y.2.2 ∧ nv ≤ Rows.uptoBulk (D i) := by
      intro i hi2
      obtain ⟨cs', h1, h2⟩ := hx i (by omega)
      rw [ce] at h1
      obtain ⟨_, hlen, hcell⟩ := World.cells?_some h1
      obtain ⟨y0, y1, y2, k', hxy, _, g0, g1, g2⟩ := Go.Deep.trod_struct3 he h2
      match cs', hlen with
      | [v0, v1, v2], _ =>
        rw [o0, t0, c0] at g0
        rw [o1, t1, c1] at g1
        rw [o2, t2, c2] at g2
        simp at g0 g1 g2
        have e0 := hcell 0 (by omega)
        have e1 := hcell 1 (by omega)
        have e2 := hcell 2 (by omega)
        simp [Addr.add] at e0
        obtain ⟨b0, eb, _⟩ := DataW.trod_bool hb g0
        obtain ⟨z1, ei, _⟩ := DataW.trod_int hi g1
        obtain rfl : v0 = .bool b0 := by simpa using eb
        obtain rfl : v1 = .int .i64 z1 := by simpa using ei
        obtain ⟨av, nv, cv, xs, rfl, hs, hbk⟩ := trod_bytes hq hu hc g2
        simp only [Prod.mk.injEq] at hxy
        refine ⟨(b0, z1, xs), av, nv, cv, ?_, by simpa using e1, by simpa using e2, hs, ?_⟩
        · simpa [Addr.add] using e0
        · rw [hxy.1]; simp only [Rows.uptoBulk, Rows.uptoBulkAll]; omega
    obtain ⟨Y, hY⟩ := Go.Deep.choose_lt each
    simp only [Prod.mk.injEq] at hd
    obtain ⟨hd, _⟩ := hd
    have hlen : ∀ i, i < n → (Y i).2.2.length ≤ Rows.uptoBulk (D i) := by
      intro i hin
      obtain ⟨av, nv, cv, _, _, _, s0, hbk⟩ := hY i hin
      rw [s0.len]; exact hbk
    refine ⟨(List.range n).map Y, ⟨by simp, hl, by simp, fun i y hy => ?_⟩, ?_, ?_⟩
    · have hin : i < n := by have := (List.getElem?_eq_some_iff.1 hy).1; simpa using this
      have hYi : Y i = y := by simpa [hin] using hy
      obtain ⟨av, nv, cv, g0, g1, g2, s0, _⟩ := hY i hin
      obtain ⟨b, off, s⟩ := x
      have hs : s = none := by
        obtain ⟨_, _, _, g00, _⟩ := hY 0 (by omega)
        simpa [Addr.add] using World.cell?_spot g00
      subst hs
      have ea : (⟨b, off, none⟩ : Addr).add (i * 3) = ⟨b, off + i * 3, none⟩ := by unfold Addr.add; split <;> simp_all
      rw [ea] at g0 g1 g2
      rw [hYi] at g0 g1 s0
      exact ⟨b, off, av, nv, cv, rfl, g0, g1, g2, s0⟩
    · rw [List.map_map, hd]
      have := bulk_map D (fun i => (Y i).2.2.length) (List.range n) (fun i hi => hlen i (List.mem_range.1 hi))
      simp only [Rows.uptoBulk]
      have e : (List.range n).map ((fun x : OpT => x.2.2.length) ∘ Y) = (List.range n).map (fun i => (Y i).2.2.length) := rfl
      rw [e]; omega
    · rw [hd]
      have := bulk_length ((List.range n).map D)
      rw [List.length_map, List.length_range] at this
      simp only [Rows.uptoBulk]; omega
end Go.Proofs.Ytaablclccklhnaa
