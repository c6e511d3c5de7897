/- Words for the step from a walk to the given row: arguments opened as slices of bytes and of numbers, with their sizes. No condition. -/
import Derived.Test.YtpenbaafhbbmhaaNum
import Derived.Test.YtpenbaafhbbmhaaRows
import Derived.ProofKit
import Derived.OpenShut
import Derived.SizedLaws
import Derived.JoinedCond
namespace Go.Proofs.Ytpenbaafhbbmhaa
open Go.ChangeShapes Go.WideShapes Go.ChangeAt Go.RowKit

theorem prog_own : ownKnob Try.prog.godebug = none := by kernel_rfl
theorem prog_laidOut : laidOutB Try.prog = true := by kernel_rfl

theorem wf_u8_of {x : Int} (h : (Lit.int .u8 x).wf = true) : 0 ≤ x ∧ x < 256 := by
  simp [Lit.wf, IntKind.min, IntKind.max, IntKind.signed, IntKind.bits] at h; omega
theorem wf_u32_of {x : Int} (h : (Lit.int .u32 x).wf = true) : 0 ≤ x ∧ x < 4294967296 := by
  simp [Lit.wf, IntKind.min, IntKind.max, IntKind.signed, IntKind.bits] at h; omega
theorem wf_u64_of {x : Int} (h : (Lit.int .u64 x).wf = true) : 0 ≤ x ∧ x < 18446744073709551616 := by
  simp [Lit.wf, IntKind.min, IntKind.max, IntKind.signed, IntKind.bits] at h; omega
theorem wf_i64_of {x : Int} (h : (Lit.int .i64 x).wf = true) : -9223372036854775808 ≤ x ∧ x ≤ 9223372036854775807 := by
  simp [Lit.wf, IntKind.min, IntKind.max, IntKind.signed, IntKind.bits] at h; omega

/-- a slice of integers, opened, whatever its kind -/
theorem opens_ints {H : Type} {enc : TypeId × Value → H} {P : Program} {t e : TypeId} {k : IntKind} (ht : P.underlying t = some (.slice e)) (he : P.underlying e = some (.int k)) (hc : P.cellsOf e = 1)
    {W : World} {a : Option Addr} {n c : Nat} {d : DataW H} {p : List MemPlace} (h : DataW.Trod enc P W 0 (fun _ => true) true t (.slice a n c) d p) :
    ∃ zs : List Int, Sl (Value.int k) W a n c zs ∧ (∀ z ∈ zs, (Lit.int k z).wf = true) ∧ ((d = .nil ∧ c = 0) ∨ ∃ elems spare, d = .slice elems spare ∧ elems.length + spare.length = c) := by
  obtain ⟨fuel, hf⟩ := h
  rcases open_ints ht he hc hf with ⟨hcs, hx⟩ | ⟨x, l, c', zs, hcs, _, hl, hm, hz, hx, hcell, hwz⟩
  · simp [Value.cells] at hcs
    obtain ⟨rfl, rfl, rfl⟩ := hcs
    simp only [Prod.mk.injEq] at hx
    exact ⟨[], Sl.nil _ _, by simp, .inl ⟨hx.1, rfl⟩⟩
  · simp [Value.cells] at hcs
    obtain ⟨rfl, rfl, rfl⟩ := hcs
    simp only [Prod.mk.injEq] at hx
    simp only [if_true] at hz
    refine ⟨zs.take n, ⟨by simp; omega, hl, by simp, fun i z hi => ?_⟩, fun z hz => hwz z (List.mem_of_mem_take hz), .inr ⟨_, _, hx.1, by simp [lits]; omega⟩⟩
    have hin : i < n := by have := (List.getElem?_eq_some_iff.1 hi).1; simp at this; omega
    have hc0 := hcell i (by omega)
    obtain ⟨b, off, s⟩ := x
    have hc00 := hcell 0 (by omega)
    obtain rfl : s = none := by simpa [Addr.add] using World.cell?_spot hc00
    refine ⟨b, off, rfl, ?_⟩
    have e : (⟨b, off, none⟩ : Addr).add i = ⟨b, off + i, none⟩ := by unfold Addr.add; split <;> simp_all
    rw [e] at hc0
    rw [List.getElem?_take_of_lt hin] at hi
    rw [hc0, List.getD, hi]; rfl

theorem opens_bytes {H : Type} {enc : TypeId × Value → H} {P : Program} {t e : TypeId} (ht : P.underlying t = some (.slice e)) (he : P.underlying e = some (.int .u8)) (hc : P.cellsOf e = 1)
    {W : World} {a : Option Addr} {n c : Nat} {d : DataW H} {p : List MemPlace} (h : DataW.Trod enc P W 0 (fun _ => true) true t (.slice a n c) d p) :
    ∃ xs : List UInt8, Sl Bf W a n c xs ∧ ((d = .nil ∧ c = 0) ∨ ∃ elems spare, d = .slice elems spare ∧ elems.length + spare.length = c) := by
  obtain ⟨zs, hs, hw, hd⟩ := opens_ints ht he hc h
  refine ⟨zs.map fun z => UInt8.ofNat z.toNat, ⟨by rw [List.length_map]; exact hs.1, hs.2.1, hs.2.2.1, fun i x hx => ?_⟩, hd⟩
  rw [List.getElem?_map] at hx
  cases hz : zs[i]? with
  | none => rw [hz] at hx; cases hx
  | some z =>
    rw [hz] at hx; cases hx
    obtain ⟨b, o, ha, hcell⟩ := hs.2.2.2 i z hz
    refine ⟨b, o, ha, ?_⟩
    have hb := wf_u8_of (hw z (List.mem_of_getElem? hz))
    rw [hcell]
    unfold Bf B
    rw [UInt8.toNat_ofNat']
    congr 2; omega

theorem opens_u32 {x : Int} (h : (Lit.int .u32 x).wf = true) : ∃ s, x = U s := U_of (wf_u32_of h).1 (wf_u32_of h).2

/-- the reach of an argument -/
theorem reach_of {H : Type} {P : Program} {ts : List TypeId} {ds : List (DataW H)} {d : DataW H} {c bytes : Nat} (h : (DataW.weightsEach P ts ds).all (· ≤ reachBytes) = true) (j : Nat) {t e : TypeId}
    (ht : ts[j]? = some t) (hd : ds[j]? = some d) (hu : P.underlying t = some (.slice e)) (hb : P.bytesOf e = bytes) (hc : (d = .nil ∧ c = 0) ∨ ∃ elems spare, d = .slice elems spare ∧ elems.length + spare.length = c) :
    c * bytes ≤ 140737488351232 := by
  rcases hc with ⟨_, rfl⟩ | ⟨el, sp, rfl, hl⟩
  · simp
  · have := sized_slice h ht hd hu
    rw [hl, hb] at this
    simpa [reachBytes] using this

/-! ### what the bound of the second form gives -/
theorem bulk_one {H : Type} (d : DataW H) : 1 ≤ Rows.uptoBulk d := by
  cases d with
  | lit l => cases l <;> simp [Rows.uptoBulk]
  | nil => simp [Rows.uptoBulk]
  | ptr d => simp [Rows.uptoBulk]
  | slice elems spare => simp [Rows.uptoBulk]
  | agg parts => simp [Rows.uptoBulk]
  | iface t d => simp [Rows.uptoBulk]
  | map entries => simp [Rows.uptoBulk]
  | held h => simp [Rows.uptoBulk]
theorem bulk_length {H : Type} (l : List (DataW H)) : l.length ≤ Rows.uptoBulkAll l := by
  induction l with
  | nil => simp [Rows.uptoBulkAll]
  | cons x r ih => have := bulk_one x; simp only [Rows.uptoBulkAll, List.length_cons]; omega
theorem bulk_mem {H : Type} {d : DataW H} {l : List (DataW H)} (h : d ∈ l) : Rows.uptoBulk d ≤ Rows.uptoBulkAll l := by
  induction l with
  | nil => cases h
  | cons x r ih =>
    simp only [Rows.uptoBulkAll]
    cases List.mem_cons.1 h with
    | inl e => subst e; omega
    | inr e => have := ih e; omega
theorem bulk_slice {H : Type} {d : DataW H} {c : Nat} (hc : (d = .nil ∧ c = 0) ∨ ∃ elems spare, d = .slice elems spare ∧ elems.length + spare.length = c) : c + 1 ≤ Rows.uptoBulk d := by
  rcases hc with ⟨rfl, rfl⟩ | ⟨el, sp, rfl, hl⟩
  · simp [Rows.uptoBulk]
  · have h1 := bulk_length el
    have h2 := bulk_length sp
    simp only [Rows.uptoBulk]
    omega
theorem bulk_bound {H : Type} {l : List (DataW H)} (hk : Rows.uptoSmall H l = true) : Rows.uptoBulkAll l ≤ 1048576 := of_decide_eq_true hk

end Go.Proofs.Ytpenbaafhbbmhaa
