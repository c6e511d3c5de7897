/- Rows of a foot as elements of a row in memory. No condition. -/
import Derived.Test.YtpmijgeakmmieaaFootM
import Derived.Test.YtpmijgeakmmieaaRow
namespace Go.Proofs.Ytpmijgeakmmieaa
open Go.RowKit

abbrev RV := (Option Addr × Nat × Nat) × Int × Int × Int
abbrev fR (x : RV) : List Value := [.slice x.1.1 x.1.2.1 x.1.2.2, .int .i64 x.2.1, .int .i64 x.2.2.1, .int .i64 x.2.2.2]
theorem fR_len (x : RV) : (fR x).length = 4 := rfl
theorem eltTR : EltT Try.prog 22 49 fR 4 48 := by
  have hi : (Try.prog.info? 49).map (fun i => (i.zero, i.size, i.bytes)) = some (some (.agg #[.slice none 0 0, .int .i64 0, .int .i64 0, .int .i64 0]), 4, 48) := by kernel_rfl
  obtain ⟨i, hi1, hi2, hi3, hi4⟩ := info_parts hi
  exact ⟨Try.underlying22, ⟨i, _, hi1, hi2, hi3, hi4, ((none, 0, 0), 0, 0, 0), rfl⟩, fun _ => rfl, by decide, fun x u hu => by simp [fR] at hu; rcases hu with rfl | rfl | rfl | rfl <;> rfl⟩
theorem SlT.litR (w : World) (x : RV) (g : Nat) (hg : w.heap.size = g) : SlT fR 4 (w.alloc (.cells #[.slice x.1.1 x.1.2.1 x.1.2.2, .int .i64 x.2.1, .int .i64 x.2.2.1, .int .i64 x.2.2.2] 49)) (some ⟨g, 0, none⟩) 1 1 [x] := by
  subst hg
  obtain ⟨a, c, hv, hs⟩ := (OwT.lit fR w w.heap.size 49 #[.slice x.1.1 x.1.2.1 x.1.2.2, .int .i64 x.2.1, .int .i64 x.2.2.1, .int .i64 x.2.2.2] [x] 1 rfl rfl (Nat.le_refl _) (by decide)).sl fR_len
  cases hv; exact hs
theorem run_cutR (w : World) (aa : Option Addr) (n c : Nat) (k2 : IntKind) (r : Nat) (hr : r ≤ c) : (Instr.slice 22 (.slice aa n c) none (some (.int k2 r)) none).run Try.prog w = .ok (.slice aa r c) w := by
  obtain ⟨ht, ⟨i, z, hi1, hi2, hi3, hi4, x0, hz⟩, hf, hk, h1⟩ := eltTR
  cases aa <;> simp [Instr.slice, run_underlying ht, Instr.sliceBounds, Instr.sliceBound, asIntOf, sizeOf, typeInfo, hi1, hr, Addr.add]
theorem OwT.slR {w : World} {base : Nat} {e : TypeId} {v : Value} {vs : List RV} (h : OwT fR w base e v vs) : ∃ a n c, v = .slice a n c ∧ n = vs.length ∧ n ≤ c := by
  obtain ⟨a, c, hv, hs⟩ := h.sl fR_len
  exact ⟨a, _, c, hv, rfl, hs.2.1⟩
end Go.Proofs.Ytpmijgeakmmieaa
