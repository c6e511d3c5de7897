/- (without spoil) Rows of bytes of a call's own. No condition. -/
import Derived.Test.YthiebpiohkfjgaaRow
import Derived.Test.YthiebpiohkfjgaaHelpA
namespace Go.Proofs.Ythiebpiohkfjgaa
open Go.RowKit

abbrev fB (x : UInt8) : List Value := [Bf x]
theorem eltTB : EltT Try.prog 22 5 fB 1 1 := EltT.mk1 Try.underlying22 (z := .int .u8 0) (by kernel_rfl) 0 rfl (fun _ => rfl)
theorem fB_len (x : UInt8) : (fB x).length = 1 := rfl
theorem flat_fB (xs : List UInt8) : xs.flatMap fB = xs.map Bf := by induction xs <;> simp_all [fB]

theorem OwT.slB {w : World} {base : Nat} {e : TypeId} {v : Value} {xs : List UInt8} (h : OwT fB w base e v xs) : ∃ a c, v = .slice a xs.length c ∧ Sl Bf w a xs.length c xs := by
  obtain ⟨a, c, hv, hs⟩ := h.sl fB_len
  exact ⟨a, c, hv, hs.to1⟩
theorem OwT.slI {w : World} {base : Nat} {e : TypeId} {a : Option Addr} {n c : Nat} {xs : List UInt8} (h : OwT fB w base e (.slice a n c) xs) : Sl Bf w a n c xs := by
  obtain ⟨a', c', hv, hs⟩ := h.slB
  cases hv; exact hs
theorem own_map (a : Option Addr) (n c : Nat) : Value.ownBlock (.slice a n c) = a.map (·.block) := by cases a <;> rfl
theorem OwT.slN {w : World} {base : Nat} {e : TypeId} {v : Value} {xs : List UInt8} (h : OwT fB w base e v xs) : ∃ a n c, v = .slice a n c ∧ Sl Bf w a n c xs := by
  obtain ⟨a, c, hv, hs⟩ := h.slB
  exact ⟨a, _, c, hv, hs⟩
end Go.Proofs.Ythiebpiohkfjgaa
