/- Rows of bytes of a call's own. No condition. -/
import Derived.Test.YtpenbaafhbbmhaaRow
import Derived.Test.YtpenbaafhbbmhaaNum
import Derived.Test.YtpenbaafhbbmhaaRows
namespace Go.Proofs.Ytpenbaafhbbmhaa
open Go.RowKit

theorem eltB : Elt Try.prog 22 5 (.int .u8 0) 1 := ⟨Try.underlying22, by kernel_rfl, rfl⟩

theorem take_eq_snoc {α : Type} {xs ys : List α} {k : Nat} {x y : α} (hx : xs[k]? = some x) (hy : ys[k]? = some y) (h : xs.take k = ys.take k) :
    xs.take (k + 1) = ys.take (k + 1) ↔ x = y := by
  rw [List.take_add_one, List.take_add_one, hx, hy, h]; simp

theorem bf_one (l : List UInt8) : ∀ u ∈ l.map Bf, u.oneCell' = true := by
  intro u hu; obtain ⟨x, _, rfl⟩ := List.mem_map.1 hu; rfl

abbrev fB (x : UInt8) : List Value := [Bf x]
theorem eltTB : EltT Try.prog 22 5 fB 1 1 := EltT.mk1 Try.underlying22 (z := .int .u8 0) (by kernel_rfl) 0 rfl (fun _ => rfl)
theorem fB_len (x : UInt8) : (fB x).length = 1 := rfl
theorem flat_fB (xs : List UInt8) : xs.flatMap fB = xs.map Bf := by induction xs <;> simp_all [fB]

theorem OwT.slB {w : World} {base : Nat} {e : TypeId} {v : Value} {xs : List UInt8} (h : OwT fB w base e v xs) : ∃ a c, v = .slice a xs.length c ∧ Sl Bf w a xs.length c xs := by
  obtain ⟨a, c, hv, hs⟩ := h.sl fB_len
  exact ⟨a, c, hv, hs.to1⟩
theorem OwT.slI {w : World} {base : Nat} {e : TypeId} {a : Option Addr} {n c : Nat} {xs : List UInt8} (h : OwT fB w base e (.slice a n c) xs) : Sl Bf w a n c xs := by
  obtain ⟨a', c', hv, hs⟩ := h.slB
  cases hv; exact hs
theorem own_map (a : Option Addr) (n c : Nat) : Value.ownBlock (.slice a n c) = a.map (·.block) := by cases a <;> rfl
theorem OwT.slN {w : World} {base : Nat} {e : TypeId} {v : Value} {xs : List UInt8} (h : OwT fB w base e v xs) : ∃ a n c, v = .slice a n c ∧ Sl Bf w a n c xs := by
  obtain ⟨a, c, hv, hs⟩ := h.slB
  exact ⟨a, _, c, hv, hs⟩
theorem OwT.capB {w : World} {base : Nat} {e : TypeId} {a : Option Addr} {n c : Nat} {xs : List UInt8} (h : OwT fB w base e (.slice a n c) xs) : n = xs.length ∧ n ≤ c ∧ c ≤ 9223372036854775807 := by
  rcases h with ⟨hv, rfl⟩ | ⟨g, cap, ys, hv, hg, hh, hl, hn, hc, ht⟩
  · cases hv; simp
  · cases hv; unfold maxLen at hc; exact ⟨rfl, hn, hc⟩
theorem other_row {a a' : Option Addr} {n c n' c' l1 h1 l2 h2 : Nat} (hs : ∀ j, Value.ownBlock (.slice a n c) = some j → l1 ≤ j ∧ j < h1) (ht : ∀ j, Value.ownBlock (.slice a' n' c') = some j → l2 ≤ j ∧ j < h2) (h : h1 ≤ l2) :
    Value.ownBlock (.slice a' n' c') = none ∨ a.map (·.block) ≠ Value.ownBlock (.slice a' n' c') := by
  rw [← own_map a n c]
  cases hx : Value.ownBlock (.slice a' n' c') with
  | none => exact .inl rfl
  | some j => exact .inr fun e => by have := hs j e; have := ht j hx; omega
theorem other_row' {a a' : Option Addr} {n c n' c' l1 h1 l2 h2 : Nat} (hs : ∀ j, Value.ownBlock (.slice a n c) = some j → l1 ≤ j ∧ j < h1) (ht : ∀ j, Value.ownBlock (.slice a' n' c') = some j → l2 ≤ j ∧ j < h2) (h : h2 ≤ l1) :
    Value.ownBlock (.slice a' n' c') = none ∨ a.map (·.block) ≠ Value.ownBlock (.slice a' n' c') := by
  rw [← own_map a n c]
  cases hx : Value.ownBlock (.slice a' n' c') with
  | none => exact .inl rfl
  | some j => exact .inr fun e => by have := hs j e; have := ht j hx; omega
end Go.Proofs.Ytpenbaafhbbmhaa
