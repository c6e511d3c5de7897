/- How two texts compare: the contract of the library's function. Conditions: the slices read as lists of bytes. -/
import Derived.Test.YteedjgjkldbbcaaPairM
import Derived.Test.YteedjgjkldbbcaaHelp
import Derived.Lib.BytesEntry
namespace Go.Proofs.Yteedjgjkldbbcaa
open Go.RowKit

theorem cmp_bytes : ∀ xs ys : List UInt8, Lib.compareBytes xs ys = cmp xs ys
  | [], [] => rfl
  | [], _ :: _ => rfl
  | _ :: _, [] => rfl
  | a :: l, b :: r => by
    unfold Lib.compareBytes cmp
    by_cases h : a = b
    · subst h
      have h0 : ¬ a < a := fun e => Nat.lt_irrefl _ (UInt8.lt_iff_toNat_lt.1 e)
      rw [if_neg h0, if_neg h0, if_pos rfl]; exact cmp_bytes l r
    · have hn := u8_ne h
      rw [if_neg h]
      by_cases h1 : a.toNat < b.toNat
      · rw [if_pos (UInt8.lt_iff_toNat_lt.2 h1), if_pos h1]
      · rw [if_neg (fun e => h1 (UInt8.lt_iff_toNat_lt.1 e)), if_neg h1, if_pos (UInt8.lt_iff_toNat_lt.2 (by omega))]
theorem bytesOf_B (xs : List UInt8) : Lib.bytesOf (xs.map B) = xs := by
  unfold Lib.bytesOf
  rw [List.map_map]
  conv => rhs; rw [← List.map_id xs]
  apply List.map_congr_left
  intro x _
  show (B x).toNat.toUInt8 = x
  unfold B
  simp
theorem run_bytesOf {P : Program} {w : World} {a : Option Addr} {n c : Nat} {xs : List UInt8} (h : Sl Bf w a n c xs) : (Extern.Bytes.bytesOf (.slice a n c)).run P w = .ok ⟨xs.toArray⟩ w := by
  obtain rfl : n = xs.length := h.len.symm
  cases a with
  | none =>
    have h0 : c = 0 := h.2.2.1 rfl
    have h1 := h.le
    have : xs = [] := List.length_eq_zero_iff.1 (by omega)
    subst this
    rfl
  | some p =>
    have hl := Lib.run_loadBytesX (P := P) w (xs.map B) p .empty (fun j x hj => by
      rw [List.getElem?_map] at hj
      cases hx : xs[j]? with
      | none => rw [hx] at hj; cases hj
      | some y =>
        rw [hx] at hj; cases hj
        obtain ⟨b, o, e, hc⟩ := h.2.2.2 j y hx
        cases e
        have e2 : (⟨b, o, none⟩ : Addr).add j = ⟨b, o + j, none⟩ := by unfold Addr.add; split <;> simp_all
        rw [e2]; exact hc)
    rw [List.length_map, bytesOf_B] at hl
    have he : (⟨ByteArray.empty.data ++ xs.toArray⟩ : ByteArray) = ⟨xs.toArray⟩ := by
      apply ByteArray.ext
      show (#[] : Array UInt8) ++ xs.toArray = xs.toArray
      simp
    rw [he] at hl
    exact hl
theorem run_compare {P : Program} {w : World} {a : Option Addr} {n c : Nat} {xs : List UInt8} {a' : Option Addr} {n' c' : Nat} {ys : List UInt8} (h : Sl Bf w a n c xs) (h' : Sl Bf w a' n' c' ys) :
    (Extern.BytealgCompare.compare #[.slice a n c, .slice a' n' c']).run P w = .ok (.int .i64 (cmp xs ys)) w := by
  change Sem.run P (do pure (goInt (Extern.BytealgCompare.cmp (← Extern.Bytes.bytesOf (.slice a n c)) (← Extern.Bytes.bytesOf (.slice a' n' c'))))) w = _
  simp only [Sem.run_bind, Sem.run_pure, run_bytesOf h, run_bytesOf h', Result.andThen]
  rw [Lib.cmp_eq]
  show Result.ok (goInt (Lib.compareBytes xs ys)) w = _
  rw [cmp_bytes]
  rfl
theorem call_compare {w : World} {a : Option Addr} {n c : Nat} {xs : List UInt8} {a' : Option Addr} {n' c' : Nat} {ys : List UInt8} (h : Sl Bf w a n c xs) (h' : Sl Bf w a' n' c' ys) :
    (callFunc 67 #[.slice a n c, .slice a' n' c']).run Try.prog w = .ok (.value (.int .i64 (cmp xs ys))) w := by
  rw [run_callFunc_extern Try.func67 (by kernel_rfl) (by kernel_rfl) (by kernel_rfl) (e := Extern.BytealgCompare.compare) (by kernel_rfl), run_compare h h']
  rfl

theorem bcompare_any (a : Option Addr) (n c : Nat) (xs : List UInt8) (a' : Option Addr) (n' c' : Nat) (ys : List UInt8) (w : World) (h : Sl Bf w a n c xs) (h' : Sl Bf w a' n' c' ys) :
    Calls Try.prog 43 #[.slice a n c, .slice a' n' c'] w fun e w' => e = .returned (.int .i64 (cmp xs ys)) ∧ w = w' := by
  have hx := call_compare h h'
  go_enter Try.func43, Try.ntmps43
  go_wp2
  go_ret
  exact ⟨rfl, rfl⟩
end Go.Proofs.Yteedjgjkldbbcaa
