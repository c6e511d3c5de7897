/- Four bytes at a place, steps back: plain words, no program. No condition. -/
import Derived.Test.YtaablclccklhnaaCrcJoinM
import Derived.Test.YtaablclccklhnaaCrcBurstM
namespace Go.Proofs.Ytaablclccklhnaa

theorem stp_bck (s : BitVec 32) : stp (bck s) = s := by
  rw [stp_mask]
  unfold bck
  by_cases h : s.getLsbD 31 = true
  · rw [if_pos h]
    have h0 : (((s ^^^ 0xedb88320#32) <<< 1) ||| 1#32).getLsbD 0 = true := by
      rw [BitVec.getLsbD_or, BitVec.getLsbD_shiftLeft, BitVec.getLsbD_one]; simp
    rw [if_pos h0]
    apply BitVec.eq_of_getLsbD_eq
    intro i hi
    rw [BitVec.getLsbD_xor, BitVec.getLsbD_ushiftRight]
    by_cases h31 : i = 31
    · subst h31
      rw [BitVec.getLsbD_of_ge _ (1 + 31) (by omega), h]; decide
    · rw [BitVec.getLsbD_or, BitVec.getLsbD_shiftLeft, BitVec.getLsbD_one, BitVec.getLsbD_xor]
      have e1 : decide (1 + i < 32) = true := by simp; omega
      have e2 : decide (1 + i < 1) = false := by simp
      have e3 : decide (1 + i = 0) = false := by simp
      rw [show 1 + i - 1 = i by omega]
      simp [e1, hi]
  · rw [if_neg h]
    have h0 : (s <<< 1).getLsbD 0 = false := by rw [BitVec.getLsbD_shiftLeft]; simp
    have h0' : ¬ ((s <<< 1).getLsbD 0 = true) := by rw [h0]; decide
    rw [if_neg h0', BitVec.xor_zero]
    apply BitVec.eq_of_getLsbD_eq
    intro i hi
    rw [BitVec.getLsbD_ushiftRight]
    by_cases h31 : i = 31
    · subst h31
      rw [BitVec.getLsbD_of_ge _ (1 + 31) (by omega)]
      simpa using h
    · rw [BitVec.getLsbD_shiftLeft]
      have h2 : 1 + i < 32 := by omega
      have h3 : ¬ (1 + i < 1) := by omega
      simp [h2, h3]

def bckN : Nat → BitVec 32 → BitVec 32
  | 0, s => s
  | n + 1, s => bck (bckN n s)
theorem stpN_succ (n : Nat) (s : BitVec 32) : stpN (n + 1) s = stpN n (stp s) := by
  have := stpN_add n 1 s
  rw [this]; rfl
theorem stpN_bckN : ∀ (n : Nat) (s : BitVec 32), stpN n (bckN n s) = s
  | 0, _ => rfl
  | n + 1, s => by
    rw [stpN_succ]
    show stpN n (stp (bck (bckN n s))) = s
    rw [stp_bck, stpN_bckN n s]

/-- where the patch goes on: the register that, let on, comes to the wanted one -/
def pinv (xs : List UInt8) (m : Nat) (want : BitVec 32) (j : Nat) (s : BitVec 32) : Prop := inn (stpN (8 * (m + 4 - j)) s) (xs.drop (max j (m + 4))) = ~~~want
theorem pinv_start (xs : List UInt8) (m : Nat) (want : BitVec 32) (h : m + 4 ≤ xs.length) : pinv xs m want xs.length (~~~want) := by
  unfold pinv
  rw [show m + 4 - xs.length = 0 by omega, show max xs.length (m + 4) = xs.length by omega, List.drop_length]; rfl
theorem pinv_text (xs : List UInt8) (m : Nat) (want : BitVec 32) (j : Nat) (s : BitVec 32) (x : UInt8) (hx : xs[j]? = some x) (hj : m + 4 ≤ j) (h : pinv xs m want (j + 1) s) : pinv xs m want j (bckN 8 s ^^^ ext x) := by
  unfold pinv at h ⊢
  rw [show m + 4 - (j + 1) = 0 by omega, show max (j + 1) (m + 4) = j + 1 by omega] at h
  rw [show m + 4 - j = 0 by omega, show max j (m + 4) = j by omega]
  have hj2 : j < xs.length := (List.getElem?_eq_some_iff.1 hx).1
  have hg : xs[j] = x := (List.getElem?_eq_some_iff.1 hx).2
  rw [List.drop_eq_getElem_cons hj2, hg]
  show inn (inc (bckN 8 s ^^^ ext x) x) _ = _
  have : inc (bckN 8 s ^^^ ext x) x = s := by
    unfold inc
    rw [BitVec.xor_assoc, BitVec.xor_self, BitVec.xor_zero, stpN_bckN]
  rw [this]; exact h
theorem pinv_gap (xs : List UInt8) (m : Nat) (want : BitVec 32) (j : Nat) (s : BitVec 32) (hj : j < m + 4) (h : pinv xs m want (j + 1) s) : pinv xs m want j (bckN 8 s) := by
  unfold pinv at h ⊢
  rw [show max (j + 1) (m + 4) = m + 4 by omega] at h
  rw [show max j (m + 4) = m + 4 by omega, show 8 * (m + 4 - j) = 8 * (m + 4 - (j + 1)) + 8 by omega, stpN_add, stpN_bckN]
  exact h

/-- four bytes of a number at a place -/
def put4 (xs : List UInt8) (m : Nat) (q : BitVec 32) : List UInt8 := xs.take m ++ four q ++ xs.drop (m + 4)
theorem put4_length (xs : List UInt8) (m : Nat) (q : BitVec 32) (h : m + 4 ≤ xs.length) : (put4 xs m q).length = xs.length := by
  have : (four q).length = 4 := rfl
  unfold put4
  rw [List.length_append, List.length_append, List.length_take, List.length_drop, this]; omega
theorem inn_put4 (s : BitVec 32) (xs : List UInt8) (m : Nat) (q : BitVec 32) : inn s (put4 xs m q) = inn (stpN 32 (inn s (xs.take m) ^^^ q)) (xs.drop (m + 4)) := by
  unfold put4
  rw [inn_append, inn_append, inn_le (four q) _ (Nat.le_refl 4), leN_four]
  simp
  rfl
theorem inn_inj (l : List UInt8) {a b : BitVec 32} (h : inn a l = inn b l) : a = b := by
  have e := inn_xor l a (a ^^^ b)
  rw [← BitVec.xor_assoc, BitVec.xor_self, BitVec.zero_xor, ← h] at e
  have : stpN (8 * l.length) (a ^^^ b) = 0#32 := by
    have h2 : inn a l ^^^ inn a l = inn a l ^^^ (inn a l ^^^ stpN (8 * l.length) (a ^^^ b)) := congrArg (inn a l ^^^ ·) e
    rw [← BitVec.xor_assoc, BitVec.xor_self, BitVec.zero_xor] at h2
    exact h2.symm
  have h3 := stpN_eq_zero _ this
  have h4 : a ^^^ (a ^^^ b) = a := by rw [h3, BitVec.xor_zero]
  rw [← BitVec.xor_assoc, BitVec.xor_self, BitVec.zero_xor] at h4
  exact h4.symm
theorem put4_inj (xs : List UInt8) (m : Nat) {q r : BitVec 32} (h : sum (put4 xs m q) = sum (put4 xs m r)) : q = r := by
  unfold sum at h
  have h := congrArg (fun x => ~~~x) h
  simp only [BitVec.not_not] at h
  rw [inn_put4, inn_put4] at h
  have h := stpN_inj 32 (inn_inj _ h)
  have h2 := congrArg (fun x => inn 0xffffffff#32 (xs.take m) ^^^ x) h
  rw [← BitVec.xor_assoc, BitVec.xor_self, BitVec.zero_xor, ← BitVec.xor_assoc, BitVec.xor_self, BitVec.zero_xor] at h2
  exact h2
theorem pinv_end (xs : List UInt8) (m : Nat) (want s : BitVec 32) (h : pinv xs m want m s) : sum (put4 xs m (s ^^^ inn 0xffffffff#32 (xs.take m))) = want := by
  unfold pinv at h
  rw [show m + 4 - m = 4 by omega, show max m (m + 4) = m + 4 by omega] at h
  unfold sum
  rw [inn_put4]
  have e : ∀ r : BitVec 32, r ^^^ (s ^^^ r) = s := by
    intro r
    have : r ^^^ (s ^^^ r) = s ^^^ (r ^^^ r) := by ac_rfl
    rw [this]; simp
  rw [e]
  have h : inn (stpN 32 s) (xs.drop (m + 4)) = ~~~want := h
  rw [h]; simp
end Go.Proofs.Ytaablclccklhnaa
