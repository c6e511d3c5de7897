/- What the register's steps do: one-to-one, linear; bits of a text; the four bytes of a sum. Plain words, no program. No condition. -/
import Derived.Test.YtaablclccklhnaaCrcDef
namespace Go.Proofs.Ytaablclccklhnaa

/-- the register ahead of a step -/
def bck (s : BitVec 32) : BitVec 32 := if s.getLsbD 31 then ((s ^^^ 0xedb88320#32) <<< 1) ||| 1#32 else s <<< 1

theorem stp_mask (s : BitVec 32) : stp s = (s >>> 1) ^^^ (if s.getLsbD 0 then 0xedb88320#32 else 0#32) := by
  have hm : 0xedb88320#32 &&& -(s &&& 1#32) = if s.getLsbD 0 then 0xedb88320#32 else 0#32 := by
    have e : s &&& 1#32 = if s.getLsbD 0 then 1#32 else 0#32 := by
      apply BitVec.eq_of_getLsbD_eq
      intro i hi
      rw [BitVec.getLsbD_and]
      by_cases h0 : i = 0
      · subst h0; cases s.getLsbD 0 <;> simp
      · have : (1#32 : BitVec 32).getLsbD i = false := by
          rw [BitVec.getLsbD_one]; simp [h0]
        rw [this]; cases s.getLsbD 0 <;> simp [this]
    rw [e]
    cases s.getLsbD 0
    · simp
    · decide
  unfold stp
  rw [hm]

theorem bck_stp (s : BitVec 32) : bck (stp s) = s := by
  rw [stp_mask]
  unfold bck
  by_cases h : s.getLsbD 0 = true
  · rw [if_pos h]
    have h31 : ((s >>> 1) ^^^ 0xedb88320#32).getLsbD 31 = true := by
      rw [BitVec.getLsbD_xor, BitVec.getLsbD_ushiftRight]
      have : s.getLsbD (1 + 31) = false := BitVec.getLsbD_of_ge _ _ (by omega)
      rw [this]; decide
    rw [if_pos h31, BitVec.xor_assoc, BitVec.xor_self, BitVec.xor_zero]
    apply BitVec.eq_of_getLsbD_eq
    intro i hi
    rw [BitVec.getLsbD_or, BitVec.getLsbD_shiftLeft, BitVec.getLsbD_ushiftRight, BitVec.getLsbD_one]
    by_cases h0 : i = 0
    · subst h0; simp [h]
    · simp [h0, hi, show 1 + (i - 1) = i by omega]
  · have h' : s.getLsbD 0 = false := by simpa using h
    rw [if_neg h, BitVec.xor_zero]
    have h31 : (s >>> 1).getLsbD 31 = false := by
      rw [BitVec.getLsbD_ushiftRight]
      exact BitVec.getLsbD_of_ge _ _ (by omega)
    have h31' : ¬ ((s >>> 1).getLsbD 31 = true) := by rw [h31]; decide
    rw [if_neg h31']
    apply BitVec.eq_of_getLsbD_eq
    intro i hi
    rw [BitVec.getLsbD_shiftLeft, BitVec.getLsbD_ushiftRight]
    by_cases h0 : i = 0
    · subst h0; simpa using h'
    · simp [hi, show 1 + (i - 1) = i by omega]; omega

theorem stp_inj {a b : BitVec 32} (h : stp a = stp b) : a = b := by rw [← bck_stp a, h, bck_stp]
theorem stpN_inj (n : Nat) {a b : BitVec 32} (h : stpN n a = stpN n b) : a = b := by
  induction n with
  | zero => exact h
  | succ n ih => exact ih (stp_inj h)
theorem stpN_eq_zero (n : Nat) {a : BitVec 32} (h : stpN n a = 0#32) : a = 0#32 := stpN_inj n (by rw [h, stpN_zero])

theorem inn_xor : ∀ (l : List UInt8) (a b : BitVec 32), inn (a ^^^ b) l = inn a l ^^^ stpN (8 * l.length) b
  | [], a, b => rfl
  | c :: l, a, b => by
    have ih := inn_xor l (inc a c) (stpN 8 b)
    simp only [inn, List.foldl_cons] at ih ⊢
    have e : inc (a ^^^ b) c = inc a c ^^^ stpN 8 b := by
      simp only [inc, ← stpN_xor]
      congr 1
      ac_rfl
    rw [e, ih, ← stpN_add]
    congr 2

/-- a one that goes down -/
theorem stpN_one (i : Nat) (hi : i < 32) : stpN i (1#32 <<< i) = 1#32 := by
  have : ∀ i : Fin 32, stpN i.val (1#32 <<< i.val) = 1#32 := by decide +kernel
  exact this ⟨i, hi⟩

theorem stpN_down (m i : Nat) (hi : i < 32) (hm : i ≤ m) : stpN (m - i) 1#32 = stpN m (1#32 <<< i) := by
  have : stpN m (1#32 <<< i) = stpN (m - i) (stpN i (1#32 <<< i)) := by rw [← stpN_add]; congr 1; omega
  rw [this, stpN_one i hi]
end Go.Proofs.Ytaablclccklhnaa
