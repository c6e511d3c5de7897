/- Tables of a linear map, and products of registers: plain words, no program. No condition. -/
import Derived.Test.YtaablclccklhnaaCrcLin
namespace Go.Proofs.Ytaablclccklhnaa

/-- the bits of a register below k -/
def lowb (s : BitVec 32) : Nat → BitVec 32
  | 0 => 0#32
  | k + 1 => lowb s k ^^^ (if s.getLsbD k then 1#32 <<< k else 0#32)
theorem one_bit (k j : Nat) (hj : j < 32) : (1#32 <<< k).getLsbD j = decide (j = k) := by
  rw [BitVec.getLsbD_shiftLeft, BitVec.getLsbD_one]
  by_cases h : j = k
  · subst h; simp [hj]
  · by_cases hlt : j < k
    · simp [h, hlt]
    · have : ¬ (j - k = 0) := by omega
      simp [h, this]
theorem lowb_bit (s : BitVec 32) : ∀ (k j : Nat), j < 32 → (lowb s k).getLsbD j = (decide (j < k) && s.getLsbD j)
  | 0, j, _ => by simp [lowb]
  | k + 1, j, hj => by
    unfold lowb
    rw [BitVec.getLsbD_xor, lowb_bit s k j hj]
    by_cases hjk : j = k
    · subst hjk
      cases h : s.getLsbD j
      · simp
      · simp [one_bit j j hj]
    · have e : (if s.getLsbD k then 1#32 <<< k else 0#32 : BitVec 32).getLsbD j = false := by
        cases s.getLsbD k
        · simp
        · simp [one_bit k j hj, hjk]
      rw [e]
      have : decide (j < k + 1) = decide (j < k) := by
        by_cases h1 : j < k
        · simp [h1]; omega
        · have : ¬ (j < k + 1) := by omega
          simp [h1, this]
      rw [this]; simp
theorem lowb_all (s : BitVec 32) : lowb s 32 = s := by
  apply BitVec.eq_of_getLsbD_eq
  intro j hj
  rw [lowb_bit s 32 j hj]; simp [hj]

theorem mask_bit (x s : BitVec 32) (k : Nat) : x &&& -(s >>> k &&& 1#32) = if s.getLsbD k then x else 0#32 := by
  have e : s >>> k &&& 1#32 = if s.getLsbD k then 1#32 else 0#32 := by
    apply BitVec.eq_of_toNat_eq
    rw [BitVec.toNat_and, BitVec.toNat_ushiftRight, Nat.shiftRight_eq_div_pow]
    show s.toNat / 2 ^ k &&& 1 = _
    rw [Nat.and_one_is_mod, BitVec.getLsbD, Nat.testBit_eq_decide_div_mod_eq]
    rcases Nat.mod_two_eq_zero_or_one (s.toNat / 2 ^ k) with h | h <;> simp [h]
  rw [e]
  cases s.getLsbD k
  · simp
  · have : -(1#32) = BitVec.allOnes 32 := by decide
    rw [if_pos rfl, if_pos rfl, this, BitVec.and_allOnes]

/-- what a table does to a register, up to bit k -/
def ofN (t : Nat → BitVec 32) (s : BitVec 32) : Nat → BitVec 32
  | 0 => 0#32
  | k + 1 => ofN t s k ^^^ (t k &&& -(s >>> k &&& 1#32))
def tab (m i : Nat) : BitVec 32 := stpN m (1#32 <<< i)
theorem ofN_tab (m : Nat) (s : BitVec 32) : ∀ k, ofN (tab m) s k = stpN m (lowb s k)
  | 0 => by simp [ofN, lowb, stpN_zero]
  | k + 1 => by
    unfold ofN lowb
    rw [ofN_tab m s k, mask_bit, stpN_xor]
    congr 1
    cases s.getLsbD k
    · simp [stpN_zero]
    · simp [tab]
theorem of_tab (m : Nat) (s : BitVec 32) : ofN (tab m) s 32 = stpN m s := by rw [ofN_tab, lowb_all]
theorem ofN_congr (t t' : Nat → BitVec 32) (s : BitVec 32) : ∀ k, (∀ i, i < k → t i = t' i) → ofN t s k = ofN t' s k
  | 0, _ => rfl
  | k + 1, h => by unfold ofN; rw [ofN_congr t t' s k (fun i hi => h i (by omega)), h k (by omega)]

/-- the bits from k on -/
def highb (s : BitVec 32) (k : Nat) : BitVec 32 := (s >>> k) <<< k
theorem highb_bit (s : BitVec 32) (k j : Nat) (hj : j < 32) : (highb s k).getLsbD j = (decide (k ≤ j) && s.getLsbD j) := by
  unfold highb
  rw [BitVec.getLsbD_shiftLeft, BitVec.getLsbD_ushiftRight]
  by_cases h : k ≤ j
  · have : ¬ j < k := by omega
    simp [h, this, hj]
  · have : j < k := by omega
    simp [h, this]
theorem highb_step (s : BitVec 32) (k : Nat) (_hk : k < 32) : highb s k = highb s (k + 1) ^^^ (if s.getLsbD k then 1#32 <<< k else 0#32) := by
  apply BitVec.eq_of_getLsbD_eq
  intro j hj
  rw [BitVec.getLsbD_xor, highb_bit s k j hj, highb_bit s (k + 1) j hj]
  by_cases hjk : j = k
  · subst hjk
    have : ¬ (j + 1 ≤ j) := by omega
    cases h : s.getLsbD j
    · simp
    · simp [one_bit j j hj]
  · have e : (if s.getLsbD k then 1#32 <<< k else 0#32 : BitVec 32).getLsbD j = false := by
      cases s.getLsbD k
      · simp
      · simp [one_bit k j hj, hjk]
    rw [e]
    have : decide (k + 1 ≤ j) = decide (k ≤ j) := by
      by_cases h1 : k ≤ j
      · have : k + 1 ≤ j := by omega
        simp [h1, this]
      · have : ¬ (k + 1 ≤ j) := by omega
        simp [h1, this]
    rw [this]; simp
theorem highb_all (s : BitVec 32) : highb s 0 = s := by
  apply BitVec.eq_of_getLsbD_eq
  intro j hj
  rw [highb_bit s 0 j hj]; simp
theorem highb_none (s : BitVec 32) : highb s 32 = 0#32 := by
  apply BitVec.eq_of_getLsbD_eq
  intro j hj
  rw [highb_bit s 32 j hj]
  have : ¬ (32 ≤ j) := by omega
  simp [this]

abbrev topb : BitVec 32 := 0x80000000#32
theorem topb_down (k : Nat) (h : k < 32) : stpN (31 - k) topb = 1#32 <<< k := by
  have : ∀ k : Fin 32, stpN (31 - k.val) topb = 1#32 <<< k.val := by decide +kernel
  exact this ⟨k, h⟩
theorem topb_eight : stpN 8 topb = 0x800000#32 := by decide +kernel

/-- what the second factor has become when the bits from j on are through -/
def tbv (m j : Nat) : BitVec 32 := stpN (32 - j) (stpN m topb)
theorem tbv_start (m : Nat) : tbv m 32 = stpN m topb := rfl
theorem tbv_stp (m k : Nat) (h : k < 32) : stp (tbv m (k + 1)) = tbv m k := by
  unfold tbv
  rw [show 32 - k = (32 - (k + 1)) + 1 from by omega]; rfl
theorem tbv_eq (m k : Nat) (h : k < 32) : tbv m (k + 1) = stpN m (1#32 <<< k) := by
  unfold tbv
  rw [← topb_down k h, ← stpN_add, ← stpN_add]
  congr 1; omega
theorem times_step (m k : Nat) (s : BitVec 32) (h : k < 32) : (if s.getLsbD k then stpN m (highb s (k + 1)) ^^^ tbv m (k + 1) else stpN m (highb s (k + 1))) = stpN m (highb s k) := by
  rw [highb_step s k h, tbv_eq m k h, stpN_xor]
  cases s.getLsbD k
  · simp [stpN_zero]
  · simp

/-- the sum of two texts together -/
def joinS (a b : BitVec 32) (n : Nat) : BitVec 32 := stpN (8 * n) a ^^^ b

theorem half_odd (m q : Nat) (s : BitVec 32) (h : q % 2 = 1) : stpN ((m + m) * (q / 2)) (stpN m s) = stpN (m * q) s := by
  rw [← stpN_add]
  congr 1
  have : q = 2 * (q / 2) + 1 := by omega
  generalize q / 2 = r at *
  subst this
  rw [Nat.mul_add, Nat.mul_one, Nat.add_mul, ← Nat.mul_assoc, Nat.mul_comm m 2, Nat.two_mul, Nat.add_mul]
theorem half_even (m q : Nat) (s : BitVec 32) (h : q % 2 = 0) : stpN ((m + m) * (q / 2)) s = stpN (m * q) s := by
  congr 1
  have : q = 2 * (q / 2) := by omega
  generalize q / 2 = r at *
  subst this
  rw [Nat.add_mul, ← Nat.mul_assoc, Nat.mul_comm m 2, Nat.two_mul, Nat.add_mul]

theorem sum_join (xs ys : List UInt8) : joinS (sum xs) (sum ys) ys.length = sum (xs ++ ys) := by
  have hn : ∀ s : BitVec 32, ~~~s = 0xffffffff#32 ^^^ s := fun s => (BitVec.allOnes_xor (x := s)).symm
  have e1 : inn 0xffffffff#32 (xs ++ ys) = inn (inn 0xffffffff#32 xs) ys := by unfold inn; rw [List.foldl_append]
  have e2 := inn_xor ys 0xffffffff#32 (0xffffffff#32 ^^^ inn 0xffffffff#32 xs)
  have e3 : (0xffffffff#32 : BitVec 32) ^^^ (0xffffffff#32 ^^^ inn 0xffffffff#32 xs) = inn 0xffffffff#32 xs := by rw [← BitVec.xor_assoc]; simp
  rw [e3] at e2
  unfold joinS sum
  rw [e1, e2, hn, hn, hn]
  ac_rfl
end Go.Proofs.Ytaablclccklhnaa
