/- A sealed text's register; what one turned bit does to it. Plain words, no program. No condition. -/
import Derived.Test.YtaablclccklhnaaCrcLin
namespace Go.Proofs.Ytaablclccklhnaa

/-- the byte of a register from bit k on -/
def by8 (s : BitVec 32) (k : Nat) : UInt8 := UInt8.ofNat (s >>> k).toNat
def four (s : BitVec 32) : List UInt8 := [by8 s 0, by8 s 8, by8 s 16, by8 s 24]

/-- bytes as a number, the lowest first -/
def leN : List UInt8 → Nat
  | [] => 0
  | c :: t => c.toNat + 256 * leN t
theorem leN_lt : ∀ l : List UInt8, leN l < 256 ^ l.length
  | [] => by simp [leN]
  | c :: t => by
    have := leN_lt t
    have hc := c.toNat_lt
    simp only [leN, List.length_cons, Nat.pow_succ]
    omega

theorem stp_dbl (y : Nat) (h : 2 * y < 4294967296) : stp (BitVec.ofNat 32 (2 * y)) = BitVec.ofNat 32 y := by
  have e : stp (BitVec.ofNat 32 (2 * y)) = (BitVec.ofNat 32 (2 * y)) >>> 1 := by
    apply stp_even
    unfold U; rw [BitVec.toNat_ofNat]; omega
  rw [e]
  apply BitVec.eq_of_toNat_eq
  rw [BitVec.toNat_ushiftRight, BitVec.toNat_ofNat, BitVec.toNat_ofNat, Nat.shiftRight_eq_div_pow]
  omega
theorem stpN_dbl : ∀ (k y : Nat), 2 ^ k * y < 4294967296 → stpN k (BitVec.ofNat 32 (2 ^ k * y)) = BitVec.ofNat 32 y
  | 0, y, _ => by simp [stpN]
  | k + 1, y, h => by
    have e : stpN (k + 1) (BitVec.ofNat 32 (2 ^ (k + 1) * y)) = stpN k (stp (BitVec.ofNat 32 (2 ^ (k + 1) * y))) := by rw [stpN_add k 1]; rfl
    have h2 : 2 ^ (k + 1) * y = 2 * (2 ^ k * y) := by rw [Nat.pow_succ]; rw [Nat.mul_comm (2 ^ k) 2, Nat.mul_assoc]
    rw [e, h2, stp_dbl _ (by omega), stpN_dbl k y (by omega)]

theorem split_byte (c : UInt8) (m : Nat) : BitVec.ofNat 32 (c.toNat + 256 * m) = ext c ^^^ BitVec.ofNat 32 (256 * m) := by
  apply BitVec.eq_of_getLsbD_eq
  intro i hi
  have hc : c.toNat < 2 ^ 8 := by have := c.toNat_lt; omega
  unfold ext
  rw [BitVec.getLsbD_xor, BitVec.getLsbD_ofNat, BitVec.getLsbD_ofNat, BitVec.getLsbD_ofNat]
  have e1 : c.toNat + 256 * m = 2 ^ 8 * m + c.toNat := by omega
  have e2 : 256 * m = 2 ^ 8 * m := rfl
  rw [e1, e2, Nat.testBit_two_pow_mul_add m hc i, Nat.testBit_two_pow_mul]
  by_cases h8 : i < 8
  · have h9 : ¬ (8 ≤ i) := by omega
    simp [h8, hi, h9]
  · have : c.toNat.testBit i = false := Nat.testBit_lt_two_pow (Nat.lt_of_lt_of_le hc (Nat.pow_le_pow_right (by omega) (by omega)))
    have h9 : 8 ≤ i := by omega
    simp [h8, hi, this, h9]

theorem inn_le : ∀ (l : List UInt8) (r : BitVec 32), l.length ≤ 4 → inn r l = stpN (8 * l.length) (r ^^^ BitVec.ofNat 32 (leN l))
  | [], r, _ => by simp [inn, leN, stpN]
  | c :: t, r, h => by
    simp only [List.length_cons] at h
    have ih := inn_le t (inc r c) (by omega)
    have hlt := leN_lt t
    have hp : 256 ^ t.length ≤ 256 ^ 3 := Nat.pow_le_pow_right (by omega) (by omega)
    have h8 := stpN_dbl 8 (leN t) (by omega)
    have e0 : inn r (c :: t) = inn (inc r c) t := rfl
    rw [e0, ih, leN, split_byte, List.length_cons, Nat.mul_succ, stpN_add]
    congr 1
    have h8' : stpN 8 (BitVec.ofNat 32 (256 * leN t)) = BitVec.ofNat 32 (leN t) := h8
    rw [← BitVec.xor_assoc, stpN_xor, h8']
    rfl

theorem leN_four (s : BitVec 32) : leN (four s) = s.toNat := by
  have := s.isLt
  simp only [four, leN, by8, UInt8.toNat_ofNat', BitVec.toNat_ushiftRight, Nat.shiftRight_eq_div_pow]
  omega
theorem leN_inj : ∀ (l l' : List UInt8), l.length = l'.length → leN l = leN l' → l = l'
  | [], [], _, _ => rfl
  | c :: t, c' :: t', h, e => by
    simp only [leN] at e
    have h1 := c.toNat_lt; have h2 := c'.toNat_lt
    have e1 : c = c' := UInt8.toNat_inj.1 (by omega)
    have e2 := leN_inj t t' (by simpa using h) (by omega)
    rw [e1, e2]
  | [], _ :: _, h, _ => by simp at h
  | _ :: _, [], h, _ => by simp at h
theorem four_eq (s : BitVec 32) (d : List UInt8) (hd : d.length = 4) : four s = d ↔ BitVec.ofNat 32 (leN d) = s := by
  have hlt := leN_lt d
  rw [hd] at hlt
  constructor
  · rintro rfl; rw [leN_four]; simp
  · intro h
    apply leN_inj _ _ (by rw [hd]; rfl)
    rw [leN_four, ← h, BitVec.toNat_ofNat]; omega

abbrev ones : BitVec 32 := 0xffffffff#32
theorem inn_append (s : BitVec 32) (l l' : List UInt8) : inn s (l ++ l') = inn (inn s l) l' := by unfold inn; rw [List.foldl_append]

/-- what is sealed rightly has one and the same register -/
theorem seal_iff (l : List UInt8) (m : Nat) (h : l.length = m + 4) : four (sum (l.take m)) = l.drop m ↔ inn ones l = stpN 32 ones := by
  have hd : (l.drop m).length = 4 := by simp; omega
  rw [four_eq _ _ hd]
  have e : inn ones l = stpN 32 (inn ones (l.take m) ^^^ BitVec.ofNat 32 (leN (l.drop m))) := by
    conv => lhs; rw [← List.take_append_drop m l]
    rw [inn_append, inn_le _ _ (by omega), hd]
  rw [e]
  have hs : sum (l.take m) = ~~~ inn ones (l.take m) := rfl
  rw [hs]
  constructor
  · intro h; rw [h]; congr 1
    have := BitVec.allOnes_xor (x := inn ones (l.take m))
    rw [← this]
    show inn ones (l.take m) ^^^ (ones ^^^ inn ones (l.take m)) = ones
    generalize inn ones (l.take m) = r
    have : r ^^^ (ones ^^^ r) = ones ^^^ (r ^^^ r) := by ac_rfl
    rw [this]; simp
  · intro h
    have h := stpN_inj 32 h
    have := BitVec.allOnes_xor (x := inn ones (l.take m))
    rw [← this]
    have h2 : ∀ r q : BitVec 32, r ^^^ q = ones → q = ones ^^^ r := by
      intro r q e
      rw [← e]
      have : r ^^^ q ^^^ r = (r ^^^ r) ^^^ q := by ac_rfl
      rw [this]; simp
    exact h2 _ _ h

def bit8 (k : Nat) : UInt8 := UInt8.ofNat (2 ^ k)
theorem ext_bit8 (k : Nat) (h : k < 8) : ext (bit8 k) = 1#32 <<< k := by
  have : ∀ k : Fin 8, ext (bit8 k.val) = 1#32 <<< k.val := by decide +kernel
  exact this ⟨k, h⟩

/-- a bit turned -/
def flip : List UInt8 → Nat → List UInt8
  | [], _ => []
  | c :: t, j => if j < 8 then (c ^^^ bit8 j) :: t else c :: flip t (j - 8)
theorem flip_set : ∀ (l : List UInt8) (j : Nat) (x : UInt8), l[j / 8]? = some x → flip l j = l.set (j / 8) (x ^^^ bit8 (j % 8))
  | [], j, x, h => by simp at h
  | c :: t, j, x, h => by
    unfold flip
    by_cases hj : j < 8
    · have h0 : j / 8 = 0 := by omega
      rw [if_pos hj, h0]
      rw [h0] at h
      simp at h; subst h
      rw [Nat.mod_eq_of_lt hj]; rfl
    · have h1 : j / 8 = (j - 8) / 8 + 1 := by omega
      have h2 : j % 8 = (j - 8) % 8 := by omega
      rw [h1] at h
      rw [if_neg hj, h1, h2, flip_set t (j - 8) x (by simpa using h)]; rfl
theorem flip_length : ∀ (l : List UInt8) (j : Nat), (flip l j).length = l.length
  | [], _ => rfl
  | c :: t, j => by
    unfold flip
    split
    · rfl
    · simp [flip_length t]

theorem inn_flip : ∀ (l : List UInt8) (j : Nat) (s : BitVec 32), j < 8 * l.length → inn s (flip l j) = inn s l ^^^ stpN (8 * l.length - j) 1#32
  | [], j, s, h => by simp at h
  | c :: t, j, s, h => by
    simp only [List.length_cons] at h
    unfold flip
    by_cases hj : j < 8
    · rw [if_pos hj]
      have e : inn s ((c ^^^ bit8 j) :: t) = inn (inc s c ^^^ stpN 8 (1#32 <<< j)) t := by
        show inn (inc s (c ^^^ bit8 j)) t = _
        congr 1
        simp only [inc, ext_xor, ← stpN_xor, ext_bit8 j hj]
        congr 1
        ac_rfl
      rw [e, inn_xor, ← stpN_add]
      rw [stpN_down _ j (by omega) (by simp; omega)]
      rfl
    · rw [if_neg hj]
      have e : inn s (c :: flip t (j - 8)) = inn (inc s c) (flip t (j - 8)) := rfl
      rw [e, inn_flip t (j - 8) _ (by omega)]
      show _ = inn (inc s c) t ^^^ _
      congr 2
      simp; omega

/-- the bits of a word up to the i-th, of those below k -/
def wbits (bits : BitVec 32) (k : Nat) : Nat → BitVec 32
  | 0 => 0#32
  | i + 1 => if i < k ∧ bits.getLsbD i = true then wbits bits k i ^^^ (1#32 <<< i) else wbits bits k i
theorem wbits_high (bits : BitVec 32) (k : Nat) : ∀ (i j : Nat), i ≤ j → j < 32 → (wbits bits k i).getLsbD j = false
  | 0, j, _, _ => by simp [wbits]
  | i + 1, j, h, hj => by
    have ih := wbits_high bits k i j (by omega) hj
    unfold wbits
    split
    · rw [BitVec.getLsbD_xor, ih, BitVec.getLsbD_shiftLeft, BitVec.getLsbD_one]
      have : ¬ (j - i = 0) := by omega
      simp [this]
    · exact ih
theorem wbits_ne (bits : BitVec 32) (k i : Nat) (hi : i < 32) : wbits bits k i ^^^ (1#32 <<< i) ≠ 0#32 := by
  intro h
  have := congrArg (fun b : BitVec 32 => b.getLsbD i) h
  simp only [BitVec.getLsbD_xor] at this
  rw [wbits_high bits k i i (Nat.le_refl _) hi, BitVec.getLsbD_shiftLeft, BitVec.getLsbD_one] at this
  simp [hi] at this
end Go.Proofs.Ytaablclccklhnaa
