/- Numbers in sevens of bits: plain words, no program. No condition. -/
import Derived.Test.YtpenbaafhbbmhaaNum
namespace Go.Proofs.Ytpenbaafhbbmhaa

/-- what is read of bytes, k bytes having been read, that are v: the number, how many bytes, the error -/
def rd : List UInt8 → Nat → Nat → Nat × Nat × Int
  | [], k, _ => (0, k, 11)
  | c :: r, k, v => if k = 9 ∧ 1 < c.toNat then (0, k, 12) else if 0 < k ∧ c.toNat = 0 then (0, k, 13)
      else if c.toNat < 128 then (v + c.toNat % 128 * 128 ^ k, k + 1, 0) else rd r (k + 1) (v + c.toNat % 128 * 128 ^ k)

theorem rd_nil (k v : Nat) : rd [] k v = (0, k, 11) := rfl
theorem rd_long {c : UInt8} {r : List UInt8} {k v : Nat} (h : k = 9 ∧ 1 < c.toNat) : rd (c :: r) k v = (0, k, 12) := by unfold rd; rw [if_pos h]
theorem rd_form {c : UInt8} {r : List UInt8} {k v : Nat} (h : 0 < k ∧ c.toNat = 0) : rd (c :: r) k v = (0, k, 13) := by unfold rd; rw [if_neg (by omega), if_pos h]
theorem rd_last {c : UInt8} {r : List UInt8} {k v : Nat} (h1 : ¬ (k = 9 ∧ 1 < c.toNat)) (h2 : ¬ (0 < k ∧ c.toNat = 0)) (h3 : c.toNat < 128) : rd (c :: r) k v = (v + c.toNat % 128 * 128 ^ k, k + 1, 0) := by
  unfold rd; rw [if_neg h1, if_neg h2, if_pos h3]
theorem rd_go {c : UInt8} {r : List UInt8} {k v : Nat} (h1 : ¬ (k = 9 ∧ 1 < c.toNat)) (h2 : ¬ (0 < k ∧ c.toNat = 0)) (h3 : ¬ c.toNat < 128) : rd (c :: r) k v = rd r (k + 1) (v + c.toNat % 128 * 128 ^ k) := by
  conv => lhs; unfold rd
  rw [if_neg h1, if_neg h2, if_neg h3]
theorem pow128 (k : Nat) : 128 ^ k = 2 ^ (7 * k) := by rw [Nat.pow_mul]
/-- the number stays within its places -/
theorem go_small {c : UInt8} {k v : Nat} (hv : v < 128 ^ k) : v + c.toNat % 128 * 128 ^ k < 128 ^ (k + 1) := by
  have : c.toNat % 128 < 128 := Nat.mod_lt _ (by decide)
  rw [Nat.pow_succ]
  have h2 : c.toNat % 128 * 128 ^ k ≤ 127 * 128 ^ k := Nat.mul_le_mul_right _ (by omega)
  generalize 128 ^ k = z at *
  omega
theorem or_add {v d i : Nat} (h : v < 2 ^ i) : v ||| d * 2 ^ i = v + d * 2 ^ i := by
  have := Nat.two_pow_add_eq_or_of_lt h d
  rw [Nat.or_comm, Nat.mul_comm d, ← this]; omega

/-- of the bytes' sevens, the first the least -/
def sev : List UInt8 → Nat
  | [] => 0
  | c :: r => c.toNat % 128 + 128 * sev r
theorem rd_sev : ∀ (l : List UInt8) (k v : Nat), (rd l k v).2.2 = 0 → ∃ j, (rd l k v).2.1 = k + j ∧ j ≤ l.length ∧ (rd l k v).1 = v + 128 ^ k * sev (l.take j)
  | [], k, v, h => by simp [rd] at h
  | c :: r, k, v, h => by
    by_cases h1 : k = 9 ∧ 1 < c.toNat
    · rw [rd_long h1] at h; cases h
    by_cases h2 : 0 < k ∧ c.toNat = 0
    · rw [rd_form h2] at h; cases h
    by_cases h3 : c.toNat < 128
    · rw [rd_last h1 h2 h3]
      refine ⟨1, rfl, by simp, ?_⟩
      show _ = v + 128 ^ k * (c.toNat % 128 + 128 * sev (r.take 0))
      rw [List.take_zero]
      show _ = v + 128 ^ k * (c.toNat % 128 + 128 * 0)
      rw [Nat.mul_zero, Nat.add_zero, Nat.mul_comm (128 ^ k)]
      rfl
    · rw [rd_go h1 h2 h3] at h ⊢
      obtain ⟨j, e1, e2, e3⟩ := rd_sev r (k + 1) _ h
      refine ⟨j + 1, by rw [e1]; omega, by simp; omega, ?_⟩
      rw [e3]
      show _ = v + 128 ^ k * (c.toNat % 128 + 128 * sev (r.take j))
      rw [Nat.pow_succ, Nat.mul_add, Nat.mul_comm (c.toNat % 128), Nat.mul_assoc, Nat.add_assoc]
theorem sev_drop : ∀ (l : List UInt8) (j : Nat), sev (l.drop j) ≤ sev l
  | [], j => by simp
  | c :: r, 0 => by simp
  | c :: r, j + 1 => by
    have := sev_drop r j
    show sev (r.drop j) ≤ c.toNat % 128 + 128 * sev r
    omega
theorem rd_small : ∀ (l : List UInt8) (k v : Nat), k ≤ 9 → v < 128 ^ k → (rd l k v).1 < 18446744073709551616
  | [], k, v, _, _ => by show 0 < _; decide
  | c :: r, k, v, hk, hv => by
    by_cases h1 : k = 9 ∧ 1 < c.toNat
    · rw [rd_long h1]; show 0 < _; decide
    by_cases h2 : 0 < k ∧ c.toNat = 0
    · rw [rd_form h2]; show 0 < _; decide
    by_cases h3 : c.toNat < 128
    · rw [rd_last h1 h2 h3]
      show v + c.toNat % 128 * 128 ^ k < _
      by_cases h9 : k = 9
      · subst h9
        have e9 : (128 : Nat) ^ 9 = 9223372036854775808 := by decide
        rw [e9] at hv ⊢
        have : c.toNat % 128 ≤ 1 := by omega
        have h4 : c.toNat % 128 * 9223372036854775808 ≤ 1 * 9223372036854775808 := Nat.mul_le_mul_right _ this
        omega
      · have h5 := go_small (c := c) hv
        have h6 : 128 ^ (k + 1) ≤ 128 ^ 9 := Nat.pow_le_pow_right (by decide) (by omega)
        have e9 : (128 : Nat) ^ 9 = 9223372036854775808 := by decide
        omega
    · rw [rd_go h1 h2 h3]
      exact rd_small r (k + 1) _ (by omega) (go_small hv)
theorem rd_in {l : List UInt8} {v k : Nat} (h : rd l 0 0 = (v, k, 0)) : k ≤ l.length ∧ v < 18446744073709551616 := by
  have h0 : (rd l 0 0).2.2 = 0 := by rw [h]
  obtain ⟨j, e1, e2, _⟩ := rd_sev l 0 0 h0
  have h2 := rd_small l 0 0 (by omega) (by decide)
  rw [h] at e1 h2
  exact ⟨by simp at e1; omega, h2⟩
end Go.Proofs.Ytpenbaafhbbmhaa
