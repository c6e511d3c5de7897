/- The bytes of a number: plain words, no program. No condition. -/
import Derived.Test.YteedjgjkldbbcaaVintM
namespace Go.Proofs.Yteedjgjkldbbcaa

/-- a byte behind which the number goes on -/
def hi8 (n : Nat) : UInt8 := UInt8.ofNat (n % 128 + 128)
def lo8 (n : Nat) : UInt8 := UInt8.ofNat n
def vb (n : Nat) : List UInt8 := if h : n < 128 then [lo8 n] else hi8 n :: vb (n / 128)
termination_by n
decreasing_by omega
theorem vb_lt {n : Nat} (h : n < 128) : vb n = [lo8 n] := by rw [vb, dif_pos h]
theorem vb_ge {n : Nat} (h : ¬ n < 128) : vb n = hi8 n :: vb (n / 128) := by rw [vb, dif_neg h]
theorem vb_pos (n : Nat) : 0 < (vb n).length := by
  by_cases h : n < 128
  · rw [vb_lt h]; simp
  · rw [vb_ge h]; simp
theorem u8_of {n : Nat} (h : n < 256) : (UInt8.ofNat n).toNat = n := by rw [UInt8.toNat_ofNat']; omega
theorem vb_len : ∀ (n : Nat), ∀ m, m ≤ n → (vb m).length ≤ (vb n).length := by
  intro n
  induction n using Nat.strongRecOn with
  | _ n ih =>
    intro m hm
    by_cases h : m < 128
    · rw [vb_lt h]; exact vb_pos n
    · rw [vb_ge h, vb_ge (by omega : ¬ n < 128)]
      have := ih (n / 128) (by omega) (m / 128) (Nat.div_le_div_right hm)
      simp only [List.length_cons]; omega
theorem rd_vb : ∀ (m : Nat), ∀ (k v : Nat) (rest : List UInt8), k ≤ 9 → m * 128 ^ k < 18446744073709551616 → (k = 0 ∨ 0 < m) → rd (vb m ++ rest) k v = (v + m * 128 ^ k, k + (vb m).length, 0) := by
  intro m
  have e9 : (128 : Nat) ^ 9 = 9223372036854775808 := by decide
  induction m using Nat.strongRecOn with
  | _ m ih =>
    intro k v rest hk hm hz
    by_cases h : m < 128
    · rw [vb_lt h]
      have hu := u8_of (n := m) (by omega)
      show rd (UInt8.ofNat m :: rest) k v = _
      rw [rd_last (by rw [hu]; intro ⟨e, e2⟩; subst e; omega) (by rw [hu]; omega) (by rw [hu]; exact h), hu, Nat.mod_eq_of_lt h]; rfl
    · rw [vb_ge h]
      have hu := u8_of (n := m % 128 + 128) (by omega)
      have hk9 : k ≠ 9 := by intro e; subst e; omega
      show rd (UInt8.ofNat (m % 128 + 128) :: (vb (m / 128) ++ rest)) k v = _
      rw [rd_go (by omega) (by rw [hu]; omega) (by rw [hu]; omega), hu]
      have e1 : (m % 128 + 128) % 128 = m % 128 := by omega
      have e2 : m % 128 * 128 ^ k + m / 128 * 128 ^ (k + 1) = m * 128 ^ k := by
        rw [Nat.pow_succ, Nat.mul_comm (128 ^ k), ← Nat.mul_assoc, ← Nat.add_mul]
        congr 1; omega
      have e3 : m / 128 * 128 ^ (k + 1) < 18446744073709551616 := by omega
      rw [ih (m / 128) (by omega) (k + 1) _ rest (by omega) e3 (.inr (by omega)), e1, List.length_cons]
      congr 1
      · omega
      · congr 1; omega
theorem vb_inj {m n : Nat} (hm : m < 18446744073709551616) (hn : n < 18446744073709551616) (h : vb m = (vb n).take (vb m).length) : m = n := by
  have h1 := rd_vb m 0 0 ((vb n).drop (vb m).length) (by omega) (by omega) (.inl rfl)
  have h2 := rd_vb n 0 0 [] (by omega) (by omega) (.inl rfl)
  have e : vb m ++ (vb n).drop (vb m).length = vb n := by
    conv => lhs; lhs; rw [h]
    exact List.take_append_drop _ _
  rw [e] at h1
  rw [List.append_nil, h1] at h2
  injection h2 with h3 _
  omega
theorem vb_short : ∀ (k n : Nat), n < 128 ^ (k + 1) → (vb n).length ≤ k + 1
  | 0, n, h => by
    have e : (128 : Nat) ^ (0 + 1) = 128 := by decide
    rw [vb_lt (by omega)]; simp
  | k + 1, n, h => by
    by_cases h2 : n < 128
    · rw [vb_lt h2]; simp
    · rw [vb_ge h2, List.length_cons]
      have := vb_short k (n / 128) (by rw [Nat.pow_succ] at h; omega)
      omega
theorem vb_ten {n : Nat} (h : n < 18446744073709551616) : (vb n).length ≤ 10 := vb_short 9 n (by
  have e : (128 : Nat) ^ (9 + 1) = 1180591620717411303424 := by decide
  omega)
theorem or128 (n : Nat) : bits .or .u8 ((n : Int) % 256) 128 = B (hi8 n) := by
  have : ∀ k : Fin 256, bits .or .u8 ((k.val : Nat) : Int) 128 = ((k.val % 128 + 128 : Nat) : Int) := by decide +kernel
  have h := this ⟨n % 256, by omega⟩
  have e : ((n : Int) % 256) = ((n % 256 : Nat) : Int) := by omega
  rw [e, h]
  unfold B hi8
  rw [u8_of (by omega)]
  show ((n % 256 % 128 + 128 : Nat) : Int) = _
  omega
theorem low8 {n : Nat} (h : n < 128) : (n : Int) = B (lo8 n) := by
  unfold B lo8; rw [u8_of (by omega)]
theorem cell8 {n : Nat} (h : n < 128) : (#[Value.int .u8 (n : Int)] : Array Value).toList = [lo8 n].map Bf := by
  show [Value.int .u8 (n : Int)] = [Bf (lo8 n)]
  rw [low8 h]
end Go.Proofs.Yteedjgjkldbbcaa
