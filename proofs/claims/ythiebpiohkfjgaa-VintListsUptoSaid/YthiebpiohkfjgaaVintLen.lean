/- How many bits a number has; how many bytes: contracts of Len64 and Size. Condition: the number fits. Written by a program of this place (gen_VintLen.py). -/
import Derived.Test.YthiebpiohkfjgaaVintPut
namespace Go.Proofs.Ythiebpiohkfjgaa
open Go.RowKit

def blen (n : Nat) : Nat := if n = 0 then 0 else Nat.log2 n + 1
theorem blen_half {n : Nat} (h : 0 < n) : blen n = blen (n / 2) + 1 := by
  unfold blen
  rw [if_neg (by omega)]
  by_cases h2 : 2 ≤ n
  · rw [Nat.log2_def, if_pos h2, if_neg (by omega)]
  · have : n = 1 := by omega
    subst this; rfl
theorem blen_shift : ∀ (s n : Nat), 2 ^ s ≤ n → blen n = s + blen (n / 2 ^ s)
  | 0, n, _ => by rw [Nat.pow_zero, Nat.div_one]; omega
  | s + 1, n, h => by
    have h1 : 2 ^ s * 2 ≤ n := by rw [Nat.pow_succ] at h; exact h
    have h3 : 0 < 2 ^ s := Nat.two_pow_pos s
    have h2 : 0 < n / 2 ^ s := Nat.div_pos (by omega) h3
    have e : n / 2 ^ s / 2 = n / 2 ^ (s + 1) := by rw [Nat.div_div_eq_div_mul, Nat.pow_succ]
    rw [blen_shift s n (by omega), blen_half h2, e]; omega
theorem vb_blen : ∀ n : Nat, (vb n).length = max 1 ((blen n + 6) / 7) := by
  intro n
  induction n using Nat.strongRecOn with
  | _ n ih =>
    by_cases h : n < 128
    · rw [vb_lt h]
      have : ∀ k : Fin 128, 1 = max 1 ((blen k.val + 6) / 7) := by decide +kernel
      exact this ⟨n, h⟩
    · rw [vb_ge h, List.length_cons, ih (n / 128) (by omega)]
      have h1 := blen_shift 7 n (by omega)
      have h2 : n / 2 ^ 7 = n / 128 := rfl
      rw [h2] at h1
      have h3 := blen_half (n := n / 128) (by omega)
      omega
theorem tab_lem (X : ByteArray) (hX : X.size = 256) (hall : ∀ k : Fin 256, (X[k.val]'(by omega)).toNat = blen k.val) (i : Nat) (h : i < X.size) : (X[i]'h).toNat = blen i := hall ⟨i, by omega⟩
theorem blen8 {q : Nat} (h : q < 256) : blen q ≤ 8 := by
  have : ∀ k : Fin 256, blen k.val ≤ 8 := by decide +kernel
  exact this ⟨q, h⟩
theorem len_end (r : Nat) {n q : Nat} (h : q < 256) (hb : blen n = r + blen q) (hr : r ≤ 64 := by decide) : wrap64 ((r : Int) + wrap64 ((blen (q % 256) : Nat) : Int)) = ((blen n : Nat) : Int) := by
  have h8 := blen8 h
  have e1 : wrap64 ((blen q : Nat) : Int) = ((blen q : Nat) : Int) := IntWalk.wrap64_in _ (by omega)
  rw [Nat.mod_eq_of_lt h, e1, IntWalk.wrap64_in _ (by omega)]; omega
theorem len_end0 {n q : Nat} (h : q < 256) (hb : blen n = 0 + blen q) : wrap64 (wrap64 ((blen (q % 256) : Nat) : Int)) = ((blen n : Nat) : Int) := by
  have h8 := blen8 h
  have e1 : wrap64 ((blen q : Nat) : Int) = ((blen q : Nat) : Int) := IntWalk.wrap64_in _ (by omega)
  rw [Nat.mod_eq_of_lt h, e1, e1]; omega

set_option maxHeartbeats 1000000 in
set_option maxRecDepth 100000 in
theorem len64_any (n : Nat) (w : World) (hn : n < 18446744073709551616) :
    Calls Try.prog 33 #[.int .u64 n] w fun e w' => e = .returned (.int .i64 ((blen n : Nat) : Int)) ∧ w = w' := by
  by_cases c32 : 4294967296 ≤ n
  · have d32 : decide ((4294967296 : Int) ≤ (n : Int)) = true := decide_eq_true (by omega)
    have e32 : decide (4294967296 ≤ n) = true := decide_eq_true c32
    have s32 := blen_shift 32 (n) c32
    rw [show (2 : Nat) ^ 32 = 4294967296 from rfl] at s32
    by_cases c16 : 65536 ≤ n / 4294967296
    · have d16 : decide ((65536 : Int) ≤ (n : Int) / 4294967296) = true := decide_eq_true (by omega)
      have e16 : decide (65536 ≤ n / 4294967296) = true := decide_eq_true c16
      have s16 := blen_shift 16 (n / 4294967296) c16
      rw [show (2 : Nat) ^ 16 = 65536 from rfl] at s16
      by_cases c8 : 256 ≤ n / 4294967296 / 65536
      · have d8 : decide ((256 : Int) ≤ (n : Int) / 4294967296 / 65536) = true := decide_eq_true (by omega)
        have e8 : decide (256 ≤ n / 4294967296 / 65536) = true := decide_eq_true c8
        have s8 := blen_shift 8 (n / 4294967296 / 65536) c8
        rw [show (2 : Nat) ^ 8 = 256 from rfl] at s8
        have HQ := Lib.hid (show n / 4294967296 / 65536 / 256 < 256 by omega)
        have HB := Lib.hid (show blen n = 56 + blen (n / 4294967296 / 65536 / 256) by omega)
        clear hn c32 s32 c16 s16 c8 s8
        go_enter Try.func33, Try.ntmps33
        go_wp2_with fail
        go_ret
        refine ⟨ret_int ?_, rfl⟩
        rw [tab_lem]
        case hX => rfl
        case hall => decide +kernel
        exact len_end 56 HQ.out HB.out
      · have d8 : decide ((256 : Int) ≤ (n : Int) / 4294967296 / 65536) = false := decide_eq_false (by omega)
        have e8 : decide (256 ≤ n / 4294967296 / 65536) = false := decide_eq_false c8
        have HQ := Lib.hid (show n / 4294967296 / 65536 < 256 by omega)
        have HB := Lib.hid (show blen n = 48 + blen (n / 4294967296 / 65536) by omega)
        clear hn c32 s32 c16 s16 c8
        go_enter Try.func33, Try.ntmps33
        go_wp2_with fail
        go_ret
        refine ⟨ret_int ?_, rfl⟩
        rw [tab_lem]
        case hX => rfl
        case hall => decide +kernel
        exact len_end 48 HQ.out HB.out
    · have d16 : decide ((65536 : Int) ≤ (n : Int) / 4294967296) = false := decide_eq_false (by omega)
      have e16 : decide (65536 ≤ n / 4294967296) = false := decide_eq_false c16
      by_cases c8 : 256 ≤ n / 4294967296
      · have d8 : decide ((256 : Int) ≤ (n : Int) / 4294967296) = true := decide_eq_true (by omega)
        have e8 : decide (256 ≤ n / 4294967296) = true := decide_eq_true c8
        have s8 := blen_shift 8 (n / 4294967296) c8
        rw [show (2 : Nat) ^ 8 = 256 from rfl] at s8
        have HQ := Lib.hid (show n / 4294967296 / 256 < 256 by omega)
        have HB := Lib.hid (show blen n = 40 + blen (n / 4294967296 / 256) by omega)
        clear hn c32 s32 c16 c8 s8
        go_enter Try.func33, Try.ntmps33
        go_wp2_with fail
        go_ret
        refine ⟨ret_int ?_, rfl⟩
        rw [tab_lem]
        case hX => rfl
        case hall => decide +kernel
        exact len_end 40 HQ.out HB.out
      · have d8 : decide ((256 : Int) ≤ (n : Int) / 4294967296) = false := decide_eq_false (by omega)
        have e8 : decide (256 ≤ n / 4294967296) = false := decide_eq_false c8
        have HQ := Lib.hid (show n / 4294967296 < 256 by omega)
        have HB := Lib.hid (show blen n = 32 + blen (n / 4294967296) by omega)
        clear hn c32 s32 c16 c8
        go_enter Try.func33, Try.ntmps33
        go_wp2_with fail
        go_ret
        refine ⟨ret_int ?_, rfl⟩
        rw [tab_lem]
        case hX => rfl
        case hall => decide +kernel
        exact len_end 32 HQ.out HB.out
  · have d32 : decide ((4294967296 : Int) ≤ (n : Int)) = false := decide_eq_false (by omega)
    have e32 : decide (4294967296 ≤ n) = false := decide_eq_false c32
    by_cases c16 : 65536 ≤ n
    · have d16 : decide ((65536 : Int) ≤ (n : Int)) = true := decide_eq_true (by omega)
      have e16 : decide (65536 ≤ n) = true := decide_eq_true c16
      have s16 := blen_shift 16 (n) c16
      rw [show (2 : Nat) ^ 16 = 65536 from rfl] at s16
      by_cases c8 : 256 ≤ n / 65536
      · have d8 : decide ((256 : Int) ≤ (n : Int) / 65536) = true := decide_eq_true (by omega)
        have e8 : decide (256 ≤ n / 65536) = true := decide_eq_true c8
        have s8 := blen_shift 8 (n / 65536) c8
        rw [show (2 : Nat) ^ 8 = 256 from rfl] at s8
        have HQ := Lib.hid (show n / 65536 / 256 < 256 by omega)
        have HB := Lib.hid (show blen n = 24 + blen (n / 65536 / 256) by omega)
        clear hn c32 c16 s16 c8 s8
        go_enter Try.func33, Try.ntmps33
        go_wp2_with fail
        go_ret
        refine ⟨ret_int ?_, rfl⟩
        rw [tab_lem]
        case hX => rfl
        case hall => decide +kernel
        exact len_end 24 HQ.out HB.out
      · have d8 : decide ((256 : Int) ≤ (n : Int) / 65536) = false := decide_eq_false (by omega)
        have e8 : decide (256 ≤ n / 65536) = false := decide_eq_false c8
        have HQ := Lib.hid (show n / 65536 < 256 by omega)
        have HB := Lib.hid (show blen n = 16 + blen (n / 65536) by omega)
        clear hn c32 c16 s16 c8
        go_enter Try.func33, Try.ntmps33
        go_wp2_with fail
        go_ret
        refine ⟨ret_int ?_, rfl⟩
        rw [tab_lem]
        case hX => rfl
        case hall => decide +kernel
        exact len_end 16 HQ.out HB.out
    · have d16 : decide ((65536 : Int) ≤ (n : Int)) = false := decide_eq_false (by omega)
      have e16 : decide (65536 ≤ n) = false := decide_eq_false c16
      by_cases c8 : 256 ≤ n
      · have d8 : decide ((256 : Int) ≤ (n : Int)) = true := decide_eq_true (by omega)
        have e8 : decide (256 ≤ n) = true := decide_eq_true c8
        have s8 := blen_shift 8 (n) c8
        rw [show (2 : Nat) ^ 8 = 256 from rfl] at s8
        have HQ := Lib.hid (show n / 256 < 256 by omega)
        have HB := Lib.hid (show blen n = 8 + blen (n / 256) by omega)
        clear hn c32 c16 c8 s8
        go_enter Try.func33, Try.ntmps33
        go_wp2_with fail
        go_ret
        refine ⟨ret_int ?_, rfl⟩
        rw [tab_lem]
        case hX => rfl
        case hall => decide +kernel
        exact len_end 8 HQ.out HB.out
      · have d8 : decide ((256 : Int) ≤ (n : Int)) = false := decide_eq_false (by omega)
        have e8 : decide (256 ≤ n) = false := decide_eq_false c8
        have HQ := Lib.hid (show n < 256 by omega)
        have HB := Lib.hid (show blen n = 0 + blen (n) by omega)
        clear hn c32 c16 c8
        go_enter Try.func33, Try.ntmps33
        go_wp2_with fail
        go_ret
        refine ⟨ret_int ?_, rfl⟩
        rw [tab_lem]
        case hX => rfl
        case hall => decide +kernel
        exact len_end0 HQ.out HB.out

end Go.Proofs.Ythiebpiohkfjgaa
