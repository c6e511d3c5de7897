/- Words on 32-bit registers and bytes as the walk's numbers. No condition. -/
import Derived.Test.YtpenbaafhbbmhaaMem
namespace Go.Proofs.Ytpenbaafhbbmhaa
open Go.RowKit

/-- a register as the walk's number -/
def U (s : BitVec 32) : Int := (s.toNat : Int)
/-- a byte as the walk's number -/
def B (c : UInt8) : Int := (c.toNat : Int)
def ext (c : UInt8) : BitVec 32 := BitVec.ofNat 32 c.toNat
abbrev Bf (c : UInt8) : Value := .int .u8 (B c)

theorem U_lo (s : BitVec 32) : 0 ≤ U s := by unfold U; omega
theorem U_hi (s : BitVec 32) : U s < 4294967296 := by unfold U; have := s.isLt; omega
theorem B_lo (c : UInt8) : 0 ≤ B c := by unfold B; omega
theorem B_hi (c : UInt8) : B c < 256 := by unfold B; have := c.toNat_lt; omega
theorem U_inj {a b : BitVec 32} (h : U a = U b) : a = b := by unfold U at h; exact BitVec.eq_of_toNat_eq (by omega)
theorem U_beq (a b : BitVec 32) : (U a == U b) = (a == b) := by
  by_cases h : a = b
  · subst h; simp
  · have : U a ≠ U b := fun e => h (U_inj e)
    rw [beq_eq_false_iff_ne.2 this, beq_eq_false_iff_ne.2 h]
theorem B_inj {a b : UInt8} (h : B a = B b) : a = b := by unfold B at h; exact UInt8.toNat_inj.1 (by omega)
theorem U_of {x : Int} (h0 : 0 ≤ x) (h1 : x < 4294967296) : ∃ s, x = U s := ⟨BitVec.ofNat 32 x.toNat, by unfold U; rw [BitVec.toNat_ofNat]; omega⟩
theorem B_of {x : Int} (h0 : 0 ≤ x) (h1 : x < 256) : ∃ c, x = B c := ⟨UInt8.ofNat x.toNat, by unfold B; rw [UInt8.toNat_ofNat']; omega⟩

theorem ofInt_U (s : BitVec 32) : BitVec.ofInt 32 (U s) = s := by
  unfold U; rw [BitVec.ofInt_natCast]; simp
theorem wrap_U (s : BitVec 32) : IntKind.u32.wrap (U s) = U s := by
  rw [IntKind.wrap_u32']; have := U_lo s; have := U_hi s; omega
theorem U_xor (a b : BitVec 32) : bits .xor .u32 (U a) (U b) = U (a ^^^ b) := by
  show IntKind.u32.wrap ((BitVec.ofInt 32 (U a) ^^^ BitVec.ofInt 32 (U b)).toNat : Int) = _
  rw [ofInt_U, ofInt_U]; exact wrap_U _
theorem U_and (a b : BitVec 32) : bits .and .u32 (U a) (U b) = U (a &&& b) := by
  show IntKind.u32.wrap ((BitVec.ofInt 32 (U a) &&& BitVec.ofInt 32 (U b)).toNat : Int) = _
  rw [ofInt_U, ofInt_U]; exact wrap_U _
theorem U_or (a b : BitVec 32) : bits .or .u32 (U a) (U b) = U (a ||| b) := by
  show IntKind.u32.wrap ((BitVec.ofInt 32 (U a) ||| BitVec.ofInt 32 (U b)).toNat : Int) = _
  rw [ofInt_U, ofInt_U]; exact wrap_U _
theorem U_and1 (a : BitVec 32) : bits .and .u32 (U a) 1 = U (a &&& 1#32) := U_and a 1#32
theorem U_or1 (a : BitVec 32) : bits .or .u32 (U a) 1 = U (a ||| 1#32) := U_or a 1#32
theorem U_poly (a : BitVec 32) : bits .and .u32 3988292384 (U a) = U (0xedb88320#32 &&& a) := U_and 0xedb88320#32 a
theorem U_xpoly (a : BitVec 32) : bits .xor .u32 (U a) 3988292384 = U (a ^^^ 0xedb88320#32) := U_xor a 0xedb88320#32
theorem U_neg (a : BitVec 32) : -U a % (4294967296 : Int) = U (-a) := by
  unfold U; rw [BitVec.toNat_neg]; have := a.isLt; omega
theorem U_half (a : BitVec 32) : U a / (2 : Int) = U (a >>> 1) := by
  unfold U; rw [BitVec.toNat_ushiftRight, Nat.shiftRight_eq_div_pow]; omega
theorem U_not (a : BitVec 32) : (4294967295 : Int) - U a = U (~~~a) := by
  unfold U; rw [BitVec.toNat_not]; have := a.isLt; omega
theorem U_not' (a : BitVec 32) : ((4294967295 : Int) - U a) % (4294967296 : Int) = U (~~~a) := by
  rw [U_not]; have := U_lo (~~~a); have := U_hi (~~~a); omega
theorem U_mod (a : BitVec 32) : U a % (4294967296 : Int) = U a := by have := U_lo a; have := U_hi a; omega
theorem B_u32 (c : UInt8) : B c % (4294967296 : Int) = U (ext c) := by
  unfold U B ext; rw [BitVec.toNat_ofNat]; omega
theorem U_add (a b : BitVec 32) : (U a + U b) % (4294967296 : Int) = U (a + b) := by
  unfold U; rw [BitVec.toNat_add]; omega

theorem B_xor (x y : UInt8) : bits .xor .u8 (B x) (B y) = B (x ^^^ y) := by
  have hx := x.toNat_lt; have hy := y.toNat_lt
  unfold B
  rw [u8_xor_nat _ _ (by omega) (by omega), UInt8.toNat_xor]
theorem U_shr (a : BitVec 32) (k : Nat) : U a / (2 : Int) ^ k = U (a >>> k) := by
  unfold U
  rw [BitVec.toNat_ushiftRight, Nat.shiftRight_eq_div_pow, Int.natCast_ediv, Int.natCast_pow]; rfl
theorem U_bit (a : BitVec 32) (k : Nat) : (U (a >>> k &&& 1#32) == 1) = a.getLsbD k := by
  have e : (a >>> k &&& 1#32).toNat = (a.getLsbD k).toNat := by
    rw [BitVec.toNat_and, BitVec.toNat_ushiftRight, Nat.shiftRight_eq_div_pow]
    show a.toNat / 2 ^ k &&& 1 = _
    rw [Nat.and_one_is_mod, BitVec.getLsbD, Nat.testBit_eq_decide_div_mod_eq]
    rcases Nat.mod_two_eq_zero_or_one (a.toNat / 2 ^ k) with h | h <;> simp [h]
  unfold U
  rw [e]
  cases a.getLsbD k <;> rfl
theorem U_xmax (a : BitVec 32) : bits .xor .u32 IntKind.u32.max (U a) = U (~~~a) := by
  have := U_xor 0xffffffff#32 a
  have e : U 0xffffffff#32 = IntKind.u32.max := rfl
  rw [e] at this; rw [this]; congr 1
theorem U_tq (a : BitVec 32) : (U a).tdiv (2 : Int) % (4294967296 : Int) = U (a >>> 1) := by
  have := U_half a; have h0 := U_lo a; have h1 := U_lo (a >>> 1); have h2 := U_hi (a >>> 1)
  rw [Int.tdiv_eq_ediv_of_nonneg h0]; omega

end Go.Proofs.Ytpenbaafhbbmhaa
