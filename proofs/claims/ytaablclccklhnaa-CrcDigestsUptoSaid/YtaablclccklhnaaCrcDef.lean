/- The register of the sum, and what it is made of: plain words, no program. No condition. -/
import Derived.Test.YtaablclccklhnaaNum
namespace Go.Proofs.Ytaablclccklhnaa

/-- one step of the register -/
def stp (s : BitVec 32) : BitVec 32 := (s >>> 1) ^^^ (0xedb88320#32 &&& -(s &&& 1#32))

theorem stp_even (s : BitVec 32) (h : U s % 2 = 0) : stp s = s >>> 1 := by
  have e : s &&& 1#32 = 0#32 := by
    apply BitVec.eq_of_toNat_eq
    rw [BitVec.toNat_and]
    show s.toNat &&& 1 = 0
    rw [Nat.and_one_is_mod]; unfold U at h; omega
  unfold stp; rw [e]; simp
theorem stp_odd (s : BitVec 32) (h : U s % 2 = 1) : stp s = (s >>> 1) ^^^ 0xedb88320#32 := by
  have e : s &&& 1#32 = 1#32 := by
    apply BitVec.eq_of_toNat_eq
    rw [BitVec.toNat_and]
    show s.toNat &&& 1 = 1
    rw [Nat.and_one_is_mod]; unfold U at h; omega
  unfold stp; rw [e]; congr 1

def stpN : Nat → BitVec 32 → BitVec 32
  | 0, s => s
  | n + 1, s => stp (stpN n s)
def inc (s : BitVec 32) (c : UInt8) : BitVec 32 := stpN 8 (s ^^^ ext c)
def inn (s : BitVec 32) (bs : List UInt8) : BitVec 32 := bs.foldl inc s
/-- the sum of bytes behind the sum s -/
def more (s : BitVec 32) (bs : List UInt8) : BitVec 32 := ~~~ inn (~~~s) bs
def sum (bs : List UInt8) : BitVec 32 := ~~~ inn 0xffffffff#32 bs

theorem take_snoc {α : Type} {bs : List α} {k : Nat} {x : α} (h : bs[k]? = some x) : bs.take (k + 1) = bs.take k ++ [x] := by
  rw [List.take_add_one, h]; rfl
theorem inn_snoc (s : BitVec 32) (bs : List UInt8) (x : UInt8) : inn s (bs ++ [x]) = inc (inn s bs) x := by
  unfold inn; rw [List.foldl_append]; rfl


theorem more_sum (xs ys : List UInt8) : more (sum xs) ys = sum (xs ++ ys) := by
  unfold more sum inn; rw [BitVec.not_not, List.foldl_append]

/-! ### a step is linear -/
theorem stp_xor (a b : BitVec 32) : stp (a ^^^ b) = stp a ^^^ stp b := by
  have hm : ∀ s : BitVec 32, 0xedb88320#32 &&& -(s &&& 1#32) = if s.getLsbD 0 then 0xedb88320#32 else 0#32 := by
    intro s
    have e : s &&& 1#32 = if s.getLsbD 0 then 1#32 else 0#32 := by
      apply BitVec.eq_of_getLsbD_eq
      intro i hi
      rw [BitVec.getLsbD_and]
      by_cases h0 : i = 0
      · subst h0; cases s.getLsbD 0 <;> simp
      · have : (1#32 : BitVec 32).getLsbD i = false := by
          rw [BitVec.getLsbD_one]; simp [h0]
        rw [this]; cases s.getLsbD 0 <;> simp [this]
    rw [e]
    cases s.getLsbD 0
    · simp
    · decide
  unfold stp
  rw [hm, hm, hm, BitVec.ushiftRight_xor_distrib, BitVec.getLsbD_xor]
  generalize (0xedb88320#32 : BitVec 32) = p
  generalize a >>> 1 = x
  generalize b >>> 1 = y
  cases a.getLsbD 0 <;> cases b.getLsbD 0
  · simp
  · simp; ac_rfl
  · simp; ac_rfl
  · have : x ^^^ p ^^^ (y ^^^ p) = (x ^^^ y) ^^^ (p ^^^ p) := by ac_rfl
    simp [this]

theorem stp_zero : stp 0#32 = 0#32 := by decide
theorem stpN_xor (n : Nat) (a b : BitVec 32) : stpN n (a ^^^ b) = stpN n a ^^^ stpN n b := by
  induction n with
  | zero => rfl
  | succ n ih => simp only [stpN, ih, stp_xor]
theorem stpN_zero (n : Nat) : stpN n 0#32 = 0#32 := by
  induction n with
  | zero => rfl
  | succ n ih => simp only [stpN, ih, stp_zero]
theorem stpN_add (m n : Nat) (s : BitVec 32) : stpN (m + n) s = stpN m (stpN n s) := by
  induction m with
  | zero => simp [stpN]
  | succ m ih => rw [Nat.succ_add]; simp only [stpN, ih]
theorem ext_xor (x y : UInt8) : ext (x ^^^ y) = ext x ^^^ ext y := by
  apply BitVec.eq_of_toNat_eq
  have hx := x.toNat_lt; have hy := y.toNat_lt
  have hxy : x.toNat ^^^ y.toNat < 2 ^ 8 := Nat.xor_lt_two_pow (by omega) (by omega)
  simp only [ext, BitVec.toNat_xor, BitVec.toNat_ofNat, UInt8.toNat_xor]
  rw [Nat.mod_eq_of_lt (by omega), Nat.mod_eq_of_lt (by omega), Nat.mod_eq_of_lt (by omega)]

/-- three texts, byte by byte -/
def xor3 : List UInt8 → List UInt8 → List UInt8 → List UInt8
  | x :: xs, y :: ys, z :: zs => (x ^^^ y ^^^ z) :: xor3 xs ys zs
  | _, _, _ => []

theorem xor3_get : ∀ (xs ys zs : List UInt8) (k : Nat) (x y z : UInt8), xs[k]? = some x → ys[k]? = some y → zs[k]? = some z → (xor3 xs ys zs)[k]? = some (x ^^^ y ^^^ z)
  | a :: xs, b :: ys, c :: zs, 0, x, y, z, hx, hy, hz => by simp at hx hy hz; subst hx hy hz; rfl
  | a :: xs, b :: ys, c :: zs, k + 1, x, y, z, hx, hy, hz => by
    simp only [List.getElem?_cons_succ] at hx hy hz
    simp only [xor3, List.getElem?_cons_succ]
    exact xor3_get xs ys zs k x y z hx hy hz
  | [], _, _, _, _, _, _, hx, _, _ => by simp at hx
  | _ :: _, [], _, _, _, _, _, _, hy, _ => by simp at hy
  | _ :: _, _ :: _, [], _, _, _, _, _, _, hz => by simp at hz
theorem xor3_length : ∀ (xs ys zs : List UInt8), (xor3 xs ys zs).length = min (min xs.length ys.length) zs.length
  | a :: xs, b :: ys, c :: zs => by simp [xor3, xor3_length xs ys zs]
  | [], _, _ => by simp [xor3]
  | _ :: _, [], _ => by simp [xor3]
  | _ :: _, _ :: _, [] => by simp [xor3]
theorem xor3_take : ∀ (xs ys zs : List UInt8) (n : Nat), xor3 (xs.take n) (ys.take n) (zs.take n) = (xor3 xs ys zs).take n
  | a :: xs, b :: ys, c :: zs, 0 => by simp [xor3]
  | a :: xs, b :: ys, c :: zs, n + 1 => by simp [xor3, xor3_take xs ys zs n]
  | [], _, _, n => by simp [xor3]
  | _ :: _, [], _, n => by cases n <;> simp [xor3]
  | _ :: _, _ :: _, [], n => by cases n <;> simp [xor3]

theorem inn_xor3 : ∀ (xs ys zs : List UInt8) (a b c : BitVec 32), xs.length = ys.length → ys.length = zs.length →
    inn (a ^^^ b ^^^ c) (xor3 xs ys zs) = inn a xs ^^^ inn b ys ^^^ inn c zs
  | x :: xs, y :: ys, z :: zs, a, b, c, h1, h2 => by
    simp only [List.length_cons, Nat.add_right_cancel_iff] at h1 h2
    have ih := inn_xor3 xs ys zs (inc a x) (inc b y) (inc c z) h1 h2
    simp only [inn, xor3, List.foldl_cons] at ih ⊢
    rw [← ih]
    congr 1
    simp only [inc, ext_xor, ← stpN_xor]
    congr 1
    ac_rfl
  | [], [], [], _, _, _, _, _ => rfl
  | [], _ :: _, _, _, _, _, h, _ => by simp at h
  | _ :: _, [], _, _, _, _, h, _ => by simp at h
  | _, [], _ :: _, _, _, _, _, h => by simp at h
  | _, _ :: _, [], _, _, _, _, h => by simp at h

theorem sum_xor3 (xs ys zs : List UInt8) (h1 : xs.length = ys.length) (h2 : ys.length = zs.length) : sum (xor3 xs ys zs) = sum xs ^^^ sum ys ^^^ sum zs := by
  have := inn_xor3 xs ys zs 0xffffffff#32 0xffffffff#32 0xffffffff#32 h1 h2
  have e : (0xffffffff#32 : BitVec 32) ^^^ 0xffffffff#32 ^^^ 0xffffffff#32 = 0xffffffff#32 := by decide
  rw [e] at this
  simp only [sum, this]
  have hn : ∀ s : BitVec 32, ~~~s = 0xffffffff#32 ^^^ s := fun s => (BitVec.allOnes_xor (x := s)).symm
  simp only [hn]
  have e2 : ∀ m a b c : BitVec 32, (m ^^^ a) ^^^ (m ^^^ b) ^^^ (m ^^^ c) = (m ^^^ m) ^^^ m ^^^ (a ^^^ b ^^^ c) := fun m a b c => by ac_rfl
  rw [e2]; simp
end Go.Proofs.Ytaablclccklhnaa
