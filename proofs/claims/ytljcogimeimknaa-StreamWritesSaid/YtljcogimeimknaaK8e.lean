/- Several texts in one: CrcDef, CrcFour, Crc1, CrcS. Each has its own sentence and conditions below. -/
import Derived.Test.YtljcogimeimknaaK8a
import Derived.Test.YtljcogimeimknaaRows
import Derived.Test.YtljcogimeimknaaK8b
import Derived.Deep.RegionHeld3
import Derived.Deep.RegionWith
/- The register of the sum, and what it is made of: plain words, no program. No condition. -/
namespace Go.Proofs.Ytljcogimeimknaa
set_option linter.unusedVariables false

/-- one step of the register -/
def stp (s : BitVec 32) : BitVec 32 := (s >>> 1) ^^^ (0xedb88320#32 &&& -(s &&& 1#32))

theorem stp_even (s : BitVec 32) (h : U s % 2 = 0) : stp s = s >>> 1 := by
  have e : s &&& 1#32 = 0#32 := by
    apply BitVec.eq_of_toNat_eq
    rw [BitVec.toNat_and]
    show s.toNat &&& 1 = 0
    rw [Nat.and_one_is_mod]; unfold U at h; omega
  unfold stp; rw [e]; simp
theorem stp_odd (s : BitVec 32) (h : U s % 2 = 1) : stp s = (s >>> 1) ^^^ 0xedb88320#32 := by
  have e : s &&& 1#32 = 1#32 := by
    apply BitVec.eq_of_toNat_eq
    rw [BitVec.toNat_and]
    show s.toNat &&& 1 = 1
    rw [Nat.and_one_is_mod]; unfold U at h; omega
  unfold stp; rw [e]; congr 1

def stpN : Nat → BitVec 32 → BitVec 32
  | 0, s => s
  | n + 1, s => stp (stpN n s)
def inc (s : BitVec 32) (c : UInt8) : BitVec 32 := stpN 8 (s ^^^ ext c)
def inn (s : BitVec 32) (bs : List UInt8) : BitVec 32 := bs.foldl inc s
/-- the sum of bytes behind the sum s -/
def more (s : BitVec 32) (bs : List UInt8) : BitVec 32 := ~~~ inn (~~~s) bs
def sum (bs : List UInt8) : BitVec 32 := ~~~ inn 0xffffffff#32 bs

theorem take_snoc {α : Type} {bs : List α} {k : Nat} {x : α} (h : bs[k]? = some x) : bs.take (k + 1) = bs.take k ++ [x] := by
  rw [List.take_add_one, h]; rfl
theorem inn_snoc (s : BitVec 32) (bs : List UInt8) (x : UInt8) : inn s (bs ++ [x]) = inc (inn s bs) x := by
  unfold inn; rw [List.foldl_append]; rfl


theorem more_sum (xs ys : List UInt8) : more (sum xs) ys = sum (xs ++ ys) := by
  unfold more sum inn; rw [BitVec.not_not, List.foldl_append]

/-! ### a step is linear -/
theorem stp_xor (a b : BitVec 32) : stp (a ^^^ b) = stp a ^^^ stp b := by
  have hm : ∀ s : BitVec 32, 0xedb88320#32 &&& -(s &&& 1#32) = if s.getLsbD 0 then 0xedb88320#32 else 0#32 := by
    intro s
    have e : s &&& 1#32 = if s.getLsbD 0 then 1#32 else 0#32 := by
      apply BitVec.eq_of_getLsbD_eq
      intro i hi
      rw [BitVec.getLsbD_and]
      by_cases h0 : i = 0
      · subst h0; cases s.getLsbD 0 <;> simp
      · have : (1#32 : BitVec 32).getLsbD i = false := by
          rw [BitVec.getLsbD_one]; simp [h0]
        rw [this]; cases s.getLsbD 0 <;> simp [this]
    rw [e]
    cases s.getLsbD 0
    · simp
    · decide
  unfold stp
  rw [hm, hm, hm, BitVec.ushiftRight_xor_distrib, BitVec.getLsbD_xor]
  generalize (0xedb88320#32 : BitVec 32) = p
  generalize a >>> 1 = x
  generalize b >>> 1 = y
  cases a.getLsbD 0 <;> cases b.getLsbD 0
  · simp
  · simp; ac_rfl
  · simp; ac_rfl
  · have : x ^^^ p ^^^ (y ^^^ p) = (x ^^^ y) ^^^ (p ^^^ p) := by ac_rfl
    simp [this]

theorem stp_zero : stp 0#32 = 0#32 := by decide
theorem stpN_xor (n : Nat) (a b : BitVec 32) : stpN n (a ^^^ b) = stpN n a ^^^ stpN n b := by
  induction n with
  | zero => rfl
  | succ n ih => simp only [stpN, ih, stp_xor]
theorem stpN_zero (n : Nat) : stpN n 0#32 = 0#32 := by
  induction n with
  | zero => rfl
  | succ n ih => simp only [stpN, ih, stp_zero]
theorem stpN_add (m n : Nat) (s : BitVec 32) : stpN (m + n) s = stpN m (stpN n s) := by
  induction m with
  | zero => simp [stpN]
  | succ m ih => rw [Nat.succ_add]; simp only [stpN, ih]
theorem ext_xor (x y : UInt8) : ext (x ^^^ y) = ext x ^^^ ext y := by
  apply BitVec.eq_of_toNat_eq
  have hx := x.toNat_lt; have hy := y.toNat_lt
  have hxy : x.toNat ^^^ y.toNat < 2 ^ 8 := Nat.xor_lt_two_pow (by omega) (by omega)
  simp only [ext, BitVec.toNat_xor, BitVec.toNat_ofNat, UInt8.toNat_xor]
  rw [Nat.mod_eq_of_lt (by omega), Nat.mod_eq_of_lt (by omega), Nat.mod_eq_of_lt (by omega)]

/-- three texts, byte by byte -/
def xor3 : List UInt8 → List UInt8 → List UInt8 → List UInt8
  | x :: xs, y :: ys, z :: zs => (x ^^^ y ^^^ z) :: xor3 xs ys zs
  | _, _, _ => []

theorem xor3_get : ∀ (xs ys zs : List UInt8) (k : Nat) (x y z : UInt8), xs[k]? = some x → ys[k]? = some y → zs[k]? = some z → (xor3 xs ys zs)[k]? = some (x ^^^ y ^^^ z)
  | a :: xs, b :: ys, c :: zs, 0, x, y, z, hx, hy, hz => by simp at hx hy hz; subst hx hy hz; rfl
  | a :: xs, b :: ys, c :: zs, k + 1, x, y, z, hx, hy, hz => by
    simp only [List.getElem?_cons_succ] at hx hy hz
    simp only [xor3, List.getElem?_cons_succ]
    exact xor3_get xs ys zs k x y z hx hy hz
  | [], _, _, _, _, _, _, hx, _, _ => by simp at hx
  | _ :: _, [], _, _, _, _, _, _, hy, _ => by simp at hy
  | _ :: _, _ :: _, [], _, _, _, _, _, _, hz => by simp at hz
theorem xor3_length : ∀ (xs ys zs : List UInt8), (xor3 xs ys zs).length = min (min xs.length ys.length) zs.length
  | a :: xs, b :: ys, c :: zs => by simp [xor3, xor3_length xs ys zs]
  | [], _, _ => by simp [xor3]
  | _ :: _, [], _ => by simp [xor3]
  | _ :: _, _ :: _, [] => by simp [xor3]
theorem xor3_take : ∀ (xs ys zs : List UInt8) (n : Nat), xor3 (xs.take n) (ys.take n) (zs.take n) = (xor3 xs ys zs).take n
  | a :: xs, b :: ys, c :: zs, 0 => by simp [xor3]
  | a :: xs, b :: ys, c :: zs, n + 1 => by simp [xor3, xor3_take xs ys zs n]
  | [], _, _, n => by simp [xor3]
  | _ :: _, [], _, n => by cases n <;> simp [xor3]
  | _ :: _, _ :: _, [], n => by cases n <;> simp [xor3]

theorem inn_xor3 : ∀ (xs ys zs : List UInt8) (a b c : BitVec 32), xs.length = ys.length → ys.length = zs.length →
    inn (a ^^^ b ^^^ c) (xor3 xs ys zs) = inn a xs ^^^ inn b ys ^^^ inn c zs
  | x :: xs, y :: ys, z :: zs, a, b, c, h1, h2 => by
    simp only [List.length_cons, Nat.add_right_cancel_iff] at h1 h2
    have ih := inn_xor3 xs ys zs (inc a x) (inc b y) (inc c z) h1 h2
    simp only [inn, xor3, List.foldl_cons] at ih ⊢
    rw [← ih]
    congr 1
    simp only [inc, ext_xor, ← stpN_xor]
    congr 1
    ac_rfl
  | [], [], [], _, _, _, _, _ => rfl
  | [], _ :: _, _, _, _, _, h, _ => by simp at h
  | _ :: _, [], _, _, _, _, h, _ => by simp at h
  | _, [], _ :: _, _, _, _, _, h => by simp at h
  | _, _ :: _, [], _, _, _, _, h => by simp at h

theorem sum_xor3 (xs ys zs : List UInt8) (h1 : xs.length = ys.length) (h2 : ys.length = zs.length) : sum (xor3 xs ys zs) = sum xs ^^^ sum ys ^^^ sum zs := by
  have := inn_xor3 xs ys zs 0xffffffff#32 0xffffffff#32 0xffffffff#32 h1 h2
  have e : (0xffffffff#32 : BitVec 32) ^^^ 0xffffffff#32 ^^^ 0xffffffff#32 = 0xffffffff#32 := by decide
  rw [e] at this
  simp only [sum, this]
  have hn : ∀ s : BitVec 32, ~~~s = 0xffffffff#32 ^^^ s := fun s => (BitVec.allOnes_xor (x := s)).symm
  simp only [hn]
  have e2 : ∀ m a b c : BitVec 32, (m ^^^ a) ^^^ (m ^^^ b) ^^^ (m ^^^ c) = (m ^^^ m) ^^^ m ^^^ (a ^^^ b ^^^ c) := fun m a b c => by ac_rfl
  rw [e2]; simp
end Go.Proofs.Ytljcogimeimknaa
/- The four bytes of a register. Plain words, no program. No condition. -/
namespace Go.Proofs.Ytljcogimeimknaa
set_option linter.unusedVariables false

/-- the byte of a register from bit k on -/
def by8 (s : BitVec 32) (k : Nat) : UInt8 := UInt8.ofNat (s >>> k).toNat
def four (s : BitVec 32) : List UInt8 := [by8 s 0, by8 s 8, by8 s 16, by8 s 24]
theorem four_length (s : BitVec 32) : (four s).length = 4 := rfl
end Go.Proofs.Ytljcogimeimknaa
/- The contracts of the program's and the reference's step, in, Sum and More: what each computes, in registers. No condition but that the slice reads as bytes. -/
namespace Go.Proofs.Ytljcogimeimknaa
set_option linter.unusedVariables false
open Go.RowKit

theorem step_any (s : BitVec 32) (w : World) :
    Calls Try.prog 128 #[.int .u32 (U s)] w fun e w' => e = .returned (.int .u32 (U (stp s))) ∧ w = w' := by
  have r1 := U_xor; have r2 := U_and1; have r3 := U_poly; have r4 := U_neg; have r5 := U_half
  go_enter Try.func128, Try.ntmps128
  go_wp2
  go_ret
  exact ⟨rfl, rfl⟩

set_option maxHeartbeats 400000 in
theorem in_any (s : BitVec 32) (a : Option Addr) (n c : Nat) (bs : List UInt8) (w : World) (hn : n ≤ 9223372036854775807) (h : Sl Bf w a n c bs) :
    Calls Try.prog 113 #[.int .u32 (U s), .slice a n c] w fun e w' => e = .returned (.int .u32 (U (inn s bs))) ∧ w = w' := by
  have r1 := U_xor; have r6 := B_u32
  have H := Lib.hid h; clear h
  go_enter Try.func113, Try.ntmps113
  go_wp2
  go_loop [0, 9] (fun x i => ∃ k : Nat, k ≤ n ∧ i = .int .i64 k ∧ x = .int .u32 (U (inn s (bs.take k)))) (fun _ i => n - (intOf i).toNat)
  case atStart => exact ⟨0, Nat.zero_le _, rfl, rfl⟩
  case round =>
    obtain ⟨k, hk, rfl, rfl⟩ := hrel
    by_cases hlt : k < n
    · obtain ⟨x, b, o, hx, rfl, hc⟩ := H.out.at k hlt
      have hc : w.cell? ⟨b, o + k, none⟩ = some (.int .u8 (B x)) := hc
      have HX := Lib.hid hx; clear hx
      go_wp2_with fail
      go_loop [0, 17] (fun y i => ∃ j : Nat, j ≤ 8 ∧ i = .int .i64 j ∧ y = .int .u32 (U (stpN j (inn s (bs.take k) ^^^ ext x)))) (fun _ i => 8 - (intOf i).toNat)
      case atStart => exact ⟨0, Nat.zero_le _, rfl, rfl⟩
      case round =>
        obtain ⟨j, hj, rfl, rfl⟩ := hrel
        by_cases hlt2 : (j : Int) < 8
        · go_wp2_with (go_at_call 128; refine (step_any _ _).mono ?_; rintro e w' ⟨rfl, rfl⟩)
          go_round
          case rel => exact ⟨j + 1, by omega, by go_num, rfl⟩
          case measure => simp [intOf]; omega
        · go_wp2_with fail
          go_round
          case rel =>
            obtain rfl : j = 8 := by omega
            exact ⟨k + 1, by omega, by go_num, by rw [take_snoc HX.out, inn_snoc]; rfl⟩
          case measure => simp [intOf]; omega
    · go_wp2_with fail
      go_ret
      have hh := H.out.len
      exact ⟨ret_int (by rw [List.take_of_length_le (by omega)]), rfl⟩

theorem in_int {x : Int} (s : BitVec 32) (hx : x = U s) (a : Option Addr) (n c : Nat) (bs : List UInt8) (w : World) (hn : n ≤ 9223372036854775807) (h : Sl Bf w a n c bs) :
    Calls Try.prog 113 #[.int .u32 x, .slice a n c] w fun e w' => e = .returned (.int .u32 (U (inn s bs))) ∧ w = w' := by
  subst hx; exact in_any s a n c bs w hn h

theorem sum_any (a : Option Addr) (n c : Nat) (bs : List UInt8) (w : World) (hn : n ≤ 9223372036854775807) (h : Sl Bf w a n c bs) :
    Calls Try.prog 90 #[.slice a n c] w fun e w' => e = .returned (.int .u32 (U (sum bs))) ∧ w = w' := by
  have H := Lib.hid h; clear h
  go_enter Try.func90, Try.ntmps90
  go_wp2_with (go_at_call 113; refine (in_int 0xffffffff#32 rfl _ _ _ _ _ hn H.out).mono ?_; rintro e w' ⟨rfl, rfl⟩)
  go_ret
  exact ⟨ret_int (U_xmax _), rfl⟩

/-! ### the reference -/
theorem rstep_any (s : BitVec 32) (w : World) :
    Calls Try.prog 133 #[.int .u32 (U s)] w fun e w' => e = .returned (.int .u32 (U (stp s))) ∧ w = w' := by
  have r1 := U_xpoly; have r5 := U_tq
  have hlo := U_lo s
  by_cases hp : U s % 2 = 1
  · have h1 : (U s % 2 == 1) = true := by simpa using hp
    have e := stp_odd s hp
    have E := Lib.hid e; clear e
    clear hp
    go_enter Try.func133, Try.ntmps133
    go_wp2
    go_ret
    exact ⟨ret_int (by rw [E.out]), rfl⟩
  · have h1 : (U s % 2 == 1) = false := by simpa using hp
    have e := stp_even s (by omega)
    have E := Lib.hid e; clear e
    clear hp
    go_enter Try.func133, Try.ntmps133
    go_wp2
    go_ret
    exact ⟨ret_int (by rw [E.out]; exact r5 s), rfl⟩

set_option maxHeartbeats 400000 in
theorem rmore_any (s : BitVec 32) (a : Option Addr) (n c : Nat) (bs : List UInt8) (w : World) (hn : n ≤ 9223372036854775807) (h : Sl Bf w a n c bs) :
    Calls Try.prog 129 #[.int .u32 (U s), .slice a n c] w fun e w' => e = .returned (.int .u32 (U (more s bs))) ∧ w = w' := by
  have r1 := U_xor; have r6 := B_u32; 
  have H := Lib.hid h; clear h
  go_enter Try.func129, Try.ntmps129
  go_wp2_with fail
  go_loop [0, 5] (fun x i => ∃ k : Nat, k ≤ n ∧ i = .int .i64 k ∧ x = .int .u32 (U (inn (~~~s) (bs.take k)))) (fun _ i => n - (intOf i).toNat)
  case atStart => exact ⟨0, Nat.zero_le _, rfl, val_int (U_not' s)⟩
  case round =>
    obtain ⟨k, hk, rfl, rfl⟩ := hrel
    by_cases hlt : k < n
    · obtain ⟨x, b, o, hx, rfl, hc⟩ := H.out.at k hlt
      have hc : w.cell? ⟨b, o + k, none⟩ = some (.int .u8 (B x)) := hc
      have HX := Lib.hid hx; clear hx
      go_wp2_with fail
      go_loop [0, 6] (fun y i => ∃ j : Nat, j ≤ 8 ∧ i = .int .i64 j ∧ y = .int .u32 (U (stpN j (inn (~~~s) (bs.take k) ^^^ ext x)))) (fun _ i => 8 - (intOf i).toNat)
      case atStart => exact ⟨0, Nat.zero_le _, rfl, rfl⟩
      case round =>
        obtain ⟨j, hj, rfl, rfl⟩ := hrel
        by_cases hlt2 : (j : Int) < 8
        · go_wp2_with (go_at_call 133; refine (rstep_any _ _).mono ?_; rintro e w' ⟨rfl, rfl⟩)
          go_round
          case rel => exact ⟨j + 1, by omega, by go_num, rfl⟩
          case measure => simp [intOf]; omega
        · go_wp2_with fail
          go_round
          case rel =>
            obtain rfl : j = 8 := by omega
            exact ⟨k + 1, by omega, by go_num, by rw [take_snoc HX.out, inn_snoc]; rfl⟩
          case measure => simp [intOf]; omega
    · go_wp2_with fail
      go_ret
      have hh := H.out.len
      exact ⟨ret_int (by rw [List.take_of_length_le (by omega)]; exact U_not' _), rfl⟩

theorem rsum_any (a : Option Addr) (n c : Nat) (bs : List UInt8) (w : World) (hn : n ≤ 9223372036854775807) (h : Sl Bf w a n c bs) :
    Calls Try.prog 115 #[.slice a n c] w fun e w' => e = .returned (.int .u32 (U (sum bs))) ∧ w = w' := by
  have H := Lib.hid h; clear h
  have hm := rmore_any 0#32 a n c bs w hn H.out
  have HM := Lib.hid hm; clear hm
  go_enter Try.func115, Try.ntmps115
  go_wp2_with (go_at_call 129; refine HM.out.mono ?_; rintro e w' ⟨rfl, rfl⟩)
  go_ret
  exact ⟨rfl, rfl⟩
end Go.Proofs.Ytljcogimeimknaa
/- The contracts of put, four, Seal and Open, the program's and the reference's: what each gives in new memory. Conditions: slices within reach. -/
namespace Go.Proofs.Ytljcogimeimknaa
set_option linter.unusedVariables false
open Go.RowKit

theorem by8_0 (s : BitVec 32) : U s % (256 : Int) = B (by8 s 0) := by
  unfold U B by8; rw [UInt8.toNat_ofNat', BitVec.toNat_ushiftRight, Nat.shiftRight_eq_div_pow]; omega
theorem by8_8 (s : BitVec 32) : U s / (256 : Int) % (256 : Int) = B (by8 s 8) := by
  unfold U B by8; rw [UInt8.toNat_ofNat', BitVec.toNat_ushiftRight, Nat.shiftRight_eq_div_pow]; omega
theorem by8_16 (s : BitVec 32) : U s / (65536 : Int) % (256 : Int) = B (by8 s 16) := by
  unfold U B by8; rw [UInt8.toNat_ofNat', BitVec.toNat_ushiftRight, Nat.shiftRight_eq_div_pow]; omega
theorem by8_24 (s : BitVec 32) : U s / (16777216 : Int) % (256 : Int) = B (by8 s 24) := by
  unfold U B by8; rw [UInt8.toNat_ofNat', BitVec.toNat_ushiftRight, Nat.shiftRight_eq_div_pow]; omega

theorem rfour_any (s : BitVec 32) (w : World) :
    Calls Try.prog 114 #[.int .u32 (U s)] w fun e w' => ∃ v, e = .returned v ∧ OwT fB w' w.heap.size 5 v (four s) ∧ Below w.heap.size w w' := by
  have r0 := by8_0; have r1 := by8_8; have r2 := by8_16; have r3 := by8_24
  go_enter Try.func114, Try.ntmps114
  go_wp2_with fail
  go_ret
  exact ⟨_, rfl, OwT.lit fB w _ _ _ _ 4 rfl rfl (Nat.le_refl _) (by decide), by go_grown⟩

theorem put_any (v : Value) (xs : List UInt8) (base : Nat) (s : BitVec 32) (w : World) (hb : base ≤ w.heap.size) (hn : xs.length ≤ 140737488351232) (h : OwT fB w base 5 v xs) :
    Calls Try.prog 89 #[v, .int .u32 (U s)] w fun e w' => ∃ v', e = .returned v' ∧ OwT fB w' base 5 v' (xs ++ four s) ∧ (w.grownBy w' v.ownBlock) ∧ Below base w w' := by
  have r0 := by8_0; have r1 := by8_8; have r2 := by8_16; have r3 := by8_24
  have H := Lib.hid h; clear h
  go_enter Try.func89, Try.ntmps89
  go_wp2_with (at_builtin; refine wpList_appT eltTB rfl _ _ rfl base v xs (by rfl) (H.out.alloc _) _ 4 4 (four s) (by rfl) (Sl.lit _ _ _ _ _ rfl rfl).toT (by unfold maxLen; omega) (by omega) (by simp; omega) _ rfl ?_; intro v1 w1 h1 hg1 hv1 hb1)
  go_ret
  refine ⟨v1, rfl, h1, ?_, ?_⟩
  · obtain ⟨g1, g2, g3, g4, g5⟩ := hg1
    exact ⟨g1, g2, g3, by simp at g4; omega, fun k hk hne => by rw [g5 k (by simp; omega) hne]; exact Below.heap_alloc _ _ _ hk⟩
  · exact ((Below.refl _ _).alloc hb _).trans hb1

set_option maxRecDepth 100000 in
set_option maxHeartbeats 400000 in
theorem seal_any (a : Option Addr) (n c : Nat) (xs : List UInt8) (w : World) (hn : n ≤ 140737488351232) (h : Sl Bf w a n c xs) :
    Calls Try.prog 74 #[.slice a n c] w fun e w' => ∃ v, e = .returned v ∧ OwT fB w' w.heap.size 5 v (xs ++ four (sum xs)) ∧ Below w.heap.size w w' := by
  obtain rfl : n = xs.length := h.len.symm
  have H := Lib.hid h; clear h
  go_enter Try.func74, Try.ntmps74
  go_wp2_with (first
    | (at_make; refine wpList_mkT eltTB rfl _ _ rfl w.heap.size 0 (xs.length + 4) (by omega) rfl rfl rfl (by omega) (by omega) (by unfold maxLen; omega) (Nat.le_refl _) ?_; intro x0 w1 hh1 h1 _ hb1)
    | (at_builtin; refine wpList_appT eltTB rfl _ _ rfl w.heap.size _ [] (by rfl) h1 a xs.length c xs (by rfl) (H.out.keep hb1).toT (by unfold maxLen; simp; omega) (by simp; omega) hb1.size xs rfl ?_; intro v2 w2 h2 hg2 hv2 hb2; have hb2 := hb1.trans hb2)
    | (go_at_call 90; refine (sum_any _ _ _ xs _ (by omega) (H.out.keep hb2)).mono ?_; rintro e w' ⟨rfl, rfl⟩)
    | (go_at_call 89; refine (put_any _ xs w.heap.size _ _ hb2.size (by omega) h2).mono ?_; rintro e w3 ⟨v3, rfl, h3, hg3, hb3⟩))
  go_ret
  exact ⟨v3, rfl, h3, hb2.trans hb3⟩

set_option maxRecDepth 100000 in
set_option maxHeartbeats 400000 in
theorem rseal_any (a : Option Addr) (n c : Nat) (xs : List UInt8) (w : World) (hn : n ≤ 140737488351232) (h : Sl Bf w a n c xs) :
    Calls Try.prog 95 #[.slice a n c] w fun e w' => ∃ v, e = .returned v ∧ OwT fB w' w.heap.size 5 v (xs ++ four (sum xs)) ∧ Below w.heap.size w w' := by
  obtain rfl : n = xs.length := h.len.symm
  have H := Lib.hid h; clear h
  have hb0 : Below w.heap.size w (w.alloc (.cells #[] 5)) := (Below.refl _ _).alloc (Nat.le_refl _) _
  have HB0 := Lib.hid hb0; clear hb0
  go_enter Try.func95, Try.ntmps95
  go_wp2_with (first
    | (at_builtin; refine wpList_appT eltTB rfl (.tmp 3) (.tmp 4) rfl w.heap.size _ [] (by rfl) (OwT.lit fB w w.heap.size _ _ [] 0 rfl rfl (Nat.le_refl _) (Nat.zero_le _)) a xs.length c xs (by rfl) (H.out.keep HB0.out).toT (by unfold maxLen; simp; omega) (by simp; omega) HB0.out.size xs rfl ?_; intro v2 w2 h2 hg2 hv2 hb2; have hb2 := HB0.out.trans hb2)
    | (go_at_call 115; refine (rsum_any _ _ _ xs _ (by omega) (H.out.keep hb2)).mono ?_; rintro e w' ⟨rfl, rfl⟩)
    | (go_at_call 114; refine (rfour_any _ _).mono ?_; rintro e w3 ⟨v3, rfl, h3, hb3⟩; obtain ⟨a3, c3, rfl, hs3⟩ := h3.slB)
    | (at_builtin; refine wpList_appT eltTB rfl (.tmp 5) (.tmp 8) rfl w.heap.size _ xs (by rfl) (h2.keep hb3) a3 _ c3 (four (sum xs)) (by rfl) hs3.toT (by unfold maxLen; simp [four]; omega) (by simp [four]; omega) (by have := hb2.size; have := hb3.size; omega) _ rfl ?_; intro v4 w4 h4 hg4 hv4 hb4))
  go_ret
  exact ⟨v4, rfl, h4, (keep_trans hb2 hb3).trans hb4⟩
/-- what Open gives: the bytes, and the error's number -/
def openV (xs : List UInt8) : List UInt8 := if xs.length < 4 then [] else if four (sum (xs.take (xs.length - 4))) = xs.drop (xs.length - 4) then xs.take (xs.length - 4) else []
def openE (xs : List UInt8) : Int := if xs.length < 4 then 21 else if four (sum (xs.take (xs.length - 4))) = xs.drop (xs.length - 4) then 0 else 22

set_option maxRecDepth 100000 in
set_option maxHeartbeats 1000000 in
theorem open_any (a : Option Addr) (n c : Nat) (xs : List UInt8) (w : World) (hn : n ≤ 140737488351300) (h : Sl Bf w a n c xs) :
    Calls Try.prog 122 #[.slice a n c] w fun e w' => ∃ v, e = .returned (.tuple #[v, .int .i64 (openE xs)]) ∧ OwT fB w' w.heap.size 5 v (openV xs) ∧ Below w.heap.size w w' := by
  obtain rfl : n = xs.length := h.len.symm
  by_cases hlt : (xs.length : Int) < 4
  · have he : openE xs = 21 := by unfold openE; rw [if_pos (by omega)]
    have hv : openV xs = [] := by unfold openV; rw [if_pos (by omega)]
    rw [he, hv]
    clear he hv
    have H := Lib.hid h; clear h
    go_enter Try.func122, Try.ntmps122
    go_wp2_with fail
    go_ret2
    exact ⟨_, rfl, OwT.nil _ _ _ _, Below.refl _ _⟩
  · obtain ⟨m, hm⟩ : ∃ m, xs.length = m + 4 := ⟨xs.length - 4, by omega⟩
    have hm4 : xs.length - 4 = m := by omega
    have hle : m ≤ xs.length := by omega
    have h1 := h.upto m hle
    have h2 := h.from m hle
    rw [show xs.length - m = 4 by omega] at h2
    by_cases hq : four (sum (xs.take m)) = xs.drop m
    · have he : openE xs = 0 := by unfold openE; rw [if_neg (by omega), hm4, if_pos hq]
      have hv : openV xs = xs.take m := by unfold openV; rw [if_neg (by omega), hm4, if_pos hq]
      rw [he, hv]
      clear he hv
      have hc1 := fun (W : World) => run_cutto eltB W a xs.length c .i64 m (by have := h.le; omega)
      have hc2 := fun (W : World) => run_cutfrom eltB W a xs.length c .i64 m hle
      rw [show xs.length - m = 4 by omega] at hc2
      have hd := (Below.refl w.heap.size w).drew
      have hs2 := fun (W : World) (hW : Below w.heap.size w W) => run_str (P := Try.prog) (dst := 9) Try.underlying25 Try.underlying5 Try.underlying9 W _ _ _ _ (h2.keep hW)
      have H := Lib.hid h; clear h
      have H1 := Lib.hid h1; clear h1 h2
      have hq2 : ((strB (four (sum (xs.take m)))).toList == (strB (xs.drop m)).toList) = true := by rw [strB_list, strB_list]; exact beq_iff_eq.2 hq
      clear hq
      have hm' : (xs.length : Int) = (m : Int) + 4 := by omega
      clear hm hm4
      go_enter Try.func122, Try.ntmps122
      go_wp2_with fail
      go_region_with (first
          | (go_at_call 90; refine (sum_any _ _ _ (xs.take m) _ (by omega) H1.out.drew).mono ?_; rintro e w' ⟨rfl, rfl⟩)
          | (go_at_call 89; refine (put_any _ [] w.heap.size _ w.drew (Nat.le_refl _) (by simp) (OwT.nil _ _ _ _)).mono ?_; rintro e w3 ⟨v3, rfl, h3, hg3, hb3⟩; have hb3 := (Below.refl w.heap.size w).drew.trans hb3; have h3 : OwT fB w3 w.heap.size 5 v3 (four (sum (xs.take m))) := h3; obtain ⟨a3, c3, rfl, hs3⟩ := h3.slB; have hs4 := run_str (P := Try.prog) (dst := 9) Try.underlying25 Try.underlying5 Try.underlying9 w3 _ _ _ _ hs3; clear hs3))
      all_goals go_wp2_with (at_builtin; refine wpList_appT eltTB rfl _ _ rfl w.heap.size _ [] (by rfl) (OwT.lit fB _ w.heap.size _ _ [] 0 rfl rfl hb3.size (Nat.zero_le _)) a m c (xs.take m) (by rfl) (H1.out.keep (hb3.alloc hb3.size _)).toT (by unfold maxLen; simp; omega) (by simp; omega) (by have := hb3.size; simp; omega) _ rfl ?_; intro v5 w5 h5 hg5 hv5 hb5)
      all_goals go_ret2
      all_goals exact ⟨_, rfl, h5, (hb3.alloc hb3.size _).trans hb5⟩
    · have he : openE xs = 22 := by unfold openE; rw [if_neg (by omega), hm4, if_neg hq]
      have hv : openV xs = [] := by unfold openV; rw [if_neg (by omega), hm4, if_neg hq]
      rw [he, hv]
      clear he hv
      have hc1 := fun (W : World) => run_cutto eltB W a xs.length c .i64 m (by have := h.le; omega)
      have hc2 := fun (W : World) => run_cutfrom eltB W a xs.length c .i64 m hle
      rw [show xs.length - m = 4 by omega] at hc2
      have hd := (Below.refl w.heap.size w).drew
      have hs2 := fun (W : World) (hW : Below w.heap.size w W) => run_str (P := Try.prog) (dst := 9) Try.underlying25 Try.underlying5 Try.underlying9 W _ _ _ _ (h2.keep hW)
      have H := Lib.hid h; clear h
      have H1 := Lib.hid h1; clear h1 h2
      have hq2 : ((strB (four (sum (xs.take m)))).toList == (strB (xs.drop m)).toList) = false := by rw [strB_list, strB_list]; exact beq_eq_false_iff_ne.2 hq
      clear hq
      have hm' : (xs.length : Int) = (m : Int) + 4 := by omega
      clear hm hm4
      go_enter Try.func122, Try.ntmps122
      go_wp2_with fail
      go_region_with (first
          | (go_at_call 90; refine (sum_any _ _ _ (xs.take m) _ (by omega) H1.out.drew).mono ?_; rintro e w' ⟨rfl, rfl⟩)
          | (go_at_call 89; refine (put_any _ [] w.heap.size _ w.drew (Nat.le_refl _) (by simp) (OwT.nil _ _ _ _)).mono ?_; rintro e w3 ⟨v3, rfl, h3, hg3, hb3⟩; have hb3 := (Below.refl w.heap.size w).drew.trans hb3; have h3 : OwT fB w3 w.heap.size 5 v3 (four (sum (xs.take m))) := h3; obtain ⟨a3, c3, rfl, hs3⟩ := h3.slB; have hs4 := run_str (P := Try.prog) (dst := 9) Try.underlying25 Try.underlying5 Try.underlying9 w3 _ _ _ _ hs3; clear hs3))
      all_goals go_wp2_with fail
      all_goals go_ret2
      all_goals exact ⟨_, rfl, OwT.nil _ _ _ _, by first | exact hb3 | exact hd.trans hb3⟩

end Go.Proofs.Ytljcogimeimknaa
