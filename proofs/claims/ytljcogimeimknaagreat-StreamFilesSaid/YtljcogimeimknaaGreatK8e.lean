/- Several texts in one: CrcDef, CrcFour, Crc1, CrcS. Each has its own sentence and conditions below. -/
import Derived.Test.YtljcogimeimknaaGreatK8a
import Derived.Test.YtljcogimeimknaaGreatRows
import Derived.Test.YtljcogimeimknaaGreatK8b
import Derived.Deep.RegionHeld3
import Derived.Deep.RegionWith
/- The register of the sum, and what it is made of: plain words, no program. No condition. -/
namespace Go.Proofs.YtljcogimeimknaaGreat
set_option linter.unusedVariables false

/-- one step of the register -/
def stp (s : BitVec 32) : BitVec 32 := (s >>> 1) ^^^ (0xedb88320#32 &&& -(s &&& 1#32))

theorem stp_even (s : BitVec 32) (h : U s % 2 = 0) : stp s = s >>> 1 := by
  have e : s &&& 1#32 = 0#32 := by
    apply BitVec.eq_of_toNat_eq
    rw [BitVec.toNat_and]
    show s.toNat &&& 1 = 0
    rw [Nat.and_one_is_mod]; unfold U at h; omega
  unfold stp; rw [e]; simp
theorem stp_odd (s : BitVec 32) (h : U s % 2 = 1) : stp s = (s >>> 1) ^^^ 0xedb88320#32 := by
  have e : s &&& 1#32 = 1#32 := by
    apply BitVec.eq_of_toNat_eq
    rw [BitVec.toNat_and]
    show s.toNat &&& 1 = 1
    rw [Nat.and_one_is_mod]; unfold U at h; omega
  unfold stp; rw [e]; congr 1

def stpN : Nat → BitVec 32 → BitVec 32
  | 0, s => s
  | n + 1, s => stp (stpN n s)
def inc (s : BitVec 32) (c : UInt8) : BitVec 32 := stpN 8 (s ^^^ ext c)
def inn (s : BitVec 32) (bs : List UInt8) : BitVec 32 := bs.foldl inc s
/-- the sum of bytes behind the sum s -/
def more (s : BitVec 32) (bs : List UInt8) : BitVec 32 := ~~~ inn (~~~s) bs
def sum (bs : List UInt8) : BitVec 32 := ~~~ inn 0xffffffff#32 bs

theorem take_snoc {α : Type} {bs : List α} {k : Nat} {x : α} (h : bs[k]? = some x) : bs.take (k + 1) = bs.take k ++ [x] := by
  rw [List.take_add_one, h]; rfl
theorem inn_snoc (s : BitVec 32) (bs : List UInt8) (x : UInt8) : inn s (bs ++ [x]) = inc (inn s bs) x := by
  unfold inn; rw [List.foldl_append]; rfl


/-! ### a step is linear -/
end Go.Proofs.YtljcogimeimknaaGreat
/- The four bytes of a register. Plain words, no program. No condition. -/
namespace Go.Proofs.YtljcogimeimknaaGreat
set_option linter.unusedVariables false

/-- the byte of a register from bit k on -/
def by8 (s : BitVec 32) (k : Nat) : UInt8 := UInt8.ofNat (s >>> k).toNat
def four (s : BitVec 32) : List UInt8 := [by8 s 0, by8 s 8, by8 s 16, by8 s 24]
theorem four_length (s : BitVec 32) : (four s).length = 4 := rfl
end Go.Proofs.YtljcogimeimknaaGreat
/- The contracts of the program's and the reference's step, in, Sum and More: what each computes, in registers. No condition but that the slice reads as bytes. -/
namespace Go.Proofs.YtljcogimeimknaaGreat
set_option linter.unusedVariables false
open Go.RowKit

theorem step_any (s : BitVec 32) (w : World) :
    Calls Tryz.prog 167 #[.int .u32 (U s)] w fun e w' => e = .returned (.int .u32 (U (stp s))) ∧ w = w' := by
  have r1 := U_xor; have r2 := U_and1; have r3 := U_poly; have r4 := U_neg; have r5 := U_half
  go_enter Tryz.func167, Tryz.ntmps167
  go_wp2
  go_ret
  exact ⟨rfl, rfl⟩

set_option maxHeartbeats 400000 in
theorem in_any (s : BitVec 32) (a : Option Addr) (n c : Nat) (bs : List UInt8) (w : World) (hn : n ≤ 9223372036854775807) (h : Sl Bf w a n c bs) :
    Calls Tryz.prog 157 #[.int .u32 (U s), .slice a n c] w fun e w' => e = .returned (.int .u32 (U (inn s bs))) ∧ w = w' := by
  have r1 := U_xor; have r6 := B_u32
  have H := Lib.hid h; clear h
  go_enter Tryz.func157, Tryz.ntmps157
  go_wp2
  go_loop [0, 9] (fun x i => ∃ k : Nat, k ≤ n ∧ i = .int .i64 k ∧ x = .int .u32 (U (inn s (bs.take k)))) (fun _ i => n - (intOf i).toNat)
  case atStart => exact ⟨0, Nat.zero_le _, rfl, rfl⟩
  case round =>
    obtain ⟨k, hk, rfl, rfl⟩ := hrel
    by_cases hlt : k < n
    · obtain ⟨x, b, o, hx, rfl, hc⟩ := H.out.at k hlt
      have hc : w.cell? ⟨b, o + k, none⟩ = some (.int .u8 (B x)) := hc
      have HX := Lib.hid hx; clear hx
      go_wp2_with fail
      go_loop [0, 17] (fun y i => ∃ j : Nat, j ≤ 8 ∧ i = .int .i64 j ∧ y = .int .u32 (U (stpN j (inn s (bs.take k) ^^^ ext x)))) (fun _ i => 8 - (intOf i).toNat)
      case atStart => exact ⟨0, Nat.zero_le _, rfl, rfl⟩
      case round =>
        obtain ⟨j, hj, rfl, rfl⟩ := hrel
        by_cases hlt2 : (j : Int) < 8
        · go_wp2_with (go_at_call 167; refine (step_any _ _).mono ?_; rintro e w' ⟨rfl, rfl⟩)
          go_round
          case rel => exact ⟨j + 1, by omega, by go_num, rfl⟩
          case measure => simp [intOf]; omega
        · go_wp2_with fail
          go_round
          case rel =>
            obtain rfl : j = 8 := by omega
            exact ⟨k + 1, by omega, by go_num, by rw [take_snoc HX.out, inn_snoc]; rfl⟩
          case measure => simp [intOf]; omega
    · go_wp2_with fail
      go_ret
      have hh := H.out.len
      exact ⟨ret_int (by rw [List.take_of_length_le (by omega)]), rfl⟩

theorem in_int {x : Int} (s : BitVec 32) (hx : x = U s) (a : Option Addr) (n c : Nat) (bs : List UInt8) (w : World) (hn : n ≤ 9223372036854775807) (h : Sl Bf w a n c bs) :
    Calls Tryz.prog 157 #[.int .u32 x, .slice a n c] w fun e w' => e = .returned (.int .u32 (U (inn s bs))) ∧ w = w' := by
  subst hx; exact in_any s a n c bs w hn h

theorem sum_any (a : Option Addr) (n c : Nat) (bs : List UInt8) (w : World) (hn : n ≤ 9223372036854775807) (h : Sl Bf w a n c bs) :
    Calls Tryz.prog 120 #[.slice a n c] w fun e w' => e = .returned (.int .u32 (U (sum bs))) ∧ w = w' := by
  have H := Lib.hid h; clear h
  go_enter Tryz.func120, Tryz.ntmps120
  go_wp2_with (go_at_call 157; refine (in_int 0xffffffff#32 rfl _ _ _ _ _ hn H.out).mono ?_; rintro e w' ⟨rfl, rfl⟩)
  go_ret
  exact ⟨ret_int (U_xmax _), rfl⟩

/-! ### the reference -/
theorem rstep_any (s : BitVec 32) (w : World) :
    Calls Tryz.prog 159 #[.int .u32 (U s)] w fun e w' => e = .returned (.int .u32 (U (stp s))) ∧ w = w' := by
  have r1 := U_xpoly; have r5 := U_tq
  have hlo := U_lo s
  by_cases hp : U s % 2 = 1
  · have h1 : (U s % 2 == 1) = true := by simpa using hp
    have e := stp_odd s hp
    have E := Lib.hid e; clear e
    clear hp
    go_enter Tryz.func159, Tryz.ntmps159
    go_wp2
    go_ret
    exact ⟨ret_int (by rw [E.out]), rfl⟩
  · have h1 : (U s % 2 == 1) = false := by simpa using hp
    have e := stp_even s (by omega)
    have E := Lib.hid e; clear e
    clear hp
    go_enter Tryz.func159, Tryz.ntmps159
    go_wp2
    go_ret
    exact ⟨ret_int (by rw [E.out]; exact r5 s), rfl⟩

set_option maxHeartbeats 400000 in
theorem rmore_any (s : BitVec 32) (a : Option Addr) (n c : Nat) (bs : List UInt8) (w : World) (hn : n ≤ 9223372036854775807) (h : Sl Bf w a n c bs) :
    Calls Tryz.prog 129 #[.int .u32 (U s), .slice a n c] w fun e w' => e = .returned (.int .u32 (U (more s bs))) ∧ w = w' := by
  have r1 := U_xor; have r6 := B_u32; 
  have H := Lib.hid h; clear h
  go_enter Tryz.func129, Tryz.ntmps129
  go_wp2_with fail
  go_loop [0, 5] (fun x i => ∃ k : Nat, k ≤ n ∧ i = .int .i64 k ∧ x = .int .u32 (U (inn (~~~s) (bs.take k)))) (fun _ i => n - (intOf i).toNat)
  case atStart => exact ⟨0, Nat.zero_le _, rfl, val_int (U_not' s)⟩
  case round =>
    obtain ⟨k, hk, rfl, rfl⟩ := hrel
    by_cases hlt : k < n
    · obtain ⟨x, b, o, hx, rfl, hc⟩ := H.out.at k hlt
      have hc : w.cell? ⟨b, o + k, none⟩ = some (.int .u8 (B x)) := hc
      have HX := Lib.hid hx; clear hx
      go_wp2_with fail
      go_loop [0, 6] (fun y i => ∃ j : Nat, j ≤ 8 ∧ i = .int .i64 j ∧ y = .int .u32 (U (stpN j (inn (~~~s) (bs.take k) ^^^ ext x)))) (fun _ i => 8 - (intOf i).toNat)
      case atStart => exact ⟨0, Nat.zero_le _, rfl, rfl⟩
      case round =>
        obtain ⟨j, hj, rfl, rfl⟩ := hrel
        by_cases hlt2 : (j : Int) < 8
        · go_wp2_with (go_at_call 159; refine (rstep_any _ _).mono ?_; rintro e w' ⟨rfl, rfl⟩)
          go_round
          case rel => exact ⟨j + 1, by omega, by go_num, rfl⟩
          case measure => simp [intOf]; omega
        · go_wp2_with fail
          go_round
          case rel =>
            obtain rfl : j = 8 := by omega
            exact ⟨k + 1, by omega, by go_num, by rw [take_snoc HX.out, inn_snoc]; rfl⟩
          case measure => simp [intOf]; omega
    · go_wp2_with fail
      go_ret
      have hh := H.out.len
      exact ⟨ret_int (by rw [List.take_of_length_le (by omega)]; exact U_not' _), rfl⟩

theorem rsum_any (a : Option Addr) (n c : Nat) (bs : List UInt8) (w : World) (hn : n ≤ 9223372036854775807) (h : Sl Bf w a n c bs) :
    Calls Tryz.prog 86 #[.slice a n c] w fun e w' => e = .returned (.int .u32 (U (sum bs))) ∧ w = w' := by
  have H := Lib.hid h; clear h
  have hm := rmore_any 0#32 a n c bs w hn H.out
  have HM := Lib.hid hm; clear hm
  go_enter Tryz.func86, Tryz.ntmps86
  go_wp2_with (go_at_call 129; refine HM.out.mono ?_; rintro e w' ⟨rfl, rfl⟩)
  go_ret
  exact ⟨rfl, rfl⟩
end Go.Proofs.YtljcogimeimknaaGreat
/- The contracts of put, four, Seal and Open, the program's and the reference's: what each gives in new memory. Conditions: slices within reach. -/
namespace Go.Proofs.YtljcogimeimknaaGreat
set_option linter.unusedVariables false
open Go.RowKit

theorem by8_0 (s : BitVec 32) : U s % (256 : Int) = B (by8 s 0) := by
  unfold U B by8; rw [UInt8.toNat_ofNat', BitVec.toNat_ushiftRight, Nat.shiftRight_eq_div_pow]; omega
theorem by8_8 (s : BitVec 32) : U s / (256 : Int) % (256 : Int) = B (by8 s 8) := by
  unfold U B by8; rw [UInt8.toNat_ofNat', BitVec.toNat_ushiftRight, Nat.shiftRight_eq_div_pow]; omega
theorem by8_16 (s : BitVec 32) : U s / (65536 : Int) % (256 : Int) = B (by8 s 16) := by
  unfold U B by8; rw [UInt8.toNat_ofNat', BitVec.toNat_ushiftRight, Nat.shiftRight_eq_div_pow]; omega
theorem by8_24 (s : BitVec 32) : U s / (16777216 : Int) % (256 : Int) = B (by8 s 24) := by
  unfold U B by8; rw [UInt8.toNat_ofNat', BitVec.toNat_ushiftRight, Nat.shiftRight_eq_div_pow]; omega

theorem rfour_any (s : BitVec 32) (w : World) :
    Calls Tryz.prog 85 #[.int .u32 (U s)] w fun e w' => ∃ v, e = .returned v ∧ OwT fB w' w.heap.size 5 v (four s) ∧ Below w.heap.size w w' := by
  have r0 := by8_0; have r1 := by8_8; have r2 := by8_16; have r3 := by8_24
  go_enter Tryz.func85, Tryz.ntmps85
  go_wp2_with fail
  go_ret
  exact ⟨_, rfl, OwT.lit fB w _ _ _ _ 4 rfl rfl (Nat.le_refl _) (by decide), by go_grown⟩

theorem put_any (v : Value) (xs : List UInt8) (base : Nat) (s : BitVec 32) (w : World) (hb : base ≤ w.heap.size) (hn : xs.length ≤ 140737488351232) (h : OwT fB w base 5 v xs) :
    Calls Tryz.prog 119 #[v, .int .u32 (U s)] w fun e w' => ∃ v', e = .returned v' ∧ OwT fB w' base 5 v' (xs ++ four s) ∧ (w.grownBy w' v.ownBlock) ∧ Below base w w' := by
  have r0 := by8_0; have r1 := by8_8; have r2 := by8_16; have r3 := by8_24
  have H := Lib.hid h; clear h
  go_enter Tryz.func119, Tryz.ntmps119
  go_wp2_with (at_builtin; refine wpList_appT eltTB rfl _ _ rfl base v xs (by rfl) (H.out.alloc _) _ 4 4 (four s) (by rfl) (Sl.lit _ _ _ _ _ rfl rfl).toT (by unfold maxLen; omega) (by omega) (by simp; omega) _ rfl ?_; intro v1 w1 h1 hg1 hv1 hb1)
  go_ret
  refine ⟨v1, rfl, h1, ?_, ?_⟩
  · obtain ⟨g1, g2, g3, g4, g5⟩ := hg1
    exact ⟨g1, g2, g3, by simp at g4; omega, fun k hk hne => by rw [g5 k (by simp; omega) hne]; exact Below.heap_alloc _ _ _ hk⟩
  · exact ((Below.refl _ _).alloc hb _).trans hb1

set_option maxRecDepth 100000 in
set_option maxHeartbeats 400000 in
theorem seal_any (a : Option Addr) (n c : Nat) (xs : List UInt8) (w : World) (hn : n ≤ 140737488351232) (h : Sl Bf w a n c xs) :
    Calls Tryz.prog 156 #[.slice a n c] w fun e w' => ∃ v, e = .returned v ∧ OwT fB w' w.heap.size 5 v (xs ++ four (sum xs)) ∧ Below w.heap.size w w' := by
  obtain rfl : n = xs.length := h.len.symm
  have H := Lib.hid h; clear h
  go_enter Tryz.func156, Tryz.ntmps156
  go_wp2_with (first
    | (at_make; refine wpList_mkT eltTB rfl _ _ rfl w.heap.size 0 (xs.length + 4) (by omega) rfl rfl rfl (by omega) (by omega) (by unfold maxLen; omega) (Nat.le_refl _) ?_; intro x0 w1 hh1 h1 _ hb1)
    | (at_builtin; refine wpList_appT eltTB rfl _ _ rfl w.heap.size _ [] (by rfl) h1 a xs.length c xs (by rfl) (H.out.keep hb1).toT (by unfold maxLen; simp; omega) (by simp; omega) hb1.size xs rfl ?_; intro v2 w2 h2 hg2 hv2 hb2; have hb2 := hb1.trans hb2)
    | (go_at_call 120; refine (sum_any _ _ _ xs _ (by omega) (H.out.keep hb2)).mono ?_; rintro e w' ⟨rfl, rfl⟩)
    | (go_at_call 119; refine (put_any _ xs w.heap.size _ _ hb2.size (by omega) h2).mono ?_; rintro e w3 ⟨v3, rfl, h3, hg3, hb3⟩))
  go_ret
  exact ⟨v3, rfl, h3, hb2.trans hb3⟩

/-- what Open gives: the bytes, and the error's number -/
def openV (xs : List UInt8) : List UInt8 := if xs.length < 4 then [] else if four (sum (xs.take (xs.length - 4))) = xs.drop (xs.length - 4) then xs.take (xs.length - 4) else []
def openE (xs : List UInt8) : Int := if xs.length < 4 then 21 else if four (sum (xs.take (xs.length - 4))) = xs.drop (xs.length - 4) then 0 else 22

set_option maxRecDepth 100000 in
set_option maxHeartbeats 1000000 in
theorem open_any (a : Option Addr) (n c : Nat) (xs : List UInt8) (w : World) (hn : n ≤ 140737488351300) (h : Sl Bf w a n c xs) :
    Calls Tryz.prog 79 #[.slice a n c] w fun e w' => ∃ v, e = .returned (.tuple #[v, .int .i64 (openE xs)]) ∧ OwT fB w' w.heap.size 5 v (openV xs) ∧ Below w.heap.size w w' := by
  obtain rfl : n = xs.length := h.len.symm
  by_cases hlt : (xs.length : Int) < 4
  · have he : openE xs = 21 := by unfold openE; rw [if_pos (by omega)]
    have hv : openV xs = [] := by unfold openV; rw [if_pos (by omega)]
    rw [he, hv]
    clear he hv
    have H := Lib.hid h; clear h
    go_enter Tryz.func79, Tryz.ntmps79
    go_wp2_with fail
    go_ret2
    exact ⟨_, rfl, OwT.nil _ _ _ _, Below.refl _ _⟩
  · obtain ⟨m, hm⟩ : ∃ m, xs.length = m + 4 := ⟨xs.length - 4, by omega⟩
    have hm4 : xs.length - 4 = m := by omega
    have hle : m ≤ xs.length := by omega
    have h1 := h.upto m hle
    have h2 := h.from m hle
    rw [show xs.length - m = 4 by omega] at h2
    by_cases hq : four (sum (xs.take m)) = xs.drop m
    · have he : openE xs = 0 := by unfold openE; rw [if_neg (by omega), hm4, if_pos hq]
      have hv : openV xs = xs.take m := by unfold openV; rw [if_neg (by omega), hm4, if_pos hq]
      rw [he, hv]
      clear he hv
      have hc1 := fun (W : World) => run_cutto eltB W a xs.length c .i64 m (by have := h.le; omega)
      have hc2 := fun (W : World) => run_cutfrom eltB W a xs.length c .i64 m hle
      rw [show xs.length - m = 4 by omega] at hc2
      have hd := (Below.refl w.heap.size w).drew
      have hs2 := fun (W : World) (hW : Below w.heap.size w W) => run_str (P := Tryz.prog) (dst := 9) Tryz.underlying22 Tryz.underlying5 Tryz.underlying9 W _ _ _ _ (h2.keep hW)
      have H := Lib.hid h; clear h
      have H1 := Lib.hid h1; clear h1 h2
      have hq2 : ((strB (four (sum (xs.take m)))).toList == (strB (xs.drop m)).toList) = true := by rw [strB_list, strB_list]; exact beq_iff_eq.2 hq
      clear hq
      have hm' : (xs.length : Int) = (m : Int) + 4 := by omega
      clear hm hm4
      go_enter Tryz.func79, Tryz.ntmps79
      go_wp2_with fail
      go_region_with (first
          | (go_at_call 120; refine (sum_any _ _ _ (xs.take m) _ (by omega) H1.out.drew).mono ?_; rintro e w' ⟨rfl, rfl⟩)
          | (go_at_call 119; refine (put_any _ [] w.heap.size _ w.drew (Nat.le_refl _) (by simp) (OwT.nil _ _ _ _)).mono ?_; rintro e w3 ⟨v3, rfl, h3, hg3, hb3⟩; have hb3 := (Below.refl w.heap.size w).drew.trans hb3; have h3 : OwT fB w3 w.heap.size 5 v3 (four (sum (xs.take m))) := h3; obtain ⟨a3, c3, rfl, hs3⟩ := h3.slB; have hs4 := run_str (P := Tryz.prog) (dst := 9) Tryz.underlying22 Tryz.underlying5 Tryz.underlying9 w3 _ _ _ _ hs3; clear hs3))
      all_goals go_wp2_with (at_builtin; refine wpList_appT eltTB rfl _ _ rfl w.heap.size _ [] (by rfl) (OwT.lit fB _ w.heap.size _ _ [] 0 rfl rfl hb3.size (Nat.zero_le _)) a m c (xs.take m) (by rfl) (H1.out.keep (hb3.alloc hb3.size _)).toT (by unfold maxLen; simp; omega) (by simp; omega) (by have := hb3.size; simp; omega) _ rfl ?_; intro v5 w5 h5 hg5 hv5 hb5)
      all_goals go_ret2
      all_goals exact ⟨_, rfl, h5, (hb3.alloc hb3.size _).trans hb5⟩
    · have he : openE xs = 22 := by unfold openE; rw [if_neg (by omega), hm4, if_neg hq]
      have hv : openV xs = [] := by unfold openV; rw [if_neg (by omega), hm4, if_neg hq]
      rw [he, hv]
      clear he hv
      have hc1 := fun (W : World) => run_cutto eltB W a xs.length c .i64 m (by have := h.le; omega)
      have hc2 := fun (W : World) => run_cutfrom eltB W a xs.length c .i64 m hle
      rw [show xs.length - m = 4 by omega] at hc2
      have hd := (Below.refl w.heap.size w).drew
      have hs2 := fun (W : World) (hW : Below w.heap.size w W) => run_str (P := Tryz.prog) (dst := 9) Tryz.underlying22 Tryz.underlying5 Tryz.underlying9 W _ _ _ _ (h2.keep hW)
      have H := Lib.hid h; clear h
      have H1 := Lib.hid h1; clear h1 h2
      have hq2 : ((strB (four (sum (xs.take m)))).toList == (strB (xs.drop m)).toList) = false := by rw [strB_list, strB_list]; exact beq_eq_false_iff_ne.2 hq
      clear hq
      have hm' : (xs.length : Int) = (m : Int) + 4 := by omega
      clear hm hm4
      go_enter Tryz.func79, Tryz.ntmps79
      go_wp2_with fail
      go_region_with (first
          | (go_at_call 120; refine (sum_any _ _ _ (xs.take m) _ (by omega) H1.out.drew).mono ?_; rintro e w' ⟨rfl, rfl⟩)
          | (go_at_call 119; refine (put_any _ [] w.heap.size _ w.drew (Nat.le_refl _) (by simp) (OwT.nil _ _ _ _)).mono ?_; rintro e w3 ⟨v3, rfl, h3, hg3, hb3⟩; have hb3 := (Below.refl w.heap.size w).drew.trans hb3; have h3 : OwT fB w3 w.heap.size 5 v3 (four (sum (xs.take m))) := h3; obtain ⟨a3, c3, rfl, hs3⟩ := h3.slB; have hs4 := run_str (P := Tryz.prog) (dst := 9) Tryz.underlying22 Tryz.underlying5 Tryz.underlying9 w3 _ _ _ _ hs3; clear hs3))
      all_goals go_wp2_with fail
      all_goals go_ret2
      all_goals exact ⟨_, rfl, OwT.nil _ _ _ _, by first | exact hb3 | exact hd.trans hb3⟩

set_option maxRecDepth 100000 in
set_option maxHeartbeats 1000000 in
theorem ropen_any (a : Option Addr) (n c : Nat) (xs : List UInt8) (w : World) (hn : n ≤ 140737488351300) (h : Sl Bf w a n c xs) :
    Calls Tryz.prog 43 #[.slice a n c] w fun e w' => ∃ v, e = .returned (.tuple #[v, .int .i64 (openE xs)]) ∧ OwT fB w' w.heap.size 5 v (openV xs) ∧ Below w.heap.size w w' := by
  obtain rfl : n = xs.length := h.len.symm
  by_cases hlt : (xs.length : Int) < 4
  · have he : openE xs = 21 := by unfold openE; rw [if_pos (by omega)]
    have hv : openV xs = [] := by unfold openV; rw [if_pos (by omega)]
    rw [he, hv]
    clear he hv
    have H := Lib.hid h; clear h
    go_enter Tryz.func43, Tryz.ntmps43
    go_wp2_with fail
    go_ret2
    exact ⟨_, rfl, OwT.nil _ _ _ _, Below.refl _ _⟩
  · obtain ⟨m, hm⟩ : ∃ m, xs.length = m + 4 := ⟨xs.length - 4, by omega⟩
    have hm4 : xs.length - 4 = m := by omega
    have hle : m ≤ xs.length := by omega
    have h1 := h.upto m hle
    have h2 := h.from m hle
    rw [show xs.length - m = 4 by omega] at h2
    by_cases hq : four (sum (xs.take m)) = xs.drop m
    · have he : openE xs = 0 := by unfold openE; rw [if_neg (by omega), hm4, if_pos hq]
      have hv : openV xs = xs.take m := by unfold openV; rw [if_neg (by omega), hm4, if_pos hq]
      rw [he, hv]
      clear he hv
      have hc1 := fun (W : World) => run_cutto eltB W a xs.length c .i64 m (by have := h.le; omega)
      have hc2 := fun (W : World) => run_cutfrom eltB W a xs.length c .i64 m hle
      rw [show xs.length - m = 4 by omega] at hc2
      have hd := (Below.refl w.heap.size w).drew
      have hs2 := fun (W : World) (hW : Below w.heap.size w W) => run_str (P := Tryz.prog) (dst := 9) Tryz.underlying22 Tryz.underlying5 Tryz.underlying9 W _ _ _ _ (h2.keep hW)
      have H := Lib.hid h; clear h
      have H1 := Lib.hid h1; clear h1 h2
      have hq2 : ((strB (four (sum (xs.take m)))).toList == (strB (xs.drop m)).toList) = true := by rw [strB_list, strB_list]; exact beq_iff_eq.2 hq
      clear hq
      have hm' : (xs.length : Int) = (m : Int) + 4 := by omega
      clear hm hm4
      go_enter Tryz.func43, Tryz.ntmps43
      go_wp2_with fail
      go_region_with (first
          | (go_at_call 86; refine (rsum_any _ _ _ (xs.take m) _ (by omega) H1.out.drew).mono ?_; rintro e w' ⟨rfl, rfl⟩)
          | (go_at_call 85; refine (rfour_any _ w.drew).mono ?_; rintro e w3 ⟨v3, rfl, h3, hb3⟩; have hb3 : Below w.heap.size w w3 := (Below.refl w.heap.size w).drew.trans hb3; obtain ⟨a3, c3, rfl, hs3⟩ := h3.slB; have hs4 := run_str (P := Tryz.prog) (dst := 9) Tryz.underlying22 Tryz.underlying5 Tryz.underlying9 w3 _ _ _ _ hs3; clear hs3))
      all_goals go_wp2_with (at_builtin; refine wpList_appT eltTB rfl _ _ rfl w.heap.size _ [] (by rfl) (OwT.lit fB _ w.heap.size _ _ [] 0 rfl rfl hb3.size (Nat.zero_le _)) a m c (xs.take m) (by rfl) (H1.out.keep (hb3.alloc hb3.size _)).toT (by unfold maxLen; simp; omega) (by simp; omega) (by have := hb3.size; simp; omega) _ rfl ?_; intro v5 w5 h5 hg5 hv5 hb5)
      all_goals go_ret2
      all_goals exact ⟨_, rfl, h5, (hb3.alloc hb3.size _).trans hb5⟩
    · have he : openE xs = 22 := by unfold openE; rw [if_neg (by omega), hm4, if_neg hq]
      have hv : openV xs = [] := by unfold openV; rw [if_neg (by omega), hm4, if_neg hq]
      rw [he, hv]
      clear he hv
      have hc1 := fun (W : World) => run_cutto eltB W a xs.length c .i64 m (by have := h.le; omega)
      have hc2 := fun (W : World) => run_cutfrom eltB W a xs.length c .i64 m hle
      rw [show xs.length - m = 4 by omega] at hc2
      have hd := (Below.refl w.heap.size w).drew
      have hs2 := fun (W : World) (hW : Below w.heap.size w W) => run_str (P := Tryz.prog) (dst := 9) Tryz.underlying22 Tryz.underlying5 Tryz.underlying9 W _ _ _ _ (h2.keep hW)
      have H := Lib.hid h; clear h
      have H1 := Lib.hid h1; clear h1 h2
      have hq2 : ((strB (four (sum (xs.take m)))).toList == (strB (xs.drop m)).toList) = false := by rw [strB_list, strB_list]; exact beq_eq_false_iff_ne.2 hq
      clear hq
      have hm' : (xs.length : Int) = (m : Int) + 4 := by omega
      clear hm hm4
      go_enter Tryz.func43, Tryz.ntmps43
      go_wp2_with fail
      go_region_with (first
          | (go_at_call 86; refine (rsum_any _ _ _ (xs.take m) _ (by omega) H1.out.drew).mono ?_; rintro e w' ⟨rfl, rfl⟩)
          | (go_at_call 85; refine (rfour_any _ w.drew).mono ?_; rintro e w3 ⟨v3, rfl, h3, hb3⟩; have hb3 : Below w.heap.size w w3 := (Below.refl w.heap.size w).drew.trans hb3; obtain ⟨a3, c3, rfl, hs3⟩ := h3.slB; have hs4 := run_str (P := Tryz.prog) (dst := 9) Tryz.underlying22 Tryz.underlying5 Tryz.underlying9 w3 _ _ _ _ hs3; clear hs3))
      all_goals go_wp2_with fail
      all_goals go_ret2
      all_goals exact ⟨_, rfl, OwT.nil _ _ _ _, by first | exact hb3 | exact hd.trans hb3⟩
end Go.Proofs.YtljcogimeimknaaGreat
