/- The contracts of the program's and the reference's step, in, Sum and More: what each computes, in registers. No condition but that the slice reads as bytes. -/
import Derived.Test.YtaablclccklhnaaRows
import Derived.Test.YtaablclccklhnaaCrcDef
namespace Go.Proofs.Ytaablclccklhnaa
open Go.RowKit

theorem step_any (s : BitVec 32) (w : World) :
    Calls Try.prog 44 #[.int .u32 (U s)] w fun e w' => e = .returned (.int .u32 (U (stp s))) ∧ w = w' := by
  have r1 := U_xor; have r2 := U_and1; have r3 := U_poly; have r4 := U_neg; have r5 := U_half
  go_enter Try.func44, Try.ntmps44
  go_wp2
  go_ret
  exact ⟨rfl, rfl⟩

set_option maxHeartbeats 400000 in
theorem in_any (s : BitVec 32) (a : Option Addr) (n c : Nat) (bs : List UInt8) (w : World) (hn : n ≤ 9223372036854775807) (h : Sl Bf w a n c bs) :
    Calls Try.prog 36 #[.int .u32 (U s), .slice a n c] w fun e w' => e = .returned (.int .u32 (U (inn s bs))) ∧ w = w' := by
  have r1 := U_xor; have r6 := B_u32
  have H := Lib.hid h; clear h
  go_enter Try.func36, Try.ntmps36
  go_wp2
  go_loop [0, 9] (fun x i => ∃ k : Nat, k ≤ n ∧ i = .int .i64 k ∧ x = .int .u32 (U (inn s (bs.take k)))) (fun _ i => n - (intOf i).toNat)
  case atStart => exact ⟨0, Nat.zero_le _, rfl, rfl⟩
  case round =>
    obtain ⟨k, hk, rfl, rfl⟩ := hrel
    by_cases hlt : k < n
    · obtain ⟨x, b, o, hx, rfl, hc⟩ := H.out.at k hlt
      have hc : w.cell? ⟨b, o + k, none⟩ = some (.int .u8 (B x)) := hc
      have HX := Lib.hid hx; clear hx
      go_wp2_with fail
      go_loop [0, 17] (fun y i => ∃ j : Nat, j ≤ 8 ∧ i = .int .i64 j ∧ y = .int .u32 (U (stpN j (inn s (bs.take k) ^^^ ext x)))) (fun _ i => 8 - (intOf i).toNat)
      case atStart => exact ⟨0, Nat.zero_le _, rfl, rfl⟩
      case round =>
        obtain ⟨j, hj, rfl, rfl⟩ := hrel
        by_cases hlt2 : (j : Int) < 8
        · go_wp2_with (go_at_call 44; refine (step_any _ _).mono ?_; rintro e w' ⟨rfl, rfl⟩)
          go_round
          case rel => exact ⟨j + 1, by omega, by go_num, rfl⟩
          case measure => simp [intOf]; omega
        · go_wp2_with fail
          go_round
          case rel =>
            obtain rfl : j = 8 := by omega
            exact ⟨k + 1, by omega, by go_num, by rw [take_snoc HX.out, inn_snoc]; rfl⟩
          case measure => simp [intOf]; omega
    · go_wp2_with fail
      go_ret
      have hh := H.out.len
      exact ⟨ret_int (by rw [List.take_of_length_le (by omega)]), rfl⟩

theorem in_int {x : Int} (s : BitVec 32) (hx : x = U s) (a : Option Addr) (n c : Nat) (bs : List UInt8) (w : World) (hn : n ≤ 9223372036854775807) (h : Sl Bf w a n c bs) :
    Calls Try.prog 36 #[.int .u32 x, .slice a n c] w fun e w' => e = .returned (.int .u32 (U (inn s bs))) ∧ w = w' := by
  subst hx; exact in_any s a n c bs w hn h

theorem sum_any (a : Option Addr) (n c : Nat) (bs : List UInt8) (w : World) (hn : n ≤ 9223372036854775807) (h : Sl Bf w a n c bs) :
    Calls Try.prog 14 #[.slice a n c] w fun e w' => e = .returned (.int .u32 (U (sum bs))) ∧ w = w' := by
  have H := Lib.hid h; clear h
  go_enter Try.func14, Try.ntmps14
  go_wp2_with (go_at_call 36; refine (in_int 0xffffffff#32 rfl _ _ _ _ _ hn H.out).mono ?_; rintro e w' ⟨rfl, rfl⟩)
  go_ret
  exact ⟨ret_int (U_xmax _), rfl⟩

theorem more_any (s : BitVec 32) (a : Option Addr) (n c : Nat) (bs : List UInt8) (w : World) (hn : n ≤ 9223372036854775807) (h : Sl Bf w a n c bs) :
    Calls Try.prog 16 #[.int .u32 (U s), .slice a n c] w fun e w' => e = .returned (.int .u32 (U (more s bs))) ∧ w = w' := by
  have H := Lib.hid h; clear h
  go_enter Try.func16, Try.ntmps16
  go_wp2_with (go_at_call 36; refine (in_int (~~~s) (U_xmax s) _ _ _ _ _ hn H.out).mono ?_; rintro e w' ⟨rfl, rfl⟩)
  go_ret
  exact ⟨ret_int (U_xmax _), rfl⟩

/-! ### the reference -/
theorem rstep_any (s : BitVec 32) (w : World) :
    Calls Try.prog 37 #[.int .u32 (U s)] w fun e w' => e = .returned (.int .u32 (U (stp s))) ∧ w = w' := by
  have r1 := U_xpoly; have r5 := U_tq
  have hlo := U_lo s
  by_cases hp : U s % 2 = 1
  · have h1 : (U s % 2 == 1) = true := by simpa using hp
    have e := stp_odd s hp
    have E := Lib.hid e; clear e
    clear hp
    go_enter Try.func37, Try.ntmps37
    go_wp2
    go_ret
    exact ⟨ret_int (by rw [E.out]), rfl⟩
  · have h1 : (U s % 2 == 1) = false := by simpa using hp
    have e := stp_even s (by omega)
    have E := Lib.hid e; clear e
    clear hp
    go_enter Try.func37, Try.ntmps37
    go_wp2
    go_ret
    exact ⟨ret_int (by rw [E.out]; exact r5 s), rfl⟩

set_option maxHeartbeats 400000 in
theorem rmore_any (s : BitVec 32) (a : Option Addr) (n c : Nat) (bs : List UInt8) (w : World) (hn : n ≤ 9223372036854775807) (h : Sl Bf w a n c bs) :
    Calls Try.prog 19 #[.int .u32 (U s), .slice a n c] w fun e w' => e = .returned (.int .u32 (U (more s bs))) ∧ w = w' := by
  have r1 := U_xor; have r6 := B_u32; 
  have H := Lib.hid h; clear h
  go_enter Try.func19, Try.ntmps19
  go_wp2_with fail
  go_loop [0, 5] (fun x i => ∃ k : Nat, k ≤ n ∧ i = .int .i64 k ∧ x = .int .u32 (U (inn (~~~s) (bs.take k)))) (fun _ i => n - (intOf i).toNat)
  case atStart => exact ⟨0, Nat.zero_le _, rfl, val_int (U_not' s)⟩
  case round =>
    obtain ⟨k, hk, rfl, rfl⟩ := hrel
    by_cases hlt : k < n
    · obtain ⟨x, b, o, hx, rfl, hc⟩ := H.out.at k hlt
      have hc : w.cell? ⟨b, o + k, none⟩ = some (.int .u8 (B x)) := hc
      have HX := Lib.hid hx; clear hx
      go_wp2_with fail
      go_loop [0, 6] (fun y i => ∃ j : Nat, j ≤ 8 ∧ i = .int .i64 j ∧ y = .int .u32 (U (stpN j (inn (~~~s) (bs.take k) ^^^ ext x)))) (fun _ i => 8 - (intOf i).toNat)
      case atStart => exact ⟨0, Nat.zero_le _, rfl, rfl⟩
      case round =>
        obtain ⟨j, hj, rfl, rfl⟩ := hrel
        by_cases hlt2 : (j : Int) < 8
        · go_wp2_with (go_at_call 37; refine (rstep_any _ _).mono ?_; rintro e w' ⟨rfl, rfl⟩)
          go_round
          case rel => exact ⟨j + 1, by omega, by go_num, rfl⟩
          case measure => simp [intOf]; omega
        · go_wp2_with fail
          go_round
          case rel =>
            obtain rfl : j = 8 := by omega
            exact ⟨k + 1, by omega, by go_num, by rw [take_snoc HX.out, inn_snoc]; rfl⟩
          case measure => simp [intOf]; omega
    · go_wp2_with fail
      go_ret
      have hh := H.out.len
      exact ⟨ret_int (by rw [List.take_of_length_le (by omega)]; exact U_not' _), rfl⟩

theorem rsum_any (a : Option Addr) (n c : Nat) (bs : List UInt8) (w : World) (hn : n ≤ 9223372036854775807) (h : Sl Bf w a n c bs) :
    Calls Try.prog 18 #[.slice a n c] w fun e w' => e = .returned (.int .u32 (U (sum bs))) ∧ w = w' := by
  have H := Lib.hid h; clear h
  have hm := rmore_any 0#32 a n c bs w hn H.out
  have HM := Lib.hid hm; clear hm
  go_enter Try.func18, Try.ntmps18
  go_wp2_with (go_at_call 19; refine HM.out.mono ?_; rintro e w' ⟨rfl, rfl⟩)
  go_ret
  exact ⟨rfl, rfl⟩
end Go.Proofs.Ytaablclccklhnaa
