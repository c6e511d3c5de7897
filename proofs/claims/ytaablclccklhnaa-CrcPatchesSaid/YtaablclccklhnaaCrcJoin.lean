/- The contracts of the program's table and Join, and of the reference's times and Join. No condition. -/
import Derived.Test.YtaablclccklhnaaCrc1
import Derived.Test.YtaablclccklhnaaCrcJoinM
import Derived.Deep.MidRow
namespace Go.Proofs.Ytaablclccklhnaa
open Go.RowKit

/-- a number that an int holds -/
def Fits (n : Nat) : Prop := n ≤ 9223372036854775807
theorem Fits.half {n q : Nat} (h : Fits n) (hq : q ≤ n) : wrap64 ((q : Int) / 2) = ((q / 2 : Nat) : Int) := by
  unfold Fits at h
  rw [IntWalk.wrap64_in _ ⟨by omega, by omega⟩]; omega

theorem Fits.less {n q : Nat} (h : Fits n) (hq : q ≤ n) (h0 : (0 : Int) < q) : (intOf (.int .i64 (wrap64 ((q : Int) / 2)))).toNat < (intOf (.int .i64 (q : Int))).toNat := by
  rw [h.half hq]
  simp only [intOf]
  omega

/-- a table in memory -/
def Tab (w : World) (g : Nat) (t : Nat → BitVec 32) : Prop := ∀ i, i < 32 → w.cell? ⟨g, i, none⟩ = some (.int .u32 (U (t i)))
theorem Tab.keep {w w' : World} {g : Nat} {t : Nat → BitVec 32} (h : Tab w g t) (hb : Below w.heap.size w w') : Tab w' g t := fun i hi => by
  have := h i hi
  rw [hb.cell (p := ⟨g, i, none⟩) (cell_lt this)]; exact this

set_option maxHeartbeats 400000 in
theorem of_any (g : Nat) (t : Nat → BitVec 32) (s : BitVec 32) (w : World) (h : Tab w g t) :
    Calls Try.prog 41 #[.pointer (some ⟨g, 0, none⟩), .int .u32 (U s)] w fun e w' => e = .returned (.int .u32 (U (ofN t s 32))) ∧ Below w.heap.size w w' := by
  have r1 := U_shr; have r2 := U_and1; have r3 := U_neg; have r4 := U_and; have r5 := U_xor
  have H := Lib.hid h; clear h
  go_enter Try.func41, Try.ntmps41
  go_wp2_with fail
  go_loopw [5, 7] (fun x i wr => ∃ k : Nat, k ≤ 32 ∧ i = .int .i64 k ∧ x = .int .u32 (U (ofN t s k)) ∧ Below w.heap.size w wr) (fun _ i _ => 32 - (intOf i).toNat)
  case atStart => exact ⟨0, Nat.zero_le _, rfl, rfl, Below.refl _ _⟩
  case round =>
    obtain ⟨k, hk, rfl, rfl, hb⟩ := hrel
    have HB := Lib.hid hb; clear hb
    by_cases hlt : (k : Int) < 32
    · have hc := (H.out.keep HB.out) k (by omega)
      go_wp2_with fail
      go_quiet (fail)
      go_wp2_with fail
      go_roundw
      case rel => exact ⟨k + 1, by omega, by go_num, rfl, keep_drewN HB.out _⟩
      case measure => simp [intOf]; omega
    · go_wp2_with fail
      go_ret
      obtain rfl : k = 32 := by omega
      exact ⟨rfl, HB.out⟩

theorem rtimes_any (m : Nat) (s : BitVec 32) (w : World) :
    Calls Try.prog 43 #[.int .u32 (U s), .int .u32 (U (stpN m topb))] w fun e w' => e = .returned (.int .u32 (U (stpN m s))) ∧ w = w' := by
  have r1 := U_shr; have r2 := U_and1; have r5 := U_xor
  go_enter Try.func43, Try.ntmps43
  go_wp2_with fail
  go_loop [1, 5, 6] (fun b x i => ∃ j : Nat, j ≤ 32 ∧ i = .int .i64 ((j : Int) - 1) ∧ x = .int .u32 (U (stpN m (highb s j))) ∧ b = .int .u32 (U (tbv m j))) (fun _ _ i => (intOf i + 1).toNat)
  case atStart => exact ⟨32, Nat.le_refl _, rfl, by rw [highb_none, stpN_zero]; rfl, rfl⟩
  case round =>
    obtain ⟨j, hj, rfl, rfl, rfl⟩ := hrel
    by_cases hlt : (j : Int) = 0
    · obtain rfl : j = 0 := by omega
      go_wp2_with fail
      go_ret
      exact ⟨ret_int (by rw [highb_all]), rfl⟩
    · obtain ⟨k, rfl⟩ : ∃ k, j = k + 1 := ⟨j - 1, by omega⟩
      have hk : ((k + 1 : Nat) : Int) - 1 = (k : Int) := by omega
      rw [hk]
      clear hlt hk
      have hk32 : (k : Int) < 32 := by omega
      have hb8 := U_bit s k
      have hts := times_step m k s (by omega)
      have hst := tbv_stp m k (by omega)
      have HS := Lib.hid hst; clear hst
      by_cases hbit : s.getLsbD k = true
      · rw [hbit] at hb8
        rw [hbit, if_pos rfl] at hts
        have HT := Lib.hid hts; clear hts hbit
        go_wp2_with (go_at_call 37; refine (rstep_any _ _).mono ?_; rintro e w' ⟨rfl, rfl⟩)
        go_round
        case rel => exact ⟨k, by omega, by go_num, by rw [HT.out], by rw [HS.out]⟩
        case measure => simp [intOf]
      · have hbit := eq_false_of_ne_true hbit
        rw [hbit] at hb8
        rw [hbit, if_neg (by decide)] at hts
        have HT := Lib.hid hts; clear hts hbit
        go_wp2_with (go_at_call 37; refine (rstep_any _ _).mono ?_; rintro e w' ⟨rfl, rfl⟩)
        go_round
        case rel => exact ⟨k, by omega, by go_num, by rw [HT.out], by rw [HS.out]⟩
        case measure => simp [intOf]

theorem rjoin_neg (a b : BitVec 32) (n : Int) (w : World) (hn : n < 0) :
    Calls Try.prog 35 #[.int .u32 (U a), .int .u32 (U b), .int .i64 n] w fun e w' => e = .returned (.tuple #[.int .u32 0, .int .i64 1]) ∧ w = w' := by
  go_enter Try.func35, Try.ntmps35
  go_wp2_with fail
  go_ret2
  exact ⟨rfl, rfl⟩

set_option maxHeartbeats 400000 in
theorem rjoin_any (a b : BitVec 32) (n : Nat) (w : World) (hn : Fits n) :
    Calls Try.prog 35 #[.int .u32 (U a), .int .u32 (U b), .int .i64 n] w fun e w' => e = .returned (.tuple #[.int .u32 (U (joinS a b n)), .int .i64 0]) ∧ w = w' := by
  go_enter Try.func35, Try.ntmps35
  go_wp2_with fail
  go_loop [0, 2, 8] (fun x i y => ∃ (m q : Nat) (s : BitVec 32), q ≤ n ∧ i = .int .i64 q ∧ x = .int .u32 (U s) ∧ y = .int .u32 (U (stpN m topb)) ∧ stpN (m * q) s = stpN (8 * n) a) (fun _ i _ => (intOf i).toNat)
  case atStart => exact ⟨8, n, a, Nat.le_refl _, rfl, rfl, val_int (by rw [topb_eight]; rfl), rfl⟩
  case round =>
    obtain ⟨m, q, s, hq, rfl, rfl, rfl, he⟩ := hrel
    by_cases h0 : (q : Int) = 0
    · obtain rfl : q = 0 := by omega
      have HE := Lib.hid he; clear he
      go_wp2_with fail
      go_ret2
      have := HE.out
      rw [Nat.mul_zero] at this
      refine ⟨?_, rfl⟩
      unfold joinS; rw [← this, ← U_xor]; rfl
    · have hpos : (0 : Int) < q := by omega
      by_cases ho : q % 2 = 1
      · have ho2 : ((q : Int) % 2 == 1) = true := by simp; omega
        have he2 := half_odd m q s ho
        have HE := Lib.hid (he2.trans he); clear he he2 ho h0
        go_wp2_with (go_at_call 43; refine (rtimes_any m _ _).mono ?_; rintro e w' ⟨rfl, rfl⟩)
        go_round
        case rel => exact ⟨m + m, q / 2, _, by omega, val_int (hn.half hq), rfl, by rw [stpN_add], HE.out⟩
        case measure => exact hn.less hq hpos
      · have ho2 : ((q : Int) % 2 == 1) = false := by simp; omega
        have he2 := half_even m q s (by omega)
        have HE := Lib.hid (he2.trans he); clear he he2 ho h0
        go_wp2_with (go_at_call 43; refine (rtimes_any m _ _).mono ?_; rintro e w' ⟨rfl, rfl⟩)
        go_round
        case rel => exact ⟨m + m, q / 2, _, by omega, val_int (hn.half hq), rfl, by rw [stpN_add], HE.out⟩
        case measure => exact hn.less hq hpos
end Go.Proofs.Ytaablclccklhnaa
