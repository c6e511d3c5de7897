/- CrcJoins: the walk: the law's Go text returns true and writes nothing that was there. Condition: the slice within 2^63 elements. -/
import Derived.Test.YtaablclccklhnaaCrcSums
import Derived.Test.YtaablclccklhnaaCrcJoinP
namespace Go.Proofs.Ytaablclccklhnaa
open Go.RowKit

def joinV (a b : BitVec 32) (x : Int) : BitVec 32 := if x < 0 then 0#32 else joinS a b x.toNat
def joinE (x : Int) : Int := if x < 0 then 1 else 0
theorem join_all (a b : BitVec 32) (x : Int) (w : World) (hx : x ≤ 9223372036854775807) :
    Calls Try.prog 34 #[.int .u32 (U a), .int .u32 (U b), .int .i64 x] w fun e w' => e = .returned (.tuple #[.int .u32 (U (joinV a b x)), .int .i64 (joinE x)]) ∧ Below w.heap.size w w' := by
  unfold joinV joinE
  by_cases h : x < 0
  · rw [if_pos h, if_pos h]
    refine (join_neg a b x w h).mono ?_
    rintro e w' ⟨rfl, rfl⟩
    exact ⟨rfl, Below.refl _ _⟩
  · rw [if_neg h, if_neg h]
    obtain ⟨n, rfl⟩ : ∃ n : Nat, x = n := ⟨x.toNat, by omega⟩
    exact join_any a b n w (by unfold Fits; omega)
theorem rjoin_all (a b : BitVec 32) (x : Int) (w : World) (hx : x ≤ 9223372036854775807) :
    Calls Try.prog 35 #[.int .u32 (U a), .int .u32 (U b), .int .i64 x] w fun e w' => e = .returned (.tuple #[.int .u32 (U (joinV a b x)), .int .i64 (joinE x)]) ∧ w = w' := by
  unfold joinV joinE
  by_cases h : x < 0
  · rw [if_pos h, if_pos h]
    exact rjoin_neg a b x w h
  · rw [if_neg h, if_neg h]
    obtain ⟨n, rfl⟩ : ∃ n : Nat, x = n := ⟨x.toNat, by omega⟩
    exact rjoin_any a b n w (by unfold Fits; omega)
theorem N_u32 (k : Nat) : (k : Int) % 4294967296 = U (BitVec.ofNat 32 k) := by
  unfold U; rw [BitVec.toNat_ofNat]; omega

set_option maxHeartbeats 400000 in
theorem crcJoins_walk (sa sb : BitVec 32) (a : Option Addr) (n c : Nat) (xs : List Int) (w : World)
    (hn : n ≤ 9223372036854775807) (h : Sl (fun x => Value.int .i64 x) w a n c xs) (hx : ∀ x ∈ xs, x ≤ 9223372036854775807) :
    Calls Try.prog 10 #[.int .u32 (U sa), .int .u32 (U sb), .slice a n c] w fun e w' => e = .returned (.bool true) ∧ Below w.heap.size w w' := by
  have H := Lib.hid h; clear h
  have HX := Lib.hid hx; clear hx
  go_enter Try.func10, Try.ntmps10
  go_wp2_with fail
  refine (lives_any _).mono ?_
  rintro e w1 ⟨rfl, hb1⟩
  have G1 := Lib.hid hb1; clear hb1
  have H1 := Lib.hid (H.out.keep G1.out); clear H
  go_wp2_with fail
  go_loopw [0, 1, 8] (fun x y i wr => ∃ (k : Nat) (s t : BitVec 32), k ≤ n ∧ i = .int .i64 k ∧ x = .int .u32 (U s) ∧ y = .int .u32 (U t) ∧ Below w1.heap.size w1 wr) (fun _ _ i _ => n - (intOf i).toNat)
  case atStart => exact ⟨0, sa, sb, Nat.zero_le _, rfl, rfl, rfl, Below.refl _ _⟩
  case round =>
    obtain ⟨k, s, t, hk, rfl, rfl, rfl, hb⟩ := hrel
    have HB := Lib.hid hb; clear hb
    by_cases hlt : k < n
    · obtain ⟨x, b, o, hx, rfl, hc⟩ := (H1.out.keep HB.out).at k hlt
      have hc : wr.cell? ⟨b, o + k, none⟩ = some (.int .i64 x) := hc
      have hm := HX.out x (List.mem_of_getElem? hx)
      have HM := Lib.hid hm; clear hm
      clear hx
      go_wp2_with fail
      refine (join_all s t x _ HM.out).mono ?_
      rintro e w2 ⟨rfl, hb2⟩
      have hc2 := (hb2.cell (p := ⟨b, o + k, none⟩) (cell_lt hc)).trans hc
      have G2 := Lib.hid (keep_trans HB.out hb2); clear hb2 hc
      go_wp2_with fail
      refine (rjoin_all s t x _ HM.out).mono ?_
      rintro e w3 ⟨rfl, rfl⟩
      go_wp2_with fail
      go_roundw
      case rel => exact ⟨k + 1, _, _, by omega, by go_num, rfl, val_int (by rw [N_u32, U_xor]), G2.out⟩
      case measure => simp [intOf]; omega
    · go_wp2_with fail
      go_ret
      exact ⟨rfl, keep_trans G1.out HB.out⟩
end Go.Proofs.Ytaablclccklhnaa
