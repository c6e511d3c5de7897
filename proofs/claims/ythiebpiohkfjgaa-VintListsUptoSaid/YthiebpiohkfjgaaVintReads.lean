/- VintReads and lives: walks. Conditions: the slices within reach. -/
import Derived.Test.YthiebpiohkfjgaaVintRRead
import Derived.Test.YthiebpiohkfjgaaHelpA
namespace Go.Proofs.Ythiebpiohkfjgaa
open Go.RowKit

set_option maxRecDepth 100000 in
theorem len300 (w : World) : Calls Try.prog 33 #[.int .u64 300] w fun e w' => e = .returned (.int .i64 9) ∧ w = w' := by
  go_enter Try.func33, Try.ntmps33
  go_wp2_with fail
  go_ret
  exact ⟨ret_int (by decide +kernel), rfl⟩
theorem size300 (w : World) : Calls Try.prog 25 #[.int .u64 300] w fun e w' => e = .returned (.int .i64 2) ∧ w = w' := by
  go_enter Try.func25, Try.ntmps25
  go_wp2_with fail
  refine (len300 _).mono ?_
  rintro e w' ⟨rfl, rfl⟩
  go_wp2_with fail
  go_ret
  exact ⟨rfl, rfl⟩
theorem rd300 : rd [172, 2] 0 0 = (300, 2, 0) := by decide
theorem lives_any (w : World) :
    Calls Try.prog 11 #[] w fun e w' => e = .returned (.bool true) ∧ Below w.heap.size w w' := by
  have hs := Sl.lit (f := Bf) w 5 #[.int .u8 172, .int .u8 2] [172, 2] 2 rfl rfl
  have hr := vread_any _ 2 2 [172, 2] 0 _ (by omega) (by omega) hs
  rw [List.drop_zero, rd300] at hr
  have HR := Lib.hid hr; clear hr hs
  go_enter Try.func11, Try.ntmps11
  go_wp2_with fail
  refine (size300 _).mono ?_
  rintro e w' ⟨rfl, rfl⟩
  go_wp2_with fail
  refine HR.out.mono ?_
  rintro e w2 ⟨rfl, hb⟩
  go_wp2_with fail
  go_ret
  exact ⟨ret_bool rfl, ((Below.refl _ _).alloc (Nat.le_refl _) _).trans (hb.mono (by simp))⟩

set_option maxHeartbeats 1000000 in
set_option maxRecDepth 100000 in
theorem vintReads_walk (a : Option Addr) (n c : Nat) (xs : List UInt8) (a' : Option Addr) (n' c' : Nat) (zs : List Int) (w : World) (hn : n ≤ 140737488351232) (hn' : n' ≤ 140737488351232) (h : Sl Bf w a n c xs) (h' : Sl (Value.int .i64) w a' n' c' zs) :
    Calls Try.prog 3 #[.slice a n c, .slice a' n' c'] w fun e w' => e = .returned (.bool true) ∧ Below w.heap.size w w' := by
  obtain rfl : n = xs.length := h.len.symm
  obtain rfl : n' = zs.length := h'.len.symm
  have H := Lib.hid h; clear h
  have H' := Lib.hid h'; clear h'
  go_enter Try.func3, Try.ntmps3
  go_wp2_with fail
  refine (lives_any _).mono ?_
  rintro e w1 ⟨rfl, hb⟩
  have G := Lib.hid hb; clear hb
  go_wp2_with fail
  refine (lent_any _ _ _ xs _ (by omega) (H.out.keep G.out)).mono ?_
  rintro e w2 ⟨g, rfl, hgs, hL, hb⟩
  have N := Lib.hid hL; clear hL
  have G2 := Lib.hid (keep_trans G.out hb); clear hb G
  have lw2 : w.heap.size ≤ w2.heap.size := G2.out.size
  go_wp2_with fail
  go_loopw [7] (fun i wr => ∃ k : Nat, k ≤ zs.length ∧ i = .int .i64 k ∧ Below w2.heap.size w2 wr) (fun i _ => zs.length - (intOf i).toNat)
  case atStart => exact ⟨0, Nat.zero_le _, rfl, Below.refl _ _⟩
  case round =>
    obtain ⟨k, hk, rfl, hb⟩ := hrel
    have HB := Lib.hid hb; clear hb
    have G3 := Lib.hid (keep_trans G2.out HB.out)
    have NS := Lib.hid (N.out.keep HB.out).sl
    by_cases hlt : k < zs.length
    · obtain ⟨z, b, o, hz, rfl, hc⟩ := (H'.out.keep G3.out).at k hlt
      by_cases hg : 0 ≤ z ∧ z ≤ xs.length
      · obtain ⟨m, rfl⟩ : ∃ m : Nat, z = m := ⟨z.toNat, by omega⟩
        have hm : m ≤ xs.length := by omega
        clear hg hz
        obtain ⟨R, hR⟩ : ∃ R, rd (xs.drop m) 0 0 = R := ⟨_, rfl⟩
        have hv := vread_any _ _ _ xs m _ (by omega) hm NS.out
        have hr := fun (W : World) (hW : Sl Bf W a xs.length c xs) => rread_any _ _ _ xs m W (by omega) hm hW
        rw [hR] at hv hr
        have HV := Lib.hid hv; clear hv
        have HR := Lib.hid hr; clear hr hR
        go_wp2_with fail
        refine HV.out.mono ?_
        rintro e w4 ⟨rfl, hb⟩
        have c4 : w4.cell? ⟨b, o + k, none⟩ = some (.int .i64 m) := by
          obtain ⟨z', b', o', hz', e', hc'⟩ := (H'.out.keep (keep_trans G3.out hb)).at k hlt
          cases e'
          have e5 : w4.cell? ⟨b, o + k, none⟩ = wr.cell? ⟨b, o + k, none⟩ := World.cell?_of_block (hb.block b (cell_lt hc))
          rw [e5]; exact hc
        have HB4 := Lib.hid (keep_trans HB.out hb)
        have G4 := Lib.hid (keep_trans G3.out hb); clear hb
        go_wp2_with fail
        refine (HR.out _ (H.out.keep G4.out)).mono ?_
        rintro e w' ⟨rfl, rfl⟩
        go_wp2_with fail
        go_roundw
        case rel => exact ⟨k + 1, by omega, by go_num, HB4.out⟩
        case measure => simp [intOf]; omega
      · have hx : z < 0 ∨ (xs.length : Int) < z := by omega
        have HX := Lib.hid hx; clear hx hg hz
        go_wp2_with fail
        refine (vread_bad _ _ _ z _ (by omega) HX.out).mono ?_
        rintro e w' ⟨rfl, rfl⟩
        go_wp2_with fail
        refine (rread_bad _ _ _ z _ (by omega) HX.out).mono ?_
        rintro e w' ⟨rfl, rfl⟩
        go_wp2_with fail
        go_roundw
        case rel => exact ⟨k + 1, by omega, by go_num, HB.out⟩
        case measure => simp [intOf]; omega
    · go_wp2_with fail
      refine (kept_any g _ _ _ xs _ (by omega) (N.out.keep HB.out) (H.out.keep G3.out)).mono ?_
      rintro e w5 ⟨rfl, hb⟩
      have G5 := Lib.hid (keep_trans G3.out hb); clear hb
      go_wp2_with fail
      go_ret
      exact ⟨ret_bool (by simp), G5.out⟩
end Go.Proofs.Ythiebpiohkfjgaa
