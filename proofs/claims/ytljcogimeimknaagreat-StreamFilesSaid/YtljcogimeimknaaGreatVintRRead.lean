/- The reference's Read: contract. Conditions: the slice within reach. Written by a program of this place (gen_VintRRead.py). -/
import Derived.Test.YtljcogimeimknaaGreatF8q
namespace Go.Proofs.YtljcogimeimknaaGreat
set_option linter.unusedVariables false
open Go.RowKit

set_option maxHeartbeats 1000000 in
set_option maxRecDepth 100000 in
theorem rread_any (a : Option Addr) (n c : Nat) (xs : List UInt8) (m : Nat) (w : World) (hn : n ≤ 1000000000000000) (hm : m ≤ n) (h : Sl Bf w a n c xs) :
    Calls Tryz.prog 42 #[.slice a n c, .int .i64 m] w fun e w' => e = .returned (.tuple #[.int .u64 (((rd (xs.drop m) 0 0).1 : Nat) : Int), .int .i64 ((m + (rd (xs.drop m) 0 0).2.1 : Nat) : Int), .int .i64 (rd (xs.drop m) 0 0).2.2]) ∧ w = w' := by
  obtain rfl : n = xs.length := h.len.symm
  have H := Lib.hid h; clear h
  obtain ⟨R, hR⟩ : ∃ R, rd (xs.drop m) 0 0 = R := ⟨_, rfl⟩
  rw [hR]
  have g1 : ¬ ((m : Int) < 0) := by omega
  have g2 : ¬ ((xs.length : Int) < m) := by omega
  have g3 : decide ((m : Int) < 0) = false := decide_eq_false (by omega)
  have g4 : decide (xs.length < m) = false := decide_eq_false (by omega)
  have HR0 := Lib.hid hR; clear hR
  go_enter Tryz.func42, Tryz.ntmps42
  go_wp2_with fail
  go_loopw [7] (fun i wr => ∃ k v : Nat, m + k ≤ xs.length ∧ k ≤ 9 ∧ i = .int .i64 k ∧ v < 128 ^ k ∧ rd (xs.drop (m + k)) k v = R ∧ wr = w) (fun i _ => xs.length + 1 - (intOf i).toNat)
  case atStart => exact ⟨0, 0, hm, by omega, rfl, by decide, HR0.out, rfl⟩
  case round =>
    obtain ⟨k, v, hp, hk, rfl, hv, hr, hwr⟩ := hrel
    subst hwr
    by_cases hlt : m + k < xs.length
    · obtain ⟨x, b, o, hx, rfl, hc⟩ := H.out.at (m + k) hlt
      have hc : wr.cell? ⟨b, o + (m + k), none⟩ = some (.int .u8 (B x)) := hc
      have f0 : ((k : Int) == (xs.length : Int) - m) = false := by rw [beq_eq_false_iff_ne]; omega
      rw [vdrop_cons hx] at hr
      clear hx
      by_cases hc1 : k = 9 ∧ 1 < x.toNat
      · rw [rd_long hc1] at hr
        have HRR := Lib.hid hr; clear hr
        have f9 : ((k : Int) == 9) = true := by rw [beq_iff_eq]; omega
        have hcc : 1 < B x := by unfold B; omega
        clear hc1
        go_wp2_with fail
        go_ret3
        exact ⟨by rw [← HRR.out]; rfl, rfl⟩
      · by_cases hc2 : 0 < k ∧ x.toNat = 0
        · rw [rd_form hc2] at hr
          have HRR := Lib.hid hr; clear hr
          have hcc : ¬ 1 < B x := by unfold B; omega
          have hk0 : (0 : Int) < k := by omega
          have hz : (B x == 0) = true := by rw [beq_iff_eq]; unfold B; omega
          by_cases h9 : k = 9
          · have f9 : ((k : Int) == 9) = true := by rw [beq_iff_eq]; omega
            clear hc1 hc2 h9
            go_wp2_with fail
            go_ret3
            exact ⟨by rw [← HRR.out]; rfl, rfl⟩
          · have f9 : ((k : Int) == 9) = false := by rw [beq_eq_false_iff_ne]; omega
            clear hc1 hc2 h9
            go_wp2_with fail
            go_ret3
            exact ⟨by rw [← HRR.out]; rfl, rfl⟩
        · by_cases h9 : k = 9
          · have f9 : ((k : Int) == 9) = true := by rw [beq_iff_eq]; omega
            have hcc : ¬ 1 < B x := by unfold B; omega
            have hk0 : (0 : Int) < k := by omega
            have hz : (B x == 0) = false := by rw [beq_eq_false_iff_ne]; unfold B; omega
            have c3 : x.toNat < 128 := by omega
            rw [rd_last hc1 hc2 c3] at hr
            have hlt2 : B x < 128 := by unfold B; omega
            clear c3 h9
            have HRR := Lib.hid hr; clear hr
            obtain ⟨lp, hlp⟩ : ∃ lp, lp = (xs.drop m).take (k + 1) := ⟨_, rfl⟩
            have hll : lp.length = k + 1 := by rw [hlp, List.length_take, List.length_drop]; omega
            have hR2 : R.2.2 = 0 ∧ R.2.1 = k + 1 := by rw [← HRR.out]; exact ⟨rfl, rfl⟩
            have hsv : R.1 = sev lp := by
              have h0 := HR0.out
              have h1 := rd_sev (xs.drop m) 0 0 (by rw [h0]; exact hR2.1)
              rw [h0] at h1
              obtain ⟨j, e1, _, e3⟩ := h1
              rw [e3, hlp]
              have : j = k + 1 := by rw [hR2.2] at e1; omega
              rw [this]; simp
            have hb64 : sev lp < 18446744073709551616 := by
              rw [← hsv, ← HR0.out]; exact rd_small _ 0 0 (by omega) (by decide)
            have LP := Lib.hid hll
            have LPD := Lib.hid hlp
            have HS := Lib.hid (show sev lp = v + x.toNat % 128 * 128 ^ k by rw [← hsv, ← HRR.out])
            have HB64 := Lib.hid hb64
            clear hll hlp hR2 hsv hb64 hc1 hc2 hv
            go_wp2_with fail

            obtain ⟨w0, rfl⟩ : ∃ w0, w0 = wr := ⟨_, rfl⟩
            go_loopw [9, 10] (fun s i wr => ∃ (j : Nat) (x : Int), j ≤ k + 1 ∧ x = (m : Int) + j - 1 ∧ i = .int .i64 x ∧ s = .int .u64 ((sev (lp.drop j) : Nat) : Int) ∧ wr = w0) (fun _ i _ => (intOf i - m + 1).toNat)
            case atStart =>
              refine ⟨k + 1, _, Nat.le_refl _, ?_, rfl, ?_, rfl⟩
              · omega
              · rw [List.drop_of_length_le (by have := LP.out; omega)]; rfl
            case round =>
              obtain ⟨j, x, hj, hx, rfl, rfl, hwr⟩ := hrel
              subst hwr
              by_cases hj0 : j = 0
              · have hxm : x < m := by omega
                have HJ := Lib.hid hj0
                clear hj0 hx
                go_wp2_with fail
                go_ret3
                refine ⟨?_, rfl⟩
                rw [← HRR.out, HJ.out, List.drop_zero, ← HS.out]
                show _ = Ending.returned (.tuple #[_, .int .i64 ((m + (k + 1) : Nat) : Int), _])
                rfl
              · obtain ⟨q, rfl⟩ : ∃ q, j = q + 1 := ⟨j - 1, by omega⟩
                have hxq : x.toNat = m + q := by omega
                have hxm : (m : Int) ≤ x := by omega
                have hxl : x < (xs.length : Int) := by omega
                have hx0 : 0 ≤ x := by omega
                obtain ⟨y, b2, o2, hy, e2, hc2⟩ := H.out.at (m + q) (by omega)
                cases e2
                have hc2 : wr.cell? ⟨b, o + x.toNat, none⟩ = some (.int .u8 (B y)) := by rw [hxq]; exact hc2
                have hly : lp.drop q = y :: lp.drop (q + 1) := by
                  apply vdrop_cons
                  rw [LPD.out, List.getElem?_take_of_lt (by omega), List.getElem?_drop]; exact hy
                have hsev : sev (lp.drop q) = y.toNat % 128 + 128 * sev (lp.drop (q + 1)) := by rw [hly]; rfl
                have hsl := sev_drop lp q
                have hbd := HB64.out
                obtain ⟨V, hV⟩ : ∃ V, sev (lp.drop (q + 1)) = V := ⟨_, rfl⟩
                rw [hV] at hsev ⊢
                have hb1 : (V : Int) * 128 < 18446744073709551616 := by omega
                have hb2 : (V : Int) * 128 + B y % 128 < 18446744073709551616 := by unfold B; omega
                have hb3 := B_lo y
                have HSV := Lib.hid hsev
                have HB2 := Lib.hid hb2
                have HX := Lib.hid hx
                clear hsev hsl hbd hly hV hx hxq hy hj0 hb1 hb2 hb3
                go_wp2_with fail
                go_roundw
                case rel =>
                  refine ⟨q, x - 1, by omega, by have := HX.out; omega, by go_num, ?_, trivial⟩
                  refine val_int ?_
                  have hb2 := HB2.out
                  have hb3 := B_lo y
                  rw [HSV.out, Int.tmod_eq_emod_of_nonneg (B_lo y)]
                  simp only [IntKind.wrap_u64]
                  unfold B at *; omega
                case measure => simp [intOf]; omega
          · have f9 : ((k : Int) == 9) = false := by rw [beq_eq_false_iff_ne]; omega
            by_cases h0 : k = 0
            · have hk0 : ¬ (0 : Int) < k := by omega
              clear h0
              by_cases c3 : x.toNat < 128
              · rw [rd_last hc1 hc2 c3] at hr
                have hlt2 : B x < 128 := by unfold B; omega
                clear c3
                have HRR := Lib.hid hr; clear hr
                obtain ⟨lp, hlp⟩ : ∃ lp, lp = (xs.drop m).take (k + 1) := ⟨_, rfl⟩
                have hll : lp.length = k + 1 := by rw [hlp, List.length_take, List.length_drop]; omega
                have hR2 : R.2.2 = 0 ∧ R.2.1 = k + 1 := by rw [← HRR.out]; exact ⟨rfl, rfl⟩
                have hsv : R.1 = sev lp := by
                  have h0 := HR0.out
                  have h1 := rd_sev (xs.drop m) 0 0 (by rw [h0]; exact hR2.1)
                  rw [h0] at h1
                  obtain ⟨j, e1, _, e3⟩ := h1
                  rw [e3, hlp]
                  have : j = k + 1 := by rw [hR2.2] at e1; omega
                  rw [this]; simp
                have hb64 : sev lp < 18446744073709551616 := by
                  rw [← hsv, ← HR0.out]; exact rd_small _ 0 0 (by omega) (by decide)
                have LP := Lib.hid hll
                have LPD := Lib.hid hlp
                have HS := Lib.hid (show sev lp = v + x.toNat % 128 * 128 ^ k by rw [← hsv, ← HRR.out])
                have HB64 := Lib.hid hb64
                clear hll hlp hR2 hsv hb64 hc1 hc2 hv
                go_wp2_with fail

                obtain ⟨w0, rfl⟩ : ∃ w0, w0 = wr := ⟨_, rfl⟩
                go_loopw [9, 10] (fun s i wr => ∃ (j : Nat) (x : Int), j ≤ k + 1 ∧ x = (m : Int) + j - 1 ∧ i = .int .i64 x ∧ s = .int .u64 ((sev (lp.drop j) : Nat) : Int) ∧ wr = w0) (fun _ i _ => (intOf i - m + 1).toNat)
                case atStart =>
                  refine ⟨k + 1, _, Nat.le_refl _, ?_, rfl, ?_, rfl⟩
                  · omega
                  · rw [List.drop_of_length_le (by have := LP.out; omega)]; rfl
                case round =>
                  obtain ⟨j, x, hj, hx, rfl, rfl, hwr⟩ := hrel
                  subst hwr
                  by_cases hj0 : j = 0
                  · have hxm : x < m := by omega
                    have HJ := Lib.hid hj0
                    clear hj0 hx
                    go_wp2_with fail
                    go_ret3
                    refine ⟨?_, rfl⟩
                    rw [← HRR.out, HJ.out, List.drop_zero, ← HS.out]
                    show _ = Ending.returned (.tuple #[_, .int .i64 ((m + (k + 1) : Nat) : Int), _])
                    rfl
                  · obtain ⟨q, rfl⟩ : ∃ q, j = q + 1 := ⟨j - 1, by omega⟩
                    have hxq : x.toNat = m + q := by omega
                    have hxm : (m : Int) ≤ x := by omega
                    have hxl : x < (xs.length : Int) := by omega
                    have hx0 : 0 ≤ x := by omega
                    obtain ⟨y, b2, o2, hy, e2, hc2⟩ := H.out.at (m + q) (by omega)
                    cases e2
                    have hc2 : wr.cell? ⟨b, o + x.toNat, none⟩ = some (.int .u8 (B y)) := by rw [hxq]; exact hc2
                    have hly : lp.drop q = y :: lp.drop (q + 1) := by
                      apply vdrop_cons
                      rw [LPD.out, List.getElem?_take_of_lt (by omega), List.getElem?_drop]; exact hy
                    have hsev : sev (lp.drop q) = y.toNat % 128 + 128 * sev (lp.drop (q + 1)) := by rw [hly]; rfl
                    have hsl := sev_drop lp q
                    have hbd := HB64.out
                    obtain ⟨V, hV⟩ : ∃ V, sev (lp.drop (q + 1)) = V := ⟨_, rfl⟩
                    rw [hV] at hsev ⊢
                    have hb1 : (V : Int) * 128 < 18446744073709551616 := by omega
                    have hb2 : (V : Int) * 128 + B y % 128 < 18446744073709551616 := by unfold B; omega
                    have hb3 := B_lo y
                    have HSV := Lib.hid hsev
                    have HB2 := Lib.hid hb2
                    have HX := Lib.hid hx
                    clear hsev hsl hbd hly hV hx hxq hy hj0 hb1 hb2 hb3
                    go_wp2_with fail
                    go_roundw
                    case rel =>
                      refine ⟨q, x - 1, by omega, by have := HX.out; omega, by go_num, ?_, trivial⟩
                      refine val_int ?_
                      have hb2 := HB2.out
                      have hb3 := B_lo y
                      rw [HSV.out, Int.tmod_eq_emod_of_nonneg (B_lo y)]
                      simp only [IntKind.wrap_u64]
                      unfold B at *; omega
                    case measure => simp [intOf]; omega
              · rw [rd_go hc1 hc2 c3] at hr
                have hlt2 : ¬ B x < 128 := by unfold B; omega
                have hk9 : k < 9 := by omega
                clear c3
                have hv2 := go_small (c := x) hv
                have HRR := Lib.hid hr; clear hr
                have HV2 := Lib.hid hv2; clear hv2 hc1 hc2
                go_wp2_with fail
                go_roundw
                case rel => exact ⟨k + 1, _, by omega, by omega, by go_num, HV2.out, by rw [← Nat.add_assoc]; exact HRR.out, trivial⟩
                case measure => simp [intOf]; omega
            · have hk0 : (0 : Int) < k := by omega
              have hz : (B x == 0) = false := by rw [beq_eq_false_iff_ne]; unfold B; omega
              clear h0
              by_cases c3 : x.toNat < 128
              · rw [rd_last hc1 hc2 c3] at hr
                have hlt2 : B x < 128 := by unfold B; omega
                clear c3
                have HRR := Lib.hid hr; clear hr
                obtain ⟨lp, hlp⟩ : ∃ lp, lp = (xs.drop m).take (k + 1) := ⟨_, rfl⟩
                have hll : lp.length = k + 1 := by rw [hlp, List.length_take, List.length_drop]; omega
                have hR2 : R.2.2 = 0 ∧ R.2.1 = k + 1 := by rw [← HRR.out]; exact ⟨rfl, rfl⟩
                have hsv : R.1 = sev lp := by
                  have h0 := HR0.out
                  have h1 := rd_sev (xs.drop m) 0 0 (by rw [h0]; exact hR2.1)
                  rw [h0] at h1
                  obtain ⟨j, e1, _, e3⟩ := h1
                  rw [e3, hlp]
                  have : j = k + 1 := by rw [hR2.2] at e1; omega
                  rw [this]; simp
                have hb64 : sev lp < 18446744073709551616 := by
                  rw [← hsv, ← HR0.out]; exact rd_small _ 0 0 (by omega) (by decide)
                have LP := Lib.hid hll
                have LPD := Lib.hid hlp
                have HS := Lib.hid (show sev lp = v + x.toNat % 128 * 128 ^ k by rw [← hsv, ← HRR.out])
                have HB64 := Lib.hid hb64
                clear hll hlp hR2 hsv hb64 hc1 hc2 hv
                go_wp2_with fail

                obtain ⟨w0, rfl⟩ : ∃ w0, w0 = wr := ⟨_, rfl⟩
                go_loopw [9, 10] (fun s i wr => ∃ (j : Nat) (x : Int), j ≤ k + 1 ∧ x = (m : Int) + j - 1 ∧ i = .int .i64 x ∧ s = .int .u64 ((sev (lp.drop j) : Nat) : Int) ∧ wr = w0) (fun _ i _ => (intOf i - m + 1).toNat)
                case atStart =>
                  refine ⟨k + 1, _, Nat.le_refl _, ?_, rfl, ?_, rfl⟩
                  · omega
                  · rw [List.drop_of_length_le (by have := LP.out; omega)]; rfl
                case round =>
                  obtain ⟨j, x, hj, hx, rfl, rfl, hwr⟩ := hrel
                  subst hwr
                  by_cases hj0 : j = 0
                  · have hxm : x < m := by omega
                    have HJ := Lib.hid hj0
                    clear hj0 hx
                    go_wp2_with fail
                    go_ret3
                    refine ⟨?_, rfl⟩
                    rw [← HRR.out, HJ.out, List.drop_zero, ← HS.out]
                    show _ = Ending.returned (.tuple #[_, .int .i64 ((m + (k + 1) : Nat) : Int), _])
                    rfl
                  · obtain ⟨q, rfl⟩ : ∃ q, j = q + 1 := ⟨j - 1, by omega⟩
                    have hxq : x.toNat = m + q := by omega
                    have hxm : (m : Int) ≤ x := by omega
                    have hxl : x < (xs.length : Int) := by omega
                    have hx0 : 0 ≤ x := by omega
                    obtain ⟨y, b2, o2, hy, e2, hc2⟩ := H.out.at (m + q) (by omega)
                    cases e2
                    have hc2 : wr.cell? ⟨b, o + x.toNat, none⟩ = some (.int .u8 (B y)) := by rw [hxq]; exact hc2
                    have hly : lp.drop q = y :: lp.drop (q + 1) := by
                      apply vdrop_cons
                      rw [LPD.out, List.getElem?_take_of_lt (by omega), List.getElem?_drop]; exact hy
                    have hsev : sev (lp.drop q) = y.toNat % 128 + 128 * sev (lp.drop (q + 1)) := by rw [hly]; rfl
                    have hsl := sev_drop lp q
                    have hbd := HB64.out
                    obtain ⟨V, hV⟩ : ∃ V, sev (lp.drop (q + 1)) = V := ⟨_, rfl⟩
                    rw [hV] at hsev ⊢
                    have hb1 : (V : Int) * 128 < 18446744073709551616 := by omega
                    have hb2 : (V : Int) * 128 + B y % 128 < 18446744073709551616 := by unfold B; omega
                    have hb3 := B_lo y
                    have HSV := Lib.hid hsev
                    have HB2 := Lib.hid hb2
                    have HX := Lib.hid hx
                    clear hsev hsl hbd hly hV hx hxq hy hj0 hb1 hb2 hb3
                    go_wp2_with fail
                    go_roundw
                    case rel =>
                      refine ⟨q, x - 1, by omega, by have := HX.out; omega, by go_num, ?_, trivial⟩
                      refine val_int ?_
                      have hb2 := HB2.out
                      have hb3 := B_lo y
                      rw [HSV.out, Int.tmod_eq_emod_of_nonneg (B_lo y)]
                      simp only [IntKind.wrap_u64]
                      unfold B at *; omega
                    case measure => simp [intOf]; omega
              · rw [rd_go hc1 hc2 c3] at hr
                have hlt2 : ¬ B x < 128 := by unfold B; omega
                have hk9 : k < 9 := by omega
                clear c3
                have hv2 := go_small (c := x) hv
                have HRR := Lib.hid hr; clear hr
                have HV2 := Lib.hid hv2; clear hv2 hc1 hc2
                go_wp2_with fail
                go_roundw
                case rel => exact ⟨k + 1, _, by omega, by omega, by go_num, HV2.out, by rw [← Nat.add_assoc]; exact HRR.out, trivial⟩
                case measure => simp [intOf]; omega
    · have hpe : xs.drop (m + k) = [] := List.drop_of_length_le (by omega)
      rw [hpe, rd_nil] at hr
      have HRR := Lib.hid hr; clear hr hpe
      have f0 : ((k : Int) == (xs.length : Int) - m) = true := by rw [beq_iff_eq]; omega
      have HK := Lib.hid (show xs.length = m + k by omega)
      go_wp2_with fail
      go_ret3
      exact ⟨by rw [← HRR.out, HK.out]; rfl, rfl⟩
end Go.Proofs.YtljcogimeimknaaGreat
