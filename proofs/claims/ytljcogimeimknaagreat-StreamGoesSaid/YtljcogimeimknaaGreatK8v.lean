/- Several texts in one: VintRRead, CurRTk, CurRNum, RdRef, RdRFn, BlockPlaceM. Each has its own sentence and conditions below. -/
import Derived.Test.YtljcogimeimknaaGreatK8r
import Derived.Test.YtljcogimeimknaaGreatK8q
import Derived.Test.YtljcogimeimknaaGreatK8u
import Derived.Test.YtljcogimeimknaaGreatK8t
/- The reference's Read: contract. Conditions: the slice within reach. Written by a program of this place (gen_VintRRead.py). -/
namespace Go.Proofs.YtljcogimeimknaaGreat
set_option linter.unusedVariables false
open Go.RowKit

set_option maxHeartbeats 1000000 in
set_option maxRecDepth 100000 in
theorem rread_any (a : Option Addr) (n c : Nat) (xs : List UInt8) (m : Nat) (w : World) (hn : n ≤ 1000000000000000) (hm : m ≤ n) (h : Sl Bf w a n c xs) :
    Calls Tryz.prog 42 #[.slice a n c, .int .i64 m] w fun e w' => e = .returned (.tuple #[.int .u64 (((rd (xs.drop m) 0 0).1 : Nat) : Int), .int .i64 ((m + (rd (xs.drop m) 0 0).2.1 : Nat) : Int), .int .i64 (rd (xs.drop m) 0 0).2.2]) ∧ w = w' := by
  obtain rfl : n = xs.length := h.len.symm
  have H := Lib.hid h; clear h
  obtain ⟨R, hR⟩ : ∃ R, rd (xs.drop m) 0 0 = R := ⟨_, rfl⟩
  rw [hR]
  have g1 : ¬ ((m : Int) < 0) := by omega
  have g2 : ¬ ((xs.length : Int) < m) := by omega
  have g3 : decide ((m : Int) < 0) = false := decide_eq_false (by omega)
  have g4 : decide (xs.length < m) = false := decide_eq_false (by omega)
  have HR0 := Lib.hid hR; clear hR
  go_enter Tryz.func42, Tryz.ntmps42
  go_wp2_with fail
  go_loopw [7] (fun i wr => ∃ k v : Nat, m + k ≤ xs.length ∧ k ≤ 9 ∧ i = .int .i64 k ∧ v < 128 ^ k ∧ rd (xs.drop (m + k)) k v = R ∧ wr = w) (fun i _ => xs.length + 1 - (intOf i).toNat)
  case atStart => exact ⟨0, 0, hm, by omega, rfl, by decide, HR0.out, rfl⟩
  case round =>
    obtain ⟨k, v, hp, hk, rfl, hv, hr, hwr⟩ := hrel
    subst hwr
    by_cases hlt : m + k < xs.length
    · obtain ⟨x, b, o, hx, rfl, hc⟩ := H.out.at (m + k) hlt
      have hc : wr.cell? ⟨b, o + (m + k), none⟩ = some (.int .u8 (B x)) := hc
      have f0 : ((k : Int) == (xs.length : Int) - m) = false := by rw [beq_eq_false_iff_ne]; omega
      rw [vdrop_cons hx] at hr
      clear hx
      by_cases hc1 : k = 9 ∧ 1 < x.toNat
      · rw [rd_long hc1] at hr
        have HRR := Lib.hid hr; clear hr
        have f9 : ((k : Int) == 9) = true := by rw [beq_iff_eq]; omega
        have hcc : 1 < B x := by unfold B; omega
        clear hc1
        go_wp2_with fail
        go_ret3
        exact ⟨by rw [← HRR.out]; rfl, rfl⟩
      · by_cases hc2 : 0 < k ∧ x.toNat = 0
        · rw [rd_form hc2] at hr
          have HRR := Lib.hid hr; clear hr
          have hcc : ¬ 1 < B x := by unfold B; omega
          have hk0 : (0 : Int) < k := by omega
          have hz : (B x == 0) = true := by rw [beq_iff_eq]; unfold B; omega
          by_cases h9 : k = 9
          · have f9 : ((k : Int) == 9) = true := by rw [beq_iff_eq]; omega
            clear hc1 hc2 h9
            go_wp2_with fail
            go_ret3
            exact ⟨by rw [← HRR.out]; rfl, rfl⟩
          · have f9 : ((k : Int) == 9) = false := by rw [beq_eq_false_iff_ne]; omega
            clear hc1 hc2 h9
            go_wp2_with fail
            go_ret3
            exact ⟨by rw [← HRR.out]; rfl, rfl⟩
        · by_cases h9 : k = 9
          · have f9 : ((k : Int) == 9) = true := by rw [beq_iff_eq]; omega
            have hcc : ¬ 1 < B x := by unfold B; omega
            have hk0 : (0 : Int) < k := by omega
            have hz : (B x == 0) = false := by rw [beq_eq_false_iff_ne]; unfold B; omega
            have c3 : x.toNat < 128 := by omega
            rw [rd_last hc1 hc2 c3] at hr
            have hlt2 : B x < 128 := by unfold B; omega
            clear c3 h9
            have HRR := Lib.hid hr; clear hr
            obtain ⟨lp, hlp⟩ : ∃ lp, lp = (xs.drop m).take (k + 1) := ⟨_, rfl⟩
            have hll : lp.length = k + 1 := by rw [hlp, List.length_take, List.length_drop]; omega
            have hR2 : R.2.2 = 0 ∧ R.2.1 = k + 1 := by rw [← HRR.out]; exact ⟨rfl, rfl⟩
            have hsv : R.1 = sev lp := by
              have h0 := HR0.out
              have h1 := rd_sev (xs.drop m) 0 0 (by rw [h0]; exact hR2.1)
              rw [h0] at h1
              obtain ⟨j, e1, _, e3⟩ := h1
              rw [e3, hlp]
              have : j = k + 1 := by rw [hR2.2] at e1; omega
              rw [this]; simp
            have hb64 : sev lp < 18446744073709551616 := by
              rw [← hsv, ← HR0.out]; exact rd_small _ 0 0 (by omega) (by decide)
            have LP := Lib.hid hll
            have LPD := Lib.hid hlp
            have HS := Lib.hid (show sev lp = v + x.toNat % 128 * 128 ^ k by rw [← hsv, ← HRR.out])
            have HB64 := Lib.hid hb64
            clear hll hlp hR2 hsv hb64 hc1 hc2 hv
            go_wp2_with fail

            obtain ⟨w0, rfl⟩ : ∃ w0, w0 = wr := ⟨_, rfl⟩
            go_loopw [9, 10] (fun s i wr => ∃ (j : Nat) (x : Int), j ≤ k + 1 ∧ x = (m : Int) + j - 1 ∧ i = .int .i64 x ∧ s = .int .u64 ((sev (lp.drop j) : Nat) : Int) ∧ wr = w0) (fun _ i _ => (intOf i - m + 1).toNat)
            case atStart =>
              refine ⟨k + 1, _, Nat.le_refl _, ?_, rfl, ?_, rfl⟩
              · omega
              · rw [List.drop_of_length_le (by have := LP.out; omega)]; rfl
            case round =>
              obtain ⟨j, x, hj, hx, rfl, rfl, hwr⟩ := hrel
              subst hwr
              by_cases hj0 : j = 0
              · have hxm : x < m := by omega
                have HJ := Lib.hid hj0
                clear hj0 hx
                go_wp2_with fail
                go_ret3
                refine ⟨?_, rfl⟩
                rw [← HRR.out, HJ.out, List.drop_zero, ← HS.out]
                show _ = Ending.returned (.tuple #[_, .int .i64 ((m + (k + 1) : Nat) : Int), _])
                rfl
              · obtain ⟨q, rfl⟩ : ∃ q, j = q + 1 := ⟨j - 1, by omega⟩
                have hxq : x.toNat = m + q := by omega
                have hxm : (m : Int) ≤ x := by omega
                have hxl : x < (xs.length : Int) := by omega
                have hx0 : 0 ≤ x := by omega
                obtain ⟨y, b2, o2, hy, e2, hc2⟩ := H.out.at (m + q) (by omega)
                cases e2
                have hc2 : wr.cell? ⟨b, o + x.toNat, none⟩ = some (.int .u8 (B y)) := by rw [hxq]; exact hc2
                have hly : lp.drop q = y :: lp.drop (q + 1) := by
                  apply vdrop_cons
                  rw [LPD.out, List.getElem?_take_of_lt (by omega), List.getElem?_drop]; exact hy
                have hsev : sev (lp.drop q) = y.toNat % 128 + 128 * sev (lp.drop (q + 1)) := by rw [hly]; rfl
                have hsl := sev_drop lp q
                have hbd := HB64.out
                obtain ⟨V, hV⟩ : ∃ V, sev (lp.drop (q + 1)) = V := ⟨_, rfl⟩
                rw [hV] at hsev ⊢
                have hb1 : (V : Int) * 128 < 18446744073709551616 := by omega
                have hb2 : (V : Int) * 128 + B y % 128 < 18446744073709551616 := by unfold B; omega
                have hb3 := B_lo y
                have HSV := Lib.hid hsev
                have HB2 := Lib.hid hb2
                have HX := Lib.hid hx
                clear hsev hsl hbd hly hV hx hxq hy hj0 hb1 hb2 hb3
                go_wp2_with fail
                go_roundw
                case rel =>
                  refine ⟨q, x - 1, by omega, by have := HX.out; omega, by go_num, ?_, trivial⟩
                  refine val_int ?_
                  have hb2 := HB2.out
                  have hb3 := B_lo y
                  rw [HSV.out, Int.tmod_eq_emod_of_nonneg (B_lo y)]
                  simp only [IntKind.wrap_u64]
                  unfold B at *; omega
                case measure => simp [intOf]; omega
          · have f9 : ((k : Int) == 9) = false := by rw [beq_eq_false_iff_ne]; omega
            by_cases h0 : k = 0
            · have hk0 : ¬ (0 : Int) < k := by omega
              clear h0
              by_cases c3 : x.toNat < 128
              · rw [rd_last hc1 hc2 c3] at hr
                have hlt2 : B x < 128 := by unfold B; omega
                clear c3
                have HRR := Lib.hid hr; clear hr
                obtain ⟨lp, hlp⟩ : ∃ lp, lp = (xs.drop m).take (k + 1) := ⟨_, rfl⟩
                have hll : lp.length = k + 1 := by rw [hlp, List.length_take, List.length_drop]; omega
                have hR2 : R.2.2 = 0 ∧ R.2.1 = k + 1 := by rw [← HRR.out]; exact ⟨rfl, rfl⟩
                have hsv : R.1 = sev lp := by
                  have h0 := HR0.out
                  have h1 := rd_sev (xs.drop m) 0 0 (by rw [h0]; exact hR2.1)
                  rw [h0] at h1
                  obtain ⟨j, e1, _, e3⟩ := h1
                  rw [e3, hlp]
                  have : j = k + 1 := by rw [hR2.2] at e1; omega
                  rw [this]; simp
                have hb64 : sev lp < 18446744073709551616 := by
                  rw [← hsv, ← HR0.out]; exact rd_small _ 0 0 (by omega) (by decide)
                have LP := Lib.hid hll
                have LPD := Lib.hid hlp
                have HS := Lib.hid (show sev lp = v + x.toNat % 128 * 128 ^ k by rw [← hsv, ← HRR.out])
                have HB64 := Lib.hid hb64
                clear hll hlp hR2 hsv hb64 hc1 hc2 hv
                go_wp2_with fail

                obtain ⟨w0, rfl⟩ : ∃ w0, w0 = wr := ⟨_, rfl⟩
                go_loopw [9, 10] (fun s i wr => ∃ (j : Nat) (x : Int), j ≤ k + 1 ∧ x = (m : Int) + j - 1 ∧ i = .int .i64 x ∧ s = .int .u64 ((sev (lp.drop j) : Nat) : Int) ∧ wr = w0) (fun _ i _ => (intOf i - m + 1).toNat)
                case atStart =>
                  refine ⟨k + 1, _, Nat.le_refl _, ?_, rfl, ?_, rfl⟩
                  · omega
                  · rw [List.drop_of_length_le (by have := LP.out; omega)]; rfl
                case round =>
                  obtain ⟨j, x, hj, hx, rfl, rfl, hwr⟩ := hrel
                  subst hwr
                  by_cases hj0 : j = 0
                  · have hxm : x < m := by omega
                    have HJ := Lib.hid hj0
                    clear hj0 hx
                    go_wp2_with fail
                    go_ret3
                    refine ⟨?_, rfl⟩
                    rw [← HRR.out, HJ.out, List.drop_zero, ← HS.out]
                    show _ = Ending.returned (.tuple #[_, .int .i64 ((m + (k + 1) : Nat) : Int), _])
                    rfl
                  · obtain ⟨q, rfl⟩ : ∃ q, j = q + 1 := ⟨j - 1, by omega⟩
                    have hxq : x.toNat = m + q := by omega
                    have hxm : (m : Int) ≤ x := by omega
                    have hxl : x < (xs.length : Int) := by omega
                    have hx0 : 0 ≤ x := by omega
                    obtain ⟨y, b2, o2, hy, e2, hc2⟩ := H.out.at (m + q) (by omega)
                    cases e2
                    have hc2 : wr.cell? ⟨b, o + x.toNat, none⟩ = some (.int .u8 (B y)) := by rw [hxq]; exact hc2
                    have hly : lp.drop q = y :: lp.drop (q + 1) := by
                      apply vdrop_cons
                      rw [LPD.out, List.getElem?_take_of_lt (by omega), List.getElem?_drop]; exact hy
                    have hsev : sev (lp.drop q) = y.toNat % 128 + 128 * sev (lp.drop (q + 1)) := by rw [hly]; rfl
                    have hsl := sev_drop lp q
                    have hbd := HB64.out
                    obtain ⟨V, hV⟩ : ∃ V, sev (lp.drop (q + 1)) = V := ⟨_, rfl⟩
                    rw [hV] at hsev ⊢
                    have hb1 : (V : Int) * 128 < 18446744073709551616 := by omega
                    have hb2 : (V : Int) * 128 + B y % 128 < 18446744073709551616 := by unfold B; omega
                    have hb3 := B_lo y
                    have HSV := Lib.hid hsev
                    have HB2 := Lib.hid hb2
                    have HX := Lib.hid hx
                    clear hsev hsl hbd hly hV hx hxq hy hj0 hb1 hb2 hb3
                    go_wp2_with fail
                    go_roundw
                    case rel =>
                      refine ⟨q, x - 1, by omega, by have := HX.out; omega, by go_num, ?_, trivial⟩
                      refine val_int ?_
                      have hb2 := HB2.out
                      have hb3 := B_lo y
                      rw [HSV.out, Int.tmod_eq_emod_of_nonneg (B_lo y)]
                      simp only [IntKind.wrap_u64]
                      unfold B at *; omega
                    case measure => simp [intOf]; omega
              · rw [rd_go hc1 hc2 c3] at hr
                have hlt2 : ¬ B x < 128 := by unfold B; omega
                have hk9 : k < 9 := by omega
                clear c3
                have hv2 := go_small (c := x) hv
                have HRR := Lib.hid hr; clear hr
                have HV2 := Lib.hid hv2; clear hv2 hc1 hc2
                go_wp2_with fail
                go_roundw
                case rel => exact ⟨k + 1, _, by omega, by omega, by go_num, HV2.out, by rw [← Nat.add_assoc]; exact HRR.out, trivial⟩
                case measure => simp [intOf]; omega
            · have hk0 : (0 : Int) < k := by omega
              have hz : (B x == 0) = false := by rw [beq_eq_false_iff_ne]; unfold B; omega
              clear h0
              by_cases c3 : x.toNat < 128
              · rw [rd_last hc1 hc2 c3] at hr
                have hlt2 : B x < 128 := by unfold B; omega
                clear c3
                have HRR := Lib.hid hr; clear hr
                obtain ⟨lp, hlp⟩ : ∃ lp, lp = (xs.drop m).take (k + 1) := ⟨_, rfl⟩
                have hll : lp.length = k + 1 := by rw [hlp, List.length_take, List.length_drop]; omega
                have hR2 : R.2.2 = 0 ∧ R.2.1 = k + 1 := by rw [← HRR.out]; exact ⟨rfl, rfl⟩
                have hsv : R.1 = sev lp := by
                  have h0 := HR0.out
                  have h1 := rd_sev (xs.drop m) 0 0 (by rw [h0]; exact hR2.1)
                  rw [h0] at h1
                  obtain ⟨j, e1, _, e3⟩ := h1
                  rw [e3, hlp]
                  have : j = k + 1 := by rw [hR2.2] at e1; omega
                  rw [this]; simp
                have hb64 : sev lp < 18446744073709551616 := by
                  rw [← hsv, ← HR0.out]; exact rd_small _ 0 0 (by omega) (by decide)
                have LP := Lib.hid hll
                have LPD := Lib.hid hlp
                have HS := Lib.hid (show sev lp = v + x.toNat % 128 * 128 ^ k by rw [← hsv, ← HRR.out])
                have HB64 := Lib.hid hb64
                clear hll hlp hR2 hsv hb64 hc1 hc2 hv
                go_wp2_with fail

                obtain ⟨w0, rfl⟩ : ∃ w0, w0 = wr := ⟨_, rfl⟩
                go_loopw [9, 10] (fun s i wr => ∃ (j : Nat) (x : Int), j ≤ k + 1 ∧ x = (m : Int) + j - 1 ∧ i = .int .i64 x ∧ s = .int .u64 ((sev (lp.drop j) : Nat) : Int) ∧ wr = w0) (fun _ i _ => (intOf i - m + 1).toNat)
                case atStart =>
                  refine ⟨k + 1, _, Nat.le_refl _, ?_, rfl, ?_, rfl⟩
                  · omega
                  · rw [List.drop_of_length_le (by have := LP.out; omega)]; rfl
                case round =>
                  obtain ⟨j, x, hj, hx, rfl, rfl, hwr⟩ := hrel
                  subst hwr
                  by_cases hj0 : j = 0
                  · have hxm : x < m := by omega
                    have HJ := Lib.hid hj0
                    clear hj0 hx
                    go_wp2_with fail
                    go_ret3
                    refine ⟨?_, rfl⟩
                    rw [← HRR.out, HJ.out, List.drop_zero, ← HS.out]
                    show _ = Ending.returned (.tuple #[_, .int .i64 ((m + (k + 1) : Nat) : Int), _])
                    rfl
                  · obtain ⟨q, rfl⟩ : ∃ q, j = q + 1 := ⟨j - 1, by omega⟩
                    have hxq : x.toNat = m + q := by omega
                    have hxm : (m : Int) ≤ x := by omega
                    have hxl : x < (xs.length : Int) := by omega
                    have hx0 : 0 ≤ x := by omega
                    obtain ⟨y, b2, o2, hy, e2, hc2⟩ := H.out.at (m + q) (by omega)
                    cases e2
                    have hc2 : wr.cell? ⟨b, o + x.toNat, none⟩ = some (.int .u8 (B y)) := by rw [hxq]; exact hc2
                    have hly : lp.drop q = y :: lp.drop (q + 1) := by
                      apply vdrop_cons
                      rw [LPD.out, List.getElem?_take_of_lt (by omega), List.getElem?_drop]; exact hy
                    have hsev : sev (lp.drop q) = y.toNat % 128 + 128 * sev (lp.drop (q + 1)) := by rw [hly]; rfl
                    have hsl := sev_drop lp q
                    have hbd := HB64.out
                    obtain ⟨V, hV⟩ : ∃ V, sev (lp.drop (q + 1)) = V := ⟨_, rfl⟩
                    rw [hV] at hsev ⊢
                    have hb1 : (V : Int) * 128 < 18446744073709551616 := by omega
                    have hb2 : (V : Int) * 128 + B y % 128 < 18446744073709551616 := by unfold B; omega
                    have hb3 := B_lo y
                    have HSV := Lib.hid hsev
                    have HB2 := Lib.hid hb2
                    have HX := Lib.hid hx
                    clear hsev hsl hbd hly hV hx hxq hy hj0 hb1 hb2 hb3
                    go_wp2_with fail
                    go_roundw
                    case rel =>
                      refine ⟨q, x - 1, by omega, by have := HX.out; omega, by go_num, ?_, trivial⟩
                      refine val_int ?_
                      have hb2 := HB2.out
                      have hb3 := B_lo y
                      rw [HSV.out, Int.tmod_eq_emod_of_nonneg (B_lo y)]
                      simp only [IntKind.wrap_u64]
                      unfold B at *; omega
                    case measure => simp [intOf]; omega
              · rw [rd_go hc1 hc2 c3] at hr
                have hlt2 : ¬ B x < 128 := by unfold B; omega
                have hk9 : k < 9 := by omega
                clear c3
                have hv2 := go_small (c := x) hv
                have HRR := Lib.hid hr; clear hr
                have HV2 := Lib.hid hv2; clear hv2 hc1 hc2
                go_wp2_with fail
                go_roundw
                case rel => exact ⟨k + 1, _, by omega, by omega, by go_num, HV2.out, by rw [← Nat.add_assoc]; exact HRR.out, trivial⟩
                case measure => simp [intOf]; omega
    · have hpe : xs.drop (m + k) = [] := List.drop_of_length_le (by omega)
      rw [hpe, rd_nil] at hr
      have HRR := Lib.hid hr; clear hr hpe
      have f0 : ((k : Int) == (xs.length : Int) - m) = true := by rw [beq_iff_eq]; omega
      have HK := Lib.hid (show xs.length = m + k by omega)
      go_wp2_with fail
      go_ret3
      exact ⟨by rw [← HRR.out, HK.out]; rfl, rfl⟩
end Go.Proofs.YtljcogimeimknaaGreat
/- The reference's taker, one of it in a block: contracts of Take and Number. Conditions: the taker's two cells lie in a block of which they are known; its bytes are a row of the call's own. -/
namespace Go.Proofs.YtljcogimeimknaaGreat
open Go.RowKit
set_option maxRecDepth 100000
set_option linter.unusedVariables false

/-- a taker of the reference's in a block -/
def Rt (w : World) (g : Nat) (v : Nat → Value) (s : Nat → Nat) : Prop := w.heap[g]? = some (.cells #[v 0, .int .i64 (s 0)] 173 (0, 0))
theorem Rt.lt {w : World} {g : Nat} {v : Nat → Value} {s : Nat → Nat} (h : Rt w g v s) : g < w.heap.size := (Array.getElem?_eq_some_iff.1 h).1
theorem Rt.keep {w w' : World} {g : Nat} {v : Nat → Value} {s : Nat → Nat} (h : Rt w g v s) (hb : Below w.heap.size w w') : Rt w' g v s := (hb.block g h.lt).trans h
theorem Rt.grown {w w' : World} {g : Nat} {v : Nat → Value} {s : Nat → Nat} {row : Option Nat} (h : Rt w g v s) (hb : w.grownBy w' row) (hne : row ≠ some g) : Rt w' g v s := (hb.block g h.lt hne.symm).trans h
theorem Rt.c0 {w : World} {g : Nat} {v : Nat → Value} {s : Nat → Nat} (h : Rt w g v s) (k : Nat) (hk : k < 1) : w.cell? ⟨g, 2 * k, none⟩ = some (v k) := by
  unfold Rt at h
  obtain rfl : k = 0 := by omega
  simp [World.cell?, h]
theorem Rt.c1 {w : World} {g : Nat} {v : Nat → Value} {s : Nat → Nat} (h : Rt w g v s) (k : Nat) (hk : k < 1) : w.cell? ⟨g, 2 * k + 1, none⟩ = some (.int .i64 (s k)) := by
  unfold Rt at h
  obtain rfl : k = 0 := by omega
  simp [World.cell?, h]
theorem Rt.free {w : World} {g : Nat} {v : Nat → Value} {s : Nat → Nat} (h : Rt w g v s) (i : Nat) : w.frozen? ⟨g, i, none⟩ = false := by
  unfold Rt at h; simp [World.frozen?, h]
theorem Rt.set0 {w : World} {g : Nat} {v : Nat → Value} {s : Nat → Nat} (h : Rt w g v s) (k : Nat) (hk : k < 1) (x : Value) : Rt (w.setCell ⟨g, 2 * k, none⟩ x) g (fun i => if i = k then x else v i) s := by
  unfold Rt at h ⊢
  simp only [World.setCell, Array.getElem?_modify, if_true]
  rw [h]
  obtain rfl : k = 0 := by omega
  rfl
theorem Rt.set1 {w : World} {g : Nat} {v : Nat → Value} {s : Nat → Nat} (h : Rt w g v s) (k : Nat) (hk : k < 1) (x : Nat) : Rt (w.setCell ⟨g, 2 * k + 1, none⟩ (.int .i64 x)) g v (fun i => if i = k then x else s i) := by
  unfold Rt at h ⊢
  simp only [World.setCell, Array.getElem?_modify, if_true]
  rw [h]
  obtain rfl : k = 0 := by omega
  rfl

theorem rtake_no (g k : Nat) (v : Nat → Value) (s : Nat → Nat) (c : UInt8) (w : World) (hk : k < 1) (hs : s k ≠ 0) (h : Rt w g v s) :
    Calls Tryz.prog 103 #[.pointer (some ⟨g, 2 * k, none⟩), .int .u8 (B c)] w fun e w' => e = .returned (.tuple #[.bool false, .int .i64 1]) ∧ w = w' := by
  have c1 := h.c1 k hk
  have f1 : ((s k : Int) != 0) = true := by rw [bne_iff_ne]; omega
  have HH := Lib.hid h; clear h
  go_enter Tryz.func103, Tryz.ntmps103
  go_wp2_with fail
  go_ret2
  exact ⟨rfl, rfl⟩
theorem rnumber_no (g k : Nat) (v : Nat → Value) (s : Nat → Nat) (w : World) (hk : k < 1) (hs : s k ≠ 1) (h : Rt w g v s) :
    Calls Tryz.prog 104 #[.pointer (some ⟨g, 2 * k, none⟩)] w fun e w' => e = .returned (.tuple #[.int .u64 0, .bool false]) ∧ w = w' := by
  have c1 := h.c1 k hk
  have f1 : ((s k : Int) != 1) = true := by rw [bne_iff_ne]; omega
  have HH := Lib.hid h; clear h
  go_enter Tryz.func104, Tryz.ntmps104
  go_wp2_with fail
  go_ret2
  exact ⟨rfl, rfl⟩
theorem rnumber_yes (g k : Nat) (v : Nat → Value) (s : Nat → Nat) (a : Option Addr) (n c : Nat) (bs : List UInt8) (w : World) (hk : k < 1) (hs : s k = 1) (hn : n ≤ 140737488351232) (hv : v k = .slice a n c) (h : Rt w g v s) (hb : Sl Bf w a n c bs) :
    Calls Tryz.prog 104 #[.pointer (some ⟨g, 2 * k, none⟩)] w fun e w' => e = .returned (.tuple #[.int .u64 (((rd bs 0 0).1 : Nat) : Int), .bool true]) ∧ w = w' := by
  have c1 := h.c1 k hk
  rw [hs] at c1
  have c1 : w.cell? ⟨g, 2 * k + 1, none⟩ = some (.int .i64 1) := c1
  have c0 := h.c0 k hk
  rw [hv] at c0
  have hr := rread_any _ _ _ bs 0 _ (by omega) (Nat.zero_le _) hb
  rw [List.drop_zero] at hr
  have HR := Lib.hid hr; clear hr
  have HH := Lib.hid h; clear h hs hv
  have HB := Lib.hid hb; clear hb
  go_enter Tryz.func104, Tryz.ntmps104
  go_wp2_with fail
  refine HR.out.mono ?_
  rintro e w' ⟨rfl, rfl⟩
  go_wp2_with fail
  go_ret2
  exact ⟨rfl, rfl⟩


/-- what was there stays but one block and one row -/
def Tch (w w' : World) (g : Nat) (row : Option Nat) : Prop := w'.os = w.os ∧ w'.tape = w.tape ∧ w'.output = w.output ∧ w.heap.size ≤ w'.heap.size ∧ ∀ j, j < w.heap.size → j ≠ g → some j ≠ row → w'.heap[j]? = w.heap[j]?
theorem Tch.of {w w' : World} {g : Nat} {row : Option Nat} (h : w.grownBy w' row) : Tch w w' g row := ⟨h.os, h.tape, h.output, h.size, fun j hj _ hr => h.block j hj hr⟩
theorem Tch.set {w w' : World} {g : Nat} {row : Option Nat} (h : Tch w w' g row) (i : Nat) (v : Value) : Tch w (w'.setCell ⟨g, i, none⟩ v) g row := by
  obtain ⟨h1, h2, h3, h4, h5⟩ := h
  refine ⟨h1, h2, h3, by simpa using h4, fun j hj hg hr => ?_⟩
  rw [Below.heap_setCell _ _ _ _ hg]
  exact h5 j hj hg hr
theorem grown_alloc {w w' : World} {o : Obj} {row : Option Nat} (h : (w.alloc o).grownBy w' row) : w.grownBy w' row := by
  refine ⟨h.os, h.tape, h.output, Nat.le_trans (by simp) h.size, fun j hj hr => ?_⟩
  rw [h.block j (by simp; omega) hr]
  exact ((Below.refl w.heap.size w).alloc (Nat.le_refl _) o).block j hj
theorem len_snoc {bs : List UInt8} {n : Nat} {c : UInt8} (h : bs.length = n) : (bs ++ [c]).length = n + 1 := by rw [List.length_append, h]; rfl
theorem Rt.below {w w' : World} {g base : Nat} {v : Nat → Value} {s : Nat → Nat} (h : Rt w g v s) (hg : g < base) (hb : Below base w w') : Rt w' g v s := (hb.block g hg).trans h
theorem OwT.set_away {w : World} {base g : Nat} {e : TypeId} {x : Value} {xs : List UInt8} (h : OwT fB w base e x xs) (i : Nat) (v : Value) (hg : g < base) : OwT fB (w.setCell ⟨g, i, none⟩ v) base e x xs :=
  h.of_block fun j hj => Below.heap_setCell _ _ _ _ (by have := (h.lt j hj).1; intro e; have e : j = g := e; omega)
theorem own_step {x y : Option Nat} {m m' : Nat} (h : x = y ∨ x = some m') (hm : m ≤ m') : ∀ j, x = some j → y = some j ∨ m ≤ j := by
  intro j hj
  rcases h with h | h
  · exact .inl (h ▸ hj)
  · rw [h] at hj; injection hj with hj; exact .inr (by omega)

set_option maxHeartbeats 1000000 in
set_option maxRecDepth 100000 in
theorem rtake_long (g k base : Nat) (s : Nat → Nat) (v : Nat → Value) (a : Option Addr) (n cp : Nat) (bs : List UInt8) (c : UInt8) (w : World) (hk : k < 1) (hs : s k = 0) (hv : v k = .slice a n cp) (hgb : g < base) (hbw : base ≤ w.heap.size) (hl : bs.length = n) (hn : n ≤ 9) (h9 : n = 9) (hc : 1 < c.toNat)
    (h : Rt w g v s) (ho : OwT fB w base 5 (.slice a n cp) bs) :
    Calls Tryz.prog 103 #[.pointer (some ⟨g, 2 * k, none⟩), .int .u8 (B c)] w fun e w' => e = .returned (.tuple #[.bool false, .int .i64 12]) ∧ ∃ x, OwT fB w' base 5 x (bs ++ [c]) ∧ Rt w' g (fun i => if i = k then x else v i) (fun i => if i = k then 2 else s i) ∧ Tch w w' g (Value.ownBlock (.slice a n cp)) ∧ ∀ j, x.ownBlock = some j → Value.ownBlock (.slice a n cp) = some j ∨ w.heap.size ≤ j := by
  have c1 := h.c1 k hk
  rw [hs] at c1
  have c1 : w.cell? ⟨g, 2 * k + 1, none⟩ = some (.int .i64 0) := c1
  have c0 := h.c0 k hk
  rw [hv] at c0
  have RA := Lib.hid (h.keep ((Below.refl _ _).alloc (Nat.le_refl _) (.cells #[.int .u8 (B c)] 5)))
  have O := Lib.hid ho; clear ho
  have HS := Lib.hid hs; clear hs
  have LB := Lib.hid hl
  clear h hv
  have hcc : 1 < B c := by unfold B; omega
  have f10 : ((n : Int) + 1 == 10) = true := by rw [beq_iff_eq]; omega
  clear h9 hc
  go_enter Tryz.func103, Tryz.ntmps103
  go_wp2_with (at_builtin; refine wpList_appT eltTB rfl _ _ rfl base (.slice a n cp) bs (by rfl) (O.out.alloc _) _ 1 1 [c] (by rfl) (Sl.lit _ _ _ _ _ rfl rfl).toT (by unfold maxLen; omega) (by omega) (Nat.le_trans hbw (by simp)) _ rfl ?_; intro v' w1 h1 hg1 hv1 hb1; obtain ⟨a1, n1, cp1, rfl, z1⟩ := h1.slN; obtain rfl : n1 = n + 1 := z1.len.symm.trans (len_snoc LB.out); have R1 := Rt.below (RA.out) hgb hb1; have c0' := R1.c0 k hk; have f0' := R1.free (2 * k); have R2 := R1.set0 k hk (.slice a1 (n + 1) cp1); have c0s := R2.c0 k hk; rw [if_pos rfl] at c0s; have c1s := R2.c1 k hk; rw [HS.out] at c1s; have c1s : (w1.setCell ⟨g, 2 * k, none⟩ (.slice a1 (n + 1) cp1)).cell? ⟨g, 2 * k + 1, none⟩ = some (.int .i64 0) := c1s; have f1s := R2.free (2 * k + 1); have O1 := Lib.hid h1; have HG1 := Lib.hid hg1; have HR2 := Lib.hid R2; have HV1 := Lib.hid (own_step hv1 (Nat.le_of_lt (by simp : w.heap.size < (w.alloc (.cells #[.int .u8 (B c)] 5)).heap.size))); clear h1 hg1 hv1 hb1 z1 R1 R2)
  go_ret2
  exact ⟨rfl, _, (O1.out.set_away _ _ hgb).set_away _ _ hgb, HR2.out.set1 k hk 2, Tch.set (Tch.set (Tch.of (grown_alloc HG1.out)) _ _) _ _, HV1.out⟩

set_option maxHeartbeats 1000000 in
set_option maxRecDepth 100000 in
theorem rtake_form (g k base : Nat) (s : Nat → Nat) (v : Nat → Value) (a : Option Addr) (n cp : Nat) (bs : List UInt8) (c : UInt8) (w : World) (hk : k < 1) (hs : s k = 0) (hv : v k = .slice a n cp) (hgb : g < base) (hbw : base ≤ w.heap.size) (hl : bs.length = n) (hn : n ≤ 9) (h0 : 0 < n) (hc : c.toNat = 0)
    (h : Rt w g v s) (ho : OwT fB w base 5 (.slice a n cp) bs) :
    Calls Tryz.prog 103 #[.pointer (some ⟨g, 2 * k, none⟩), .int .u8 (B c)] w fun e w' => e = .returned (.tuple #[.bool false, .int .i64 13]) ∧ ∃ x, OwT fB w' base 5 x (bs ++ [c]) ∧ Rt w' g (fun i => if i = k then x else v i) (fun i => if i = k then 2 else s i) ∧ Tch w w' g (Value.ownBlock (.slice a n cp)) ∧ ∀ j, x.ownBlock = some j → Value.ownBlock (.slice a n cp) = some j ∨ w.heap.size ≤ j := by
  have c1 := h.c1 k hk
  rw [hs] at c1
  have c1 : w.cell? ⟨g, 2 * k + 1, none⟩ = some (.int .i64 0) := c1
  have c0 := h.c0 k hk
  rw [hv] at c0
  have RA := Lib.hid (h.keep ((Below.refl _ _).alloc (Nat.le_refl _) (.cells #[.int .u8 (B c)] 5)))
  have O := Lib.hid ho; clear ho
  have HS := Lib.hid hs; clear hs
  have LB := Lib.hid hl
  clear h hv
  have hcc : ¬ 1 < B c := by unfold B; omega
  have hz : (B c == 0) = true := by rw [beq_iff_eq]; unfold B; omega
  have hn1 : (1 : Int) < (n : Int) + 1 := by omega
  clear hc
  by_cases h9 : n = 9
  · have f10 : ((n : Int) + 1 == 10) = true := by rw [beq_iff_eq]; omega
    clear h9
    go_enter Tryz.func103, Tryz.ntmps103
    go_wp2_with (at_builtin; refine wpList_appT eltTB rfl _ _ rfl base (.slice a n cp) bs (by rfl) (O.out.alloc _) _ 1 1 [c] (by rfl) (Sl.lit _ _ _ _ _ rfl rfl).toT (by unfold maxLen; omega) (by omega) (Nat.le_trans hbw (by simp)) _ rfl ?_; intro v' w1 h1 hg1 hv1 hb1; obtain ⟨a1, n1, cp1, rfl, z1⟩ := h1.slN; obtain rfl : n1 = n + 1 := z1.len.symm.trans (len_snoc LB.out); have R1 := Rt.below (RA.out) hgb hb1; have c0' := R1.c0 k hk; have f0' := R1.free (2 * k); have R2 := R1.set0 k hk (.slice a1 (n + 1) cp1); have c0s := R2.c0 k hk; rw [if_pos rfl] at c0s; have c1s := R2.c1 k hk; rw [HS.out] at c1s; have c1s : (w1.setCell ⟨g, 2 * k, none⟩ (.slice a1 (n + 1) cp1)).cell? ⟨g, 2 * k + 1, none⟩ = some (.int .i64 0) := c1s; have f1s := R2.free (2 * k + 1); have O1 := Lib.hid h1; have HG1 := Lib.hid hg1; have HR2 := Lib.hid R2; have HV1 := Lib.hid (own_step hv1 (Nat.le_of_lt (by simp : w.heap.size < (w.alloc (.cells #[.int .u8 (B c)] 5)).heap.size))); clear h1 hg1 hv1 hb1 z1 R1 R2)
    go_ret2
    exact ⟨rfl, _, (O1.out.set_away _ _ hgb).set_away _ _ hgb, HR2.out.set1 k hk 2, Tch.set (Tch.set (Tch.of (grown_alloc HG1.out)) _ _) _ _, HV1.out⟩
  · have f10 : ((n : Int) + 1 == 10) = false := by rw [beq_eq_false_iff_ne]; omega
    clear h9
    go_enter Tryz.func103, Tryz.ntmps103
    go_wp2_with (at_builtin; refine wpList_appT eltTB rfl _ _ rfl base (.slice a n cp) bs (by rfl) (O.out.alloc _) _ 1 1 [c] (by rfl) (Sl.lit _ _ _ _ _ rfl rfl).toT (by unfold maxLen; omega) (by omega) (Nat.le_trans hbw (by simp)) _ rfl ?_; intro v' w1 h1 hg1 hv1 hb1; obtain ⟨a1, n1, cp1, rfl, z1⟩ := h1.slN; obtain rfl : n1 = n + 1 := z1.len.symm.trans (len_snoc LB.out); have R1 := Rt.below (RA.out) hgb hb1; have c0' := R1.c0 k hk; have f0' := R1.free (2 * k); have R2 := R1.set0 k hk (.slice a1 (n + 1) cp1); have c0s := R2.c0 k hk; rw [if_pos rfl] at c0s; have c1s := R2.c1 k hk; rw [HS.out] at c1s; have c1s : (w1.setCell ⟨g, 2 * k, none⟩ (.slice a1 (n + 1) cp1)).cell? ⟨g, 2 * k + 1, none⟩ = some (.int .i64 0) := c1s; have f1s := R2.free (2 * k + 1); have O1 := Lib.hid h1; have HG1 := Lib.hid hg1; have HR2 := Lib.hid R2; have HV1 := Lib.hid (own_step hv1 (Nat.le_of_lt (by simp : w.heap.size < (w.alloc (.cells #[.int .u8 (B c)] 5)).heap.size))); clear h1 hg1 hv1 hb1 z1 R1 R2)
    go_ret2
    exact ⟨rfl, _, (O1.out.set_away _ _ hgb).set_away _ _ hgb, HR2.out.set1 k hk 2, Tch.set (Tch.set (Tch.of (grown_alloc HG1.out)) _ _) _ _, HV1.out⟩

set_option maxHeartbeats 1000000 in
set_option maxRecDepth 100000 in
theorem rtake_last (g k base : Nat) (s : Nat → Nat) (v : Nat → Value) (a : Option Addr) (n cp : Nat) (bs : List UInt8) (c : UInt8) (w : World) (hk : k < 1) (hs : s k = 0) (hv : v k = .slice a n cp) (hgb : g < base) (hbw : base ≤ w.heap.size) (hl : bs.length = n) (hn : n ≤ 9) (hc1 : ¬ (n = 9 ∧ 1 < c.toNat)) (hc2 : ¬ (0 < n ∧ c.toNat = 0)) (hc3 : c.toNat < 128)
    (h : Rt w g v s) (ho : OwT fB w base 5 (.slice a n cp) bs) :
    Calls Tryz.prog 103 #[.pointer (some ⟨g, 2 * k, none⟩), .int .u8 (B c)] w fun e w' => e = .returned (.tuple #[.bool true, .int .i64 0]) ∧ ∃ x, OwT fB w' base 5 x (bs ++ [c]) ∧ Rt w' g (fun i => if i = k then x else v i) (fun i => if i = k then 1 else s i) ∧ Tch w w' g (Value.ownBlock (.slice a n cp)) ∧ ∀ j, x.ownBlock = some j → Value.ownBlock (.slice a n cp) = some j ∨ w.heap.size ≤ j := by
  have c1 := h.c1 k hk
  rw [hs] at c1
  have c1 : w.cell? ⟨g, 2 * k + 1, none⟩ = some (.int .i64 0) := c1
  have c0 := h.c0 k hk
  rw [hv] at c0
  have RA := Lib.hid (h.keep ((Below.refl _ _).alloc (Nat.le_refl _) (.cells #[.int .u8 (B c)] 5)))
  have O := Lib.hid ho; clear ho
  have HS := Lib.hid hs; clear hs
  have LB := Lib.hid hl
  clear h hv
  have hlt : B c < 128 := by unfold B; omega
  by_cases h9 : n = 9
  · have f10 : ((n : Int) + 1 == 10) = true := by rw [beq_iff_eq]; omega
    have hcc : ¬ 1 < B c := by unfold B; omega
    have hz : (B c == 0) = false := by rw [beq_eq_false_iff_ne]; unfold B; omega
    have hn1 : (1 : Int) < (n : Int) + 1 := by omega
    clear h9 hc1 hc2 hc3
    go_enter Tryz.func103, Tryz.ntmps103
    go_wp2_with (at_builtin; refine wpList_appT eltTB rfl _ _ rfl base (.slice a n cp) bs (by rfl) (O.out.alloc _) _ 1 1 [c] (by rfl) (Sl.lit _ _ _ _ _ rfl rfl).toT (by unfold maxLen; omega) (by omega) (Nat.le_trans hbw (by simp)) _ rfl ?_; intro v' w1 h1 hg1 hv1 hb1; obtain ⟨a1, n1, cp1, rfl, z1⟩ := h1.slN; obtain rfl : n1 = n + 1 := z1.len.symm.trans (len_snoc LB.out); have R1 := Rt.below (RA.out) hgb hb1; have c0' := R1.c0 k hk; have f0' := R1.free (2 * k); have R2 := R1.set0 k hk (.slice a1 (n + 1) cp1); have c0s := R2.c0 k hk; rw [if_pos rfl] at c0s; have c1s := R2.c1 k hk; rw [HS.out] at c1s; have c1s : (w1.setCell ⟨g, 2 * k, none⟩ (.slice a1 (n + 1) cp1)).cell? ⟨g, 2 * k + 1, none⟩ = some (.int .i64 0) := c1s; have f1s := R2.free (2 * k + 1); have O1 := Lib.hid h1; have HG1 := Lib.hid hg1; have HR2 := Lib.hid R2; have HV1 := Lib.hid (own_step hv1 (Nat.le_of_lt (by simp : w.heap.size < (w.alloc (.cells #[.int .u8 (B c)] 5)).heap.size))); clear h1 hg1 hv1 hb1 z1 R1 R2)
    go_ret2
    exact ⟨rfl, _, (O1.out.set_away _ _ hgb).set_away _ _ hgb, HR2.out.set1 k hk 1, Tch.set (Tch.set (Tch.of (grown_alloc HG1.out)) _ _) _ _, HV1.out⟩
  · have f10 : ((n : Int) + 1 == 10) = false := by rw [beq_eq_false_iff_ne]; omega
    by_cases h0 : n = 0
    · have hn1 : ¬ (1 : Int) < (n : Int) + 1 := by omega
      clear h9 h0 hc1 hc2 hc3
      go_enter Tryz.func103, Tryz.ntmps103
      go_wp2_with (at_builtin; refine wpList_appT eltTB rfl _ _ rfl base (.slice a n cp) bs (by rfl) (O.out.alloc _) _ 1 1 [c] (by rfl) (Sl.lit _ _ _ _ _ rfl rfl).toT (by unfold maxLen; omega) (by omega) (Nat.le_trans hbw (by simp)) _ rfl ?_; intro v' w1 h1 hg1 hv1 hb1; obtain ⟨a1, n1, cp1, rfl, z1⟩ := h1.slN; obtain rfl : n1 = n + 1 := z1.len.symm.trans (len_snoc LB.out); have R1 := Rt.below (RA.out) hgb hb1; have c0' := R1.c0 k hk; have f0' := R1.free (2 * k); have R2 := R1.set0 k hk (.slice a1 (n + 1) cp1); have c0s := R2.c0 k hk; rw [if_pos rfl] at c0s; have c1s := R2.c1 k hk; rw [HS.out] at c1s; have c1s : (w1.setCell ⟨g, 2 * k, none⟩ (.slice a1 (n + 1) cp1)).cell? ⟨g, 2 * k + 1, none⟩ = some (.int .i64 0) := c1s; have f1s := R2.free (2 * k + 1); have O1 := Lib.hid h1; have HG1 := Lib.hid hg1; have HR2 := Lib.hid R2; have HV1 := Lib.hid (own_step hv1 (Nat.le_of_lt (by simp : w.heap.size < (w.alloc (.cells #[.int .u8 (B c)] 5)).heap.size))); clear h1 hg1 hv1 hb1 z1 R1 R2)
      go_ret2
      exact ⟨rfl, _, (O1.out.set_away _ _ hgb).set_away _ _ hgb, HR2.out.set1 k hk 1, Tch.set (Tch.set (Tch.of (grown_alloc HG1.out)) _ _) _ _, HV1.out⟩
    · have hn1 : (1 : Int) < (n : Int) + 1 := by omega
      have hz : (B c == 0) = false := by rw [beq_eq_false_iff_ne]; unfold B; omega
      clear h9 h0 hc1 hc2 hc3
      go_enter Tryz.func103, Tryz.ntmps103
      go_wp2_with (at_builtin; refine wpList_appT eltTB rfl _ _ rfl base (.slice a n cp) bs (by rfl) (O.out.alloc _) _ 1 1 [c] (by rfl) (Sl.lit _ _ _ _ _ rfl rfl).toT (by unfold maxLen; omega) (by omega) (Nat.le_trans hbw (by simp)) _ rfl ?_; intro v' w1 h1 hg1 hv1 hb1; obtain ⟨a1, n1, cp1, rfl, z1⟩ := h1.slN; obtain rfl : n1 = n + 1 := z1.len.symm.trans (len_snoc LB.out); have R1 := Rt.below (RA.out) hgb hb1; have c0' := R1.c0 k hk; have f0' := R1.free (2 * k); have R2 := R1.set0 k hk (.slice a1 (n + 1) cp1); have c0s := R2.c0 k hk; rw [if_pos rfl] at c0s; have c1s := R2.c1 k hk; rw [HS.out] at c1s; have c1s : (w1.setCell ⟨g, 2 * k, none⟩ (.slice a1 (n + 1) cp1)).cell? ⟨g, 2 * k + 1, none⟩ = some (.int .i64 0) := c1s; have f1s := R2.free (2 * k + 1); have O1 := Lib.hid h1; have HG1 := Lib.hid hg1; have HR2 := Lib.hid R2; have HV1 := Lib.hid (own_step hv1 (Nat.le_of_lt (by simp : w.heap.size < (w.alloc (.cells #[.int .u8 (B c)] 5)).heap.size))); clear h1 hg1 hv1 hb1 z1 R1 R2)
      go_ret2
      exact ⟨rfl, _, (O1.out.set_away _ _ hgb).set_away _ _ hgb, HR2.out.set1 k hk 1, Tch.set (Tch.set (Tch.of (grown_alloc HG1.out)) _ _) _ _, HV1.out⟩

set_option maxHeartbeats 1000000 in
set_option maxRecDepth 100000 in
theorem rtake_go (g k base : Nat) (s : Nat → Nat) (v : Nat → Value) (a : Option Addr) (n cp : Nat) (bs : List UInt8) (c : UInt8) (w : World) (hk : k < 1) (hs : s k = 0) (hv : v k = .slice a n cp) (hgb : g < base) (hbw : base ≤ w.heap.size) (hl : bs.length = n) (hn : n ≤ 9) (hc1 : ¬ (n = 9 ∧ 1 < c.toNat)) (hc2 : ¬ (0 < n ∧ c.toNat = 0)) (hc3 : ¬ c.toNat < 128)
    (h : Rt w g v s) (ho : OwT fB w base 5 (.slice a n cp) bs) :
    Calls Tryz.prog 103 #[.pointer (some ⟨g, 2 * k, none⟩), .int .u8 (B c)] w fun e w' => e = .returned (.tuple #[.bool false, .int .i64 0]) ∧ ∃ x, OwT fB w' base 5 x (bs ++ [c]) ∧ Rt w' g (fun i => if i = k then x else v i) s ∧ Tch w w' g (Value.ownBlock (.slice a n cp)) ∧ ∀ j, x.ownBlock = some j → Value.ownBlock (.slice a n cp) = some j ∨ w.heap.size ≤ j := by
  have c1 := h.c1 k hk
  rw [hs] at c1
  have c1 : w.cell? ⟨g, 2 * k + 1, none⟩ = some (.int .i64 0) := c1
  have c0 := h.c0 k hk
  rw [hv] at c0
  have RA := Lib.hid (h.keep ((Below.refl _ _).alloc (Nat.le_refl _) (.cells #[.int .u8 (B c)] 5)))
  have O := Lib.hid ho; clear ho
  have HS := Lib.hid hs; clear hs
  have LB := Lib.hid hl
  clear h hv
  have hlt : ¬ B c < 128 := by unfold B; omega
  have h9 : n ≠ 9 := fun e => hc1 ⟨e, by omega⟩
  · have f10 : ((n : Int) + 1 == 10) = false := by rw [beq_eq_false_iff_ne]; omega
    by_cases h0 : n = 0
    · have hn1 : ¬ (1 : Int) < (n : Int) + 1 := by omega
      clear h9 h0 hc1 hc2 hc3
      go_enter Tryz.func103, Tryz.ntmps103
      go_wp2_with (at_builtin; refine wpList_appT eltTB rfl _ _ rfl base (.slice a n cp) bs (by rfl) (O.out.alloc _) _ 1 1 [c] (by rfl) (Sl.lit _ _ _ _ _ rfl rfl).toT (by unfold maxLen; omega) (by omega) (Nat.le_trans hbw (by simp)) _ rfl ?_; intro v' w1 h1 hg1 hv1 hb1; obtain ⟨a1, n1, cp1, rfl, z1⟩ := h1.slN; obtain rfl : n1 = n + 1 := z1.len.symm.trans (len_snoc LB.out); have R1 := Rt.below (RA.out) hgb hb1; have c0' := R1.c0 k hk; have f0' := R1.free (2 * k); have R2 := R1.set0 k hk (.slice a1 (n + 1) cp1); have c0s := R2.c0 k hk; rw [if_pos rfl] at c0s; have c1s := R2.c1 k hk; rw [HS.out] at c1s; have c1s : (w1.setCell ⟨g, 2 * k, none⟩ (.slice a1 (n + 1) cp1)).cell? ⟨g, 2 * k + 1, none⟩ = some (.int .i64 0) := c1s; have f1s := R2.free (2 * k + 1); have O1 := Lib.hid h1; have HG1 := Lib.hid hg1; have HR2 := Lib.hid R2; have HV1 := Lib.hid (own_step hv1 (Nat.le_of_lt (by simp : w.heap.size < (w.alloc (.cells #[.int .u8 (B c)] 5)).heap.size))); clear h1 hg1 hv1 hb1 z1 R1 R2)
      go_ret2
      exact ⟨rfl, _, O1.out.set_away _ _ hgb, HR2.out, Tch.set (Tch.of (grown_alloc HG1.out)) _ _, HV1.out⟩
    · have hn1 : (1 : Int) < (n : Int) + 1 := by omega
      have hz : (B c == 0) = false := by rw [beq_eq_false_iff_ne]; unfold B; omega
      clear h9 h0 hc1 hc2 hc3
      go_enter Tryz.func103, Tryz.ntmps103
      go_wp2_with (at_builtin; refine wpList_appT eltTB rfl _ _ rfl base (.slice a n cp) bs (by rfl) (O.out.alloc _) _ 1 1 [c] (by rfl) (Sl.lit _ _ _ _ _ rfl rfl).toT (by unfold maxLen; omega) (by omega) (Nat.le_trans hbw (by simp)) _ rfl ?_; intro v' w1 h1 hg1 hv1 hb1; obtain ⟨a1, n1, cp1, rfl, z1⟩ := h1.slN; obtain rfl : n1 = n + 1 := z1.len.symm.trans (len_snoc LB.out); have R1 := Rt.below (RA.out) hgb hb1; have c0' := R1.c0 k hk; have f0' := R1.free (2 * k); have R2 := R1.set0 k hk (.slice a1 (n + 1) cp1); have c0s := R2.c0 k hk; rw [if_pos rfl] at c0s; have c1s := R2.c1 k hk; rw [HS.out] at c1s; have c1s : (w1.setCell ⟨g, 2 * k, none⟩ (.slice a1 (n + 1) cp1)).cell? ⟨g, 2 * k + 1, none⟩ = some (.int .i64 0) := c1s; have f1s := R2.free (2 * k + 1); have O1 := Lib.hid h1; have HG1 := Lib.hid hg1; have HR2 := Lib.hid R2; have HV1 := Lib.hid (own_step hv1 (Nat.le_of_lt (by simp : w.heap.size < (w.alloc (.cells #[.int .u8 (B c)] 5)).heap.size))); clear h1 hg1 hv1 hb1 z1 R1 R2)
      go_ret2
      exact ⟨rfl, _, O1.out.set_away _ _ hgb, HR2.out, Tch.set (Tch.of (grown_alloc HG1.out)) _ _, HV1.out⟩
theorem fun_self {α : Type} (v : Nat → α) (k : Nat) (x : α) (h : v k = x) : (fun i => if i = k then x else v i) = v := by
  funext i
  split
  · rename_i e; subst e; exact h.symm
  · rfl
theorem qtake_any (g k base : Nat) (s : Nat → Nat) (v : Nat → Value) (n : Nat) (bs : List UInt8) (c : UInt8) (w : World) (d : Bool) (er n2 s2 : Nat) (b2 : List UInt8) (hk : k < 1) (hq : tq (s k) n bs c = (d, er, n2, s2, b2)) (hi : Inv bs n (s k)) (hgb : g < base) (hbw : base ≤ w.heap.size)
    (h : Rt w g v s) (ho : OwT fB w base 5 (v k) bs) :
    Calls Tryz.prog 103 #[.pointer (some ⟨g, 2 * k, none⟩), .int .u8 (B c)] w fun e w' => e = .returned (.tuple #[.bool d, .int .i64 er]) ∧ ∃ x, OwT fB w' base 5 x b2 ∧ Rt w' g (fun i => if i = k then x else v i) (fun i => if i = k then s2 else s i) ∧
      Tch w w' g (v k).ownBlock ∧ ∀ j, x.ownBlock = some j → (v k).ownBlock = some j ∨ w.heap.size ≤ j := by
  unfold tq at hq
  by_cases hs : s k ≠ 0
  · rw [if_pos hs] at hq; cases hq
    refine (rtake_no g k v s c w hk hs h).mono ?_
    rintro e w' ⟨rfl, rfl⟩
    refine ⟨rfl, v k, ho, ?_, Tch.of (World.grownBy.refl _ _), fun j hj => .inl hj⟩
    rw [fun_self v k _ rfl, fun_self s k _ rfl]; exact h
  · rw [if_neg hs] at hq
    have hs : s k = 0 := by omega
    obtain ⟨_, h9, hn, hr⟩ : s k = 0 ∧ bs.length ≤ 9 ∧ n < 128 ^ bs.length ∧ ∀ r, rd (bs ++ r) 0 0 = rd r bs.length n := by
      rcases hi with h | h | h
      · exact h
      · omega
      · omega
    obtain ⟨a, n1, cp, hv, z⟩ := ho.slN
    have hl := z.len
    have ho' : OwT fB w base 5 (.slice a n1 cp) bs := hv ▸ ho
    rw [hv]
    by_cases c1 : bs.length = 9 ∧ 1 < c.toNat
    · rw [if_pos c1] at hq; cases hq
      refine (rtake_long g k base s v a n1 cp bs c w hk hs hv hgb hbw hl (by omega) (by omega) c1.2 h ho').mono ?_
      rintro e w' ⟨rfl, h2⟩
      exact ⟨rfl, h2⟩
    · rw [if_neg c1] at hq
      by_cases c2 : 0 < bs.length ∧ c.toNat = 0
      · rw [if_pos c2] at hq; cases hq
        refine (rtake_form g k base s v a n1 cp bs c w hk hs hv hgb hbw hl (by omega) (by omega) c2.2 h ho').mono ?_
        rintro e w' ⟨rfl, h2⟩
        exact ⟨rfl, h2⟩
      · rw [if_neg c2] at hq
        by_cases c3 : c.toNat < 128
        · rw [if_pos c3, decide_eq_true c3] at hq; cases hq
          refine (rtake_last g k base s v a n1 cp bs c w hk hs hv hgb hbw hl (by omega) (by omega) (by omega) c3 h ho').mono ?_
          rintro e w' ⟨rfl, h2⟩
          exact ⟨rfl, h2⟩
        · rw [if_neg c3, decide_eq_false c3] at hq; cases hq
          refine (rtake_go g k base s v a n1 cp bs c w hk hs hv hgb hbw hl (by omega) (by omega) (by omega) c3 h ho').mono ?_
          rintro e w' ⟨rfl, x, h2, h3, h4⟩
          refine ⟨rfl, x, h2, ?_, h4⟩
          rw [fun_self s k _ hs]; exact h3
theorem qnumber_any (g k base : Nat) (s : Nat → Nat) (v : Nat → Value) (n : Nat) (bs : List UInt8) (w : World) (hk : k < 1) (hi : Inv bs n (s k)) (h : Rt w g v s) (ho : OwT fB w base 5 (v k) bs) :
    Calls Tryz.prog 104 #[.pointer (some ⟨g, 2 * k, none⟩)] w fun e w' => e = .returned (.tuple #[.int .u64 (nv (s k) n : Nat), .bool (decide (s k = 1))]) ∧ w = w' := by
  unfold nv
  obtain ⟨a, n1, cp, hv, z⟩ := ho.slN
  by_cases hs : s k = 1
  · rw [if_pos hs, decide_eq_true hs, ← hi.small hs]
    exact rnumber_yes g k v s a n1 cp bs w hk hs (by have := z.len; have := hi.len; omega) hv h z
  · rw [if_neg hs, decide_eq_false hs]; exact rnumber_no g k v s w hk hs h
end Go.Proofs.YtljcogimeimknaaGreat
/- The document's In: Byte, End, Number: contracts over any reader of the document's. Conditions: numbers and what is taken within reach. -/
namespace Go.Proofs.YtljcogimeimknaaGreat
open Go.RowKit Go.Shelf
set_option maxRecDepth 100000
set_option linter.unusedVariables false
set_option linter.unusedSimpArgs false

section
variable {σ : Type} {R : Rm σ} {v : Value} {lo Br : Nat} {St : σ → (Nat → Prop) → World → Prop}
variable {g : Nat} {most : Int} {c : CIn σ} {S : Nat → Prop} {w : World}
theorem RIn.set_pl (RL : RdrL R v lo Br St) {Sr : Nat → Prop} {hv : Value} (h : RIn St lo g most v c S Sr hv w) (k : Nat) : RIn St lo g most v { c with pl := k } S Sr hv (w.setCell ⟨g, 2, none⟩ (.int .i64 (k : Nat))) where
  io := h.io.s2 k
  ow := h.ow.turns (setT w 2 _) fun j hj e => (h.hs j hj).2.2 e
  st := RL.frame _ _ _ _ _ h.st (setT w 2 _) (fun j hj e => by have e : j = g := e; subst e; exact h.ng hj) (fun j e => by have e : j = g := e; subst e; exact (h.inS _ h.sg).1)
  sr := h.sr
  sg := h.sg
  ng := h.ng
  hs := h.hs
  inS j hj := by have := h.inS j hj; simpa using this
theorem RIn.set_er (RL : RdrL R v lo Br St) {Sr : Nat → Prop} {hv : Value} (h : RIn St lo g most v c S Sr hv w) (e : Int) : RIn St lo g most v { c with er := e } S Sr hv (w.setCell ⟨g, 3, none⟩ (.int .i64 e)) where
  io := h.io.s3 e
  ow := h.ow.turns (setT w 3 _) fun j hj e => (h.hs j hj).2.2 e
  st := RL.frame _ _ _ _ _ h.st (setT w 3 _) (fun j hj e => by have e : j = g := e; subst e; exact h.ng hj) (fun j e => by have e : j = g := e; subst e; exact (h.inS _ h.sg).1)
  sr := h.sr
  sg := h.sg
  ng := h.ng
  hs := h.hs
  inS j hj := by have := h.inS j hj; simpa using this
/-- behind Byte of the document's -/
def RBytePost (St : σ → (Nat → Prop) → World → Prop) (X : UInt8 × Int × CIn σ) (S : Nat → Prop) (lo g : Nat) (most : Int) (v : Value) (w : World) (r : Ending) (w' : World) : Prop :=
  r = .returned (.tuple #[.int .u8 (B X.1), .int .i64 X.2.1]) ∧ RAns St lo g most v S w X.2.2 w'
set_option maxHeartbeats 2000000 in
theorem rbyte_any (RL : RdrL R v lo Br St) (hmu : ∀ s n, R.mu (R.nxt s n) ≤ R.mu s)
    (g : Nat) (most : Int) (c : CIn σ) (S : Nat → Prop) (w : World) (P : σ → Prop) (hP : ∀ s n, P s → P (R.nxt s n)) (Bd : Nat) (hO : OkayC R P most Bd c) (hI : RObj St lo g most v c S w) (hm : most ≤ 9223372036854775807) (hc : Bd + 32 ≤ Br) :
    Calls Tryz.prog 62 #[.pointer (some ⟨g, 0, none⟩)] w (RBytePost St (byteM R most c) S lo g most v w) := by
  have BY := Lib.hid (rinb_any RL hmu g most 1 c S w P hP Bd hO hI (by omega) hm hc (fun _ _ => .inl (by decide)))
  obtain ⟨-, k1, k2⟩ := hO.bytes (n := 1) hmu hP
  unfold byteM
  obtain ⟨⟨b, e, c'⟩, hX⟩ : ∃ X, bytesM R most 1 c = X := ⟨_, rfl⟩
  rw [hX] at BY k1 k2 ⊢
  dsimp only at k1 k2 ⊢
  clear hX hI hO
  go_enter Tryz.func62, Tryz.ntmps62
  go_wp2_with fail
  refine BY.out.mono ?_
  rintro r w2 ⟨bv, rfl, ho, hA⟩
  have A := Lib.hid hA
  dsimp only at ho ⊢
  by_cases h0 : e = 0
  · obtain ⟨x, rfl⟩ : ∃ x, b = [x] := by
      have := (k1 h0).2
      match b, this with
      | [x], _ => exact ⟨x, rfl⟩
    subst h0
    obtain ⟨ab, nb, cb, rfl, hs⟩ := ho.slN
    obtain rfl : 1 = nb := hs.len
    obtain ⟨b1, o1, rfl, hcell⟩ := hs.2.2.2 0 x rfl
    have hcell : w2.cell? ⟨b1, o1, none⟩ = some (.int .u8 (B x)) := hcell
    clear hA ho hs k1 k2
    go_wp2_with fail
    go_ret2
    exact ⟨rfl, A.out⟩
  · obtain rfl := k2 h0
    have t4 : (e != 0) = true := by rw [bne_iff_ne]; exact h0
    clear hA ho k1 k2 h0
    go_wp2_with fail
    go_ret2
    exact ⟨rfl, A.out⟩
/-- behind End of the document's -/
def REndPost (St : σ → (Nat → Prop) → World → Prop) (X : Bool × Int × CIn σ) (S : Nat → Prop) (lo g : Nat) (most : Int) (v : Value) (w : World) (r : Ending) (w' : World) : Prop :=
  r = .returned (.tuple #[.bool X.1, .int .i64 X.2.1]) ∧ RAns St lo g most v S w X.2.2 w'
set_option maxHeartbeats 4000000 in
theorem rinend_any (RL : RdrL R v lo Br St) (hmu : ∀ s n, R.mu (R.nxt s n) ≤ R.mu s)
    (g : Nat) (most : Int) (c : CIn σ) (S : Nat → Prop) (w : World) (P : σ → Prop) (hP : ∀ s n, P s → P (R.nxt s n)) (Bd : Nat) (hO : OkayC R P most Bd c) (hI : RObj St lo g most v c S w) (hc : Bd + 32 ≤ Br) :
    Calls Tryz.prog 107 #[.pointer (some ⟨g, 0, none⟩)] w (REndPost St (endM R c) S lo g most v w) := by
  obtain ⟨X, hX⟩ : ∃ X, endM R c = X := ⟨_, rfl⟩
  rw [hX]
  have SAME := Lib.hid (fun (W : World) (hW : Below w.heap.size w W) => RAns.same RL hI hW)
  obtain ⟨Sr, hv, hR⟩ := hI
  have c3 := hR.io.c3
  have c4 := hR.io.c4
  have RI := Lib.hid hR
  have HX := Lib.hid hX
  have HO := Lib.hid hO
  have hlg := (hR.inS g hR.sg).1
  obtain ⟨ah, ch, hhv, hsh⟩ := hR.ow.slB
  subst hhv
  clear hX hR hO
  by_cases he : c.er ≠ 0
  · have XE := Lib.hid (show X = (false, c.er, c) by rw [← HX.out]; exact end_er he)
    have t1 : (c.er != 0) = true := by rw [bne_iff_ne]; exact he
    clear he c4
    go_enter Tryz.func107, Tryz.ntmps107
    go_wp2_with fail
    go_quiet (fail)
    go_wp2_with fail
    go_ret2
    rw [XE.out]
    exact ⟨rfl, SAME.out _ (keep_drewN (Below.refl _ _) _)⟩
  have he : c.er = 0 := by simpa using he
  have t1 : (c.er != 0) = false := by rw [bne_eq_false_iff_eq]; exact he
  by_cases hhe : c.held ≠ []
  · have XE := Lib.hid (show X = (false, 0, c) by rw [← HX.out]; exact end_held he hhe)
    have hl : 0 < c.held.length := List.length_pos_iff.2 hhe
    obtain ⟨L, hL⟩ : ∃ L, c.held.length = L := ⟨_, rfl⟩
    rw [hL] at hl c4
    have t2 : decide ((L : Int) > 0) = true := decide_eq_true (by omega)
    have t2' : decide (0 < L) = true := decide_eq_true hl
    clear he hhe hL
    go_enter Tryz.func107, Tryz.ntmps107
    go_wp2_with fail
    go_ret2
    rw [XE.out]
    exact ⟨rfl, SAME.out _ (Below.refl _ _)⟩
  have hhe : c.held = [] := by simpa using hhe
  obtain ⟨⟨b, e, s', i'⟩, hK⟩ : ∃ Y, tk R (R.mu c.s * 17 + 17) c.s c.idle c.held 1 = Y := ⟨_, rfl⟩
  have XE := Lib.hid (show X = if e = 0 then (false, 0, ⟨s', c.pl, 0, i', b⟩) else if e = 41 then (true, 0, ⟨s', c.pl, 0, i', []⟩) else (false, e, ⟨s', c.pl, e, i', []⟩) by rw [← HX.out]; exact end_take he hhe (by rw [← hhe]; exact hK))
  have hid := HO.out.idle he
  have hbu := HO.out.bud
  have WT := (rwant_any RL hmu g most c.pl c.er c.s Sr c.idle c.held _ 1 w RI.out.io RI.out.ow (fun j hj => (RI.out.hs j hj).2) RI.out.st RI.out.ng hlg HO.out.held (Nat.le_refl _) (by omega) hid (by omega) (.inl (by decide)))
  rw [hK] at WT
  have WTH := Lib.hid WT
  have HCE := Lib.hid he
  rw [hhe] at c4
  have c4' : w.cell? ⟨g, 4, none⟩ = some (.slice ah 0 ch) := c4
  clear WT hK hhe c4 he
  go_enter Tryz.func107, Tryz.ntmps107
  go_wp2_with fail
  refine WTH.out.mono ?_
  rintro r w2 ⟨bv, S2, b', rfl, hb', ho, hio, hst, hsub, hdis, htu⟩
  dsimp only at hb' hio hst ⊢
  obtain ⟨ab, nb, cb, rfl, -⟩ := ho.slN
  have ng2 : ¬ S2 g := fun h => by rcases hsub g h with e | e; (exact RI.out.ng e); (have := RI.out.io.lt; omega)
  have TU2 := Lib.hid (show Turns S w w2 from htu.mono fun j hj e => by
    rcases e with e | e | e
    · exact RI.out.sr j e
    · subst e; exact RI.out.sg
    · exact (RI.out.hs j e).1)
  have SUB := Lib.hid (show ∀ j, (S2 j ∨ j = g) → S j ∨ w.heap.size ≤ j from fun j hj => by
    rcases hj with hj | hj
    · rcases hsub j hj with e | e
      · exact .inl (RI.out.sr j e)
      · exact .inr e
    · subst hj; exact .inl RI.out.sg)
  have INS := Lib.hid (show ∀ j, (S2 j ∨ j = g) → lo ≤ j ∧ j < w2.heap.size from fun j hj => by
    rcases hj with hj | hj
    · exact RL.inS _ _ _ hst j hj
    · subst hj; exact ⟨hlg, hio.lt⟩)
  have BASE := Lib.hid (show RIn St lo g most v ⟨s', c.pl, 0, i', []⟩ (fun j => S2 j ∨ j = g) S2 (.slice none 0 0) w2 from
    { io := by have := hio; rw [HCE.out] at this; exact this, ow := OwT.nil _ _ _ _, st := hst, sr := fun j hj => .inl hj, sg := .inr rfl, ng := ng2, hs := fun j e => (by cases e), inS := INS.out })
  have O2 := Lib.hid ho
  have DIS := Lib.hid hdis
  have hol := ho.lt
  have HOL := Lib.hid hol
  have HB := Lib.hid hb'
  have d3 := BASE.out.io.c3
  have f3 := BASE.out.io.free 3
  have d4 := BASE.out.io.c4
  have f4 := BASE.out.io.free 4
  clear ho hio hst hsub hdis htu ng2 WTH hol hb'
  by_cases h41 : e = 41
  · have t5 : (e == 41) = true := by rw [beq_iff_eq]; exact h41
    have XF := Lib.hid (show X = (true, 0, ⟨s', c.pl, 0, i', []⟩) by rw [XE.out, if_neg (by omega), if_pos h41])
    clear h41
    go_wp2_with fail
    go_ret2
    rw [XF.out]
    exact ⟨rfl, _, ⟨_, _, BASE.out⟩, SUB.out, TU2.out⟩
  · have t5 : (e == 41) = false := by rw [beq_eq_false_iff_ne]; exact h41
    by_cases h0 : e = 0
    · have t6 : (e != 0) = false := by rw [bne_eq_false_iff_eq]; exact h0
      have hbb := HB.out h0
      have XF := Lib.hid (show X = (false, 0, ⟨s', c.pl, 0, i', b'⟩) by rw [XE.out, if_pos h0, hbb])
      have TT := setT (g := g) w2 4 (.slice ab nb cb)
      have FIN := Lib.hid (show RAns St lo g most v S w ⟨s', c.pl, 0, i', b'⟩ (w2.setCell ⟨g, 4, none⟩ (.slice ab nb cb)) from
        ⟨fun j => (S2 j ∨ j = g) ∨ Value.ownBlock (.slice ab nb cb) = some j, ⟨S2, .slice ab nb cb,
          { io := BASE.out.io.s4 _, ow := O2.out.turns TT fun j hj e => (DIS.out j hj).2.1 e, st := RL.frame _ _ _ _ _ BASE.out.st TT (fun j hj e => by have e : j = g := e; subst e; exact BASE.out.ng hj) (fun j e => by have e : j = g := e; omega), sr := fun j hj => .inl (.inl hj), sg := .inl (.inr rfl), ng := BASE.out.ng
            hs := fun j hj => ⟨.inr hj, (DIS.out j hj).1, (DIS.out j hj).2.1⟩
            inS := fun j hj => by
              rcases hj with hj | hj
              · have := INS.out j hj; simpa using this
              · have := HOL.out j hj; simpa using this }⟩, fun j hj => by
          rcases hj with hj | hj
          · exact SUB.out j hj
          · rcases (DIS.out j hj).2.2 with q | q
            · exact .inl (RI.out.hs j q).1
            · exact .inr q, TU2.out.trans TT fun j _ e => by have e : j = g := e; subst e; exact RI.out.sg⟩)
      clear h41 h0 hbb TT
      go_wp2_with fail
      go_ret2
      rw [XF.out]
      exact ⟨rfl, FIN.out⟩
    · have t6 : (e != 0) = true := by rw [bne_iff_ne]; exact h0
      have XF := Lib.hid (show X = (false, e, ⟨s', c.pl, e, i', []⟩) by rw [XE.out, if_neg h0, if_neg h41])
      have FIN := Lib.hid (show RAns St lo g most v S w ⟨s', c.pl, e, i', []⟩ (w2.setCell ⟨g, 3, none⟩ (.int .i64 e)) from
        ⟨_, ⟨_, _, BASE.out.set_er RL e⟩, SUB.out, TU2.out.trans (setT w2 3 _) fun j _ e => by have e : j = g := e; subst e; exact RI.out.sg⟩)
      clear h41 h0
      go_wp2_with fail
      go_ret2
      rw [XF.out]
      exact ⟨rfl, FIN.out⟩
/-- the document's taker in block gt -/
def Rt1 (w : World) (gt : Nat) (x : Value) (s : Nat) : Prop := Rt w gt (fun _ => x) (fun _ => s)
theorem rtk_any (gt base : Nat) (x : Value) (s n : Nat) (bs : List UInt8) (c : UInt8) (w : World) (d : Bool) (er n2 s2 : Nat) (b2 : List UInt8) (hq : tq s n bs c = (d, er, n2, s2, b2)) (hi : Inv bs n s) (hgb : gt < base) (hbw : base ≤ w.heap.size)
    (h : Rt1 w gt x s) (ho : OwT fB w base 5 x bs) :
    Calls Tryz.prog 103 #[.pointer (some ⟨gt, 0, none⟩), .int .u8 (B c)] w fun e w' => e = .returned (.tuple #[.bool d, .int .i64 er]) ∧ ∃ y, OwT fB w' base 5 y b2 ∧ Rt1 w' gt y s2 ∧ Turns (fun j => j = gt ∨ x.ownBlock = some j) w w' ∧ ∀ j, y.ownBlock = some j → x.ownBlock = some j ∨ w.heap.size ≤ j := by
  refine (qtake_any gt 0 base (fun _ => s) (fun _ => x) n bs c w d er n2 s2 b2 (by omega) hq hi hgb hbw h ho).mono ?_
  rintro e w' ⟨rfl, y, h1, h2, h3, h4⟩
  obtain ⟨k1, k2, k3, k4, k5⟩ := h3
  exact ⟨rfl, y, h1, h2, ⟨k1, k2, k3, k4, fun j hj hs => k5 j hj (fun e => hs (.inl e)) (fun e => hs (.inr e.symm))⟩, h4⟩
theorem rtn_any (gt base : Nat) (x : Value) (s n : Nat) (bs : List UInt8) (w : World) (hi : Inv bs n s) (h : Rt1 w gt x s) (ho : OwT fB w base 5 x bs) :
    Calls Tryz.prog 104 #[.pointer (some ⟨gt, 0, none⟩)] w fun e w' => e = .returned (.tuple #[.int .u64 (nv s n : Nat), .bool (decide (s = 1))]) ∧ w = w' :=
  qnumber_any gt 0 base (fun _ => s) (fun _ => x) n bs w (by omega) hi h ho
theorem Rt1.turns {T : Nat → Prop} {w w' : World} {gt s : Nat} {x : Value} (h : Rt1 w gt x s) (ht : Turns T w w') (hg : ¬ T gt) : Rt1 w' gt x s := ht.heap h hg
theorem Rt1.lt {w : World} {gt s : Nat} {x : Value} (h : Rt1 w gt x s) : gt < w.heap.size := Rt.lt h
/-- behind Number of the document's -/
def RNumPost (St : σ → (Nat → Prop) → World → Prop) (X : Nat × Int × CIn σ) (S : Nat → Prop) (lo g : Nat) (most : Int) (v : Value) (w : World) (r : Ending) (w' : World) : Prop :=
  r = .returned (.tuple #[.int .u64 (X.1 : Nat), .int .i64 X.2.1]) ∧ RAns St lo g most v S w X.2.2 w'
/-- in the midst of it -/
structure RNuM (R : Rm σ) (P : σ → Prop) (St : σ → (Nat → Prop) → World → Prop) (lo g : Nat) (most : Int) (v : Value) (w : World) (S0 : Nat → Prop) (X : Nat × Int × CIn σ) (at0 gt Bd F : Nat) (c : CIn σ) (n : Nat) (bs : List UInt8) (tv : Value) (S : Nat → Prop) (W : World) : Prop where
  eq : numG R most at0 F c n 0 bs = X
  ob : RObj St lo g most v c S W
  sub : ∀ j, S j → S0 j ∨ w.heap.size ≤ j
  tu : Turns S0 w W
  tk : Rt1 W gt tv 0
  ow : OwT fB W (gt + 1) 5 tv bs
  inv : Inv bs n 0
  fl : F + bs.length = 11
  ok : OkayC R P most (Bd + 32 * bs.length) c
  nt : ¬ S gt
  no : ∀ j, tv.ownBlock = some j → ¬ S j
  hz : gt + 1 ≤ W.heap.size
set_option maxHeartbeats 4000000 in
theorem rnum_any (RL : RdrL R v lo Br St) (hmu : ∀ s n, R.mu (R.nxt s n) ≤ R.mu s)
    (g : Nat) (most : Int) (c : CIn σ) (S0 : Nat → Prop) (w : World) (P : σ → Prop) (hP : ∀ s n, P s → P (R.nxt s n)) (Bd : Nat) (hO : OkayC R P most Bd c) (hI : RObj St lo g most v c S0 w) (hm : most ≤ 9223372036854775807) (hc : Bd + 400 ≤ Br) :
    Calls Tryz.prog 63 #[.pointer (some ⟨g, 0, none⟩)] w (RNumPost St (numM R most c) S0 lo g most v w) := by
  obtain ⟨X, hX⟩ : ∃ X, numM R most c = X := ⟨_, rfl⟩
  rw [hX]
  have SAME := Lib.hid (fun (W : World) (hW : Below w.heap.size w W) => RAns.same RL hI hW)
  have OB := Lib.hid hI
  obtain ⟨Sr, hv, hR⟩ := hI
  have c2 := hR.io.c2
  have c3 := hR.io.c3
  have lg := hR.io.lt
  have hlg := (hR.inS g hR.sg).1
  have SG := Lib.hid hR.sg
  have HX := Lib.hid hX
  have HO := Lib.hid hO
  obtain ⟨at0, hat⟩ : ∃ a, c.pl = a := ⟨_, rfl⟩
  have HAT := Lib.hid hat
  rw [hat] at c2
  clear hX hR hO hat
  by_cases he : c.er ≠ 0
  · have XE := Lib.hid (show X = (0, c.er, c) by
      have hb : byteM R most c = (0, c.er, c) := by unfold byteM; rw [bytes_er he]; rfl
      obtain ⟨⟨d, er, n2, s2, b2⟩, hq⟩ : ∃ Y, tq 0 0 [] (0 : UInt8) = Y := ⟨_, rfl⟩
      have h := numG_step (at0 := c.pl) (F := 10) hb hq
      rw [if_pos he] at h
      rw [← HX.out]
      exact h)
    have t1 : (c.er != 0) = true := by rw [bne_iff_ne]; exact he
    clear he c2
    go_enter Tryz.func63, Tryz.ntmps63
    go_wp2_with fail
    go_quiet (fail)
    go_wp2_with fail
    go_ret2
    rw [XE.out]
    exact ⟨rfl, SAME.out _ (keep_drewN (Below.refl _ _) _)⟩
  have he : c.er = 0 := by simpa using he
  have t1 : (c.er != 0) = false := by rw [bne_eq_false_iff_eq]; exact he
  clear he
  go_enter Tryz.func63, Tryz.ntmps63
  go_wp2_with fail
  obtain ⟨w1, hw1⟩ : ∃ V, w.alloc (.cells #[.slice none 0 0, .int .i64 0] 173) = V := ⟨_, rfl⟩
  have hb1 : Below w.heap.size w w1 := hw1 ▸ (Below.refl _ _).alloc (Nat.le_refl _) _
  have htk : Rt1 w1 w.heap.size (.slice none 0 0) 0 := hw1 ▸ heap_new w _
  have hz1 : w1.heap.size = w.heap.size + 1 := by rw [← hw1]; simp
  rw [hw1]
  have M0 := Lib.hid (show RNuM R P St lo g most v w S0 X at0 w.heap.size Bd 11 c 0 [] (.slice none 0 0) S0 w1 from
    { eq := by rw [← HX.out, ← HAT.out]; rfl
      ob := OB.out.turns RL (T := fun _ => False) (.of_below hb1) (fun _ _ e => e) (fun _ e => e.elim)
      sub := fun j hj => .inl hj, tu := .of_below hb1, tk := htk, ow := OwT.nil _ _ _ _, inv := .start, fl := rfl, ok := HO.out.mono (by omega), nt := fun h => by have := (OB.out.inS _ h).2; omega, no := fun j e => (by cases e), hz := by omega })
  clear htk hb1 c2 c3 hw1 hz1
  obtain ⟨gt, hgt⟩ : ∃ gt, w.heap.size = gt := ⟨_, rfl⟩
  rw [hgt] at M0 lg ⊢
  have HGT := Lib.hid hgt
  clear hgt
  go_wp2_with fail
  go_loopg [] 11 (fun F wr => ∃ c' n bs tv S, RNuM R P St lo g most v w S0 X at0 gt Bd F c' n bs tv S wr)
  case atStart => exact ⟨_, _, _, _, _, M0.out⟩
  case round =>
    obtain ⟨c', n, bs, tv, S, hM⟩ := hrel
    have M := Lib.hid hM
    clear hM M0
    have hbl : bs.length ≤ 9 := by
      rcases M.out.inv with h | h | h
      · exact h.2.1
      · exact absurd h.1 (by decide)
      · exact absurd h.1 (by decide)
    obtain ⟨F, hF⟩ : ∃ F, gk = F + 1 := ⟨gk - 1, by have := M.out.fl; omega⟩
    subst hF
    have BY := Lib.hid (rbyte_any RL hmu g most c' S wr P hP (Bd + 32 * bs.length) M.out.ok M.out.ob hm (by omega))
    have OKB := Lib.hid (M.out.ok.byte hmu hP)
    obtain ⟨⟨x, e, c2⟩, hX2⟩ : ∃ Y, byteM R most c' = Y := ⟨_, rfl⟩
    obtain ⟨⟨d, er, n2, s2, b2⟩, hq⟩ : ∃ Y, tq 0 n bs x = Y := ⟨_, rfl⟩
    have EQ := Lib.hid (show X = _ from M.out.eq.symm.trans (numG_step hX2 hq))
    rw [hX2] at BY OKB
    dsimp only at OKB
    have HQ := Lib.hid hq
    clear hX2 hq
    go_wp2_with fail
    refine BY.out.mono ?_
    rintro r w2 ⟨rfl, S2, hob, hsub, htu⟩
    dsimp only at hob ⊢
    have hwr := M.out.hz
    have hlo := M.out.ow.lt
    have SUB2 := Lib.hid (show ∀ j, S2 j → S0 j ∨ w.heap.size ≤ j from fun j hj => by
      rcases hsub j hj with q | q
      · exact M.out.sub j q
      · exact .inr (Nat.le_trans M.out.tu.size q))
    have TU2 := Lib.hid (M.out.tu.trans htu fun j hj q => by
      rcases M.out.sub j q with q | q
      · exact q
      · omega)
    have TK2 := Lib.hid (M.out.tk.turns htu M.out.nt)
    have OW2 := Lib.hid (M.out.ow.turns htu fun j hj => M.out.no j hj)
    have NT2 := Lib.hid (show ¬ S2 gt from fun h => by rcases hsub gt h with q | q; (exact M.out.nt q); (omega))
    have NO2 := Lib.hid (show ∀ j, tv.ownBlock = some j → ¬ S2 j from fun j hj h => by rcases hsub j h with q | q; (exact M.out.no j hj q); (have := (hlo j hj).2; omega))
    have hz2 : gt + 1 ≤ w2.heap.size := Nat.le_trans hwr htu.size
    have INV := Lib.hid M.out.inv
    have hfl := M.out.fl
    have OB2 := Lib.hid hob
    have INS2 := Lib.hid hob.inS
    clear hob hsub htu hlo BY M
    by_cases h0 : e = 0
    · subst h0
      have TKE := Lib.hid (rtk_any gt (gt + 1) tv 0 n bs x w2 d er n2 s2 b2 HQ.out INV.out (by omega) hz2 TK2.out OW2.out)
      go_wp2_with fail
      refine TKE.out.mono ?_
      rintro r w3 ⟨rfl, tv2, how, htk, htu3, hown⟩
      have hlo2 := OW2.out.lt
      have OB3 := Lib.hid (OB2.out.turns RL htu3 (fun j hj e => by rcases e with e | e; (subst e; exact NT2.out hj); (exact NO2.out j e hj)) (fun j e => by rcases e with e | e; (omega); (have := (hlo2 j e).1; omega)))
      have TU3 := Lib.hid (TU2.out.trans htu3 fun j hj e => by have := HGT.out; rcases e with e | e; (omega); (have := (hlo2 j e).1; omega))
      have OW3 := Lib.hid how
      have TK3 := Lib.hid htk
      have NO3 := Lib.hid (show ∀ j, tv2.ownBlock = some j → ¬ S2 j from fun j hj h => by rcases hown j hj with q | q; (exact NO2.out j q h); (have := (INS2.out j h).2; omega))
      have hz3 : gt + 1 ≤ w3.heap.size := Nat.le_trans hz2 htu3.size
      clear how htk htu3 hown hlo2 TKE
      by_cases hr0 : er = 0
      · subst hr0
        obtain ⟨k1, k2, k3⟩ := tq_go HQ.out
        cases d
        · obtain rfl := k2 rfl
          obtain rfl := k3
          have GO := Lib.hid (show RNuM R P St lo g most v w S0 X at0 gt Bd F c2 n2 (bs ++ [x]) tv2 S2 w3 from
            { eq := by rw [EQ.out]; rfl
              ob := OB3.out, sub := SUB2.out, tu := TU3.out, tk := TK3.out, ow := OW3.out, inv := INV.out.step x HQ.out, fl := by rw [List.length_append]; simp; omega, ok := OKB.out.mono (by rw [List.length_append]; simp; omega), nt := NT2.out, no := NO3.out, hz := hz3 })
          clear k1 k2
          go_wp2_with fail
          go_roundg F
          case measure => omega
          case rel => exact ⟨_, _, _, _, _, GO.out⟩
        · obtain rfl := k1 rfl
          have XE := Lib.hid (show X = (n2, 0, c2) by rw [EQ.out]; rfl)
          have PN := Lib.hid (rtn_any gt (gt + 1) tv2 1 n2 b2 w3 (INV.out.step x HQ.out) TK3.out OW3.out)
          clear k1 k2 k3
          go_wp2_with fail
          refine PN.out.mono ?_
          rintro r w4 ⟨rfl, rfl⟩
          go_wp2_with fail
          go_ret2
          rw [XE.out]
          exact ⟨rfl, S2, OB3.out, SUB2.out, TU3.out⟩
      · have XE := Lib.hid (show X = (0, (er : Int), { c2 with pl := at0, er := er }) by rw [EQ.out, if_neg (by simp), if_pos hr0])
        have t2 : ((er : Int) != 0) = true := by rw [bne_iff_ne]; omega
        have t2' : (er != 0) = true := by rw [bne_iff_ne]; exact hr0
        obtain ⟨Sr2, hv2, hR2⟩ := OB3.out
        have d2 := hR2.io.c2
        have f2 := hR2.io.free 2
        have h4 := hR2.set_pl RL at0
        have d3 := h4.io.c3
        have f3 := h4.io.free 3
        have FIN := Lib.hid (h4.set_er RL er)
        have TT : Turns (fun j => j = g) w3 ((w3.setCell ⟨g, 2, none⟩ (.int .i64 (at0 : Nat))).setCell ⟨g, 3, none⟩ (.int .i64 (er : Int))) := (setT _ _ _).trans (setT _ _ _) fun _ _ e => e
        have TF := Lib.hid (TU3.out.trans TT fun j _ e => by have e : j = g := e; subst e; exact SG.out)
        clear hr0 hR2 h4 TT
        go_wp2_with fail
        go_ret2
        rw [XE.out]
        exact ⟨rfl, S2, ⟨_, _, FIN.out⟩, SUB2.out, TF.out⟩
    · have XE := Lib.hid (show X = (0, e, { c2 with pl := at0 }) by rw [EQ.out, if_pos h0])
      have t1' : (e != 0) = true := by rw [bne_iff_ne]; exact h0
      obtain ⟨Sr2, hv2, hR2⟩ := OB2.out
      have d2 := hR2.io.c2
      have f2 := hR2.io.free 2
      have FIN := Lib.hid (hR2.set_pl RL at0)
      have TF := Lib.hid (TU2.out.trans (setT w2 2 (.int .i64 (at0 : Nat))) fun j _ e => by have e : j = g := e; subst e; exact SG.out)
      clear h0 hR2
      go_wp2_with fail
      go_ret2
      rw [XE.out]
      exact ⟨rfl, S2, ⟨_, _, FIN.out⟩, SUB2.out, TF.out⟩
end
end Go.Proofs.YtljcogimeimknaaGreat
/- The document's reader of streams in memory. No condition. -/
namespace Go.Proofs.YtljcogimeimknaaGreat
open Go.RowKit Go.Shelf
set_option linter.unusedVariables false

abbrev mxR : Int := 4611686018427387904
abbrev rrC (gi : Nat) (bg : Bool) (ph : Nat) (er : Int) (pt : Nat) (rv lv : Value) : Array Value := #[.pointer (some ⟨gi, 0, none⟩), .bool bg, .bool (decide (ph = 2)), .int .i64 er, .int .i64 (pt : Nat), rv, lv]
/-- what its doings leave: all but its own (its rows' keys, 5, too) lies as it lay; it may let go of what its In had -/
structure GrW (w w' : World) (who who' : Nat → Nat) : Prop where
  t : Turns (fun j => who j ≠ 0 ∧ who j ≠ 5) w w'
  o : ∀ j, j < w.heap.size → who' j = who j ∨ (who j = 3 ∧ who' j = 0)
theorem GrW.refl (w : World) (who : Nat → Nat) : GrW w w who who := ⟨Turns.refl _ _, fun _ _ => .inl rfl⟩
theorem GrW.old {w w' : World} {who who' : Nat → Nat} (h : GrW w w' who who') {j : Nat} (hj : j < w.heap.size) (hn : who' j ≠ 0) : who j = who' j := by
  rcases h.o j hj with e | ⟨_, e⟩
  · exact e.symm
  · exact absurd e hn
theorem GrW.trans {w w1 w2 : World} {who who1 who2 : Nat → Nat} (h : GrW w w1 who who1) (k : GrW w1 w2 who1 who2) : GrW w w2 who who2 :=
  ⟨h.t.trans k.t fun j hj e => by rw [h.old hj e.1]; exact e, fun j hj => by
    rcases k.o j (Nat.lt_of_lt_of_le hj h.t.size) with e | ⟨e1, e2⟩
    · rw [e]; exact h.o j hj
    · rcases h.o j hj with e | ⟨e, _⟩
      · exact .inr ⟨e ▸ e1, e2⟩
      · exact .inr ⟨e, e2⟩⟩
theorem GrW.below {w w' : World} {who : Nat → Nat} (h : Below w.heap.size w w') : GrW w w' who who := ⟨.of_below h, fun _ _ => .inl rfl⟩
theorem GrW.zero {w w' : World} {who who' : Nat → Nat} (h : GrW w w' who who') {j : Nat} (hj : j < w.heap.size) (hn : who j = 0) : who' j = 0 := by
  rcases h.o j hj with e | ⟨_, e⟩
  · rw [e]; exact hn
  · exact e
/-- the document's reader: who: 1 the reader, 3 its In and source, 4 the rows, 5 their keys -/
structure Rrp (w : World) (bs : List UInt8) (lo gt g gi : Nat) (bg : Bool) (S : Nat → Prop) (lv rv : Value) (vs : List RV) (s : RS) (who : Nat → Nat) : Prop where
  low : ∀ j, who j ≠ 0 → lo ≤ j ∧ j < w.heap.size
  lw : lo ≤ w.heap.size
  blk : w.heap[g]? = some (.cells (rrC gi bg s.ph s.er s.pt rv lv) 121 (0, 0))
  b0 : s.ph = 0 → bg = false
  b1 : s.ph = 1 → bg = true
  gw : who g = 1
  io : RObj (StR gt lo bs) lo gi mxR (.pointer (some ⟨gt, 0, none⟩)) s.c S w
  sw : ∀ j, S j → who j = 3
  rw : OwT fR w lo 94 rv vs
  rb : ∀ j, rv.ownBlock = some j → who j = 4
  rl : vs.length = s.rows.length
  rk : ∀ (i : Nat) (x : RV) (r : Row), vs[i]? = some x → s.rows[i]? = some r → x.2 = r.2 ∧ Sl Bf w x.1.1 x.1.2.1 x.1.2.2 r.1 ∧ ∀ b o, x.1.1 = some ⟨b, o, none⟩ → 0 < x.1.2.1 → who b = 5

section
variable {w w' w1 w0 : World} {bs : List UInt8} {lo gt g gi : Nat} {bg : Bool} {S S' : Nat → Prop} {lv rv : Value} {vs : List RV} {s : RS} {who who0 : Nat → Nat}

theorem Rrp.turn (hbl : bs.length ≤ 140737488351232) {T : Nat → Prop} (h : Rrp w bs lo gt g gi bg S lv rv vs s who) (ht : Turns T w w') (hS : ∀ j, T j → who j = 0) (hl : ∀ j, T j → lo ≤ j) : Rrp w' bs lo gt g gi bg S lv rv vs s who := by
  have hn : ∀ j k, who j = k → k ≠ 0 → ¬ T j := fun j k e hk hs => hk (e ▸ hS j hs)
  refine ⟨fun j hj => ⟨(h.low j hj).1, Nat.lt_of_lt_of_le (h.low j hj).2 ht.size⟩, Nat.le_trans h.lw ht.size, ht.heap h.blk (hn g 1 h.gw (by decide)), h.b0, h.b1, h.gw, h.io.turns (rsrcL gt lo bs hbl) ht (fun j hj => hn j 3 (h.sw j hj) (by decide)) hl, h.sw, h.rw.turns ht (fun j hj => hn j 4 (h.rb j hj) (by decide)), h.rb, h.rl, ?_⟩
  intro i x r hx hr
  obtain ⟨e, e2, e3⟩ := h.rk i x r hx hr
  exact ⟨e, e2.turns ht (fun b o hb h0 => hn b 5 (e3 b o hb h0) (by decide)), e3⟩
theorem Rrp.keep (hbl : bs.length ≤ 140737488351232) (h : Rrp w bs lo gt g gi bg S lv rv vs s who) (hb : Below w.heap.size w w') : Rrp w' bs lo gt g gi bg S lv rv vs s who :=
  h.turn hbl (T := fun _ => False) (.of_below hb) (fun _ e => e.elim) (fun _ e => e.elim)
theorem Rrp.c0 (h : Rrp w bs lo gt g gi bg S lv rv vs s who) : w.cell? ⟨g, 0, none⟩ = some (.pointer (some ⟨gi, 0, none⟩)) := cell_of h.blk 0 rfl
theorem Rrp.c1 (h : Rrp w bs lo gt g gi bg S lv rv vs s who) : w.cell? ⟨g, 1, none⟩ = some (.bool bg) := cell_of h.blk 1 rfl
theorem Rrp.c2 (h : Rrp w bs lo gt g gi bg S lv rv vs s who) : w.cell? ⟨g, 2, none⟩ = some (.bool (decide (s.ph = 2))) := cell_of h.blk 2 rfl
theorem Rrp.c3 (h : Rrp w bs lo gt g gi bg S lv rv vs s who) : w.cell? ⟨g, 3, none⟩ = some (.int .i64 s.er) := cell_of h.blk 3 rfl
theorem Rrp.c4 (h : Rrp w bs lo gt g gi bg S lv rv vs s who) : w.cell? ⟨g, 4, none⟩ = some (.int .i64 (s.pt : Nat)) := cell_of h.blk 4 rfl
theorem Rrp.c5 (h : Rrp w bs lo gt g gi bg S lv rv vs s who) : w.cell? ⟨g, 5, none⟩ = some rv := cell_of h.blk 5 rfl
theorem Rrp.c6 (h : Rrp w bs lo gt g gi bg S lv rv vs s who) : w.cell? ⟨g, 6, none⟩ = some lv := cell_of h.blk 6 rfl
theorem Rrp.cp (h : Rrp w bs lo gt g gi bg S lv rv vs s who) : w.cell? ⟨gi, 2, none⟩ = some (.int .i64 (s.c.pl : Nat)) := by
  obtain ⟨Sr, hv, hI⟩ := h.io
  exact hI.io.c2
theorem Rrp.free (h : Rrp w bs lo gt g gi bg S lv rv vs s who) (i : Nat) : w.frozen? ⟨g, i, none⟩ = false := free_block h.blk i
theorem Rrp.lt (h : Rrp w bs lo gt g gi bg S lv rv vs s who) : g < w.heap.size := (h.low g (by rw [h.gw]; decide)).2
theorem Rrp.spv (h : Rrp w bs lo gt g gi bg S lv rv vs s who) : ∃ a n c, rv = .slice a n c ∧ SpV w a n c vs s.rows := by
  obtain ⟨a, c, e, hs⟩ := h.rw.sl fR_len
  exact ⟨a, _, c, e, hs, h.rl, fun i x r hx hr => ⟨(h.rk i x r hx hr).1, (h.rk i x r hx hr).2.1⟩⟩

noncomputable def whoS (who : Nat → Nat) (n : Nat) (S S' : Nat → Prop) : Nat → Nat := by
  classical exact fun j => if S' j then 3 else if j < n ∧ ¬ S j then who j else 0
theorem whoS_in {n j : Nat} (h : S' j) : whoS who n S S' j = 3 := by unfold whoS; rw [if_pos h]
theorem whoS_old {n j : Nat} (h : ¬ S' j) (h1 : j < n) (h2 : ¬ S j) : whoS who n S S' j = who j := by unfold whoS; rw [if_neg h, if_pos ⟨h1, h2⟩]
theorem whoS_no {n j : Nat} (h : ¬ S' j) (h1 : S j ∨ n ≤ j) : whoS who n S S' j = 0 := by
  unfold whoS
  rw [if_neg h, if_neg]
  rintro ⟨a, b⟩
  rcases h1 with e | e
  · exact b e
  · omega
/-- its In has gone on -/
theorem Rrp.newI (h : Rrp w bs lo gt g gi bg S lv rv vs s who) {c : CIn Src} (hR : RObj (StR gt lo bs) lo gi mxR (.pointer (some ⟨gt, 0, none⟩)) c S' w') (hsub : ∀ j, S' j → S j ∨ w.heap.size ≤ j) (ht : Turns S w w') :
    ∃ who', Rrp w' bs lo gt g gi bg S' lv rv vs { s with c := c } who' ∧ GrW w w' who who' ∧ ∀ j, ¬ S' j → (S j ∨ w.heap.size ≤ j) → who' j = 0 := by
  have hn : ∀ j k, who j = k → k ≠ 3 → ¬ S j := fun j k e h3 hs => h3 (e ▸ h.sw j hs)
  have hlt : ∀ j k, who j = k → k ≠ 0 → j < w.heap.size := fun j k e hk => (h.low j (by omega)).2
  have hn' : ∀ j k, who j = k → k ≠ 0 → k ≠ 3 → ¬ S' j := fun j k e h0 h3 hs => by
    rcases hsub j hs with q | q
    · exact hn j k e h3 q
    · have := hlt j k e h0; omega
  have old : ∀ j k, who j = k → k ≠ 0 → k ≠ 3 → whoS who w.heap.size S S' j = k := fun j k e h0 h3 => by rw [whoS_old (hn' j k e h0 h3) (hlt j k e h0) (hn j k e h3)]; exact e
  refine ⟨whoS who w.heap.size S S', ⟨fun j hj => ?_, Nat.le_trans h.lw ht.size, ht.heap h.blk (hn g 1 h.gw (by decide)), h.b0, h.b1, old g 1 h.gw (by decide) (by decide), hR, fun j hj => whoS_in hj, h.rw.turns ht (fun j hj => hn j 4 (h.rb j hj) (by decide)), fun j hj => old j 4 (h.rb j hj) (by decide) (by decide), h.rl, fun i x r hx hr => ?_⟩, ⟨ht.mono fun j _ e => by rw [h.sw j e]; decide, fun j hj => ?_⟩, fun j h1 h2 => whoS_no h1 h2⟩
  · by_cases hs : S' j
    · exact hR.inS j hs
    · by_cases ho : j < w.heap.size ∧ ¬ S j
      · rw [whoS_old hs ho.1 ho.2] at hj; have := h.low j hj; exact ⟨this.1, Nat.lt_of_lt_of_le this.2 ht.size⟩
      · rw [whoS_no hs (by by_cases e : S j; (exact .inl e); (exact .inr (by have : ¬ j < w.heap.size := fun q => ho ⟨q, e⟩; omega)))] at hj; exact absurd rfl hj
  · obtain ⟨e, e2, e3⟩ := h.rk i x r hx hr
    exact ⟨e, e2.turns ht (fun b o hb h0 => hn b 5 (e3 b o hb h0) (by decide)), fun b o hb h0 => old b 5 (e3 b o hb h0) (by decide) (by decide)⟩
  · by_cases hs : S' j
    · rcases hsub j hs with e | e
      · exact .inl (by rw [whoS_in hs, h.sw j e])
      · omega
    · by_cases e : S j
      · exact .inr ⟨h.sw j e, whoS_no hs (.inl e)⟩
      · exact .inl (whoS_old hs hj e)
/-- its own cells have been written -/
theorem Rrp.updG (hbl : bs.length ≤ 140737488351232) (h : Rrp w bs lo gt g gi bg S lv rv vs s who) (ht : Turns (fun j => j = g) w w') {lv' : Value} {bg' : Bool} {ph pt : Nat} {er : Int} (hb : w'.heap[g]? = some (.cells (rrC gi bg' ph er pt rv lv') 121 (0, 0))) (h0 : ph = 0 → bg' = false) (h1 : ph = 1 → bg' = true) :
    Rrp w' bs lo gt g gi bg' S lv' rv vs ⟨s.c, ph, s.rows, er, pt⟩ who ∧ GrW w w' who who := by
  have hn : ∀ j k, who j = k → k ≠ 1 → ¬ j = g := fun j k e hk hg => hk (by rw [← e, hg, h.gw])
  have hlg : lo ≤ g := (h.low g (by rw [h.gw]; decide)).1
  refine ⟨⟨fun j hj => ⟨(h.low j hj).1, Nat.lt_of_lt_of_le (h.low j hj).2 ht.size⟩, Nat.le_trans h.lw ht.size, hb, h0, h1, h.gw, h.io.turns (rsrcL gt lo bs hbl) ht (fun j hj => hn j 3 (h.sw j hj) (by decide)) (fun j e => by have e : j = g := e; omega), h.sw, h.rw.turns ht (fun j hj => hn j 4 (h.rb j hj) (by decide)), h.rb, h.rl, fun i x r hx hr => ?_⟩, ⟨ht.mono fun j _ e => by rw [e, h.gw]; decide, fun _ _ => .inl rfl⟩⟩
  obtain ⟨e, e2, e3⟩ := h.rk i x r hx hr
  exact ⟨e, e2.turns ht (fun b o hb h0 => hn b 5 (e3 b o hb h0) (by decide)), e3⟩
noncomputable def whoX (who : Nat → Nat) (P Q : Nat → Prop) : Nat → Nat := by
  classical exact fun j => if who j ≠ 0 then who j else if P j then 4 else if Q j then 5 else 0
theorem whoX_old {P Q : Nat → Prop} {j : Nat} (h : who j ≠ 0) : whoX who P Q j = who j := by unfold whoX; rw [if_pos h]
theorem whoX_p {P Q : Nat → Prop} {j : Nat} (h : who j = 0) (h1 : P j) : whoX who P Q j = 4 := by unfold whoX; rw [if_neg (by omega), if_pos h1]
theorem whoX_q {P Q : Nat → Prop} {j : Nat} (h : who j = 0) (h1 : ¬ P j) (h2 : Q j) : whoX who P Q j = 5 := by unfold whoX; rw [if_neg (by omega), if_neg h1, if_pos h2]
theorem whoX_no {P Q : Nat → Prop} {j : Nat} (h : who j = 0) (h1 : ¬ P j) (h2 : ¬ Q j) : whoX who P Q j = 0 := by unfold whoX; rw [if_neg (by omega), if_neg h1, if_neg h2]
/-- one more row, its key in memory that is nobody's -/
theorem Rrp.setR (hbl : bs.length ≤ 140737488351232) (h : Rrp w bs lo gt g gi bg S lv rv vs s who) (hG : GrW w0 w who0 who) (ht1 : Turns (fun j => rv.ownBlock = some j) w w1) {x : Value} {a : Option Addr} {n c : Nat} {y : Int × Int × Int} {k : List UInt8} (hk : Sl Bf w1 a n c k)
    (hkb : ∀ b o, a = some ⟨b, o, none⟩ → 0 < n → w0.heap.size ≤ b ∧ lo ≤ b ∧ b < w.heap.size ∧ who b = 0 ∧ x.ownBlock ≠ some b)
    (ho : OwT fR w1 lo 94 x (vs ++ [((a, n, c), y)])) (hx : ∀ j, x.ownBlock = some j → rv.ownBlock = some j ∨ w.heap.size ≤ j) :
    ∃ who', Rrp (w1.setCell ⟨g, 5, none⟩ x) bs lo gt g gi bg S lv x (vs ++ [((a, n, c), y)]) { s with rows := s.rows ++ [(k, y)] } who' ∧ GrW w0 (w1.setCell ⟨g, 5, none⟩ x) who0 who' ∧ ∀ j, j < w.heap.size → who j = 0 ∨ who j = 5 → who' j = 0 ∨ who' j = 5 := by
  have h4 : ∀ j k, who j = k → k ≠ 4 → ¬ (rv.ownBlock = some j) := fun j k e hk hs => hk (e ▸ h.rb j hs)
  have hn : ∀ j k, who j = k → k ≠ 1 → ¬ j = g := fun j k e hk hg => hk (by rw [← e, hg, h.gw])
  have ht := Turns.set (S := fun j => j = g) w1 (i := 5) rfl x
  have hlg : lo ≤ g := (h.low g (by rw [h.gw]; decide)).1
  have hz : w.heap.size ≤ w1.heap.size := ht1.size
  have hlt : ∀ j, who j ≠ 0 → j < w.heap.size := fun j e => (h.low j e).2
  have hxg : ∀ j, x.ownBlock = some j → ¬ j = g := fun j hj e => by
    rcases hx j hj with e1 | e1
    · exact hn j 4 (h.rb j e1) (by decide) e
    · have := h.lt; omega
  have hxz : ∀ j, x.ownBlock = some j → who j = 4 ∨ (who j = 0 ∧ w.heap.size ≤ j) := fun j hj => by
    rcases hx j hj with e | e
    · exact .inl (h.rb j e)
    · by_cases e2 : who j = 0
      · exact .inr ⟨e2, e⟩
      · have := hlt j e2; omega
  have hrl : ∀ j, rv.ownBlock = some j → lo ≤ j := fun j hj => (h.rw.lt j hj).1
  obtain ⟨wk, hwk⟩ : ∃ f, f = whoX who (fun j => x.ownBlock = some j) (fun j => 0 < n ∧ ∃ o, a = some ⟨j, o, none⟩) := ⟨_, rfl⟩
  have old : ∀ j k, who j = k → k ≠ 0 → wk j = k := fun j k e h0 => by rw [hwk, whoX_old (by omega)]; exact e
  have hQ : ∀ {b o}, a = some ⟨b, o, none⟩ → 0 < n → wk b = 5 := fun {b o} e h0 => by
    obtain ⟨_, _, _, q1, q2⟩ := hkb b o e h0
    rw [hwk]; exact whoX_q q1 q2 ⟨h0, o, e⟩
  refine ⟨wk, ⟨fun j hj => ?_, by simpa using Nat.le_trans h.lw hz, set_block (ht1.heap h.blk (h4 g 1 h.gw (by decide))) _, h.b0, h.b1, old g 1 h.gw (by decide), (h.io.turns (rsrcL gt lo bs hbl) ht1 (fun j hj => h4 j 3 (h.sw j hj) (by decide)) hrl).turns (rsrcL gt lo bs hbl) ht (fun j hj => hn j 3 (h.sw j hj) (by decide)) (fun j e => by have e : j = g := e; omega), fun j hj => old j 3 (h.sw j hj) (by decide), ho.turns ht hxg, fun j hj => ?_, by rw [List.length_append, List.length_append, h.rl]; rfl, fun i v r hv hr => ?_⟩, ⟨(hG.t.trans ht1 fun j hj e => ?_).trans ht fun j hj e => ?_, fun j hj => ?_⟩, fun j hl hj => ?_⟩
  · by_cases h0 : who j = 0
    · by_cases h1 : x.ownBlock = some j
      · have := ho.lt j h1; exact ⟨this.1, by simpa using this.2⟩
      · by_cases h2 : 0 < n ∧ ∃ o, a = some ⟨j, o, none⟩
        · obtain ⟨q0, o, e⟩ := h2
          obtain ⟨_, q1, q2, _, _⟩ := hkb j o e q0
          exact ⟨q1, by simp; omega⟩
        · rw [hwk, whoX_no h0 h1 h2] at hj; exact absurd rfl hj
    · have := h.low j h0; exact ⟨this.1, by simp; omega⟩
  · rcases hxz j hj with e | ⟨e, _⟩
    · exact old j 4 e (by decide)
    · rw [hwk]; exact whoX_p e hj
  · by_cases hi : i < vs.length
    · rw [List.getElem?_append_left hi] at hv
      rw [List.getElem?_append_left (by rw [← h.rl]; exact hi)] at hr
      obtain ⟨k1, k2, k3⟩ := h.rk i v r hv hr
      exact ⟨k1, (k2.turns ht1 (fun b o e h0 => h4 b 5 (k3 b o e h0) (by decide))).turns ht (fun b o e h0 => hn b 5 (k3 b o e h0) (by decide)), fun b o e h0 => old b 5 (k3 b o e h0) (by decide)⟩
    · rw [List.getElem?_append_right (by omega)] at hv
      rw [List.getElem?_append_right (by rw [← h.rl]; omega), ← h.rl] at hr
      obtain ⟨d, hd⟩ : ∃ d, i - vs.length = d := ⟨_, rfl⟩
      rw [hd] at hv hr
      cases d with
      | zero =>
        simp only [List.getElem?_cons_zero, Option.some.injEq] at hv hr
        subst hv
        subst hr
        exact ⟨rfl, hk.turns ht (fun b o e h0 => fun hg => by obtain ⟨_, _, _, q1, _⟩ := hkb b o e h0; rw [hg, h.gw] at q1; cases q1), fun b o e h0 => hQ e h0⟩
      | succ d => simp at hv
  · have := h.rb j e
    rw [hG.old hj (by omega), this]; decide
  · have e : j = g := e
    subst e
    rw [hG.old hj (by rw [h.gw]; decide), h.gw]; decide
  · by_cases h0 : who j = 0
    · have hnx : ¬ x.ownBlock = some j := fun e => by
        rcases hxz j e with q | ⟨_, q⟩
        · omega
        · have := hG.t.size; omega
      have hnk : ¬ (0 < n ∧ ∃ o, a = some ⟨j, o, none⟩) := fun ⟨q, o, e⟩ => by have := (hkb j o e q).1; omega
      have e1 : wk j = 0 := by rw [hwk]; exact whoX_no h0 hnx hnk
      rcases hG.o j hj with e | ⟨e, _⟩
      · exact .inl (by rw [e1, ← e, h0])
      · exact .inr ⟨e, e1⟩
    · exact .inl (by rw [old j _ rfl h0, hG.old hj h0])
  · rcases hj with h0 | h5
    · by_cases h1 : x.ownBlock = some j
      · rcases hxz j h1 with q | ⟨_, q⟩ <;> omega
      · by_cases h2 : 0 < n ∧ ∃ o, a = some ⟨j, o, none⟩
        · exact .inr (by rw [hwk]; exact whoX_q h0 h1 h2)
        · exact .inl (by rw [hwk]; exact whoX_no h0 h1 h2)
    · exact .inr (old j 5 h5 (by decide))
end
end Go.Proofs.YtljcogimeimknaaGreat
/- The document's reader of streams: fail, its In, end: contracts. Conditions: the reader's budget and the places within reach. -/
namespace Go.Proofs.YtljcogimeimknaaGreat
open Go.RowKit Go.Shelf
set_option linter.unusedVariables false
set_option linter.unusedSimpArgs false

section
variable {w w1 : World} {bs : List UInt8} {lo gt g gi : Nat} {bg : Bool} {S S1 : Nat → Prop} {lv rv : Value} {vs : List RV} {s s1 : RS} {who who1 : Nat → Nat} {L Bd : Nat}
theorem refBytes_any (hbl : bs.length ≤ 140737488351232) (h : Rrp w bs lo gt g gi bg S lv rv vs s who) (hO : OkayC srcM (SrcR L) mxR Bd s.c) (hBd : Bd + 400 ≤ 2305843009213693952) (hL : L ≤ 140737488351232) (n : Nat) (hn : n ≤ 9223372036854775807) :
    Calls Tryz.prog 60 #[.pointer (some ⟨gi, 0, none⟩), .int .i64 (n : Nat)] w fun r w' => ∃ bv S' who', r = .returned (.tuple #[bv, .int .i64 (bytesM srcM mxR (n : Int) s.c).2.1]) ∧ OwT fB w' lo 5 bv (bytesM srcM mxR (n : Int) s.c).1 ∧ (∀ j, bv.ownBlock = some j → who' j = 0) ∧ Rrp w' bs lo gt g gi bg S' lv rv vs { s with c := (bytesM srcM mxR (n : Int) s.c).2.2 } who' ∧ GrW w w' who who' := by
  refine (rinb2_any (rsrcL gt lo bs hbl) src_muR gi mxR (n : Int) s.c S w (SrcR L) (src_leR L) Bd hO h.io (by omega) (by decide) (by omega) (fun _ _ => src_capR hO.p hL _)).mono ?_
  rintro r w' ⟨bv, S', rfl, ho, hd, h1, h2, h3⟩
  obtain ⟨who', hR, hG, hz⟩ := h.newI h1 h2 h3
  exact ⟨bv, S', who', rfl, ho, fun j hj => hz j (hd j hj).1 (hd j hj).2, hR, hG⟩
theorem refByte_any (hbl : bs.length ≤ 140737488351232) (h : Rrp w bs lo gt g gi bg S lv rv vs s who) (hO : OkayC srcM (SrcR L) mxR Bd s.c) (hBd : Bd + 400 ≤ 2305843009213693952) :
    Calls Tryz.prog 62 #[.pointer (some ⟨gi, 0, none⟩)] w fun r w' => ∃ S' who', r = .returned (.tuple #[.int .u8 (B (byteM srcM mxR s.c).1), .int .i64 (byteM srcM mxR s.c).2.1]) ∧ Rrp w' bs lo gt g gi bg S' lv rv vs { s with c := (byteM srcM mxR s.c).2.2 } who' ∧ GrW w w' who who' := by
  refine (rbyte_any (rsrcL gt lo bs hbl) src_muR gi mxR s.c S w (SrcR L) (src_leR L) Bd hO h.io (by decide) (by omega)).mono ?_
  rintro r w' ⟨rfl, S', h1, h2, h3⟩
  obtain ⟨who', hR, hG, -⟩ := h.newI h1 h2 h3
  exact ⟨S', who', rfl, hR, hG⟩
theorem refNum_any (hbl : bs.length ≤ 140737488351232) (h : Rrp w bs lo gt g gi bg S lv rv vs s who) (hO : OkayC srcM (SrcR L) mxR Bd s.c) (hBd : Bd + 400 ≤ 2305843009213693952) :
    Calls Tryz.prog 63 #[.pointer (some ⟨gi, 0, none⟩)] w fun r w' => ∃ S' who', r = .returned (.tuple #[.int .u64 ((numM srcM mxR s.c).1 : Nat), .int .i64 (numM srcM mxR s.c).2.1]) ∧ Rrp w' bs lo gt g gi bg S' lv rv vs { s with c := (numM srcM mxR s.c).2.2 } who' ∧ GrW w w' who who' := by
  refine (rnum_any (rsrcL gt lo bs hbl) src_muR gi mxR s.c S w (SrcR L) (src_leR L) Bd hO h.io (by decide) (by omega)).mono ?_
  rintro r w' ⟨rfl, S', h1, h2, h3⟩
  obtain ⟨who', hR, hG, -⟩ := h.newI h1 h2 h3
  exact ⟨S', who', rfl, hR, hG⟩
theorem refEnd_any (hbl : bs.length ≤ 140737488351232) (h : Rrp w bs lo gt g gi bg S lv rv vs s who) (hO : OkayC srcM (SrcR L) mxR Bd s.c) (hBd : Bd + 400 ≤ 2305843009213693952) :
    Calls Tryz.prog 107 #[.pointer (some ⟨gi, 0, none⟩)] w fun r w' => ∃ S' who', r = .returned (.tuple #[.bool (endM srcM s.c).1, .int .i64 (endM srcM s.c).2.1]) ∧ Rrp w' bs lo gt g gi bg S' lv rv vs { s with c := (endM srcM s.c).2.2 } who' ∧ GrW w w' who who' := by
  refine (rinend_any (rsrcL gt lo bs hbl) src_muR gi mxR s.c S w (SrcR L) (src_leR L) Bd hO h.io (by omega)).mono ?_
  rintro r w' ⟨rfl, S', h1, h2, h3⟩
  obtain ⟨who', hR, hG, -⟩ := h.newI h1 h2 h3
  exact ⟨S', who', rfl, hR, hG⟩
/-- behind a Block of the document's -/
def RRPost (bs : List UInt8) (lo gt g gi : Nat) (lv : Value) (who : Nat → Nat) (w : World) (X : RX) (r : Ending) (w' : World) : Prop :=
  ∃ y es bg' S' rv' vs' who', r = .returned (.tuple #[y, .bool X.1.2]) ∧ RdL w' w.heap.size y es X.1.1 ∧ (∀ j, RLB y es j → who' j = 0 ∨ who' j = 5) ∧ Rrp w' bs lo gt g gi bg' S' lv rv' vs' X.2 who' ∧ GrW w w' who who'
theorem RRPost.trans {w' : World} {X : RX} {r : Ending} (hG : GrW w w1 who who1) (h : RRPost bs lo gt g gi lv who1 w1 X r w') : RRPost bs lo gt g gi lv who w X r w' := by
  obtain ⟨y, es, bg', S', rv', vs', who', e, hl, hz, hR, hG2⟩ := h
  exact ⟨y, es, bg', S', rv', vs', who', e, hl.low hG.t.size, hz, hR, hG.trans hG2⟩
set_option maxRecDepth 100000 in
theorem rfail_any (hbl : bs.length ≤ 140737488351232) (h : Rrp w1 bs lo gt g gi bg S1 lv rv vs s1 who1) (hG : GrW w w1 who who1) (hr : s1.rows = s.rows) (e : Int) (p : Nat) :
    Calls Tryz.prog 61 #[.pointer (some ⟨g, 0, none⟩), .int .i64 e, .int .i64 (p : Nat)] w1 fun r w' => r = .returned (.tuple #[.slice none 0 0, .bool false]) ∧ RRPost bs lo gt g gi lv who w (s.fail s1.c e p) (.returned (.tuple #[.slice none 0 0, .bool false])) w' := by
  have c2 := h.c2
  have c3 := h.c3
  have c4 := h.c4
  have f2 := h.free 2
  have f3 := h.free 3
  have f4 := h.free 4
  have hb1 := set_block (i := 2) h.blk (.bool true)
  have d3 := cell_of hb1 3 (v := .int .i64 s1.er) rfl
  have g3 := free_block hb1 3
  have hb2 := set_block (i := 3) hb1 (.int .i64 e)
  have d4 := cell_of hb2 4 (v := .int .i64 (s1.pt : Nat)) rfl
  have g4 := free_block hb2 4
  have FIN := Lib.hid (h.updG hbl (w' := ((w1.setCell ⟨g, 2, none⟩ (.bool true)).setCell ⟨g, 3, none⟩ (.int .i64 e)).setCell ⟨g, 4, none⟩ (.int .i64 (p : Nat))) (lv' := lv) (bg' := bg) (ph := 2) (er := e) (pt := p) (((Turns.set (S := fun j => j = g) w1 (i := 2) rfl _).trans (Turns.set (S := fun j => j = g) _ (i := 3) rfl _) fun _ _ e => e).trans (Turns.set (S := fun j => j = g) _ (i := 4) rfl _) fun _ _ e => e) (set_block hb2 _) (fun e => by cases e) (fun e => by cases e))
  have HG := Lib.hid hG
  have HR := Lib.hid hr
  clear h hG hr hb1 hb2
  go_enter Tryz.func61, Tryz.ntmps61
  go_wp2_with fail
  go_ret2
  obtain ⟨hR, hG2⟩ := FIN.out
  rw [HR.out] at hR
  exact ⟨rfl, _, [], bg, S1, rv, vs, who1, rfl, RdL.nil _ _, fun j hj => (RLB_nil hj).elim, hR, HG.out.trans hG2⟩
end
end Go.Proofs.YtljcogimeimknaaGreat
/- Where a reading of a block ends, or errs: within the bytes. No condition. -/
namespace Go.Proofs.YtljcogimeimknaaGreat
set_option linter.unusedVariables false

theorem rd_place : ∀ (l : List UInt8) (k v : Nat), (rd l k v).2.1 ≤ k + l.length
  | [], k, v => by rw [rd_nil]; exact Nat.le_refl _
  | c :: r, k, v => by
    by_cases h1 : k = 9 ∧ 1 < c.toNat
    · rw [rd_long h1]; exact Nat.le_add_right _ _
    · by_cases h2 : 0 < k ∧ c.toNat = 0
      · rw [rd_form h2]; exact Nat.le_add_right _ _
      · by_cases h3 : c.toNat < 128
        · rw [rd_last h1 h2 h3, List.length_cons]; show k + 1 ≤ _; omega
        · rw [rd_go h1 h2 h3, List.length_cons]
          have := rd_place r (k + 1) (v + c.toNat % 128 * 128 ^ k)
          omega
theorem pr3_place {b : List UInt8} : ∀ (j : Nat) (l : List Nat) (a : Nat), a ≤ b.length → (pr3 b j l a).2.1 ≤ b.length
  | 0, l, a, h => h
  | j + 1, l, a, h => by
    obtain ⟨⟨v, k, e⟩, hr⟩ : ∃ R, rd (b.drop a) 0 0 = R := ⟨_, rfl⟩
    have hk := rd_place (b.drop a) 0 0
    rw [hr, List.length_drop] at hk
    dsimp only at hk
    by_cases he : e = 0
    · subst he
      rw [pr3_go hr]
      exact pr3_place j _ _ (by omega)
    · rw [pr3_no hr he]
      show a + k ≤ _
      omega
theorem pread_place {p b : List UInt8} {a : Nat} (h : a ≤ b.length) : (pread p b a).2.1 ≤ b.length := by
  obtain ⟨⟨x, q, e⟩, hx⟩ : ∃ R, pread p b a = R := ⟨_, rfl⟩
  by_cases he : e = 0
  · subst he
    rw [hx]; exact (pread_in hx h).2.2.1
  · obtain ⟨⟨ns, a3, e3⟩, hr⟩ : ∃ R, pr3 b 3 [] a = R := ⟨_, rfl⟩
    have h3 := pr3_place (b := b) 3 [] a h
    rw [hr] at h3
    dsimp only at h3
    by_cases f : e3 = 0
    · subst f
      unfold pread
      rw [hr, if_pos rfl]
      unfold pend
      split
      · exact h
      · split
        · exact h
        · split
          · exact Nat.le_refl _
          · split
            · exact h
            · split
              · exact h
              · rename_i k1 k2 k3 k4 k5
                dsimp only at k1 k2 k3 ⊢
                omega
    · rw [pread_no hr f]; exact h3
theorem bents_place {b : List UInt8} : ∀ (j : Nat) (l : List Ent) (ps : List Nat) (p : Nat), p ≤ b.length → (bents b j l ps p).2.2.1 ≤ b.length ∧ (bents b j l ps p).2.2.2.2 ≤ b.length
  | 0, l, ps, p, h => ⟨h, Nat.zero_le _⟩
  | j + 1, l, ps, p, h => by
    obtain ⟨⟨x, q, e⟩, hx⟩ : ∃ R, pread (bP l.length (bst l).last) b p = R := ⟨_, rfl⟩
    have hq := pread_place (p := bP l.length (bst l).last) h
    rw [hx] at hq
    dsimp only at hq
    by_cases he : e = 0
    · subst he
      by_cases hc : 0 < l.length ∧ 0 ≤ cmp (bst l).last x.1
      · rw [bents_low hx hc]; exact ⟨h, h⟩
      · rw [bents_go hx hc]; exact bents_place j _ _ _ hq
    · rw [bents_no hx he]; exact ⟨h, hq⟩
theorem bentries_place (b : List UInt8) : (bentries b).2.2.1 ≤ b.length ∧ (bentries b).2.2.2.2 ≤ b.length := by
  obtain ⟨⟨n, d, e0⟩, hr⟩ : ∃ X, rd b 0 0 = X := ⟨_, rfl⟩
  have hd := rd_place b 0 0
  rw [hr] at hd
  dsimp only at hd
  by_cases he0 : e0 = 0
  · subst he0
    by_cases hn : n < 1 ∨ 64 < n
    · rw [bentries_bad hr hn]; exact ⟨Nat.zero_le _, Nat.zero_le _⟩
    · rw [bentries_go hr hn]; exact bents_place _ _ _ _ (by omega)
  · rw [bentries_no hr he0]; exact ⟨Nat.zero_le _, by show d ≤ _; omega⟩
theorem btable_place {b : List UInt8} : ∀ (l : List UInt8) (p : Nat), p ≤ b.length → (btable b l p).1 ≤ b.length
  | [], p, h => by
    by_cases hp : p < b.length
    · rw [btable_end hp]; exact h
    · rw [btable_ok hp]; exact Nat.zero_le _
  | c :: r, p, h => by
    by_cases hg : b[p]? = some c
    · rw [btable_go hg]
      exact btable_place r (p + 1) (List.getElem?_eq_some_iff.1 hg).1
    · rw [btable_no hg]; exact h
theorem bread_place (b : List UInt8) : (bread b).2.1 ≤ b.length := by
  obtain ⟨h1, h2⟩ := bentries_place b
  unfold bread
  split
  · exact h2
  · split
    · exact btable_place _ _ h1
    · exact Nat.zero_le _
end Go.Proofs.YtljcogimeimknaaGreat
