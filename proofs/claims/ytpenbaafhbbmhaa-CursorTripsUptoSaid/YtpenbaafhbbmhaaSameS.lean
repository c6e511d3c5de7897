/- The helper same draws only: contract. Condition: lengths within reach. -/
import Derived.Test.YtpenbaafhbbmhaaHelpS
namespace Go.Proofs.Ytpenbaafhbbmhaa
open Go.RowKit

set_option maxRecDepth 100000 in
set_option maxHeartbeats 400000 in
theorem sameD_any (a : Option Addr) (n c : Nat) (xs : List UInt8) (a' : Option Addr) (n' c' : Nat) (ys : List UInt8) (w : World) (hn : n ≤ 9223372036854775807) (hn' : n' ≤ 9223372036854775807)
    (h : Sl Bf w a n c xs) (h' : Sl Bf w a' n' c' ys) :
    Calls Try.prog 26 #[.slice a n c, .slice a' n' c'] w fun e w' => e = .returned (.bool (decide (xs = ys))) ∧ Drw w w' := by
  have H := Lib.hid h; clear h
  have H' := Lib.hid h'; clear h'
  by_cases hl : n = n'
  · subst hl
    go_enter Try.func26, Try.ntmps26
    go_wp2_with fail
    go_loopw [5] (fun i wr => ∃ k : Nat, k ≤ n ∧ i = .int .i64 k ∧ xs.take k = ys.take k ∧ Drw w wr) (fun i _ => n - (intOf i).toNat)
    case atStart => exact ⟨0, Nat.zero_le _, rfl, by simp, Drw.refl _⟩
    case round =>
      obtain ⟨k, hk, rfl, he, hb⟩ := hrel
      have HE := Lib.hid he; clear he
      have HB := Lib.hid hb; clear hb
      by_cases hlt : k < n
      · obtain ⟨x, b, o, hx, rfl, hc⟩ := (H.out.keep HB.out.below).at k hlt
        obtain ⟨y, b', o', hy, rfl, hc'⟩ := (H'.out.keep HB.out.below).at k hlt
        have hc : wr.cell? ⟨b, o + k, none⟩ = some (.int .u8 (B x)) := hc
        have hc' : wr.cell? ⟨b', o' + k, none⟩ = some (.int .u8 (B y)) := hc'
        have HX := Lib.hid hx; clear hx
        have HY := Lib.hid hy; clear hy
        by_cases hxy : x = y
        · subst hxy
          go_wp2_with fail
          go_quiet (fail)
          go_wp2_with fail
          go_roundw
          case rel => exact ⟨k + 1, by omega, by go_num, (take_eq_snoc HX.out HY.out HE.out).2 rfl, HB.out.more _⟩
          case measure => simp [intOf]; omega
        · have hne : (B x != B y) = true := by rw [bne_iff_ne]; exact fun e => hxy (B_inj e)
          go_wp2_with fail
          go_quiet (fail)
          go_wp2_with fail
          go_ret
          refine ⟨ret_bool ?_, HB.out.more _⟩
          symm; rw [decide_eq_false_iff_not]; rintro rfl
          exact hxy (Option.some.inj (HX.out.symm.trans HY.out))
      · go_wp2_with fail
        go_ret
        refine ⟨ret_bool ?_, HB.out⟩
        have e1 := H.out.len; have e2 := H'.out.len; have e3 := HE.out
        rw [List.take_of_length_le (by omega), List.take_of_length_le (by omega)] at e3
        symm; rw [decide_eq_true_eq]; exact e3
  · have hne : ((n : Int) != (n' : Int)) = true := by rw [bne_iff_ne]; omega
    go_enter Try.func26, Try.ntmps26
    go_wp2_with fail
    go_ret
    refine ⟨ret_bool ?_, Drw.refl _⟩
    have e1 := H.out.len; have e2 := H'.out.len
    symm; rw [decide_eq_false_iff_not]; rintro rfl; omega

end Go.Proofs.Ytpenbaafhbbmhaa
