/- Common: contract. Conditions: the slices within reach. -/
import Derived.Test.YteedjgjkldbbcaaPairM
import Derived.Test.YteedjgjkldbbcaaBy
import Derived.Lib.SlBytesConst
import Derived.Deep.DeepCutAuto
import Derived.Deep.QuietTactic
import Derived.BigQuiet
namespace Go.Proofs.Yteedjgjkldbbcaa
open Go.RowKit
set_option linter.unusedVariables false

set_option maxRecDepth 100000 in
set_option maxHeartbeats 400000 in
theorem common_any (a : Option Addr) (n c : Nat) (xs : List UInt8) (a' : Option Addr) (n' c' : Nat) (ys : List UInt8) (w : World) (hn : n ≤ 9223372036854775807) (hn' : n' ≤ 9223372036854775807)
    (h : Sl Bf w a n c xs) (h' : Sl Bf w a' n' c' ys) :
    Calls Try.prog 68 #[.slice a n c, .slice a' n' c'] w fun e w' => e = .returned (.int .i64 (com xs ys)) ∧ Below w.heap.size w w' := by
  obtain rfl : n = xs.length := h.len.symm
  obtain rfl : n' = ys.length := h'.len.symm
  have H := Lib.hid h; clear h
  have H' := Lib.hid h'; clear h'
  by_cases hmn : ys.length < xs.length
  · go_enter Try.func68, Try.ntmps68
    go_wp2_with fail
    go_loopw [13] (fun i wr => ∃ k : Nat, k ≤ ys.length ∧ i = .int .i64 k ∧ xs.take k = ys.take k ∧ Below w.heap.size w wr) (fun i _ => ys.length - (intOf i).toNat)
    case atStart => exact ⟨0, Nat.zero_le _, rfl, by simp, Below.refl _ _⟩
    case round =>
      obtain ⟨k, hk, rfl, he, hb⟩ := hrel
      have HE := Lib.hid he; clear he
      have HB := Lib.hid hb; clear hb
      by_cases hlt : k < ys.length
      · obtain ⟨x, b, o, hx, rfl, hc⟩ := (H.out.keep HB.out).at k (by omega)
        obtain ⟨y, b', o', hy, rfl, hc'⟩ := (H'.out.keep HB.out).at k (by omega)
        have hc : wr.cell? ⟨b, o + k, none⟩ = some (.int .u8 (B x)) := hc
        have hc' : wr.cell? ⟨b', o' + k, none⟩ = some (.int .u8 (B y)) := hc'
        have HX := Lib.hid hx; clear hx
        have HY := Lib.hid hy; clear hy
        by_cases hxy : x = y
        · subst hxy
          go_wp2_with fail
          go_quiet (fail)
          go_wp2_with fail
          go_roundw
          case rel => exact ⟨k + 1, by omega, by go_num, (take_eq_snoc HX.out HY.out HE.out).2 rfl, keep_drewN HB.out _⟩
          case measure => simp [intOf]; omega
        · have hne : (B x != B y) = true := by rw [bne_iff_ne]; exact fun e => hxy (B_inj e)
          go_wp2_with fail
          go_quiet (fail)
          go_wp2_with fail
          go_ret
          refine ⟨ret_int ?_, keep_drewN HB.out _⟩
          rw [com_diff HE.out HX.out HY.out hxy]
      · have ek : k = ys.length := by omega
        have EK := Lib.hid ek; clear ek
        go_wp2_with fail
        go_ret
        refine ⟨ret_int ?_, HB.out⟩
        rw [com_full HE.out (by have := EK.out; omega) (by have := EK.out; omega) (by have := EK.out; omega)]
        have := EK.out; omega
  · go_enter Try.func68, Try.ntmps68
    go_wp2_with fail
    go_loopw [13] (fun i wr => ∃ k : Nat, k ≤ xs.length ∧ i = .int .i64 k ∧ xs.take k = ys.take k ∧ Below w.heap.size w wr) (fun i _ => xs.length - (intOf i).toNat)
    case atStart => exact ⟨0, Nat.zero_le _, rfl, by simp, Below.refl _ _⟩
    case round =>
      obtain ⟨k, hk, rfl, he, hb⟩ := hrel
      have HE := Lib.hid he; clear he
      have HB := Lib.hid hb; clear hb
      by_cases hlt : k < xs.length
      · obtain ⟨x, b, o, hx, rfl, hc⟩ := (H.out.keep HB.out).at k (by omega)
        obtain ⟨y, b', o', hy, rfl, hc'⟩ := (H'.out.keep HB.out).at k (by omega)
        have hc : wr.cell? ⟨b, o + k, none⟩ = some (.int .u8 (B x)) := hc
        have hc' : wr.cell? ⟨b', o' + k, none⟩ = some (.int .u8 (B y)) := hc'
        have HX := Lib.hid hx; clear hx
        have HY := Lib.hid hy; clear hy
        by_cases hxy : x = y
        · subst hxy
          go_wp2_with fail
          go_quiet (fail)
          go_wp2_with fail
          go_roundw
          case rel => exact ⟨k + 1, by omega, by go_num, (take_eq_snoc HX.out HY.out HE.out).2 rfl, keep_drewN HB.out _⟩
          case measure => simp [intOf]; omega
        · have hne : (B x != B y) = true := by rw [bne_iff_ne]; exact fun e => hxy (B_inj e)
          go_wp2_with fail
          go_quiet (fail)
          go_wp2_with fail
          go_ret
          refine ⟨ret_int ?_, keep_drewN HB.out _⟩
          rw [com_diff HE.out HX.out HY.out hxy]
      · have ek : k = xs.length := by omega
        have EK := Lib.hid ek; clear ek
        go_wp2_with fail
        go_ret
        refine ⟨ret_int ?_, HB.out⟩
        rw [com_full HE.out (by have := EK.out; omega) (by have := EK.out; omega) (by have := EK.out; omega)]
        have := EK.out; omega
end Go.Proofs.Yteedjgjkldbbcaa
