/- What two texts have in common: the reference's contract. Conditions: the slices within reach. -/
import Derived.Test.YteedjgjkldbbcaaPairM
import Derived.Test.YteedjgjkldbbcaaBy
import Derived.Deep.LoopGhost
namespace Go.Proofs.Yteedjgjkldbbcaa
open Go.RowKit

set_option maxRecDepth 100000 in
set_option maxHeartbeats 400000 in
theorem rcommon_q (a : Option Addr) (n c : Nat) (xs : List UInt8) (a' : Option Addr) (n' c' : Nat) (ys : List UInt8) (w : World) (hn : n ≤ 140737488351232) (hn' : n' ≤ 140737488351232)
    (h : Sl Bf w a n c xs) (h' : Sl Bf w a' n' c' ys) :
    Calls Try.prog 64 #[.slice a n c, .slice a' n' c'] w fun e w' => e = .returned (.int .i64 (com xs ys)) ∧ Drw w w' := by
  obtain rfl : n = xs.length := h.len.symm
  obtain rfl : n' = ys.length := h'.len.symm
  have H := Lib.hid h; clear h
  have H' := Lib.hid h'; clear h'
  go_enter Try.func64, Try.ntmps64
  go_wp2_with fail
  go_loopw [5] (fun i wr => ∃ k : Nat, k ≤ xs.length ∧ k ≤ ys.length ∧ i = .int .i64 k ∧ xs.take k = ys.take k ∧ Drw w wr) (fun i _ => xs.length - (intOf i).toNat)
  case atStart => exact ⟨0, Nat.zero_le _, Nat.zero_le _, rfl, by simp, Drw.refl _⟩
  case round =>
    obtain ⟨k, hk, hk', rfl, he, hb⟩ := hrel
    have HE := Lib.hid he; clear he
    have HB := Lib.hid hb; clear hb
    by_cases h1 : k < xs.length
    · have d1 : decide (k < xs.length) = true := decide_eq_true h1
      by_cases h2 : k < ys.length
      · have d2 : decide (k < ys.length) = true := decide_eq_true h2
        obtain ⟨x, b, o, hx, rfl, hc⟩ := (H.out.keep HB.out.below).at k (by omega)
        obtain ⟨y, b', o', hy, rfl, hc'⟩ := (H'.out.keep HB.out.below).at k (by omega)
        have hc : wr.cell? ⟨b, o + k, none⟩ = some (.int .u8 (B x)) := hc
        have hc' : wr.cell? ⟨b', o' + k, none⟩ = some (.int .u8 (B y)) := hc'
        have HX := Lib.hid hx; clear hx
        have HY := Lib.hid hy; clear hy
        by_cases hxy : x = y
        · subst hxy
          go_wp2_with fail
          go_quiet (fail)
          go_wp2_with fail
          go_roundw
          case rel => exact ⟨k + 1, by omega, by omega, by go_num, (take_eq_snoc HX.out HY.out HE.out).2 rfl, HB.out.more _⟩
          case measure => simp [intOf]; omega
        · have hne : (B x == B y) = false := by rw [beq_eq_false_iff_ne]; exact fun e => hxy (B_inj e)
          go_wp2_with fail
          go_quiet (fail)
          go_wp2_with fail
          go_ret
          refine ⟨ret_int ?_, HB.out.more _⟩
          rw [com_diff HE.out HX.out HY.out hxy]
      · have d2 : decide (k < ys.length) = false := decide_eq_false h2
        have EK := Lib.hid (show k = ys.length by omega)
        go_wp2_with fail
        go_quiet (fail)
        go_wp2_with fail
        go_ret
        refine ⟨ret_int ?_, HB.out.more _⟩
        rw [com_full HE.out (by have := EK.out; omega) (by have := EK.out; omega) (by have := EK.out; omega)]
    · have d1 : decide (k < xs.length) = false := decide_eq_false h1
      have EK := Lib.hid (show k = xs.length by omega)
      go_wp2_with fail
      go_quiet (fail)
      go_wp2_with fail
      go_ret
      refine ⟨ret_int ?_, HB.out.more _⟩
      rw [com_full HE.out (by have := EK.out; omega) (by have := EK.out; omega) (by have := EK.out; omega)]
theorem rcommon_any (a : Option Addr) (n c : Nat) (xs : List UInt8) (a' : Option Addr) (n' c' : Nat) (ys : List UInt8) (w : World) (hn : n ≤ 140737488351232) (hn' : n' ≤ 140737488351232)
    (h : Sl Bf w a n c xs) (h' : Sl Bf w a' n' c' ys) :
    Calls Try.prog 64 #[.slice a n c, .slice a' n' c'] w fun e w' => e = .returned (.int .i64 (com xs ys)) ∧ Below w.heap.size w w' :=
  (rcommon_q a n c xs a' n' c' ys w hn hn' h h').mono fun _ _ ⟨he, hd⟩ => ⟨he, hd.below⟩
end Go.Proofs.Yteedjgjkldbbcaa
