/- The bytes of a number: contracts of put and Bytes. Conditions: the number fits; the row is the call's own. -/
import Derived.Test.YteedjgjkldbbcaaVintPutM
import Derived.Test.YteedjgjkldbbcaaByte
namespace Go.Proofs.Yteedjgjkldbbcaa
open Go.RowKit

set_option maxRecDepth 100000 in
set_option maxHeartbeats 1000000 in
theorem vput_any (v : Value) (ys : List UInt8) (base n : Nat) (w : World) (hb : base ≤ w.heap.size) (hy : ys.length ≤ 200000000000000) (hn : n < 18446744073709551616) (h : OwT fB w base 5 v ys) :
    Calls Try.prog 73 #[v, .int .u64 n] w fun e w' => ∃ v', e = .returned v' ∧ OwT fB w' base 5 v' (ys ++ vb n) ∧ Below base w w' := by
  have h10 := vb_ten hn
  have HH := Lib.hid h; clear h
  clear hn
  obtain ⟨all, hall⟩ : ∃ all, ys ++ vb n = all := ⟨_, rfl⟩
  have hl : all.length ≤ 200000000000010 := by rw [← hall, List.length_append]; omega
  rw [hall]
  have HA := Lib.hid hall; clear hall h10 hy
  go_enter Try.func73, Try.ntmps73
  go_wp2_with fail
  go_loopw [0, 1] (fun s i wr => ∃ (m : Nat) (zs : List UInt8), i = .int .u64 m ∧ OwT fB wr base 5 s zs ∧ zs ++ vb m = all ∧ Below base w wr) (fun _ i _ => (intOf i).toNat)
  case atStart => exact ⟨n, ys, rfl, HH.out, HA.out, Below.refl _ _⟩
  case round =>
    obtain ⟨m, zs, rfl, ho, hz, hbb⟩ := hrel
    have O := Lib.hid ho; clear ho
    have G := Lib.hid hbb; clear hbb
    have lw := G.out.size
    by_cases hm : (128 : Int) ≤ m
    · rw [vb_ge (by omega)] at hz
      have hzl : zs.length + 1 ≤ 200000000000010 := by
        have := congrArg List.length hz
        rw [List.length_append, List.length_cons] at this; omega
      have HZ := Lib.hid hz; clear hz
      have r1 := or128 m
      go_wp2_with (at_builtin; refine wpList_appG eltTB rfl _ _ rfl base _ zs (by rfl) (O.out.alloc _) _ 1 1 [hi8 m] (by rfl) (Sl.lit _ _ _ _ _ rfl rfl).toT (by unfold maxLen; omega) (.wide (by omega)) (by simp; omega) _ rfl ?_; intro v5 w5 h5 hg5 hv5 hb5; have O5 := Lib.hid h5; have G5 := Lib.hid ((G.out.alloc (Nat.le_trans hb lw) _).trans hb5); clear h5 hb5 hg5 hv5)
      go_roundw
      case rel => exact ⟨m / 128, _, by go_num, O5.out, by rw [List.append_assoc]; exact HZ.out, G5.out⟩
      case measure => simp [intOf]; omega
    · rw [vb_lt (by omega)] at hz
      have hzl : zs.length + 1 ≤ 200000000000010 := by
        have := congrArg List.length hz
        rw [List.length_append, List.length_cons] at this; simp at this; omega
      have HZ := Lib.hid hz; clear hz
      have HC := Lib.hid (cell8 (n := m) (by omega))
      go_wp2_with (at_builtin; refine wpList_appG eltTB rfl _ _ rfl base _ zs (by rfl) (O.out.alloc _) _ 1 1 [lo8 m] (by rfl) (Sl.lit _ _ _ _ _ rfl HC.out).toT (by unfold maxLen; omega) (.wide (by omega)) (by simp; omega) _ rfl ?_; intro v5 w5 h5 hg5 hv5 hb5; have O5 := Lib.hid h5; have G5 := Lib.hid ((G.out.alloc (Nat.le_trans hb lw) _).trans hb5); clear h5 hb5 hg5 hv5)
      go_ret
      exact ⟨_, rfl, by have := O5.out; rw [HZ.out] at this; exact this, G5.out⟩
end Go.Proofs.Yteedjgjkldbbcaa
