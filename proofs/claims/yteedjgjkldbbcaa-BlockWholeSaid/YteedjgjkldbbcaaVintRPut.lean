/- The bytes of a number, the reference's: contract. Condition: the number fits. -/
import Derived.Test.YteedjgjkldbbcaaVintPut
namespace Go.Proofs.Yteedjgjkldbbcaa
open Go.RowKit

theorem cellhi (m : Nat) : (#[Value.int .u8 ((m : Int) % 128 + 128)] : Array Value).toList = [hi8 m].map Bf := by
  show [Value.int .u8 ((m : Int) % 128 + 128)] = [Bf (hi8 m)]
  have : (m : Int) % 128 + 128 = B (hi8 m) := by
    unfold B hi8; rw [u8_of (by omega)]; omega
  rw [this]

set_option maxRecDepth 100000 in
set_option maxHeartbeats 1000000 in
theorem rbytes_any (n : Nat) (w : World) (hn : n < 18446744073709551616) :
    Calls Try.prog 39 #[.int .u64 n] w fun e w' => ∃ v', e = .returned v' ∧ OwT fB w' w.heap.size 5 v' (vb n) ∧ Below w.heap.size w w' := by
  have h10 := vb_ten hn
  have HN := Lib.hid hn; clear hn
  obtain ⟨all, hall⟩ : ∃ all, vb n = all := ⟨_, rfl⟩
  rw [hall] at h10
  rw [hall]
  have HA := Lib.hid hall; clear hall
  go_enter Try.func39, Try.ntmps39
  go_wp2_with fail
  go_loopw [3, 0] (fun s i wr => ∃ (m : Nat) (zs : List UInt8), m ≤ n ∧ i = .int .u64 m ∧ OwT fB wr w.heap.size 5 s zs ∧ zs ++ vb m = all ∧ Below w.heap.size w wr) (fun _ i _ => (intOf i).toNat)
  case atStart => exact ⟨n, [], Nat.le_refl _, rfl, OwT.nil _ _ _ _, HA.out, Below.refl _ _⟩
  case round =>
    obtain ⟨m, zs, hmn, rfl, ho, hz, hbb⟩ := hrel
    have O := Lib.hid ho; clear ho
    have G := Lib.hid hbb; clear hbb
    have lw := G.out.size
    by_cases hm : (128 : Int) ≤ m
    · rw [vb_ge (by omega)] at hz
      have hzl : zs.length + 1 ≤ 10 := by
        have := congrArg List.length hz
        rw [List.length_append, List.length_cons] at this; omega
      have HZ := Lib.hid hz; clear hz
      have HC := Lib.hid (cellhi m)
      have r1 : IntKind.u64.wrap ((m : Int) / 128) = ((m / 128 : Nat) : Int) := by have := HN.out; rw [IntKind.wrap_u64]; omega
      go_wp2_with (at_builtin; refine wpList_appT eltTB rfl _ _ rfl w.heap.size _ zs (by rfl) (O.out.alloc _) _ 1 1 [hi8 m] (by rfl) (Sl.lit _ _ _ _ _ rfl HC.out).toT (by unfold maxLen; omega) (by omega) (by simp; omega) _ rfl ?_; intro v5 w5 h5 hg5 hv5 hb5; have O5 := Lib.hid h5; have G5 := Lib.hid ((G.out.alloc lw _).trans hb5); clear h5 hb5 hg5 hv5)
      go_roundw
      case rel => exact ⟨m / 128, _, by omega, by go_num, O5.out, by rw [List.append_assoc]; exact HZ.out, G5.out⟩
      case measure => simp [intOf]; omega
    · rw [vb_lt (by omega)] at hz
      have hzl : zs.length + 1 ≤ 10 := by
        have := congrArg List.length hz
        rw [List.length_append, List.length_cons] at this; simp at this; omega
      have HZ := Lib.hid hz; clear hz
      have HC := Lib.hid (cell8 (n := m) (by omega))
      go_wp2_with (at_builtin; refine wpList_appT eltTB rfl _ _ rfl w.heap.size _ zs (by rfl) (O.out.alloc _) _ 1 1 [lo8 m] (by rfl) (Sl.lit _ _ _ _ _ rfl HC.out).toT (by unfold maxLen; omega) (by omega) (by simp; omega) _ rfl ?_; intro v5 w5 h5 hg5 hv5 hb5; have O5 := Lib.hid h5; have G5 := Lib.hid ((G.out.alloc lw _).trans hb5); clear h5 hb5 hg5 hv5)
      go_ret
      exact ⟨_, rfl, by have := O5.out; rw [HZ.out] at this; exact this, G5.out⟩
end Go.Proofs.Yteedjgjkldbbcaa
