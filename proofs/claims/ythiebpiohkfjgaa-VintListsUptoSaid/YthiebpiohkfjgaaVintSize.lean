/- Size: contract. Condition: the number fits. -/
import Derived.Test.YthiebpiohkfjgaaVintLen
namespace Go.Proofs.Ythiebpiohkfjgaa
open Go.RowKit

theorem blen_le {n : Nat} (h : n < 18446744073709551616) : blen n ≤ 64 := by
  unfold blen
  split
  · omega
  · rename_i h0
    have := (Nat.log2_lt h0).2 (show n < 2 ^ 64 from h)
    omega
theorem size_any (n : Nat) (w : World) (hn : n < 18446744073709551616) :
    Calls Try.prog 25 #[.int .u64 n] w fun e w' => e = .returned (.int .i64 ((vb n).length : Nat)) ∧ w = w' := by
  have hb := blen_le hn
  have HN := Lib.hid hn; clear hn
  have HV := Lib.hid (vb_blen n)
  obtain ⟨b, hb2⟩ : ∃ b, blen n = b := ⟨_, rfl⟩
  rw [hb2] at hb
  have HB := Lib.hid hb2; clear hb2
  by_cases h1 : (1 : Int) < ((b : Int) + 6) / 7
  · go_enter Try.func25, Try.ntmps25
    go_wp2_with fail
    refine (len64_any n _ HN.out).mono ?_
    rintro e w' ⟨rfl, rfl⟩
    rw [HB.out]
    go_wp2_with fail
    go_ret
    refine ⟨ret_int ?_, rfl⟩
    rw [HV.out, HB.out]; omega
  · go_enter Try.func25, Try.ntmps25
    go_wp2_with fail
    refine (len64_any n _ HN.out).mono ?_
    rintro e w' ⟨rfl, rfl⟩
    rw [HB.out]
    go_wp2_with fail
    go_ret
    refine ⟨ret_int ?_, rfl⟩
    rw [HV.out, HB.out]; omega
end Go.Proofs.Ythiebpiohkfjgaa
