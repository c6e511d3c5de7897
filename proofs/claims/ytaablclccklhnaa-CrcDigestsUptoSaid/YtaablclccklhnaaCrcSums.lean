/- CrcSums: the walk: the law's Go text returns true and writes nothing that was there. Conditions: the two slices together within 2^47 bytes. -/
import Derived.Test.YtaablclccklhnaaCrc1
import Derived.Test.YtaablclccklhnaaHelp
namespace Go.Proofs.Ytaablclccklhnaa
open Go.RowKit

theorem lives_any (w : World) :
    Calls Try.prog 13 #[] w fun e w' => e = .returned (.bool true) ∧ Below w.heap.size w w' := by
  have hs : sum [97] = 0xe8b7be43#32 := by decide
  have HS := Lib.hid hs; clear hs
  go_enter Try.func13, Try.ntmps13
  go_wp2_with (go_at_call 14; refine (sum_any _ 1 1 [97] _ (by omega) (Sl.lit _ _ _ _ _ rfl rfl)).mono ?_; rintro e w' ⟨rfl, rfl⟩)
  go_ret
  refine ⟨ret_bool ?_, by go_grown⟩
  rw [HS.out]; rfl

set_option maxHeartbeats 1000000 in
theorem crcSums_walk (a : Option Addr) (n c : Nat) (xs : List UInt8) (a' : Option Addr) (n' c' : Nat) (ys : List UInt8) (s : BitVec 32) (w : World) (hn : n + n' ≤ 140737488351232)
    (h : Sl Bf w a n c xs) (h' : Sl Bf w a' n' c' ys) :
    Calls Try.prog 4 #[.slice a n c, .slice a' n' c', .int .u32 (U s)] w fun e w' => e = .returned (.bool true) ∧ Below w.heap.size w w' := by
  obtain rfl : n = xs.length := h.len.symm
  obtain rfl : n' = ys.length := h'.len.symm
  have H := Lib.hid h; clear h
  have H' := Lib.hid h'; clear h'
  go_enter Try.func4, Try.ntmps4
  go_wp2_with fail
  refine (lives_any _).mono ?_
  rintro e w1 ⟨rfl, hb1⟩
  have G1 := Lib.hid hb1; clear hb1
  go_wp2_with fail
  refine (lent_any _ _ _ xs _ (by omega) (H.out.keep G1.out)).mono ?_
  rintro e w2 ⟨g, rfl, hg, hL, hb2⟩
  have G2 := Lib.hid (keep_trans G1.out hb2); clear hb2
  have L2 := Lib.hid hL; clear hL
  go_wp2_with fail
  refine (sum_any _ _ _ xs _ (by omega) L2.out.sl).mono ?_
  rintro e w' ⟨rfl, rfl⟩
  go_wp2_with fail
  refine (more_any _ _ _ _ xs _ (by omega) L2.out.sl).mono ?_
  rintro e w' ⟨rfl, rfl⟩
  go_wp2_with fail
  refine (more_any _ _ _ _ ys _ (by omega) (H'.out.keep G2.out)).mono ?_
  rintro e w' ⟨rfl, rfl⟩
  go_wp2_with fail
  refine (kept_any g _ _ _ xs _ (by omega) L2.out (H.out.keep G2.out)).mono ?_
  rintro e w3 ⟨rfl, hb3⟩
  have G3 := Lib.hid (keep_trans G2.out hb3); clear hb3
  go_wp2_with fail
  refine (rsum_any _ _ _ xs _ (by omega) (H.out.keep G3.out)).mono ?_
  rintro e w' ⟨rfl, rfl⟩
  go_wp2_with fail
  refine (rmore_any _ _ _ _ xs _ (by omega) (H.out.keep G3.out)).mono ?_
  rintro e w' ⟨rfl, rfl⟩
  go_wp2_with (first
    | (at_builtin; refine wpList_app eltB (by rfl) (.tmp 46) (.tmp 47) rfl w3.heap.size _ 0 [] (by rfl) (own_empty w3 _ _ (Nat.le_refl _)) a _ c (xs.map Bf) (by rfl) ((H.out.keep G3.out).map.keep ((Below.refl _ _).alloc (Nat.le_refl _) _)) (bf_one _) (by unfold maxLen; omega) (by omega) (by simp) xs.length (by omega) (xs.map Bf) rfl ?_; intro v4 w4 hown4 hg4 hv4 hb4; have hb4 := ((Below.refl w3.heap.size w3).alloc (Nat.le_refl _) _).trans hb4)
    | (at_builtin; refine wpList_app eltB (by rfl) (.tmp 48) (.tmp 49) rfl w3.heap.size _ _ _ (by rfl) hown4 a' _ c' (ys.map Bf) (by rfl) ((H'.out.keep G3.out).keep hb4).map (bf_one _) (by unfold maxLen; omega) (by omega) hb4.size (xs ++ ys).length (by simp) ((xs ++ ys).map Bf) (by simp) ?_; intro v5 w5 hown5 hg5 hv5 hb5))
  obtain ⟨a5, c5, rfl, hs5⟩ := Sl.of_own (xs ++ ys) hown5
  refine (rsum_any _ _ _ (xs ++ ys) _ (by simp; omega) hs5).mono ?_
  rintro e w' ⟨rfl, rfl⟩
  go_wp2_with fail
  go_ret
  refine ⟨ret_bool ?_, G3.out.trans ((hb4.trans hb5).mono G3.out.size)⟩
  rw [more_sum]; simp
end Go.Proofs.Ytaablclccklhnaa
