/- Clone of bytes: contract. Condition: the slice within reach. -/
import Derived.Test.YtpenbaafhbbmhaaByS
import Derived.Lib.SliceRun
import Derived.Laws.CopyOwn
namespace Go.Proofs.Ytpenbaafhbbmhaa
open Go.RowKit

theorem clone_any (a : Option Addr) (n c : Nat) (xs : List UInt8) (w : World) (hn : n ≤ 140737488351232) (h : Sl Bf w a n c xs) :
    Calls Try.prog 33 #[.slice a n c] w fun e w' => ∃ v, e = .returned v ∧ OwT fB w' w.heap.size 5 v xs ∧ Below w.heap.size w w' := by
  obtain rfl : n = xs.length := h.len.symm
  have H := Lib.hid h; clear h
  cases a with
  | none =>
    have HZ := Lib.hid H.out.none_eq.2.2
    have hnil := Lib.run_eql_slice_nil w 22 5 none xs.length c 0 0 Try.underlying22
    go_enter Try.func33, Try.ntmps33
    go_wp2_with fail
    go_ret
    exact ⟨_, rfl, by rw [HZ.out]; exact OwT.nil _ _ _ _, Below.refl _ _⟩
  | some p =>
    have hnil := Lib.run_eql_slice_nil w 22 5 (some p) xs.length c 0 0 Try.underlying22
    go_enter Try.func33, Try.ntmps33
    go_wp2_with (at_builtin; refine wpList_appT eltTB rfl _ _ rfl w.heap.size _ [] (by rfl) (OwT.lit fB _ w.heap.size _ _ [] 0 rfl rfl (Nat.le_refl _) (Nat.zero_le _)) (some p) xs.length c xs (by rfl) (H.out.keep ((Below.refl _ _).alloc (Nat.le_refl _) _)).toT (by unfold maxLen; simp; omega) (by simp; omega) (by simp) xs rfl ?_; intro v5 w5 h5 hg5 hv5 hb5)
    go_ret
    exact ⟨_, rfl, h5, ((Below.refl _ _).alloc (Nat.le_refl _) _).trans hb5⟩
end Go.Proofs.Ytpenbaafhbbmhaa
