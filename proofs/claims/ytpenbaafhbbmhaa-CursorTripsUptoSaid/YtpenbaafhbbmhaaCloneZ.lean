/- Clone of numbers: contract. Condition: the slice within reach. -/
import Derived.Test.YtpenbaafhbbmhaaCloneS
import Derived.Test.YtpenbaafhbbmhaaPipeNext
namespace Go.Proofs.Ytpenbaafhbbmhaa
open Go.RowKit

abbrev fZs (x : Int) : List Value := [fZ x]
theorem fZs_len (x : Int) : (fZs x).length = 1 := rfl
theorem eltTZ : EltT Try.prog 23 3 fZs 1 8 := EltT.mk1 Try.underlying23 (z := .int .i64 0) (by kernel_rfl) 0 rfl (fun _ => rfl)
theorem OwT.slZ {w : World} {base : Nat} {e : TypeId} {v : Value} {xs : List Int} (h : OwT fZs w base e v xs) : ∃ a c, v = .slice a xs.length c ∧ Sl fZ w a xs.length c xs := by
  obtain ⟨a, c, hv, hs⟩ := h.sl fZs_len
  exact ⟨a, c, hv, hs.to1⟩
theorem cloneZ_any (a : Option Addr) (n c : Nat) (xs : List Int) (w : World) (hn : n ≤ 17592186043904) (h : Sl fZ w a n c xs) :
    Calls Try.prog 32 #[.slice a n c] w fun e w' => ∃ v, e = .returned v ∧ OwT fZs w' w.heap.size 3 v xs ∧ Below w.heap.size w w' := by
  obtain rfl : n = xs.length := h.len.symm
  have H := Lib.hid h; clear h
  cases a with
  | none =>
    have HZ := Lib.hid H.out.none_eq.2.2
    have hnil := Lib.run_eql_slice_nil w 23 3 none xs.length c 0 0 Try.underlying23
    go_enter Try.func32, Try.ntmps32
    go_wp2_with fail
    go_ret
    exact ⟨_, rfl, by rw [HZ.out]; exact OwT.nil _ _ _ _, Below.refl _ _⟩
  | some p =>
    have hnil := Lib.run_eql_slice_nil w 23 3 (some p) xs.length c 0 0 Try.underlying23
    go_enter Try.func32, Try.ntmps32
    go_wp2_with (at_builtin; refine wpList_appT eltTZ rfl _ _ rfl w.heap.size _ [] (by rfl) (OwT.lit fZs _ w.heap.size _ _ [] 0 rfl rfl (Nat.le_refl _) (Nat.zero_le _)) (some p) xs.length c xs (by rfl) (H.out.keep ((Below.refl _ _).alloc (Nat.le_refl _) _)).toT (by unfold maxLen; simp; omega) (by simp; omega) (by simp) xs rfl ?_; intro v5 w5 h5 hg5 hv5 hb5)
    go_ret
    exact ⟨_, rfl, h5, ((Below.refl _ _).alloc (Nat.le_refl _) _).trans hb5⟩
end Go.Proofs.Ytpenbaafhbbmhaa
