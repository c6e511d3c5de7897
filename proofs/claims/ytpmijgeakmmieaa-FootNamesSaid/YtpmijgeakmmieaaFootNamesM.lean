/- FootNames: what the examples are, reckoned. No condition. -/
import Derived.Test.YtpmijgeakmmieaaFootReads
import Derived.Test.YtpmijgeakmmieaaFootFind
namespace Go.Proofs.Ytpmijgeakmmieaa
set_option linter.unusedVariables false

abbrev fnT : List Row := [([97, 98], 8, 20, 2), ([99], 28, 15, 1)]
theorem fn_chk : fchk fnT = (0, 0) := by decide +kernel
theorem fn_tot : tot fnT = 3 := by decide +kernel
theorem fn_bytes : fbs fnT = [2, 2, 97, 98, 8, 20, 2, 1, 99, 28, 15, 1, 3] := by
  rw [fbs_yes (by rw [fn_chk])]
  have h : totU fnT = 3 := by unfold totU; rw [fn_tot, IntKind.wrap_u64]; rfl
  unfold fbytes
  rw [h]
  show vb 2 ++ ((vb 2 ++ ([97, 98] ++ (vb 8 ++ (vb 20 ++ (vb 2 ++ []))))) ++ ((vb 1 ++ ([99] ++ (vb 28 ++ (vb 15 ++ (vb 1 ++ []))))) ++ []) ++ vb 3) = _
  rw [vb_lt (show 2 < 128 by decide), vb_lt (show 8 < 128 by decide), vb_lt (show 20 < 128 by decide), vb_lt (show 1 < 128 by decide), vb_lt (show 28 < 128 by decide), vb_lt (show 15 < 128 by decide), vb_lt (show 3 < 128 by decide)]
  rfl
theorem fn_r1 : fread [2, 2, 97, 98, 8, 20, 2, 1, 99, 28, 15, 1, 4] = ([], 12, 76) := by decide +kernel
theorem fn_r2 : fread [2, 2, 97, 98, 8, 20, 2, 1, 99, 28, 15, 1, 3, 0] = ([], 13, 78) := by decide +kernel
theorem fn_r3 : fread [1, 2, 97] = ([], 3, 77) := by decide +kernel
theorem fn_c1 : fchk [([97, 98], 8, 20, 2), ([99], 29, 15, 1)] = (1, 73) := by decide +kernel
theorem fn_c2 : fchk [([97, 98], 8, 20, 65), ([99], 29, 15, 1)] = (0, 75) := by decide +kernel
theorem fn_c3 : fchk [([97, 98], 8, 0, 65), ([99], 29, 15, 1)] = (0, 74) := by decide +kernel
theorem fn_c4 : fchk [([], 8, 0, 65), ([99], 29, 15, 1)] = (0, 72) := by decide +kernel
theorem fn_find {r : Nat} (h1 : r ≤ 2) (h2 : 0 < r → askR fnT [98] (r - 1) = false) (h3 : r < 2 → askR fnT [98] r = true) : r = 1 := by
  have a0 : askR fnT [98] 0 = false := by decide +kernel
  have a1 : askR fnT [98] 1 = true := by decide +kernel
  rcases (by omega : r = 0 ∨ r = 1 ∨ r = 2) with e | e | e <;> subst e
  · rw [h3 (by omega)] at a0; cases a0
  · rfl
  · rw [h2 (by omega)] at a1; cases a1
theorem fn_fit {x0 y0 z0 x1 : Int} {k : List UInt8} (hk : k.length ≤ 2) (h1 : 0 ≤ x0 ∧ x0 ≤ 100) (h2 : 0 ≤ y0 ∧ y0 ≤ 100) (h3 : 0 ≤ z0 ∧ z0 ≤ 100) (h4 : 0 ≤ x1 ∧ x1 ≤ 100) : FitR 140737488351232 [(k, x0, y0, z0), ([99], x1, 15, 1)] := fun r hr => by
  simp only [List.mem_cons, List.not_mem_nil, or_false] at hr
  rcases hr with rfl | rfl
  · exact ⟨by show k.length ≤ _; omega, by show _ ≤ x0 ∧ x0 ≤ _; omega, by show _ ≤ y0 ∧ y0 ≤ _; omega, by show _ ≤ z0 ∧ z0 ≤ _; omega⟩
  · exact ⟨by show 1 ≤ _; omega, by show _ ≤ x1 ∧ x1 ≤ _; omega, by show (_ : Int) ≤ 15 ∧ (15 : Int) ≤ _; omega, by show (_ : Int) ≤ 1 ∧ (1 : Int) ≤ _; omega⟩
end Go.Proofs.Ytpmijgeakmmieaa
