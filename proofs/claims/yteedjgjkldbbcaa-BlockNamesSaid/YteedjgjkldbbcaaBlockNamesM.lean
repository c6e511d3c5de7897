/- BlockNames: what the examples are, reckoned. No condition. -/
import Derived.Test.YteedjgjkldbbcaaBlockFindM
import Derived.Test.YteedjgjkldbbcaaK6d
namespace Go.Proofs.Yteedjgjkldbbcaa
set_option linter.unusedVariables false

abbrev bnT : List Ent := [([97, 98], [49]), ([97, 98, 99], [])]
abbrev bnB : List UInt8 := [2, 0, 2, 1, 97, 98, 49, 2, 1, 0, 99, 1, 0]
theorem bn_bytes : bbuild bnT = (bnB, 0, 0) := by
  rw [bbuild_ok (by decide) (by decide +kernel), bld_some (by simp)]
  have e1 : ebytes [] ([97, 98], [49]) = [0, 2, 1, 97, 98, 49] := by
    unfold ebytes
    rw [show com ([] : List UInt8) [97, 98] = 0 by decide +kernel]
    show vb 0 ++ vb 2 ++ vb 1 ++ [97, 98] ++ [49] = _
    rw [vb_lt (show 0 < 128 by decide), vb_lt (show 2 < 128 by decide), vb_lt (show 1 < 128 by decide)]
    rfl
  have e2 : ebytes [97, 98] ([97, 98, 99], []) = [2, 1, 0, 99] := by
    unfold ebytes
    rw [show com ([97, 98] : List UInt8) [97, 98, 99] = 2 by decide +kernel]
    show vb 2 ++ vb 1 ++ vb 0 ++ [99] ++ [] = _
    rw [vb_lt (show 0 < 128 by decide), vb_lt (show 2 < 128 by decide), vb_lt (show 1 < 128 by decide)]
    rfl
  have hb : bst bnT = ⟨[0, 2, 1, 97, 98, 49] ++ [2, 1, 0, 99], [1, 0], [97, 98, 99], 2⟩ := by
    show bAdd (bAdd BS0 ([97, 98], [49])) ([97, 98, 99], []) = _
    have h1 : bAdd BS0 ([97, 98], [49]) = ⟨[0, 2, 1, 97, 98, 49], [1, 0], [97, 98], 1⟩ := by
      unfold bAdd
      show BS.mk ([] ++ ebytes [] ([97, 98], [49])) _ _ _ = _
      rw [e1]; rfl
    rw [h1]
    unfold bAdd
    show BS.mk ([0, 2, 1, 97, 98, 49] ++ ebytes [97, 98] ([97, 98, 99], [])) _ _ _ = _
    rw [e2]; rfl
  rw [hb]
  show (vb 2 ++ _ ++ _, 0, 0) = _
  rw [vb_lt (show 2 < 128 by decide)]
  rfl
theorem bn_r1 : bread (bnB.take 12) = ([], 12, 62) := by decide +kernel
theorem bn_r2 : bread (bnB ++ [0]) = ([], 13, 63) := by decide +kernel
theorem bn_r3 : bread [0] = ([], 0, 61) := by decide +kernel
theorem bn_r4 : bread bnB = (bnT, 0, 0) := by decide +kernel
theorem bn_no : bbuild [] = ([], 61, 0) := bbuild_count (.inl (by decide))
theorem bn_find : lfind bnT [97, 98, 99] = some [] := by decide +kernel
end Go.Proofs.Yteedjgjkldbbcaa
