/- lives, of blocks: contract. No condition. -/
import Derived.Test.YteedjgjkldbbcaaBlockBuild
import Derived.Lib.SlBytesConst
namespace Go.Proofs.Yteedjgjkldbbcaa
open Go.RowKit
set_option linter.unusedVariables false

theorem bone_len : (bbuild [([97], [])]).1.length = 7 ∧ (bbuild [([97], [])]).2 = (0, 0) := by
  have h : bbuild [([97], [])] = (bld [([97], [])], 0, 0) := bbuild_ok (by decide) (by decide)
  rw [h]
  refine ⟨?_, rfl⟩
  rw [bld_some (by simp)]
  show (vb 1 ++ ([] ++ ebytes (bP 0 []) ([97], [])) ++ ([] ++ bMark 0 1)).length = 7
  unfold ebytes
  rw [show com (bP 0 []) ([97], ([] : List UInt8)).1 = 0 by decide]
  show (vb 1 ++ ([] ++ (vb 0 ++ vb 1 ++ vb 0 ++ [97] ++ [])) ++ ([] ++ bMark 0 1)).length = 7
  rw [vb_lt (show 1 < 128 by decide), vb_lt (show 0 < 128 by decide)]
  rfl
set_option maxRecDepth 100000 in
set_option maxHeartbeats 1000000 in
theorem lives_any (w : World) : Calls Try.prog 11 #[] w fun e w' => e = .returned (.bool true) ∧ Below w.heap.size w w' := by
  have kc := fun (w : World) (C : Array Value) (n c : Nat) => Lib.run_convert_bytes_const (P := Try.prog) w 25 5 C n c Try.underlying25 Try.underlying5
  have hb0 : Below w.heap.size w (w.alloc (.cells #[.int .u8 97] 5 (1, 2))) := (Below.refl _ _).alloc (Nat.le_refl _) _
  have s0 : Sl Bf (w.alloc (.cells #[.int .u8 97] 5 (1, 2))) (some ⟨w.heap.size, 0, none⟩) 1 1 [97] := Sl.of_row [97] 1 1 (heap_new w _) rfl (Nat.le_refl _) rfl
  have hb1 := (Below.refl _ (w.alloc (.cells #[.int .u8 97] 5 (1, 2)))).alloc (Nat.le_refl _) (.cells #[.slice (some ⟨w.heap.size, 0, none⟩) 1 1, .slice none 0 0] 41)
  have he : Ents ((w.alloc (.cells #[.int .u8 97] 5 (1, 2))).alloc (.cells #[.slice (some ⟨w.heap.size, 0, none⟩) 1 1, .slice none 0 0] 41)) (some ⟨w.heap.size + 1, 0, none⟩) 1 1 [([97], [])] := by
    have hh := heap_new (w.alloc (.cells #[.int .u8 97] 5 (1, 2))) (.cells #[.slice (some ⟨w.heap.size, 0, none⟩) 1 1, .slice none 0 0] 41)
    rw [World.size_alloc] at hh
    refine ⟨rfl, Nat.le_refl _, by simp, fun i k v hi => ?_⟩
    obtain rfl : i = 0 := by have := (List.getElem?_eq_some_iff.1 hi).1; simp at this; omega
    simp at hi
    obtain ⟨rfl, rfl⟩ := hi
    exact ⟨_, _, _, _, _, _, _, _, rfl, cell_of hh 0 rfl, cell_of hh 1 rfl, s0.keep hb1, Sl.nil _ _⟩
  have HB := bbuild_any _ 1 1 [([97], [])] _ (by omega) (fun e he => by obtain rfl := List.mem_singleton.1 he; exact ⟨by show 1 ≤ _; omega, Nat.zero_le _⟩) he
  obtain ⟨l1, l2⟩ := bone_len
  obtain ⟨⟨B, q⟩, hB⟩ : ∃ X, bbuild [([97], [])] = X := ⟨_, rfl⟩
  rw [hB] at HB l1 l2
  dsimp only at l1 l2
  subst l2
  replace HB := Lib.hid HB
  have B0 := Lib.hid (hb0.alloc hb0.size (.cells #[.slice (some ⟨w.heap.size, 0, none⟩) 1 1, .slice none 0 0] 41))
  have L1 := Lib.hid l1
  clear he s0 hb0 hb1 hB l1
  go_enter Try.func11, Try.ntmps11
  go_wp2_with fail
  refine HB.out.mono ?_
  rintro e w1 ⟨v, rfl, ho, hb⟩
  obtain ⟨a1, n1, c1, rfl, z1⟩ := ho.slN
  obtain rfl : 7 = n1 := L1.out.symm.trans z1.len
  have FB := Lib.hid (keep_trans B0.out hb)
  clear ho hb z1
  go_wp2_with fail
  go_ret
  exact ⟨rfl, FB.out⟩
end Go.Proofs.Yteedjgjkldbbcaa
