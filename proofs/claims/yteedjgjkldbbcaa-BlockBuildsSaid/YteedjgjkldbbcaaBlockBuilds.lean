/- BlockBuilds: the walk. Conditions: the entries within reach. Written by a program of this place (gen_BlockBuilds.py). -/
import Derived.Test.YteedjgjkldbbcaaBlockLives
import Derived.Test.YteedjgjkldbbcaaBlockRBuild
namespace Go.Proofs.Yteedjgjkldbbcaa
open Go.RowKit
set_option linter.unusedVariables false

theorem bbuild_len (es : List Ent) : (bbuild es).1.length ≤ 23000 := by
  by_cases hc : es.length < 1 ∨ 64 < es.length
  · rw [bbuild_count hc]; exact Nat.zero_le _
  · by_cases hz : (srt es).2 = 0
    · rw [bbuild_ok hc hz]
      have hb := bst_le es (srt_okay hz)
      show (bld es).length ≤ _
      rw [bld_some (by intro e; subst e; simp at hc), vb_lt (show es.length < 128 by omega)]
      simp only [List.length_append, List.length_cons, List.length_nil]
      omega
    · rw [bbuild_srt hc hz]; exact Nat.zero_le _
set_option maxHeartbeats 2000000 in
set_option maxRecDepth 100000 in
theorem blockBuilds_walk (a : Option Addr) (n c : Nat) (es : List Ent) (w : World) (hn : n ≤ 2932031007317) (hf : Fit 140737488351232 es) (h : Ents w a n c es) :
    Calls Try.prog 3 #[.slice a n c] w fun e w' => e = .returned (.bool true) ∧ Below w.heap.size w w' := by
  obtain rfl : n = es.length := h.1.symm
  have HF := Lib.hid hf
  have G := Lib.hid (Below.refl w.heap.size w)
  have H := Lib.hid h
  have hl := bbuild_len es
  obtain ⟨⟨B, r1, r0⟩, hB⟩ : ∃ X, bbuild es = X := ⟨_, rfl⟩
  rw [hB] at hl
  dsimp only at hl
  have BB := Lib.hid hB
  clear hf h hB
  go_enter Try.func3, Try.ntmps3
  go_wp2_with fail
  refine (lives_any _).mono ?_
  rintro e w1 ⟨rfl, hb⟩
  have s1 : w.heap.size ≤ w1.heap.size := hb.size
  replace G := Lib.hid (keep_trans G.out hb)
  clear hb
  go_wp2_with fail
  refine (copy_any a es.length c es w1 hn HF.out (H.out.keep G.out)).mono ?_
  rintro e w2 ⟨a2, c2, rfl, hcp, hb⟩
  have CP := Lib.hid hcp
  have s2 : w1.heap.size ≤ w2.heap.size := hb.size
  replace G := Lib.hid (keep_trans G.out hb)
  clear hb hcp
  go_wp2_with fail
  have HC := bbuild_any a2 es.length c2 es w2 hn HF.out CP.out.ents
  rw [BB.out] at HC
  refine HC.mono ?_
  rintro e w3 ⟨_, rfl, ho, hb⟩
  have s3 : w2.heap.size ≤ w3.heap.size := hb.size
  obtain ⟨aA, nA, cA, rfl, zA⟩ := ho.slN
  obtain rfl : B.length = nA := zA.len
  have AL := Lib.hid ho.lt
  have A := Lib.hid ho
  clear ho zA HC
  replace G := Lib.hid (keep_trans G.out hb)
  replace CP := Lib.hid (CP.out.keep hb (by omega))
  clear hb
  go_wp2_with fail
  have HC := bbuild_any a2 es.length c2 es w3 hn HF.out CP.out.ents
  rw [BB.out] at HC
  refine HC.mono ?_
  rintro e w4 ⟨_, rfl, ho, hb⟩
  have s4 : w3.heap.size ≤ w4.heap.size := hb.size
  obtain ⟨aD, nD, cD, rfl, zD⟩ := ho.slN
  obtain rfl : B.length = nD := zD.len
  have DL := Lib.hid ho.lt
  have D := Lib.hid ho
  clear ho zD HC
  replace G := Lib.hid (keep_trans G.out hb)
  replace CP := Lib.hid (CP.out.keep hb (by omega))
  replace A := Lib.hid (A.out.keep hb)
  clear hb
  go_wp2_with fail
  have HC := brbuild_any a es.length c es w4 hn HF.out (H.out.keep G.out)
  rw [BB.out] at HC
  refine HC.mono ?_
  rintro e w5 ⟨_, rfl, ho, hb⟩
  have s5 : w4.heap.size ≤ w5.heap.size := hb.size
  obtain ⟨aC, nC, cC, rfl, zC⟩ := ho.slN
  obtain rfl : B.length = nC := zC.len
  have CL := Lib.hid ho.lt
  have C := Lib.hid ho
  clear ho zC HC
  replace G := Lib.hid (keep_trans G.out hb)
  replace CP := Lib.hid (CP.out.keep hb (by omega))
  replace A := Lib.hid (A.out.keep hb)
  replace D := Lib.hid (D.out.keep hb)
  clear hb
  go_wp2_with fail
  refine (same_any aA B.length cA B aC B.length cC B w5 (by omega) (by omega) A.out.slI C.out.slI).mono ?_
  rintro e w6 ⟨rfl, hb⟩
  have s6 : w5.heap.size ≤ w6.heap.size := hb.size
  rw [decide_eq_true rfl]
  replace G := Lib.hid (keep_trans G.out hb)
  replace CP := Lib.hid (CP.out.keep hb (by omega))
  replace A := Lib.hid (A.out.keep hb)
  replace D := Lib.hid (D.out.keep hb)
  replace C := Lib.hid (C.out.keep hb)
  clear hb
  have hcA := A.out.capB
  go_wp2_with fail
  refine (spoil_any aA B.length cA w6 (by omega) A.out.soft).mono ?_
  rintro e w7 ⟨rfl, hg⟩
  have s7 : w6.heap.size ≤ w7.heap.size := hg.size
  have hrow : ∀ j, aA.map (·.block) = some j → w2.heap.size ≤ j ∧ j < w3.heap.size := fun j hj => AL.out j (by rw [own_map]; exact hj)
  replace G := Lib.hid (G.out.grown hg G.out.size (fun j hj => by have := hrow j hj; omega))
  replace CP := Lib.hid (CP.out.same (fun j h1 h2 => hg.block j (by omega) (fun e => by have := hrow j e.symm; omega)))
  replace D := Lib.hid (D.out.grown hg (other_row AL.out DL.out (by omega)))
  replace C := Lib.hid (C.out.grown hg (other_row AL.out CL.out (by omega)))
  clear A hrow
  clear hg
  go_wp2_with fail
  refine (ekept_any a2 es.length c2 a es.length c es _ _ w7 hn HF.out CP.out (by omega) (H.out.keep G.out)).mono ?_
  rintro e w8 ⟨rfl, hb⟩
  have s8 : w7.heap.size ≤ w8.heap.size := hb.size
  replace G := Lib.hid (keep_trans G.out hb)
  replace CP := Lib.hid (CP.out.keep hb (by omega))
  replace D := Lib.hid (D.out.keep hb)
  replace C := Lib.hid (C.out.keep hb)
  clear hb
  go_wp2_with fail
  refine (same_any aD B.length cD B aC B.length cC B w8 (by omega) (by omega) D.out.slI C.out.slI).mono ?_
  rintro e w9 ⟨rfl, hb⟩
  have s9 : w8.heap.size ≤ w9.heap.size := hb.size
  rw [decide_eq_true rfl]
  replace G := Lib.hid (keep_trans G.out hb)
  replace CP := Lib.hid (CP.out.keep hb (by omega))
  replace D := Lib.hid (D.out.keep hb)
  replace C := Lib.hid (C.out.keep hb)
  clear hb
  go_wp2_with fail
  go_ret
  exact ⟨ret_bool (by simp), G.out⟩
end Go.Proofs.Yteedjgjkldbbcaa
