/- StreamBytes: the walk. Conditions: the entries within reach. -/
import Derived.Test.YtljcogimeimknaaStmRBytes
import Derived.Test.YtljcogimeimknaaK8b
namespace Go.Proofs.Ytljcogimeimknaa
open Go.RowKit
set_option linter.unusedVariables false

theorem sbytes_len (l : List Ent) (N : Int) : (sbytes l N).1.length ≤ 200000000000 := by
  have h : ∀ (l : List Ent) (m i : Nat) (s : WS), s.Ok m → s.shut = false → ∃ t, t.Ok m ∧ t.shut = false ∧ (wadds m i s l).2.2 = t := by
    intro l
    induction l with
    | nil => intro m i s h h2; exact ⟨s, h, h2, rfl⟩
    | cons e r ih =>
      intro m i s h h2
      by_cases hq : (s.add m e).1 ≠ 0
      · rw [wadds_bad hq]; exact ⟨s, h, h2, rfl⟩
      · rw [wadds_go (by omega)]; exact ih _ _ _ (h.add e) (add_shut e h2)
  by_cases hN : N < 1 ∨ 64 < N
  · rw [sbytes_bad hN]; exact Nat.zero_le _
  · obtain ⟨m, rfl⟩ : ∃ m : Nat, N = m := ⟨N.toNat, by omega⟩
    rw [sbytes_ok (by omega) (by omega)]
    obtain ⟨t, h1, h2, h3⟩ := h l m 0 WS0 (WS.Ok.zero ⟨by omega, by omega⟩) rfl
    unfold sbytesW
    split
    · exact Nat.zero_le _
    · rw [h3]; exact WS.ready_le (h1.close h2)
set_option maxHeartbeats 2000000 in
set_option maxRecDepth 100000 in
theorem streamBytes_walk (a : Option Addr) (n c : Nat) (es : List Ent) (N : Int) (w : World) (hn : n ≤ 2932031007317) (hf : Fit 140737488351232 es) (h : Ents w a n c es) :
    Calls Try.prog 3 #[.slice a n c, .int .i64 N] w fun e w' => e = .returned (.bool true) ∧ Below w.heap.size w w' := by
  obtain rfl : n = es.length := h.1.symm
  have HF := Lib.hid hf
  have G := Lib.hid (Below.refl w.heap.size w)
  have H := Lib.hid h
  have hl := sbytes_len es N
  obtain ⟨⟨B, r1, r0⟩, hB⟩ : ∃ X, sbytes es N = X := ⟨_, rfl⟩
  rw [hB] at hl
  dsimp only at hl
  have BB := Lib.hid hB
  clear hf h hB
  go_enter Try.func3, Try.ntmps3
  go_wp2_with fail
  refine (lives_any _).mono ?_
  rintro e w1 ⟨rfl, hb⟩
  have s1 : w.heap.size ≤ w1.heap.size := hb.size
  replace G := Lib.hid (keep_trans G.out hb)
  clear hb
  go_wp2_with fail
  refine (copy_any a es.length c es w1 hn HF.out (H.out.keep G.out)).mono ?_
  rintro e w2 ⟨a2, c2, rfl, hcp, hb⟩
  have CP := Lib.hid hcp
  have s2 : w1.heap.size ≤ w2.heap.size := hb.size
  replace G := Lib.hid (keep_trans G.out hb)
  clear hb hcp
  go_wp2_with fail
  have HC := sbytes_any a2 es.length c2 es N w2 hn HF.out CP.out.ents
  rw [BB.out] at HC
  refine HC.mono ?_
  rintro e w3 ⟨_, rfl, ho, hb⟩
  have s3 : w2.heap.size ≤ w3.heap.size := hb.size
  obtain ⟨aA, nA, cA, rfl, zA⟩ := ho.slN
  obtain rfl : B.length = nA := zA.len
  have AL := Lib.hid ho.lt
  have A := Lib.hid ho
  clear ho zA HC
  replace G := Lib.hid (keep_trans G.out hb)
  replace CP := Lib.hid (CP.out.keep hb (by omega))
  clear hb
  go_wp2_with fail
  have HC := sbytes_any a2 es.length c2 es N w3 hn HF.out CP.out.ents
  rw [BB.out] at HC
  refine HC.mono ?_
  rintro e w4 ⟨_, rfl, ho, hb⟩
  have s4 : w3.heap.size ≤ w4.heap.size := hb.size
  obtain ⟨aD, nD, cD, rfl, zD⟩ := ho.slN
  obtain rfl : B.length = nD := zD.len
  have DL := Lib.hid ho.lt
  have D := Lib.hid ho
  clear ho zD HC
  replace G := Lib.hid (keep_trans G.out hb)
  replace CP := Lib.hid (CP.out.keep hb (by omega))
  replace A := Lib.hid (A.out.keep hb)
  clear hb
  go_wp2_with fail
  have HC := rbytesW_any a es.length c es N w4 hn HF.out (H.out.keep G.out)
  rw [BB.out] at HC
  refine HC.mono ?_
  rintro e w5 ⟨aC, nC, cC, rfl, ho, hb, hfr⟩
  have s5 : w4.heap.size ≤ w5.heap.size := hb.size
  obtain rfl : B.length = nC := ho.len
  have CL := Lib.hid hfr
  have C := Lib.hid (show Sl Bf w5 aC B.length cC B from ho)
  clear ho HC hfr
  replace G := Lib.hid (keep_trans G.out hb)
  replace CP := Lib.hid (CP.out.keep hb (by omega))
  replace A := Lib.hid (A.out.keep hb)
  replace D := Lib.hid (D.out.keep hb)
  clear hb
  go_wp2_with fail
  refine (same_any aA B.length cA B aC B.length cC B w5 (by omega) (by omega) A.out.slI C.out).mono ?_
  rintro e w6 ⟨rfl, hb⟩
  have s6 : w5.heap.size ≤ w6.heap.size := hb.size
  rw [decide_eq_true rfl]
  replace G := Lib.hid (keep_trans G.out hb)
  replace CP := Lib.hid (CP.out.keep hb (by omega))
  replace A := Lib.hid (A.out.keep hb)
  replace D := Lib.hid (D.out.keep hb)
  replace C := Lib.hid (C.out.keep hb)
  clear hb
  have hcA := A.out.capB
  go_wp2_with fail
  refine (spoil_any aA B.length cA w6 (by omega) A.out.soft).mono ?_
  rintro e w7 ⟨rfl, hg⟩
  have s7 : w6.heap.size ≤ w7.heap.size := hg.size
  have hrow : ∀ j, aA.map (·.block) = some j → w2.heap.size ≤ j ∧ j < w3.heap.size := fun j hj => AL.out j (by rw [own_map]; exact hj)
  replace G := Lib.hid (G.out.grown hg G.out.size (fun j hj => by have := hrow j hj; omega))
  replace CP := Lib.hid (CP.out.same (fun j h1 h2 => hg.block j (by omega) (fun e => by have := hrow j e.symm; omega)))
  replace D := Lib.hid (D.out.grown hg (other_row AL.out DL.out (by omega)))
  replace C := Lib.hid (C.out.grown hg (fun b o e e2 => by have := hrow b e2; have := CL.out b o e; omega))
  clear A hrow
  clear hg
  go_wp2_with fail
  refine (same_any aD B.length cD B aC B.length cC B w7 (by omega) (by omega) D.out.slI C.out).mono ?_
  rintro e w8 ⟨rfl, hb⟩
  have s8 : w7.heap.size ≤ w8.heap.size := hb.size
  rw [decide_eq_true rfl]
  replace G := Lib.hid (keep_trans G.out hb)
  replace CP := Lib.hid (CP.out.keep hb (by omega))
  clear hb D C
  go_wp2_with fail
  refine (ekept_any a2 es.length c2 a es.length c es _ _ w8 hn HF.out CP.out (by omega) (H.out.keep G.out)).mono ?_
  rintro e w9 ⟨rfl, hb⟩
  replace G := Lib.hid (keep_trans G.out hb)
  clear hb
  go_wp2_with fail
  go_ret
  exact ⟨ret_bool (by simp), G.out⟩
end Go.Proofs.Ytljcogimeimknaa
