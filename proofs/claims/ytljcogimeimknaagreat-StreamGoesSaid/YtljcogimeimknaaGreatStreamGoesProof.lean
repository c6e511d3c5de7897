/- StreamGoes: the given statement 'StreamGoesSaid', out of the walk: for every input the law returns true and each argument reads as before. Condition: none but the row's own. -/
import Derived.Test.YtljcogimeimknaaGreatStreamGoes
import Derived.Test.YtljcogimeimknaaGreatK8a
import Derived.Test.YtljcogimeimknaaGreatOpenPipe
import Derived.ChangeOld
namespace Go.Proofs.YtljcogimeimknaaGreat.streamGoesDone
open Go.ChangeShapes Go.WideShapes Go.ChangeAt Go.RowKit
set_option linter.unusedVariables false

set_option maxRecDepth 100000 in
theorem contract (H : Type) (enc : TypeId × Value → H) (W : World) (base : Nat) (args : Array Value) (ds gs : List (DataW H)) (before : List MemPlace)
    (hval : ∀ (j : Nat) t v, Tryz.f6.params[j]? = some t → args[j]? = some v → Value.okWide Tryz.prog W .any base t v)
    (hW : DataW.Whole enc Tryz.prog Tryz.f6.params.toList Rows.streamGoesSpec.vars false W args.toList ds gs before)
    (hsz : (DataW.weightsEach Tryz.prog (Tryz.f6.params.toList ++ Rows.streamGoesSpec.plain.varTypes Tryz.prog) (ds ++ gs)).all (· ≤ reachBytes) = true) :
    Calls Tryz.prog 6 args W fun e W' => ∃ v, e = .returned v ∧ Rows.streamGoesSpec.post enc Tryz.prog Tryz.f6 false true false false W args v W' := by
  have hW' := hW
  obtain ⟨p, q, hA0, hV, rfl, hfz, hnd⟩ := hW
  have hA : DataW.TrodAll enc Tryz.prog W 0 (fun _ => true) true Tryz.f6.params.toList args.toList ds p := hA0
  rw [Tryz.params6] at hA hval hsz
  obtain ⟨v0, vs0, d0, ds0, p0, q0, hargs, rfl, rfl, h0, r0⟩ := trodAll_cons hA
  obtain ⟨v1, vs1, d1, ds1, p1, q1, rfl, rfl, rfl, h1, r1⟩ := trodAll_cons r0
  obtain ⟨rfl, rfl, rfl⟩ := trodAll_nil r1
  obtain rfl : args = #[v0, v1] := by cases args; simp_all
  obtain ⟨rfl, rfl⟩ := trodVars_none hV
  have k0 := h0
  have lt0 : ∀ x ∈ p0, x.block < W.heap.size := by obtain ⟨m, hm⟩ := k0; exact DataW.trod_lt m _ _ _ hm
  have k1 := h1
  have lt1 : ∀ x ∈ p1, x.block < W.heap.size := by obtain ⟨m, hm⟩ := k1; exact DataW.trod_lt m _ _ _ hm
  obtain ⟨ab0, nb0, cb0, bs0, ag0, ng0, cg0, gs0, xf0, eb0, rfl, SB0, SG0, IG0, bz0, BK0, MM0⟩ := opens_feed ⟨Tryz.underlying57, rfl, rfl, rfl, rfl, rfl, rfl, rfl, rfl, by kernel_rfl, by kernel_rfl, by kernel_rfl, by kernel_rfl, Tryz.underlying22, Tryz.underlying5, by kernel_rfl, by kernel_rfl, Tryz.underlying55, Tryz.underlying3, by kernel_rfl, Tryz.underlying4, by kernel_rfl⟩ (hval 0 57 v0 rfl rfl) h0
  have LB0 := SB0.le; have LG0 := SG0.le
  have MX0 := MM0 140737488351232 (fun m hm => by have := List.all_eq_true.1 hsz _ (DataW.weights_mem_each (j := 0) rfl rfl m hm); exact of_decide_eq_true this)
  obtain ⟨a1, n1, c1, rfl⟩ := okWide_slice Tryz.underlying22 (hval 1 22 v1 rfl rfl)
  obtain ⟨xs1, S1, D1⟩ := opens_bytes Tryz.underlying22 Tryz.underlying5 (by kernel_rfl) h1
  have L1 := S1.len; have Q1 := S1.le
  have B1 := reach_of hsz 1 (c := c1) rfl rfl Tryz.underlying22 (show Tryz.prog.bytesOf 5 = 1 by kernel_rfl) D1
  clear hA0
  refine (streamGoes_walk ab0 nb0 cb0 bs0 ag0 ng0 cg0 gs0 xf0 eb0 a1 n1 c1 xs1 W (by omega) (by omega) (by omega) IG0 SB0 SG0 S1).mono fun e W' ⟨he, bel⟩ => ?_
  subst he
  exact ⟨_, rfl, _, _, _, [], _, [], hW', trodAll_mk1 (shut_bool Tryz.underlying4 _), (trodAll_cons_mk (Below.trod prog_laidOut (by kernel_rfl) (of_decide_eq_true (by kernel_rfl)) k0 bel lt0) (trodAll_cons_mk (Below.trod prog_laidOut (by kernel_rfl) (of_decide_eq_true (by kernel_rfl)) k1 bel lt1) trodAll_mk0)), rfl, bel.frame _, fun h => by cases h⟩

set_option maxRecDepth 100000 in
theorem lifted (os : Os) (started : os.Started) (H : Type) (enc : TypeId × Value → H) :
    ReturnsInHanded {} Tryz.checked os 6 .any (Rows.streamGoesSpec.pre6 enc Tryz.prog Tryz.f6 Rows.streamGoesRow.domain false) (Rows.streamGoesSpec.post enc Tryz.prog Tryz.f6 false true false false) := by
  refine returnsInHanded_of_change_sized (C := Tryz.checked) prog_own started (by kernel_rfl) Tryz.func6
    (ChangeSpec.witness6 (enc := enc) (C := Tryz.checked) false ⟨#[], #[.agg #[.slice none 0 0, .slice none 0 0, .int .i64 0, .bool false], .slice none 0 0], []⟩ 8 (by kernel_rfl) (by kernel_rfl) (by kernel_rfl) (by kernel_rfl)) ?_
  intro W base args ds gs before hval hW _ hsz _
  exact contract H enc W base args ds gs before hval hW hsz

theorem over : Rows.streamGoesRow.holds Tryz.pinned (OpenSpec.ofChange Rows.streamGoesSpec) :=
  OpenClaim.holds_of_wide 6 Tryz.f6 rfl rfl rfl rfl rfl rfl rfl ⟨rfl, rfl, rfl, rfl, rfl⟩ rfl rfl rfl rfl rfl (by kernel_rfl) Tryz.func6 (by kernel_rfl)
    (of_decide_eq_true (by kernel_rfl)) (by unfold Func.isWrapper; first | (rw [if_pos (by decide +kernel)]; kernel_rfl) | (rw [if_neg (by decide +kernel)]; exact ⟨rfl, rfl⟩))
    (fun os started H enc _ => lifted os started H enc)
theorem proved : Rows.StreamGoesSaid := over
end Go.Proofs.YtljcogimeimknaaGreat.streamGoesDone
