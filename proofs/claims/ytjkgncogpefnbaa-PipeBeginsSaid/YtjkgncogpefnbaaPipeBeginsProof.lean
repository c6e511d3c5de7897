/- PipeBegins: the given statement 'PipeBeginsSaid', out of the walk: for every input the law returns true and each argument reads as before. Condition: none but the row's own. -/
import Derived.Test.YtjkgncogpefnbaaPipeBegins
import Derived.Test.YtjkgncogpefnbaaOpen
import Derived.Test.YtjkgncogpefnbaaOpenPipe
import Derived.Test.YtjkgncogpefnbaaOpenHalf
import Derived.ChangeOld
namespace Go.Proofs.Ytjkgncogpefnbaa.pipeBeginsDone
open Go.ChangeShapes Go.WideShapes Go.ChangeAt Go.RowKit
set_option linter.unusedVariables false

set_option maxRecDepth 100000 in
theorem contract (H : Type) (enc : TypeId × Value → H) (W : World) (base : Nat) (args : Array Value) (ds gs : List (DataW H)) (before : List MemPlace)
    (hval : ∀ (j : Nat) t v, Try.f7.params[j]? = some t → args[j]? = some v → Value.okWide Try.prog W .any base t v)
    (hW : DataW.Whole enc Try.prog Try.f7.params.toList Rows.pipeBeginsSpec.vars false W args.toList ds gs before)
    (hsz : (DataW.weightsEach Try.prog (Try.f7.params.toList ++ Rows.pipeBeginsSpec.plain.varTypes Try.prog) (ds ++ gs)).all (· ≤ reachBytes) = true) :
    Calls Try.prog 7 args W fun e W' => ∃ v, e = .returned v ∧ Rows.pipeBeginsSpec.post enc Try.prog Try.f7 false true false false W args v W' := by
  have hW' := hW
  obtain ⟨p, q, hA0, hV, rfl, hfz, hnd⟩ := hW
  have hA : DataW.TrodAll enc Try.prog W 0 (fun _ => true) true Try.f7.params.toList args.toList ds p := hA0
  rw [Try.params7] at hA hval hsz
  obtain ⟨v0, vs0, d0, ds0, p0, q0, hargs, rfl, rfl, h0, r0⟩ := trodAll_cons hA
  obtain ⟨v1, vs1, d1, ds1, p1, q1, rfl, rfl, rfl, h1, r1⟩ := trodAll_cons r0
  obtain ⟨v2, vs2, d2, ds2, p2, q2, rfl, rfl, rfl, h2, r2⟩ := trodAll_cons r1
  obtain ⟨rfl, rfl, rfl⟩ := trodAll_nil r2
  obtain rfl : args = #[v0, v1, v2] := by cases args; simp_all
  obtain ⟨rfl, rfl⟩ := trodVars_none hV
  have k0 := h0
  have lt0 : ∀ x ∈ p0, x.block < W.heap.size := by obtain ⟨m, hm⟩ := k0; exact DataW.trod_lt m _ _ _ hm
  have k1 := h1
  have lt1 : ∀ x ∈ p1, x.block < W.heap.size := by obtain ⟨m, hm⟩ := k1; exact DataW.trod_lt m _ _ _ hm
  have k2 := h2
  have lt2 : ∀ x ∈ p2, x.block < W.heap.size := by obtain ⟨m, hm⟩ := k2; exact DataW.trod_lt m _ _ _ hm
  obtain ⟨ab0, nb0, cb0, bs0, ag0, ng0, cg0, gs0, xf0, eb0, rfl, SB0, SG0, IG0, bz0, BK0, MM0⟩ := opens_feed ⟨Try.underlying26, rfl, rfl, rfl, rfl, rfl, rfl, rfl, rfl, by kernel_rfl, by kernel_rfl, by kernel_rfl, by kernel_rfl, Try.underlying23, Try.underlying5, by kernel_rfl, by kernel_rfl, Try.underlying24, Try.underlying3, by kernel_rfl, Try.underlying4, by kernel_rfl⟩ (hval 0 26 v0 rfl rfl) h0
  have LB0 := SB0.le; have LG0 := SG0.le
  have MX0 := MM0 140737488351232 (fun m hm => by have := List.all_eq_true.1 hsz _ (DataW.weights_mem_each (j := 0) rfl rfl m hm); exact of_decide_eq_true this)
  obtain ⟨a1, n1, c1, rfl⟩ := okWide_slice Try.underlying65 (hval 1 65 v1 rfl rfl)
  obtain ⟨xs1, S1, F1, D1⟩ := opens_u16s Try.underlying65 Try.underlying70 (by kernel_rfl) h1
  have L1 := S1.len; have Q1 := S1.le
  have B1 := reach_of hsz 1 (c := c1) rfl rfl Try.underlying65 (show Try.prog.bytesOf 70 = 2 by kernel_rfl) D1
  obtain ⟨ab2, nb2, cb2, bs2, ag2, ng2, cg2, gs2, xf2, eb2, at2, nt2, ct2, ts2, wf2, zs2, rfl, SB2, SG2, IG2, ST2, IT2, BK2, MM2⟩ := opens_way ⟨Try.underlying26, rfl, rfl, rfl, rfl, rfl, rfl, rfl, rfl, by kernel_rfl, by kernel_rfl, by kernel_rfl, by kernel_rfl, Try.underlying23, Try.underlying5, by kernel_rfl, by kernel_rfl, Try.underlying24, Try.underlying3, by kernel_rfl, Try.underlying4, by kernel_rfl⟩ Try.underlying67 (by kernel_rfl) rfl rfl rfl rfl rfl rfl rfl rfl (hval 2 67 v2 rfl rfl) h2
  have LT2 := ST2.le
  have LB2 := SB2.le; have LG2 := SG2.le
  have MX2 := MM2 140737488351232 (fun m hm => by have := List.all_eq_true.1 hsz _ (DataW.weights_mem_each (j := 2) rfl rfl m hm); exact of_decide_eq_true this)
  clear hA0
  refine (pipeBegins_walk ab0 nb0 cb0 bs0 ag0 ng0 cg0 gs0 xf0 eb0 a1 n1 c1 xs1 ab2 nb2 cb2 ag2 ng2 cg2 xf2 eb2 at2 nt2 ct2 ts2 wf2 zs2 W (by omega) (by omega) (by omega) (by omega) IG0 IT2 F1 SB0 SG0 ST2 S1).mono fun e W' ⟨he, bel⟩ => ?_
  subst he
  exact ⟨_, rfl, _, _, _, [], _, [], hW', trodAll_mk1 (shut_bool Try.underlying4 _), (trodAll_cons_mk (Below.trod prog_laidOut (by kernel_rfl) (of_decide_eq_true (by kernel_rfl)) k0 bel lt0) (trodAll_cons_mk (Below.trod prog_laidOut (by kernel_rfl) (of_decide_eq_true (by kernel_rfl)) k1 bel lt1) (trodAll_cons_mk (Below.trod prog_laidOut (by kernel_rfl) (of_decide_eq_true (by kernel_rfl)) k2 bel lt2) trodAll_mk0))), rfl, bel.frame _, fun h => by cases h⟩

set_option maxRecDepth 100000 in
theorem lifted (os : Os) (started : os.Started) (H : Type) (enc : TypeId × Value → H) :
    ReturnsInHanded {} Try.checked os 7 .any (Rows.pipeBeginsSpec.pre6 enc Try.prog Try.f7 Rows.pipeBeginsRow.domain false) (Rows.pipeBeginsSpec.post enc Try.prog Try.f7 false true false false) := by
  refine returnsInHanded_of_change_sized (C := Try.checked) prog_own started (by kernel_rfl) Try.func7
    (ChangeSpec.witness6 (enc := enc) (C := Try.checked) false ⟨#[], #[.agg #[.slice none 0 0, .slice none 0 0, .int .i64 0, .bool false], .slice none 0 0, .agg #[.slice none 0 0, .slice none 0 0, .int .i64 0, .bool false, .slice none 0 0, .int .i64 0, .int .i64 0]], []⟩ 8 (by kernel_rfl) (by kernel_rfl) (by kernel_rfl) (by kernel_rfl)) ?_
  intro W base args ds gs before hval hW _ hsz _
  exact contract H enc W base args ds gs before hval hW hsz

theorem over : Rows.pipeBeginsRow.holds Try.pinned (OpenSpec.ofChange Rows.pipeBeginsSpec) :=
  OpenClaim.holds_of_wide 7 Try.f7 rfl rfl rfl rfl rfl rfl rfl ⟨rfl, rfl, rfl, rfl, rfl⟩ rfl rfl rfl rfl rfl (by kernel_rfl) Try.func7 (by kernel_rfl)
    (of_decide_eq_true (by kernel_rfl)) (by unfold Func.isWrapper; first | (rw [if_pos (by decide +kernel)]; kernel_rfl) | (rw [if_neg (by decide +kernel)]; exact ⟨rfl, rfl⟩))
    (fun os started H enc _ => lifted os started H enc)
theorem proved : Rows.PipeBeginsSaid := over
end Go.Proofs.Ytjkgncogpefnbaa.pipeBeginsDone
