/- PipeWhole: the given statement 'PipeWholeUptoSaid', out of the walk: for every input the law returns true and each argument reads as before. Condition: together of bulk at most 1048576. -/
import Derived.Test.YtjkgncogpefnbaaPipeWhole
import Derived.Test.YtjkgncogpefnbaaOpen
import Derived.Test.YtjkgncogpefnbaaOpenPipe
import Derived.ChangeOld
namespace Go.Proofs.Ytjkgncogpefnbaa.pipeWholeDone
open Go.ChangeShapes Go.WideShapes Go.ChangeAt Go.RowKit
set_option linter.unusedVariables false

set_option maxRecDepth 100000 in
theorem contract (H : Type) (enc : TypeId × Value → H) (W : World) (base : Nat) (args : Array Value) (ds gs : List (DataW H)) (before : List MemPlace)
    (hval : ∀ (j : Nat) t v, Try.f8.params[j]? = some t → args[j]? = some v → Value.okWide Try.prog W .any base t v)
    (hW : DataW.Whole enc Try.prog Try.f8.params.toList Rows.pipeWholeSpec.vars false W args.toList ds gs before)
    (hk : Rows.uptoSmall H (ds ++ gs) = true) :
    Calls Try.prog 8 args W fun e W' => ∃ v, e = .returned v ∧ Rows.pipeWholeSpec.post enc Try.prog Try.f8 false true false false W args v W' := by
  have hW' := hW
  obtain ⟨p, q, hA0, hV, rfl, hfz, hnd⟩ := hW
  have hA : DataW.TrodAll enc Try.prog W 0 (fun _ => true) true Try.f8.params.toList args.toList ds p := hA0
  rw [Try.params8] at hA hval
  obtain ⟨v0, vs0, d0, ds0, p0, q0, hargs, rfl, rfl, h0, r0⟩ := trodAll_cons hA
  obtain ⟨v1, vs1, d1, ds1, p1, q1, rfl, rfl, rfl, h1, r1⟩ := trodAll_cons r0
  obtain ⟨rfl, rfl, rfl⟩ := trodAll_nil r1
  obtain rfl : args = #[v0, v1] := by cases args; simp_all
  obtain ⟨rfl, rfl⟩ := trodVars_none hV
  have k0 := h0
  have lt0 : ∀ x ∈ p0, x.block < W.heap.size := by obtain ⟨m, hm⟩ := k0; exact DataW.trod_lt m _ _ _ hm
  have k1 := h1
  have lt1 : ∀ x ∈ p1, x.block < W.heap.size := by obtain ⟨m, hm⟩ := k1; exact DataW.trod_lt m _ _ _ hm
  obtain ⟨ab0, nb0, cb0, bs0, ag0, ng0, cg0, gs0, xf0, eb0, at0, nt0, ct0, ts0, wf0, zs0, rfl, SB0, SG0, IG0, ST0, IT0, BK0, MM0⟩ := opens_way ⟨Try.underlying26, rfl, rfl, rfl, rfl, rfl, rfl, rfl, rfl, by kernel_rfl, by kernel_rfl, by kernel_rfl, by kernel_rfl, Try.underlying23, Try.underlying5, by kernel_rfl, by kernel_rfl, Try.underlying24, Try.underlying3, by kernel_rfl, Try.underlying4, by kernel_rfl⟩ Try.underlying67 (by kernel_rfl) rfl rfl rfl rfl rfl rfl rfl rfl (hval 0 67 v0 rfl rfl) h0
  have LT0 := ST0.le
  have LB0 := SB0.le; have LG0 := SG0.le
  obtain ⟨a1, n1, c1, rfl⟩ := okWide_slice Try.underlying23 (hval 1 23 v1 rfl rfl)
  obtain ⟨xs1, S1, D1⟩ := opens_bytes Try.underlying23 Try.underlying5 (by kernel_rfl) h1
  have L1 := S1.len; have Q1 := S1.le
  have B1 := bulk_slice D1
  have hbd := bulk_bound hk
  simp only [List.append_nil, Rows.uptoBulkAll] at hbd
  clear hA0
  refine (pipeWhole_walk ab0 nb0 cb0 bs0 ag0 ng0 cg0 gs0 xf0 eb0 at0 nt0 ct0 ts0 wf0 zs0 a1 n1 c1 xs1 W (by omega) (by omega) (by omega) (by omega) (by omega) IG0 IT0 SB0 SG0 ST0 S1).mono fun e W' ⟨he, bel⟩ => ?_
  subst he
  exact ⟨_, rfl, _, _, _, [], _, [], hW', trodAll_mk1 (shut_bool Try.underlying4 _), (trodAll_cons_mk (Below.trod prog_laidOut (by kernel_rfl) (of_decide_eq_true (by kernel_rfl)) k0 bel lt0) (trodAll_cons_mk (Below.trod prog_laidOut (by kernel_rfl) (of_decide_eq_true (by kernel_rfl)) k1 bel lt1) trodAll_mk0)), rfl, bel.frame _, fun h => by cases h⟩

set_option maxRecDepth 100000 in
theorem lifted (os : Os) (started : os.Started) (H : Type) (enc : TypeId × Value → H) (F : Stop.Interp) :
    ReturnsInHanded {} Try.checked os 8 .any ((Rows.OpenSpec.upto Rows.pipeWholeSpec).pre6 enc Try.prog Try.f8 Rows.pipeWholeUptoRow.domain false) (((Rows.OpenSpec.upto Rows.pipeWholeSpec).at F).post enc Try.prog Try.f8 false true false false) := by
  refine returnsInHanded_of_cond (C := Try.checked) (s := Rows.OpenSpec.upto Rows.pipeWholeSpec) (k := Rows.uptoSmall) rfl prog_own started (by kernel_rfl) Try.func8
    (OpenSpec.witness (enc := enc) (C := Try.checked) (s := Rows.OpenSpec.upto Rows.pipeWholeSpec) (k := Rows.uptoSmall) rfl false ⟨#[], #[.agg #[.slice none 0 0, .slice none 0 0, .int .i64 0, .bool false, .slice none 0 0, .int .i64 0, .int .i64 0], .slice none 0 0], []⟩ 8 (by kernel_rfl) (by kernel_rfl) (by kernel_rfl)
      (x := ([.agg [.agg [.nil, .nil, .lit (.int .i64 0), .lit (.bool false)], .nil, .lit (.int .i64 0), .lit (.int .i64 0)], .nil], [], [])) (by kernel_rfl) rfl (by kernel_rfl)) ?_
  intro W base args ds gs before hval hW _ hk _
  exact contract H enc W base args ds gs before hval hW hk

theorem proved : Rows.PipeWholeUptoSaid :=
  OpenClaim.holds_of_cond 8 Try.f8 rfl rfl rfl rfl rfl rfl rfl ⟨rfl, rfl, rfl, rfl, rfl⟩ rfl rfl rfl rfl rfl (by kernel_rfl) Try.func8 (by kernel_rfl)
    (of_decide_eq_true (by kernel_rfl)) (by unfold Func.isWrapper; first | (rw [if_pos (by decide +kernel)]; kernel_rfl) | (rw [if_neg (by decide +kernel)]; exact ⟨rfl, rfl⟩))
    (fun os started H enc _ F => lifted os started H enc F)
end Go.Proofs.Ytjkgncogpefnbaa.pipeWholeDone
