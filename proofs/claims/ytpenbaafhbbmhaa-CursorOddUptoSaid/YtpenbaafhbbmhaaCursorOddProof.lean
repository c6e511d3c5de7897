/- CursorOdd: the given statement 'CursorOddUptoSaid', out of the walk: for every input the law returns true and each argument reads as before. Condition: together of bulk at most 1048576. -/
import Derived.Test.YtpenbaafhbbmhaaCursorOdd
import Derived.Test.YtpenbaafhbbmhaaOpen
import Derived.Test.YtpenbaafhbbmhaaOpenOddC
import Derived.ChangeOld
namespace Go.Proofs.Ytpenbaafhbbmhaa.cursorOddDone
open Go.ChangeShapes Go.WideShapes Go.ChangeAt Go.RowKit
set_option linter.unusedVariables false

set_option maxRecDepth 100000 in
theorem contract (H : Type) (enc : TypeId × Value → H) (W : World) (base : Nat) (args : Array Value) (ds gs : List (DataW H)) (before : List MemPlace)
    (hval : ∀ (j : Nat) t v, Try.f6.params[j]? = some t → args[j]? = some v → Value.okWide Try.prog W .any base t v)
    (hW : DataW.Whole enc Try.prog Try.f6.params.toList Rows.cursorOddSpec.vars false W args.toList ds gs before)
    (hk : Rows.uptoSmall H (ds ++ gs) = true) :
    Calls Try.prog 6 args W fun e W' => ∃ v, e = .returned v ∧ Rows.cursorOddSpec.post enc Try.prog Try.f6 false true false false W args v W' := by
  have hW' := hW
  obtain ⟨p, q, hA0, hV, rfl, hfz, hnd⟩ := hW
  have hA : DataW.TrodAll enc Try.prog W 0 (fun _ => true) true Try.f6.params.toList args.toList ds p := hA0
  rw [Try.params6] at hA hval
  obtain ⟨v0, vs0, d0, ds0, p0, q0, hargs, rfl, rfl, h0, r0⟩ := trodAll_cons hA
  obtain ⟨rfl, rfl, rfl⟩ := trodAll_nil r0
  obtain rfl : args = #[v0] := by cases args; simp_all
  obtain ⟨rfl, rfl⟩ := trodVars_none hV
  have k0 := h0
  have lt0 : ∀ x ∈ p0, x.block < W.heap.size := by obtain ⟨m, hm⟩ := k0; exact DataW.trod_lt m _ _ _ hm
  obtain ⟨a0a, n0a, c0a, xs0a, a0b, n0b, c0b, xs0b, a0c, n0c, c0c, xs0c, a0d, n0d, c0d, xs0d, rfl, S0a, I0a, S0b, S0c, I0c, S0d, BK0⟩ := opens_oddc Try.underlying79 (by kernel_rfl) rfl rfl rfl rfl rfl rfl rfl rfl (by kernel_rfl) (by kernel_rfl) (by kernel_rfl) (by kernel_rfl) (by kernel_rfl) (by kernel_rfl) Try.underlying23 Try.underlying31 Try.underlying3 Try.underlying37 Try.underlying26 Try.underlying42 (by kernel_rfl) rfl rfl rfl rfl Try.underlying61 Try.underlying74 (by kernel_rfl) rfl rfl rfl rfl (by kernel_rfl) Try.underlying22 Try.underlying5 (by kernel_rfl) (hval 0 79 v0 rfl rfl) h0
  have La := S0a.le; have Lb := S0b.le; have Lc := S0c.2.1; have Ld := S0d.2.1
  have hbd := bulk_bound hk
  simp only [List.append_nil, Rows.uptoBulkAll] at hbd
  clear hA0
  refine (cursorOdd_walk a0a n0a c0a xs0a a0b n0b c0b xs0b a0c n0c c0c xs0c a0d n0d c0d xs0d W (by omega) (by omega) (by omega) I0a S0a S0b S0c I0c S0d).mono fun e W' ⟨he, bel⟩ => ?_
  subst he
  exact ⟨_, rfl, _, _, _, [], _, [], hW', trodAll_mk1 (shut_bool Try.underlying4 _), (trodAll_cons_mk (Below.trod prog_laidOut (by kernel_rfl) (of_decide_eq_true (by kernel_rfl)) k0 bel lt0) trodAll_mk0), rfl, bel.frame _, fun h => by cases h⟩

set_option maxRecDepth 100000 in
theorem lifted (os : Os) (started : os.Started) (H : Type) (enc : TypeId × Value → H) (F : Stop.Interp) :
    ReturnsInHanded {} Try.checked os 6 .any ((Rows.OpenSpec.upto Rows.cursorOddSpec).pre6 enc Try.prog Try.f6 Rows.cursorOddUptoRow.domain false) (((Rows.OpenSpec.upto Rows.cursorOddSpec).at F).post enc Try.prog Try.f6 false true false false) := by
  refine returnsInHanded_of_cond (C := Try.checked) (s := Rows.OpenSpec.upto Rows.cursorOddSpec) (k := Rows.uptoSmall) rfl prog_own started (by kernel_rfl) Try.func6
    (OpenSpec.witness (enc := enc) (C := Try.checked) (s := Rows.OpenSpec.upto Rows.cursorOddSpec) (k := Rows.uptoSmall) rfl false ⟨#[], #[.agg #[.slice none 0 0, .slice none 0 0, .slice none 0 0, .slice none 0 0]], []⟩ 8 (by kernel_rfl) (by kernel_rfl) (by kernel_rfl)
      (x := ([.agg [.nil, .nil, .nil, .nil]], [], [])) (by kernel_rfl) rfl (by kernel_rfl)) ?_
  intro W base args ds gs before hval hW _ hk _
  exact contract H enc W base args ds gs before hval hW hk

theorem proved : Rows.CursorOddUptoSaid :=
  OpenClaim.holds_of_cond 6 Try.f6 rfl rfl rfl rfl rfl rfl rfl ⟨rfl, rfl, rfl, rfl, rfl⟩ rfl rfl rfl rfl rfl (by kernel_rfl) Try.func6 (by kernel_rfl)
    (of_decide_eq_true (by kernel_rfl)) (by unfold Func.isWrapper; first | (rw [if_pos (by decide +kernel)]; kernel_rfl) | (rw [if_neg (by decide +kernel)]; exact ⟨rfl, rfl⟩))
    (fun os started H enc _ F => lifted os started H enc F)
end Go.Proofs.Ytpenbaafhbbmhaa.cursorOddDone
