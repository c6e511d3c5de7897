/- PairWrites: the given statement 'PairWritesUptoSaid', out of the walk: for every input the law returns true and each argument reads as before. Condition: together of bulk at most 1048576. -/
import Derived.Test.YtajmojldckpchaaPairWrites
import Derived.Test.YtajmojldckpchaaOpen
import Derived.Lib.SmallJoins
import Derived.Test.YtajmojldckpchaaOpenEnt
import Derived.ChangeOld
namespace Go.Proofs.Ytajmojldckpchaa.pairWritesDone
open Go.ChangeShapes Go.WideShapes Go.ChangeAt Go.RowKit
set_option linter.unusedVariables false

theorem contract (H : Type) (enc : TypeId × Value → H) (W : World) (base : Nat) (args : Array Value) (ds gs : List (DataW H)) (before : List MemPlace)
    (hval : ∀ (j : Nat) t v, Try.f7.params[j]? = some t → args[j]? = some v → Value.okWide Try.prog W .any base t v)
    (hW : DataW.Whole enc Try.prog Try.f7.params.toList Rows.pairWritesSpec.vars false W args.toList ds gs before)
    (hk : Rows.uptoSmall H (ds ++ gs) = true) :
    Calls Try.prog 7 args W fun e W' => ∃ v, e = .returned v ∧ Rows.pairWritesSpec.post enc Try.prog Try.f7 false true false false W args v W' := by
  have hW' := hW
  obtain ⟨p, q, hA0, hV, rfl, hfz, hnd⟩ := hW
  have hA : DataW.TrodAll enc Try.prog W 0 (fun _ => true) true Try.f7.params.toList args.toList ds p := hA0
  rw [Try.params7] at hA hval
  obtain ⟨v0, vs0, d0, ds0, p0, q0, hargs, rfl, rfl, h0, r0⟩ := trodAll_cons hA
  obtain ⟨v1, vs1, d1, ds1, p1, q1, rfl, rfl, rfl, h1, r1⟩ := trodAll_cons r0
  obtain ⟨rfl, rfl, rfl⟩ := trodAll_nil r1
  obtain rfl : args = #[v0, v1] := by cases args; simp_all
  obtain ⟨rfl, rfl⟩ := trodVars_none hV
  have k0 := h0
  have lt0 : ∀ x ∈ p0, x.block < W.heap.size := by obtain ⟨m, hm⟩ := k0; exact DataW.trod_lt m _ _ _ hm
  have k1 := h1
  have lt1 : ∀ x ∈ p1, x.block < W.heap.size := by obtain ⟨m, hm⟩ := k1; exact DataW.trod_lt m _ _ _ hm
  obtain ⟨a0, n0, c0, rfl⟩ := okWide_slice Try.underlying22 (hval 0 22 v0 rfl rfl)
  obtain ⟨xs0, S0, D0⟩ := opens_bytes Try.underlying22 Try.underlying5 (by kernel_rfl) h0
  have L0 := S0.len; have Q0 := S0.le
  have B0 := bulk_slice D0
  obtain ⟨u1, v1', y1, z1, m1, rfl, rfl, rfl, hy1, hz1⟩ := Go.Joins.open_agg2 Try.underlying29 (by kernel_rfl) (show Try.prog.cellsOf 29 = 2 by kernel_rfl) (hval 1 29 v1 rfl rfl) h1
  obtain ⟨ak1, nk1, ck1, ks1, rfl, K1, DK1⟩ := trod_bytes Try.underlying22 Try.underlying5 (by kernel_rfl) hy1
  obtain ⟨av1, nv1, cv1, vs1', rfl, V1, DV1⟩ := trod_bytes Try.underlying22 Try.underlying5 (by kernel_rfl) hz1
  have LK1 := K1.le; have LV1 := V1.le
  have BK1 := bulk_slice DK1; have BV1 := bulk_slice DV1
  have hbd := bulk_bound hk
  simp only [List.append_nil, Rows.uptoBulkAll, Rows.uptoBulk] at hbd
  clear hA0
  refine (pairWrites_walk a0 n0 c0 xs0 ak1 nk1 ck1 ks1 av1 nv1 cv1 vs1' W (by omega) (by omega) S0 K1 V1).mono fun e W' ⟨he, bel⟩ => ?_
  subst he
  exact ⟨_, rfl, _, _, _, [], _, [], hW', trodAll_mk1 (shut_bool Try.underlying4 _), (trodAll_cons_mk (Below.trod prog_laidOut (by kernel_rfl) (of_decide_eq_true (by kernel_rfl)) k0 bel lt0) (trodAll_cons_mk (Below.trod prog_laidOut (by kernel_rfl) (of_decide_eq_true (by kernel_rfl)) k1 bel lt1) trodAll_mk0)), rfl, bel.frame _, fun h => by cases h⟩

set_option maxRecDepth 100000 in
theorem lifted (os : Os) (started : os.Started) (H : Type) (enc : TypeId × Value → H) (F : Stop.Interp) :
    ReturnsInHanded {} Try.checked os 7 .any ((Rows.OpenSpec.upto Rows.pairWritesSpec).pre6 enc Try.prog Try.f7 Rows.pairWritesUptoRow.domain false) (((Rows.OpenSpec.upto Rows.pairWritesSpec).at F).post enc Try.prog Try.f7 false true false false) := by
  refine returnsInHanded_of_cond (C := Try.checked) (s := Rows.OpenSpec.upto Rows.pairWritesSpec) (k := Rows.uptoSmall) rfl prog_own started (by kernel_rfl) Try.func7
    (OpenSpec.witness (enc := enc) (C := Try.checked) (s := Rows.OpenSpec.upto Rows.pairWritesSpec) (k := Rows.uptoSmall) rfl false ⟨#[], #[.slice none 0 0, .agg #[.slice none 0 0, .slice none 0 0]], []⟩ 8 (by kernel_rfl) (by kernel_rfl) (by kernel_rfl)
      (x := ([.nil, .agg [.nil, .nil]], [], [])) (by kernel_rfl) rfl (by kernel_rfl)) ?_
  intro W base args ds gs before hval hW _ hk _
  exact contract H enc W base args ds gs before hval hW hk

theorem proved : Rows.PairWritesUptoSaid :=
  OpenClaim.holds_of_cond 7 Try.f7 rfl rfl rfl rfl rfl rfl rfl ⟨rfl, rfl, rfl, rfl, rfl⟩ rfl rfl rfl rfl rfl (by kernel_rfl) Try.func7 (by kernel_rfl)
    (of_decide_eq_true (by kernel_rfl)) (by unfold Func.isWrapper; first | (rw [if_pos (by decide +kernel)]; kernel_rfl) | (rw [if_neg (by decide +kernel)]; exact ⟨rfl, rfl⟩))
    (fun os started H enc _ F => lifted os started H enc F)
end Go.Proofs.Ytajmojldckpchaa.pairWritesDone
