/- The reference's end of a stream: contract. Conditions: blocks that may be. -/
import Derived.Test.YtljcogimeimknaaStmRBlk
namespace Go.Proofs.Ytljcogimeimknaa
open Go.RowKit
set_option linter.unusedVariables false

set_option maxRecDepth 100000 in
set_option maxHeartbeats 4000000 in
theorem rend_any (a : Option Addr) (n c : Nat) (L : List (List Ent)) (w : World) (hn : L.length ≤ 8388608) (hL : OkL L) (h : Spans w a n c (rowsL L)) :
    Calls Try.prog 53 #[.slice a n c] w fun e w' => ∃ v, e = .returned v ∧ OwT fB w' w.heap.size 5 v (finB L) ∧ Below w.heap.size w w' := by
  obtain rfl : n = L.length := by rw [← rowsL_len]; exact h.1.symm
  have S := Lib.hid (Stab.spans h)
  obtain ⟨q, hq⟩ : ∃ q, endL L = q := ⟨_, rfl⟩
  have hql : q ≤ 1000000000000 := by rw [← hq]; have := outL_le hL; unfold endL; omega
  have hfb := fbs_le (rowsL L)
  have FIT := Lib.hid (rowsL_fit hL hn)
  have HQ := Lib.hid hq
  obtain ⟨nL, hnL⟩ : ∃ nL, L.length = nL := ⟨_, rfl⟩
  have HN := Lib.hid hnL
  have FIN := Lib.hid (show finB L = frm 70 (fbs (rowsL L)) ++ tailB q by rw [← hq]; rfl)
  have flen := frm_le 70 (fbs (rowsL L)) (by omega)
  rw [hnL] at S hn h ⊢
  go_enter Try.func53, Try.ntmps53
  go_upto_region 2 with (fail)
  go_upto_if 9 with (fail)
  go_cut [3] (fun b wx => b = .int .i64 (q : Nat) ∧ Drw w wx)
  case first =>
    cases nL with
    | zero =>
      have h0 : L = [] := List.eq_nil_of_length_eq_zero hnL
      subst h0
      obtain rfl : q = 8 := by rw [← hq]; rfl
      go_wp2_with fail
      go_meet
      exact ⟨rfl, Drw.refl _⟩
    | succ j =>
      obtain ⟨⟨l, x, y, z⟩, hl⟩ : ∃ r, (rowsL L)[j]? = some r := ⟨_, List.getElem?_eq_getElem (by rw [rowsL_len]; omega)⟩
      obtain ⟨b, o, al, nl, cl, rfl, c0, c1, c2, c3, s0⟩ := h.2.2.2 j l x y z hl
      have e1 : IntKind.i64.wrap ((j : Int) + 1 - 1) = (j : Int) := by rw [show (j : Int) + 1 - 1 = (j : Int) by omega]; exact IntWalk.i64_in _ (by omega)
      have e1' : IntKind.i64.wrap (j : Int) = (j : Int) := IntWalk.i64_in _ (by omega)
      have t1 : decide ((((j + 1 : Nat) : Int)) > 0) = true := decide_eq_true (by omega)
      have t2 : decide ((j : Int) + 1 > 0) = true := decide_eq_true (by omega)
      have t3 : decide (0 < j + 1) = true := decide_eq_true (by omega)
      have hp := rowsL_end hnL hl
      rw [hq] at hp
      have e2 : IntKind.i64.wrap (x + y) = (q : Int) := by rw [hp]; exact IntWalk.i64_in _ (by omega)
      have hj : j + 1 ≤ 140737488351232 := by omega
      clear h hl s0 hp hq hnL hn hL c0 c3
      go_wp2_with fail
      go_quiet (fail)
      go_wp2_with fail
      go_meet
      exact ⟨rfl, by first | exact (Drw.refl _).more _ | exact Drw.refl _⟩
  obtain ⟨rfl, hcw⟩ := hcut
  obtain ⟨w2, rfl⟩ : ∃ w2, w2 = wc := ⟨_, rfl⟩
  have B2 := Lib.hid hcw.below
  clear hcw h hq hnL hL
  go_wp2_with fail
  refine (frbytes_any a nL c (rowsL L) w2 (by omega) FIT.out (S.out.keep B2.out).now).mono ?_
  rintro e w3 ⟨x3, rfl, ho3, hb3⟩
  obtain ⟨aB, nB, cB, rfl, zB⟩ := ho3.slN
  have hnB : nB ≤ 873000000 := by rw [← zB.len]; exact hfb
  have ZB := Lib.hid zB
  have B3 := Lib.hid (keep_trans B2.out hb3)
  clear ho3 hb3 zB
  go_wp2_with fail
  refine (rframe_any 70 70 rfl aB nB cB (fbs (rowsL L)) w3 (by omega) ZB.out).mono ?_
  rintro e w4 ⟨x4, rfl, ho4, hb4⟩
  have O4 := Lib.hid ho4
  have B4 := Lib.hid (keep_trans B3.out hb4)
  have H34 := Lib.hid hb4.size
  obtain ⟨a4, n4, c4, rfl, z4⟩ := ho4.slN
  have N4 := Lib.hid z4.len
  have hn4 : n4 ≤ 873000100 := by rw [← z4.len]; omega
  have LW3 := B3.out.size
  clear ho4 hb4 z4
  go_wp2_with fail
  refine (rtail_any q w4 (by omega)).mono ?_
  rintro e w5 ⟨x5, rfl, ho5, hb5⟩
  obtain ⟨a5, n5, c5, rfl, z5⟩ := ho5.slN
  have hn5 : n5 = 12 := by rw [← z5.len, tailB_len]
  subst hn5
  have Z5 := Lib.hid z5
  replace O4 := Lib.hid (O4.out.keep hb5)
  have B5 := Lib.hid (keep_trans B4.out hb5)
  have LW5 : w3.heap.size ≤ w5.heap.size := Nat.le_trans H34.out hb5.size
  clear ho5 hb5 z5
  go_wp2_with (at_builtin; refine wpList_appT eltTB rfl (.tmp 32) (.tmp 34) rfl w3.heap.size _ (frm 70 (fbs (rowsL L))) (by rfl) O4.out a5 12 c5 (tailB q) (by rfl) Z5.out.toT (by rw [N4.out]; unfold maxLen; omega) (by rw [N4.out]; omega) LW5 _ rfl ?_; intro v9 w9 h9 hg9 hv9 hb9; have O9 := Lib.hid h9; have B9 := Lib.hid (B5.out.trans (hb9.mono LW3)); clear h9 hg9 hv9 hb9)
  go_ret
  refine ⟨v9, rfl, ?_, B9.out⟩
  rw [FIN.out]
  exact O9.out.base LW3
end Go.Proofs.Ytljcogimeimknaa
