/- Are rows the same: contract of the reference's Same. Conditions: the slices within reach. -/
import Derived.Test.YtljcogimeimknaaK8d
import Derived.Test.YtljcogimeimknaaK8b
import Derived.Test.YtljcogimeimknaaK8a
import Derived.BigQuiet
import Derived.Deep.QuietTactic
namespace Go.Proofs.Ytljcogimeimknaa
open Go.RowKit

theorem strB_eqF (xs ys : List UInt8) : ((strB xs).toList == (strB ys).toList) = decide (xs = ys) := by
  rw [strB_list, strB_list]
  by_cases h : xs = ys
  · subst h; simp
  · rw [decide_eq_false h]; simp [h]
set_option maxHeartbeats 2000000 in
set_option maxRecDepth 100000 in
theorem rsame_any (a : Option Addr) (n c : Nat) (a' : Option Addr) (n' c' : Nat) (rs rs' : List Row) (w : World) (hn : n ≤ 9223372036854775807) (hn' : n' ≤ 9223372036854775807)
    (h : Spans w a n c rs) (h' : Spans w a' n' c' rs') :
    Calls Try.prog 25 #[.slice a n c, .slice a' n' c'] w fun e w' => e = .returned (.bool (decide (rs = rs'))) ∧ Below w.heap.size w w' := by
  obtain rfl : n = rs.length := h.1.symm
  obtain rfl : n' = rs'.length := h'.1.symm
  have H := Lib.hid h; clear h
  have H' := Lib.hid h'; clear h'
  by_cases hl : rs.length = rs'.length
  · have f1 : ((rs.length : Int) != (rs'.length : Int)) = false := by rw [hl]; simp
    have f2 : (rs.length != rs'.length) = false := by rw [hl]; simp
    have hl2 : rs'.length ≤ rs.length := by omega
    have HL := Lib.hid hl; clear hl
    go_enter Try.func25, Try.ntmps25
    go_wp2_with fail
    go_loopw [5] (fun i wr => ∃ k : Nat, k ≤ rs.length ∧ i = .int .i64 k ∧ rs.take k = rs'.take k ∧ Below w.heap.size w wr) (fun i _ => rs.length - (intOf i).toNat)
    case atStart => exact ⟨0, Nat.zero_le _, rfl, by simp, Below.refl _ _⟩
    case round =>
      obtain ⟨k, hk, rfl, he, hb⟩ := hrel
      have HE := Lib.hid he; clear he
      have B := Lib.hid hb; clear hb
      by_cases hlt : k < rs.length
      · obtain ⟨⟨kk, x, y, z⟩, hx⟩ : ∃ e, rs[k]? = some e := ⟨_, List.getElem?_eq_getElem hlt⟩
        obtain ⟨⟨kk', x', y', z'⟩, hy⟩ : ∃ e, rs'[k]? = some e := ⟨_, List.getElem?_eq_getElem (by have := HL.out; omega)⟩
        obtain ⟨b, o, ak, nk, ck, rfl, c0, c1, c2, c3, s0⟩ := (H.out.keep B.out).2.2.2 k kk x y z hx
        obtain ⟨b', o', ak', nk', ck', rfl, c0', c1', c2', c3', s0'⟩ := (H'.out.keep B.out).2.2.2 k kk' x' y' z' hy
        have r1 := fun q : Nat => run_str (P := Try.prog) (dst := 9) Try.underlying25 Try.underlying5 (by kernel_rfl) _ _ _ _ _ (s0.drewN q)
        have r2 := fun q : Nat => run_str (P := Try.prog) (dst := 9) Try.underlying25 Try.underlying5 (by kernel_rfl) _ _ _ _ _ (s0'.drewN q)
        have HX := Lib.hid hx; clear hx
        have HY := Lib.hid hy; clear hy
        have hlt' : k < rs'.length := by have := HL.out; omega
        have key : (kk, x, y, z) = (kk', x', y', z') ↔ rs.take (k + 1) = rs'.take (k + 1) := by
          rw [List.take_add_one, List.take_add_one, HX.out, HY.out, HE.out]; simp
        have KEY := Lib.hid key; clear key
        by_cases e1 : kk = kk'
        · have q1 : ((strB kk).toList == (strB kk').toList) = true := by rw [strB_eqF, decide_eq_true e1]
          by_cases e2 : x = x'
          · have q2 : (x != x') = false := by rw [e2]; simp
            by_cases e3 : y = y'
            · have q3 : (y != y') = false := by rw [e3]; simp
              by_cases e4 : z = z'
              · have q4 : (z != z') = false := by rw [e4]; simp
                have EQ := Lib.hid (show (kk, x, y, z) = (kk', x', y', z') by rw [e1, e2, e3, e4])
                clear e1 e2 e3 e4
                go_wp2_with fail
                go_quiet (fail)
                go_wp2_with fail
                go_roundw
                case rel => exact ⟨k + 1, by omega, by go_num, KEY.out.1 EQ.out, keep_drewN B.out _⟩
                case measure => simp [intOf]; omega
              · have q4 : (z != z') = true := by rw [bne_iff_ne]; exact e4
                have NE := Lib.hid (show ¬ (kk, x, y, z) = (kk', x', y', z') from fun e => e4 (by simp at e; exact e.2.2.2))
                clear e1 e2 e3 e4
                go_wp2_with fail
                go_quiet (fail)
                go_wp2_with fail
                go_ret
                exact ⟨ret_bool (by symm; rw [decide_eq_false_iff_not]; intro e; exact NE.out (KEY.out.2 (by rw [e]))), keep_drewN B.out _⟩
            · have q3 : (y != y') = true := by rw [bne_iff_ne]; exact e3
              have NE := Lib.hid (show ¬ (kk, x, y, z) = (kk', x', y', z') from fun e => e3 (by simp at e; exact e.2.2.1))
              clear e1 e2 e3
              go_wp2_with fail
              go_quiet (fail)
              go_wp2_with fail
              go_ret
              exact ⟨ret_bool (by symm; rw [decide_eq_false_iff_not]; intro e; exact NE.out (KEY.out.2 (by rw [e]))), keep_drewN B.out _⟩
          · have q2 : (x != x') = true := by rw [bne_iff_ne]; exact e2
            have NE := Lib.hid (show ¬ (kk, x, y, z) = (kk', x', y', z') from fun e => e2 (by simp at e; exact e.2.1))
            clear e1 e2
            go_wp2_with fail
            go_quiet (fail)
            go_wp2_with fail
            go_ret
            exact ⟨ret_bool (by symm; rw [decide_eq_false_iff_not]; intro e; exact NE.out (KEY.out.2 (by rw [e]))), keep_drewN B.out _⟩
        · have q1 : ((strB kk).toList == (strB kk').toList) = false := by rw [strB_eqF, decide_eq_false e1]
          have NE := Lib.hid (show ¬ (kk, x, y, z) = (kk', x', y', z') from fun e => e1 (by simp at e; exact e.1))
          clear e1
          go_wp2_with fail
          go_quiet (fail)
          go_wp2_with fail
          go_ret
          exact ⟨ret_bool (by symm; rw [decide_eq_false_iff_not]; intro e; exact NE.out (KEY.out.2 (by rw [e]))), keep_drewN B.out _⟩
      · go_wp2_with fail
        go_ret
        refine ⟨ret_bool ?_, B.out⟩
        have e1 := HE.out; have e2 := HL.out
        rw [List.take_of_length_le (by omega), List.take_of_length_le (by omega)] at e1
        symm; rw [decide_eq_true_eq]; exact e1
  · have f1 : ((rs.length : Int) != (rs'.length : Int)) = true := by rw [bne_iff_ne]; omega
    have f2 : (rs.length != rs'.length) = true := by rw [bne_iff_ne]; omega
    go_enter Try.func25, Try.ntmps25
    go_wp2_with fail
    go_ret
    refine ⟨ret_bool ?_, Below.refl _ _⟩
    symm; rw [decide_eq_false_iff_not]
    intro e; exact hl (by rw [e])
end Go.Proofs.Ytljcogimeimknaa
