/- How a call of a source or a sink begins: contract of next. Conditions: numbers within reach. -/
import Derived.Test.YtpenbaafhbbmhaaPipeM
import Derived.Test.YtpenbaafhbbmhaaTurnsS
import Derived.BigRegion
namespace Go.Proofs.Ytpenbaafhbbmhaa
open Go.RowKit
set_option maxRecDepth 100000
set_option linter.unusedVariables false
set_option linter.unusedSimpArgs false

/-- a list of numbers, each an int -/
def Ints (l : List Int) : Prop := ∀ x, x ∈ l → -9223372036854775808 ≤ x ∧ x ≤ 9223372036854775807
abbrev fZ (x : Int) : Value := .int .i64 x
theorem Sl.num {w : World} {am : Option Addr} {nm cm : Nat} {l : List Int} (h : Sl fZ w am nm cm l) {i : Nat} (hi : i < nm) : ∃ x b o, l[i]? = some x ∧ am = some ⟨b, o, none⟩ ∧ w.cell? ⟨b, o + i, none⟩ = some (.int .i64 x) := h.at i hi
theorem ret2_int {k : IntKind} {a b : Int} {v : Value} (h : a = b) : Ending.returned (.tuple #[.int k a, v]) = .returned (.tuple #[.int k b, v]) := by rw [h]
def badB (fail : Int) (calls : Nat) : Bool := decide (0 < fail ∧ fail ≤ (calls : Int) + 1)
/-- how many bytes a call may move -/
def nextK (l : List Int) (fail : Int) (calls n : Nat) : Nat := if badB fail calls then 0 else mostN l (calls + 1) n
theorem nextK_bad {l : List Int} {fail : Int} {calls n : Nat} (h : badB fail calls = true) : nextK l fail calls n = 0 := by unfold nextK; rw [h]; rfl
theorem nextK_ok {l : List Int} {fail : Int} {calls n : Nat} (h : badB fail calls = false) : nextK l fail calls n = mostN l (calls + 1) n := by unfold nextK; rw [h]; rfl
theorem nextK_le {l : List Int} {fail : Int} {calls n : Nat} : nextK l fail calls n ≤ n := by unfold nextK; split <;> first | exact Nat.zero_le _ | exact mostN_le _ _ _
set_option maxRecDepth 100000 in
set_option maxHeartbeats 2000000 in
theorem next_any (g : Nat) (cs : Array Value) (ty : TypeId) (am : Option Addr) (nm cm : Nat) (l : List Int) (fail : Int) (calls n : Nat) (w : World) (hblk : w.heap[g]? = some (.cells cs ty (0, 0))) (h0 : cs[0]? = some (.slice am nm cm)) (h1 : cs[1]? = some (.int .i64 fail)) (h2 : cs[2]? = some (.int .i64 (calls : Nat)))
    (hl : Sl fZ w am nm cm l) (hne : ∀ b o, am = some ⟨b, o, none⟩ → 0 < nm → b ≠ g) (hI : Ints l) (hc : calls ≤ 4611686018427387904) (hn : n ≤ 4611686018427387904) :
    Calls Try.prog 76 #[.pointer (some ⟨g, 0, none⟩), .int .i64 (n : Nat)] w fun e w' => e = .returned (.tuple #[.int .i64 (nextK l fail calls n : Nat), .bool (!badB fail calls)]) ∧ Drw (w.setCell ⟨g, 2, none⟩ (.int .i64 ((calls : Int) + 1))) w' := by
  obtain rfl : l.length = nm := hl.len
  have c2 : w.cell? ⟨g, 2, none⟩ = some (.int .i64 (calls : Nat)) := cell_of hblk 2 h2
  have f2 : w.frozen? ⟨g, 2, none⟩ = false := free_block hblk 2
  have sz : 2 < cs.size := by obtain ⟨h, _⟩ := Array.getElem?_eq_some_iff.1 h2; exact h
  have hb := set_block (i := 2) hblk (.int .i64 ((calls : Int) + 1))
  have b0 : (w.setCell ⟨g, 2, none⟩ (.int .i64 ((calls : Int) + 1))).cell? ⟨g, 0, none⟩ = some (.slice am l.length cm) := cell_of hb 0 (by simp [Array.getElem?_setIfInBounds, h0])
  have b1 : (w.setCell ⟨g, 2, none⟩ (.int .i64 ((calls : Int) + 1))).cell? ⟨g, 1, none⟩ = some (.int .i64 fail) := cell_of hb 1 (by simp [Array.getElem?_setIfInBounds, h1])
  have b2 : (w.setCell ⟨g, 2, none⟩ (.int .i64 ((calls : Int) + 1))).cell? ⟨g, 2, none⟩ = some (.int .i64 ((calls : Int) + 1)) := cell_of hb 2 (by simp [Array.getElem?_setIfInBounds, sz])
  have hl2 := Lib.hid (hl.of_block (w' := w.setCell ⟨g, 2, none⟩ (.int .i64 ((calls : Int) + 1))) fun b o e hn0 => Below.heap_setCell _ _ _ _ (hne b o e hn0))
  have r1 : IntKind.i64.wrap ((calls : Int) + 1) = (calls : Int) + 1 := IntWalk.i64_in _ (by omega)
  have HI := Lib.hid hI
  clear hblk h0 h1 h2 hl hne sz hb hI
  go_enter Try.func76, Try.ntmps76
  go_wp2_with fail
  obtain ⟨W, hW⟩ : ∃ W, w.setCell ⟨g, 2, none⟩ (.int .i64 ((calls : Int) + 1)) = W := ⟨_, rfl⟩
  have HW := Lib.hid hW
  rw [hW] at b0 b1 b2 hl2 ⊢
  clear hW c2 f2
  by_cases hf : 0 < fail
  · by_cases hk : fail ≤ (calls : Int) + 1
    · have HB := Lib.hid (show badB fail calls = true from decide_eq_true ⟨hf, hk⟩)
      have t1 : decide (fail > 0) = true := decide_eq_true hf
      have t1' : decide (0 < fail) = true := decide_eq_true hf
      have t2 : decide ((calls : Int) + 1 ≥ fail) = true := decide_eq_true hk
      have t2' : decide (fail ≤ (calls : Int) + 1) = true := decide_eq_true hk
      clear hf hk
      go_quiet (fail)
      go_wp2_with fail
      go_ret2
      refine ⟨?_, by rw [HW.out]; first | exact (Drw.refl _).more _ | exact ((Drw.refl _).more _).more _⟩
      rw [nextK_bad HB.out, HB.out]; rfl
    · have HB := Lib.hid (show badB fail calls = false from decide_eq_false fun h => hk h.2)
      have t1 : decide (fail > 0) = true := decide_eq_true hf
      have t1' : decide (0 < fail) = true := decide_eq_true hf
      have t2 : decide ((calls : Int) + 1 ≥ fail) = false := decide_eq_false hk
      have t2' : decide (fail ≤ (calls : Int) + 1) = false := decide_eq_false hk
      clear hf hk
      go_quiet (fail)
      go_wp2_with fail
      by_cases hL : calls < l.length
      · obtain ⟨m, bm, om, hm, rfl, hcm⟩ := hl2.out.num (i := calls) (by omega)
        have hmb := HI.out m (List.mem_of_getElem? hm)
        have HM := Lib.hid (mostN_some (n := n) (show l[calls + 1 - 1]? = some m by simpa using hm))
        have t3 : decide ((calls : Int) + 1 ≤ (l.length : Nat)) = true := decide_eq_true (by omega)
        have t3' : decide (calls + 1 ≤ l.length) = true := decide_eq_true (by omega)
        have t4 : decide (calls < l.length) = true := decide_eq_true hL
        have r2 : IntKind.i64.wrap ((calls : Int) + 1 - 1) = (calls : Int) := by rw [show (calls : Int) + 1 - 1 = (calls : Int) by omega]; exact IntWalk.i64_in _ (by omega)
        clear hm
        go_quiet (fail)
        go_wp2_with fail
        go_region
        all_goals go_wp2_with fail
        all_goals
          go_ret2
          refine ⟨?_, by rw [HW.out]; first | exact (Drw.refl _).more _ | exact ((Drw.refl _).more _).more _⟩
          have hmm := HM.out
          refine Eq.trans (ret2_int (b := (mostN l (calls + 1) n : Nat)) (v := .bool true) ?_) ?_ <;> first | omega | (rw [nextK_ok HB.out, HB.out]; rfl)
      · have HM := Lib.hid (mostN_none (l := l) (k := calls + 1) (n := n) (by omega))
        have t3 : decide ((calls : Int) + 1 ≤ (l.length : Nat)) = false := decide_eq_false (by omega)
        have t3' : decide (calls + 1 ≤ l.length) = false := decide_eq_false (by omega)
        have t4 : decide (calls < l.length) = false := decide_eq_false hL
        go_quiet (fail)
        go_wp2_with fail
        go_ret2
        refine ⟨?_, by rw [HW.out]; first | exact (Drw.refl _).more _ | exact ((Drw.refl _).more _).more _⟩
        have hmm := HM.out
        refine Eq.trans (ret2_int (b := (mostN l (calls + 1) n : Nat)) (v := .bool true) ?_) ?_ <;> first | omega | (rw [nextK_ok HB.out, HB.out]; rfl)
  · have HB := Lib.hid (show badB fail calls = false from decide_eq_false fun h => hf h.1)
    have t1 : decide (fail > 0) = false := decide_eq_false hf
    have t1' : decide (0 < fail) = false := decide_eq_false hf
    clear hf
    go_quiet (fail)
    go_wp2_with fail
    by_cases hL : calls < l.length
    · obtain ⟨m, bm, om, hm, rfl, hcm⟩ := hl2.out.num (i := calls) (by omega)
      have hmb := HI.out m (List.mem_of_getElem? hm)
      have HM := Lib.hid (mostN_some (n := n) (show l[calls + 1 - 1]? = some m by simpa using hm))
      have t3 : decide ((calls : Int) + 1 ≤ (l.length : Nat)) = true := decide_eq_true (by omega)
      have t3' : decide (calls + 1 ≤ l.length) = true := decide_eq_true (by omega)
      have t4 : decide (calls < l.length) = true := decide_eq_true hL
      have r2 : IntKind.i64.wrap ((calls : Int) + 1 - 1) = (calls : Int) := by rw [show (calls : Int) + 1 - 1 = (calls : Int) by omega]; exact IntWalk.i64_in _ (by omega)
      clear hm
      go_quiet (fail)
      go_wp2_with fail
      go_region
      all_goals go_wp2_with fail
      all_goals
        go_ret2
        refine ⟨?_, by rw [HW.out]; first | exact (Drw.refl _).more _ | exact ((Drw.refl _).more _).more _⟩
        have hmm := HM.out
        refine Eq.trans (ret2_int (b := (mostN l (calls + 1) n : Nat)) (v := .bool true) ?_) ?_ <;> first | omega | (rw [nextK_ok HB.out, HB.out]; rfl)
    · have HM := Lib.hid (mostN_none (l := l) (k := calls + 1) (n := n) (by omega))
      have t3 : decide ((calls : Int) + 1 ≤ (l.length : Nat)) = false := decide_eq_false (by omega)
      have t3' : decide (calls + 1 ≤ l.length) = false := decide_eq_false (by omega)
      have t4 : decide (calls < l.length) = false := decide_eq_false hL
      go_quiet (fail)
      go_wp2_with fail
      go_ret2
      refine ⟨?_, by rw [HW.out]; first | exact (Drw.refl _).more _ | exact ((Drw.refl _).more _).more _⟩
      have hmm := HM.out
      refine Eq.trans (ret2_int (b := (mostN l (calls + 1) n : Nat)) (v := .bool true) ?_) ?_ <;> first | omega | (rw [nextK_ok HB.out, HB.out]; rfl)
end Go.Proofs.Ytpenbaafhbbmhaa
