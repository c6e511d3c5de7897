/- What a call tells: contracts of told, the law's and the document's. Conditions: numbers within reach. -/
import Derived.Test.YtjkgncogpefnbaaPipeOddM
namespace Go.Proofs.Ytjkgncogpefnbaa
open Go.RowKit
set_option linter.unusedVariables false
set_option linter.unusedSimpArgs false

set_option maxRecDepth 100000 in
set_option maxHeartbeats 2000000 in
theorem otold_any (g bd : Nat) (cs : Array Value) (ty : TypeId) (vn ve : Value) (n e : List Int) (calls : Nat) (all behind : Int) (w : World) (hblk : w.heap[g]? = some (.cells cs ty (0, 0))) (h0 : cs[0]? = some vn) (h1 : cs[1]? = some ve) (h2 : cs[2]? = some (.int .i64 (calls : Nat)))
    (hn : Nums w bd vn n) (he : Nums w bd ve e) (hg : bd ≤ g) (hc : calls ≤ 4611686018427387904) :
    Calls Try.prog 58 #[.pointer (some ⟨g, 0, none⟩), .int .i64 all, .int .i64 behind] w fun r w' => r = .returned (.tuple #[.int .i64 (numO n calls all), .int .i64 (erO n e calls behind)]) ∧ Drw (w.setCell ⟨g, 2, none⟩ (.int .i64 ((calls : Int) + 1))) w' := by
  have TS := Turns.set (S := fun j => j = g) w (b := g) (i := 2) rfl (.int .i64 ((calls : Int) + 1))
  obtain ⟨an, cn, rfl, hsn, -⟩ := hn.turns TS fun j e => by omega
  obtain ⟨ae, ce, rfl, hse, -⟩ := he.turns TS fun j e => by omega
  have c2 : w.cell? ⟨g, 2, none⟩ = some (.int .i64 (calls : Nat)) := cell_of hblk 2 h2
  have f2 : w.frozen? ⟨g, 2, none⟩ = false := free_block hblk 2
  have sz : 2 < cs.size := by obtain ⟨h, _⟩ := Array.getElem?_eq_some_iff.1 h2; exact h
  have hb := set_block (i := 2) hblk (.int .i64 ((calls : Int) + 1))
  have b0 : (w.setCell ⟨g, 2, none⟩ (.int .i64 ((calls : Int) + 1))).cell? ⟨g, 0, none⟩ = some (.slice an n.length cn) := cell_of hb 0 (by simp [Array.getElem?_setIfInBounds, h0])
  have b1 : (w.setCell ⟨g, 2, none⟩ (.int .i64 ((calls : Int) + 1))).cell? ⟨g, 1, none⟩ = some (.slice ae e.length ce) := cell_of hb 1 (by simp [Array.getElem?_setIfInBounds, h1])
  have b2 : (w.setCell ⟨g, 2, none⟩ (.int .i64 ((calls : Int) + 1))).cell? ⟨g, 2, none⟩ = some (.int .i64 ((calls : Int) + 1)) := cell_of hb 2 (by simp [Array.getElem?_setIfInBounds, sz])
  have HN := Lib.hid hsn
  have HE := Lib.hid hse
  have r1 : IntKind.i64.wrap ((calls : Int) + 1) = (calls : Int) + 1 := IntWalk.i64_in _ (by omega)
  have r2 : IntKind.i64.wrap ((calls : Int) + 1 - 1) = (calls : Int) := by rw [show (calls : Int) + 1 - 1 = (calls : Int) by omega]; exact IntWalk.i64_in _ (by omega)
  clear hblk h0 h1 h2 hn he hsn hse sz hb TS
  go_enter Try.func58, Try.ntmps58
  go_wp2_with fail
  obtain ⟨W, hW⟩ : ∃ W, w.setCell ⟨g, 2, none⟩ (.int .i64 ((calls : Int) + 1)) = W := ⟨_, rfl⟩
  have HW := Lib.hid hW
  rw [hW] at b0 b1 b2 HN HE ⊢
  clear hW c2 f2
  by_cases hL : calls < n.length
  · have t3 : decide ((calls : Int) + 1 ≤ (n.length : Nat)) = true := decide_eq_true (by omega)
    have t3' : decide (calls + 1 ≤ n.length) = true := decide_eq_true (by omega)
    have t4 : decide (calls < n.length) = true := decide_eq_true hL
    obtain ⟨m, bm, om, hm, rfl, hcm⟩ := HN.out.num (i := calls) (by omega)
    have NM := Lib.hid (numO_in (a := all) hm)
    by_cases hE : calls < e.length
    · obtain ⟨z, bz, oz, hz, rfl, hcz⟩ := HE.out.num (i := calls) (by omega)
      have EM := Lib.hid (erO_in (a := behind) hL hz)
      have t5 : decide ((calls : Int) + 1 ≤ (e.length : Nat)) = true := decide_eq_true (by omega)
      have t5' : decide (calls + 1 ≤ e.length) = true := decide_eq_true (by omega)
      have t6 : decide (calls < e.length) = true := decide_eq_true hE
      clear hm hz
      go_quiet (fail)
      go_wp2_with fail
      go_quiet (fail)
      go_wp2_with fail
      go_quiet (fail)
      go_wp2_with fail
      go_quiet (fail)
      go_wp2_with fail
      go_ret2
      exact ⟨by rw [NM.out, EM.out]; rfl, by rw [HW.out]; exact ((((Drw.refl _).more _).more _).more _).more _⟩
    · have EM := Lib.hid (erO_ok (a := behind) hL (show e.length ≤ calls by omega))
      have t5 : decide ((calls : Int) + 1 ≤ (e.length : Nat)) = false := decide_eq_false (by omega)
      have t5' : decide (calls + 1 ≤ e.length) = false := decide_eq_false (by omega)
      have t6 : decide (calls < e.length) = false := decide_eq_false hE
      clear hm
      go_quiet (fail)
      go_wp2_with fail
      go_quiet (fail)
      go_wp2_with fail
      go_quiet (fail)
      go_wp2_with fail
      go_ret2
      exact ⟨by rw [NM.out, EM.out]; rfl, by rw [HW.out]; exact (((Drw.refl _).more _).more _).more _⟩
  · have t3 : decide ((calls : Int) + 1 ≤ (n.length : Nat)) = false := decide_eq_false (by omega)
    have t3' : decide (calls + 1 ≤ n.length) = false := decide_eq_false (by omega)
    have t4 : decide (calls < n.length) = false := decide_eq_false hL
    have NM := Lib.hid (numO_out (a := all) (show n.length ≤ calls by omega))
    have EM := Lib.hid (erO_out (e := e) (a := behind) (show n.length ≤ calls by omega))
    go_quiet (fail)
    go_wp2_with fail
    go_ret2
    exact ⟨by rw [NM.out, EM.out]; rfl, by rw [HW.out]; exact (Drw.refl _).more _⟩
set_option maxRecDepth 100000 in
set_option maxHeartbeats 2000000 in
theorem rtold_any (bd : Nat) (vn ve : Value) (n e : List Int) (calls : Nat) (all behind : Int) (w : World) (hn : Nums w bd vn n) (he : Nums w bd ve e) (hc : calls ≤ 4611686018427387904) :
    Calls Try.prog 36 #[vn, ve, .int .i64 ((calls : Int) + 1), .int .i64 all, .int .i64 behind] w fun r w' => r = .returned (.tuple #[.int .i64 (numO n calls all), .int .i64 (erO n e calls behind)]) ∧ Drw w w' := by
  obtain ⟨an, cn, rfl, hsn, -⟩ := hn
  obtain ⟨ae, ce, rfl, hse, -⟩ := he
  have HN := Lib.hid hsn
  have HE := Lib.hid hse
  have r2 : IntKind.i64.wrap ((calls : Int) + 1 - 1) = (calls : Int) := by rw [show (calls : Int) + 1 - 1 = (calls : Int) by omega]; exact IntWalk.i64_in _ (by omega)
  clear hsn hse
  by_cases hL : calls < n.length
  · have t3 : decide ((calls : Int) + 1 > (n.length : Nat)) = false := decide_eq_false (by omega)
    have t3' : decide (n.length < calls + 1) = false := decide_eq_false (by omega)
    have t3'' : decide ((n.length : Int) < (calls : Int) + 1) = false := decide_eq_false (by omega)
    obtain ⟨m, bm, om, hm, rfl, hcm⟩ := HN.out.num (i := calls) (by omega)
    have NM := Lib.hid (numO_in (a := all) hm)
    by_cases hE : calls < e.length
    · obtain ⟨z, bz, oz, hz, rfl, hcz⟩ := HE.out.num (i := calls) (by omega)
      have EM := Lib.hid (erO_in (a := behind) hL hz)
      have t5 : decide ((calls : Int) + 1 > (e.length : Nat)) = false := decide_eq_false (by omega)
      have t5' : decide (e.length < calls + 1) = false := decide_eq_false (by omega)
      have t5'' : decide ((e.length : Int) < (calls : Int) + 1) = false := decide_eq_false (by omega)
      clear hm hz
      go_enter Try.func36, Try.ntmps36
      go_wp2_with fail
      go_quiet (fail)
      go_wp2_with fail
      go_ret2
      exact ⟨by rw [NM.out, EM.out]; rfl, (Drw.refl _).more _⟩
    · have EM := Lib.hid (erO_ok (a := behind) hL (show e.length ≤ calls by omega))
      have t5 : decide ((calls : Int) + 1 > (e.length : Nat)) = true := decide_eq_true (by omega)
      have t5' : decide (e.length < calls + 1) = true := decide_eq_true (by omega)
      have t5'' : decide ((e.length : Int) < (calls : Int) + 1) = true := decide_eq_true (by omega)
      clear hm
      go_enter Try.func36, Try.ntmps36
      go_wp2_with fail
      go_ret2
      exact ⟨by rw [NM.out, EM.out]; rfl, Drw.refl _⟩
  · have t3 : decide ((calls : Int) + 1 > (n.length : Nat)) = true := decide_eq_true (by omega)
    have t3' : decide (n.length < calls + 1) = true := decide_eq_true (by omega)
    have t3'' : decide ((n.length : Int) < (calls : Int) + 1) = true := decide_eq_true (by omega)
    have NM := Lib.hid (numO_out (a := all) (show n.length ≤ calls by omega))
    have EM := Lib.hid (erO_out (e := e) (a := behind) (show n.length ≤ calls by omega))
    go_enter Try.func36, Try.ntmps36
    go_wp2_with fail
    go_ret2
    exact ⟨by rw [NM.out, EM.out]; rfl, Drw.refl _⟩
end Go.Proofs.Ytjkgncogpefnbaa
