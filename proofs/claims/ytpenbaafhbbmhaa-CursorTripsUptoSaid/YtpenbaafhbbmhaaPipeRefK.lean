/- The document's sink, not odd: contract of Write. Conditions: numbers and what is taken within reach. -/
import Derived.Test.YtpenbaafhbbmhaaPipeRef
namespace Go.Proofs.Ytpenbaafhbbmhaa
open Go.RowKit
set_option maxRecDepth 100000
set_option linter.unusedVariables false
set_option linter.unusedSimpArgs false

/-- the reference's sink, not odd -/
def kcells (am : Option Addr) (nm cm : Nat) (fail : Int) (k : Nat) (vt : Value) : Array Value :=
  #[.slice am nm cm, .int .i64 fail, .int .i64 (k : Nat), vt, .bool false, .slice none 0 0, .slice none 0 0, .slice none 0 0]
/-- the document's sink in block g, its own blocks in S, what it was handed below lo -/
structure RkP (g lo : Nat) (s : Snk) (S : Nat → Prop) (w : World) : Prop where
  blk : ∃ am nm cm vt, w.heap[g]? = some (.cells (kcells am nm cm s.fail s.calls vt) 66 (0, 0)) ∧ Sl fZ w am nm cm s.most ∧ (∀ b o, am = some ⟨b, o, none⟩ → 0 < nm → b < lo) ∧ OwT fB w lo 5 vt s.took ∧ ∀ j, vt.ownBlock = some j → S j ∧ j ≠ g
  own : S g
  inS : ∀ j, S j → lo ≤ j ∧ j < w.heap.size
  ints : Ints s.most
theorem RkP.turns {g lo : Nat} {s : Snk} {S T : Nat → Prop} {w w' : World} (h : RkP g lo s S w) (ht : Turns T w w') (hd : ∀ j, S j → ¬ T j) (hT : ∀ j, T j → lo ≤ j) : RkP g lo s S w' := by
  obtain ⟨am, nm, cm, vt, hb, h1, h2, h3, h4⟩ := h.blk
  exact ⟨⟨am, nm, cm, vt, ht.heap hb (hd g h.own), h1.turns ht fun b o e hn e2 => by have := h2 b o e hn; have := hT b e2; omega, h2, h3.turns ht fun j hj => hd j (h4 j hj).1, h4⟩, h.own, fun j hj => ⟨(h.inS j hj).1, Nat.lt_of_lt_of_le (h.inS j hj).2 ht.size⟩, h.ints⟩
theorem RkP.keep {g lo : Nat} {s : Snk} {S : Nat → Prop} {w w' : World} (h : RkP g lo s S w) (hb : Below w.heap.size w w') : RkP g lo s S w' := h.turns (T := fun _ => False) (.of_below hb) (fun _ _ e => e) (fun _ e => e.elim)
set_option maxRecDepth 100000 in
set_option maxHeartbeats 4000000 in
theorem rwrite_any (g lo : Nat) (s : Snk) (S : Nat → Prop) (ap : Option Addr) (n c : Nat) (xs : List UInt8) (w : World) (h : RkP g lo s S w) (hlo : lo ≤ w.heap.size) (hc : s.calls ≤ 2305843009213693952) (hz : s.took.length + n ≤ 140737488355328) (hp : Sl Bf w ap n c xs) (hg : ∀ b o, ap = some ⟨b, o, none⟩ → 0 < n → ¬ S b) :
    Calls Try.prog 53 #[.pointer (some ⟨g, 0, none⟩), .slice ap n c] w fun r w' => r = .returned (.tuple #[.int .i64 (s.takes xs.length : Nat), .int .i64 (s.err : Nat)]) ∧ ∃ S', RkP g lo (s.next xs) S' w' ∧ (∀ j, S' j → S j ∨ w.heap.size ≤ j) ∧ Turns S w w' := by
  obtain ⟨am, nm, cm, vt, hb, hm, hmS, ht, htS⟩ := h.blk
  obtain ⟨at', nt, ct, rfl, zt⟩ := ht.slN
  obtain rfl : xs.length = n := hp.len
  have hnt : s.took.length = nt := zt.len
  have c2 : w.cell? ⟨g, 2, none⟩ = some (.int .i64 (s.calls : Nat)) := cell_of hb 2 rfl
  have f2 : w.frozen? ⟨g, 2, none⟩ = false := free_block hb 2
  have hset : (w.setCell ⟨g, 2, none⟩ (.int .i64 ((s.calls : Int) + 1))).heap[g]? = some (.cells (kcells am nm cm s.fail (s.calls + 1) (.slice at' nt ct)) 66 (0, 0)) := set_block (i := 2) hb (.int .i64 ((s.calls : Int) + 1))
  have hgS : g < w.heap.size ∧ lo ≤ g := ⟨(h.inS g h.own).2, (h.inS g h.own).1⟩
  have T1 := Lib.hid (Turns.set (S := fun j => j = g) w (b := g) (i := 2) rfl (.int .i64 ((s.calls : Int) + 1)))
  have SET := Lib.hid hset
  have d1 : (w.setCell ⟨g, 2, none⟩ (.int .i64 ((s.calls : Int) + 1))).cell? ⟨g, 1, none⟩ = some (.int .i64 s.fail) := cell_of hset 1 rfl
  have d2 : (w.setCell ⟨g, 2, none⟩ (.int .i64 ((s.calls : Int) + 1))).cell? ⟨g, 2, none⟩ = some (.int .i64 ((s.calls : Int) + 1)) := cell_of hset 2 rfl
  have d4 : (w.setCell ⟨g, 2, none⟩ (.int .i64 ((s.calls : Int) + 1))).cell? ⟨g, 4, none⟩ = some (.bool false) := cell_of hset 4 rfl
  have r1 : IntKind.i64.wrap ((s.calls : Int) + 1) = (s.calls : Int) + 1 := IntWalk.i64_in _ (by omega)
  have HPW := Lib.hid (hp.turns T1.out fun b o e hn0 e2 => hg b o e hn0 (e2 ▸ h.own))
  have HMW := Lib.hid (hm.turns T1.out fun b o e hn0 e2 => by have := hmS b o e hn0; omega)
  have HTW := Lib.hid (ht.turns T1.out fun j hj e => (htS j hj).2 e)
  have HMS := Lib.hid hmS
  have HTS := Lib.hid htS
  have H := Lib.hid h
  have HG := Lib.hid hg
  have HNT := Lib.hid hnt
  have hsz : (w.setCell ⟨g, 2, none⟩ (.int .i64 ((s.calls : Int) + 1))).heap.size = w.heap.size := by simp
  clear hb hm hmS ht htS zt h hp hg hset hnt
  go_enter Try.func53, Try.ntmps53
  go_wp2_with fail
  generalize w.setCell ⟨g, 2, none⟩ (.int .i64 ((s.calls : Int) + 1)) = W at *
  have HSZ := Lib.hid hsz
  clear c2 f2 hsz
  by_cases hbad : badB s.fail s.calls = true
  · obtain ⟨e1, e2, e3⟩ := Snk.bad xs hbad
    have hb2 : 0 < s.fail ∧ s.fail ≤ (s.calls : Int) + 1 := of_decide_eq_true hbad
    have FIN := Lib.hid (show ∀ V, Drw W V → (Ending.returned (.tuple #[.int .i64 0, .int .i64 32]) = .returned (.tuple #[.int .i64 (s.takes xs.length : Nat), .int .i64 (s.err : Nat)]) ∧ ∃ S', RkP g lo (s.next xs) S' V ∧ (∀ j, S' j → S j ∨ w.heap.size ≤ j) ∧ Turns S w V) from fun V hV => by
      have hb3 := hV.below
      have tt := (T1.out.trans_below hb3).mono (T := S) fun j _ e => e ▸ H.out.own
      refine ⟨by rw [e1, e2]; rfl, S, ⟨⟨am, nm, cm, _, blk_keep SET.out hb3, HMW.out.keep hb3, HMS.out, by rw [e3]; exact HTW.out.keep hb3, HTS.out⟩, H.out.own, fun j hj => ⟨(H.out.inS j hj).1, Nat.lt_of_lt_of_le (H.out.inS j hj).2 tt.size⟩, H.out.ints⟩, fun j hj => .inl hj, tt⟩)
    have t1 : decide (s.fail ≥ 1) = true := decide_eq_true (by omega)
    have t1' : decide (1 ≤ s.fail) = true := decide_eq_true (by omega)
    have t1'' : decide (0 < s.fail) = true := decide_eq_true (by omega)
    have t2 : decide ((s.calls : Int) + 1 ≥ s.fail) = true := decide_eq_true hb2.2
    have t2' : decide (s.fail ≤ (s.calls : Int) + 1) = true := decide_eq_true hb2.2
    clear hbad e1 e2 e3 hb2
    go_wp2_with fail
    go_quiet (fail)
    go_wp2_with fail
    go_ret2
    exact FIN.out _ (by first | exact (Drw.refl _).more _ | exact ((Drw.refl _).more _).more _ | exact Drw.refl _)
  · have hbad : badB s.fail s.calls = false := by simpa using hbad
    obtain ⟨e1, e2, e3⟩ := Snk.good xs hbad
    have hb2 : ¬ (0 < s.fail ∧ s.fail ≤ (s.calls : Int) + 1) := of_decide_eq_false hbad
    have hk := mostN_le s.most (s.calls + 1) xs.length
    obtain ⟨k, hkk⟩ : ∃ k, mostN s.most (s.calls + 1) xs.length = k := ⟨_, rfl⟩
    rw [hkk] at e1 e3 hk
    have E1 := Lib.hid e1
    have E2 := Lib.hid e2
    have E3 := Lib.hid e3
    have HKK := Lib.hid hkk
    have HB2 := Lib.hid hb2
    clear e1 e2 e3 hkk hbad hb2
    go_upto_region 7 with (fail)
    go_cut [81] (fun b wx => b = .bool false ∧ Drw W wx)
    case first =>
      by_cases hf : 0 < s.fail
      · have hk2 : ¬ s.fail ≤ (s.calls : Int) + 1 := fun e => HB2.out ⟨hf, e⟩
        have t1 : decide (s.fail ≥ 1) = true := decide_eq_true (by omega)
        have t1' : decide (1 ≤ s.fail) = true := decide_eq_true (by omega)
        have t1'' : decide (0 < s.fail) = true := decide_eq_true (by omega)
        have t2 : decide ((s.calls : Int) + 1 ≥ s.fail) = false := decide_eq_false hk2
        have t2' : decide (s.fail ≤ (s.calls : Int) + 1) = false := decide_eq_false hk2
        clear hf hk2
        go_quiet (fail)
        go_wp2_with fail
        go_meet
        exact ⟨rfl, by first | exact (Drw.refl _).more _ | exact ((Drw.refl _).more _).more _ | exact Drw.refl _⟩
      · have t1 : decide (s.fail ≥ 1) = false := decide_eq_false (by omega)
        have t1' : decide (1 ≤ s.fail) = false := decide_eq_false (by omega)
        have t1'' : decide (0 < s.fail) = false := decide_eq_false (by omega)
        clear hf
        go_quiet (fail)
        go_wp2_with fail
        go_meet
        exact ⟨rfl, by first | exact (Drw.refl _).more _ | exact ((Drw.refl _).more _).more _ | exact Drw.refl _⟩
    obtain ⟨rfl, hcw⟩ := hcut
    have CW := Lib.hid hcw
    have SETC := Lib.hid (blk_keep SET.out hcw.below)
    have v0 := cell_of SETC.out 0 (v := .slice am nm cm) rfl
    have v2 : wc.cell? ⟨g, 2, none⟩ = some (.int .i64 ((s.calls : Int) + 1)) := cell_of SETC.out 2 rfl
    have CQ := Lib.hid (fun (V : World) (hV : Drw W V) => (show Calls Try.prog 57 #[.slice am nm cm, .int .i64 ((s.calls : Int) + 1), .int .i64 (xs.length : Nat)] V fun e w' => e = .returned (.int .i64 (k : Nat)) ∧ Drw V w' from by
      have := rmost_any am nm cm s.most (s.calls + 1) xs.length V (HMW.out.keep hV.below) H.out.ints (by omega) (by omega) (by omega)
      rw [HKK.out] at this
      exact this))
    clear hcw d1 d2 d4
    go_upto_region 9 with (fail)
    go_cut [8] (fun b wx => b = .int .i64 (k : Nat) ∧ Drw wc wx)
    case first =>
      go_quiet ((go_at_call 57; exact Calls.quiet_of_drw (CQ.out _ (CW.out.trans (by first | exact (Drw.refl _).more _ | exact ((Drw.refl _).more _).more _)))))
      go_wp2_with fail
      go_meet
      exact ⟨rfl, by first | exact (Drw.refl _).more _ | exact ((Drw.refl _).more _).more _ | exact Drw.refl _⟩
    obtain ⟨rfl, hcw⟩ := hcut
    have DV := Lib.hid (CW.out.trans hcw)
    have SETV := Lib.hid (blk_keep SET.out DV.out.below)
    have x3 := cell_of SETV.out 3 (v := .slice at' nt ct) rfl
    have hsv : ∀ V : World, Drw W V → V.heap.size = W.heap.size := fun V hV => by obtain ⟨m, rfl⟩ := hV; rfl
    have HSV := Lib.hid (hsv _ DV.out)
    have HTV := Lib.hid (HTW.out.keep DV.out.below)
    have HPV := Lib.hid (HPW.out.keep DV.out.below)
    have XK := Lib.hid (HPV.out.upto k hk)
    have hcut2 := fun V : World => run_cutto eltB V ap xs.length c .i64 k (by have := HPV.out.le; omega)
    clear hcw v0 v2 CW SETC hsv CQ
    have GB := Lib.hid (fun (w3 V : World) (hg3 : V.grownBy w3 (Value.ownBlock (.slice at' nt ct))) (hV : V.heap = wc.heap) => (show w3.heap[g]? = wc.heap[g]? ∧ w3.cell? ⟨g, 3, none⟩ = some (.slice at' nt ct) ∧ w3.frozen? ⟨g, 3, none⟩ = false from by
      have e : w3.heap[g]? = wc.heap[g]? := by
        rw [hg3.block g (by rw [hV]; exact (Array.getElem?_eq_some_iff.1 SETV.out).1) (fun e => (HTS.out g e.symm).2 rfl), hV]
      exact ⟨e, cell_of (e.trans SETV.out) 3 rfl, free_block (e.trans SETV.out) 3⟩))
    go_wp2_with fail
    go_region_law (refine step_appT eltTB rfl (.tmp 97) (.tmp 100) rfl lo _ s.took (by simp [Act.eval]) HTV.out ap k c (xs.take k) (by simp [Act.eval]) XK.out.toT (by have := HNT.out; unfold maxLen; omega) (by omega) (by have := HSV.out; have := HSZ.out; simp <;> omega) (s.took ++ xs.take k) rfl ?_; intro v3 w3 h3 hg3 hv3 hb3; obtain ⟨a3, n3, c3, rfl, z3⟩ := h3.slN; have H3 := Lib.hid h3; have G3 := Lib.hid hg3; have V3 := Lib.hid hv3; obtain ⟨gb1, gb2, gb3⟩ := GB.out w3 _ hg3 rfl; have GB3 := Lib.hid gb1; clear h3 hg3 hv3 hb3 z3 gb1)
    all_goals
      go_wp2_with fail
      go_ret2
      have hb5 := set_block (i := 3) (GB3.out.trans SETV.out) (.slice a3 n3 c3)
      have hWw : wc.heap.size = w.heap.size := HSV.out.trans HSZ.out
      have hv3 : ∀ j, Value.ownBlock (.slice a3 n3 c3) = some j → Value.ownBlock (.slice at' nt ct) = some j ∨ j = w.heap.size := fun j hj => by
        rcases V3.out with e | e
        · exact .inl (e ▸ hj)
        · rw [e] at hj; injection hj with hj; exact .inr (by rw [← hj]; exact hWw)
      have hng : ∀ j, Value.ownBlock (.slice a3 n3 c3) = some j → j ≠ g := fun j hj e => by
        rcases hv3 j hj with h | h
        · exact (HTS.out j h).2 e
        · omega
      have t0 : Turns S w wc.drew := ((T1.out.trans_below DV.out.below).mono (T := S) fun j _ e => e ▸ H.out.own).trans_below ((Below.refl _ _).drew)
      have t1 : Turns S w w3 := t0.trans (T := S) (.of_grown G3.out fun j e => (HTS.out j e).1) fun _ _ e => e
      have t2 : Turns S w (w3.setCell ⟨g, 3, none⟩ (.slice a3 n3 c3)) := t1.trans (T := S) (Turns.set w3 H.out.own _) fun _ _ e => e
      have hz3 : w.heap.size ≤ w3.heap.size := t1.size
      refine ⟨by rw [E1.out, E2.out]; rfl, fun j => S j ∨ Value.ownBlock (.slice a3 n3 c3) = some j, ⟨⟨am, nm, cm, .slice a3 n3 c3, hb5, ?_, HMS.out, by rw [E3.out]; exact H3.out.of_block fun j hj => Below.heap_setCell _ _ _ _ (hng j hj), fun j hj => ⟨.inr hj, hng j hj⟩⟩, .inl H.out.own, fun j hj => ?_, H.out.ints⟩, fun j hj => ?_, t2⟩
      · exact HMW.out.turns ((show Turns (fun j => lo ≤ j) W (w3.setCell ⟨g, 3, none⟩ (.slice a3 n3 c3)) from (((Turns.of_below DV.out.below).trans_below ((Below.refl _ _).drew)).trans (.of_grown G3.out fun j e => (H.out.inS j (HTS.out j e).1).1) fun _ _ e => e).trans (T := fun j => lo ≤ j) (Turns.set w3 hgS.2 _) fun _ _ e => e)) fun b o e hn e2 => by have := HMS.out b o e hn; omega
      · rcases hj with hj | hj
        · exact ⟨(H.out.inS j hj).1, Nat.lt_of_lt_of_le (H.out.inS j hj).2 t2.size⟩
        · have := H3.out.lt j hj
          exact ⟨this.1, by simpa using this.2⟩
      · rcases hj with hj | hj
        · exact .inl hj
        · rcases hv3 j hj with h | h
          · exact .inl (HTS.out j h).1
          · exact .inr (by omega)
end Go.Proofs.Ytpenbaafhbbmhaa
