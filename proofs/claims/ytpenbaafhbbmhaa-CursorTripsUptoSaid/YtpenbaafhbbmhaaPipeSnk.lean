/- Sinks that go as they are told, in memory: contracts of Write, Calls, Bytes. Conditions: numbers and what is taken within reach. -/
import Derived.Test.YtpenbaafhbbmhaaPipeSrc
import Derived.Test.YtpenbaafhbbmhaaCloneZ
namespace Go.Proofs.Ytpenbaafhbbmhaa
open Go.RowKit
set_option maxRecDepth 100000
set_option linter.unusedVariables false

/-- a sink in block g, all its blocks in S -/
structure SnkP (g lo : Nat) (s : Snk) (S : Nat → Prop) (w : World) : Prop where
  blk : ∃ vm vt, w.heap[g]? = some (.cells #[vm, .int .i64 s.fail, .int .i64 (s.calls : Nat), vt] 112 (0, 0)) ∧ Lsv fZ w (fun j => S j ∧ vt.ownBlock ≠ some j) g vm s.most ∧ OwT fB w lo 5 vt s.took ∧ ∀ j, vt.ownBlock = some j → S j ∧ j ≠ g
  own : S g
  inS : ∀ j, S j → lo ≤ j ∧ j < w.heap.size
  ints : Ints s.most
theorem SnkP.turns {g lo : Nat} {s : Snk} {S T : Nat → Prop} {w w' : World} (h : SnkP g lo s S w) (ht : Turns T w w') (hd : ∀ j, S j → ¬ T j) : SnkP g lo s S w' := by
  obtain ⟨vm, vt, hb, h1, h2, h3⟩ := h.blk
  exact ⟨⟨vm, vt, ht.heap hb (hd g h.own), h1.turns ht fun j hj _ => hd j hj.1, h2.turns ht fun j hj => hd j (h3 j hj).1, h3⟩, h.own, fun j hj => ⟨(h.inS j hj).1, Nat.lt_of_lt_of_le (h.inS j hj).2 ht.size⟩, h.ints⟩
theorem SnkP.keep {g lo : Nat} {s : Snk} {S : Nat → Prop} {w w' : World} (h : SnkP g lo s S w) (hb : Below w.heap.size w w') : SnkP g lo s S w' := h.turns (T := fun _ => False) (.of_below hb) fun _ _ e => e
theorem kcalls_any (g lo : Nat) (s : Snk) (S : Nat → Prop) (w : World) (h : SnkP g lo s S w) :
    Calls Try.prog 24 #[.pointer (some ⟨g, 0, none⟩)] w fun e w' => e = .returned (.int .i64 (s.calls : Nat)) ∧ w = w' := by
  obtain ⟨vm, vl, hb, h1, h2⟩ := h.blk
  have c2 := cell_of hb 2 rfl
  clear hb h1 h2 h
  go_enter Try.func24, Try.ntmps24
  go_wp2_with fail
  go_ret
  exact ⟨rfl, rfl⟩
theorem kbytes_any (g lo : Nat) (s : Snk) (S : Nat → Prop) (w : World) (h : SnkP g lo s S w) (hl : s.took.length ≤ 140737488351232) :
    Calls Try.prog 25 #[.pointer (some ⟨g, 0, none⟩)] w fun e w' => ∃ v, e = .returned v ∧ OwT fB w' w.heap.size 5 v s.took ∧ Below w.heap.size w w' := by
  obtain ⟨vm, vt, hb, h1, h2, h3⟩ := h.blk
  obtain ⟨at', nt, ct, rfl, hs⟩ := h2.slN
  have c3 := cell_of hb 3 rfl
  have HS := Lib.hid hs
  have hnt : nt ≤ 140737488351232 := by have := hs.len; omega
  clear hb h1 h2 h h3 hs
  go_enter Try.func25, Try.ntmps25
  go_wp2_with fail
  refine (clone_any at' nt ct s.took w hnt HS.out).mono ?_
  rintro e w1 ⟨v, rfl, ho, hb⟩
  obtain ⟨a5, n5, c5, rfl, -⟩ := ho.slN
  have O := Lib.hid ho
  have B := Lib.hid hb
  clear ho hb
  go_wp2_with fail
  go_ret
  exact ⟨_, rfl, O.out, B.out⟩
/-- behind Write -/
def WrPostS (g lo : Nat) (s : Snk) (S : Nat → Prop) (w : World) (xs : List UInt8) (r : Ending) (w' : World) : Prop :=
  r = .returned (.tuple #[.int .i64 (s.takes xs.length : Nat), .int .i64 (s.err : Nat)]) ∧ ∃ S', SnkP g lo (s.next xs) S' w' ∧ (∀ j, S' j → S j ∨ w.heap.size ≤ j) ∧ Turns S w w'
theorem Snk.bad {s : Snk} (xs : List UInt8) (h : badB s.fail s.calls = true) : s.takes xs.length = 0 ∧ s.err = 32 ∧ (s.next xs).took = s.took := by
  have hb : s.broken = true := h
  have e1 : s.takes xs.length = 0 := by unfold Snk.takes; rw [hb]; rfl
  refine ⟨e1, by unfold Snk.err; rw [hb]; rfl, ?_⟩
  show s.took ++ xs.take (s.takes xs.length) = _
  rw [e1]; simp
theorem Snk.good {s : Snk} (xs : List UInt8) (h : badB s.fail s.calls = false) : s.takes xs.length = mostN s.most (s.calls + 1) xs.length ∧ s.err = 0 ∧ (s.next xs).took = s.took ++ xs.take (mostN s.most (s.calls + 1) xs.length) := by
  have hb : s.broken = false := h
  have e1 : s.takes xs.length = mostN s.most (s.calls + 1) xs.length := by unfold Snk.takes; rw [hb]; rfl
  refine ⟨e1, by unfold Snk.err; rw [hb]; rfl, ?_⟩
  show s.took ++ xs.take (s.takes xs.length) = _
  rw [e1]
set_option maxRecDepth 100000 in
set_option maxHeartbeats 2000000 in
theorem swrite_any (g lo : Nat) (s : Snk) (S : Nat → Prop) (ap : Option Addr) (n c : Nat) (xs : List UInt8) (w : World) (h : SnkP g lo s S w) (hc : s.calls ≤ 4611686018427387904) (hz : s.took.length + n ≤ 140737488355328) (hp : Sl Bf w ap n c xs) (hg : ∀ b o, ap = some ⟨b, o, none⟩ → 0 < n → ¬ S b) :
    Calls Try.prog 78 #[.pointer (some ⟨g, 0, none⟩), .slice ap n c] w (WrPostS g lo s S w xs) := by
  obtain ⟨vm, vt, hb, ⟨am, nm, cm, rfl, hm, hmS⟩, ht, htS⟩ := h.blk
  obtain ⟨at', nt, ct, rfl, zt⟩ := ht.slN
  obtain rfl : xs.length = n := hp.len
  have hnt : s.took.length = nt := zt.len
  have NX := Lib.hid (next_any g _ 112 am nm cm s.most s.fail s.calls xs.length w hb rfl rfl rfl hm (fun b o e hn0 => (hmS b o e hn0).2) h.ints hc (by omega))
  have hset := set_block (i := 2) hb (.int .i64 ((s.calls : Int) + 1))
  have H := Lib.hid h
  have T1 := Lib.hid (Turns.set (S := S) w (b := g) (i := 2) h.own (.int .i64 ((s.calls : Int) + 1)))
  have SET := Lib.hid hset
  have HP := Lib.hid hp
  have HM := Lib.hid (And.intro hm hmS)
  have HT := Lib.hid (show OwT fB (w.setCell ⟨g, 2, none⟩ (.int .i64 ((s.calls : Int) + 1))) lo 5 (.slice at' nt ct) s.took from ht.of_block fun j hj => Below.heap_setCell _ _ _ _ (htS j hj).2)
  have HTS := Lib.hid htS
  have HG := Lib.hid hg
  have HLO := Lib.hid (show lo ≤ w.heap.size from by have := h.inS g h.own; omega)
  clear hb hm hmS ht htS hset h hp hg zt
  by_cases hbad : badB s.fail s.calls = true
  · have HB := Lib.hid hbad
    have NX2 := NX.out
    rw [nextK_bad hbad, hbad] at NX2
    replace NX := Lib.hid NX2
    clear NX2 hbad hnt
    go_enter Try.func78, Try.ntmps78
    go_wp2_with fail
    refine NX.out.mono ?_
    rintro e w1 ⟨rfl, hd⟩
    have D1 := Lib.hid hd
    clear hd NX
    go_wp2_with fail
    go_ret2
    obtain ⟨e1, e2, e3⟩ := Snk.bad xs HB.out
    have hb1 := D1.out.below
    have tt := T1.out.trans_below hb1
    refine ⟨by rw [e1, e2]; rfl, S, ⟨⟨.slice am nm cm, .slice at' nt ct, (hb1.block g (Array.getElem?_eq_some_iff.1 SET.out).1).trans SET.out, ⟨am, nm, cm, rfl, ?_, HM.out.2⟩, by rw [e3]; exact HT.out.keep hb1, HTS.out⟩, H.out.own, fun j hj => ⟨(H.out.inS j hj).1, Nat.lt_of_lt_of_le (H.out.inS j hj).2 tt.size⟩, H.out.ints⟩, fun j hj => .inl hj, tt⟩
    exact (HM.out.1.of_block (w' := w.setCell ⟨g, 2, none⟩ (.int .i64 ((s.calls : Int) + 1))) fun b o e hn0 => Below.heap_setCell _ _ _ _ (HM.out.2 b o e hn0).2).keep hb1
  · have hbad : badB s.fail s.calls = false := by simpa using hbad
    obtain ⟨e1, e2, e3⟩ := Snk.good xs hbad
    have NX2 := NX.out
    rw [nextK_ok hbad, hbad] at NX2
    replace NX := Lib.hid NX2
    have hk := mostN_le s.most (s.calls + 1) xs.length
    obtain ⟨k, hkk⟩ : ∃ k, mostN s.most (s.calls + 1) xs.length = k := ⟨_, rfl⟩
    rw [hkk] at e1 e3 NX hk
    have E1 := Lib.hid e1
    have E2 := Lib.hid e2
    have E3 := Lib.hid e3
    have s3 : (w.setCell ⟨g, 2, none⟩ (.int .i64 ((s.calls : Int) + 1))).cell? ⟨g, 3, none⟩ = some (.slice at' nt ct) := cell_of SET.out 3 rfl
    have hcut := fun V : World => run_cutto eltB V ap xs.length c .i64 k (by have := HP.out.le; omega)
    have HNT := Lib.hid hnt
    have HPW := Lib.hid (show Sl Bf (w.setCell ⟨g, 2, none⟩ (.int .i64 ((s.calls : Int) + 1))) ap xs.length c xs from HP.out.turns T1.out fun b o e hn0 e2 => HG.out b o e hn0 e2)
    have HMW := Lib.hid (show Sl fZ (w.setCell ⟨g, 2, none⟩ (.int .i64 ((s.calls : Int) + 1))) am nm cm s.most from HM.out.1.of_block fun b o e hn0 => Below.heap_setCell _ _ _ _ (HM.out.2 b o e hn0).2)
    have hsz : (w.setCell ⟨g, 2, none⟩ (.int .i64 ((s.calls : Int) + 1))).heap.size = w.heap.size := by simp
    clear NX2 hbad hkk e1 e2 e3 hnt
    go_enter Try.func78, Try.ntmps78
    go_wp2_with fail
    refine NX.out.mono ?_
    rintro e w1 ⟨rfl, m, rfl⟩
    clear NX
    generalize w.setCell ⟨g, 2, none⟩ (.int .i64 ((s.calls : Int) + 1)) = W at *
    have hsz2 : W.heap.size = w.heap.size := hsz
    have HSZ := Lib.hid hsz2
    clear hsz hsz2
    have XK := Lib.hid (HPW.out.upto k hk)
    have GB := Lib.hid (fun (V w3 : World) (hg3 : V.grownBy w3 (Value.ownBlock (.slice at' nt ct))) (hV : V.heap = W.heap) => (show w3.heap[g]? = W.heap[g]? ∧ w3.cell? ⟨g, 3, none⟩ = some (.slice at' nt ct) ∧ w3.frozen? ⟨g, 3, none⟩ = false from by
      have e : w3.heap[g]? = W.heap[g]? := by
        rw [hg3.block g (by rw [hV]; exact (Array.getElem?_eq_some_iff.1 SET.out).1) (fun e => (HTS.out g e.symm).2 rfl), hV]
      exact ⟨e, cell_of (e.trans SET.out) 3 rfl, free_block (e.trans SET.out) 3⟩))
    go_wp2_with fail
    go_region_law (refine step_appT eltTB rfl (.tmp 23) (.tmp 26) rfl lo _ s.took (by simp [Act.eval]) HT.out ap k c (xs.take k) (by simp [Act.eval]) XK.out.toT (by unfold maxLen; omega) (by omega) (by have := HLO.out; have := HSZ.out; simp <;> omega) (s.took ++ xs.take k) rfl ?_; intro v3 w3 h3 hg3 hv3 hb3; obtain ⟨a3, n3, c3, rfl, z3⟩ := h3.slN; have H3 := Lib.hid h3; have G3 := Lib.hid hg3; have V3 := Lib.hid hv3; obtain ⟨gb1, gb2, gb3⟩ := GB.out _ w3 hg3 rfl; have GB3 := Lib.hid gb1; clear h3 hg3 hv3 hb3 z3 gb1)
    all_goals
      go_wp2_with fail
      go_ret2
      have hb5 := set_block (i := 3) (GB3.out.trans SET.out) (.slice a3 n3 c3)
      have hgz : g < w.heap.size := (H.out.inS g H.out.own).2
      have hWw := HSZ.out
      have hv3 : ∀ j, Value.ownBlock (.slice a3 n3 c3) = some j → Value.ownBlock (.slice at' nt ct) = some j ∨ j = w.heap.size := fun j hj => by
        rcases V3.out with e | e
        · exact .inl (e ▸ hj)
        · rw [e] at hj; injection hj with hj; exact .inr (by rw [← hj]; exact hWw)
      have hng : ∀ j, Value.ownBlock (.slice a3 n3 c3) = some j → j ≠ g := fun j hj e => by
        rcases hv3 j hj with h | h
        · exact (HTS.out j h).2 e
        · omega
      have t0 : Turns S w (W.drewN m).drew := T1.out.trans_below (show Below W.heap.size W (W.drewN m).drew from keep_drewN (keep_drewN (Below.refl _ _) m) 1)
      have t1 : Turns S w w3 := t0.trans (T := S) (.of_grown G3.out fun j e => (HTS.out j e).1) fun _ _ e => e
      have t2 : Turns S w (w3.setCell ⟨g, 3, none⟩ (.slice a3 n3 c3)) := t1.trans (T := S) (Turns.set w3 H.out.own _) fun _ _ e => e
      have hz3 : w.heap.size ≤ w3.heap.size := t1.size
      refine ⟨by rw [E1.out, E2.out]; rfl, fun j => S j ∨ Value.ownBlock (.slice a3 n3 c3) = some j, ⟨⟨.slice am nm cm, .slice a3 n3 c3, hb5, ⟨am, nm, cm, rfl, ?_, fun b o e hn0 => ?_⟩, by rw [E3.out]; exact H3.out.of_block fun j hj => Below.heap_setCell _ _ _ _ (hng j hj), fun j hj => ⟨.inr hj, hng j hj⟩⟩, .inl H.out.own, fun j hj => ?_, H.out.ints⟩, fun j hj => ?_, t2⟩
      · refine HMW.out.of_block fun b o e hn0 => ?_
        have hh := HM.out.2 b o e hn0
        have hlt : b < W.heap.size := by subst e; exact HMW.out.blt hn0
        rw [Below.heap_setCell _ _ _ _ hh.2, G3.out.block b hlt (fun e2 => hh.1.2 e2.symm)]; rfl
      · have hh := HM.out.2 b o e hn0
        refine ⟨⟨.inl hh.1.1, fun e2 => ?_⟩, hh.2⟩
        rcases hv3 b e2 with h | h
        · exact hh.1.2 h
        · have := (H.out.inS b hh.1.1).2; omega
      · rcases hj with hj | hj
        · exact ⟨(H.out.inS j hj).1, Nat.lt_of_lt_of_le (H.out.inS j hj).2 t2.size⟩
        · have := H3.out.lt j hj
          exact ⟨this.1, by simpa using this.2⟩
      · rcases hj with hj | hj
        · exact .inl hj
        · rcases hv3 j hj with h | h
          · exact .inl (HTS.out j h).1
          · exact .inr (by omega)
end Go.Proofs.Ytpenbaafhbbmhaa
