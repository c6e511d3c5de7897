/- The document's source, not odd: contracts of most and Read. Conditions: numbers within reach. -/
import Derived.Test.YtpenbaafhbbmhaaPipeSoft
namespace Go.Proofs.Ytpenbaafhbbmhaa
open Go.RowKit
set_option maxRecDepth 100000
set_option linter.unusedVariables false
set_option linter.unusedSimpArgs false

set_option maxRecDepth 100000 in
set_option maxHeartbeats 2000000 in
theorem rmost_any (am : Option Addr) (nm cm : Nat) (l : List Int) (k n : Nat) (w : World) (hl : Sl fZ w am nm cm l) (hI : Ints l) (hk0 : 0 < k) (hc : k ≤ 4611686018427387904) (hn : n ≤ 4611686018427387904) :
    Calls Try.prog 57 #[.slice am nm cm, .int .i64 (k : Nat), .int .i64 (n : Nat)] w fun e w' => e = .returned (.int .i64 (mostN l k n : Nat)) ∧ Drw w w' := by
  obtain rfl : l.length = nm := hl.len
  have HL := Lib.hid hl
  have HI := Lib.hid hI
  clear hl hI
  by_cases hL : k ≤ l.length
  · obtain ⟨m, bm, om, hm, rfl, hcm⟩ := HL.out.num (i := k - 1) (by omega)
    have hmb := HI.out m (List.mem_of_getElem? hm)
    have HM := Lib.hid (mostN_some (n := n) hm)
    have hcm2 : w.cell? ⟨bm, om + (k - 1), none⟩ = some (.int .i64 m) := hcm
    obtain ⟨j, hj⟩ : ∃ j, k - 1 = j := ⟨_, rfl⟩
    have t3 : decide ((k : Int) ≤ (l.length : Nat)) = true := decide_eq_true (by omega)
    have t3' : decide (k ≤ l.length) = true := decide_eq_true hL
    have r2 : IntKind.i64.wrap ((k : Int) - 1) = (j : Int) := by rw [IntWalk.i64_in _ (by omega)]; omega
    have hjl : j < l.length := by omega
    rw [hj] at hcm2
    clear hm hcm hj
    go_enter Try.func57, Try.ntmps57
    go_wp2_with fail
    go_ret
    refine ⟨?_, Drw.refl _⟩
    have hmm := HM.out
    refine ret_int ?_
    omega
  · have HM := Lib.hid (mostN_none (l := l) (k := k) (n := n) (by omega))
    have t3 : decide ((k : Int) ≤ (l.length : Nat)) = false := decide_eq_false (by omega)
    have t3' : decide (k ≤ l.length) = false := decide_eq_false (by omega)
    go_enter Try.func57, Try.ntmps57
    go_wp2_with fail
    go_ret
    exact ⟨ret_int (by rw [HM.out]), Drw.refl _⟩
/-- the document's source in block g, at byte i -/
structure RsP (g : Nat) (s : Src) (bs : List UInt8) (S : Nat → Prop) (w : World) : Prop where
  blk : ∃ ab nb cb ag ng cg i, w.heap[g]? = some (.cells (rcells ab nb cb ag ng cg s.fail s.eager s.calls i) 33 (0, 0)) ∧ Lsv fZ w S g (.slice ag ng cg) s.most ∧ Lsv Bf w S g (.slice ab nb cb) bs ∧ i ≤ bs.length ∧ s.left = bs.drop i
  own : S g
  inS : ∀ j, S j → j < w.heap.size
  ints : Ints s.most
theorem RsP.turns {g : Nat} {s : Src} {bs : List UInt8} {S T : Nat → Prop} {w w' : World} (h : RsP g s bs S w) (ht : Turns T w w') (hd : ∀ j, S j → ¬ T j) : RsP g s bs S w' := by
  obtain ⟨ab, nb, cb, ag, ng, cg, i, hb, h1, h2, h3⟩ := h.blk
  exact ⟨⟨ab, nb, cb, ag, ng, cg, i, ht.heap hb (hd g h.own), h1.turns ht fun j hj _ => hd j hj, h2.turns ht fun j hj _ => hd j hj, h3⟩, h.own, fun j hj => Nat.lt_of_lt_of_le (h.inS j hj) ht.size, h.ints⟩
theorem RsP.keep {g : Nat} {s : Src} {bs : List UInt8} {S : Nat → Prop} {w w' : World} (h : RsP g s bs S w) (hb : Below w.heap.size w w') : RsP g s bs S w' := h.turns (T := fun _ => False) (.of_below hb) fun _ _ e => e
/-- behind Read -/
def RrPost (g : Nat) (s : Src) (bs : List UInt8) (S : Nat → Prop) (w : World) (gp n : Nat) (zs : List UInt8) (r : Ending) (w' : World) : Prop :=
  r = .returned (.tuple #[.int .i64 ((s.gives n).length : Nat), .int .i64 (s.err n : Nat)]) ∧ RsP g (s.next n) bs S w' ∧ Turns (fun j => j = g ∨ j = gp) w w' ∧ w'.heap[gp]? = some (.cells ((s.gives n ++ zs.drop (s.gives n).length).map Bf).toArray 5 (0, 0))
theorem RsP.upd {g gp : Nat} {s s' : Src} {bs : List UInt8} {S : Nat → Prop} {w w1 : World} (h : RsP g s bs S w) (ht : Turns (fun j => j = g ∨ j = gp) w w1) (hg : ¬ S gp) (e1 : s'.most = s.most) (e2 : s'.fail = s.fail) (e3 : s'.eager = s.eager)
    {ab : Option Addr} {nb cb : Nat} {ag : Option Addr} {ng cg i : Nat} (hb : w1.heap[g]? = some (.cells (rcells ab nb cb ag ng cg s.fail s.eager s'.calls i) 33 (0, 0))) (hm : Lsv fZ w S g (.slice ag ng cg) s.most) (hl : Lsv Bf w S g (.slice ab nb cb) bs) (hi : i ≤ bs.length) (hs : s'.left = bs.drop i) : RsP g s' bs S w1 :=
  ⟨⟨ab, nb, cb, ag, ng, cg, i, by rw [e2, e3]; exact hb, by rw [e1]; exact hm.turns ht fun j hj hne e => by rcases e with e | e; (exact hne e); (exact hg (e ▸ hj)), hl.turns ht fun j hj hne e => by rcases e with e | e; (exact hne e); (exact hg (e ▸ hj)), hi, hs⟩,
    h.own, fun j hj => Nat.lt_of_lt_of_le (h.inS j hj) ht.size, by rw [e1]; exact h.ints⟩
theorem set_next {xs zs : List UInt8} {j : Nat} {x : UInt8} (hx : xs[j]? = some x) (hj : j < zs.length) : ((xs.take j ++ zs.drop j).map Bf).toArray.setIfInBounds j (Bf x) = ((xs.take (j + 1) ++ zs.drop (j + 1)).map Bf).toArray := by
  have hl : j < xs.length := (List.getElem?_eq_some_iff.1 hx).1
  have hlen : (xs.take j).length = j := by rw [List.length_take]; omega
  have e1 : xs.take (j + 1) = xs.take j ++ [x] := by rw [List.take_add_one, hx]; rfl
  have e2 : zs.drop j = zs[j] :: zs.drop (j + 1) := List.drop_eq_getElem_cons hj
  apply Array.ext'
  rw [Array.toList_setIfInBounds]
  show ((xs.take j ++ zs.drop j).map Bf).set j (Bf x) = (xs.take (j + 1) ++ zs.drop (j + 1)).map Bf
  rw [e1, e2, List.map_append, List.map_append, List.map_append, List.set_append_right _ _ (by rw [List.length_map, hlen]; exact Nat.le_refl _), List.length_map, hlen, Nat.sub_self, List.map_cons, List.set_cons_zero, List.append_assoc]
  rfl
set_option maxRecDepth 100000 in
set_option maxHeartbeats 4000000 in
theorem rsread_any (g : Nat) (s : Src) (bs : List UInt8) (S : Nat → Prop) (gp n c : Nat) (zs : List UInt8) (w : World) (h : RsP g s bs S w) (hc : s.calls ≤ 2305843009213693952) (hbl : bs.length ≤ 140737488351232) (hn : n ≤ zs.length) (hnc : n ≤ c) (hz : n ≤ 140737488351232) (hp : w.heap[gp]? = some (.cells (zs.map Bf).toArray 5 (0, 0))) (hg : ¬ S gp) :
    Calls Try.prog 58 #[.pointer (some ⟨g, 0, none⟩), .slice (some ⟨gp, 0, none⟩) n c] w (RrPost g s bs S w gp n zs) := by
  obtain ⟨ab, nb, cb, ag, ng, cg, i, hb, hm, hl, hi, hsl⟩ := h.blk
  obtain rfl : bs.length = nb := by obtain ⟨_, _, _, e, hs, _⟩ := hl; cases e; exact hs.len
  have hgp : g ≠ gp := fun e => hg (e ▸ h.own)
  have c4 : w.cell? ⟨g, 4, none⟩ = some (.int .i64 (s.calls : Nat)) := cell_of hb 4 rfl
  have f4 : w.frozen? ⟨g, 4, none⟩ = false := free_block hb 4
  have hset : (w.setCell ⟨g, 4, none⟩ (.int .i64 ((s.calls : Int) + 1))).heap[g]? = some (.cells (rcells ab bs.length cb ag ng cg s.fail s.eager (s.calls + 1) i) 33 (0, 0)) := set_block (i := 4) hb (.int .i64 ((s.calls : Int) + 1))
  have T1 := Lib.hid (Turns.set (S := fun j => j = g ∨ j = gp) w (b := g) (i := 4) (.inl rfl) (.int .i64 ((s.calls : Int) + 1)))
  have SET := Lib.hid hset
  have d0 : (w.setCell ⟨g, 4, none⟩ (.int .i64 ((s.calls : Int) + 1))).cell? ⟨g, 0, none⟩ = some (.slice ab bs.length cb) := cell_of hset 0 rfl
  have d1 : (w.setCell ⟨g, 4, none⟩ (.int .i64 ((s.calls : Int) + 1))).cell? ⟨g, 1, none⟩ = some (.slice ag ng cg) := cell_of hset 1 rfl
  have d2 : (w.setCell ⟨g, 4, none⟩ (.int .i64 ((s.calls : Int) + 1))).cell? ⟨g, 2, none⟩ = some (.int .i64 s.fail) := cell_of hset 2 rfl
  have d4 : (w.setCell ⟨g, 4, none⟩ (.int .i64 ((s.calls : Int) + 1))).cell? ⟨g, 4, none⟩ = some (.int .i64 ((s.calls : Int) + 1)) := cell_of hset 4 rfl
  have d5 : (w.setCell ⟨g, 4, none⟩ (.int .i64 ((s.calls : Int) + 1))).cell? ⟨g, 5, none⟩ = some (.int .i64 (i : Nat)) := cell_of hset 5 rfl
  have d6 : (w.setCell ⟨g, 4, none⟩ (.int .i64 ((s.calls : Int) + 1))).cell? ⟨g, 6, none⟩ = some (.bool false) := cell_of hset 6 rfl
  have HPW := Lib.hid (show (w.setCell ⟨g, 4, none⟩ (.int .i64 ((s.calls : Int) + 1))).heap[gp]? = some (.cells (zs.map Bf).toArray 5 (0, 0)) from (Below.heap_setCell _ _ _ _ (Ne.symm hgp)).trans hp)
  have r1 : IntKind.i64.wrap ((s.calls : Int) + 1) = (s.calls : Int) + 1 := IntWalk.i64_in _ (by omega)
  have H := Lib.hid h
  have HM := Lib.hid hm
  have HL := Lib.hid hl
  have HS := Lib.hid hsl
  have HG := Lib.hid hg
  have HNE := Lib.hid hgp
  clear hb hm hl hsl h hp hg hgp hset
  go_enter Try.func58, Try.ntmps58
  go_wp2_with fail
  generalize w.setCell ⟨g, 4, none⟩ (.int .i64 ((s.calls : Int) + 1)) = W at *
  clear c4 f4
  by_cases hbad : badB s.fail s.calls = true
  · obtain ⟨e1, e2, e3⟩ := Src.bad (n := n) hbad
    have hb2 : 0 < s.fail ∧ s.fail ≤ (s.calls : Int) + 1 := of_decide_eq_true hbad
    have FIN := Lib.hid (show ∀ V, Drw W V → RrPost g s bs S w gp n zs (.returned (.tuple #[.int .i64 0, .int .i64 32])) V from fun V hV => by
      have hb3 := hV.below
      have tt := T1.out.trans_below hb3
      refine ⟨by rw [e1, e2]; rfl, H.out.upd tt HG.out rfl rfl rfl (blk_keep SET.out hb3) HM.out HL.out hi (by show s.rest n = _; rw [e3]; exact HS.out), tt, by rw [e1]; exact blk_keep HPW.out hb3⟩)
    have t1 : decide (s.fail ≥ 1) = true := decide_eq_true (by omega)
    have t1' : decide (1 ≤ s.fail) = true := decide_eq_true (by omega)
    have t1'' : decide (0 < s.fail) = true := decide_eq_true (by omega)
    have t2 : decide ((s.calls : Int) + 1 ≥ s.fail) = true := decide_eq_true hb2.2
    have t2' : decide (s.fail ≤ (s.calls : Int) + 1) = true := decide_eq_true hb2.2
    clear hbad e1 e2 e3 hb2
    go_wp2_with fail
    go_quiet (fail)
    go_wp2_with fail
    go_ret2
    exact FIN.out _ (by first | exact (Drw.refl _).more _ | exact ((Drw.refl _).more _).more _ | exact Drw.refl _)
  · have hbad : badB s.fail s.calls = false := by simpa using hbad
    obtain ⟨e1, e2, e3⟩ := Src.good (n := n) hbad
    have hk := mostN_le s.most (s.calls + 1) n
    have hb2 : ¬ (0 < s.fail ∧ s.fail ≤ (s.calls : Int) + 1) := of_decide_eq_false hbad
    obtain ⟨k, hkk⟩ : ∃ k, mostN s.most (s.calls + 1) n = k := ⟨_, rfl⟩
    rw [hkk] at e1 e2 e3 hk
    have E1 := Lib.hid e1
    have E2 := Lib.hid e2
    have E3 := Lib.hid e3
    have HKK := Lib.hid hkk
    have HB2 := Lib.hid hb2
    clear e1 e2 e3 hkk hbad hb2
    go_upto_region 4 with (fail)
    go_cut [41] (fun b wx => b = .bool false ∧ Drw W wx)
    case first =>
      by_cases hf : 0 < s.fail
      · have hk2 : ¬ s.fail ≤ (s.calls : Int) + 1 := fun e => HB2.out ⟨hf, e⟩
        have t1 : decide (s.fail ≥ 1) = true := decide_eq_true (by omega)
        have t1' : decide (1 ≤ s.fail) = true := decide_eq_true (by omega)
        have t1'' : decide (0 < s.fail) = true := decide_eq_true (by omega)
        have t2 : decide ((s.calls : Int) + 1 ≥ s.fail) = false := decide_eq_false hk2
        have t2' : decide (s.fail ≤ (s.calls : Int) + 1) = false := decide_eq_false hk2
        clear hf hk2
        go_quiet (fail)
        go_wp2_with fail
        go_meet
        exact ⟨rfl, by first | exact (Drw.refl _).more _ | exact ((Drw.refl _).more _).more _ | exact Drw.refl _⟩
      · have t1 : decide (s.fail ≥ 1) = false := decide_eq_false (by omega)
        have t1' : decide (1 ≤ s.fail) = false := decide_eq_false (by omega)
        have t1'' : decide (0 < s.fail) = false := decide_eq_false (by omega)
        clear hf
        go_quiet (fail)
        go_wp2_with fail
        go_meet
        exact ⟨rfl, by first | exact (Drw.refl _).more _ | exact ((Drw.refl _).more _).more _ | exact Drw.refl _⟩
    obtain ⟨rfl, hcw⟩ := hcut
    have CW := Lib.hid hcw
    have SETC := Lib.hid (blk_keep SET.out hcw.below)
    have HPC := Lib.hid (blk_keep HPW.out hcw.below)
    have v0 := cell_of SETC.out 0 (v := .slice ab bs.length cb) rfl
    have v5 := cell_of SETC.out 5 (v := .int .i64 (i : Nat)) rfl
    clear hcw d0 d1 d2 d4 d5 d6
    by_cases hie : i = bs.length
    · subst hie
      have hl0 : s.left = [] := by rw [HS.out, List.drop_length]
      have FIN := Lib.hid (show ∀ V, Drw W V → RrPost g s bs S w gp n zs (.returned (.tuple #[.int .i64 0, .int .i64 31])) V from fun V hV => by
        have hb3 := hV.below
        have tt := T1.out.trans_below hb3
        have q1 : s.gives n = [] := by rw [E1.out, hl0, List.take_nil]
        refine ⟨by rw [q1, E3.out, if_pos hl0]; rfl, H.out.upd tt HG.out rfl rfl rfl (blk_keep SET.out hb3) HM.out HL.out hi (by show s.rest n = _; rw [E2.out, hl0, List.drop_nil, List.drop_length]), tt, by rw [q1]; exact blk_keep HPW.out hb3⟩)
      have t1 : ((bs.length : Int) == (bs.length : Int)) = true := by simp
      clear hl0
      go_wp2_with fail
      go_quiet (fail)
      go_wp2_with fail
      go_ret2
      exact FIN.out _ (CW.out.trans (by first | exact (Drw.refl _).more _ | exact ((Drw.refl _).more _).more _ | exact Drw.refl _))
    · have hil : i < bs.length := by omega
      have t1 : ((i : Int) == (bs.length : Int)) = false := by rw [beq_eq_false_iff_ne]; omega
      have t1' : (i == bs.length) = false := by rw [beq_eq_false_iff_ne]; exact hie
      have hne : s.left ≠ [] := by rw [HS.out]; intro e; rw [List.drop_eq_nil_iff] at e; omega
      have HNL := Lib.hid hne
      obtain ⟨q, hq⟩ : ∃ q, min k (bs.length - i) = q := ⟨_, rfl⟩
      have hqk : q ≤ k := by omega
      have hqb : i + q ≤ bs.length := by omega
      have HQ := Lib.hid hq
      have CQ := Lib.hid (fun (V : World) (hV : Drw W V) => (show Calls Try.prog 57 #[.slice ag ng cg, .int .i64 ((s.calls : Int) + 1), .int .i64 (n : Nat)] V fun e w' => e = .returned (.int .i64 (k : Nat)) ∧ Drw V w' from by
        have hm2 : Lsv fZ V S g (.slice ag ng cg) s.most := HM.out.turns (T1.out.trans_below hV.below) fun j hj hne2 e => by rcases e with e | e; (exact hne2 e); (exact HG.out (e ▸ hj))
        obtain ⟨_, _, _, e, hs, _⟩ := hm2
        cases e
        have := rmost_any ag ng cg s.most (s.calls + 1) n V hs H.out.ints (by omega) (by omega) (by omega)
        rw [HKK.out] at this
        exact this))
      have r2 : IntKind.i64.wrap ((bs.length : Int) - (i : Int)) = (bs.length : Int) - (i : Int) := IntWalk.i64_in _ (by omega)
      clear hie hne hq
      go_wp2_with fail
      go_quiet (fail)
      go_upto_region 8 with (fail)
      obtain ⟨V, hV⟩ : ∃ V, wc.drewN nq = V := ⟨_, rfl⟩
      rw [hV]
      have DV := Lib.hid (show Drw W V from hV ▸ CW.out.more _)
      have SETV := Lib.hid (blk_keep SET.out DV.out.below)
      have HPV := Lib.hid (blk_keep HPW.out DV.out.below)
      have x0 := cell_of SETV.out 0 (v := .slice ab bs.length cb) rfl
      have x1 := cell_of SETV.out 1 (v := .slice ag ng cg) rfl
      have x4 : V.cell? ⟨g, 4, none⟩ = some (.int .i64 ((s.calls : Int) + 1)) := cell_of SETV.out 4 rfl
      have x5 := cell_of SETV.out 5 (v := .int .i64 (i : Nat)) rfl
      clear hV v0 v5 CW SETC HPC
      go_cut [6] (fun b wx => b = .int .i64 (q : Nat) ∧ Drw V wx)
      case first =>
        go_quiet ((go_at_call 57; exact Calls.quiet_of_drw (CQ.out _ (DV.out.trans (by first | exact (Drw.refl _).more _ | exact ((Drw.refl _).more _).more _)))))
        go_wp2_with fail
        go_meet
        refine ⟨val_int ?_, by first | exact (Drw.refl _).more _ | exact ((Drw.refl _).more _).more _ | exact Drw.refl _⟩
        have := HQ.out
        omega
      obtain ⟨rfl, hcw⟩ := hcut
      have VW := Lib.hid hcw
      clear hcw x0 x1 x4 x5
      go_wp2_with fail
      go_loopw [7] (fun x wr => ∃ j : Nat, j ≤ q ∧ x = .int .i64 (j : Nat) ∧ Turns (fun b => b = gp) V wr ∧ wr.heap[gp]? = some (.cells (((s.left).take j ++ zs.drop j).map Bf).toArray 5 (0, 0))) (fun x _ => q - (intOf x).toNat)
      case atStart => exact ⟨0, Nat.zero_le _, rfl, .of_below VW.out.below, blk_keep HPV.out VW.out.below⟩
      case round =>
        obtain ⟨j, hj, rfl, ht, hr⟩ := hrel
        have TT := Lib.hid ht
        have HR := Lib.hid hr
        clear ht hr
        have SR := Lib.hid (TT.out.heap SETV.out HNE.out)
        have e0 := cell_of SR.out 0 (v := .slice ab bs.length cb) rfl
        have e5 := cell_of SR.out 5 (v := .int .i64 (i : Nat)) rfl
        by_cases hlt : j < q
        · have LR : Hid (Sl Bf wr ab bs.length cb bs) := Lib.hid (by
            have := HL.out.turns ((T1.out.trans_below DV.out.below).trans (T := fun j => j = g ∨ j = gp) (TT.out.mono fun _ _ e => .inr e) fun _ _ e => e) fun j hj hne2 e => by rcases e with e | e; (exact hne2 e); (exact HG.out (e ▸ hj))
            obtain ⟨_, _, _, e, hs, _⟩ := this
            cases e
            exact hs)
          obtain ⟨x, b, o, hx, rfl, hcx⟩ := LR.out.at (i + j) (by omega)
          have HX := Lib.hid (show s.left[j]? = some x by rw [HS.out, List.getElem?_drop]; exact hx)
          have hcx : wr.cell? ⟨b, o + (i + j), none⟩ = some (.int .u8 (B x)) := hcx
          have hjz : j < zs.length := by omega
          have hjn : j < n := by omega
          have hij : i + j < bs.length := by omega
          obtain ⟨y, ej⟩ : ∃ y, wr.cell? ⟨gp, j, none⟩ = some y := by
            have hjl : j < (s.left.take j ++ zs.drop j).length := by rw [List.length_append, List.length_drop, List.length_take, HS.out, List.length_drop]; omega
            exact ⟨_, cell_of HR.out j (by show (((s.left.take j ++ zs.drop j).map Bf).toArray)[j]? = _; rw [List.getElem?_toArray, List.getElem?_map, List.getElem?_eq_getElem hjl]; rfl)⟩
          have fj : wr.frozen? ⟨gp, j, none⟩ = false := free_block HR.out j
          have r3 : IntKind.i64.wrap ((i : Int) + (j : Int)) = (i : Int) + (j : Int) := IntWalk.i64_in _ (by omega)
          have SB := Lib.hid (set_block (i := j) HR.out (.int .u8 (B x)))
          clear hx
          go_wp2_with fail
          go_region
          go_wp2_with fail
          go_roundw
          case rel =>
            refine ⟨j + 1, by omega, by go_num, (TT.out.trans (Turns.set (S := fun b => b = gp) wr (b := gp) (i := j) rfl (.int .u8 (B x))) fun _ _ e => e).trans_below ((Below.refl _ _).drew), ?_⟩
            rw [← set_next HX.out hjz]
            exact SB.out
          case measure => simp [intOf]; omega
        · obtain rfl : j = q := by omega
          have f5 : wr.frozen? ⟨g, 5, none⟩ = false := free_block SR.out 5
          have r3 : IntKind.i64.wrap ((i : Int) + (j : Int)) = (i : Int) + (j : Int) := IntWalk.i64_in _ (by omega)
          have hset9 : (wr.setCell ⟨g, 5, none⟩ (.int .i64 ((i : Int) + (j : Int)))).heap[g]? = some (.cells (rcells ab bs.length cb ag ng cg s.fail s.eager (s.calls + 1) (i + j)) 33 (0, 0)) := set_block (i := 5) SR.out (.int .i64 ((i : Int) + (j : Int)))
          have SET9 := Lib.hid hset9
          have y0 : (wr.setCell ⟨g, 5, none⟩ (.int .i64 ((i : Int) + (j : Int)))).cell? ⟨g, 0, none⟩ = some (.slice ab bs.length cb) := cell_of hset9 0 rfl
          have y3 : (wr.setCell ⟨g, 5, none⟩ (.int .i64 ((i : Int) + (j : Int)))).cell? ⟨g, 3, none⟩ = some (.bool s.eager) := cell_of hset9 3 rfl
          have y5 : (wr.setCell ⟨g, 5, none⟩ (.int .i64 ((i : Int) + (j : Int)))).cell? ⟨g, 5, none⟩ = some (.int .i64 ((i : Int) + (j : Int))) := cell_of hset9 5 rfl
          have T9 := Lib.hid (((T1.out.trans_below DV.out.below).trans (T := fun j => j = g ∨ j = gp) (TT.out.mono fun _ _ e => .inr e) fun _ _ e => e).trans (T := fun j => j = g ∨ j = gp) (Turns.set (S := fun j => j = g ∨ j = gp) wr (b := g) (i := 5) (.inl rfl) (.int .i64 ((i : Int) + (j : Int)))) fun _ _ e => e)
          have hL : s.left.length = bs.length - i := by rw [HS.out, List.length_drop]
          have hq := HQ.out
          have htk : s.left.take k = s.left.take j := by
            by_cases hh : k ≤ s.left.length
            · rw [show j = k by omega]
            · rw [List.take_of_length_le (by omega), List.take_of_length_le (by omega)]
          have hdk : s.left.drop k = bs.drop (i + j) := by
            rw [HS.out, List.drop_drop]
            by_cases hh : k ≤ s.left.length
            · rw [show j = k by omega]
            · rw [List.drop_of_length_le (by omega), List.drop_of_length_le (by omega)]
          have hgl : (s.gives n).length = j := by rw [E1.out, htk, List.length_take]; omega
          have hdz : s.left.drop k = [] ↔ i + j = bs.length := by rw [hdk, List.drop_eq_nil_iff]; omega
          have FIN := Lib.hid (show ∀ Z (er : Nat), s.err n = er → Drw (wr.setCell ⟨g, 5, none⟩ (.int .i64 ((i : Int) + (j : Int)))) Z → RrPost g s bs S w gp n zs (.returned (.tuple #[.int .i64 (j : Nat), .int .i64 (er : Nat)])) Z from fun Z er he hZ => by
            have hb3 := hZ.below
            have tt := T9.out.trans_below hb3
            refine ⟨by rw [hgl, he], H.out.upd tt HG.out rfl rfl rfl (blk_keep SET9.out hb3) HM.out HL.out (by omega) (by show s.rest n = _; rw [E2.out, hdk]), tt, ?_⟩
            rw [hgl, E1.out, htk]
            refine blk_keep ?_ hb3
            rw [Below.heap_setCell _ _ _ _ (Ne.symm HNE.out)]
            exact HR.out)
          have HDZ := Lib.hid hdz
          obtain ⟨eg, heg⟩ : ∃ e, s.eager = e := ⟨_, rfl⟩
          rw [heg] at y3
          clear hset9 hL hq htk hdk hgl hdz T9 hlt
          cases eg with
          | false =>
            have HER := Lib.hid (show s.err n = 0 by rw [E3.out, if_neg HNL.out, heg]; rfl)
            clear heg
            go_wp2_with fail
            go_quiet (fail)
            go_wp2_with fail
            go_ret2
            exact FIN.out _ 0 HER.out (by first | exact (Drw.refl _).more _ | exact ((Drw.refl _).more _).more _ | exact Drw.refl _)
          | true =>
            by_cases h0 : i + j = bs.length
            · have HER := Lib.hid (show s.err n = 31 by rw [E3.out, if_neg HNL.out, heg, if_pos ⟨rfl, HDZ.out.2 h0⟩])
              have t5 : ((i : Int) + (j : Int) == (bs.length : Int)) = true := by rw [beq_iff_eq]; omega
              clear heg h0
              go_wp2_with fail
              go_quiet (fail)
              go_wp2_with fail
              go_ret2
              exact FIN.out _ 31 HER.out (by first | exact (Drw.refl _).more _ | exact ((Drw.refl _).more _).more _ | exact Drw.refl _)
            · have HER := Lib.hid (show s.err n = 0 by rw [E3.out, if_neg HNL.out, heg, if_neg fun e => h0 (HDZ.out.1 e.2)])
              have t5 : ((i : Int) + (j : Int) == (bs.length : Int)) = false := by rw [beq_eq_false_iff_ne]; omega
              clear heg h0
              go_wp2_with fail
              go_quiet (fail)
              go_wp2_with fail
              go_ret2
              exact FIN.out _ 0 HER.out (by first | exact (Drw.refl _).more _ | exact ((Drw.refl _).more _).more _ | exact Drw.refl _)
end Go.Proofs.Ytpenbaafhbbmhaa
