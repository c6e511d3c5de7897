/- Several texts in one: PipeSoft, PipeRef, PipeRefK, PipeRefGen, CurRIn, CurRWant, CurRIn2. Each has its own sentence and conditions below. -/
import Derived.Test.YtljcogimeimknaaGreatK8p
import Derived.Deep.RegionHeld3
import Derived.Deep.DeepCutAuto
import Derived.Test.YtljcogimeimknaaGreatK8r
import Derived.Test.YtljcogimeimknaaGreatK8q
/- Places that may be written; the document's source in cells. No condition. -/
namespace Go.Proofs.YtljcogimeimknaaGreat
open Go.RowKit
set_option linter.unusedVariables false
set_option linter.unusedSimpArgs false

/-- every place of a slice holds something and may be written -/
def SoftV (w : World) (a : Option Addr) (n : Nat) : Prop := ∀ i, i < n → ∃ v b o, a = some ⟨b, o, none⟩ ∧ w.cell? ⟨b, o + i, none⟩ = some v ∧ w.frozen? ⟨b, o + i, none⟩ = false
theorem SoftV.set {w : World} {b o n k : Nat} (h : SoftV w (some ⟨b, o, none⟩) n) (y : Value) : SoftV (w.setCell ⟨b, o + k, none⟩ y) (some ⟨b, o, none⟩) n := by
  intro i hi
  obtain ⟨x, b', o', e, hc, hf⟩ := h i hi
  cases e
  by_cases hik : i = k
  · subst hik
    exact ⟨y, b, o, rfl, World.cell?_setCell_same _ _ _ hc, (World.frozen?_setCell _ _ _ _).trans hf⟩
  · exact ⟨x, b, o, rfl, (World.cell?_setCell_other _ _ _ _ (by simp)).trans hc, (World.frozen?_setCell _ _ _ _).trans hf⟩
theorem frozen_block {w w' : World} {b i : Nat} (h : w'.heap[b]? = w.heap[b]?) : w'.frozen? ⟨b, i, none⟩ = w.frozen? ⟨b, i, none⟩ := by simp only [World.frozen?, h]
theorem SoftV.turns {w w' : World} {a : Option Addr} {n : Nat} {T : Nat → Prop} (h : SoftV w a n) (ht : Turns T w w') (hd : ∀ b o, a = some ⟨b, o, none⟩ → ¬ T b) : SoftV w' a n := by
  intro i hi
  obtain ⟨x, b, o, e, hc, hf⟩ := h i hi
  have hb := ht.block b (cell_lt hc) (hd b o e)
  exact ⟨x, b, o, e, (World.cell?_of_block (w := w) hb).trans hc, (frozen_block hb).trans hf⟩
theorem Soft.turns {w w' : World} {a : Option Addr} {n : Nat} {T : Nat → Prop} (h : Soft w a n) (ht : Turns T w w') (hd : ∀ b o, a = some ⟨b, o, none⟩ → ¬ T b) : Soft w' a n := by
  intro i hi
  obtain ⟨x, b, o, e, hc, hf⟩ := h i hi
  have hb := ht.block b (cell_lt hc) (hd b o e)
  exact ⟨x, b, o, e, (World.cell?_of_block (w := w) hb).trans hc, (frozen_block hb).trans hf⟩
/-- the reference's source, not odd, called k times, at byte i -/
def rcells (ab : Option Addr) (nb cb : Nat) (ag : Option Addr) (ng cg : Nat) (xf : Int) (eager : Bool) (k i : Nat) : Array Value :=
  #[.slice ab nb cb, .slice ag ng cg, .int .i64 xf, .bool eager, .int .i64 (k : Nat), .int .i64 (i : Nat), .bool false, .slice none 0 0, .slice none 0 0, .int .u8 0, .int .u8 0, .slice none 0 0]
end Go.Proofs.YtljcogimeimknaaGreat
/- The document's source, not odd: contracts of most and Read. Conditions: numbers within reach. -/
namespace Go.Proofs.YtljcogimeimknaaGreat
open Go.RowKit
set_option maxRecDepth 100000
set_option linter.unusedVariables false
set_option linter.unusedSimpArgs false

set_option maxRecDepth 100000 in
set_option maxHeartbeats 2000000 in
theorem rmost_any (am : Option Addr) (nm cm : Nat) (l : List Int) (k n : Nat) (w : World) (hl : Sl fZ w am nm cm l) (hI : Ints l) (hk0 : 0 < k) (hc : k ≤ 4611686018427387904) (hn : n ≤ 4611686018427387904) :
    Calls Tryz.prog 169 #[.slice am nm cm, .int .i64 (k : Nat), .int .i64 (n : Nat)] w fun e w' => e = .returned (.int .i64 (mostN l k n : Nat)) ∧ Drw w w' := by
  obtain rfl : l.length = nm := hl.len
  have HL := Lib.hid hl
  have HI := Lib.hid hI
  clear hl hI
  by_cases hL : k ≤ l.length
  · obtain ⟨m, bm, om, hm, rfl, hcm⟩ := HL.out.num (i := k - 1) (by omega)
    have hmb := HI.out m (List.mem_of_getElem? hm)
    have HM := Lib.hid (mostN_some (n := n) hm)
    have hcm2 : w.cell? ⟨bm, om + (k - 1), none⟩ = some (.int .i64 m) := hcm
    obtain ⟨j, hj⟩ : ∃ j, k - 1 = j := ⟨_, rfl⟩
    have t3 : decide ((k : Int) ≤ (l.length : Nat)) = true := decide_eq_true (by omega)
    have t3' : decide (k ≤ l.length) = true := decide_eq_true hL
    have r2 : IntKind.i64.wrap ((k : Int) - 1) = (j : Int) := by rw [IntWalk.i64_in _ (by omega)]; omega
    have hjl : j < l.length := by omega
    rw [hj] at hcm2
    clear hm hcm hj
    go_enter Tryz.func169, Tryz.ntmps169
    go_wp2_with fail
    go_ret
    refine ⟨?_, Drw.refl _⟩
    have hmm := HM.out
    refine ret_int ?_
    omega
  · have HM := Lib.hid (mostN_none (l := l) (k := k) (n := n) (by omega))
    have t3 : decide ((k : Int) ≤ (l.length : Nat)) = false := decide_eq_false (by omega)
    have t3' : decide (k ≤ l.length) = false := decide_eq_false (by omega)
    go_enter Tryz.func169, Tryz.ntmps169
    go_wp2_with fail
    go_ret
    exact ⟨ret_int (by rw [HM.out]), Drw.refl _⟩
/-- the document's source in block g, at byte i -/
structure RsP (g : Nat) (s : Src) (bs : List UInt8) (S : Nat → Prop) (w : World) : Prop where
  blk : ∃ ab nb cb ag ng cg i, w.heap[g]? = some (.cells (rcells ab nb cb ag ng cg s.fail s.eager s.calls i) 65 (0, 0)) ∧ Lsv fZ w S g (.slice ag ng cg) s.most ∧ Lsv Bf w S g (.slice ab nb cb) bs ∧ i ≤ bs.length ∧ s.left = bs.drop i
  own : S g
  inS : ∀ j, S j → j < w.heap.size
  ints : Ints s.most
theorem RsP.turns {g : Nat} {s : Src} {bs : List UInt8} {S T : Nat → Prop} {w w' : World} (h : RsP g s bs S w) (ht : Turns T w w') (hd : ∀ j, S j → ¬ T j) : RsP g s bs S w' := by
  obtain ⟨ab, nb, cb, ag, ng, cg, i, hb, h1, h2, h3⟩ := h.blk
  exact ⟨⟨ab, nb, cb, ag, ng, cg, i, ht.heap hb (hd g h.own), h1.turns ht fun j hj _ => hd j hj, h2.turns ht fun j hj _ => hd j hj, h3⟩, h.own, fun j hj => Nat.lt_of_lt_of_le (h.inS j hj) ht.size, h.ints⟩
theorem RsP.keep {g : Nat} {s : Src} {bs : List UInt8} {S : Nat → Prop} {w w' : World} (h : RsP g s bs S w) (hb : Below w.heap.size w w') : RsP g s bs S w' := h.turns (T := fun _ => False) (.of_below hb) fun _ _ e => e
/-- behind Read -/
def RrPost (g : Nat) (s : Src) (bs : List UInt8) (S : Nat → Prop) (w : World) (gp n : Nat) (zs : List UInt8) (r : Ending) (w' : World) : Prop :=
  r = .returned (.tuple #[.int .i64 ((s.gives n).length : Nat), .int .i64 (s.err n : Nat)]) ∧ RsP g (s.next n) bs S w' ∧ Turns (fun j => j = g ∨ j = gp) w w' ∧ w'.heap[gp]? = some (.cells ((s.gives n ++ zs.drop (s.gives n).length).map Bf).toArray 5 (0, 0))
theorem RsP.upd {g gp : Nat} {s s' : Src} {bs : List UInt8} {S : Nat → Prop} {w w1 : World} (h : RsP g s bs S w) (ht : Turns (fun j => j = g ∨ j = gp) w w1) (hg : ¬ S gp) (e1 : s'.most = s.most) (e2 : s'.fail = s.fail) (e3 : s'.eager = s.eager)
    {ab : Option Addr} {nb cb : Nat} {ag : Option Addr} {ng cg i : Nat} (hb : w1.heap[g]? = some (.cells (rcells ab nb cb ag ng cg s.fail s.eager s'.calls i) 65 (0, 0))) (hm : Lsv fZ w S g (.slice ag ng cg) s.most) (hl : Lsv Bf w S g (.slice ab nb cb) bs) (hi : i ≤ bs.length) (hs : s'.left = bs.drop i) : RsP g s' bs S w1 :=
  ⟨⟨ab, nb, cb, ag, ng, cg, i, by rw [e2, e3]; exact hb, by rw [e1]; exact hm.turns ht fun j hj hne e => by rcases e with e | e; (exact hne e); (exact hg (e ▸ hj)), hl.turns ht fun j hj hne e => by rcases e with e | e; (exact hne e); (exact hg (e ▸ hj)), hi, hs⟩,
    h.own, fun j hj => Nat.lt_of_lt_of_le (h.inS j hj) ht.size, by rw [e1]; exact h.ints⟩
theorem set_next {xs zs : List UInt8} {j : Nat} {x : UInt8} (hx : xs[j]? = some x) (hj : j < zs.length) : ((xs.take j ++ zs.drop j).map Bf).toArray.setIfInBounds j (Bf x) = ((xs.take (j + 1) ++ zs.drop (j + 1)).map Bf).toArray := by
  have hl : j < xs.length := (List.getElem?_eq_some_iff.1 hx).1
  have hlen : (xs.take j).length = j := by rw [List.length_take]; omega
  have e1 : xs.take (j + 1) = xs.take j ++ [x] := by rw [List.take_add_one, hx]; rfl
  have e2 : zs.drop j = zs[j] :: zs.drop (j + 1) := List.drop_eq_getElem_cons hj
  apply Array.ext'
  rw [Array.toList_setIfInBounds]
  show ((xs.take j ++ zs.drop j).map Bf).set j (Bf x) = (xs.take (j + 1) ++ zs.drop (j + 1)).map Bf
  rw [e1, e2, List.map_append, List.map_append, List.map_append, List.set_append_right _ _ (by rw [List.length_map, hlen]; exact Nat.le_refl _), List.length_map, hlen, Nat.sub_self, List.map_cons, List.set_cons_zero, List.append_assoc]
  rfl
set_option maxRecDepth 100000 in
set_option maxHeartbeats 4000000 in
theorem rsread_any (g : Nat) (s : Src) (bs : List UInt8) (S : Nat → Prop) (gp n c : Nat) (zs : List UInt8) (w : World) (h : RsP g s bs S w) (hc : s.calls ≤ 2305843009213693952) (hbl : bs.length ≤ 140737488351232) (hn : n ≤ zs.length) (hnc : n ≤ c) (hz : n ≤ 140737488351232) (hp : w.heap[gp]? = some (.cells (zs.map Bf).toArray 5 (0, 0))) (hg : ¬ S gp) :
    Calls Tryz.prog 165 #[.pointer (some ⟨g, 0, none⟩), .slice (some ⟨gp, 0, none⟩) n c] w (RrPost g s bs S w gp n zs) := by
  obtain ⟨ab, nb, cb, ag, ng, cg, i, hb, hm, hl, hi, hsl⟩ := h.blk
  obtain rfl : bs.length = nb := by obtain ⟨_, _, _, e, hs, _⟩ := hl; cases e; exact hs.len
  have hgp : g ≠ gp := fun e => hg (e ▸ h.own)
  have c4 : w.cell? ⟨g, 4, none⟩ = some (.int .i64 (s.calls : Nat)) := cell_of hb 4 rfl
  have f4 : w.frozen? ⟨g, 4, none⟩ = false := free_block hb 4
  have hset : (w.setCell ⟨g, 4, none⟩ (.int .i64 ((s.calls : Int) + 1))).heap[g]? = some (.cells (rcells ab bs.length cb ag ng cg s.fail s.eager (s.calls + 1) i) 65 (0, 0)) := set_block (i := 4) hb (.int .i64 ((s.calls : Int) + 1))
  have T1 := Lib.hid (Turns.set (S := fun j => j = g ∨ j = gp) w (b := g) (i := 4) (.inl rfl) (.int .i64 ((s.calls : Int) + 1)))
  have SET := Lib.hid hset
  have d0 : (w.setCell ⟨g, 4, none⟩ (.int .i64 ((s.calls : Int) + 1))).cell? ⟨g, 0, none⟩ = some (.slice ab bs.length cb) := cell_of hset 0 rfl
  have d1 : (w.setCell ⟨g, 4, none⟩ (.int .i64 ((s.calls : Int) + 1))).cell? ⟨g, 1, none⟩ = some (.slice ag ng cg) := cell_of hset 1 rfl
  have d2 : (w.setCell ⟨g, 4, none⟩ (.int .i64 ((s.calls : Int) + 1))).cell? ⟨g, 2, none⟩ = some (.int .i64 s.fail) := cell_of hset 2 rfl
  have d4 : (w.setCell ⟨g, 4, none⟩ (.int .i64 ((s.calls : Int) + 1))).cell? ⟨g, 4, none⟩ = some (.int .i64 ((s.calls : Int) + 1)) := cell_of hset 4 rfl
  have d5 : (w.setCell ⟨g, 4, none⟩ (.int .i64 ((s.calls : Int) + 1))).cell? ⟨g, 5, none⟩ = some (.int .i64 (i : Nat)) := cell_of hset 5 rfl
  have d6 : (w.setCell ⟨g, 4, none⟩ (.int .i64 ((s.calls : Int) + 1))).cell? ⟨g, 6, none⟩ = some (.bool false) := cell_of hset 6 rfl
  have HPW := Lib.hid (show (w.setCell ⟨g, 4, none⟩ (.int .i64 ((s.calls : Int) + 1))).heap[gp]? = some (.cells (zs.map Bf).toArray 5 (0, 0)) from (Below.heap_setCell _ _ _ _ (Ne.symm hgp)).trans hp)
  have r1 : IntKind.i64.wrap ((s.calls : Int) + 1) = (s.calls : Int) + 1 := IntWalk.i64_in _ (by omega)
  have H := Lib.hid h
  have HM := Lib.hid hm
  have HL := Lib.hid hl
  have HS := Lib.hid hsl
  have HG := Lib.hid hg
  have HNE := Lib.hid hgp
  clear hb hm hl hsl h hp hg hgp hset
  go_enter Tryz.func165, Tryz.ntmps165
  go_wp2_with fail
  generalize w.setCell ⟨g, 4, none⟩ (.int .i64 ((s.calls : Int) + 1)) = W at *
  clear c4 f4
  by_cases hbad : badB s.fail s.calls = true
  · obtain ⟨e1, e2, e3⟩ := Src.bad (n := n) hbad
    have hb2 : 0 < s.fail ∧ s.fail ≤ (s.calls : Int) + 1 := of_decide_eq_true hbad
    have FIN := Lib.hid (show ∀ V, Drw W V → RrPost g s bs S w gp n zs (.returned (.tuple #[.int .i64 0, .int .i64 32])) V from fun V hV => by
      have hb3 := hV.below
      have tt := T1.out.trans_below hb3
      refine ⟨by rw [e1, e2]; rfl, H.out.upd tt HG.out rfl rfl rfl (blk_keep SET.out hb3) HM.out HL.out hi (by show s.rest n = _; rw [e3]; exact HS.out), tt, by rw [e1]; exact blk_keep HPW.out hb3⟩)
    have t1 : decide (s.fail ≥ 1) = true := decide_eq_true (by omega)
    have t1' : decide (1 ≤ s.fail) = true := decide_eq_true (by omega)
    have t1'' : decide (0 < s.fail) = true := decide_eq_true (by omega)
    have t2 : decide ((s.calls : Int) + 1 ≥ s.fail) = true := decide_eq_true hb2.2
    have t2' : decide (s.fail ≤ (s.calls : Int) + 1) = true := decide_eq_true hb2.2
    clear hbad e1 e2 e3 hb2
    go_wp2_with fail
    go_quiet (fail)
    go_wp2_with fail
    go_ret2
    exact FIN.out _ (by first | exact (Drw.refl _).more _ | exact ((Drw.refl _).more _).more _ | exact Drw.refl _)
  · have hbad : badB s.fail s.calls = false := by simpa using hbad
    obtain ⟨e1, e2, e3⟩ := Src.good (n := n) hbad
    have hk := mostN_le s.most (s.calls + 1) n
    have hb2 : ¬ (0 < s.fail ∧ s.fail ≤ (s.calls : Int) + 1) := of_decide_eq_false hbad
    obtain ⟨k, hkk⟩ : ∃ k, mostN s.most (s.calls + 1) n = k := ⟨_, rfl⟩
    rw [hkk] at e1 e2 e3 hk
    have E1 := Lib.hid e1
    have E2 := Lib.hid e2
    have E3 := Lib.hid e3
    have HKK := Lib.hid hkk
    have HB2 := Lib.hid hb2
    clear e1 e2 e3 hkk hbad hb2
    go_upto_region 4 with (fail)
    go_cut [41] (fun b wx => b = .bool false ∧ Drw W wx)
    case first =>
      by_cases hf : 0 < s.fail
      · have hk2 : ¬ s.fail ≤ (s.calls : Int) + 1 := fun e => HB2.out ⟨hf, e⟩
        have t1 : decide (s.fail ≥ 1) = true := decide_eq_true (by omega)
        have t1' : decide (1 ≤ s.fail) = true := decide_eq_true (by omega)
        have t1'' : decide (0 < s.fail) = true := decide_eq_true (by omega)
        have t2 : decide ((s.calls : Int) + 1 ≥ s.fail) = false := decide_eq_false hk2
        have t2' : decide (s.fail ≤ (s.calls : Int) + 1) = false := decide_eq_false hk2
        clear hf hk2
        go_quiet (fail)
        go_wp2_with fail
        go_meet
        exact ⟨rfl, by first | exact (Drw.refl _).more _ | exact ((Drw.refl _).more _).more _ | exact Drw.refl _⟩
      · have t1 : decide (s.fail ≥ 1) = false := decide_eq_false (by omega)
        have t1' : decide (1 ≤ s.fail) = false := decide_eq_false (by omega)
        have t1'' : decide (0 < s.fail) = false := decide_eq_false (by omega)
        clear hf
        go_quiet (fail)
        go_wp2_with fail
        go_meet
        exact ⟨rfl, by first | exact (Drw.refl _).more _ | exact ((Drw.refl _).more _).more _ | exact Drw.refl _⟩
    obtain ⟨rfl, hcw⟩ := hcut
    have CW := Lib.hid hcw
    have SETC := Lib.hid (blk_keep SET.out hcw.below)
    have HPC := Lib.hid (blk_keep HPW.out hcw.below)
    have v0 := cell_of SETC.out 0 (v := .slice ab bs.length cb) rfl
    have v5 := cell_of SETC.out 5 (v := .int .i64 (i : Nat)) rfl
    clear hcw d0 d1 d2 d4 d5 d6
    by_cases hie : i = bs.length
    · subst hie
      have hl0 : s.left = [] := by rw [HS.out, List.drop_length]
      have FIN := Lib.hid (show ∀ V, Drw W V → RrPost g s bs S w gp n zs (.returned (.tuple #[.int .i64 0, .int .i64 31])) V from fun V hV => by
        have hb3 := hV.below
        have tt := T1.out.trans_below hb3
        have q1 : s.gives n = [] := by rw [E1.out, hl0, List.take_nil]
        refine ⟨by rw [q1, E3.out, if_pos hl0]; rfl, H.out.upd tt HG.out rfl rfl rfl (blk_keep SET.out hb3) HM.out HL.out hi (by show s.rest n = _; rw [E2.out, hl0, List.drop_nil, List.drop_length]), tt, by rw [q1]; exact blk_keep HPW.out hb3⟩)
      have t1 : ((bs.length : Int) == (bs.length : Int)) = true := by simp
      clear hl0
      go_wp2_with fail
      go_quiet (fail)
      go_wp2_with fail
      go_ret2
      exact FIN.out _ (CW.out.trans (by first | exact (Drw.refl _).more _ | exact ((Drw.refl _).more _).more _ | exact Drw.refl _))
    · have hil : i < bs.length := by omega
      have t1 : ((i : Int) == (bs.length : Int)) = false := by rw [beq_eq_false_iff_ne]; omega
      have t1' : (i == bs.length) = false := by rw [beq_eq_false_iff_ne]; exact hie
      have hne : s.left ≠ [] := by rw [HS.out]; intro e; rw [List.drop_eq_nil_iff] at e; omega
      have HNL := Lib.hid hne
      obtain ⟨q, hq⟩ : ∃ q, min k (bs.length - i) = q := ⟨_, rfl⟩
      have hqk : q ≤ k := by omega
      have hqb : i + q ≤ bs.length := by omega
      have HQ := Lib.hid hq
      have CQ := Lib.hid (fun (V : World) (hV : Drw W V) => (show Calls Tryz.prog 169 #[.slice ag ng cg, .int .i64 ((s.calls : Int) + 1), .int .i64 (n : Nat)] V fun e w' => e = .returned (.int .i64 (k : Nat)) ∧ Drw V w' from by
        have hm2 : Lsv fZ V S g (.slice ag ng cg) s.most := HM.out.turns (T1.out.trans_below hV.below) fun j hj hne2 e => by rcases e with e | e; (exact hne2 e); (exact HG.out (e ▸ hj))
        obtain ⟨_, _, _, e, hs, _⟩ := hm2
        cases e
        have := rmost_any ag ng cg s.most (s.calls + 1) n V hs H.out.ints (by omega) (by omega) (by omega)
        rw [HKK.out] at this
        exact this))
      have r2 : IntKind.i64.wrap ((bs.length : Int) - (i : Int)) = (bs.length : Int) - (i : Int) := IntWalk.i64_in _ (by omega)
      clear hie hne hq
      go_wp2_with fail
      go_quiet (fail)
      go_upto_region 8 with (fail)
      obtain ⟨V, hV⟩ : ∃ V, wc.drewN nq = V := ⟨_, rfl⟩
      rw [hV]
      have DV := Lib.hid (show Drw W V from hV ▸ CW.out.more _)
      have SETV := Lib.hid (blk_keep SET.out DV.out.below)
      have HPV := Lib.hid (blk_keep HPW.out DV.out.below)
      have x0 := cell_of SETV.out 0 (v := .slice ab bs.length cb) rfl
      have x1 := cell_of SETV.out 1 (v := .slice ag ng cg) rfl
      have x4 : V.cell? ⟨g, 4, none⟩ = some (.int .i64 ((s.calls : Int) + 1)) := cell_of SETV.out 4 rfl
      have x5 := cell_of SETV.out 5 (v := .int .i64 (i : Nat)) rfl
      clear hV v0 v5 CW SETC HPC
      go_cut [6] (fun b wx => b = .int .i64 (q : Nat) ∧ Drw V wx)
      case first =>
        go_quiet ((go_at_call 169; exact Calls.quiet_of_drw (CQ.out _ (DV.out.trans (by first | exact (Drw.refl _).more _ | exact ((Drw.refl _).more _).more _)))))
        go_wp2_with fail
        go_meet
        refine ⟨val_int ?_, by first | exact (Drw.refl _).more _ | exact ((Drw.refl _).more _).more _ | exact Drw.refl _⟩
        have := HQ.out
        omega
      obtain ⟨rfl, hcw⟩ := hcut
      have VW := Lib.hid hcw
      clear hcw x0 x1 x4 x5
      go_wp2_with fail
      go_loopw [7] (fun x wr => ∃ j : Nat, j ≤ q ∧ x = .int .i64 (j : Nat) ∧ Turns (fun b => b = gp) V wr ∧ wr.heap[gp]? = some (.cells (((s.left).take j ++ zs.drop j).map Bf).toArray 5 (0, 0))) (fun x _ => q - (intOf x).toNat)
      case atStart => exact ⟨0, Nat.zero_le _, rfl, .of_below VW.out.below, blk_keep HPV.out VW.out.below⟩
      case round =>
        obtain ⟨j, hj, rfl, ht, hr⟩ := hrel
        have TT := Lib.hid ht
        have HR := Lib.hid hr
        clear ht hr
        have SR := Lib.hid (TT.out.heap SETV.out HNE.out)
        have e0 := cell_of SR.out 0 (v := .slice ab bs.length cb) rfl
        have e5 := cell_of SR.out 5 (v := .int .i64 (i : Nat)) rfl
        by_cases hlt : j < q
        · have LR : Hid (Sl Bf wr ab bs.length cb bs) := Lib.hid (by
            have := HL.out.turns ((T1.out.trans_below DV.out.below).trans (T := fun j => j = g ∨ j = gp) (TT.out.mono fun _ _ e => .inr e) fun _ _ e => e) fun j hj hne2 e => by rcases e with e | e; (exact hne2 e); (exact HG.out (e ▸ hj))
            obtain ⟨_, _, _, e, hs, _⟩ := this
            cases e
            exact hs)
          obtain ⟨x, b, o, hx, rfl, hcx⟩ := LR.out.at (i + j) (by omega)
          have HX := Lib.hid (show s.left[j]? = some x by rw [HS.out, List.getElem?_drop]; exact hx)
          have hcx : wr.cell? ⟨b, o + (i + j), none⟩ = some (.int .u8 (B x)) := hcx
          have hjz : j < zs.length := by omega
          have hjn : j < n := by omega
          have hij : i + j < bs.length := by omega
          obtain ⟨y, ej⟩ : ∃ y, wr.cell? ⟨gp, j, none⟩ = some y := by
            have hjl : j < (s.left.take j ++ zs.drop j).length := by rw [List.length_append, List.length_drop, List.length_take, HS.out, List.length_drop]; omega
            exact ⟨_, cell_of HR.out j (by show (((s.left.take j ++ zs.drop j).map Bf).toArray)[j]? = _; rw [List.getElem?_toArray, List.getElem?_map, List.getElem?_eq_getElem hjl]; rfl)⟩
          have fj : wr.frozen? ⟨gp, j, none⟩ = false := free_block HR.out j
          have r3 : IntKind.i64.wrap ((i : Int) + (j : Int)) = (i : Int) + (j : Int) := IntWalk.i64_in _ (by omega)
          have SB := Lib.hid (set_block (i := j) HR.out (.int .u8 (B x)))
          clear hx
          go_wp2_with fail
          go_region
          go_wp2_with fail
          go_roundw
          case rel =>
            refine ⟨j + 1, by omega, by go_num, (TT.out.trans (Turns.set (S := fun b => b = gp) wr (b := gp) (i := j) rfl (.int .u8 (B x))) fun _ _ e => e).trans_below ((Below.refl _ _).drew), ?_⟩
            rw [← set_next HX.out hjz]
            exact SB.out
          case measure => simp [intOf]; omega
        · obtain rfl : j = q := by omega
          have f5 : wr.frozen? ⟨g, 5, none⟩ = false := free_block SR.out 5
          have r3 : IntKind.i64.wrap ((i : Int) + (j : Int)) = (i : Int) + (j : Int) := IntWalk.i64_in _ (by omega)
          have hset9 : (wr.setCell ⟨g, 5, none⟩ (.int .i64 ((i : Int) + (j : Int)))).heap[g]? = some (.cells (rcells ab bs.length cb ag ng cg s.fail s.eager (s.calls + 1) (i + j)) 65 (0, 0)) := set_block (i := 5) SR.out (.int .i64 ((i : Int) + (j : Int)))
          have SET9 := Lib.hid hset9
          have y0 : (wr.setCell ⟨g, 5, none⟩ (.int .i64 ((i : Int) + (j : Int)))).cell? ⟨g, 0, none⟩ = some (.slice ab bs.length cb) := cell_of hset9 0 rfl
          have y3 : (wr.setCell ⟨g, 5, none⟩ (.int .i64 ((i : Int) + (j : Int)))).cell? ⟨g, 3, none⟩ = some (.bool s.eager) := cell_of hset9 3 rfl
          have y5 : (wr.setCell ⟨g, 5, none⟩ (.int .i64 ((i : Int) + (j : Int)))).cell? ⟨g, 5, none⟩ = some (.int .i64 ((i : Int) + (j : Int))) := cell_of hset9 5 rfl
          have T9 := Lib.hid (((T1.out.trans_below DV.out.below).trans (T := fun j => j = g ∨ j = gp) (TT.out.mono fun _ _ e => .inr e) fun _ _ e => e).trans (T := fun j => j = g ∨ j = gp) (Turns.set (S := fun j => j = g ∨ j = gp) wr (b := g) (i := 5) (.inl rfl) (.int .i64 ((i : Int) + (j : Int)))) fun _ _ e => e)
          have hL : s.left.length = bs.length - i := by rw [HS.out, List.length_drop]
          have hq := HQ.out
          have htk : s.left.take k = s.left.take j := by
            by_cases hh : k ≤ s.left.length
            · rw [show j = k by omega]
            · rw [List.take_of_length_le (by omega), List.take_of_length_le (by omega)]
          have hdk : s.left.drop k = bs.drop (i + j) := by
            rw [HS.out, List.drop_drop]
            by_cases hh : k ≤ s.left.length
            · rw [show j = k by omega]
            · rw [List.drop_of_length_le (by omega), List.drop_of_length_le (by omega)]
          have hgl : (s.gives n).length = j := by rw [E1.out, htk, List.length_take]; omega
          have hdz : s.left.drop k = [] ↔ i + j = bs.length := by rw [hdk, List.drop_eq_nil_iff]; omega
          have FIN := Lib.hid (show ∀ Z (er : Nat), s.err n = er → Drw (wr.setCell ⟨g, 5, none⟩ (.int .i64 ((i : Int) + (j : Int)))) Z → RrPost g s bs S w gp n zs (.returned (.tuple #[.int .i64 (j : Nat), .int .i64 (er : Nat)])) Z from fun Z er he hZ => by
            have hb3 := hZ.below
            have tt := T9.out.trans_below hb3
            refine ⟨by rw [hgl, he], H.out.upd tt HG.out rfl rfl rfl (blk_keep SET9.out hb3) HM.out HL.out (by omega) (by show s.rest n = _; rw [E2.out, hdk]), tt, ?_⟩
            rw [hgl, E1.out, htk]
            refine blk_keep ?_ hb3
            rw [Below.heap_setCell _ _ _ _ (Ne.symm HNE.out)]
            exact HR.out)
          have HDZ := Lib.hid hdz
          obtain ⟨eg, heg⟩ : ∃ e, s.eager = e := ⟨_, rfl⟩
          rw [heg] at y3
          clear hset9 hL hq htk hdk hgl hdz T9 hlt
          cases eg with
          | false =>
            have HER := Lib.hid (show s.err n = 0 by rw [E3.out, if_neg HNL.out, heg]; rfl)
            clear heg
            go_wp2_with fail
            go_quiet (fail)
            go_wp2_with fail
            go_ret2
            exact FIN.out _ 0 HER.out (by first | exact (Drw.refl _).more _ | exact ((Drw.refl _).more _).more _ | exact Drw.refl _)
          | true =>
            by_cases h0 : i + j = bs.length
            · have HER := Lib.hid (show s.err n = 31 by rw [E3.out, if_neg HNL.out, heg, if_pos ⟨rfl, HDZ.out.2 h0⟩])
              have t5 : ((i : Int) + (j : Int) == (bs.length : Int)) = true := by rw [beq_iff_eq]; omega
              clear heg h0
              go_wp2_with fail
              go_quiet (fail)
              go_wp2_with fail
              go_ret2
              exact FIN.out _ 31 HER.out (by first | exact (Drw.refl _).more _ | exact ((Drw.refl _).more _).more _ | exact Drw.refl _)
            · have HER := Lib.hid (show s.err n = 0 by rw [E3.out, if_neg HNL.out, heg, if_neg fun e => h0 (HDZ.out.1 e.2)])
              have t5 : ((i : Int) + (j : Int) == (bs.length : Int)) = false := by rw [beq_eq_false_iff_ne]; omega
              clear heg h0
              go_wp2_with fail
              go_quiet (fail)
              go_wp2_with fail
              go_ret2
              exact FIN.out _ 0 HER.out (by first | exact (Drw.refl _).more _ | exact ((Drw.refl _).more _).more _ | exact Drw.refl _)
end Go.Proofs.YtljcogimeimknaaGreat
/- The document's sink, not odd: contract of Write. Conditions: numbers and what is taken within reach. -/
namespace Go.Proofs.YtljcogimeimknaaGreat
open Go.RowKit
set_option maxRecDepth 100000
set_option linter.unusedVariables false
set_option linter.unusedSimpArgs false

end Go.Proofs.YtljcogimeimknaaGreat
/- The document's readers and writers of any make, in memory; its source and its sink are such. Conditions: numbers within reach. -/
namespace Go.Proofs.YtljcogimeimknaaGreat
open Go.RowKit
set_option linter.unusedVariables false

/-- a reader of the document's in memory: what it was handed lies below lo, its own blocks are S -/
structure RdrL {σ : Type} (R : Rm σ) (v : Value) (lo Bd : Nat) (St : σ → (Nat → Prop) → World → Prop) : Prop where
  frame : ∀ s S T w w', St s S w → Turns T w w' → (∀ j, S j → ¬ T j) → (∀ j, T j → lo ≤ j) → St s S w'
  inS : ∀ s S w, St s S w → ∀ j, S j → lo ≤ j ∧ j < w.heap.size
  read : ∀ s S w g n c (zs : List UInt8), St s S w → R.cnt s < Bd → n ≤ zs.length → n ≤ c → n ≤ 65537 → w.heap[g]? = some (.cells (zs.map Bf).toArray 5 (0, 0)) → ¬ S g → lo ≤ g →
    Calls Tryz.prog 165 #[v, .slice (some ⟨g, 0, none⟩) n c] w fun e w' => e = .returned (.tuple #[.int .i64 (R.num s n), .int .i64 (R.er s n)]) ∧ ∃ S', St (R.nxt s n) S' w' ∧ (∀ j, S' j → S j ∨ w.heap.size ≤ j) ∧
      Turns (fun j => S j ∨ j = g) w w' ∧ w'.heap[g]? = some (.cells ((R.lay s n ++ zs.drop (R.lay s n).length).map Bf).toArray 5 (0, 0))
/-- the document's source, not odd -/
def StR (g lo : Nat) (bs : List UInt8) (s : Src) (S : Nat → Prop) (w : World) : Prop := (∀ j, S j ↔ j = g) ∧ RsP g s bs (fun j => j < lo ∨ j = g) w ∧ lo ≤ g
theorem rsrcL (g lo : Nat) (bs : List UInt8) (hbl : bs.length ≤ 140737488351232) : RdrL srcM (.pointer (some ⟨g, 0, none⟩)) lo 2305843009213693952 (StR g lo bs) where
  frame s S T w w' h ht hd hT := ⟨h.1, h.2.1.turns ht fun j hj e => by
    rcases hj with hj | hj
    · have := hT j e; omega
    · exact hd j ((h.1 j).2 hj) e, h.2.2⟩
  inS s S w h j hj := by
    have e := (h.1 j).1 hj
    subst e
    exact ⟨h.2.2, h.2.1.inS j (.inr rfl)⟩
  read s S w p n c zs h hc hn hnc hz hp hg hlg := by
    have hpg : p ≠ g := fun e => hg ((h.1 p).2 e)
    refine (rsread_any g s bs _ p n c zs w h.2.1 (Nat.le_of_lt hc) hbl hn hnc (by omega) hp (fun e => by rcases e with e | e; (omega); (exact hpg e))).mono ?_
    rintro e w' ⟨rfl, h1, h2, h3⟩
    exact ⟨rfl, S, ⟨h.1, h1, h.2.2⟩, fun j hj => .inl hj, h2.mono fun j _ e => by rcases e with e | e; (exact .inl ((h.1 j).2 e)); (exact .inr e), h3⟩
end Go.Proofs.YtljcogimeimknaaGreat
/- The document's In: ask, want: contracts over any reader of the document's. Conditions: numbers and what is taken within reach. -/
namespace Go.Proofs.YtljcogimeimknaaGreat
open Go.RowKit Go.Shelf
set_option maxRecDepth 100000
set_option linter.unusedVariables false
set_option linter.unusedSimpArgs false

/-- the document's In in block g -/
def RInB (w : World) (g : Nat) (most : Int) (rp : Value) (pl : Nat) (er : Int) (i : Nat) (hv : Value) : Prop :=
  w.heap[g]? = some (.cells #[rp, .int .i64 most, .int .i64 (pl : Nat), .int .i64 er, hv, .int .i64 (i : Nat)] 119 (0, 0))
section
variable {w w' : World} {g pl i : Nat} {most er : Int} {rp hv : Value}
theorem RInB.c0 (h : RInB w g most rp pl er i hv) : w.cell? ⟨g, 0, none⟩ = some rp := cell_of h 0 rfl
theorem RInB.c1 (h : RInB w g most rp pl er i hv) : w.cell? ⟨g, 1, none⟩ = some (.int .i64 most) := cell_of h 1 rfl
theorem RInB.c2 (h : RInB w g most rp pl er i hv) : w.cell? ⟨g, 2, none⟩ = some (.int .i64 (pl : Nat)) := cell_of h 2 rfl
theorem RInB.c3 (h : RInB w g most rp pl er i hv) : w.cell? ⟨g, 3, none⟩ = some (.int .i64 er) := cell_of h 3 rfl
theorem RInB.c4 (h : RInB w g most rp pl er i hv) : w.cell? ⟨g, 4, none⟩ = some hv := cell_of h 4 rfl
theorem RInB.c5 (h : RInB w g most rp pl er i hv) : w.cell? ⟨g, 5, none⟩ = some (.int .i64 (i : Nat)) := cell_of h 5 rfl
theorem RInB.free (h : RInB w g most rp pl er i hv) (k : Nat) : w.frozen? ⟨g, k, none⟩ = false := free_block h k
theorem RInB.lt (h : RInB w g most rp pl er i hv) : g < w.heap.size := (Array.getElem?_eq_some_iff.1 h).1
theorem RInB.turns {S : Nat → Prop} (h : RInB w g most rp pl er i hv) (ht : Turns S w w') (hs : ¬ S g) : RInB w' g most rp pl er i hv := ht.heap h hs
theorem RInB.s2 (h : RInB w g most rp pl er i hv) (k : Nat) : RInB (w.setCell ⟨g, 2, none⟩ (.int .i64 (k : Nat))) g most rp k er i hv := set_block (i := 2) h _
theorem RInB.s3 (h : RInB w g most rp pl er i hv) (e : Int) : RInB (w.setCell ⟨g, 3, none⟩ (.int .i64 e)) g most rp pl e i hv := set_block (i := 3) h _
theorem RInB.s4 (h : RInB w g most rp pl er i hv) (x : Value) : RInB (w.setCell ⟨g, 4, none⟩ x) g most rp pl er i x := set_block (i := 4) h _
theorem RInB.s5 (h : RInB w g most rp pl er i hv) (k : Nat) : RInB (w.setCell ⟨g, 5, none⟩ (.int .i64 (k : Nat))) g most rp pl er k hv := set_block (i := 5) h _
end
/-- behind ask -/
def AskPost {σ : Type} (R : Rm σ) (St : σ → (Nat → Prop) → World → Prop) (g : Nat) (most : Int) (v : Value) (pl : Nat) (er : Int) (i : Nat) (hv : Value) (s : σ) (S : Nat → Prop) (m : Nat) (w : World) (r : Ending) (w' : World) : Prop :=
  ∃ S', St (R.nxt s m) S' w' ∧ (∀ j, S' j → S j ∨ w.heap.size ≤ j) ∧ Turns (fun j => S j ∨ j = g) w w' ∧
    ((R.num s m < 0 ∨ (m : Int) < R.num s m) → r = .returned (.tuple #[.slice none 0 0, .int .i64 34]) ∧ RInB w' g most v pl er i hv) ∧
    (¬ (R.num s m < 0 ∨ (m : Int) < R.num s m) → ∃ p, w.heap.size ≤ p ∧ ¬ S' p ∧ r = .returned (.tuple #[.slice (some ⟨p, 0, none⟩) (R.num s m).toNat m, .int .i64 (R.er s m)]) ∧ Sl Bf w' (some ⟨p, 0, none⟩) (R.num s m).toNat m ((R.lay s m).take (R.num s m).toNat) ∧ RInB w' g most v pl er (tkI R s i m) hv)
set_option maxHeartbeats 4000000 in
theorem rask_any {σ : Type} {R : Rm σ} {v : Value} {lo Br : Nat} {St : σ → (Nat → Prop) → World → Prop} (RL : RdrL R v lo Br St)
    (g : Nat) (most : Int) (pl : Nat) (er : Int) (i : Nat) (hv : Value) (s : σ) (S : Nat → Prop) (n m : Nat) (w : World) (hI : RInB w g most v pl er i hv) (hS : St s S w) (hgS : ¬ S g) (hlg : lo ≤ g)
    (hn1 : 1 ≤ n) (hn : n ≤ 9223372036854775807) (hm : min n 4096 = m) (hi : i ≤ 15) (hc : R.cnt s < Br) :
    Calls Tryz.prog 144 #[.pointer (some ⟨g, 0, none⟩), .int .i64 (n : Nat)] w (AskPost R St g most v pl er i hv s S m w) := by
  have hM3 : min (n : Int) 4096 = (m : Nat) := by omega
  have hM1 : (if (n : Int) < 4096 then (n : Int) else 4096) = (m : Nat) := by split <;> omega
  have hM2 : (if 4096 < (n : Int) then 4096 else (n : Int)) = (m : Nat) := by split <;> omega
  have hm1 : 1 ≤ m ∧ m ≤ 4096 := by omega
  have IB := Lib.hid hI
  have ST := Lib.hid hS
  have NG := Lib.hid hgS
  have lg := hI.lt
  clear hm hI hS hgS
  go_enter Tryz.func144, Tryz.ntmps144
  go_wp2_with (refine wpList_mkT eltTB rfl (.tmp 11) (.tmp 11) rfl 0 m m (Nat.le_refl _) (by rfl) (by rfl) rfl rfl (by omega) (by simp only [maxLen]; omega) (Nat.zero_le _) ?_; intro x0 wp hp _ _ hbp; have HP := Lib.hid (show wp.heap[w.heap.size]? = some (.cells ((List.replicate m x0).map Bf).toArray 5 (0, 0)) by rw [← flat_fB]; exact hp); have HBP := Lib.hid hbp; have c0 := (IB.out.turns (Turns.of_below (S := fun _ => False) HBP.out) id).c0; clear hp hbp)
  have hgp : ¬ S w.heap.size := fun h => by have := (RL.inS _ _ _ ST.out _ h).2; omega
  have STP := Lib.hid (RL.frame _ _ (fun _ => False) _ _ ST.out (.of_below HBP.out) (fun _ _ e => e) (fun _ e => e.elim))
  have hlayE := R.layE s m
  refine (RL.read s S wp w.heap.size m m (List.replicate m x0) STP.out hc (by simp) (Nat.le_refl _) (by omega) HP.out hgp (by omega)).mono ?_
  rintro e W1 ⟨rfl, S1, hst1, hS1, hT1, hr1⟩
  have T1 := (Turns.of_below (S := fun j => S j ∨ j = w.heap.size) HBP.out).trans hT1 fun _ _ e => e
  have SUB := Lib.hid (show ∀ j, S1 j → S j ∨ w.heap.size ≤ j from fun j hj => by
    rcases hS1 j hj with e | e
    · exact .inl e
    · exact .inr (Nat.le_trans HBP.out.size e))
  have IB1 := Lib.hid (IB.out.turns T1 fun e => by rcases e with e | e; (exact NG.out e); (omega))
  have TU1 := Lib.hid (show Turns (fun j => S j ∨ j = g) w W1 from T1.mono fun j hj e => by rcases e with e | e; (exact .inl e); (omega))
  have NP := Lib.hid (show ¬ S1 w.heap.size from fun h => by
    rcases hS1 _ h with e | e
    · exact hgp e
    · have := (Array.getElem?_eq_some_iff.1 HP.out).1; omega)
  have ST1 := Lib.hid hst1
  have R1 := Lib.hid hr1
  have NG1 := Lib.hid (show ¬ S1 g from fun h => by rcases SUB.out g h with e | e; (exact NG.out e); (omega))
  obtain ⟨z, hz⟩ : ∃ z, R.num s m = z := ⟨_, rfl⟩
  obtain ⟨ee, hee⟩ : ∃ ee, R.er s m = ee := ⟨_, rfl⟩
  have HZ := Lib.hid hz
  have HEE := Lib.hid hee
  have hnb := R.numB s m (by omega)
  have TKI := Lib.hid (show tkI R s i m = waitN i (decide (0 < z) || decide (ee ≠ 0)) by unfold tkI; rw [hz, hee])
  unfold AskPost
  rw [hz] at hlayE hnb
  rw [hz, hee, TKI.out]
  obtain ⟨p, hp⟩ : ∃ p, w.heap.size = p := ⟨_, rfl⟩
  rw [hp] at R1 NP ⊢
  have hpw : w.heap.size ≤ p := by omega
  clear hz hee hst1 hS1 hT1 hr1 hgp STP HP HBP T1 hM1 hM2 hM3 c0 hp
  by_cases hbad : z < 0 ∨ (m : Int) < z
  · have BAD := Lib.hid hbad
    rcases hbad with h | h
    case' inl =>
      have u1 : decide (z < 0) = true := decide_eq_true h
      clear h
    case' inr =>
      have u1 : decide (z < 0) = false := decide_eq_false (by omega)
      have u2 : decide (z > (m : Int)) = true := decide_eq_true h
      have u2' : decide ((m : Int) < z) = true := decide_eq_true h
      clear h
    all_goals
      go_wp2_with fail
      go_ret2
      exact ⟨S1, ST1.out, SUB.out, TU1.out, fun _ => ⟨rfl, IB1.out⟩, fun h => absurd BAD.out (by rw [HZ.out] at h; exact h)⟩
  · obtain ⟨k, rfl⟩ : ∃ k : Nat, z = k := ⟨z.toNat, by omega⟩
    rw [Int.toNat_natCast]
    have hks : k ≤ m := by omega
    have hlk : (R.lay s m).length = k := by have := hlayE (by omega) (by omega); omega
    obtain ⟨P, hP⟩ : ∃ P, R.lay s m = P := ⟨_, rfl⟩
    have HPL := Lib.hid hP
    rw [hP] at R1 hlk ⊢
    have SL1 := Lib.hid (show Sl Bf W1 (some ⟨p, 0, none⟩) k m (P.take k) from by rw [List.take_of_length_le (by omega)]; exact Sl.of_row _ _ _ R1.out hlk hks (by rw [List.map_append, List.take_left' (by rw [List.length_map]; exact hlk)]))
    have hcut := fun W : World => run_cutto eltB W (some ⟨p, 0, none⟩) m m .i64 k hks
    have NB := Lib.hid (show ¬ ((k : Int) < 0 ∨ (m : Int) < k) by omega)
    have v1 : decide ((k : Int) < 0) = false := decide_eq_false (by omega)
    have v2 : decide ((k : Int) > (m : Int)) = false := decide_eq_false (by omega)
    have v2' : decide (m < k) = false := decide_eq_false (by omega)
    have r1 : IntKind.i64.wrap ((i : Int) + 1) = (i : Int) + 1 := IntWalk.i64_in _ (by omega)
    have c5 := IB1.out.c5
    have f5 := IB1.out.free 5
    have IB2 := Lib.hid (show RInB (W1.setCell ⟨g, 5, none⟩ (.int .i64 ((i : Int) + 1))) g most v pl er (i + 1) hv from IB1.out.s5 (i + 1))
    have c5' : (W1.setCell ⟨g, 5, none⟩ (.int .i64 ((i : Int) + 1))).cell? ⟨g, 5, none⟩ = some (.int .i64 ((i : Int) + 1)) := IB2.out.c5
    have f5' : (W1.setCell ⟨g, 5, none⟩ (.int .i64 ((i : Int) + 1))).frozen? ⟨g, 5, none⟩ = false := IB2.out.free 5
    have hpg : p ≠ g := by omega
    have END := Lib.hid (fun (W : World) (x : Nat) (hT : Turns (fun j => j = g) W1 W) (hI : RInB W g most v pl er x hv) (hx : x = waitN i (decide (0 < k) || decide (ee ≠ 0))) =>
      show St (R.nxt s m) S1 W ∧ (∀ j, S1 j → S j ∨ w.heap.size ≤ j) ∧ Turns (fun j => S j ∨ j = g) w W ∧ Sl Bf W (some ⟨p, 0, none⟩) k m (P.take k) ∧ RInB W g most v pl er (waitN i (decide (0 < k) || decide (ee ≠ 0))) hv from
      ⟨RL.frame _ _ _ _ _ ST1.out hT (fun j hj e => by subst e; exact NG1.out hj) (fun j e => by have e : j = g := e; omega), SUB.out, TU1.out.trans hT fun j _ e => .inr e, SL1.out.turns hT fun b o e _ e2 => by injection e with e; injection e with e; have e2 : b = g := e2; omega, by rw [← hx]; exact hI⟩)
    clear hP hlk hlayE hbad hnb
    by_cases hk0 : 0 < k
    case' pos =>
      have u4 : decide ((k : Int) > 0) = true := decide_eq_true (by omega)
      have u4' : decide (0 < k) = true := decide_eq_true hk0
      have IB3 : RInB ((W1.setCell ⟨g, 5, none⟩ (.int .i64 ((i : Int) + 1))).setCell ⟨g, 5, none⟩ (.int .i64 0)) g most v pl er 0 hv := IB2.out.s5 0
      have T3 : Turns (fun j => j = g) W1 ((W1.setCell ⟨g, 5, none⟩ (.int .i64 ((i : Int) + 1))).setCell ⟨g, 5, none⟩ (.int .i64 0)) := (setT W1 5 (.int .i64 ((i : Int) + 1))).trans (setT _ 5 (.int .i64 0)) fun _ _ e => e
      have hw0 : waitN i (decide (0 < k) || decide (ee ≠ 0)) = 0 := by rw [u4', Bool.true_or]; rfl
      have E2 := Lib.hid (END.out _ 0 T3 IB3 hw0.symm)
      clear IB3 T3 hw0
    case' neg =>
      have u4 : decide ((k : Int) > 0) = false := decide_eq_false (by omega)
      have u4' : decide (0 < k) = false := decide_eq_false hk0
      by_cases h0 : ee = 0
      case' pos =>
        have u5 : (ee != 0) = false := by rw [bne_eq_false_iff_eq]; exact h0
        have hw0 : waitN i (decide (0 < k) || decide (ee ≠ 0)) = i + 1 := by rw [u4', decide_eq_false (fun h => h h0)]; rfl
        have E2 := Lib.hid (END.out _ (i + 1) (setT W1 5 (.int .i64 ((i : Int) + 1))) IB2.out hw0.symm)
        clear hw0
        clear h0
      case' neg =>
        have u5 : (ee != 0) = true := by rw [bne_iff_ne]; exact h0
        have IB3 : RInB ((W1.setCell ⟨g, 5, none⟩ (.int .i64 ((i : Int) + 1))).setCell ⟨g, 5, none⟩ (.int .i64 0)) g most v pl er 0 hv := IB2.out.s5 0
        have T3 : Turns (fun j => j = g) W1 ((W1.setCell ⟨g, 5, none⟩ (.int .i64 ((i : Int) + 1))).setCell ⟨g, 5, none⟩ (.int .i64 0)) := (setT W1 5 (.int .i64 ((i : Int) + 1))).trans (setT _ 5 (.int .i64 0)) fun _ _ e => e
        have hw0 : waitN i (decide (0 < k) || decide (ee ≠ 0)) = 0 := by rw [u4', decide_eq_true h0, Bool.or_true]; rfl
        have E2 := Lib.hid (END.out _ 0 T3 IB3 hw0.symm)
        clear IB3 T3 hw0
        clear h0
    all_goals
      clear hk0 END
      go_wp2_with fail
      go_ret2
      obtain ⟨q1, q2, q3, q4, q5⟩ := E2.out
      refine ⟨S1, q1, q2, q3, fun h => absurd (by rw [HZ.out] at h; exact h) NB.out, fun _ => ⟨p, hpw, NP.out, ?_, ?_, ?_⟩⟩
      · rw [HZ.out, HEE.out, Int.toNat_natCast]; rfl
      · rw [HZ.out, Int.toNat_natCast, HPL.out]; exact q4
      · rw [TKI.out, show decide (0 < (k : Int)) = decide (0 < k) by simp]; exact q5
end Go.Proofs.YtljcogimeimknaaGreat
/- The document's In: want: contract over any reader of the document's. Conditions: numbers and what is taken within reach. -/
namespace Go.Proofs.YtljcogimeimknaaGreat
open Go.RowKit Go.Shelf
set_option maxRecDepth 100000
set_option linter.unusedVariables false
set_option linter.unusedSimpArgs false

/-- behind want -/
def WantPost {σ : Type} (St : σ → (Nat → Prop) → World → Prop) (lo : Nat) (X : List UInt8 × Int × σ × Nat) (S0 : Nat → Prop) (hv : Value) (g : Nat) (most : Int) (v : Value) (pl : Nat) (er : Int) (w : World) (r : Ending) (w' : World) : Prop :=
  ∃ bv S' b', r = .returned (.tuple #[bv, .int .i64 X.2.1]) ∧ (X.2.1 = 0 → b' = X.1) ∧ OwT fB w' lo 5 bv b' ∧ RInB w' g most v pl er X.2.2.2 (.slice none 0 0) ∧ St X.2.2.1 S' w' ∧ (∀ j, S' j → S0 j ∨ w.heap.size ≤ j) ∧
    (∀ j, bv.ownBlock = some j → ¬ S' j ∧ j ≠ g ∧ (hv.ownBlock = some j ∨ w.heap.size ≤ j)) ∧ Turns (fun j => S0 j ∨ j = g ∨ hv.ownBlock = some j) w w'
/-- in the midst of want -/
structure WnM {σ : Type} (R : Rm σ) (St : σ → (Nat → Prop) → World → Prop) (lo : Nat) (X : List UInt8 × Int × σ × Nat) (w : World) (S0 : Nat → Prop) (hv : Value) (g : Nat) (most : Int) (v : Value) (pl : Nat) (er : Int) (n i0 : Nat) (s0 : σ) (F : Nat) (bv : Value) (b : List UInt8) (s : σ) (S : Nat → Prop) (i : Nat) (W : World) : Prop where
  eq : tk R F s i b n = X
  ow : OwT fB W lo 5 bv b
  io : RInB W g most v pl er i (.slice none 0 0)
  st : St s S W
  sub : ∀ j, S j → S0 j ∨ w.heap.size ≤ j
  dis : ∀ j, bv.ownBlock = some j → ¬ S j ∧ j ≠ g ∧ (hv.ownBlock = some j ∨ w.heap.size ≤ j)
  tu : Turns (fun j => S0 j ∨ j = g ∨ hv.ownBlock = some j) w W
  il : i ≤ 15
  len : b.length ≤ n
  cap : n ≤ 140737488355328 ∨ ∃ vo : σ → Nat, (∀ s n, 0 ≤ R.num s n → R.num s n ≤ n → vo (R.nxt s n) + (R.num s n).toNat ≤ vo s) ∧ b.length + vo s ≤ 140737488351233
  fl : n ≤ b.length ∨ (R.mu s * 17 + 16 - i < F ∧ R.cnt s + R.mu s * 17 + i0 ≤ R.cnt s0 + R.mu s0 * 17 + i)
theorem WnM.fin {σ : Type} {R : Rm σ} {St : σ → (Nat → Prop) → World → Prop} {lo : Nat} {X : List UInt8 × Int × σ × Nat} {w : World} {S0 : Nat → Prop} {hv : Value} {g : Nat} {most : Int} {v : Value} {pl : Nat} {er : Int} {n i0 : Nat} {s0 : σ} {F : Nat} {bv : Value} {b : List UInt8} {s : σ} {S : Nat → Prop} {i : Nat} {W : World}
    (h : WnM R St lo X w S0 hv g most v pl er n i0 s0 F bv b s S i W) {bx : List UInt8} {e : Int} (hX : X = (bx, e, s, i)) (hb : e = 0 → b = bx) : WantPost St lo X S0 hv g most v pl er w (.returned (.tuple #[bv, .int .i64 e])) W := by
  obtain ⟨-, h2, h3, h4, h5, h6, h7, -, -, -, -⟩ := h
  subst hX
  exact ⟨bv, S, b, rfl, hb, h2, h3, h4, h5, h6, h7⟩
set_option maxHeartbeats 4000000 in
theorem rwant_any {σ : Type} {R : Rm σ} {v : Value} {lo Br : Nat} {St : σ → (Nat → Prop) → World → Prop} (RL : RdrL R v lo Br St) (hmu : ∀ s n, R.mu (R.nxt s n) ≤ R.mu s)
    (g : Nat) (most : Int) (pl : Nat) (er : Int) (s0 : σ) (S0 : Nat → Prop) (i0 : Nat) (held : List UInt8) (hv : Value) (n : Nat) (w : World) (hI : RInB w g most v pl er i0 hv) (hH : OwT fB w lo 5 hv held) (hhS : ∀ j, hv.ownBlock = some j → ¬ S0 j ∧ j ≠ g) (hS : St s0 S0 w) (hgS : ¬ S0 g) (hlg : lo ≤ g)
    (hh1 : held.length ≤ 1) (hn1 : 1 ≤ n) (hn : n ≤ 9223372036854775807) (hi : i0 ≤ 15) (hc : R.cnt s0 + R.mu s0 * 17 + 32 ≤ Br) (hcap : Caps R s0 n) :
    Calls Tryz.prog 102 #[.pointer (some ⟨g, 0, none⟩), .int .i64 (n : Nat)] w (WantPost St lo (tk R (R.mu s0 * 17 + 17) s0 i0 held n) S0 hv g most v pl er w) := by
  obtain ⟨X, hX⟩ : ∃ X, tk R (R.mu s0 * 17 + 17) s0 i0 held n = X := ⟨_, rfl⟩
  rw [hX]
  have lg := hI.lt
  have c4 := hI.c4
  have f4 := hI.free 4
  have NG := Lib.hid hgS
  have HC := Lib.hid hc
  have TT := setT (g := g) w 4 (.slice none 0 0)
  have hlh := hH.lt
  have T0 := Lib.hid (show WnM R St lo X w S0 hv g most v pl er n i0 s0 (R.mu s0 * 17 + 17) hv held s0 S0 i0 (w.setCell ⟨g, 4, none⟩ (.slice none 0 0)) from
    { eq := hX, ow := hH.turns TT fun j hj e => (hhS j hj).2 e, io := hI.s4 _, st := RL.frame _ _ _ _ _ hS TT (fun j hj e => by have e : j = g := e; subst e; exact hgS hj) (fun j e => by have e : j = g := e; omega), sub := fun j hj => .inl hj
      dis := fun j hj => ⟨(hhS j hj).1, (hhS j hj).2, .inl hj⟩, tu := TT.mono fun j _ e => .inr (.inl e), il := hi, len := by omega
      cap := by
        rcases hcap with h | ⟨vo, h1, h2⟩
        · exact .inl h
        · exact .inr ⟨vo, h1, by omega⟩
      fl := .inr ⟨by omega, Nat.le_refl _⟩ })
  have LH := Lib.hid hlh
  clear hI hH hhS hS hgS hc hcap hX TT hlh
  go_enter Tryz.func102, Tryz.ntmps102
  go_wp2_with fail
  clear c4 f4
  go_loopg [6] (R.mu s0 * 17 + 17) (fun F v6 wr => ∃ b s S i, WnM R St lo X w S0 hv g most v pl er n i0 s0 F v6 b s S i wr)
  case atStart => exact ⟨held, s0, S0, i0, T0.out⟩
  case round =>
    obtain ⟨b, s, S, i, hM⟩ := hrel
    have M := Lib.hid hM
    obtain ⟨a, cc, hv6, -⟩ := hM.ow.slB
    subst hv6
    clear hM T0
    by_cases hlt : b.length < n
    · obtain ⟨r, hr⟩ : ∃ r, n - b.length = r := ⟨_, rfl⟩
      obtain ⟨m, hm⟩ : ∃ m, askN n b.length = m := ⟨_, rfl⟩
      have hmr : min r 4096 = m := by rw [← hm, ← hr]; rfl
      have HM := Lib.hid hm
      have t1 : decide ((b.length : Int) < (n : Int)) = true := decide_eq_true (by omega)
      have t1' : decide (b.length < n) = true := decide_eq_true hlt
      have r1 : IntKind.i64.wrap ((n : Int) - (b.length : Int)) = (r : Nat) := by rw [IntWalk.i64_in _ (by omega)]; omega
      have hil := M.out.il
      have hfl : R.mu s * 17 + 16 - i < gk ∧ R.cnt s + R.mu s * 17 + i0 ≤ R.cnt s0 + R.mu s0 * 17 + i := by
        rcases M.out.fl with h | h
        · omega
        · exact h
      have hgw := M.out.io.lt
      have gS : ¬ S g := fun h => by rcases M.out.sub g h with e | e; (exact NG.out e); (omega)
      have AK := Lib.hid (rask_any RL g most pl er i (.slice none 0 0) s S r m wr M.out.io M.out.st gS hlg (by omega) (by omega) hmr hil (by have := HC.out; omega))
      have hrm : m ≤ r ∧ 1 ≤ m := by omega
      have hrn : r = n - b.length := hr.symm
      have HRN := Lib.hid hrn
      have HFL := Lib.hid hfl
      clear hm hr hmr hrn hfl gS
      obtain ⟨F, hF⟩ : ∃ F, gk = F + 1 := ⟨gk - 1, by have := HFL.out; omega⟩
      subst hF
      go_wp2_with fail
      refine AK.out.mono ?_
      rintro e W1 ⟨S1, hst1, hS1, hT1, hq1, hq2⟩
      have hwz : w.heap.size ≤ wr.heap.size := M.out.tu.size
      have hlo := M.out.ow.lt
      have O1 := Lib.hid (M.out.ow.turns hT1 fun j hj e => by rcases e with e | e; (exact (M.out.dis j hj).1 e); (exact (M.out.dis j hj).2.1 e))
      have SUB1 := Lib.hid (show ∀ j, S1 j → S0 j ∨ w.heap.size ≤ j from fun j hj => by rcases hS1 j hj with e | e; (exact M.out.sub j e); (exact .inr (by omega)))
      have DIS1 := Lib.hid (show ∀ j, Value.ownBlock (.slice a b.length cc) = some j → ¬ S1 j ∧ j ≠ g ∧ (hv.ownBlock = some j ∨ w.heap.size ≤ j) from fun j hj => ⟨fun h => by rcases hS1 j h with e | e; (exact (M.out.dis j hj).1 e); (have := (hlo j hj).2; omega), (M.out.dis j hj).2⟩)
      have TU1 := Lib.hid (M.out.tu.trans hT1 fun j hj e => by
        rcases e with e | e
        · rcases M.out.sub j e with h | h
          · exact .inl h
          · omega
        · exact .inr (.inl e))
      have ST1 := Lib.hid hst1
      have LT1 := Lib.hid (show ∀ j, Value.ownBlock (.slice a b.length cc) = some j → lo ≤ j ∧ j < W1.heap.size from fun j hj => ⟨(hlo j hj).1, by have := (hlo j hj).2; have := hT1.size; omega⟩)
      have HIN := Lib.hid (RL.inS _ _ _ hst1)
      have hw1 : lo ≤ W1.heap.size ∧ w.heap.size ≤ W1.heap.size := by have := hT1.size; omega
      obtain ⟨z, hz⟩ : ∃ z, R.num s m = z := ⟨_, rfl⟩
      obtain ⟨ee, hee⟩ : ∃ ee, R.er s m = ee := ⟨_, rfl⟩
      have HZ := Lib.hid hz
      have HEE := Lib.hid hee
      rw [hz] at hq1 hq2
      rw [hee] at hq2
      have EQ := Lib.hid M.out.eq
      have CAP := Lib.hid M.out.cap
      have hbl := M.out.len
      have hlayE := R.layE s m
      rw [hz] at hlayE
      clear hz hee hst1 hS1 hT1 M hlo AK
      by_cases hbad : z < 0 ∨ (m : Int) < z
      · obtain ⟨rfl, hio1⟩ := hq1 hbad
        have XE := Lib.hid (show X = ([], 34, R.nxt s m, i) by rw [← EQ.out]; exact tk_bad (by omega) HM.out (by rw [HZ.out]; exact hbad))
        have IO1 := Lib.hid hio1
        clear hq1 hq2 hbad hio1 hlayE
        go_wp2_with (at_builtin; refine wpList_appT eltTB rfl (.tmp 29) (.tmp 30) rfl lo _ b (by rfl) O1.out none 0 0 [] (by rfl) (Sl.nil _ _).toT (by unfold maxLen; rcases CAP.out with h | ⟨_, _, h⟩ <;> omega) (by rcases CAP.out with h | ⟨_, _, h⟩ <;> omega) hw1.1 _ rfl ?_; intro v9 w9 h9 hg9 hv9 hb9; obtain ⟨a9, n9, c9, rfl, z9⟩ := h9.slN; have O9 := Lib.hid h9; have G9 := Lib.hid (Turns.of_grown (S := fun j => Value.ownBlock (.slice a b.length cc) = some j) hg9 fun j e => e); have V9 := Lib.hid hv9; clear h9 hg9 hv9 hb9 z9)
        have IO9 := Lib.hid (IO1.out.turns G9.out fun e => (DIS1.out g e).2.1 rfl)
        have ST9 := Lib.hid (RL.frame _ _ _ _ _ ST1.out G9.out (fun j hj e => (DIS1.out j e).1 hj) (fun j e => (LT1.out j e).1))
        have DIS9 := Lib.hid (show ∀ j, Value.ownBlock (.slice a9 n9 c9) = some j → ¬ S1 j ∧ j ≠ g ∧ (hv.ownBlock = some j ∨ w.heap.size ≤ j) from fun j hj => by
          rcases V9.out with e | e
          · exact DIS1.out j (e ▸ hj)
          · rw [e] at hj
            injection hj with hj
            subst hj
            have hgW := IO1.out.lt
            exact ⟨fun h => by have := (HIN.out _ h).2; omega, by omega, .inr hw1.2⟩)
        have TU9 := Lib.hid (TU1.out.trans G9.out fun j hj e => by
          rcases (DIS1.out j e).2.2 with h | h
          · exact .inr (.inr h)
          · omega)
        clear O1 IO1 TU1 ST1 G9 V9 LT1 DIS1
        go_ret2
        rw [XE.out]
        exact ⟨_, S1, _, rfl, fun (h : (34 : Int) = 0) => absurd h (by decide), O9.out, IO9.out, ST9.out, SUB1.out, DIS9.out, TU9.out⟩
      · obtain ⟨p, hpw, hps, rfl, hsl, hio1⟩ := hq2 hbad
        obtain ⟨k, rfl⟩ : ∃ k : Nat, z = k := ⟨z.toNat, by omega⟩
        rw [Int.toNat_natCast] at hsl ⊢
        have hks : k ≤ m := by omega
        obtain ⟨P, hP⟩ : ∃ P, (R.lay s m).take k = P := ⟨_, rfl⟩
        rw [hP] at hsl
        have hlk := hsl.len
        have HLK := Lib.hid hlk
        have SL1 := Lib.hid hsl
        have IO1 := Lib.hid hio1
        have NB := Lib.hid (show ¬ (R.num s m < 0 ∨ (m : Int) < R.num s m) by rw [HZ.out]; omega)
        have TB := Lib.hid (show tkB R s b n = b ++ P by unfold tkB; rw [HM.out, HZ.out, Int.toNat_natCast, hP])
        have hbn : b.length + k ≤ n := by have := HRN.out; omega
        have hbk : b.length + k ≤ 140737488355328 := by
          rcases CAP.out with h | ⟨vo, h1, h2⟩
          · omega
          · have := h1 s m (by rw [HZ.out]; omega) (by rw [HZ.out]; omega)
            rw [HZ.out, Int.toNat_natCast] at this
            omega
        have HBAD := Lib.hid hbad
        clear hq1 hq2 hbad hio1 hlayE hP hsl hlk
        go_upto_region 6 with (at_builtin; refine wpList_appT eltTB rfl (.tmp 29) (.tmp 30) rfl lo _ b (by rfl) O1.out (some ⟨p, 0, none⟩) k m P (by rfl) SL1.out.toT (by unfold maxLen; omega) (by omega) hw1.1 _ rfl ?_; intro v9 w9 h9 hg9 hv9 hb9; obtain ⟨a9, n9, c9, rfl, z9⟩ := h9.slN; have O9 := Lib.hid h9; have G9 := Lib.hid (Turns.of_grown (S := fun j => Value.ownBlock (.slice a b.length cc) = some j) hg9 fun j e => e); have V9 := Lib.hid hv9; have L9 := Lib.hid z9.len; clear h9 hg9 hv9 hb9 z9)
        have HN9 := Lib.hid (show n9 = b.length + k by rw [← L9.out, List.length_append, HLK.out])
        have IO9 := Lib.hid (IO1.out.turns G9.out fun e => (DIS1.out g e).2.1 rfl)
        have ST9 := Lib.hid (RL.frame _ _ _ _ _ ST1.out G9.out (fun j hj e => (DIS1.out j e).1 hj) (fun j e => (LT1.out j e).1))
        have DIS9 := Lib.hid (show ∀ j, Value.ownBlock (.slice a9 n9 c9) = some j → ¬ S1 j ∧ j ≠ g ∧ (hv.ownBlock = some j ∨ w.heap.size ≤ j) from fun j hj => by
          rcases V9.out with e | e
          · exact DIS1.out j (e ▸ hj)
          · rw [e] at hj
            injection hj with hj
            subst hj
            have hgW := IO1.out.lt
            exact ⟨fun h => by have := (HIN.out _ h).2; omega, by omega, .inr hw1.2⟩)
        have TU9 := Lib.hid (TU1.out.trans G9.out fun j hj e => by
          rcases (DIS1.out j e).2.2 with h | h
          · exact .inr (.inr h)
          · omega)
        clear O1 IO1 TU1 ST1 G9 V9 LT1 DIS1
        have NEXT := Lib.hid (fun (F' : Nat) (h1 : tk R F' (R.nxt s m) (tkI R s i m) (b ++ P) n = X) (h2 : tkI R s i m ≤ 15) (h3 : n ≤ (b ++ P).length ∨ (R.mu (R.nxt s m) * 17 + 16 - tkI R s i m < F' ∧ R.cnt (R.nxt s m) + R.mu (R.nxt s m) * 17 + i0 ≤ R.cnt s0 + R.mu s0 * 17 + tkI R s i m)) =>
          show WnM R St lo X w S0 hv g most v pl er n i0 s0 F' (.slice a9 n9 c9) (b ++ P) (R.nxt s m) S1 (tkI R s i m) w9 from
          { eq := h1, ow := O9.out, io := IO9.out, st := ST9.out, sub := SUB1.out, dis := DIS9.out, tu := TU9.out, il := h2, len := by rw [L9.out, HN9.out]; exact hbn
            cap := by
              rcases CAP.out with h | ⟨vo, q1, q2⟩
              · exact .inl h
              · have := q1 s m (by rw [HZ.out]; omega) (by rw [HZ.out]; omega)
                rw [HZ.out, Int.toNat_natCast] at this
                exact .inr ⟨vo, q1, by rw [L9.out, HN9.out]; omega⟩
            fl := h3 })
        have RET := Lib.hid (fun (e : Int) (he : e ≠ 0) (hx : X = ([], e, R.nxt s m, tkI R s i m)) => show WantPost St lo X S0 hv g most v pl er w (.returned (.tuple #[.slice a9 n9 c9, .int .i64 e])) w9 from
          ⟨_, S1, _, by rw [hx], fun h => absurd h (by rw [hx]; exact he), O9.out, by rw [hx]; exact IO9.out, by rw [hx]; exact ST9.out, SUB1.out, DIS9.out, TU9.out⟩)
        obtain ⟨q, hq⟩ : ∃ q, decide (ee = 34 ∧ k = 0) = q := ⟨_, rfl⟩
        have HQ := Lib.hid hq
        clear hq
        go_cut [38] (fun v38 wx => v38 = .bool q ∧ w9 = wx)
        case first =>
          by_cases h34 : ee = 34
          · have u1 : (ee == 34) = true := by rw [beq_iff_eq]; exact h34
            have u2 : ((k : Int) == 0) = q := by rw [← HQ.out, Bool.eq_iff_iff]; simp [h34]
            clear h34
            go_wp2_with fail
            go_meet
            exact ⟨rfl, rfl⟩
          · have u1 : (ee == 34) = false := by rw [beq_eq_false_iff_ne]; exact h34
            obtain rfl : q = false := by rw [← HQ.out]; exact decide_eq_false fun h => h34 h.1
            clear h34
            go_wp2_with fail
            go_meet
            exact ⟨rfl, rfl⟩
        case rest =>
          obtain ⟨rfl, h2⟩ := hcut
          subst h2
          have hq := HQ.out
          cases q
          · have hno : ¬ (ee = 34 ∧ k = 0) := of_decide_eq_false hq
            by_cases hfull : n9 = n
            · have XE := Lib.hid (show X = (b ++ P, 0, R.nxt s m, tkI R s i m) by rw [← EQ.out, tk_full (by omega) HM.out NB.out (by rw [TB.out, L9.out]; exact hfull), TB.out])
              have t2 : decide ((n9 : Int) ≥ (n : Int)) = true := decide_eq_true (by omega)
              have t2' : decide (n ≤ n9) = true := decide_eq_true (by omega)
              clear hfull hno hq
              go_wp2_with fail
              go_ret2
              rw [XE.out]
              exact ⟨_, S1, _, rfl, fun _ => rfl, O9.out, IO9.out, ST9.out, SUB1.out, DIS9.out, TU9.out⟩
            · have NF := Lib.hid (show (tkB R s b n).length ≠ n by rw [TB.out, L9.out]; exact hfull)
              have hn9 : n9 < n := by have := HN9.out; omega
              have t2 : decide ((n9 : Int) ≥ (n : Int)) = false := decide_eq_false (by omega)
              have t2' : decide (n ≤ n9) = false := decide_eq_false (by omega)
              clear hfull
              by_cases h31 : ee = 31
              · have RT := Lib.hid (RET.out 41 (by decide) (by rw [← EQ.out]; exact tk_end (by omega) HM.out NB.out NF.out (by rw [HEE.out]; exact h31)))
                have t3 : (ee == 31) = true := by rw [beq_iff_eq]; exact h31
                clear h31 hno hq
                go_wp2_with fail
                go_ret2
                exact RT.out
              · have t3 : (ee == 31) = false := by rw [beq_eq_false_iff_ne]; exact h31
                by_cases he0 : ee = 0
                · have t4 : (ee != 0) = false := by rw [bne_eq_false_iff_eq]; exact he0
                  have c5 := IO9.out.c5
                  have hile := tkI_le (R := R) (s := s) (m := m) hil
                  by_cases h16 : tkI R s i m = 16
                  · have RT := Lib.hid (RET.out 33 (by decide) (by rw [← EQ.out, tk_idle (by omega) HM.out NB.out NF.out (by rw [HEE.out]; exact he0) h16, h16]))
                    have c5' : w9.cell? ⟨g, 5, none⟩ = some (.int .i64 16) := by rw [c5, h16]; rfl
                    clear h31 he0 h16 hno hq c5
                    go_wp2_with fail
                    go_ret2
                    exact RT.out
                  · have GO := Lib.hid (NEXT.out F (by rw [← EQ.out, tk_go (by omega) HM.out NB.out NF.out (by rw [HEE.out]; exact he0) h16, TB.out]) (by omega) (by
                      right
                      have hf := HFL.out
                      have hc := R.cntS s m
                      by_cases hk0 : 0 < k
                      · have := R.muL s m (by rw [HEE.out]; exact he0) (by rw [HZ.out]; omega) (by rw [HZ.out]; omega)
                        rw [tkI_mv (by rw [HZ.out]; omega)]
                        omega
                      · have := R.muE s m (by rw [HEE.out]; exact he0)
                        rw [tkI_no (by rw [HZ.out]; omega) (by rw [HEE.out]; exact he0)]
                        omega))
                    obtain ⟨i2, hi2⟩ : ∃ i2, tkI R s i m = i2 := ⟨_, rfl⟩
                    rw [hi2] at c5 h16
                    have t5 : ((i2 : Int) == 16) = false := by rw [beq_eq_false_iff_ne]; omega
                    have t5' : (i2 == 16) = false := by rw [beq_eq_false_iff_ne]; exact h16
                    clear h31 he0 h16 hno hq hi2 hile
                    go_wp2_with fail
                    go_roundg F
                    case measure => omega
                    case rel => exact ⟨_, _, _, _, GO.out⟩
                · have RT := Lib.hid (RET.out ee he0 (by rw [← EQ.out, tk_err (by omega) HM.out NB.out NF.out (by rw [HEE.out]; exact h31) (by rw [HEE.out]; exact he0), HEE.out]))
                  have t4 : (ee != 0) = true := by rw [bne_iff_ne]; exact he0
                  clear h31 he0 hno hq
                  go_wp2_with fail
                  go_ret2
                  exact RT.out
          · have hyes : ee = 34 ∧ k = 0 := of_decide_eq_true hq
            have NF := Lib.hid (show (tkB R s b n).length ≠ n by rw [TB.out, L9.out, HN9.out, hyes.2]; omega)
            have RT := Lib.hid (RET.out ee (by rw [hyes.1]; decide) (by rw [← EQ.out, tk_err (by omega) HM.out NB.out NF.out (by rw [HEE.out, hyes.1]; decide) (by rw [HEE.out, hyes.1]; decide), HEE.out]))
            clear hyes hq
            go_wp2_with fail
            go_ret2
            exact RT.out
    · have XE := Lib.hid (show X = (b, 0, s, i) by rw [← M.out.eq]; exact tk_has (by omega))
      have t1 : decide ((b.length : Int) < (n : Int)) = false := decide_eq_false (by omega)
      have t1' : decide (b.length < n) = false := decide_eq_false hlt
      go_wp2_with fail
      go_ret2
      exact M.out.fin XE.out fun _ => rfl
end Go.Proofs.YtljcogimeimknaaGreat
/- The document's In: Bytes, Byte, End: contracts over any reader of the document's. Conditions: numbers and what is taken within reach. -/
namespace Go.Proofs.YtljcogimeimknaaGreat
open Go.RowKit Go.Shelf
set_option maxRecDepth 100000
set_option linter.unusedVariables false
set_option linter.unusedSimpArgs false

section
variable {σ : Type} {R : Rm σ} {v : Value} {lo Br : Nat} {St : σ → (Nat → Prop) → World → Prop}
/-- the document's In in memory: block g, its reader, the row held; its blocks are S -/
structure RIn (St : σ → (Nat → Prop) → World → Prop) (lo g : Nat) (most : Int) (v : Value) (c : CIn σ) (S Sr : Nat → Prop) (hv : Value) (w : World) : Prop where
  io : RInB w g most v c.pl c.er c.idle hv
  ow : OwT fB w lo 5 hv c.held
  st : St c.s Sr w
  sr : ∀ j, Sr j → S j
  sg : S g
  ng : ¬ Sr g
  hs : ∀ j, hv.ownBlock = some j → S j ∧ ¬ Sr j ∧ j ≠ g
  inS : ∀ j, S j → lo ≤ j ∧ j < w.heap.size
def RObj (St : σ → (Nat → Prop) → World → Prop) (lo g : Nat) (most : Int) (v : Value) (c : CIn σ) (S : Nat → Prop) (w : World) : Prop := ∃ Sr hv, RIn St lo g most v c S Sr hv w
/-- behind an answer of the document's In -/
def RAns (St : σ → (Nat → Prop) → World → Prop) (lo g : Nat) (most : Int) (v : Value) (S : Nat → Prop) (w : World) (c' : CIn σ) (w' : World) : Prop :=
  ∃ S', RObj St lo g most v c' S' w' ∧ (∀ j, S' j → S j ∨ w.heap.size ≤ j) ∧ Turns S w w'
variable {g : Nat} {most : Int} {c c2 c3 : CIn σ} {S S2 T : Nat → Prop} {w w1 w2 : World}
theorem RIn.turns (RL : RdrL R v lo Br St) {Sr : Nat → Prop} {hv : Value} (h : RIn St lo g most v c S Sr hv w) (ht : Turns T w w1) (hd : ∀ j, S j → ¬ T j) (hl : ∀ j, T j → lo ≤ j) : RIn St lo g most v c S Sr hv w1 where
  io := h.io.turns ht (hd g h.sg)
  ow := h.ow.turns ht fun j hj => hd j (h.hs j hj).1
  st := RL.frame _ _ _ _ _ h.st ht (fun j hj => hd j (h.sr j hj)) hl
  sr := h.sr
  sg := h.sg
  ng := h.ng
  hs := h.hs
  inS j hj := ⟨(h.inS j hj).1, Nat.lt_of_lt_of_le (h.inS j hj).2 ht.size⟩
theorem RObj.turns (RL : RdrL R v lo Br St) (h : RObj St lo g most v c S w) (ht : Turns T w w1) (hd : ∀ j, S j → ¬ T j) (hl : ∀ j, T j → lo ≤ j) : RObj St lo g most v c S w1 := by
  obtain ⟨Sr, hv, h⟩ := h
  exact ⟨Sr, hv, h.turns RL ht hd hl⟩
theorem RObj.inS (h : RObj St lo g most v c S w) : ∀ j, S j → lo ≤ j ∧ j < w.heap.size := by
  obtain ⟨Sr, hv, h⟩ := h
  exact h.inS
theorem RAns.same (RL : RdrL R v lo Br St) (h : RObj St lo g most v c S w) (hb : Below w.heap.size w w1) : RAns St lo g most v S w c w1 :=
  ⟨S, h.turns RL (T := fun _ => False) (.of_below hb) (fun _ _ e => e) (fun _ e => e.elim), fun j hj => .inl hj, .of_below hb⟩
theorem RAns.step (h : RAns St lo g most v S w c2 w1) (k : ∀ S2, RObj St lo g most v c2 S2 w1 → RAns St lo g most v S2 w1 c3 w2) : RAns St lo g most v S w c3 w2 := by
  obtain ⟨S2, h1, h2, h3⟩ := h
  obtain ⟨S3, k1, k2, k3⟩ := k S2 h1
  refine ⟨S3, k1, fun j hj => ?_, h3.trans k3 fun j hj e => ?_⟩
  · rcases k2 j hj with e | e
    · exact h2 j e
    · exact .inr (Nat.le_trans h3.size e)
  · rcases h2 j e with q | q
    · exact q
    · omega
/-- behind Bytes of the document's -/
def RBytesPost (St : σ → (Nat → Prop) → World → Prop) (X : List UInt8 × Int × CIn σ) (S : Nat → Prop) (lo g : Nat) (most : Int) (v : Value) (w : World) (r : Ending) (w' : World) : Prop :=
  ∃ bv, r = .returned (.tuple #[bv, .int .i64 X.2.1]) ∧ OwT fB w' lo 5 bv X.1 ∧ RAns St lo g most v S w X.2.2 w'
/-- the same, and the bytes lie in none of its blocks -/
def RBytesPost2 (St : σ → (Nat → Prop) → World → Prop) (X : List UInt8 × Int × CIn σ) (S : Nat → Prop) (lo g : Nat) (most : Int) (v : Value) (w : World) (r : Ending) (w' : World) : Prop :=
  ∃ bv S', r = .returned (.tuple #[bv, .int .i64 X.2.1]) ∧ OwT fB w' lo 5 bv X.1 ∧ (∀ j, bv.ownBlock = some j → ¬ S' j ∧ (S j ∨ w.heap.size ≤ j)) ∧ RObj St lo g most v X.2.2 S' w' ∧ (∀ j, S' j → S j ∨ w.heap.size ≤ j) ∧ Turns S w w'
theorem RBytesPost2.weak {X : List UInt8 × Int × CIn σ} {r : Ending} {w' : World} (h : RBytesPost2 St X S lo g most v w r w') : RBytesPost St X S lo g most v w r w' := by
  obtain ⟨bv, S', e, ho, -, h1, h2, h3⟩ := h
  exact ⟨bv, e, ho, S', h1, h2, h3⟩
theorem RBytesPost2.nil {X : List UInt8 × Int × CIn σ} {e : Int} {c' : CIn σ} {w' : World} (hX : X = ([], e, c')) (h : RAns St lo g most v S w c' w') : RBytesPost2 St X S lo g most v w (.returned (.tuple #[.slice none 0 0, .int .i64 e])) w' := by
  subst hX
  obtain ⟨S', h1, h2, h3⟩ := h
  exact ⟨.slice none 0 0, S', rfl, OwT.nil _ _ _ _, fun j e => (by cases e), h1, h2, h3⟩
set_option maxHeartbeats 4000000 in
theorem rinb2_any (RL : RdrL R v lo Br St) (hmu : ∀ s n, R.mu (R.nxt s n) ≤ R.mu s)
    (g : Nat) (most n : Int) (c : CIn σ) (S : Nat → Prop) (w : World) (P : σ → Prop) (hP : ∀ s n, P s → P (R.nxt s n)) (Bd : Nat) (hO : OkayC R P most Bd c) (hI : RObj St lo g most v c S w)
    (hn : -9223372036854775808 ≤ n ∧ n ≤ 9223372036854775807) (hm : most ≤ 9223372036854775807) (hc : Bd + 32 ≤ Br) (hcap : 0 ≤ n → n ≤ most → Caps R c.s n.toNat) :
    Calls Tryz.prog 60 #[.pointer (some ⟨g, 0, none⟩), .int .i64 n] w (RBytesPost2 St (bytesM R most n c) S lo g most v w) := by
  obtain ⟨X, hX⟩ : ∃ X, bytesM R most n c = X := ⟨_, rfl⟩
  rw [hX]
  have SAME := Lib.hid (fun (W : World) (hW : Below w.heap.size w W) => RAns.same RL hI hW)
  obtain ⟨Sr, hv, hR⟩ := hI
  have c1 := hR.io.c1
  have c2 := hR.io.c2
  have c3 := hR.io.c3
  have RI := Lib.hid hR
  have HX := Lib.hid hX
  have HO := Lib.hid hO
  have hpl := hO.pl
  have lg := hR.io.lt
  have hlg := (hR.inS g hR.sg).1
  have hlw : lo ≤ w.heap.size := by omega
  clear hX hR hO
  by_cases he : c.er ≠ 0
  · have XE := Lib.hid (show X = ([], c.er, c) by rw [← HX.out]; exact bytes_er he)
    have t1 : (c.er != 0) = true := by rw [bne_iff_ne]; exact he
    clear he hcap c1 c2
    go_enter Tryz.func60, Tryz.ntmps60
    go_wp2_with fail
    go_quiet (fail)
    go_wp2_with fail
    go_ret2
    exact .nil XE.out (SAME.out _ (keep_drewN (Below.refl _ _) _))
  have he : c.er = 0 := by simpa using he
  have t1 : (c.er != 0) = false := by rw [bne_eq_false_iff_eq]; exact he
  by_cases hneg : n < 0
  · have XE := Lib.hid (show X = ([], 1, c) by rw [← HX.out]; exact bytes_neg he hneg)
    have t2 : decide (n < 0) = true := decide_eq_true hneg
    clear he hcap c1 c2
    go_enter Tryz.func60, Tryz.ntmps60
    go_wp2_with fail
    go_ret2
    exact .nil XE.out (SAME.out _ (Below.refl _ _))
  have t2 : decide (n < 0) = false := decide_eq_false hneg
  have r1 : IntKind.i64.wrap (most - (c.pl : Int)) = most - (c.pl : Int) := IntWalk.i64_in _ (by omega)
  by_cases hmo : most - c.pl < n
  · have XE := Lib.hid (show X = ([], 42, { c with er := 42 }) by rw [← HX.out]; exact bytes_most he hneg hmo)
    have t3 : decide (n > most - (c.pl : Int)) = true := decide_eq_true hmo
    have t3' : decide (most - (c.pl : Int) < n) = true := decide_eq_true hmo
    clear he hcap hneg hmo
    go_enter Tryz.func60, Tryz.ntmps60
    go_wp2_with fail
    go_quiet (fail)
    have RI1 := Lib.hid (RI.out.turns RL (T := fun _ => False) (.of_below (keep_drewN (Below.refl w.heap.size w) nq)) (fun _ _ e => e) (fun _ e => e.elim))
    have B1 := Lib.hid (keep_drewN (Below.refl w.heap.size w) nq)
    generalize w.drewN nq = w1 at *
    have d3 := RI1.out.io.c3
    have f3 := RI1.out.io.free 3
    have e3 := (RI1.out.io.s3 42).c3
    have FIN := Lib.hid (show RIn St lo g most v { c with er := 42 } S Sr hv (w1.setCell ⟨g, 3, none⟩ (.int .i64 42)) from
      { io := RI1.out.io.s3 42, ow := RI1.out.ow.turns (setT w1 3 _) fun j hj e => (RI1.out.hs j hj).2.2 e, st := RL.frame _ _ _ _ _ RI1.out.st (setT w1 3 _) (fun j hj e => by have e : j = g := e; subst e; exact RI1.out.ng hj) (fun j e => by have e : j = g := e; omega)
        sr := RI1.out.sr, sg := RI1.out.sg, ng := RI1.out.ng, hs := RI1.out.hs, inS := fun j hj => by have := RI1.out.inS j hj; simpa using this })
    have TT := Lib.hid ((Turns.of_below (S := S) B1.out).trans (setT w1 3 (.int .i64 42)) fun j _ e => by have e : j = g := e; subst e; exact RI1.out.sg)
    clear c1 c2 c3
    go_wp2_with fail
    go_quiet (fail)
    go_wp2_with fail
    go_ret2
    refine .nil XE.out ?_
    exact ⟨S, ⟨Sr, hv, FIN.out.turns RL (T := fun _ => False) (.of_below (keep_drewN (Below.refl _ _) _)) (fun _ _ e => e) (fun _ e => e.elim)⟩, fun j hj => .inl hj, TT.out.drewN _⟩
  have t3 : decide (n > most - (c.pl : Int)) = false := decide_eq_false hmo
  have t3' : decide (most - (c.pl : Int) < n) = false := decide_eq_false hmo
  obtain ⟨k, rfl⟩ : ∃ k : Nat, n = (k : Nat) := ⟨n.toNat, by omega⟩
  by_cases hk0 : k = 0
  · subst hk0
    have XE := Lib.hid (show X = ([], 0, c) by
      rw [← HX.out]
      have h := bytes_take (R := R) he hneg hmo (b := []) (e := 0) (s' := c.s) (i' := c.idle) (hd := c.held) rfl
      rw [h, if_pos rfl]
      obtain ⟨s, pl, er, idle, held⟩ := c
      simp only at he
      subst he
      rfl)
    have t4 : (((0 : Nat) : Int) == 0) = true := rfl
    clear he hcap hneg hmo
    go_enter Tryz.func60, Tryz.ntmps60
    go_wp2_with fail
    go_quiet (fail)
    go_wp2_with fail
    go_ret2
    exact .nil XE.out (SAME.out _ (keep_drewN (Below.refl _ _) _))
  obtain ⟨⟨b, e, s', i'⟩, hK⟩ : ∃ Y, tk R (R.mu c.s * 17 + 17) c.s c.idle c.held k = Y := ⟨_, rfl⟩
  have XE := Lib.hid (show X = if e = 0 then (b, 0, ⟨s', c.pl + k, 0, i', []⟩) else ([], e, ⟨s', c.pl, e, i', []⟩) by
    have hK2 : tkH R c.s c.idle c.held (k : Int).toNat = (b, e, s', i', []) := by rw [Int.toNat_natCast]; unfold tkH; rw [if_neg hk0, hK]
    have h := bytes_take he hneg hmo hK2
    rw [Int.toNat_natCast] at h
    rw [← HX.out]; exact h)
  have hid := HO.out.idle he
  have hbu := HO.out.bud
  have r2 : IntKind.i64.wrap ((c.pl : Int) + (k : Int)) = (c.pl : Int) + (k : Int) := IntWalk.i64_in _ (by omega)
  have t4 : ((k : Int) == 0) = false := by rw [beq_eq_false_iff_ne]; omega
  have t4' : (k == 0) = false := by rw [beq_eq_false_iff_ne]; exact hk0
  have CAP := Lib.hid (show Caps R c.s k from hcap (by omega) (by omega))
  have KE := Lib.hid hK
  clear hcap hneg hmo hK
  go_enter Tryz.func60, Tryz.ntmps60
  go_wp2_with fail
  go_quiet (fail)
  have RI1 := Lib.hid (RI.out.turns RL (T := fun _ => False) (.of_below (keep_drewN (Below.refl w.heap.size w) nq)) (fun _ _ e => e) (fun _ e => e.elim))
  have B1 := Lib.hid (keep_drewN (Below.refl w.heap.size w) nq)
  generalize w.drewN nq = w1 at *
  have WT := (rwant_any RL hmu g most c.pl c.er c.s Sr c.idle c.held hv k w1 RI1.out.io RI1.out.ow (fun j hj => (RI1.out.hs j hj).2) RI1.out.st RI1.out.ng hlg HO.out.held (by omega) (by omega) hid (by omega) CAP.out)
  rw [KE.out] at WT
  have WTH := Lib.hid WT
  clear WT c1 c2 c3 he hk0
  go_wp2_with fail
  refine WTH.out.mono ?_
  rintro r w2 ⟨bv, S2, b', rfl, hb', ho, hio, hst, hsub, hdis, htu⟩
  dsimp only at hb' hio hst ⊢
  obtain ⟨ab, nb, cb, rfl, -⟩ := ho.slN
  have hw1 : w.heap.size ≤ w1.heap.size := B1.out.size
  have ng2 : ¬ S2 g := fun h => by rcases hsub g h with e | e; (exact RI1.out.ng e); (have := RI1.out.io.lt; omega)
  have TU2 := Lib.hid (show Turns S w w2 from (Turns.of_below (S := S) B1.out).trans htu fun j hj e => by
    rcases e with e | e | e
    · exact RI1.out.sr j e
    · subst e; exact RI1.out.sg
    · exact (RI1.out.hs j e).1)
  have SUB := Lib.hid (show ∀ j, (S2 j ∨ j = g) → S j ∨ w.heap.size ≤ j from fun j hj => by
    rcases hj with hj | hj
    · rcases hsub j hj with e | e
      · exact .inl (RI1.out.sr j e)
      · exact .inr (by omega)
    · subst hj; exact .inl RI1.out.sg)
  have INS := Lib.hid (show ∀ j, (S2 j ∨ j = g) → lo ≤ j ∧ j < w2.heap.size from fun j hj => by
    rcases hj with hj | hj
    · exact RL.inS _ _ _ hst j hj
    · subst hj; exact ⟨hlg, hio.lt⟩)
  have IO2 := Lib.hid hio
  have ST2 := Lib.hid hst
  have O2 := Lib.hid ho
  have NG2 := Lib.hid ng2
  have DIS := Lib.hid (show ∀ j, Value.ownBlock (.slice ab nb cb) = some j → ¬ S2 j ∧ (S j ∨ w.heap.size ≤ j) from fun j hj => by
    refine ⟨(hdis j hj).1, ?_⟩
    rcases (hdis j hj).2.2 with e | e
    · exact .inl (RI1.out.hs j e).1
    · exact .inr (by omega))
  have NOW := Lib.hid (show ∀ j, Value.ownBlock (.slice ab nb cb) = some j → j ≠ g from fun j hj => (hdis j hj).2.1)
  clear ho hio hst hsub hdis htu ng2 WTH
  by_cases h0 : e = 0
  · obtain rfl := hb' h0
    have t5 : (e != 0) = false := by rw [bne_eq_false_iff_eq]; exact h0
    have d2 := IO2.out.c2
    have f2 := IO2.out.free 2
    have hce : c.er = 0 := by rwa [bne_eq_false_iff_eq] at t1
    have FIN := Lib.hid (show ∃ S', S' = (fun j => S2 j ∨ j = g) ∧ RObj St lo g most v ⟨s', c.pl + k, 0, i', []⟩ S' (w2.setCell ⟨g, 2, none⟩ (.int .i64 ((c.pl : Int) + (k : Int)))) ∧ (∀ j, S' j → S j ∨ w.heap.size ≤ j) ∧ Turns S w (w2.setCell ⟨g, 2, none⟩ (.int .i64 ((c.pl : Int) + (k : Int)))) from
      ⟨fun j => S2 j ∨ j = g, rfl, ⟨S2, .slice none 0 0, { io := by have := IO2.out.s2 (c.pl + k); rw [hce] at this; exact this, ow := OwT.nil _ _ _ _, st := RL.frame _ _ _ _ _ ST2.out (setT w2 2 _) (fun j hj e => by have e : j = g := e; subst e; exact NG2.out hj) (fun j e => by have e : j = g := e; omega), sr := fun j hj => .inl hj, sg := .inr rfl, ng := NG2.out, hs := fun j e => (by cases e), inS := fun j hj => by have := INS.out j hj; simpa using this }⟩, SUB.out, TU2.out.trans (setT w2 2 _) fun j _ e => by have e : j = g := e; subst e; exact RI1.out.sg⟩)
    have OF := Lib.hid (O2.out.turns (setT w2 2 (.int .i64 ((c.pl : Int) + (k : Int)))) fun j hj e => NOW.out j hj e)
    have XF := Lib.hid (show X = (b', 0, ⟨s', c.pl + k, 0, i', []⟩) by rw [XE.out, if_pos h0])
    clear h0 hb' hce
    go_wp2_with fail
    go_ret2
    rw [XF.out]
    obtain ⟨S9, e9, q1, q2, q3⟩ := FIN.out
    exact ⟨_, S9, rfl, OF.out, fun j hj => ⟨fun h => by rw [e9] at h; rcases h with h | h; (exact (DIS.out j hj).1 h); (exact NOW.out j hj h), (DIS.out j hj).2⟩, q1, q2, q3⟩
  · have t5 : (e != 0) = true := by rw [bne_iff_ne]; exact h0
    have XF := Lib.hid (show X = ([], e, ⟨s', c.pl, e, i', []⟩) by rw [XE.out, if_neg h0])
    have d3 := IO2.out.c3
    have f3 := IO2.out.free 3
    have FIN := Lib.hid (show RAns St lo g most v S w ⟨s', c.pl, e, i', []⟩ (w2.setCell ⟨g, 3, none⟩ (.int .i64 e)) from
      ⟨fun j => S2 j ∨ j = g, ⟨S2, .slice none 0 0, { io := IO2.out.s3 e, ow := OwT.nil _ _ _ _, st := RL.frame _ _ _ _ _ ST2.out (setT w2 3 _) (fun j hj e => by have e : j = g := e; subst e; exact NG2.out hj) (fun j e => by have e : j = g := e; omega), sr := fun j hj => .inl hj, sg := .inr rfl, ng := NG2.out, hs := fun j e => (by cases e), inS := fun j hj => by have := INS.out j hj; simpa using this }⟩, SUB.out, TU2.out.trans (setT w2 3 _) fun j _ e => by have e : j = g := e; subst e; exact RI1.out.sg⟩)
    clear h0 hb'
    go_wp2_with fail
    go_ret2
    exact .nil XF.out FIN.out
theorem rinb_any (RL : RdrL R v lo Br St) (hmu : ∀ s n, R.mu (R.nxt s n) ≤ R.mu s)
    (g : Nat) (most n : Int) (c : CIn σ) (S : Nat → Prop) (w : World) (P : σ → Prop) (hP : ∀ s n, P s → P (R.nxt s n)) (Bd : Nat) (hO : OkayC R P most Bd c) (hI : RObj St lo g most v c S w)
    (hn : -9223372036854775808 ≤ n ∧ n ≤ 9223372036854775807) (hm : most ≤ 9223372036854775807) (hc : Bd + 32 ≤ Br) (hcap : 0 ≤ n → n ≤ most → Caps R c.s n.toNat) :
    Calls Tryz.prog 60 #[.pointer (some ⟨g, 0, none⟩), .int .i64 n] w (RBytesPost St (bytesM R most n c) S lo g most v w) :=
  (rinb2_any RL hmu g most n c S w P hP Bd hO hI hn hm hc hcap).mono fun _ _ h => h.weak
end
end Go.Proofs.YtljcogimeimknaaGreat
