/- Several texts in one: StmW, StmClose, StmRBlk, BlockRAdd, StmRWM, StmREnd, StmRW, StmBytesM, StmRAdd, StmAdd, StmBytes, StmRBytes. Each has its own sentence and conditions below. -/
import Derived.Test.YtljcogimeimknaaGreatStmEnds
import Derived.Test.YtljcogimeimknaaGreatK8f
import Derived.Test.YtljcogimeimknaaGreatK8d
import Derived.Deep.RegionLaw
import Derived.Test.YtljcogimeimknaaGreatK8c
import Derived.Deep.RegionHeld3
import Derived.BigQuiet
import Derived.Deep.QuietTactic
import Derived.Test.YtljcogimeimknaaGreatK8a
import Derived.Test.YtljcogimeimknaaGreatK8b
import Derived.Deep.DeepCutAuto
import Derived.Lib.LazyBuf
import Derived.StillTailTactics
/- A writer of streams: Cut, Next, Spans: contracts. Conditions: the writer stands rightly. -/
namespace Go.Proofs.YtljcogimeimknaaGreat
open Go.RowKit
set_option linter.unusedVariables false

theorem ok_of_open {s : WS} (h : ¬ s.shut = true) : s.shut = false := by cases hs : s.shut <;> simp_all

set_option maxRecDepth 100000 in
theorem snext_any (w : World) (lo g m : Nat) (s : WS) (who : Nat → Nat) (h : WrS w lo g m s who) (hok : s.Ok m) :
    Calls Tryz.prog 76 #[.pointer (some ⟨g, 0, none⟩)] w fun e w' => ∃ a n c who', e = .returned (.slice a n c) ∧ OwT fB w' lo 5 (.slice a n c) s.ready ∧ WrS w' lo g m s.next who' ∧ Gr w w' who who' ∧
      (∀ j, Value.ownBlock (.slice a n c) = some j → w.heap.size ≤ j ∧ j < w'.heap.size ∧ who' j = 0) := by
  obtain ⟨gb, v, lv, rv, yv, vs, hW⟩ := id h
  have hrl := WS.ready_le hok
  obtain ⟨aY, nY, cY, hyv, zY⟩ := hW.yr.slN
  subst hyv
  have hn : nY ≤ 200000000000 := by rw [← zY.len]; exact hrl
  have c5 := hW.c5
  have W0 := Lib.hid hW
  have ZY := Lib.hid zY
  have hlow := hW.low
  have LOW := Lib.hid hlow
  clear hW h hok zY hrl hlow
  go_enter Tryz.func76, Tryz.ntmps76
  go_wp2_with fail
  refine (clone_any aY nY cY s.ready w (by omega) ZY.out).mono ?_
  rintro e w1 ⟨x1, rfl, ho1, hb1⟩
  obtain ⟨a1, n1, c1, rfl, z1⟩ := ho1.slN
  have O1 := Lib.hid ho1
  have B1 := Lib.hid hb1
  have hW1 := W0.out.keep hb1
  have d5 := hW1.c5
  have f5 := hW1.free 5
  have W1 := Lib.hid hW1
  clear ho1 hb1 z1 hW1 c5
  go_wp2_with fail
  go_ret
  obtain ⟨who', hW', hG'⟩ := W1.out.setY (x := .slice none 0 0) (Y' := []) (Turns.refl _ _) (.inl (OwT.nil _ _ _ _)) (fun j hj => by simp [Value.ownBlock] at hj)
  have hgo : Off (Value.slice a1 n1 c1) g := fun j hj e => by have := (O1.out.lt j hj).1; have := W0.out.lt; omega
  refine ⟨a1, n1, c1, who', rfl, (O1.out.of_block fun j hj => Below.heap_setCell _ _ _ _ (hgo j hj)).base W0.out.lw, ⟨gb, v, lv, rv, .slice none 0 0, vs, ?_⟩, (Gr.below B1.out).trans hG', fun j hj => ?_⟩
  · have e1 : s.next.ready = [] := WS.next_ready s
    rw [e1]
    exact hW'
  · obtain ⟨q1, q2⟩ := O1.out.lt j hj
    refine ⟨q1, by simpa using q2, ?_⟩
    rw [hG'.o j q2]
    exact Classical.byContradiction fun e => by have := (LOW.out j e).2; omega

end Go.Proofs.YtljcogimeimknaaGreat
/- A writer of streams: Close: contract. Conditions: the writer stands rightly. -/
namespace Go.Proofs.YtljcogimeimknaaGreat
open Go.RowKit
set_option linter.unusedVariables false

theorem rowsF_fit : ∀ (L : List (List Ent)) (p : Nat), OkL L → p + 23015 * L.length ≤ 1000000000000 → FitR 64 (rowsF p L)
  | [], _, _, _ => fun r hr => by simp [rowsF] at hr
  | l :: t, p, hL, hp => fun r hr => by
    have h1 := hL l List.mem_cons_self
    have h2 := blkf_le h1.1.1 (srt_okay h1.1.2)
    have h3 := h1.1.1
    simp only [List.length_cons] at hp
    simp only [rowsF, List.mem_cons] at hr
    rcases hr with rfl | hr
    · exact ⟨(bst_le l (srt_okay h1.1.2)).2.2, ⟨by show -9223372036854775808 ≤ (p : Int); omega, by show (p : Int) ≤ 9223372036854775807; omega⟩, ⟨by show -9223372036854775808 ≤ ((blkf l).length : Int); omega, by show ((blkf l).length : Int) ≤ 9223372036854775807; omega⟩, by show -9223372036854775808 ≤ (l.length : Int); omega, by show (l.length : Int) ≤ 9223372036854775807; omega⟩
    · exact rowsF_fit t _ (fun x hx => hL x (List.mem_cons_of_mem _ hx)) (by omega) r hr
theorem rowsL_fit {L : List (List Ent)} (h : OkL L) (hl : L.length ≤ 8388608) : FitR 140737488351232 (rowsL L) := fun r hr => by
  have := rowsF_fit L 8 h (by omega) r hr
  exact ⟨by omega, this.2⟩

theorem WrS.close_fin {w : World} {lo g gb m q : Nat} {v : Nat → Value} {lv rv yv : Value} {vs : List RV} {s : WS} {who : Nat → Nat}
    (h : Wr w lo g gb v lv rv yv vs m s.cut.now s.cut.last (rowsL s.cut.L) true [s.cut.ready, frm 70 (fbs (rowsL s.cut.L)), tailB q].flatten who) (hq : endL s.cut.L = q) (hr : s.close.ready = s.cut.ready ++ finB s.cut.L) : WrS w lo g m s.close who := by
  refine ⟨gb, v, lv, rv, yv, vs, ?_⟩
  rw [hr]
  have e : [s.cut.ready, frm 70 (fbs (rowsL s.cut.L)), tailB q].flatten = s.cut.ready ++ finB s.cut.L := by
    rw [← hq]; simp [finB]
  rw [e] at h
  exact h
set_option maxRecDepth 100000 in
set_option maxHeartbeats 2000000 in
theorem sclose_any (w : World) (lo g m : Nat) (s : WS) (who : Nat → Nat) (h : WrS w lo g m s who) (hok : s.Ok m) :
    Calls Tryz.prog 75 #[.pointer (some ⟨g, 0, none⟩)] w fun e w' => e = .returned (.int .i64 ((if s.shut then 87 else 0 : Nat) : Nat)) ∧ WPost w w' lo g m (if s.shut then s else s.close) who := by
  obtain ⟨gb, v, lv, rv, yv, vs, hW⟩ := id h
  have c4 := hW.c4
  by_cases hs : s.shut = true
  · have FIN := Lib.hid (show WPost w w lo g m (if s.shut then s else s.close) who by rw [hs]; exact ⟨who, h, Gr.refl _ _⟩)
    rw [hs] at c4 ⊢
    rw [hs] at FIN
    clear hW h hok hs
    go_enter Tryz.func75, Tryz.ntmps75
    go_wp2_with fail
    go_ret
    exact ⟨rfl, FIN.out⟩
  · replace hs := ok_of_open hs
    have EN := Lib.hid (sends_any w lo g m s who h (hok.weak hs))
    have OK1 := Lib.hid hok.cut
    have RC := Lib.hid (WS.close_ready hok hs)
    have hs1 : s.cut.shut = false := by rw [WS.cut_shut, hs]
    have HS1 := Lib.hid hs1
    rw [hs] at c4 ⊢
    clear hW h hok hs hs1
    go_enter Tryz.func75, Tryz.ntmps75
    go_wp2_with fail
    refine EN.out.mono ?_
    rintro e w1 ⟨rfl, who1, ⟨gb1, v1, lv1, rv1, yv1, vs1, hW1⟩, hG1⟩
    have W1 := Lib.hid hW1
    have G1 := Lib.hid hG1
    have d4 := hW1.c4
    have f4 := hW1.free 4
    clear hW1 hG1 EN c4
    go_upto_region 5 with (fail)
    obtain ⟨hW2, hG2⟩ := W1.out.setS true
    have G2 := Lib.hid (G1.out.trans hG2)
    clear W1 G1 d4 f4 hG2
    generalize w1.setCell ⟨g, 4, none⟩ (.bool true) = w2 at *
    obtain ⟨aR, nR, cR, hrv, hsp⟩ := hW2.spv
    subst hrv
    have W2 := Lib.hid hW2
    have c3 := hW2.c3
    have hmany := OK1.out.many
    have hnR : nR ≤ 8388608 := by rw [← hsp.spans.1, rowsL_len]; exact hmany
    have SP := Lib.hid (Stab.spans hsp.spans)
    have FIT := Lib.hid (rowsL_fit OK1.out.l hmany)
    have hfb := fbs_le (rowsL s.cut.L)
    clear hW2 hsp
    go_wp2_with fail
    refine (ffbytes_any aR nR cR (rowsL s.cut.L) w2 (by omega) FIT.out SP.out.now).mono ?_
    rintro e w3 ⟨x3, rfl, ho3, hb3⟩
    obtain ⟨aB, nB, cB, rfl, zB⟩ := ho3.slN
    have hnB : nB ≤ 873000000 := by rw [← zB.len]; exact hfb
    have hW3 := W2.out.keep hb3
    obtain ⟨aY, nY, cY, hyv, zY⟩ := hW3.yr.slN
    subst hyv
    have W3 := Lib.hid hW3
    have G3 := Lib.hid (G2.out.trans (Gr.below hb3))
    replace SP := Lib.hid (SP.out.keep hb3)
    have hgw := hW3.lt
    have WB := Lib.hid hW3.blk
    have c3' := hW3.c3
    have c5' := hW3.c5
    have NB := Lib.hid (show ∀ (x5 : World), Below w3.heap.size w3 x5 → x5.cell? ⟨g, 3, none⟩ = some (.slice aR nR cR) ∧ x5.cell? ⟨g, 5, none⟩ = some (.slice aY nY cY) from fun x5 hb => ⟨(World.cell?_of_block (hb.block _ hgw)).trans c3', (World.cell?_of_block (hb.block _ hgw)).trans c5'⟩)
    have NF := Lib.hid (show ∀ (x5 : World), Below w3.heap.size w3 x5 → x5.frozen? ⟨g, 5, none⟩ = false from fun x5 hb => free_block ((hb.block _ hgw).trans WB.out) 5)
    have hRY := WS.ready_le OK1.out
    have hYL : nY ≤ 200000000000 := by rw [← zY.len]; exact hRY
    obtain ⟨q, hq⟩ : ∃ q, endL s.cut.L = q := ⟨_, rfl⟩
    have hql : q ≤ 1000000000000 := by rw [← hq]; have := outL_le OK1.out.l; unfold endL; omega
    have HQ := Lib.hid hq
    have SE := Lib.hid (fun (W : World) (hb : Below w3.heap.size w3 W) => hq ▸ send_any aR nR cR s.cut.L W hmany OK1.out.l (SP.out.keep hb).now)
    have FR := Lib.hid (fun (W : World) (hb : Below w3.heap.size w3 W) => sframe_any 70 70 rfl aB nB cB (fbs (rowsL s.cut.L)) W (by omega) (zB.keep hb))
    have TL := Lib.hid (fun (W : World) => stail_any q W (by omega))
    have ZYW := Lib.hid (fun (W : World) (hb : Below w3.heap.size w3 W) => zY.keep hb)
    have FL := Lib.hid (show [s.cut.ready, frm 70 (fbs (rowsL s.cut.L)), tailB q].flatten.length ≤ 140737488355328 by
      have := frm_le 70 (fbs (rowsL s.cut.L)) (by omega)
      simp only [List.flatten_cons, List.flatten_nil, List.append_nil, List.length_append, tailB_len]
      omega)
    have HB : Hid (Below w3.heap.size w3 w3.drew) := Lib.hid ((Below.refl _ _).drew)
    obtain ⟨e3, e5⟩ := NB.out _ HB.out
    clear ho3 hb3 zB zY hW3 c3 c3' c5' hq hfb hmany
    go_upto_region 6 with (fail)
    go_region_law (first
      | (go_simp; go_at_call 38; refine (SE.out _ HB.out).mono ?_; rintro e w5 ⟨rfl, hb5⟩; (try replace ZF := Lib.hid (ZF.out.keep hb5)); replace HB := Lib.hid (keep_trans HB.out hb5); obtain ⟨e3, e5⟩ := NB.out _ HB.out; clear hb5)
      | (go_simp; go_at_call 116; refine (FR.out _ HB.out).mono ?_; rintro e w6 ⟨x6, rfl, ho6, hb6⟩; obtain ⟨aF, nF, cF, rfl, zF⟩ := ho6.slN; have ZF := Lib.hid (Stab.sl zF); (try replace ZT := Lib.hid (ZT.out.keep hb6)); replace HB := Lib.hid (keep_trans HB.out hb6); obtain ⟨e3, e5⟩ := NB.out _ HB.out; clear ho6 hb6 zF)
      | (go_simp; go_at_call 117; refine (TL.out _).mono ?_; rintro e w7 ⟨x7, rfl, ho7, hb7⟩; obtain ⟨aT, nT, cT, rfl, zT⟩ := ho7.slN; have ZT := Lib.hid (Stab.sl zT); (try replace ZF := Lib.hid (ZF.out.keep hb7)); replace HB := Lib.hid (keep_trans HB.out hb7); obtain ⟨e3, e5⟩ := NB.out _ HB.out; clear ho7 hb7 zT)
      | (go_simp; go_at_call 115; refine (concat_any _ 3 3 [s.cut.ready, frm 70 (fbs (rowsL s.cut.L)), tailB q] _ (by omega) FL.out (rows2_3 _ _ _ _ _ _ _ _ _ _ _ _ _ (ZYW.out _ HB.out) ZF.out.now ZT.out.now)).mono ?_; rintro e w8 ⟨x8, rfl, ho8, hb8⟩; obtain ⟨aC, nC, cC, rfl, zC⟩ := ho8.slN; have O8 := Lib.hid (ho8.base (base' := w3.heap.size) (by have := HB.out.size; simp; omega)); replace HB := Lib.hid (keep_trans (keep_trans HB.out ((Below.refl _ _).alloc (Nat.le_refl _) _)) hb8); obtain ⟨e3, e5⟩ := NB.out _ HB.out; have f5 := NF.out _ HB.out; clear ho8 hb8 zC))
    all_goals
      go_wp2_with fail
      obtain ⟨who8, hW8, hG8⟩ := W3.out.setY (Turns.of_below HB.out) (.inl (O8.out.base W3.out.lw)) (fun j hj => .inr (O8.out.lt j hj).1)
      go_ret
      exact ⟨rfl, who8, WrS.close_fin hW8 HQ.out RC.out, G3.out.trans hG8⟩
end Go.Proofs.YtljcogimeimknaaGreat
/- The reference's blocks of a stream, and its end: contracts. Conditions: blocks that may be, within reach. -/
namespace Go.Proofs.YtljcogimeimknaaGreat
open Go.RowKit
set_option linter.unusedVariables false

/-- lists of entries in memory -/
def LLs (w : World) (a : Option Addr) (n c : Nat) (L : List (List Ent)) : Prop :=
  L.length = n ∧ n ≤ c ∧ (a = none → c = 0) ∧ ∀ (i : Nat) (l : List Ent), L[i]? = some l → ∃ b o x, a = some ⟨b, o, none⟩ ∧ w.cell? ⟨b, o + i, none⟩ = some (sv x) ∧ Ents w x.1 x.2.1 x.2.2 l
theorem LLs.keep {w w' : World} {a : Option Addr} {n c : Nat} {L : List (List Ent)} (h : LLs w a n c L) (hb : Below w.heap.size w w') : LLs w' a n c L :=
  ⟨h.1, h.2.1, h.2.2.1, fun i l hl => by
    obtain ⟨b, o, x, e, hc, he⟩ := h.2.2.2 i l hl
    exact ⟨b, o, x, e, (World.cell?_of_block (hb.block _ (cell_lt hc))).trans hc, he.keep hb⟩⟩
/-- rows under way: their keys lie in old memory -/
def RRw (w0 w : World) (v : Value) (vs : List RV) (rs : List Row) : Prop :=
  OwT fR w w0.heap.size 94 v vs ∧ vs.length = rs.length ∧ ∀ (i : Nat) (x : RV) (r : Row), vs[i]? = some x → rs[i]? = some r → x.2 = r.2 ∧ Sl Bf w0 x.1.1 x.1.2.1 x.1.2.2 r.1
theorem RRw.spans {w0 w : World} {v : Value} {vs : List RV} {rs : List Row} (h : RRw w0 w v vs rs) (hb : Below w0.heap.size w0 w) : ∃ a n c, v = .slice a n c ∧ Spans w a n c rs := by
  obtain ⟨a, c, e, hs⟩ := h.1.sl fR_len
  have hsp : SpV w a vs.length c vs rs := ⟨hs, h.2.1, fun i x r hx hr => ⟨(h.2.2 i x r hx hr).1, (h.2.2 i x r hx hr).2.keep hb⟩⟩
  exact ⟨a, _, c, e, hsp.spans⟩

end Go.Proofs.YtljcogimeimknaaGreat
/- The reference's builder: Add, Bytes: contracts. Conditions: the entry within reach. Written by a program of this place (gen_BlockRAdd.py). -/
namespace Go.Proofs.YtljcogimeimknaaGreat
open Go.RowKit
set_option linter.unusedVariables false

theorem srt_snoc {l : List Ent} {e : Ent} (h : (srt l).2 = 0) (h1 : chk e = 0) (h2 : ¬ (0 < l.length ∧ 0 ≤ cmp (bst l).last e.1)) : (srt (l ++ [e])).2 = 0 := by
  have main : ∀ (r : List Ent) (i : Nat) (p : List Ent), i = p.length → (srtFrom i (bst p).last r).2 = 0 → ¬ (0 < (p ++ r).length ∧ 0 ≤ cmp (bst (p ++ r)).last e.1) → (srtFrom i (bst p).last (r ++ [e])).2 = 0 := by
    intro r
    induction r with
    | nil =>
      intro i p hi _ hc
      rw [List.append_nil] at hc
      rw [List.nil_append, srt_go (by omega) (by rw [hi]; exact hc)]
      rfl
    | cons x r ih =>
      intro i p hi hs hc
      by_cases c1 : chk x ≠ 0
      · rw [srt_chk c1] at hs; exact absurd hs c1
      by_cases c2 : 0 < i ∧ 0 ≤ cmp (bst p).last x.1
      · rw [srt_cmp c1 c2] at hs; cases hs
      rw [srt_go c1 c2] at hs
      rw [List.cons_append, srt_go c1 c2]
      have hl : (bst (p ++ [x])).last = x.1 := by rw [bst_snoc]; rfl
      rw [← hl] at hs ⊢
      refine ih (i + 1) (p ++ [x]) (by rw [List.length_append, hi]; rfl) hs ?_
      rw [List.append_assoc]; exact hc
  exact main l 0 [] rfl h h2
/-- entries of a builder: rising, that may be, 64 at most -/
def Ris (l : List Ent) : Prop := l.length ≤ 64 ∧ (srt l).2 = 0
theorem Ris.nil : Ris [] := ⟨Nat.zero_le _, rfl⟩
theorem Ris.okay {l : List Ent} (h : Ris l) : Okay l := srt_okay h.2
theorem Ris.add {l : List Ent} {e : Ent} (h : Ris l) (ha : addE l e = 0) : Ris (l ++ [e]) := by
  obtain ⟨h1, h2, h3⟩ := addE_zero ha
  exact ⟨by rw [List.length_append]; have := h.1; simp; omega, srt_snoc h.2 h1 h3⟩
theorem Ris.fit {l : List Ent} (h : Ris l) : Fit 140737488351232 l := fun e he => by have := chk_zero (h.okay e he); omega
/-- a row of the call's own of entries whose texts lie ahead of it -/
def ELs (w0 w : World) (y : Value) (vs : List (Sv × Sv)) (es : List Ent) : Prop :=
  OwT fE w w0.heap.size 51 y vs ∧ vs.length = es.length ∧ ∀ (i : Nat) (x : Sv × Sv) (e : Ent), vs[i]? = some x → es[i]? = some e → Sl Bf w0 x.1.1 x.1.2.1 x.1.2.2 e.1 ∧ Sl Bf w0 x.2.1 x.2.2.1 x.2.2.2 e.2
theorem ELs.nil (w0 w : World) : ELs w0 w (.slice none 0 0) [] [] := ⟨OwT.nil _ _ _ _, rfl, fun i x e h _ => by simp at h⟩
theorem ELs.turns {w0 w w' : World} {S : Nat → Prop} {y : Value} {vs : List (Sv × Sv)} {es : List Ent} (h : ELs w0 w y vs es) (ht : Turns S w w') (hs : ∀ j, y.ownBlock = some j → ¬ S j) : ELs w0 w' y vs es := ⟨h.1.turns ht hs, h.2⟩
theorem ELs.ents {w0 w : World} {y : Value} {vs : List (Sv × Sv)} {es : List Ent} (h : ELs w0 w y vs es) (hb : Below w0.heap.size w0 w) : ∃ a c, y = .slice a es.length c ∧ Ents w a es.length c es := by
  obtain ⟨ho, hl, ht⟩ := h
  obtain ⟨a, c, hv, hs⟩ := ho.sl fE_len
  rw [hl] at hv hs
  refine ⟨a, c, hv, rfl, hs.2.1, hs.2.2.1, fun i k v hi => ?_⟩
  have hil : i < vs.length := by have := (List.getElem?_eq_some_iff.1 hi).1; omega
  obtain ⟨⟨⟨a1, n1, c1⟩, ⟨a2, n2, c2⟩⟩, hx⟩ : ∃ x, vs[i]? = some x := ⟨_, List.getElem?_eq_getElem hil⟩
  obtain ⟨b, o, ha, hc⟩ := hs.2.2.2 i _ hx
  obtain ⟨s1, s2⟩ := ht i _ _ hx hi
  exact ⟨b, o, a1, n1, c1, a2, n2, c2, ha, by simpa [sv] using hc 0 _ rfl, by simpa [sv] using hc 1 _ rfl, s1.keep hb, s2.keep hb⟩
theorem ELs.snoc {w0 w w' : World} {y y' : Value} {vs : List (Sv × Sv)} {es : List Ent} {x : Sv × Sv} {e : Ent} (h : ELs w0 w y vs es) (ho : OwT fE w' w0.heap.size 51 y' (vs ++ [x])) (h1 : Sl Bf w0 x.1.1 x.1.2.1 x.1.2.2 e.1) (h2 : Sl Bf w0 x.2.1 x.2.2.1 x.2.2.2 e.2) : ELs w0 w' y' (vs ++ [x]) (es ++ [e]) := by
  obtain ⟨_, hl, ht⟩ := h
  refine ⟨ho, by rw [List.length_append, List.length_append, hl]; rfl, fun i z q hz hq => ?_⟩
  by_cases hi : i < vs.length
  · rw [List.getElem?_append_left hi] at hz
    rw [List.getElem?_append_left (by rw [← hl]; exact hi)] at hq
    exact ht i z q hz hq
  · have hi2 : i < (vs ++ [x]).length := (List.getElem?_eq_some_iff.1 hz).1
    rw [List.length_append] at hi2
    obtain rfl : i = vs.length := by simp at hi2; omega
    obtain rfl : x = z := by simpa using hz
    obtain rfl : e = q := by rw [hl] at hq; simpa using hq
    exact ⟨h1, h2⟩
/-- behind the reference's Add -/
def RAddPost (w0 w : World) (gy k : Nat) (y : Value) (vs : List (Sv × Sv)) (l : List Ent) (e : Ent) (x : Sv × Sv) (r : Ending) (w' : World) : Prop :=
  r = .returned (.int .i64 (addE l e : Nat)) ∧ (addE l e ≠ 0 → Below w.heap.size w w') ∧
  (addE l e = 0 → ∃ y' w1, w' = w1.setCell ⟨gy, k, none⟩ y' ∧ ELs w0 w1 y' (vs ++ [x]) (l ++ [e]) ∧ Turns (fun j => y.ownBlock = some j) w w1 ∧ ∀ j, y'.ownBlock = some j → y.ownBlock = some j ∨ w.heap.size ≤ j)
theorem RAddPost.no {w0 w w' : World} {gy k q : Nat} {y : Value} {vs : List (Sv × Sv)} {l : List Ent} {e : Ent} {x : Sv × Sv} (h : addE l e = q) (hq : q ≠ 0) (hb : Below w.heap.size w w') : RAddPost w0 w gy k y vs l e x (.returned (.int .i64 (q : Nat))) w' := by
  subst h
  exact ⟨rfl, fun _ => hb, fun e => absurd e hq⟩
end Go.Proofs.YtljcogimeimknaaGreat
/- The reference's writer of streams in memory. No condition. -/
namespace Go.Proofs.YtljcogimeimknaaGreat
open Go.RowKit
set_option linter.unusedVariables false

section
variable {w0 w w' w1 : World} {g m told : Nat} {Lv nv lv : Value} {Ls : List Sv} {Ns : List (Sv × Sv)} {L : List (List Ent)} {now : List Ent} {last : List UInt8} {shut : Bool} {who : Nat → Nat}

end

end Go.Proofs.YtljcogimeimknaaGreat
/- The reference's end of a stream: contract. Conditions: blocks that may be. -/
namespace Go.Proofs.YtljcogimeimknaaGreat
open Go.RowKit
set_option linter.unusedVariables false

end Go.Proofs.YtljcogimeimknaaGreat
/- The reference's writer of streams: Cut, Close, Spans, Next: contracts. Conditions: the writer stands rightly. -/
namespace Go.Proofs.YtljcogimeimknaaGreat
open Go.RowKit
set_option linter.unusedVariables false

theorem ELs.sl {w0 w : World} {y : Value} {vs : List (Sv × Sv)} {es : List Ent} (h : ELs w0 w y vs es) : ∃ s : Sv, y = sv s ∧ s.2.1 = es.length := by
  obtain ⟨a, c, e, _⟩ := h.1.sl fE_len
  exact ⟨(a, vs.length, c), e, h.2.1⟩
end Go.Proofs.YtljcogimeimknaaGreat
/- Bytes of a stream: plain words. No condition. -/
namespace Go.Proofs.YtljcogimeimknaaGreat
open Go.RowKit
set_option linter.unusedVariables false

def wadds (m : Nat) : Nat → WS → List Ent → Nat × Nat × WS
  | _, s, [] => (0, 0, s)
  | i, s, e :: r => if (s.add m e).1 ≠ 0 then ((s.add m e).1, i, s) else wadds m (i + 1) (s.add m e).2 r
theorem wadds_nil (m i : Nat) (s : WS) : wadds m i s [] = (0, 0, s) := rfl
theorem wadds_bad {m i : Nat} {s : WS} {e : Ent} {r : List Ent} (h : (s.add m e).1 ≠ 0) : wadds m i s (e :: r) = ((s.add m e).1, i, s) := by rw [wadds, if_pos h]
theorem wadds_go {m i : Nat} {s : WS} {e : Ent} {r : List Ent} (h : (s.add m e).1 = 0) : wadds m i s (e :: r) = wadds m (i + 1) (s.add m e).2 r := by rw [wadds, if_neg (by omega)]
def sbytesW (w : Nat × Nat × WS) : List UInt8 × Nat × Nat := if w.1 ≠ 0 then ([], w.1, w.2.1) else (w.2.2.close.ready, 0, 0)
def sbytes (l : List Ent) (n : Int) : List UInt8 × Nat × Nat := if n < 1 ∨ 64 < n then ([], 1, 0) else sbytesW (wadds n.toNat 0 WS0 l)
theorem sbytes_bad {l : List Ent} {n : Int} (h : n < 1 ∨ 64 < n) : sbytes l n = ([], 1, 0) := by unfold sbytes; rw [if_pos h]
theorem sbytes_ok {l : List Ent} {m : Nat} (h1 : 1 ≤ m) (h2 : m ≤ 64) : sbytes l (m : Int) = sbytesW (wadds m 0 WS0 l) := by unfold sbytes; rw [if_neg (by omega)]; rfl
theorem add_shut {m : Nat} {s : WS} (e : Ent) (h : s.shut = false) : (s.add m e).2.shut = false := by
  unfold WS.add
  split
  · exact h
  split
  · exact h
  split
  · exact h
  split
  · exact h
  · dsimp only
    split
    · rw [WS.cut_shut]; exact h
    · exact h
theorem add_code (m : Nat) (s : WS) (e : Ent) : (s.add m e).1 ≤ 87 := by
  unfold WS.add
  split
  · exact Nat.le_refl _
  split
  · rcases chk_cases e with h | h <;> rw [h] <;> omega
  split
  · exact (by decide : 51 ≤ 87)
  split
  · exact (by decide : 71 ≤ 87)
  · exact Nat.zero_le _
theorem edrop_cons2 {es : List Ent} {k : Nat} {x : Ent} (h : es[k]? = some x) : es.drop k = x :: es.drop (k + 1) := edrop_cons h
end Go.Proofs.YtljcogimeimknaaGreat
/- The reference's writer of streams: Add, Bytes: contracts. Conditions: the writer stands rightly; the entries within reach. -/
namespace Go.Proofs.YtljcogimeimknaaGreat
open Go.RowKit
set_option linter.unusedVariables false

end Go.Proofs.YtljcogimeimknaaGreat
/- A writer of streams: Add: contract. Conditions: the writer stands rightly; the entry within reach, apart from the writer. -/
namespace Go.Proofs.YtljcogimeimknaaGreat
open Go.RowKit
set_option linter.unusedVariables false

set_option maxRecDepth 100000 in
set_option maxHeartbeats 4000000 in
theorem sadd_any (w : World) (lo g m : Nat) (s : WS) (who : Nat → Nat) (ak : Option Addr) (nk ck : Nat) (k : List UInt8) (av : Option Addr) (nv cv : Nat) (x : List UInt8) (h : WrS w lo g m s who) (hok : s.Ok m)
    (hk : nk ≤ 140737488351232) (hv : nv ≤ 140737488351232) (h1 : Sl Bf w ak nk ck k) (h2 : Sl Bf w av nv cv x) (f1 : ∀ b o, ak = some ⟨b, o, none⟩ → 0 < nk → who b = 0) (f2 : ∀ b o, av = some ⟨b, o, none⟩ → 0 < nv → who b = 0) :
    Calls Tryz.prog 74 #[.pointer (some ⟨g, 0, none⟩), .agg #[.slice ak nk ck, .slice av nv cv]] w fun e w' => e = .returned (.int .i64 ((s.add m (k, x)).1 : Nat)) ∧ WPost w w' lo g m (s.add m (k, x)).2 who := by
  obtain rfl : nk = k.length := h1.len.symm
  obtain rfl : nv = x.length := h2.len.symm
  obtain ⟨gb, v, lv, rv, yv, vs, hW⟩ := id h
  have hal : Below w.heap.size w (w.alloc (.cells #[.slice ak k.length ck, .slice av x.length cv] 51)) := (Below.refl _ _).alloc (Nat.le_refl _) _
  have hW1 := hW.keep hal
  have G1 := Lib.hid (Gr.below (who := who) hal)
  have BX := Lib.hid (heap_new w (.cells #[.slice ak k.length ck, .slice av x.length cv] 51))
  have K := Lib.hid (h1.keep hal)
  have X := Lib.hid (h2.keep hal)
  have OK := Lib.hid hok
  have F1 := Lib.hid f1
  have F2 := Lib.hid f2
  have W1 := Lib.hid hW1
  have LG : w.heap.size < (w.alloc (.cells #[.slice ak k.length ck, .slice av x.length cv] 51)).heap.size := by simp
  have WG := Lib.hid (show who w.heap.size = 0 from Classical.byContradiction fun e => by have := (hW.low _ e).2; omega)
  clear h hW hal hW1 h1 h2 f1 f2 hok
  go_enter Tryz.func74, Tryz.ntmps74
  go_upto_region 1 with (fail)
  obtain ⟨ge, hge⟩ : ∃ z, w.heap.size = z := ⟨_, rfl⟩
  rw [hge] at BX LG WG
  rw [hge]
  clear hge
  generalize w.alloc (.cells #[.slice ak k.length ck, .slice av x.length cv] 51) = w1 at *
  have x0 := cell_of BX.out 0 rfl
  have x1 := cell_of BX.out 1 rfl
  have c4 := W1.out.c4
  by_cases hs : s.shut = true
  · have FIN := Lib.hid (show (s.add m (k, x)) = (87, s) by unfold WS.add; rw [if_pos hs])
    rw [hs] at c4
    clear hs
    go_wp2_with fail
    go_ret
    rw [FIN.out]
    exact ⟨rfl, who, ⟨gb, v, lv, rv, yv, vs, W1.out⟩, G1.out⟩
  · have NS := Lib.hid hs
    rw [ok_of_open hs] at c4
    clear hs
    go_wp2_with fail
    refine (check_any ak k.length ck av x.length cv w1 hk hv).mono ?_
    rintro e w2 ⟨rfl, hb2⟩
    obtain ⟨q, hq⟩ : ∃ q, chkN k.length x.length = q := ⟨_, rfl⟩
    rw [hq]
    have W2 := Lib.hid (W1.out.keep hb2)
    have G2 := Lib.hid (G1.out.trans (Gr.below hb2))
    have BX2 := Lib.hid ((hb2.block _ (Array.getElem?_eq_some_iff.1 BX.out).1).trans BX.out)
    have K2 := Lib.hid (K.out.keep hb2)
    have X2 := Lib.hid (X.out.keep hb2)
    clear hb2 x0 x1 c4 W1 G1 BX K X LG
    by_cases hq0 : q ≠ 0
    · have FIN := Lib.hid (show (s.add m (k, x)) = (q, s) by unfold WS.add; rw [if_neg NS.out, if_pos (show chk (k, x) ≠ 0 by show chkN _ _ ≠ 0; rw [hq]; exact hq0)]; exact congrArg (·, s) hq)
      have t1 : ((q : Int) != 0) = true := by rw [bne_iff_ne]; omega
      have t1' : (q != 0) = true := by rw [bne_iff_ne]; exact hq0
      clear hq0 hq
      go_wp2_with fail
      go_ret
      rw [FIN.out]
      exact ⟨rfl, who, ⟨gb, v, lv, rv, yv, vs, W2.out⟩, G2.out⟩
    · have hq1 : q = 0 := by omega
      subst hq1
      have hck := chk_zero (show chk (k, x) = 0 from hq)
      have HCK := Lib.hid (show chk (k, x) = 0 from hq)
      have hk64 : k.length ≤ 64 := hck.2.1
      have hk0 : 0 < k.length := hck.1
      clear hq hck hq0
      have x0 := cell_of BX2.out 0 rfl
      have x1 := cell_of BX2.out 1 rfl
      have c2 := W2.out.c2
      go_upto_region 6 with (fail)
      obtain ⟨b6, hb6⟩ : ∃ b6, decide (s.last ≠ [] ∧ 0 ≤ cmp s.last k) = b6 := ⟨_, rfl⟩
      have HB6 := Lib.hid hb6
      clear hb6
      go_cut [15] (fun b wx => b = .bool b6 ∧ Drw w2 wx)
      case first =>
        rcases W2.out.ls with ⟨hl, e⟩ | ⟨hl, b, o, c, e, hsl, _⟩
        · subst e
          have hb : b6 = false := by rw [← HB6.out, hl]; simp
          subst hb
          have hnil := fun W : World => Go.run_neq_slice_nil (P := Tryz.prog) W 22 5 none 0 0 Tryz.underlying22
          clear hl
          go_wp2_with fail
          go_quiet (fail)
          go_wp2_with fail
          go_meet
          exact ⟨rfl, by first | exact (Drw.refl _).more _ | exact Drw.refl _⟩
        · subst e
          have hb : b6 = decide (cmp s.last k ≥ 0) := by rw [← HB6.out]; simp [hl]
          subst hb
          have hnil := fun W : World => Go.run_neq_slice_nil (P := Tryz.prog) W 22 5 (some ⟨b, o, none⟩) s.last.length c Tryz.underlying22
          have SL := Lib.hid hsl
          obtain ⟨nK, hnK⟩ : ∃ nK, s.last.length = nK := ⟨_, rfl⟩
          rw [hnK] at SL c2 hnil
          obtain ⟨q3, hq3⟩ : ∃ q3, cmp s.last k = q3 := ⟨_, rfl⟩
          have CM := Lib.hid (fun j : Nat => hq3 ▸ bcompare_any (some ⟨b, o, none⟩) nK c s.last ak k.length ck k (w2.drewN j) (SL.out.drewN j) (K2.out.drewN j))
          have h3 : -1 ≤ q3 ∧ q3 ≤ 1 := by have := cmp_cases s.last k; omega
          have HQ3 := Lib.hid hq3
          clear hl hsl hnK hq3
          go_wp2_with fail
          go_quiet ((go_at_call 53; exact Calls.quiet_of_drw ((CM.out _).mono (by rintro e w' ⟨rfl, rfl⟩; exact ⟨rfl, Drw.refl _⟩))))
          go_wp2_with fail
          go_meet
          exact ⟨by rw [HQ3.out], by first | exact (Drw.refl _).more _ | exact ((Drw.refl _).more _).more _ | exact Drw.refl _⟩
      obtain ⟨rfl, hcw⟩ := hcut
      obtain ⟨w3, hw3⟩ : ∃ w3, w3 = wc := ⟨_, rfl⟩
      subst hw3
      have W3 := Lib.hid (W2.out.keep hcw.below)
      have G3 := Lib.hid (G2.out.trans (Gr.below hcw.below))
      have BX3 := Lib.hid ((hcw.below.block _ (Array.getElem?_eq_some_iff.1 BX2.out).1).trans BX2.out)
      have K3 := Lib.hid (K2.out.keep hcw.below)
      have X3 := Lib.hid (X2.out.keep hcw.below)
      clear hcw x0 x1 c2 W2 G2 BX2 K2 X2
      cases b6 with
      | true =>
        have hh := of_decide_eq_true HB6.out
        have FIN := Lib.hid (show (s.add m (k, x)) = (51, s) by unfold WS.add; rw [if_neg NS.out, if_neg (show ¬ chk (k, x) ≠ 0 by have := HCK.out; omega), if_pos hh])
        clear hh
        go_wp2_with fail
        go_ret
        rw [FIN.out]
        exact ⟨rfl, who, ⟨gb, v, lv, rv, yv, vs, W3.out⟩, G3.out⟩
      | false =>
        have hh := of_decide_eq_false HB6.out
        have NL := Lib.hid hh
        clear hh HB6
        obtain ⟨nn, hnn⟩ : ∃ nn, s.now.length = nn := ⟨_, rfl⟩
        have BL := Lib.hid (blen_any lo gb v s.now w3 W3.out.bl)
        rw [hnn] at BL
        have HN := Lib.hid hnn
        obtain ⟨aR, nR, cR, hrv, hsp⟩ := W3.out.spv
        subst hrv
        have HR := Lib.hid (show s.L.length = nR by rw [← hsp.spans.1, rowsL_len])
        have hnR : nR ≤ 8388608 := by rw [← HR.out]; exact OK.out.many
        have c1 := W3.out.c1
        have c3 := W3.out.c3
        have hn64 : nn ≤ 64 := by rw [← hnn]; exact OK.out.n.1
        clear hnn hsp
        go_upto_region 8 with (fail)
        obtain ⟨b8, hb8⟩ : ∃ b8, decide (nn = 0 ∧ nR = 8388608) = b8 := ⟨_, rfl⟩
        have HB8 := Lib.hid hb8
        clear hb8
        go_cut [31] (fun b wx => b = .bool b8 ∧ w3 = wx)
        case first =>
          by_cases h0 : nn = 0
          · subst h0
            have hb : b8 = ((nR : Int) == 8388608) := by
              rw [← HB8.out]
              by_cases h : nR = 8388608
              · subst h; rfl
              · rw [decide_eq_false (fun e => h e.2), eq_comm, beq_eq_false_iff_ne]; omega
            subst hb
            go_wp2_with (go_at_call 111; refine BL.out.mono ?_; rintro e w' ⟨rfl, rfl⟩)
            go_meet
            exact ⟨by first | rfl | simp, rfl⟩
          · have hb : b8 = false := by rw [← HB8.out]; exact decide_eq_false (fun e => h0 e.1)
            subst hb
            have t1 : ((nn : Int) == 0) = false := by rw [beq_eq_false_iff_ne]; omega
            have t1' : (nn == 0) = false := by rw [beq_eq_false_iff_ne]; exact h0
            clear h0
            go_wp2_with (go_at_call 111; refine BL.out.mono ?_; rintro e w' ⟨rfl, rfl⟩)
            go_meet
            exact ⟨rfl, rfl⟩
        obtain ⟨rfl, rfl⟩ := hcut
        cases b8 with
        | true =>
          have hh := of_decide_eq_true HB8.out
          have FIN := Lib.hid (show (s.add m (k, x)) = (71, s) by unfold WS.add; rw [if_neg NS.out, if_neg (show ¬ chk (k, x) ≠ 0 by have := HCK.out; omega), if_neg NL.out, if_pos ⟨List.eq_nil_of_length_eq_zero (by rw [HN.out]; exact hh.1), by rw [HR.out]; exact hh.2⟩])
          clear hh
          go_wp2_with fail
          go_ret
          rw [FIN.out]
          exact ⟨rfl, who, ⟨gb, v, lv, .slice aR nR cR, yv, vs, W3.out⟩, G3.out⟩
        | false =>
          have hh := of_decide_eq_false HB8.out
          have NF := Lib.hid (show ¬ (s.now = [] ∧ s.L.length = 8388608) from fun e => hh ⟨by rw [← HN.out, e.1]; rfl, by rw [← HR.out]; exact e.2⟩)
          have PUT := Lib.hid (OK.out.put' (e := (k, x)) (ok_of_open NS.out) HCK.out NL.out NF.out)
          have ADD := Lib.hid (show addE s.now (k, x) = 0 from addE_ok HCK.out (by have := OK.out.nm; have := OK.out.m1; omega) (fun e => NL.out (by
            have hne : s.now ≠ [] := by intro e2; rw [e2] at e; simp at e
            rw [OK.out.last hne]
            exact ⟨bst_last_ne hne (srt_okay OK.out.n.2), e.2⟩)))
          have hnm : nn < m := by rw [← HN.out]; exact OK.out.nm
          have hm64 := OK.out.m1.2
          have FIN := Lib.hid (show (s.add m (k, x)) = (0, if (s.put (k, x)).now.length = m then (s.put (k, x)).cut else s.put (k, x)) by unfold WS.add; rw [if_neg NS.out, if_neg (show ¬ chk (k, x) ≠ 0 by have := HCK.out; omega), if_neg NL.out, if_neg NF.out])
          clear hh HB8 BL
          have x0 := cell_of BX3.out 0 rfl
          have x1 := cell_of BX3.out 1 rfl
          have W3D := Lib.hid (W3.out.keep (Below.refl _ _).drew)
          have HA := Lib.hid (badd_any lo gb v s.now ak k.length ck k av x.length cv x w3.drew (by rw [HN.out]; omega) (srt_okay OK.out.n.2) hk hv W3D.out.bl K3.out.drew X3.out.drew (fun b o e hn hS => by have := F1.out b o e hn; rw [W3.out.bw b hS] at this; cases this) (fun b o e hn hS => by have := F2.out b o e hn; rw [W3.out.bw b hS] at this; cases this))
          go_upto_region 10 with (fail)
          go_still_tail 5, (by kernel_rfl)
          change wpList _ _ _ _ _ w3.drew
          go_wp2_with fail
          refine HA.out.mono ?_
          rintro e w5 ⟨rfl, _, hadd⟩
          obtain ⟨v5, hB5, hT5, hS5⟩ := hadd ADD.out
          rw [ADD.out]
          obtain ⟨who5, hW5, hG5⟩ := W3D.out.newB hT5 hB5 hS5
          have G5 := Lib.hid ((G3.out.trans (Gr.below (Below.refl _ _).drew)).trans hG5)
          have hbg : ¬ BlS gb v ge := fun e => by have := W3.out.bw ge e; rw [WG.out] at this; cases this
          have BX5 := Lib.hid (hT5.heap (show w3.drew.heap[ge]? = _ from BX3.out) hbg)
          have K5 := Lib.hid (K3.out.drew.turns hT5 (fun b o e hn hS => by have := F1.out b o e hn; rw [W3.out.bw b hS] at this; cases this))
          have W5 := Lib.hid hW5
          clear hadd hB5 hT5 hS5 hW5 hG5 hbg x0 x1 c1 c3 W3D HA W3 G3 BX3 K3 X3
          have x0 := cell_of BX5.out 0 rfl
          go_wp2_with fail
          refine (clone_any ak k.length ck k w5 (by omega) K5.out).mono ?_
          rintro e w6 ⟨x6, rfl, ho6, hb6⟩
          obtain ⟨b6, c6, rfl, z6⟩ : ∃ b6 c6, x6 = .slice (some ⟨b6, 0, none⟩) k.length c6 ∧ w5.heap.size ≤ b6 := by
            rcases ho6 with ⟨_, e⟩ | ⟨b, c, ys, e, hbb, _⟩
            · rw [e] at hk0; simp at hk0
            · exact ⟨b, c, e, hbb⟩
          have Z6 := Lib.hid (ho6.slI)
          have B6 := Lib.hid hb6
          have hW6 := W5.out.keep hb6
          have d2 := hW6.c2
          have f2 := hW6.free 2
          clear ho6 hb6 hW6 x0
          go_upto_region 12 with (fail)
          obtain ⟨who7, hW7, hG7⟩ := W5.out.setL B6.out (show k ≠ [] by intro e; rw [e] at hk0; simp at hk0) Z6.out z6
          have W7 := Lib.hid hW7
          have G7 := Lib.hid (G5.out.trans hG7)
          clear hW7 hG7 d2 f2 W5 G5 BX5 K5 B6 z6 Z6
          generalize w6.setCell ⟨g, 2, none⟩ (.slice (some ⟨b6, 0, none⟩) k.length c6) = w7 at *
          have HL := Lib.hid (show (s.now ++ [(k, x)]).length = nn + 1 by rw [List.length_append, HN.out]; rfl)
          have BL := Lib.hid (fun j : Nat => HL.out ▸ blen_any lo gb v5 (s.now ++ [(k, x)]) (w7.drewN j) (W7.out.drewN j).bl)
          have c0 := W7.out.c0
          have c1 := W7.out.c1
          have hWS : WrS w7 lo g m (s.put (k, x)) who7 := ⟨gb, v5, _, .slice aR nR cR, yv, vs, W7.out⟩
          have WSH := Lib.hid hWS
          clear hWS
          by_cases hm : nn + 1 = m
          · subst hm
            have t1 : (((nn : Int) + 1) == ((nn : Int) + 1)) = true := by simp
            go_quiet ((go_at_call 111; exact Calls.quiet_of_drw ((BL.out _).mono (by rintro e w' ⟨rfl, rfl⟩; exact ⟨rfl, Drw.refl _⟩))))
            go_wp2_with fail
            refine (sends_any _ lo g (nn + 1) (s.put (k, x)) who7 (WSH.out.keep (keep_drewN (Below.refl _ _) _)) PUT.out).mono ?_
            rintro e w8 ⟨rfl, who8, hW8, hG8⟩
            have W8 := Lib.hid hW8
            have G8 := Lib.hid hG8
            clear hW8 hG8
            go_wp2_with fail
            go_ret
            rw [FIN.out]
            refine ⟨rfl, who8, ?_, (G7.out.trans (Gr.below (keep_drewN (Below.refl _ _) _))).trans G8.out⟩
            dsimp only
            rw [if_pos (show (s.put (k, x)).now.length = nn + 1 from HL.out)]
            exact W8.out
          · have t1 : (((nn : Int) + 1) == (m : Int)) = false := by rw [beq_eq_false_iff_ne]; omega
            have t1' : ((nn + 1) == m) = false := by rw [beq_eq_false_iff_ne]; exact hm
            have HM := Lib.hid hm
            clear hm
            go_quiet ((go_at_call 111; exact Calls.quiet_of_drw ((BL.out _).mono (by rintro e w' ⟨rfl, rfl⟩; exact ⟨rfl, Drw.refl _⟩))))
            go_wp2_with fail
            go_ret
            rw [FIN.out]
            refine ⟨rfl, who7, ?_, G7.out.trans (Gr.below (keep_drewN (Below.refl _ _) _))⟩
            dsimp only
            rw [if_neg (show ¬ (s.put (k, x)).now.length = m by rw [show (s.put (k, x)).now.length = nn + 1 from HL.out]; exact HM.out)]
            exact WSH.out.keep (keep_drewN (Below.refl _ _) _)
end Go.Proofs.YtljcogimeimknaaGreat
/- Bytes of a stream, the program's: contract. Conditions: the entries within reach. -/
namespace Go.Proofs.YtljcogimeimknaaGreat
open Go.RowKit
set_option linter.unusedVariables false

theorem Gr.keepB {w0 w w' : World} {lo : Nat} {who who' : Nat → Nat} (h : Gr w w' who who') (hl : ∀ j, who j ≠ 0 → lo ≤ j) (hb : Below lo w0 w) (hlo : lo ≤ w.heap.size) : Below lo w0 w' := h.t.below hb hlo hl

set_option maxRecDepth 100000 in
set_option maxHeartbeats 4000000 in
theorem sbytes_any (a : Option Addr) (n c : Nat) (l : List Ent) (N : Int) (w : World) (hn : n ≤ 2932031007317) (hf : Fit 140737488351232 l) (h : Ents w a n c l) :
    Calls Tryz.prog 33 #[.slice a n c, .int .i64 N] w fun e w' => ∃ v, e = .returned (.tuple #[v, .int .i64 ((sbytes l N).2.1 : Nat), .int .i64 ((sbytes l N).2.2 : Nat)]) ∧ OwT fB w' w.heap.size 5 v (sbytes l N).1 ∧ Below w.heap.size w w' := by
  obtain rfl : n = l.length := h.1.symm
  by_cases hN : N < 1 ∨ 64 < N
  · rw [sbytes_bad hN]
    have NB := Lib.hid (snewbad_any N w hN)
    clear h hf hN
    go_enter Tryz.func33, Tryz.ntmps33
    go_wp2_with (go_at_call 73; refine NB.out.mono ?_; rintro e w1 ⟨rfl, rfl⟩)
    go_ret3
    exact ⟨_, rfl, OwT.nil _ _ _ _, Below.refl _ _⟩
  · obtain ⟨m, rfl⟩ : ∃ m : Nat, N = m := ⟨N.toNat, by omega⟩
    have hm1 : 1 ≤ m := by omega
    have hm2 : m ≤ 64 := by omega
    rw [sbytes_ok hm1 hm2]
    obtain ⟨W, hW⟩ : ∃ W, wadds m 0 WS0 l = W := ⟨_, rfl⟩
    rw [hW]
    have HW := Lib.hid hW
    have H := Lib.hid h
    have HF := Lib.hid hf
    clear hN hW h hf
    go_enter Tryz.func33, Tryz.ntmps33
    go_wp2_with fail
    refine (snew_any m w hm1 hm2).mono ?_
    rintro e w1 ⟨g, who, rfl, hS, hb⟩
    have S1 := Lib.hid hS
    have B1 := Lib.hid hb
    clear hS hb
    go_wp2_with fail
    go_loopw [22] (fun i wr => ∃ (k : Nat) (s : WS) (who : Nat → Nat), k ≤ l.length ∧ i = .int .i64 (k : Nat) ∧ WrS wr w.heap.size g m s who ∧ (s.Ok m ∧ s.shut = false) ∧ wadds m k s (l.drop k) = W ∧ Below w.heap.size w wr) (fun i _ => l.length - (intOf i).toNat)
    case atStart => exact ⟨0, WS0, who, Nat.zero_le _, rfl, S1.out, ⟨WS.Ok.zero ⟨hm1, hm2⟩, rfl⟩, HW.out, B1.out⟩
    case round =>
      clear S1 B1 HW
      obtain ⟨k, s, who, hk, rfl, hS, hok, hwd, hb⟩ := hrel
      have S := Lib.hid hS
      have OK := Lib.hid hok
      have WD := Lib.hid hwd
      have BB := Lib.hid hb
      by_cases hlt : k < l.length
      · obtain ⟨⟨kk, xx⟩, hx⟩ : ∃ e, l[k]? = some e := ⟨_, List.getElem?_eq_getElem hlt⟩
        have ER := Ents.row H.out hx
        obtain ⟨b, o, ak, ck, av, cv, rfl, hf1, hf2, hall⟩ := ER
        obtain ⟨c0, c1, z0, z1⟩ := hall wr hb
        have hfe := HF.out _ (List.mem_of_getElem? hx)
        have hal : Below wr.heap.size wr (wr.alloc (.cells #[.slice ak kk.length ck, .slice av xx.length cv] 51)) := (Below.refl _ _).alloc (Nat.le_refl _) _
        have S2 := Lib.hid (hS.keep hal)
        have Z0 := Lib.hid (z0.keep hal)
        have Z1 := Lib.hid (z1.keep hal)
        have B2 := Lib.hid (keep_trans hb hal)
        have BX := Lib.hid (heap_new wr (.cells #[.slice ak kk.length ck, .slice av xx.length cv] 51))
        have LOW := Lib.hid hS.low.1
        have F1 := Lib.hid (show ∀ b o, ak = some ⟨b, o, none⟩ → 0 < kk.length → who b = 0 from fun b o e h0 => Classical.byContradiction fun e2 => by have := hf1 b o e h0; have := (LOW.out b e2).1; omega)
        have F2 := Lib.hid (show ∀ b o, av = some ⟨b, o, none⟩ → 0 < xx.length → who b = 0 from fun b o e h0 => Classical.byContradiction fun e2 => by have := hf2 b o e h0; have := (LOW.out b e2).1; omega)
        have HD := Lib.hid (edrop_cons2 hx)
        have hfe1 : kk.length ≤ 140737488351232 := hfe.1
        have hfe2 : xx.length ≤ 140737488351232 := hfe.2
        have hcode := add_code m s (kk, xx)
        clear hS hok hwd hb hx hf1 hf2 hall z0 z1 hfe
        go_upto_region 7 with (fail)
        obtain ⟨ge, hge⟩ : ∃ z, wr.heap.size = z := ⟨_, rfl⟩
        rw [hge] at BX
        rw [hge]
        clear c0 c1 hge hal S BB
        generalize wr.alloc (.cells #[.slice ak kk.length ck, .slice av xx.length cv] 51) = w3 at *
        have x0 := cell_of BX.out 0 rfl
        have x1 := cell_of BX.out 1 rfl
        go_wp2_with fail
        refine (sadd_any w3 w.heap.size g m s who ak kk.length ck kk av xx.length cv xx S2.out OK.out.1 hfe1 hfe2 Z0.out Z1.out F1.out F2.out).mono ?_
        rintro e w4 ⟨rfl, who4, hS4, hG4⟩
        have S4 := Lib.hid hS4
        have B4 := Lib.hid (hG4.keepB (fun j hj => (LOW.out j hj).1) B2.out B2.out.size)
        obtain ⟨q, hq⟩ : ∃ q, (s.add m (kk, xx)).1 = q := ⟨_, rfl⟩
        rw [hq] at hcode ⊢
        have HQ := Lib.hid hq
        clear hS4 hG4 hq x0 x1 BX Z0 Z1 S2 B2 F1 F2
        by_cases hq0 : q = 0
        · subst hq0
          have t1 : ((0 : Int) != 0) = false := rfl
          go_wp2_with fail
          go_roundw
          case rel => exact ⟨k + 1, (s.add m (kk, xx)).2, who4, by omega, by go_num, S4.out, ⟨OK.out.1.add _, add_shut _ OK.out.2⟩, by have := WD.out; rw [HD.out, wadds_go HQ.out] at this; exact this, B4.out⟩
          case measure => simp [intOf]; omega
        · have t1 : ((q : Int) != 0) = true := by rw [bne_iff_ne]; omega
          have t1' : (q != 0) = true := by rw [bne_iff_ne]; exact hq0
          have FIN := Lib.hid (show sbytesW W = ([], q, k) by
            have := WD.out
            rw [HD.out, wadds_bad (by rw [HQ.out]; exact hq0)] at this
            rw [← this, HQ.out]; unfold sbytesW; rw [if_pos hq0])
          clear hq0
          go_wp2_with fail
          go_ret3
          rw [FIN.out]
          exact ⟨_, rfl, OwT.nil _ _ _ _, B4.out⟩
      · obtain rfl : k = l.length := by omega
        clear hS hok hwd hb
        have hcl := Lib.hid (sclose_any wr w.heap.size g m s who S.out OK.out.1)
        rw [OK.out.2] at hcl
        go_wp2_with fail
        refine hcl.out.mono ?_
        rintro e w2 ⟨rfl, who2, hS2, hG2⟩
        have B2 := Lib.hid (hG2.keepB (fun j hj => (S.out.low.1 j hj).1) BB.out BB.out.size)
        have S2 := Lib.hid (show WrS w2 w.heap.size g m s.close who2 from hS2)
        clear hS2 hG2 hcl
        go_wp2_with fail
        refine (snext_any w2 w.heap.size g m s.close who2 S2.out (OK.out.1.close OK.out.2)).mono ?_
        rintro e w3 ⟨a3, n3, c3, who3, rfl, ho3, hS3, hG3, -⟩
        have O3 := Lib.hid ho3
        have B3 := Lib.hid (hG3.keepB (fun j hj => (S2.out.low.1 j hj).1) B2.out B2.out.size)
        clear ho3 hS3 hG3
        go_wp2_with fail
        go_ret3
        have FIN : sbytesW W = (s.close.ready, 0, 0) := by
          have := WD.out
          rw [List.drop_length, wadds_nil] at this
          rw [← this]; rfl
        rw [FIN]
        exact ⟨_, rfl, O3.out, B3.out⟩
end Go.Proofs.YtljcogimeimknaaGreat
/- Bytes of a stream, the reference's: contract; lives. Conditions: the entries within reach. -/
namespace Go.Proofs.YtljcogimeimknaaGreat
open Go.RowKit
set_option linter.unusedVariables false

theorem sbytes_nil : (sbytes [] 1).1.length = 28 ∧ (sbytes [] 1).2 = (0, 0) := by
  have hv : ∀ n, n < 128 → (vb n).length = 1 := fun n h => by rw [vb_lt h]; rfl
  have e0 : WS0.close.ready = headB ++ finB [] := by
    have e1 : WS0.close.ready = WS0.close.whole := rfl
    have e2 : WS0.close.whole = headB ++ outL [] ++ finB [] := rfl
    rw [e1, e2]; rfl
  have e1 : sbytes [] 1 = (WS0.close.ready, 0, 0) := rfl
  have hfc : fchk (rowsL []) = (0, 0) := rfl
  have hfb : (fbs (rowsL [])).length = 2 := by
    rw [fbs_yes (by rw [hfc])]
    have h0 : totU (rowsL []) = 0 := rfl
    have hr : rowsL [] = [] := rfl
    unfold fbytes
    rw [h0, hr]
    simp [hv]
  rw [e1, e0]
  refine ⟨?_, rfl⟩
  show (headB ++ finB []).length = 28
  unfold finB
  rw [List.length_append, List.length_append, tailB_len, frm_len, hfb, hv 2 (by decide)]
  rfl

set_option maxRecDepth 100000 in
theorem lives_any (w : World) : Calls Tryz.prog 7 #[] w fun e w' => e = .returned (.bool true) ∧ Below w.heap.size w w' := by
  have HB := sbytes_any none 0 0 [] 1 w (by decide) (fun e he => by simp at he) ⟨rfl, Nat.le_refl _, fun _ => rfl, fun i k v h => by simp at h⟩
  have h1 := sbytes_nil.1
  have h2 := sbytes_nil.2
  obtain ⟨⟨b, r⟩, hb⟩ : ∃ X, sbytes [] 1 = X := ⟨_, rfl⟩
  rw [hb] at HB h1 h2
  have h2 : r = (0, 0) := h2
  subst h2
  have HB := Lib.hid HB
  have H1 := Lib.hid h1
  clear h1 hb
  go_enter Tryz.func7, Tryz.ntmps7
  go_wp2_with fail
  refine HB.out.mono ?_
  rintro e w1 ⟨x1, rfl, ho, hb⟩
  obtain ⟨a1, n1, c1, rfl, z1⟩ := ho.slN
  have hn : n1 = 28 := by rw [← z1.len]; exact H1.out
  subst hn
  have B1 := Lib.hid hb
  clear ho hb z1
  go_wp2_with fail
  go_ret
  exact ⟨rfl, B1.out⟩
end Go.Proofs.YtljcogimeimknaaGreat
