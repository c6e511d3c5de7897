/- A writer of streams: Close: contract. Conditions: the writer stands rightly. -/
import Derived.Test.YtljcogimeimknaaStmW
import Derived.Test.YtljcogimeimknaaK8f
import Derived.Test.YtljcogimeimknaaK8d
import Derived.Deep.RegionLaw
namespace Go.Proofs.Ytljcogimeimknaa
open Go.RowKit
set_option linter.unusedVariables false

theorem rowsF_fit : ∀ (L : List (List Ent)) (p : Nat), OkL L → p + 23015 * L.length ≤ 1000000000000 → FitR 64 (rowsF p L)
  | [], _, _, _ => fun r hr => by simp [rowsF] at hr
  | l :: t, p, hL, hp => fun r hr => by
    have h1 := hL l List.mem_cons_self
    have h2 := blkf_le h1.1.1 (srt_okay h1.1.2)
    have h3 := h1.1.1
    simp only [List.length_cons] at hp
    simp only [rowsF, List.mem_cons] at hr
    rcases hr with rfl | hr
    · exact ⟨(bst_le l (srt_okay h1.1.2)).2.2, ⟨by show -9223372036854775808 ≤ (p : Int); omega, by show (p : Int) ≤ 9223372036854775807; omega⟩, ⟨by show -9223372036854775808 ≤ ((blkf l).length : Int); omega, by show ((blkf l).length : Int) ≤ 9223372036854775807; omega⟩, by show -9223372036854775808 ≤ (l.length : Int); omega, by show (l.length : Int) ≤ 9223372036854775807; omega⟩
    · exact rowsF_fit t _ (fun x hx => hL x (List.mem_cons_of_mem _ hx)) (by omega) r hr
theorem rowsL_fit {L : List (List Ent)} (h : OkL L) (hl : L.length ≤ 8388608) : FitR 140737488351232 (rowsL L) := fun r hr => by
  have := rowsF_fit L 8 h (by omega) r hr
  exact ⟨by omega, this.2⟩

theorem WrS.close_fin {w : World} {lo g gb m q : Nat} {v : Nat → Value} {lv rv yv : Value} {vs : List RV} {s : WS} {who : Nat → Nat}
    (h : Wr w lo g gb v lv rv yv vs m s.cut.now s.cut.last (rowsL s.cut.L) true [s.cut.ready, frm 70 (fbs (rowsL s.cut.L)), tailB q].flatten who) (hq : endL s.cut.L = q) (hr : s.close.ready = s.cut.ready ++ finB s.cut.L) : WrS w lo g m s.close who := by
  refine ⟨gb, v, lv, rv, yv, vs, ?_⟩
  rw [hr]
  have e : [s.cut.ready, frm 70 (fbs (rowsL s.cut.L)), tailB q].flatten = s.cut.ready ++ finB s.cut.L := by
    rw [← hq]; simp [finB]
  rw [e] at h
  exact h
set_option maxRecDepth 100000 in
set_option maxHeartbeats 2000000 in
theorem sclose_any (w : World) (lo g m : Nat) (s : WS) (who : Nat → Nat) (h : WrS w lo g m s who) (hok : s.Ok m) :
    Calls Try.prog 20 #[.pointer (some ⟨g, 0, none⟩)] w fun e w' => e = .returned (.int .i64 ((if s.shut then 87 else 0 : Nat) : Nat)) ∧ WPost w w' lo g m (if s.shut then s else s.close) who := by
  obtain ⟨gb, v, lv, rv, yv, vs, hW⟩ := id h
  have c4 := hW.c4
  by_cases hs : s.shut = true
  · have FIN := Lib.hid (show WPost w w lo g m (if s.shut then s else s.close) who by rw [hs]; exact ⟨who, h, Gr.refl _ _⟩)
    rw [hs] at c4 ⊢
    rw [hs] at FIN
    clear hW h hok hs
    go_enter Try.func20, Try.ntmps20
    go_wp2_with fail
    go_ret
    exact ⟨rfl, FIN.out⟩
  · replace hs := ok_of_open hs
    have EN := Lib.hid (sends_any w lo g m s who h (hok.weak hs))
    have OK1 := Lib.hid hok.cut
    have RC := Lib.hid (WS.close_ready hok hs)
    have hs1 : s.cut.shut = false := by rw [WS.cut_shut, hs]
    have HS1 := Lib.hid hs1
    rw [hs] at c4 ⊢
    clear hW h hok hs hs1
    go_enter Try.func20, Try.ntmps20
    go_wp2_with fail
    refine EN.out.mono ?_
    rintro e w1 ⟨rfl, who1, ⟨gb1, v1, lv1, rv1, yv1, vs1, hW1⟩, hG1⟩
    have W1 := Lib.hid hW1
    have G1 := Lib.hid hG1
    have d4 := hW1.c4
    have f4 := hW1.free 4
    clear hW1 hG1 EN c4
    go_upto_region 5 with (fail)
    obtain ⟨hW2, hG2⟩ := W1.out.setS true
    have G2 := Lib.hid (G1.out.trans hG2)
    clear W1 G1 d4 f4 hG2
    generalize w1.setCell ⟨g, 4, none⟩ (.bool true) = w2 at *
    obtain ⟨aR, nR, cR, hrv, hsp⟩ := hW2.spv
    subst hrv
    have W2 := Lib.hid hW2
    have c3 := hW2.c3
    have hmany := OK1.out.many
    have hnR : nR ≤ 8388608 := by rw [← hsp.spans.1, rowsL_len]; exact hmany
    have SP := Lib.hid (Stab.spans hsp.spans)
    have FIT := Lib.hid (rowsL_fit OK1.out.l hmany)
    have hfb := fbs_le (rowsL s.cut.L)
    clear hW2 hsp
    go_wp2_with fail
    refine (ffbytes_any aR nR cR (rowsL s.cut.L) w2 (by omega) FIT.out SP.out.now).mono ?_
    rintro e w3 ⟨x3, rfl, ho3, hb3⟩
    obtain ⟨aB, nB, cB, rfl, zB⟩ := ho3.slN
    have hnB : nB ≤ 873000000 := by rw [← zB.len]; exact hfb
    have hW3 := W2.out.keep hb3
    obtain ⟨aY, nY, cY, hyv, zY⟩ := hW3.yr.slN
    subst hyv
    have W3 := Lib.hid hW3
    have G3 := Lib.hid (G2.out.trans (Gr.below hb3))
    replace SP := Lib.hid (SP.out.keep hb3)
    have hgw := hW3.lt
    have WB := Lib.hid hW3.blk
    have c3' := hW3.c3
    have c5' := hW3.c5
    have NB := Lib.hid (show ∀ (x5 : World), Below w3.heap.size w3 x5 → x5.cell? ⟨g, 3, none⟩ = some (.slice aR nR cR) ∧ x5.cell? ⟨g, 5, none⟩ = some (.slice aY nY cY) from fun x5 hb => ⟨(World.cell?_of_block (hb.block _ hgw)).trans c3', (World.cell?_of_block (hb.block _ hgw)).trans c5'⟩)
    have NF := Lib.hid (show ∀ (x5 : World), Below w3.heap.size w3 x5 → x5.frozen? ⟨g, 5, none⟩ = false from fun x5 hb => free_block ((hb.block _ hgw).trans WB.out) 5)
    have hRY := WS.ready_le OK1.out
    have hYL : nY ≤ 200000000000 := by rw [← zY.len]; exact hRY
    obtain ⟨q, hq⟩ : ∃ q, endL s.cut.L = q := ⟨_, rfl⟩
    have hql : q ≤ 1000000000000 := by rw [← hq]; have := outL_le OK1.out.l; unfold endL; omega
    have HQ := Lib.hid hq
    have SE := Lib.hid (fun (W : World) (hb : Below w3.heap.size w3 W) => hq ▸ send_any aR nR cR s.cut.L W hmany OK1.out.l (SP.out.keep hb).now)
    have FR := Lib.hid (fun (W : World) (hb : Below w3.heap.size w3 W) => sframe_any 70 70 rfl aB nB cB (fbs (rowsL s.cut.L)) W (by omega) (zB.keep hb))
    have TL := Lib.hid (fun (W : World) => stail_any q W (by omega))
    have ZYW := Lib.hid (fun (W : World) (hb : Below w3.heap.size w3 W) => zY.keep hb)
    have FL := Lib.hid (show [s.cut.ready, frm 70 (fbs (rowsL s.cut.L)), tailB q].flatten.length ≤ 140737488355328 by
      have := frm_le 70 (fbs (rowsL s.cut.L)) (by omega)
      simp only [List.flatten_cons, List.flatten_nil, List.append_nil, List.length_append, tailB_len]
      omega)
    have HB : Hid (Below w3.heap.size w3 w3.drew) := Lib.hid ((Below.refl _ _).drew)
    obtain ⟨e3, e5⟩ := NB.out _ HB.out
    clear ho3 hb3 zB zY hW3 c3 c3' c5' hq hfb hmany
    go_upto_region 6 with (fail)
    go_region_law (first
      | (go_simp; go_at_call 50; refine (SE.out _ HB.out).mono ?_; rintro e w5 ⟨rfl, hb5⟩; (try replace ZF := Lib.hid (ZF.out.keep hb5)); replace HB := Lib.hid (keep_trans HB.out hb5); obtain ⟨e3, e5⟩ := NB.out _ HB.out; clear hb5)
      | (go_simp; go_at_call 48; refine (FR.out _ HB.out).mono ?_; rintro e w6 ⟨x6, rfl, ho6, hb6⟩; obtain ⟨aF, nF, cF, rfl, zF⟩ := ho6.slN; have ZF := Lib.hid (Stab.sl zF); (try replace ZT := Lib.hid (ZT.out.keep hb6)); replace HB := Lib.hid (keep_trans HB.out hb6); obtain ⟨e3, e5⟩ := NB.out _ HB.out; clear ho6 hb6 zF)
      | (go_simp; go_at_call 49; refine (TL.out _).mono ?_; rintro e w7 ⟨x7, rfl, ho7, hb7⟩; obtain ⟨aT, nT, cT, rfl, zT⟩ := ho7.slN; have ZT := Lib.hid (Stab.sl zT); (try replace ZF := Lib.hid (ZF.out.keep hb7)); replace HB := Lib.hid (keep_trans HB.out hb7); obtain ⟨e3, e5⟩ := NB.out _ HB.out; clear ho7 hb7 zT)
      | (go_simp; go_at_call 47; refine (concat_any _ 3 3 [s.cut.ready, frm 70 (fbs (rowsL s.cut.L)), tailB q] _ (by omega) FL.out (rows2_3 _ _ _ _ _ _ _ _ _ _ _ _ _ (ZYW.out _ HB.out) ZF.out.now ZT.out.now)).mono ?_; rintro e w8 ⟨x8, rfl, ho8, hb8⟩; obtain ⟨aC, nC, cC, rfl, zC⟩ := ho8.slN; have O8 := Lib.hid (ho8.base (base' := w3.heap.size) (by have := HB.out.size; simp; omega)); replace HB := Lib.hid (keep_trans (keep_trans HB.out ((Below.refl _ _).alloc (Nat.le_refl _) _)) hb8); obtain ⟨e3, e5⟩ := NB.out _ HB.out; have f5 := NF.out _ HB.out; clear ho8 hb8 zC))
    all_goals
      go_wp2_with fail
      obtain ⟨who8, hW8, hG8⟩ := W3.out.setY (Turns.of_below HB.out) (.inl (O8.out.base W3.out.lw)) (fun j hj => .inr (O8.out.lt j hj).1)
      go_ret
      exact ⟨rfl, who8, WrS.close_fin hW8 HQ.out RC.out, G3.out.trans hG8⟩
end Go.Proofs.Ytljcogimeimknaa
