/- PipeSinks: the walk: the program's sink and the document's, handed anything, call by call. Conditions: what it is handed within reach, together too. -/
import Derived.Test.YtjkgncogpefnbaaPipeRefK
import Derived.Test.YtjkgncogpefnbaaPipeLives
import Derived.Test.YtjkgncogpefnbaaSameS
import Derived.Test.YtjkgncogpefnbaaRows2
namespace Go.Proofs.Ytjkgncogpefnbaa
open Go.RowKit
set_option linter.unusedVariables false
set_option linter.unusedSimpArgs false

def textsLen (l : List (List UInt8)) : Nat := (l.map List.length).sum
theorem textsLen_drop {l : List (List UInt8)} {k : Nat} {x : List UInt8} (h : l[k]? = some x) : textsLen (l.drop k) = x.length + textsLen (l.drop (k + 1)) := by
  obtain ⟨hk, e⟩ := List.getElem?_eq_some_iff.1 h
  rw [List.drop_eq_getElem_cons hk, e]; rfl
/-- behind k rounds -/
structure SkSt (w W : World) (lo g gr : Nat) (S R : Nat → Prop) (k T : Nat) (ks : List (List UInt8)) (t : Snk) : Prop where
  snk : SnkP g lo t S W
  ref : RkP gr lo t R W
  dis : ∀ j, S j → ¬ R j
  tc : t.calls = k
  tl : t.took.length + textsLen (ks.drop k) ≤ T
  bel : Below w.heap.size w W
theorem SkSt.keep {w W W' : World} {lo g gr k T : Nat} {S R : Nat → Prop} {ks : List (List UInt8)} {t : Snk} (h : SkSt w W lo g gr S R k T ks t) (hb : Below W.heap.size W W') : SkSt w W' lo g gr S R k T ks t :=
  ⟨h.snk.keep hb, h.ref.keep hb, h.dis, h.tc, h.tl, keep_trans h.bel hb⟩
theorem Snk.next_len (t : Snk) (p : List UInt8) : (t.next p).took.length ≤ t.took.length + p.length := by
  show (t.took ++ p.take _).length ≤ _
  rw [List.length_append, List.length_take]; omega
set_option maxRecDepth 100000 in
set_option maxHeartbeats 4000000 in
theorem pipeSinks_walk (ag : Option Addr) (ng cg : Nat) (gs : List Int) (xf : Int) (al : Option Addr) (nl cl : Nat) (ks : List (List UInt8)) (w : World)
    (hng : ng ≤ 17592186043904) (hnl : nl ≤ 17592186043904) (hT : textsLen ks ≤ 70368744177664) (hI : Ints gs) (hG : Sl fZ w ag ng cg gs) (hK : Rows2 w al nl cl ks) :
    Calls Try.prog 5 #[.slice ag ng cg, .int .i64 xf, .slice al nl cl] w fun e w' => e = .returned (.bool true) ∧ Below w.heap.size w w' := by
  obtain rfl : ks.length = nl := hK.1
  have HG := Lib.hid hG; have HK := Lib.hid hK; have HI := Lib.hid hI
  clear hG hK hI
  go_enter Try.func5, Try.ntmps5
  go_wp2_with fail
  refine (lives_any _).mono ?_
  rintro e w1 ⟨rfl, hb⟩
  have B1 := Lib.hid hb
  clear hb
  go_wp2_with fail
  refine (sink_any ag ng cg gs xf w1 hng HI.out (HG.out.keep B1.out)).mono ?_
  rintro e w2 ⟨g, S, gr, rfl, hs2, hr2, hSr, hgr, hb⟩
  have B2 := Lib.hid (keep_trans B1.out hb)
  have hz1 := B1.out.size
  have ST0 := Lib.hid (show SkSt w w2 w1.heap.size g gr S (fun j => j = gr) 0 (textsLen ks) ks ⟨gs, xf, 0, []⟩ from ⟨hs2, hr2, fun j hj e => hSr (e ▸ hj), rfl, by simp, B2.out⟩)
  clear hs2 hr2 hSr hb B1
  go_wp2_with fail
  go_loopw [10] (fun i wr => ∃ (k : Nat) (t : Snk) (S R : Nat → Prop), k ≤ ks.length ∧ i = .int .i64 (k : Nat) ∧ SkSt w wr w1.heap.size g gr S R k (textsLen ks) ks t) (fun i _ => ks.length - (intOf i).toNat)
  case atStart => exact ⟨0, _, S, _, Nat.zero_le _, rfl, ST0.out⟩
  case round =>
    obtain ⟨k, t, S1, R1, hk, rfl, hst⟩ := hrel
    have ST := Lib.hid hst
    have htl := hst.tl
    have htc := hst.tc
    clear hst ST0
    by_cases hlt : k < ks.length
    · obtain ⟨b, o, ax, nx, cx, rfl, hc, hx⟩ := HK.out.2.2 k ks[k] (List.getElem?_eq_getElem hlt)
      have hd := textsLen_drop (List.getElem?_eq_getElem hlt)
      have hnx : ks[k].length = nx := hx.len
      have hbw : b < w.heap.size := cell_lt hc
      have hbx : ∀ b' o', ax = some ⟨b', o', none⟩ → 0 < nx → b' < w.heap.size := fun b' o' e hn => by subst e; exact hx.blt hn
      obtain ⟨x, hxe⟩ : ∃ x, ks[k] = x := ⟨_, rfl⟩
      rw [hxe] at hx hd hnx
      have HX := Lib.hid hx
      have HBX := Lib.hid hbx
      have HC := Lib.hid hc
      have hnx2 : nx ≤ 70368744177664 := by omega
      have htl2 : t.took.length + nx + textsLen (ks.drop (k + 1)) ≤ textsLen ks := by omega
      clear hc hx hbx hd htl hxe
      have hxl := Lib.hid hnx
      clear hnx
      have q1 : (wr.alloc (.cells #[] 5)).cell? ⟨b, o + k, none⟩ = some (.slice ax nx cx) := (World.cell?_of_block (w := w) ((keep_trans ST.out.bel ((Below.refl _ _).alloc (Nat.le_refl _) _)).block b hbw)).trans HC.out
      go_upto_region 9 with (first
        | (at_builtin; refine wpList_appT eltTB rfl (.tmp 41) (.tmp 45) rfl wr.heap.size _ [] (by rfl) (OwT.lit fB _ wr.heap.size _ _ [] 0 rfl rfl (Nat.le_refl _) (Nat.zero_le _)) ax nx cx x (by rfl) (HX.out.keep (keep_trans ST.out.bel ((Below.refl _ _).alloc (Nat.le_refl _) _))).toT (by unfold maxLen; simp; omega) (by simp; omega) (by simp) x rfl ?_; intro v2 w4 h2 hg2 hv2 hb2; obtain ⟨a2, n2, c2, rfl, z2⟩ := h2.slN; have L2 := Lib.hid z2.len; have O2 := Lib.hid h2; have BE2 := Lib.hid ((((Below.refl wr.heap.size wr).alloc (Nat.le_refl _) (.cells #[] 5)).trans hb2)); clear h2 hg2 hv2 hb2 z2)
        | (at_builtin; refine wpList_appT eltTB rfl (.tmp 46) (.tmp 47) rfl wr.heap.size _ x (by rfl) (O2.out.alloc _) _ 1 1 [77] (by rfl) (Sl.lit _ _ _ _ _ rfl rfl).toT (by rw [hxl.out]; unfold maxLen; omega) (by rw [hxl.out]; omega) (by have := BE2.out.size; simp; omega) (x ++ [77]) rfl ?_; intro v3 w5 h3 hg3 hv3 hb3; obtain ⟨a3, n3, c3, rfl, z3⟩ := h3.slN; have L3 := Lib.hid z3.len; have O3 := Lib.hid h3; have BE3 := Lib.hid ((BE2.out.alloc BE2.out.size (.cells #[.int .u8 77] 5)).trans hb3); clear h3 hg3 hv3 hb3 z3))
      obtain ⟨y, b3, o3, hy, rfl, hc3⟩ := O3.out.slI.at nx (by have := L3.out; rw [List.length_append] at this; have := hxl.out; simp at *; omega)
      have hy7 : y = 77 := by
        rw [List.getElem?_append_right (by rw [hxl.out]; exact Nat.le_refl _), hxl.out, Nat.sub_self] at hy
        simpa using hy.symm
      subst hy7
      have hn3 : n3 = nx + 1 := by have := L3.out; rw [List.length_append, hxl.out] at this; exact this.symm
      subst hn3
      have hcap := O3.out.capB
      have hc3le : nx + 1 ≤ c3 ∧ c3 ≤ 9223372036854775807 := hcap.2
      have hb3 : wr.heap.size ≤ b3 ∧ b3 < w5.heap.size := O3.out.lt b3 rfl
      have HC3 := Lib.hid (show w5.cell? ⟨b3, o3 + nx, none⟩ = some (.int .u8 77) from hc3)
      have S6 := Lib.hid (show Sl Bf w5 (some ⟨b3, o3, none⟩) nx c3 x by have := O3.out.slI.upto nx (by omega); rwa [List.take_left' hxl.out] at this)
      have hloW : w1.heap.size ≤ wr.heap.size := by have := (ST.out.snk.inS g ST.out.snk.own); omega
      have lS : ∀ j, S1 j → w1.heap.size ≤ j ∧ j < wr.heap.size := ST.out.snk.inS
      have lR : ∀ j, R1 j → w1.heap.size ≤ j ∧ j < wr.heap.size := ST.out.ref.inS
      have LS := Lib.hid lS
      have LR := Lib.hid lR
      have SN5 := Lib.hid (ST.out.snk.keep BE3.out)
      have RK5 := Lib.hid (ST.out.ref.keep BE3.out)
      have BL5 := Lib.hid (keep_trans ST.out.bel BE3.out)
      have DIS := Lib.hid ST.out.dis
      have q2 : w5.cell? ⟨b, o + k, none⟩ = some (.slice ax nx cx) := (World.cell?_of_block (w := w) (BL5.out.block b hbw)).trans HC.out
      have hcut1 := fun V : World => run_cutto eltB V (some ⟨b3, o3, none⟩) (nx + 1) c3 .i64 nx (by omega)
      clear hy hc3 hcap q1 lS lR ST BE2 O2 L2 L3
      go_wp2_with fail
      refine (swrite_any g _ t S1 (some ⟨b3, o3, none⟩) nx c3 x w5 SN5.out (by omega) (by omega) S6.out (fun b' o' e hn h => by injection e with e; injection e with e; subst e; have := LS.out _ h; omega)).mono ?_
      rintro e w6 ⟨rfl, S2, hs6, hsub6, ht6⟩
      have SN6 := Lib.hid hs6
      have SU6 := Lib.hid hsub6
      have S2HI := Lib.hid (show ∀ j, S2 j → j < w6.heap.size from fun j hj => (hs6.inS j hj).2)
      have RK6 := Lib.hid (RK5.out.turns ht6 (fun j hj h => DIS.out j h hj) (fun j h => (LS.out j h).1))
      have O6 := Lib.hid (O3.out.turns ht6 fun j hj h => by have := (O3.out.lt j hj).1; have := LS.out j h; omega)
      have BL6 := Lib.hid (ht6.below BL5.out BL5.out.size fun j h => by have := LS.out j h; omega)
      have hz6 : w5.heap.size ≤ w6.heap.size := ht6.size
      have q3 : w6.cell? ⟨b, o + k, none⟩ = some (.slice ax nx cx) := (World.cell?_of_block (w := w) (BL6.out.block b hbw)).trans HC.out
      have HC6 := Lib.hid ((World.cell?_of_block (w := w5) (a := ⟨b3, o3 + nx, none⟩) (ht6.block b3 (by omega) (fun h => by have := LS.out _ h; omega))).trans HC3.out)
      have SQ := Lib.hid (fun (V : World) (hV : Drw w6 V) => (show Calls Try.prog 17 #[.slice (some ⟨b3, o3, none⟩) nx c3, .slice ax nx cx] V fun e w' => e = .returned (.bool true) ∧ Drw V w' from by
        have := sameD_any (some ⟨b3, o3, none⟩) nx c3 x ax nx cx x V (by omega) (by omega) (by have := (O6.out.slI.upto nx (by omega)).keep hV.below; rwa [List.take_left' hxl.out] at this) (HX.out.keep (keep_trans BL6.out hV.below))
        rwa [decide_eq_true rfl] at this))
      obtain ⟨tk, htk⟩ : ∃ q, t.takes x.length = q := ⟨_, rfl⟩
      obtain ⟨er, her⟩ : ∃ q, t.err = q := ⟨_, rfl⟩
      have HTK := Lib.hid htk
      have HER := Lib.hid her
      rw [htk, her]
      clear hs6 hsub6 ht6 q2 SN5 RK5 BL5 O3 HC3 S6 htk her
      go_upto_region 10 with (fail)
      go_cut [14] (fun b wx => b = .bool true ∧ Drw w6 wx)
      case first =>
        go_quiet ((go_at_call 17; exact Calls.quiet_of_drw (SQ.out _ (by first | exact (Drw.refl _).more _ | exact ((Drw.refl _).more _).more _))))
        go_wp2_with fail
        go_meet
        exact ⟨rfl, by first | exact (Drw.refl _).more _ | exact ((Drw.refl _).more _).more _ | exact Drw.refl _⟩
      obtain ⟨rfl, hcw⟩ := hcut
      obtain ⟨w7, hw7⟩ : ∃ V, wc = V := ⟨_, rfl⟩
      rw [hw7] at hcw ⊢
      have CW := Lib.hid hcw.below
      have hz7 : w6.heap.size ≤ w7.heap.size := hcw.below.size
      have BL7 := Lib.hid (keep_trans BL6.out CW.out)
      have q4 : w7.cell? ⟨b, o + k, none⟩ = some (.slice ax nx cx) := (World.cell?_of_block (w := w) (BL7.out.block b hbw)).trans HC.out
      have q5 : w7.cell? ⟨b3, o3 + nx, none⟩ = some (.int .u8 77) := (World.cell?_of_block (w := w6) (a := ⟨b3, o3 + nx, none⟩) (CW.out.block b3 (by omega))).trans HC6.out
      have SN7 := Lib.hid (SN6.out.keep CW.out)
      have RK7 := Lib.hid (RK6.out.keep CW.out)
      have O7 := Lib.hid (O6.out.keep CW.out)
      clear hw7 hcw q3 SQ CW SN6 RK6 O6 HC6 BL6
      go_wp2_with fail
      refine (spoil_any (some ⟨b3, o3, none⟩) (nx + 1) c3 w7 hc3le.2 O7.out.soft).mono ?_
      rintro e w8 ⟨rfl, hg8⟩
      have T8 := Lib.hid (Turns.of_grown (S := fun j => j = b3) hg8 fun j e => by injection e with e; exact e.symm)
      have hz8 : w7.heap.size ≤ w8.heap.size := T8.out.size
      have BL8 := Lib.hid (T8.out.below BL7.out BL7.out.size fun j h => by have := BL7.out.size; omega)
      have SN8 := Lib.hid (SN7.out.turns T8.out fun j hj e => by rcases SU6.out j hj with h | h; (have := LS.out j h; omega); (omega))
      have RK8 := Lib.hid (RK7.out.turns T8.out (fun j hj e => by have := LR.out j hj; omega) (fun j e => by omega))
      have q6 : w8.cell? ⟨b, o + k, none⟩ = some (.slice ax nx cx) := (World.cell?_of_block (w := w) (BL8.out.block b hbw)).trans HC.out
      clear hg8 q4 q5 T8 SN7 RK7 O7 BL7
      go_wp2_with fail
      refine (rwrite_any gr w1.heap.size t R1 ax nx cx x w8 RK8.out (by omega) (by omega) (by omega) (HX.out.keep BL8.out) (fun b' o' e hn h => by have := HBX.out b' o' e hn; have := LR.out b' h; omega)).mono ?_
      rintro e w9 ⟨rfl, R2, hr9, hsubR, ht9⟩
      have SUR := Lib.hid hsubR
      have RK9 := Lib.hid hr9
      have SL2 := Lib.hid (SN8.out.inS)
      have s2lt : ∀ j, S2 j → S1 j ∨ (w5.heap.size ≤ j ∧ j < w6.heap.size) := fun j hj => by
        rcases SU6.out j hj with h | h
        · exact .inl h
        · exact .inr ⟨h, S2HI.out j hj⟩
      have S2L := Lib.hid s2lt
      have SN9 := Lib.hid (SN8.out.turns ht9 fun j hj h => by
        rcases S2L.out j hj with h2 | h2
        · exact DIS.out j h2 h
        · have := LR.out j h; omega)
      have DI9 := Lib.hid (show ∀ j, S2 j → ¬ R2 j from fun j hj h => by
        rcases SUR.out j h with h1 | h1 <;> rcases S2L.out j hj with h2 | h2
        · exact DIS.out j h2 h1
        · have := LR.out j h1; omega
        · have := LS.out j h2; omega
        · omega)
      have hz9 : w8.heap.size ≤ w9.heap.size := ht9.size
      have BL9 := Lib.hid (ht9.below BL8.out BL8.out.size fun j h => by have := LR.out j h; omega)
      have htk2 := HTK.out
      have her2 := HER.out
      rw [htk2, her2]
      have hnl := t.next_len x
      have hxl2 := hxl.out
      have FT := Lib.hid (show (t.next x).took.length + textsLen (ks.drop (k + 1)) ≤ textsLen ks by omega)
      have hft : (t.next x).took.length ≤ 140737488351232 := by omega
      have FC := Lib.hid (show (t.next x).calls = k + 1 by show t.calls + 1 = _; omega)
      clear hr9 hsubR ht9 q6 SN8 RK8 BL8 s2lt htk2 her2 hnl hxl2
      go_wp2_with fail
      refine (kcalls_any g _ _ S2 w9 SN9.out).mono ?_
      rintro e w10 ⟨rfl, rfl⟩
      go_wp2_with fail
      refine (kbytes_any g _ _ S2 w9 SN9.out hft).mono ?_
      rintro e w10 ⟨v, rfl, ho, hb⟩
      obtain ⟨a19, n19, c19, rfl, hs19⟩ := ho.slN
      have O10 := Lib.hid ho
      have SN10 := Lib.hid (SN9.out.keep hb)
      have RK10 := Lib.hid (RK9.out.keep hb)
      have BL10 := Lib.hid (keep_trans BL9.out hb)
      have hz10 : w9.heap.size ≤ w10.heap.size := hb.size
      have hcapb := ho.capB
      have hc19 : c19 ≤ 9223372036854775807 := hcapb.2.2
      have hn19 : n19 ≤ 140737488351232 := by have := hcapb.1; omega
      obtain ⟨am, nm, cm, vt, hbk, -, -, hot, -⟩ := RK10.out.blk
      obtain ⟨a20, n20, c20, rfl, hs20⟩ := hot.slN
      have hn20 : n20 ≤ 140737488351232 := by have := hs20.len; omega
      obtain ⟨cc, hcc⟩ : ∃ c, (t.next x).calls = c := ⟨_, rfl⟩
      rw [hcc] at hbk ⊢
      have BK := Lib.hid hbk
      have y3 := cell_of hbk 3 (v := .slice a20 n20 c20) rfl
      have SMD := Lib.hid (show Calls Try.prog 17 #[.slice a19 n19 c19, .slice a20 n20 c20] w10 (fun e w' => e = .returned (.bool true) ∧ Drw w10 w') from by have := sameD_any a19 n19 c19 _ a20 n20 c20 _ w10 (by omega) (by omega) hs19 hs20; rwa [decide_eq_true rfl] at this)
      clear ho hs19 hb hcapb hbk hot hs20 hcc
      go_wp2_with fail
      refine SMD.out.mono ?_
      rintro e w11 ⟨rfl, hd11⟩
      have D11 := Lib.hid hd11.below
      have O11 := Lib.hid (O10.out.keep hd11.below)
      have hz11 : w10.heap.size ≤ w11.heap.size := hd11.below.size
      clear hd11 y3 SMD
      go_wp2_with fail
      refine (spoil_any a19 n19 c19 w11 hc19 O11.out.soft).mono ?_
      rintro e w12 ⟨rfl, hg12⟩
      have T12 := Lib.hid ((Turns.of_below (S := fun j => w9.heap.size ≤ j) D11.out).trans (Turns.of_grown (S := fun j => w9.heap.size ≤ j) hg12 fun j e => (O10.out.lt j (by rw [own_map]; exact e)).1) fun _ _ e => e)
      have SN12 := Lib.hid (SN10.out.turns T12.out fun j hj e => by have := (SN9.out.inS j hj).2; omega)
      have RK12 := Lib.hid (RK10.out.turns T12.out (fun j hj e => by have := (RK9.out.inS j hj).2; omega) (fun j e => by omega))
      have BK12 := Lib.hid (T12.out.heap BK.out (by have := (RK9.out.inS gr RK9.out.own).2; omega))
      have BL12 := Lib.hid (T12.out.below BL10.out BL10.out.size fun j e => by omega)
      have y2 := cell_of BK12.out 2 (v := .int .i64 (cc : Nat)) rfl
      have FIN := Lib.hid (show SkSt w w12 w1.heap.size g gr S2 R2 (k + 1) (textsLen ks) ks (t.next x) from ⟨SN12.out, RK12.out, DI9.out, FC.out, FT.out, BL12.out⟩)
      have u1 : ((tk : Int) != (tk : Int)) = false := by simp
      have u2 : ((er : Int) != (er : Int)) = false := by simp
      have u3 : ((cc : Int) != (cc : Int)) = false := by simp
      clear hg12
      go_wp2_with fail
      exact ⟨⟨k + 1, t.next x, S2, R2, by omega, by go_num, FIN.out⟩, by simp [intOf]; omega⟩
    · have hft : t.took.length ≤ 140737488351232 := by omega
      go_wp2_with fail
      refine (kbytes_any g _ t S1 wr ST.out.snk hft).mono ?_
      rintro e w10 ⟨v, rfl, ho, hb⟩
      obtain ⟨a19, n19, c19, rfl, hs19⟩ := ho.slN
      have hn19 : n19 ≤ 140737488351232 := by have := hs19.len; omega
      have RK10 := Lib.hid (ST.out.ref.keep hb)
      have BL10 := Lib.hid (keep_trans ST.out.bel hb)
      obtain ⟨am, nm, cm, vt, hbk, -, -, hot, -⟩ := RK10.out.blk
      obtain ⟨a20, n20, c20, rfl, hs20⟩ := hot.slN
      have hn20 : n20 ≤ 140737488351232 := by have := hs20.len; omega
      have y3 := cell_of hbk 3 (v := .slice a20 n20 c20) rfl
      have SMD := Lib.hid (show Calls Try.prog 17 #[.slice a19 n19 c19, .slice a20 n20 c20] w10 (fun e w' => e = .returned (.bool true) ∧ Drw w10 w') from by have := sameD_any a19 n19 c19 _ a20 n20 c20 _ w10 (by omega) (by omega) hs19 hs20; rwa [decide_eq_true rfl] at this)
      clear ho hs19 hb hbk hot hs20
      go_wp2_with fail
      refine SMD.out.mono ?_
      rintro e w11 ⟨rfl, hd11⟩
      have B11 := Lib.hid (keep_trans BL10.out hd11.below)
      clear hd11
      go_wp2_with fail
      go_ret
      exact ⟨rfl, B11.out⟩
end Go.Proofs.Ytjkgncogpefnbaa
