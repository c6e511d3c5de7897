/- A writer of streams: Add: contract. Conditions: the writer stands rightly; the entry within reach, apart from the writer. -/
import Derived.Test.YtljcogimeimknaaStmW
import Derived.Test.YtljcogimeimknaaK8b
import Derived.Lib.LazyBuf
import Derived.Deep.DeepCutAuto
import Derived.StillTailTactics
import Derived.BigQuiet
import Derived.Deep.QuietTactic
namespace Go.Proofs.Ytljcogimeimknaa
open Go.RowKit
set_option linter.unusedVariables false

set_option maxRecDepth 100000 in
set_option maxHeartbeats 4000000 in
theorem sadd_any (w : World) (lo g m : Nat) (s : WS) (who : Nat → Nat) (ak : Option Addr) (nk ck : Nat) (k : List UInt8) (av : Option Addr) (nv cv : Nat) (x : List UInt8) (h : WrS w lo g m s who) (hok : s.Ok m)
    (hk : nk ≤ 140737488351232) (hv : nv ≤ 140737488351232) (h1 : Sl Bf w ak nk ck k) (h2 : Sl Bf w av nv cv x) (f1 : ∀ b o, ak = some ⟨b, o, none⟩ → 0 < nk → who b = 0) (f2 : ∀ b o, av = some ⟨b, o, none⟩ → 0 < nv → who b = 0) :
    Calls Try.prog 15 #[.pointer (some ⟨g, 0, none⟩), .agg #[.slice ak nk ck, .slice av nv cv]] w fun e w' => e = .returned (.int .i64 ((s.add m (k, x)).1 : Nat)) ∧ WPost w w' lo g m (s.add m (k, x)).2 who := by
  obtain rfl : nk = k.length := h1.len.symm
  obtain rfl : nv = x.length := h2.len.symm
  obtain ⟨gb, v, lv, rv, yv, vs, hW⟩ := id h
  have hal : Below w.heap.size w (w.alloc (.cells #[.slice ak k.length ck, .slice av x.length cv] 42)) := (Below.refl _ _).alloc (Nat.le_refl _) _
  have hW1 := hW.keep hal
  have G1 := Lib.hid (Gr.below (who := who) hal)
  have BX := Lib.hid (heap_new w (.cells #[.slice ak k.length ck, .slice av x.length cv] 42))
  have K := Lib.hid (h1.keep hal)
  have X := Lib.hid (h2.keep hal)
  have OK := Lib.hid hok
  have F1 := Lib.hid f1
  have F2 := Lib.hid f2
  have W1 := Lib.hid hW1
  have LG : w.heap.size < (w.alloc (.cells #[.slice ak k.length ck, .slice av x.length cv] 42)).heap.size := by simp
  have WG := Lib.hid (show who w.heap.size = 0 from Classical.byContradiction fun e => by have := (hW.low _ e).2; omega)
  clear h hW hal hW1 h1 h2 f1 f2 hok
  go_enter Try.func15, Try.ntmps15
  go_upto_region 1 with (fail)
  obtain ⟨ge, hge⟩ : ∃ z, w.heap.size = z := ⟨_, rfl⟩
  rw [hge] at BX LG WG
  rw [hge]
  clear hge
  generalize w.alloc (.cells #[.slice ak k.length ck, .slice av x.length cv] 42) = w1 at *
  have x0 := cell_of BX.out 0 rfl
  have x1 := cell_of BX.out 1 rfl
  have c4 := W1.out.c4
  by_cases hs : s.shut = true
  · have FIN := Lib.hid (show (s.add m (k, x)) = (87, s) by unfold WS.add; rw [if_pos hs])
    rw [hs] at c4
    clear hs
    go_wp2_with fail
    go_ret
    rw [FIN.out]
    exact ⟨rfl, who, ⟨gb, v, lv, rv, yv, vs, W1.out⟩, G1.out⟩
  · have NS := Lib.hid hs
    rw [ok_of_open hs] at c4
    clear hs
    go_wp2_with fail
    refine (check_any ak k.length ck av x.length cv w1 hk hv).mono ?_
    rintro e w2 ⟨rfl, hb2⟩
    obtain ⟨q, hq⟩ : ∃ q, chkN k.length x.length = q := ⟨_, rfl⟩
    rw [hq]
    have W2 := Lib.hid (W1.out.keep hb2)
    have G2 := Lib.hid (G1.out.trans (Gr.below hb2))
    have BX2 := Lib.hid ((hb2.block _ (Array.getElem?_eq_some_iff.1 BX.out).1).trans BX.out)
    have K2 := Lib.hid (K.out.keep hb2)
    have X2 := Lib.hid (X.out.keep hb2)
    clear hb2 x0 x1 c4 W1 G1 BX K X LG
    by_cases hq0 : q ≠ 0
    · have FIN := Lib.hid (show (s.add m (k, x)) = (q, s) by unfold WS.add; rw [if_neg NS.out, if_pos (show chk (k, x) ≠ 0 by show chkN _ _ ≠ 0; rw [hq]; exact hq0)]; exact congrArg (·, s) hq)
      have t1 : ((q : Int) != 0) = true := by rw [bne_iff_ne]; omega
      have t1' : (q != 0) = true := by rw [bne_iff_ne]; exact hq0
      clear hq0 hq
      go_wp2_with fail
      go_ret
      rw [FIN.out]
      exact ⟨rfl, who, ⟨gb, v, lv, rv, yv, vs, W2.out⟩, G2.out⟩
    · have hq1 : q = 0 := by omega
      subst hq1
      have hck := chk_zero (show chk (k, x) = 0 from hq)
      have HCK := Lib.hid (show chk (k, x) = 0 from hq)
      have hk64 : k.length ≤ 64 := hck.2.1
      have hk0 : 0 < k.length := hck.1
      clear hq hck hq0
      have x0 := cell_of BX2.out 0 rfl
      have x1 := cell_of BX2.out 1 rfl
      have c2 := W2.out.c2
      go_upto_region 6 with (fail)
      obtain ⟨b6, hb6⟩ : ∃ b6, decide (s.last ≠ [] ∧ 0 ≤ cmp s.last k) = b6 := ⟨_, rfl⟩
      have HB6 := Lib.hid hb6
      clear hb6
      go_cut [15] (fun b wx => b = .bool b6 ∧ Drw w2 wx)
      case first =>
        rcases W2.out.ls with ⟨hl, e⟩ | ⟨hl, b, o, c, e, hsl, _⟩
        · subst e
          have hb : b6 = false := by rw [← HB6.out, hl]; simp
          subst hb
          have hnil := fun W : World => Go.run_neq_slice_nil (P := Try.prog) W 25 5 none 0 0 Try.underlying25
          clear hl
          go_wp2_with fail
          go_quiet (fail)
          go_wp2_with fail
          go_meet
          exact ⟨rfl, by first | exact (Drw.refl _).more _ | exact Drw.refl _⟩
        · subst e
          have hb : b6 = decide (cmp s.last k ≥ 0) := by rw [← HB6.out]; simp [hl]
          subst hb
          have hnil := fun W : World => Go.run_neq_slice_nil (P := Try.prog) W 25 5 (some ⟨b, o, none⟩) s.last.length c Try.underlying25
          have SL := Lib.hid hsl
          obtain ⟨nK, hnK⟩ : ∃ nK, s.last.length = nK := ⟨_, rfl⟩
          rw [hnK] at SL c2 hnil
          obtain ⟨q3, hq3⟩ : ∃ q3, cmp s.last k = q3 := ⟨_, rfl⟩
          have CM := Lib.hid (fun j : Nat => hq3 ▸ bcompare_any (some ⟨b, o, none⟩) nK c s.last ak k.length ck k (w2.drewN j) (SL.out.drewN j) (K2.out.drewN j))
          have h3 : -1 ≤ q3 ∧ q3 ≤ 1 := by have := cmp_cases s.last k; omega
          have HQ3 := Lib.hid hq3
          clear hl hsl hnK hq3
          go_wp2_with fail
          go_quiet ((go_at_call 39; exact Calls.quiet_of_drw ((CM.out _).mono (by rintro e w' ⟨rfl, rfl⟩; exact ⟨rfl, Drw.refl _⟩))))
          go_wp2_with fail
          go_meet
          exact ⟨by rw [HQ3.out], by first | exact (Drw.refl _).more _ | exact ((Drw.refl _).more _).more _ | exact Drw.refl _⟩
      obtain ⟨rfl, hcw⟩ := hcut
      obtain ⟨w3, hw3⟩ : ∃ w3, w3 = wc := ⟨_, rfl⟩
      subst hw3
      have W3 := Lib.hid (W2.out.keep hcw.below)
      have G3 := Lib.hid (G2.out.trans (Gr.below hcw.below))
      have BX3 := Lib.hid ((hcw.below.block _ (Array.getElem?_eq_some_iff.1 BX2.out).1).trans BX2.out)
      have K3 := Lib.hid (K2.out.keep hcw.below)
      have X3 := Lib.hid (X2.out.keep hcw.below)
      clear hcw x0 x1 c2 W2 G2 BX2 K2 X2
      cases b6 with
      | true =>
        have hh := of_decide_eq_true HB6.out
        have FIN := Lib.hid (show (s.add m (k, x)) = (51, s) by unfold WS.add; rw [if_neg NS.out, if_neg (show ¬ chk (k, x) ≠ 0 by have := HCK.out; omega), if_pos hh])
        clear hh
        go_wp2_with fail
        go_ret
        rw [FIN.out]
        exact ⟨rfl, who, ⟨gb, v, lv, rv, yv, vs, W3.out⟩, G3.out⟩
      | false =>
        have hh := of_decide_eq_false HB6.out
        have NL := Lib.hid hh
        clear hh HB6
        obtain ⟨nn, hnn⟩ : ∃ nn, s.now.length = nn := ⟨_, rfl⟩
        have BL := Lib.hid (blen_any lo gb v s.now w3 W3.out.bl)
        rw [hnn] at BL
        have HN := Lib.hid hnn
        obtain ⟨aR, nR, cR, hrv, hsp⟩ := W3.out.spv
        subst hrv
        have HR := Lib.hid (show s.L.length = nR by rw [← hsp.spans.1, rowsL_len])
        have hnR : nR ≤ 8388608 := by rw [← HR.out]; exact OK.out.many
        have c1 := W3.out.c1
        have c3 := W3.out.c3
        have hn64 : nn ≤ 64 := by rw [← hnn]; exact OK.out.n.1
        clear hnn hsp
        go_upto_region 8 with (fail)
        obtain ⟨b8, hb8⟩ : ∃ b8, decide (nn = 0 ∧ nR = 8388608) = b8 := ⟨_, rfl⟩
        have HB8 := Lib.hid hb8
        clear hb8
        go_cut [31] (fun b wx => b = .bool b8 ∧ w3 = wx)
        case first =>
          by_cases h0 : nn = 0
          · subst h0
            have hb : b8 = ((nR : Int) == 8388608) := by
              rw [← HB8.out]
              by_cases h : nR = 8388608
              · subst h; rfl
              · rw [decide_eq_false (fun e => h e.2), eq_comm, beq_eq_false_iff_ne]; omega
            subst hb
            go_wp2_with (go_at_call 40; refine BL.out.mono ?_; rintro e w' ⟨rfl, rfl⟩)
            go_meet
            exact ⟨by first | rfl | simp, rfl⟩
          · have hb : b8 = false := by rw [← HB8.out]; exact decide_eq_false (fun e => h0 e.1)
            subst hb
            have t1 : ((nn : Int) == 0) = false := by rw [beq_eq_false_iff_ne]; omega
            have t1' : (nn == 0) = false := by rw [beq_eq_false_iff_ne]; exact h0
            clear h0
            go_wp2_with (go_at_call 40; refine BL.out.mono ?_; rintro e w' ⟨rfl, rfl⟩)
            go_meet
            exact ⟨rfl, rfl⟩
        obtain ⟨rfl, rfl⟩ := hcut
        cases b8 with
        | true =>
          have hh := of_decide_eq_true HB8.out
          have FIN := Lib.hid (show (s.add m (k, x)) = (71, s) by unfold WS.add; rw [if_neg NS.out, if_neg (show ¬ chk (k, x) ≠ 0 by have := HCK.out; omega), if_neg NL.out, if_pos ⟨List.eq_nil_of_length_eq_zero (by rw [HN.out]; exact hh.1), by rw [HR.out]; exact hh.2⟩])
          clear hh
          go_wp2_with fail
          go_ret
          rw [FIN.out]
          exact ⟨rfl, who, ⟨gb, v, lv, .slice aR nR cR, yv, vs, W3.out⟩, G3.out⟩
        | false =>
          have hh := of_decide_eq_false HB8.out
          have NF := Lib.hid (show ¬ (s.now = [] ∧ s.L.length = 8388608) from fun e => hh ⟨by rw [← HN.out, e.1]; rfl, by rw [← HR.out]; exact e.2⟩)
          have PUT := Lib.hid (OK.out.put' (e := (k, x)) (ok_of_open NS.out) HCK.out NL.out NF.out)
          have ADD := Lib.hid (show addE s.now (k, x) = 0 from addE_ok HCK.out (by have := OK.out.nm; have := OK.out.m1; omega) (fun e => NL.out (by
            have hne : s.now ≠ [] := by intro e2; rw [e2] at e; simp at e
            rw [OK.out.last hne]
            exact ⟨bst_last_ne hne (srt_okay OK.out.n.2), e.2⟩)))
          have hnm : nn < m := by rw [← HN.out]; exact OK.out.nm
          have hm64 := OK.out.m1.2
          have FIN := Lib.hid (show (s.add m (k, x)) = (0, if (s.put (k, x)).now.length = m then (s.put (k, x)).cut else s.put (k, x)) by unfold WS.add; rw [if_neg NS.out, if_neg (show ¬ chk (k, x) ≠ 0 by have := HCK.out; omega), if_neg NL.out, if_neg NF.out])
          clear hh HB8 BL
          have x0 := cell_of BX3.out 0 rfl
          have x1 := cell_of BX3.out 1 rfl
          have W3D := Lib.hid (W3.out.keep (Below.refl _ _).drew)
          have HA := Lib.hid (badd_any lo gb v s.now ak k.length ck k av x.length cv x w3.drew (by rw [HN.out]; omega) (srt_okay OK.out.n.2) hk hv W3D.out.bl K3.out.drew X3.out.drew (fun b o e hn hS => by have := F1.out b o e hn; rw [W3.out.bw b hS] at this; cases this) (fun b o e hn hS => by have := F2.out b o e hn; rw [W3.out.bw b hS] at this; cases this))
          go_upto_region 10 with (fail)
          go_still_tail 5, (by kernel_rfl)
          change wpList _ _ _ _ _ w3.drew
          go_wp2_with fail
          refine HA.out.mono ?_
          rintro e w5 ⟨rfl, _, hadd⟩
          obtain ⟨v5, hB5, hT5, hS5⟩ := hadd ADD.out
          rw [ADD.out]
          obtain ⟨who5, hW5, hG5⟩ := W3D.out.newB hT5 hB5 hS5
          have G5 := Lib.hid ((G3.out.trans (Gr.below (Below.refl _ _).drew)).trans hG5)
          have hbg : ¬ BlS gb v ge := fun e => by have := W3.out.bw ge e; rw [WG.out] at this; cases this
          have BX5 := Lib.hid (hT5.heap (show w3.drew.heap[ge]? = _ from BX3.out) hbg)
          have K5 := Lib.hid (K3.out.drew.turns hT5 (fun b o e hn hS => by have := F1.out b o e hn; rw [W3.out.bw b hS] at this; cases this))
          have W5 := Lib.hid hW5
          clear hadd hB5 hT5 hS5 hW5 hG5 hbg x0 x1 c1 c3 W3D HA W3 G3 BX3 K3 X3
          have x0 := cell_of BX5.out 0 rfl
          go_wp2_with fail
          refine (clone_any ak k.length ck k w5 (by omega) K5.out).mono ?_
          rintro e w6 ⟨x6, rfl, ho6, hb6⟩
          obtain ⟨b6, c6, rfl, z6⟩ : ∃ b6 c6, x6 = .slice (some ⟨b6, 0, none⟩) k.length c6 ∧ w5.heap.size ≤ b6 := by
            rcases ho6 with ⟨_, e⟩ | ⟨b, c, ys, e, hbb, _⟩
            · rw [e] at hk0; simp at hk0
            · exact ⟨b, c, e, hbb⟩
          have Z6 := Lib.hid (ho6.slI)
          have B6 := Lib.hid hb6
          have hW6 := W5.out.keep hb6
          have d2 := hW6.c2
          have f2 := hW6.free 2
          clear ho6 hb6 hW6 x0
          go_upto_region 12 with (fail)
          obtain ⟨who7, hW7, hG7⟩ := W5.out.setL B6.out (show k ≠ [] by intro e; rw [e] at hk0; simp at hk0) Z6.out z6
          have W7 := Lib.hid hW7
          have G7 := Lib.hid (G5.out.trans hG7)
          clear hW7 hG7 d2 f2 W5 G5 BX5 K5 B6 z6 Z6
          generalize w6.setCell ⟨g, 2, none⟩ (.slice (some ⟨b6, 0, none⟩) k.length c6) = w7 at *
          have HL := Lib.hid (show (s.now ++ [(k, x)]).length = nn + 1 by rw [List.length_append, HN.out]; rfl)
          have BL := Lib.hid (fun j : Nat => HL.out ▸ blen_any lo gb v5 (s.now ++ [(k, x)]) (w7.drewN j) (W7.out.drewN j).bl)
          have c0 := W7.out.c0
          have c1 := W7.out.c1
          have hWS : WrS w7 lo g m (s.put (k, x)) who7 := ⟨gb, v5, _, .slice aR nR cR, yv, vs, W7.out⟩
          have WSH := Lib.hid hWS
          clear hWS
          by_cases hm : nn + 1 = m
          · subst hm
            have t1 : (((nn : Int) + 1) == ((nn : Int) + 1)) = true := by simp
            go_quiet ((go_at_call 40; exact Calls.quiet_of_drw ((BL.out _).mono (by rintro e w' ⟨rfl, rfl⟩; exact ⟨rfl, Drw.refl _⟩))))
            go_wp2_with fail
            refine (sends_any _ lo g (nn + 1) (s.put (k, x)) who7 (WSH.out.keep (keep_drewN (Below.refl _ _) _)) PUT.out).mono ?_
            rintro e w8 ⟨rfl, who8, hW8, hG8⟩
            have W8 := Lib.hid hW8
            have G8 := Lib.hid hG8
            clear hW8 hG8
            go_wp2_with fail
            go_ret
            rw [FIN.out]
            refine ⟨rfl, who8, ?_, (G7.out.trans (Gr.below (keep_drewN (Below.refl _ _) _))).trans G8.out⟩
            dsimp only
            rw [if_pos (show (s.put (k, x)).now.length = nn + 1 from HL.out)]
            exact W8.out
          · have t1 : (((nn : Int) + 1) == (m : Int)) = false := by rw [beq_eq_false_iff_ne]; omega
            have t1' : ((nn + 1) == m) = false := by rw [beq_eq_false_iff_ne]; exact hm
            have HM := Lib.hid hm
            clear hm
            go_quiet ((go_at_call 40; exact Calls.quiet_of_drw ((BL.out _).mono (by rintro e w' ⟨rfl, rfl⟩; exact ⟨rfl, Drw.refl _⟩))))
            go_wp2_with fail
            go_ret
            rw [FIN.out]
            refine ⟨rfl, who7, ?_, G7.out.trans (Gr.below (keep_drewN (Below.refl _ _) _))⟩
            dsimp only
            rw [if_neg (show ¬ (s.put (k, x)).now.length = m by rw [show (s.put (k, x)).now.length = nn + 1 from HL.out]; exact HM.out)]
            exact WSH.out.keep (keep_drewN (Below.refl _ _) _)
end Go.Proofs.Ytljcogimeimknaa
