/- The reference's writer of streams: Add, Bytes: contracts. Conditions: the writer stands rightly; the entries within reach. -/
import Derived.Test.YtljcogimeimknaaStmRW
import Derived.Test.YtljcogimeimknaaStmBytesM
import Derived.Test.YtljcogimeimknaaK8b
import Derived.Test.YtljcogimeimknaaK8c
import Derived.Deep.DeepCutAuto
namespace Go.Proofs.Ytljcogimeimknaa
open Go.RowKit
set_option linter.unusedVariables false

theorem shut_of {s : WS} (h : ¬ s.shut = true) : s.shut = false := by cases hs : s.shut <;> simp_all

set_option maxRecDepth 100000 in
set_option maxHeartbeats 4000000 in
theorem raddW_any (w0 w : World) (g m : Nat) (s : WS) (who : Nat → Nat) (ak : Option Addr) (nk ck : Nat) (k : List UInt8) (av : Option Addr) (nv cv : Nat) (x : List UInt8) (h : RWS w0 w g m s who) (hok : s.Ok m)
    (hk : nk ≤ 140737488351232) (hv : nv ≤ 140737488351232) (h1 : Sl Bf w0 ak nk ck k) (h2 : Sl Bf w0 av nv cv x) :
    Calls Try.prog 16 #[.pointer (some ⟨g, 0, none⟩), .agg #[.slice ak nk ck, .slice av nv cv]] w fun e w' => e = .returned (.int .i64 ((s.add m (k, x)).1 : Nat)) ∧ RWPost w0 w w' g m (s.add m (k, x)).2 who := by
  obtain rfl : nk = k.length := h1.len.symm
  obtain rfl : nv = x.length := h2.len.symm
  obtain ⟨Lv, nv, lv, Ls, Ns, hW⟩ := id h
  have hal : Below w.heap.size w (w.alloc (.cells #[.slice ak k.length ck, .slice av x.length cv] 42)) := (Below.refl _ _).alloc (Nat.le_refl _) _
  have hW1 := hW.keep hal
  have G1 := Lib.hid (Gr.below (who := who) hal)
  have BX := Lib.hid (heap_new w (.cells #[.slice ak k.length ck, .slice av x.length cv] 42))
  have K := Lib.hid h1
  have X := Lib.hid h2
  have OK := Lib.hid hok
  have W1 := Lib.hid hW1
  have WG := Lib.hid (show who w.heap.size = 0 from Classical.byContradiction fun e => by have := (hW.low _ e).2; omega)
  have LG : w.heap.size < (w.alloc (.cells #[.slice ak k.length ck, .slice av x.length cv] 42)).heap.size := by simp
  clear h hW hal hW1 h1 h2 hok
  go_enter Try.func16, Try.ntmps16
  go_upto_region 1 with (fail)
  obtain ⟨ge, hge⟩ : ∃ z, w.heap.size = z := ⟨_, rfl⟩
  rw [hge] at BX LG WG
  rw [hge]
  clear hge
  generalize w.alloc (.cells #[.slice ak k.length ck, .slice av x.length cv] 42) = w1 at *
  have x0 := cell_of BX.out 0 rfl
  have x1 := cell_of BX.out 1 rfl
  go_wp2_with fail
  refine (rcheck_any ak k.length ck av x.length cv w1 hk hv).mono ?_
  rintro e w2 ⟨rfl, hb2⟩
  obtain ⟨q, hq⟩ : ∃ q, chkN k.length x.length = q := ⟨_, rfl⟩
  rw [hq]
  have W2 := Lib.hid (W1.out.keep hb2)
  have G2 := Lib.hid (G1.out.trans (Gr.below hb2))
  have BX2 := Lib.hid ((hb2.block _ (Array.getElem?_eq_some_iff.1 BX.out).1).trans BX.out)
  have c4 := W2.out.c4
  clear hb2 x0 x1 W1 G1 BX LG
  by_cases hs : s.shut = true
  · have FIN := Lib.hid (show (s.add m (k, x)) = (87, s) by unfold WS.add; rw [if_pos hs])
    rw [hs] at c4
    clear hs
    go_wp2_with fail
    go_ret
    rw [FIN.out]
    exact ⟨rfl, who, ⟨Lv, nv, lv, Ls, Ns, W2.out⟩, G2.out⟩
  · have NS := Lib.hid hs
    rw [shut_of hs] at c4
    clear hs
    by_cases hq0 : q ≠ 0
    · have FIN := Lib.hid (show (s.add m (k, x)) = (q, s) by unfold WS.add; rw [if_neg NS.out, if_pos (show chk (k, x) ≠ 0 by show chkN _ _ ≠ 0; rw [hq]; exact hq0)]; exact congrArg (·, s) hq)
      have t1 : ((q : Int) != 0) = true := by rw [bne_iff_ne]; omega
      have t1' : (q != 0) = true := by rw [bne_iff_ne]; exact hq0
      clear hq0 hq
      go_wp2_with fail
      go_ret
      rw [FIN.out]
      exact ⟨rfl, who, ⟨Lv, nv, lv, Ls, Ns, W2.out⟩, G2.out⟩
    · have hq1 : q = 0 := by omega
      subst hq1
      have hck := chk_zero (show chk (k, x) = 0 from hq)
      have HCK := Lib.hid (show chk (k, x) = 0 from hq)
      have hk64 : k.length ≤ 64 := hck.2.1
      clear hq hck hq0
      have x0 := cell_of BX2.out 0 rfl
      have x1 := cell_of BX2.out 1 rfl
      obtain ⟨aT, nT, cT, hlv, hlT⟩ := W2.out.ls
      subst hlv
      have c3 := W2.out.c3
      have hnT : nT ≤ 64 := by rw [← hlT.len]; exact OK.out.l64
      have NT := Lib.hid hlT.len
      have LT := Lib.hid (hlT.keep W2.out.below)
      have K2 := Lib.hid (K.out.keep W2.out.below)
      clear hlT
      go_upto_region 6 with (fail)
      obtain ⟨b6, hb6⟩ : ∃ b6, decide (s.last ≠ [] ∧ 0 ≤ cmp s.last k) = b6 := ⟨_, rfl⟩
      have HB6 := Lib.hid hb6
      clear hb6
      go_cut [17] (fun b wx => b = .bool b6 ∧ Drw w2 wx)
      case first =>
        by_cases hl : s.last = []
        · have hb : b6 = false := by rw [← HB6.out, hl]; simp
          subst hb
          obtain rfl : nT = 0 := by rw [← NT.out, hl]; rfl
          clear hl
          go_wp2_with fail
          go_quiet (fail)
          go_wp2_with fail
          go_meet
          exact ⟨rfl, by first | exact (Drw.refl _).more _ | exact Drw.refl _⟩
        · have hT0 : 0 < nT := by rw [← NT.out]; cases hh : s.last with | nil => exact absurd hh hl | cons a b => simp
          have t1 : decide ((nT : Int) > 0) = true := decide_eq_true (by omega)
          have t2 : decide (0 < nT) = true := decide_eq_true hT0
          have t3 : decide (0 < (nT : Int)) = true := decide_eq_true (by omega)
          have hb : b6 = decide (cmp s.last k ≥ 0) := by rw [← HB6.out]; simp [hl]
          subst hb
          obtain ⟨q3, hq3⟩ : ∃ q3, cmp s.last k = q3 := ⟨_, rfl⟩
          have CM := Lib.hid (fun j : Nat => hq3 ▸ rcompare_q aT nT cT s.last ak k.length ck k (w2.drewN j) (by omega) hk (LT.out.drewN j) (K2.out.drewN j))
          have h3 : -1 ≤ q3 ∧ q3 ≤ 1 := by have := cmp_cases s.last k; omega
          have HQ3 := Lib.hid hq3
          clear hl hq3
          go_wp2_with fail
          go_quiet ((go_at_call 45; exact Calls.quiet_of_drw (CM.out _)))
          go_wp2_with fail
          go_meet
          exact ⟨by rw [HQ3.out], by first | exact (Drw.refl _).more _ | exact ((Drw.refl _).more _).more _ | exact Drw.refl _⟩
      obtain ⟨rfl, hcw⟩ := hcut
      obtain ⟨w3, hw3⟩ : ∃ w3, w3 = wc := ⟨_, rfl⟩
      subst hw3
      have W3 := Lib.hid (W2.out.keep hcw.below)
      have G3 := Lib.hid (G2.out.trans (Gr.below hcw.below))
      have BX3 := Lib.hid ((hcw.below.block _ (Array.getElem?_eq_some_iff.1 BX2.out).1).trans BX2.out)
      clear hcw x0 x1 c3 c4 W2 G2 BX2 K2 LT
      cases b6 with
      | true =>
        have hh := of_decide_eq_true HB6.out
        have FIN := Lib.hid (show (s.add m (k, x)) = (51, s) by unfold WS.add; rw [if_neg NS.out, if_neg (show ¬ chk (k, x) ≠ 0 by have := HCK.out; omega), if_pos hh])
        clear hh
        go_wp2_with fail
        go_ret
        rw [FIN.out]
        exact ⟨rfl, who, ⟨Lv, nv, _, Ls, Ns, W3.out⟩, G3.out⟩
      | false =>
        have hh := of_decide_eq_false HB6.out
        have NL := Lib.hid hh
        clear hh HB6
        obtain ⟨⟨aN, nn, cN⟩, hnv, hlen⟩ := W3.out.nr.sl
        subst hnv
        replace hlen : nn = s.now.length := hlen
        have HN := Lib.hid hlen.symm
        obtain ⟨aL, nL, cL, hLv, hnl⟩ := W3.out.lr.slS
        subst hLv
        have HR := Lib.hid (show s.L.length = nL by rw [hnl, W3.out.ll])
        have hnL : nL ≤ 8388608 := by rw [← HR.out]; exact OK.out.many
        have c1 : w3.cell? ⟨g, 1, none⟩ = some (.slice aL nL cL) := W3.out.c1
        have c2 : w3.cell? ⟨g, 2, none⟩ = some (.slice aN nn cN) := W3.out.c2
        have hn64 : nn ≤ 64 := by rw [hlen]; exact OK.out.n.1
        clear hlen hnl
        go_upto_region 8 with (fail)
        obtain ⟨b8, hb8⟩ : ∃ b8, decide (nn = 0 ∧ nL = 8388608) = b8 := ⟨_, rfl⟩
        have HB8 := Lib.hid hb8
        clear hb8
        go_cut [34] (fun b wx => b = .bool b8 ∧ w3 = wx)
        case first =>
          by_cases h0 : nn = 0
          · subst h0
            have hb : b8 = ((nL : Int) == 8388608) := by
              rw [← HB8.out]
              by_cases h : nL = 8388608
              · subst h; rfl
              · rw [decide_eq_false (fun e => h e.2), eq_comm, beq_eq_false_iff_ne]; omega
            subst hb
            go_wp2_with fail
            go_meet
            exact ⟨by first | rfl | simp, rfl⟩
          · have hb : b8 = false := by rw [← HB8.out]; exact decide_eq_false (fun e => h0 e.1)
            subst hb
            have t1 : ((nn : Int) == 0) = false := by rw [beq_eq_false_iff_ne]; omega
            have t1' : (nn == 0) = false := by rw [beq_eq_false_iff_ne]; exact h0
            clear h0
            go_wp2_with fail
            go_meet
            exact ⟨rfl, rfl⟩
        obtain ⟨rfl, rfl⟩ := hcut
        cases b8 with
        | true =>
          have hh := of_decide_eq_true HB8.out
          have FIN := Lib.hid (show (s.add m (k, x)) = (71, s) by unfold WS.add; rw [if_neg NS.out, if_neg (show ¬ chk (k, x) ≠ 0 by have := HCK.out; omega), if_neg NL.out, if_pos ⟨List.eq_nil_of_length_eq_zero (by rw [HN.out]; exact hh.1), by rw [HR.out]; exact hh.2⟩])
          clear hh
          go_wp2_with fail
          go_ret
          rw [FIN.out]
          exact ⟨rfl, who, ⟨_, _, _, Ls, Ns, W3.out⟩, G3.out⟩
        | false =>
          have hh := of_decide_eq_false HB8.out
          have NF := Lib.hid (show ¬ (s.now = [] ∧ s.L.length = 8388608) from fun e => hh ⟨by rw [← HN.out, e.1]; rfl, by rw [← HR.out]; exact e.2⟩)
          have PUT := Lib.hid (OK.out.put' (e := (k, x)) (shut_of NS.out) HCK.out NL.out NF.out)
          have hnm : nn < m := by rw [← HN.out]; exact OK.out.nm
          have hm64 := OK.out.m1.2
          have FIN := Lib.hid (show (s.add m (k, x)) = (0, if (s.put (k, x)).now.length = m then (s.put (k, x)).cut else s.put (k, x)) by unfold WS.add; rw [if_neg NS.out, if_neg (show ¬ chk (k, x) ≠ 0 by have := HCK.out; omega), if_neg NL.out, if_neg NF.out])
          have VL := Lib.hid (show Ns.length = nn by rw [W3.out.nr.2.1, HN.out])
          clear hh HB8
          have x0 := cell_of BX3.out 0 rfl
          have x1 := cell_of BX3.out 1 rfl
          have hgl := W3.out.lt
          have hgel : ge < w3.heap.size := (Array.getElem?_eq_some_iff.1 BX3.out).1
          have hald := (Below.refl w3.heap.size w3).drew.alloc (Nat.le_refl _) (.cells #[.slice ak k.length ck, .slice av x.length cv] 42)
          have c2a : (w3.drew.alloc (.cells #[.slice ak k.length ck, .slice av x.length cv] 42)).cell? ⟨g, 2, none⟩ = some (.slice aN nn cN) := (World.cell?_of_block (hald.block _ hgl)).trans c2
          have SL1 := Lib.hid (SlT.lit1 w3.drew (ak, k.length, ck) (av, x.length, cv) w3.heap.size rfl)
          have LW := Lib.hid W3.out.below.size
          clear hald
          go_upto_region 10 with (fail)
          go_region_law (refine step_appT eltTE rfl (.tmp 53) (.tmp 55) rfl w0.heap.size (.slice aN nn cN) Ns (by simp [Act.eval]) (W3.out.nr.1.drew.alloc _) (some ⟨w3.heap.size, 0, none⟩) 1 1 [((ak, k.length, ck), (av, x.length, cv))] (by simp [Act.eval]) SL1.out (by rw [VL.out]; unfold maxLen; omega) (by rw [VL.out]; omega) (by have := LW.out; simp; omega) _ rfl ?_; intro v6 w6 h6 hg6 hv6 hb6; obtain ⟨a6, n6, k6, rfl, -, -⟩ := h6.slE; have O6 := Lib.hid h6; have V6 := Lib.hid hv6; have TU6 : Hid (Turns (fun j => Value.ownBlock (.slice aN nn cN) = some j) w3 w6) := Lib.hid ((Turns.of_below ((Below.refl _ _).drew.alloc (Nat.le_refl _) _)).trans (.of_grown hg6 fun j e => e) fun _ _ e => e); have hgo : ¬ (Value.ownBlock (.slice aN nn cN) = some g) := (fun e => by have := W3.out.nb g e; rw [W3.out.gw] at this; omega); have hblk6 := TU6.out.heap W3.out.blk hgo; have d2 := cell_of hblk6 2 (v := .slice aN nn cN) rfl; have f2 := free_block hblk6 2; have BX6 := Lib.hid (TU6.out.heap BX3.out (fun e => by have := W3.out.nb ge e; rw [WG.out] at this; omega)); clear h6 hg6 hv6 hb6 hblk6 hgo)
          all_goals
            obtain ⟨who7, hW7, hG7⟩ := W3.out.setN TU6.out (x := .slice a6 n6 k6) (e := (k, x)) O6.out K.out X.out (fun j hj => by rcases V6.out with e | e; (exact .inl (e.symm.trans hj)); (rw [e] at hj; injection hj with hj; exact .inr (by simp at hj; omega)))
            have W7 := Lib.hid hW7
            have G7 := Lib.hid (G3.out.trans hG7)
            have hgge : g ≠ ge := fun e => by have h1 := W3.out.gw; rw [e, WG.out] at h1; cases h1
            have BX7 := Lib.hid ((Below.heap_setCell w6 ⟨g, 2, none⟩ (.slice a6 n6 k6) ge (fun e => hgge e.symm)).trans BX6.out)
            have N6 := Lib.hid (show n6 = nn + 1 by obtain ⟨⟨a', n', c'⟩, e, hl⟩ := hW7.nr.sl; injection e with _ e2 _; rw [e2, show n' = (s.now ++ [(k, x)]).length from hl, List.length_append, HN.out]; rfl)
            clear hW7 hG7 d2 f2 c2 c2a x0 x1 O6 V6 TU6 BX6 c1
            go_upto_region 11 with (fail)
            generalize w6.setCell ⟨g, 2, none⟩ (.slice a6 n6 k6) = w7 at *
            have x0 := cell_of BX7.out 0 rfl
            have d3 := W7.out.c3
            have f3 := W7.out.free 3
            go_upto_region 12 with (fail)
            obtain ⟨hW8, hG8⟩ := W7.out.setL K.out
            have W8 := Lib.hid hW8
            have G8 := Lib.hid (G7.out.trans hG8)
            clear hW8 hG8 x0 d3 f3 W7 G7 BX7
            generalize w7.setCell ⟨g, 3, none⟩ (.slice ak k.length ck) = w8 at *
            have c0 := W8.out.c0
            have c2 : w8.cell? ⟨g, 2, none⟩ = some (.slice a6 n6 k6) := W8.out.c2
            have WSH := Lib.hid (show RWS w0 w8 g m (s.put (k, x)) who7 from ⟨_, _, _, _, _, W8.out⟩)
            have HL := Lib.hid (show (s.put (k, x)).now.length = nn + 1 by show (s.now ++ [(k, x)]).length = _; rw [List.length_append, HN.out]; rfl)
            obtain ⟨n7, hn7⟩ : ∃ n7, nn + 1 = n7 := ⟨_, rfl⟩
            rw [hn7] at N6 HL
            obtain rfl : n6 = n7 := N6.out
            clear hn7
            by_cases hm : n6 = m
            · subst hm
              have t1 : ((n6 : Int) == (n6 : Int)) = true := by simp
              go_wp2_with fail
              go_quiet (fail)
              go_wp2_with fail
              refine (rcut_any w0 _ g n6 (s.put (k, x)) who7 (WSH.out.keep (keep_drewN (Below.refl _ _) _)) PUT.out.many (fun e => by rw [PUT.out.open'] at e; cases e)).mono ?_
              rintro e w9 ⟨rfl, who9, hW9, hG9⟩
              have W9 := Lib.hid hW9
              have G9 := Lib.hid hG9
              clear hW9 hG9
              go_wp2_with fail
              go_ret
              rw [FIN.out]
              refine ⟨rfl, who9, ?_, (G8.out.trans (Gr.below (keep_drewN (Below.refl _ _) _))).trans G9.out⟩
              dsimp only
              rw [if_pos HL.out]
              exact W9.out
            · have t1 : ((n6 : Int) == (m : Int)) = false := by rw [beq_eq_false_iff_ne]; omega
              have t1' : (n6 == m) = false := by rw [beq_eq_false_iff_ne]; exact hm
              have HM := Lib.hid hm
              clear hm
              go_wp2_with fail
              go_quiet (fail)
              go_wp2_with fail
              go_ret
              rw [FIN.out]
              refine ⟨rfl, who7, ?_, G8.out.trans (Gr.below (keep_drewN (Below.refl _ _) _))⟩
              dsimp only
              rw [if_neg (show ¬ (s.put (k, x)).now.length = m by rw [HL.out]; exact HM.out)]
              exact WSH.out.keep (keep_drewN (Below.refl _ _) _)
end Go.Proofs.Ytljcogimeimknaa
