/- The reference's writer of streams: Cut, Close, Spans, Next: contracts. Conditions: the writer stands rightly. -/
import Derived.Test.YtljcogimeimknaaStmRWM
import Derived.Test.YtljcogimeimknaaStmREnd
import Derived.Deep.RegionLaw
namespace Go.Proofs.Ytljcogimeimknaa
open Go.RowKit
set_option linter.unusedVariables false

theorem ELs.sl {w0 w : World} {y : Value} {vs : List (Sv × Sv)} {es : List Ent} (h : ELs w0 w y vs es) : ∃ s : Sv, y = sv s ∧ s.2.1 = es.length := by
  obtain ⟨a, c, e, _⟩ := h.1.sl fE_len
  exact ⟨(a, vs.length, c), e, h.2.1⟩
theorem SlT.litS (w : World) (s : Sv) (g : Nat) (hg : w.heap.size = g) : SlT fS 1 (w.alloc (.cells #[.slice s.1 s.2.1 s.2.2] 22)) (some ⟨g, 0, none⟩) 1 1 [s] := by
  subst hg
  obtain ⟨a, c, hv, hs⟩ := (OwT.lit fS w w.heap.size 22 #[.slice s.1 s.2.1 s.2.2] [s] 1 rfl rfl (Nat.le_refl _) (by decide)).sl fS_len
  cases hv; exact hs
theorem OwT.slS {w : World} {base : Nat} {e : TypeId} {v : Value} {vs : List Sv} (h : OwT fS w base e v vs) : ∃ a n c, v = .slice a n c ∧ n = vs.length := by
  obtain ⟨a, c, hv, hs⟩ := h.sl fS_len
  exact ⟨a, _, c, hv, rfl⟩

set_option maxRecDepth 100000 in
set_option maxHeartbeats 2000000 in
theorem rcut_any (w0 w : World) (g m : Nat) (s : WS) (who : Nat → Nat) (h : RWS w0 w g m s who) (hmany : s.L.length ≤ 8388608) (hdone : s.shut = true → s.now = []) :
    Calls Try.prog 19 #[.pointer (some ⟨g, 0, none⟩)] w fun e w' => e = .returned (.int .i64 ((if s.shut then 87 else 0 : Nat) : Nat)) ∧ RWPost w0 w w' g m s.cut who := by
  obtain ⟨Lv, nv, lv, Ls, Ns, hW⟩ := id h
  have c4 := hW.c4
  by_cases hs : s.shut = true
  · have FIN := Lib.hid (show RWPost w0 w w g m s.cut who by rw [WS.cut_nil (hdone hs)]; exact ⟨who, h, Gr.refl _ _⟩)
    rw [hs] at c4 ⊢
    clear hW h hdone hs
    go_enter Try.func19, Try.ntmps19
    go_wp2_with fail
    go_ret
    exact ⟨rfl, FIN.out⟩
  · have hs' : s.shut = false := by cases hh : s.shut <;> simp_all
    rw [hs'] at c4 ⊢
    obtain ⟨⟨aN, nN, cN⟩, hnv, hlen⟩ := hW.nr.sl
    subst hnv
    replace hlen : nN = s.now.length := hlen
    have c2 : w.cell? ⟨g, 2, none⟩ = some (.slice aN nN cN) := hW.c2
    by_cases h0 : s.now = []
    · have FIN := Lib.hid (show RWPost w0 w w g m s.cut who by rw [WS.cut_nil h0]; exact ⟨who, h, Gr.refl _ _⟩)
      obtain rfl : nN = 0 := by rw [hlen, h0]; rfl
      clear hW h hdone hs hs' hlen h0
      go_enter Try.func19, Try.ntmps19
      go_wp2_with fail
      go_ret
      exact ⟨rfl, FIN.out⟩
    · have hn0 : 0 < nN := by rw [hlen]; cases hh : s.now with | nil => exact absurd hh h0 | cons a b => simp
      have t1 : decide ((nN : Int) > 0) = true := decide_eq_true (by omega)
      have t2 : decide (0 < nN) = true := decide_eq_true hn0
      have t3 : decide (0 < (nN : Int)) = true := decide_eq_true (by omega)
      obtain ⟨aL, nL, cL, hlv, hnl⟩ := hW.lr.slS
      subst hlv
      have hnL : nL ≤ 8388608 := by rw [hnl, hW.ll]; exact hmany
      have c1 : w.cell? ⟨g, 1, none⟩ = some (.slice aL nL cL) := hW.c1
      have NL := Lib.hid (show Ls.length = nL from hnl.symm)
      have CUT := Lib.hid (WS.cut_some h0)
      have W0 := Lib.hid hW
      have hgl := hW.lt
      have c1d : w.drew.cell? ⟨g, 1, none⟩ = some (.slice aL nL cL) := c1
      have c2d : w.drew.cell? ⟨g, 2, none⟩ = some (.slice aN nN cN) := c2
      have hald := (Below.refl w.heap.size w).drew.alloc (Nat.le_refl _) (.cells #[.slice aN nN cN] 22)
      have c1a : (w.drew.alloc (.cells #[.slice aN nN cN] 22)).cell? ⟨g, 1, none⟩ = some (.slice aL nL cL) := (World.cell?_of_block (hald.block _ hgl)).trans c1
      have SL1 := Lib.hid (SlT.litS w.drew (aN, nN, cN) w.heap.size rfl)
      have LW := Lib.hid hW.below.size
      clear hW h hdone hs hs' hlen h0 hnl hald
      go_enter Try.func19, Try.ntmps19
      go_upto_region 4 with (fail)
      go_region_law (refine step_appT eltTS rfl (.tmp 17) (.tmp 22) rfl w0.heap.size (.slice aL nL cL) Ls (by simp [Act.eval]) (W0.out.lr.drew.alloc _) (some ⟨w.heap.size, 0, none⟩) 1 1 [(aN, nN, cN)] (by simp [Act.eval]) SL1.out (by rw [NL.out]; unfold maxLen; omega) (by rw [NL.out]; omega) (by have := LW.out; simp; omega) _ rfl ?_; intro v6 w6 h6 hg6 hv6 hb6; obtain ⟨a6, n6, k6, rfl, -⟩ := h6.slS; have O6 := Lib.hid h6; have V6 := Lib.hid hv6; have TU6 : Hid (Turns (fun j => Value.ownBlock (.slice aL nL cL) = some j) w w6) := Lib.hid ((Turns.of_below ((Below.refl _ _).drew.alloc (Nat.le_refl _) _)).trans (.of_grown hg6 fun j e => e) fun _ _ e => e); have hgo : ¬ (Value.ownBlock (.slice aL nL cL) = some g) := (fun e => by have := W0.out.lb g e; rw [W0.out.gw] at this; cases this); have hblk6 := TU6.out.heap W0.out.blk hgo; have d1 := cell_of hblk6 1 (v := .slice aL nL cL) rfl; have f1 := free_block hblk6 1; have hblk7 := set_block (i := 1) hblk6 (.slice a6 n6 k6); have d2 := cell_of hblk7 2 (v := .slice aN nN cN) rfl; have f2 := free_block hblk7 2; clear h6 hg6 hv6 hb6 hblk6 hblk7 hgo)
      all_goals
        go_wp2_with fail
        obtain ⟨who', hW', hG'⟩ := W0.out.cut TU6.out (x := .slice a6 n6 k6) (s := (aN, nN, cN)) rfl O6.out (fun j hj => by rcases V6.out with e | e; (exact .inl (e.symm.trans hj)); (rw [e] at hj; injection hj with hj; exact .inr (by simp at hj; omega)))
        go_ret
        refine ⟨rfl, who', ?_, hG'⟩
        rw [CUT.out]
        exact ⟨_, _, _, _, _, hW'⟩

set_option maxRecDepth 100000 in
theorem rclose_any (w0 w : World) (g m : Nat) (s : WS) (who : Nat → Nat) (h : RWS w0 w g m s who) (hok : s.Ok m) :
    Calls Try.prog 21 #[.pointer (some ⟨g, 0, none⟩)] w fun e w' => e = .returned (.int .i64 ((if s.shut then 87 else 0 : Nat) : Nat)) ∧ RWPost w0 w w' g m (if s.shut then s else s.close) who := by
  have CU := Lib.hid (rcut_any w0 w g m s who h hok.many hok.done)
  have FE := Lib.hid (show (if s.shut then s else s.close) = { s.cut with shut := true } by
    by_cases hs : s.shut = true
    · rw [if_pos hs, WS.cut_nil (hok.done hs)]; cases s; cases hs; rfl
    · rw [if_neg hs]; rfl)
  obtain ⟨q, hq⟩ : ∃ q, (if s.shut then 87 else 0 : Nat) = q := ⟨_, rfl⟩
  rw [hq] at CU ⊢
  obtain ⟨T, hT⟩ : ∃ T, (if s.shut then s else s.close) = T := ⟨_, rfl⟩
  rw [hT] at FE ⊢
  clear h hok hq hT
  go_enter Try.func21, Try.ntmps21
  go_wp2_with fail
  refine CU.out.mono ?_
  rintro e w1 ⟨rfl, who1, ⟨Lv, nv, lv, Ls, Ns, hW1⟩, hG1⟩
  have c4 := hW1.c4
  have f4 := hW1.free 4
  have W1 := Lib.hid hW1
  have G1 := Lib.hid hG1
  clear hW1 hG1
  go_wp2_with fail
  go_ret
  obtain ⟨hW2, hG2⟩ := W1.out.setS true
  refine ⟨rfl, who1, ?_, G1.out.trans hG2⟩
  rw [FE.out]
  exact ⟨Lv, nv, lv, Ls, Ns, hW2⟩

set_option maxRecDepth 100000 in
theorem rspansW_any (w0 w : World) (g m : Nat) (s : WS) (who : Nat → Nat) (h : RWS w0 w g m s who) (hok : s.Ok m) :
    Calls Try.prog 26 #[.pointer (some ⟨g, 0, none⟩)] w fun e w' => ∃ a n c, e = .returned (.slice a n c) ∧ Spans w' a n c (rowsL s.L) ∧ Below w.heap.size w w' := by
  obtain ⟨Lv, nv, lv, Ls, Ns, hW⟩ := id h
  obtain ⟨aL, cL, rfl, hls⟩ := hW.lls
  obtain ⟨nL, hnL⟩ : ∃ nL, s.L.length = nL := ⟨_, rfl⟩
  have c1 := hW.c1
  rw [hnL] at c1 hls
  have LS := Lib.hid hls
  have BL := Lib.hid (rblocks_any aL nL cL s.L w hok.many hok.l hls)
  clear hW h hok hls hnL
  go_enter Try.func26, Try.ntmps26
  go_wp2_with fail
  refine BL.out.mono ?_
  rintro e w1 ⟨x, a2, n2, c2, rfl, ho, hs, hb⟩
  have S1 := Lib.hid hs
  have B1 := Lib.hid hb
  clear ho hs hb
  go_wp2_with fail
  go_ret
  exact ⟨a2, n2, c2, rfl, S1.out, B1.out⟩

theorem RWS.next_fin {w0 w : World} {g m n : Nat} {Lv nv lv : Value} {Ls : List Sv} {Ns : List (Sv × Sv)} {s : WS} {who : Nat → Nat} (h : RWr w0 w g Lv nv lv Ls Ns m s.L s.now s.last s.shut n who) (hn : s.whole.length = n) : RWS w0 w g m s.next who :=
  ⟨Lv, nv, lv, Ls, Ns, by subst hn; exact h⟩
set_option maxRecDepth 100000 in
set_option maxHeartbeats 2000000 in
theorem rnext_any (w0 w : World) (g m : Nat) (s : WS) (who : Nat → Nat) (h : RWS w0 w g m s who) (hok : s.Ok m) :
    Calls Try.prog 23 #[.pointer (some ⟨g, 0, none⟩)] w fun e w' => ∃ a n c, e = .returned (.slice a n c) ∧ Sl Bf w' a n c s.ready ∧ RWPost w0 w w' g m s.next who ∧ ∀ b o, a = some ⟨b, o, none⟩ → w.heap.size ≤ b := by
  obtain ⟨Lv, nv, lv, Ls, Ns, hW⟩ := id h
  obtain ⟨aL, cL, rfl, hls⟩ := hW.lls
  obtain ⟨nL, hnL⟩ : ∃ nL, s.L.length = nL := ⟨_, rfl⟩
  have c1 := hW.c1
  rw [hnL] at c1 hls
  have BL := Lib.hid (rblocks_any aL nL cL s.L w hok.many hok.l hls)
  have W0 := Lib.hid hW
  have OK := Lib.hid hok
  have hwl := WS.whole_le hok
  have hol := outL_le hok.l
  have hmany := hok.many
  have hfl := finB_le s.L
  have htold := hok.told
  obtain ⟨wl, hwl2⟩ : ∃ wl, s.whole.length = wl := ⟨_, rfl⟩
  obtain ⟨td, htd⟩ : ∃ td, s.told = td := ⟨_, rfl⟩
  have WL := Lib.hid hwl2
  have TD := Lib.hid htd
  rw [hwl2] at hwl htold
  rw [htd] at htold
  clear hW h hok hls hnL hwl2 htd
  go_enter Try.func23, Try.ntmps23
  go_wp2_with fail
  refine BL.out.mono ?_
  rintro e w1 ⟨x, a2, n2, c2, rfl, ho1, hs1, hb1⟩
  obtain ⟨a1, n1, k1, rfl, z1⟩ := ho1.slN
  have Z1 := Lib.hid z1
  have N1 := Lib.hid z1.len
  have hn1 : n1 ≤ 200000000000 := by rw [← z1.len]; omega
  have S1 := Lib.hid (Stab.spans hs1)
  have B1 := Lib.hid hb1
  clear ho1 hs1 hb1 z1 c1
  go_wp2_with fail
  refine (rhead_any w1).mono ?_
  rintro e w2 ⟨x2, rfl, ho2, hb2⟩
  obtain ⟨a3, n3, k3, rfl, z3⟩ := ho2.slN
  have hn3 : n3 = 8 := z3.len.symm
  subst hn3
  have O2 := Lib.hid ho2
  replace Z1 := Lib.hid (Z1.out.keep hb2)
  have H12 := Lib.hid hb2
  have B2 := Lib.hid (keep_trans B1.out hb2)
  have H2 := Lib.hid hb2.size
  have LW1 := B1.out.size
  clear ho2 hb2 z3
  go_upto_region 3 with (at_builtin; refine wpList_appT eltTB rfl (.tmp 14) (.tmp 15) rfl w1.heap.size _ headB (by rfl) O2.out a1 n1 k1 (outL s.L) (by rfl) Z1.out.toT (by unfold maxLen; simp only [headB, List.length_cons, List.length_nil]; omega) (by simp only [headB, List.length_cons, List.length_nil]; omega) H2.out _ rfl ?_; intro v9 w9 h9 hg9 hv9 hb9; have O9 := Lib.hid h9; have HB9 := Lib.hid hb9; have HG9 := Lib.hid hg9; have LT2 := Lib.hid O2.out.lt; clear h9 hg9 hv9 hb9)
  have T9 : Hid (Turns (fun j => w1.heap.size ≤ j) w2 w9) := Lib.hid (.of_grown HG9.out fun j e => (LT2.out j e).1)
  have B19 := Lib.hid (T9.out.below H12.out H12.out.size fun j e => e)
  have B9 := Lib.hid (keep_trans B1.out B19.out)
  have W9 := Lib.hid (W0.out.keep B9.out)
  have S9 := Lib.hid (S1.out.keep B19.out)
  have c4 := W9.out.c4
  obtain ⟨sh, hsh⟩ : ∃ sh, s.shut = sh := ⟨_, rfl⟩
  rw [hsh] at c4
  have SH := Lib.hid hsh
  clear hsh
  have hLW := H2.out
  have LW9 := B19.out.size
  obtain ⟨a9, n9, k9, rfl, z9⟩ := O9.out.slN
  have N9 := Lib.hid z9.len
  have hn9 : n9 ≤ 200000000008 := by rw [← z9.len]; simp only [headB, List.length_append, List.length_cons, List.length_nil]; omega
  clear z9 T9 HG9 HB9 LT2 O2 Z1 H12 S1
  go_upto_if 20 with (fail)
  go_cut [3] (fun b wx => OwT fB wx w1.heap.size 5 b s.whole ∧ Below w.heap.size w wx)
  case first =>
    cases sh with
    | true =>
      have HWH := Lib.hid (show headB ++ outL s.L ++ finB s.L = s.whole by unfold WS.whole; rw [SH.out]; rfl)
      go_wp2_with fail
      refine (rend_any a2 n2 c2 s.L w9 hmany OK.out.l S9.out.now).mono ?_
      rintro e w10 ⟨x10, rfl, ho10, hb10⟩
      obtain ⟨a10, n10, k10, rfl, z10⟩ := ho10.slN
      have hn10 : n10 ≤ 873000100 := by rw [← z10.len]; exact hfl
      have Z10 := Lib.hid z10
      replace O9 := Lib.hid (O9.out.keep hb10)
      have B10 := Lib.hid (keep_trans B9.out hb10)
      have LW10 : w1.heap.size ≤ w10.heap.size := Nat.le_trans LW9 hb10.size
      clear ho10 hb10 z10
      go_wp2_with (at_builtin; refine wpList_appT eltTB rfl (.tmp 21) (.tmp 23) rfl w1.heap.size (.slice a9 n9 k9) (headB ++ outL s.L) (by rfl) O9.out a10 n10 k10 (finB s.L) (by rfl) Z10.out.toT (by rw [N9.out]; unfold maxLen; omega) (by rw [N9.out]; omega) LW10 s.whole HWH.out ?_; intro v11 w11 h11 hg11 hv11 hb11; have O11 := Lib.hid h11; have B11 := Lib.hid (B10.out.trans (hb11.mono LW1)); clear h11 hg11 hv11 hb11)
      go_meet
      exact ⟨O11.out, B11.out⟩
    | false =>
      have HWH := Lib.hid (show headB ++ outL s.L = s.whole by unfold WS.whole; rw [SH.out]; simp)
      go_wp2_with fail
      go_meet
      exact ⟨by have := O9.out; rw [HWH.out] at this; exact this, B9.out⟩
  obtain ⟨ho, hb⟩ := hcut
  obtain ⟨w12, rfl⟩ : ∃ w12, w12 = wc := ⟨_, rfl⟩
  obtain ⟨a12, n12, k12, rfl, z12⟩ := ho.slN
  have hn12 : n12 = wl := by rw [← z12.len]; exact WL.out
  subst hn12
  have O12 := Lib.hid ho
  have W12 := Lib.hid (W0.out.keep hb)
  have B12 := Lib.hid hb
  have Z13 := Lib.hid (z12.from td htold)
  have hcut2 := fun W : World => run_cutfrom eltB W a12 n12 k12 .i64 td htold
  have c5 := W12.out.c5
  rw [TD.out] at c5
  have f5 := W12.out.free 5
  clear ho hb z12 c4 O9 W9 S9
  go_wp2_with fail
  go_ret
  obtain ⟨hW13, hG13⟩ := W12.out.setT n12
  have hown : ∀ b o, adv a12 k12 td = some ⟨b, o, none⟩ → w.heap.size ≤ b := fun b o e => by
    obtain ⟨q, hq⟩ : ∃ q, a12 = some q := by
      cases a12 with
      | none => unfold adv at e; split at e <;> simp at e
      | some q => exact ⟨q, rfl⟩
    subst hq
    have hqb : Value.ownBlock (.slice (some q) n12 k12) = some b := by
      unfold adv at e
      split at e
      · cases e; rfl
      · obtain ⟨qb, qo, qs⟩ := q
        simp [Addr.add] at e
        split at e <;> (simp at e; simp [Value.ownBlock]; first | exact e.1 | exact e)
    have := (O12.out.lt b hqb).1
    omega
  have hgo : ∀ b o, adv a12 k12 td = some ⟨b, o, none⟩ → 0 < n12 - td → b ≠ g := fun b o e h0 => by
    have := hown b o e
    have := W0.out.lt
    omega
  have hrd : s.ready = List.drop td s.whole := by unfold WS.ready; rw [TD.out]
  rw [hrd]
  refine ⟨_, _, _, rfl, Z13.out.of_block fun b o e h0 => Below.heap_setCell _ _ _ _ (hgo b o e h0), ⟨who, ?_, (Gr.below B12.out).trans hG13⟩, hown⟩
  exact RWS.next_fin hW13 WL.out
end Go.Proofs.Ytljcogimeimknaa
