/- The document's reader of streams: Block: contract. Conditions: the reader's budget, its rows and the places within reach. -/
import Derived.Test.YtljcogimeimknaaGreatRdREnd
import Derived.Test.YtljcogimeimknaaGreatRdRFin
import Derived.Test.YtljcogimeimknaaGreatK8b
import Derived.Test.YtljcogimeimknaaGreatK8w
import Derived.Test.YtljcogimeimknaaGreatK8x
import Derived.Test.YtljcogimeimknaaGreatRdRSeal
import Derived.Test.YtljcogimeimknaaGreatRdRRow
import Derived.Deep.DeepCutAuto
namespace Go.Proofs.YtljcogimeimknaaGreat
open Go.RowKit Go.Shelf
set_option linter.unusedVariables false
set_option linter.unusedSimpArgs false

theorem Sl.grW {who who' : Nat → Nat} {w w' : World} {a : Option Addr} {n c : Nat} {xs : List UInt8} (h : Sl Bf w a n c xs) (ha : Apt who w (.slice a n c)) (hG : GrW w w' who who') : Sl Bf w' a n c xs :=
  h.turns hG.t fun b o e _ hn => hn.1 (ha b (by subst e; rfl)).2
theorem openE_seal {b c : List UInt8} (h : c.length = 4) : openE (b ++ c) = if (b ++ four (sum b) == b ++ c) = true then 0 else 22 := by
  unfold openE
  rw [if_neg (by rw [List.length_append]; omega), show (b ++ c).length - 4 = b.length by rw [List.length_append]; omega, List.take_left, List.drop_left]
  by_cases e : four (sum b) = c
  · rw [if_pos e, if_pos (by rw [e]; simp)]
  · rw [if_neg e, if_neg (by simpa using e)]
theorem Apt.grW {who who' : Nat → Nat} {w w' : World} {v : Value} (h : Apt who w v) (hG : GrW w w' who who') : Apt who' w' v :=
  fun j hj => ⟨Nat.lt_of_lt_of_le (h j hj).1 hG.t.size, hG.zero (h j hj).1 (h j hj).2⟩
section
variable {w : World} {bs : List UInt8} {lo gt g gi : Nat} {bg : Bool} {S : Nat → Prop} {lv rv : Value} {vs : List RV} {s : RS} {who : Nat → Nat} {L Bd : Nat}
/-- behind the head -/
def HdP (w : World) (bs : List UInt8) (lo gt g gi : Nat) (lv rv : Value) (vs : List RV) (s1 : RS) (who : Nat → Nat) (wx : World) : Prop :=
  ∃ S1 who1, Rrp wx bs lo gt g gi true S1 lv rv vs s1 who1 ∧ GrW w wx who who1
set_option maxRecDepth 100000 in
set_option maxHeartbeats 64000000 in
theorem rblk08_any (hbl : bs.length ≤ 140737488351232) (al : Nat) (ap : Option Addr) (h : Rrp w bs lo gt g gi bg S (.slice ap 0 al) rv vs s who) (hk : s.Ok L) (hL : L ≤ 140737488351232) :
    Calls Tryz.prog 27 #[.pointer (some ⟨g, 0, none⟩)] w (RRPost bs lo gt g gi (.slice ap 0 al) who w (nxM mxR s)) := by
  have hlw0 := h.lw
  have c6 := h.c6
  have c2 := h.c2
  have c1 := h.c1
  have c0 := h.c0
  by_cases h2 : s.ph = 2
  · have FIN := Lib.hid (show RRPost bs lo gt g gi (.slice ap 0 al) who w (nxM mxR s) (.returned (.tuple #[.slice none 0 0, .bool false])) w by
      unfold nxM
      rw [if_neg (by omega), if_neg (by omega)]
      exact ⟨_, [], bg, S, rv, vs, who, rfl, RdL.nil _ _, fun j hj => (RLB_nil hj).elim, h, GrW.refl _ _⟩)
    rw [decide_eq_true h2] at c2
    clear h hk h2 c1 c0
    go_enter Tryz.func27, Tryz.ntmps27
    go_wp2_with fail
    go_ret2
    exact FIN.out
  rw [decide_eq_false h2] at c2
  have hO := hk.ok.most (m' := mxR) (by decide)
  rw [if_neg h2] at hO
  have hmany := hk.many
  have hfit := hk.fit.mono (show 64 ≤ 140737488351232 by decide)
  have hph := hk.ph
  have her := hk.er h2
  have hplx := hk.pl h2
  obtain ⟨⟨b0, e0, k0⟩, hX0⟩ : ∃ X, bytesM srcM mxR 8 s.c = X := ⟨_, rfl⟩
  have hO0 := (hO.bytes (n := 8) src_muR (src_leR L)).1
  have hp0 := bytesM_pl (M := mxR) (n := 8) (c := s.c)
  have hr0 := bytesM_er (M := mxR) (n := 8) (c := s.c) (by decide)
  rw [hX0] at hO0 hp0 hr0
  dsimp only at hO0 hp0 hr0
  obtain ⟨s1, hs1⟩ : ∃ s1 : RS, s1 = if s.ph = 0 then { s with c := k0, ph := 1 } else s := ⟨_, rfl⟩
  have K1 : Hid (s1.ph = 1 ∧ s1.rows = s.rows ∧ s1.er = s.er ∧ s1.pt = s.pt) := Lib.hid (by
    rw [hs1]; split
    · exact ⟨rfl, rfl, rfl, rfl⟩
    · exact ⟨by omega, rfl, rfl, rfl⟩)
  have O1 : Hid (OkayC srcM (SrcR L) mxR (17 * L + 7000 * s.rows.length + 100) s1.c) := Lib.hid (by
    rw [hs1]; split
    · exact hO0.mono (by omega)
    · exact hO.mono (by omega))
  have P1 : Hid (s1.c.pl ≤ 100000000000000) := Lib.hid (by
    have : (8 : Int).toNat = 8 := rfl
    rw [hs1]; split
    · show k0.pl ≤ _; omega
    · omega)
  have E1 : Hid (s.ph = 1 → nxM mxR s = frM mxR s1) := Lib.hid fun e => by rw [hs1, if_neg (by omega)]; unfold nxM; rw [if_neg (by omega), if_pos e]
  have E0 : Hid (s.ph = 0 → nxM mxR s = if e0 ≠ 0 then s.fail k0 e0 0 else if b0 ≠ headB then s.fail k0 81 0 else frM mxR s1) := Lib.hid fun e => by rw [hs1, if_pos e]; unfold nxM; rw [if_pos e]; unfold hdM hdH; rw [hX0]
  have S1A : Hid (s.ph = 1 → s1 = s) := Lib.hid fun e => by rw [hs1, if_neg (by omega)]
  have S1B : Hid (s.ph = 0 → s1 = { s with c := k0, ph := 1 }) := Lib.hid fun e => by rw [hs1, if_pos e]
  have ERR : Hid (s.ph = 1 ∨ e0 = 0 → s1.c.er = 0) := Lib.hid (by
    intro e
    rw [hs1]; split
    · rename_i q
      rcases e with e | e
      · omega
      · exact hr0 e
    · exact her)
  have H := Lib.hid h
  have HO := Lib.hid hO
  have HX0 := Lib.hid hX0
  have MANY := Lib.hid hmany
  have FIT := Lib.hid hfit
  obtain ⟨Y, hY⟩ : ∃ Y, nxM mxR s = Y := ⟨_, rfl⟩
  rw [hY] at E1 E0 ⊢
  clear hk hO hmany hfit her hplx hO0 hp0 hr0 hs1 hY hX0 h
  have hbg : bg = decide (s.ph = 1) := by
    by_cases e : s.ph = 0
    · rw [H.out.b0 e, decide_eq_false (by omega)]
    · rw [H.out.b1 (by omega), decide_eq_true (by omega)]
  have HBG := Lib.hid hbg
  clear hbg
  go_enter Tryz.func27, Tryz.ntmps27
  go_upto_if 40 with (fail)
  go_cut [] (fun wx => HdP w bs lo gt g gi (.slice ap 0 al) rv vs s1 who wx ∧ Y = frM mxR s1 ∧ s1.c.er = 0)
  case first =>
    cases bg with
    | true =>
      have hp1 : s.ph = 1 := of_decide_eq_true HBG.out.symm
      have FIN := Lib.hid (show HdP w bs lo gt g gi (.slice ap 0 al) rv vs s1 who w ∧ Y = frM mxR s1 ∧ s1.c.er = 0 from ⟨by rw [S1A.out hp1]; exact ⟨S, who, H.out, GrW.refl _ _⟩, E1.out hp1, ERR.out (.inl hp1)⟩)
      clear hp1
      go_wp2_with fail
      go_meet
      exact FIN.out
    | false =>
      have hp0 : s.ph = 0 := by have := of_decide_eq_false HBG.out.symm; omega
      have HP0 := Lib.hid hp0
      have BT := refBytes_any hbl H.out HO.out (by have := MANY.out; omega) hL 8 (by omega)
      rw [show (((8 : Nat) : Int)) = 8 from rfl, HX0.out] at BT
      clear hp0
      go_wp2_with fail
      refine BT.mono ?_
      rintro r w6 ⟨bv, S6, who6, rfl, ho6, hz6, hR6, hG6⟩
      have R6 := Lib.hid hR6
      have G6 := Lib.hid hG6
      have c0 := hR6.c0
      obtain ⟨a6, n6, m6, rfl, z6⟩ := ho6.slN
      have T6 := Lib.hid z6
      clear hR6 hG6 BT ho6 hz6 z6 c1 c2 c6
      by_cases h5 : e0 = 0
      case neg =>
        have t5 : (e0 != 0) = true := by rw [bne_iff_ne]; exact h5
        have FIN := Lib.hid (show Y = s.fail k0 e0 0 by rw [E0.out HP0.out, if_pos h5])
        clear h5
        go_wp2_with (go_at_call 61; refine (rfail_any (s := s) hbl R6.out G6.out rfl e0 0).mono ?_; rintro r w9 ⟨rfl, hp9⟩; have P9 := Lib.hid hp9; clear hp9)
        go_ret2
        rw [FIN.out]
        exact P9.out
      have h50 : e0 = 0 := h5
      have H50 := Lib.hid h50
      have t5 : (e0 != 0) = false := by rw [bne_eq_false_iff_eq]; exact h5
      clear h50 h5
      have hs1 := fun (W : World) (hW : Below w6.heap.size w6 W) => run_str (P := Tryz.prog) (dst := 9) Tryz.underlying22 Tryz.underlying5 Tryz.underlying9 W _ _ _ _ (T6.out.keep hW)
      have hd0 := Below.refl w6.heap.size w6
      have hd1 := (Below.refl w6.heap.size w6).drew
      obtain ⟨d, hd⟩ : ∃ d, ((strB b0).toList == (strB headB).toList) = d := ⟨_, rfl⟩
      have hD := hd
      rw [strB_list, strB_list] at hD
      have HD := Lib.hid hD
      clear hD
      go_wp2_with fail
      go_region_with (go_at_call 40; refine (rhead_any _).mono ?_; rintro r w7 ⟨x7, rfl, ho7, hb7⟩; obtain ⟨a7, n7, c7, rfl, z7⟩ := ho7.slN; have hb7 : Below w6.heap.size w6 w7 := keep_trans hd1 hb7; have hs4 := run_str (P := Tryz.prog) (dst := 9) Tryz.underlying22 Tryz.underlying5 Tryz.underlying9 w7 _ _ _ _ z7; clear z7 ho7)
      all_goals
        have R7 := Lib.hid (R6.out.keep hbl hb7)
        have G7 := Lib.hid (G6.out.trans (GrW.below hb7))
        have c1 := R7.out.c1
        have f1 := R7.out.free 1
        clear hb7 hs4 hs1 hd0 hd1 R6 G6 T6
        cases d with
        | false =>
          have FIN := Lib.hid (show Y = s.fail k0 81 0 by rw [E0.out HP0.out, if_neg (by rw [H50.out]; simp), if_pos (by have := HD.out; exact beq_eq_false_iff_ne.1 this)])
          go_wp2_with (go_at_call 61; refine (rfail_any (s := s) hbl R7.out G7.out rfl 81 0).mono ?_; rintro r w9 ⟨rfl, hp9⟩; have P9 := Lib.hid hp9; clear hp9)
          go_ret2
          rw [FIN.out]
          exact P9.out
        | true =>
          obtain ⟨hR8, hG8⟩ := R7.out.updG hbl (Turns.set (S := fun j => j = g) w7 (i := 1) rfl (.bool true)) (lv' := .slice ap 0 al) (bg' := true) (ph := 1) (er := s.er) (pt := s.pt) (by have q := set_block (i := 1) R7.out.blk (.bool true); dsimp only at q; rw [HP0.out] at q; exact q) (fun e => by cases e) (fun e => rfl)
          have FIN := Lib.hid (show HdP w bs lo gt g gi (.slice ap 0 al) rv vs s1 who (w7.setCell ⟨g, 1, none⟩ (.bool true)) ∧ Y = frM mxR s1 ∧ s1.c.er = 0 from ⟨by rw [S1B.out HP0.out]; exact ⟨S6, who6, hR8, G7.out.trans hG8⟩, by rw [E0.out HP0.out, if_neg (by rw [H50.out]; simp), if_neg (by have := HD.out; simpa using beq_iff_eq.1 this)], ERR.out (.inr H50.out)⟩)
          clear hR8 hG8
          go_wp2_with fail
          go_meet
          exact FIN.out
  obtain ⟨⟨S1, who1, hR1, hG1⟩, hY1, her1⟩ := hcut
  obtain ⟨w1, hw1⟩ : ∃ w1, w1 = wc := ⟨_, rfl⟩
  subst hw1
  obtain ⟨hph1, hrows1, -, -⟩ := K1.out
  have MANY1 : Hid (s1.rows.length ≤ 8388608) := Lib.hid (by rw [hrows1]; exact MANY.out)
  have FIT1 : Hid (FitR 140737488351232 s1.rows) := Lib.hid (by rw [hrows1]; exact FIT.out)
  have BD1 : Hid (17 * L + 7000 * s.rows.length + 100 ≤ 2305843009213600000) := Lib.hid (by have := MANY.out; omega)
  have PH1 := Lib.hid hph1
  obtain ⟨B0, hB0⟩ : ∃ B0, 17 * L + 7000 * s.rows.length + 100 = B0 := ⟨_, rfl⟩
  rw [hB0] at O1 BD1
  have hbd : B0 ≤ 2305843009213600000 := BD1.out
  clear c0 c1 c2 c6 E1 E0 S1A S1B ERR HO HX0 FIT MANY H HBG K1 hB0 hph hrows1 h2
  obtain ⟨⟨kd, e1, k1⟩, hX1⟩ : ∃ X, byteM srcM mxR s1.c = X := ⟨_, rfl⟩
  obtain ⟨⟨nn, e2, k2⟩, hX2⟩ : ∃ X, numM srcM mxR k1 = X := ⟨_, rfl⟩
  obtain ⟨⟨b3, e3, k3⟩, hX3⟩ : ∃ X, bytesM srcM mxR (nn : Int) k2 = X := ⟨_, rfl⟩
  obtain ⟨⟨b4, e4, k4⟩, hX4⟩ : ∃ X, bytesM srcM mxR 4 k3 = X := ⟨_, rfl⟩
  obtain ⟨⟨l, q, e5⟩, hX5⟩ : ∃ X, bread b3 = X := ⟨_, rfl⟩
  obtain ⟨F, hF⟩ : ∃ F, fbs s1.rows = F := ⟨_, rfl⟩
  obtain ⟨E, hE⟩ : ∃ E, openE (b3 ++ b4) = E := ⟨_, rfl⟩
  have hM : Y = if e1 ≠ 0 then s1.fail k1 e1 s1.c.pl else if kd = 70 then (if e2 ≠ 0 then s1.fail k2 e2 k1.pl else if nn ≠ F.length then s1.fail k2 84 k1.pl else if e3 ≠ 0 then s1.fail k3 e3 k2.pl else if e4 ≠ 0 then s1.fail k4 e4 k3.pl else if E ≠ 0 then s1.fail k4 E k3.pl else ftC mxR { s1 with c := k4 } s1.c.pl k2.pl b3 F)
      else if kd ≠ 66 then s1.fail k1 82 s1.c.pl else if s1.rows.length = 8388608 then s1.fail k1 71 s1.c.pl else
      if e2 ≠ 0 then s1.fail k2 e2 k1.pl else if nn < 1 ∨ 65535 < nn then s1.fail k2 83 k1.pl else if e3 ≠ 0 then s1.fail k3 e3 k2.pl else if e4 ≠ 0 then s1.fail k4 e4 k3.pl else if E ≠ 0 then s1.fail k4 E k3.pl else if e5 ≠ 0 then s1.fail k4 e5 (k2.pl + q) else
      if 0 < s1.rows.length ∧ 0 ≤ cmp (lastR s1.rows) (frst l) then s1.fail k4 51 k2.pl else ((l, true), ⟨k4, 1, s1.rows ++ [(lastK l, (s1.c.pl : Int), (k4.pl : Int) - (s1.c.pl : Int), (l.length : Int))], s1.er, s1.pt⟩) := by
    have hbd : ∀ m : Nat, bytesM srcM mxR (m : Int) k2 = bytesM srcM mxR (m : Int) k2 := fun _ => rfl
    have hbody : bodyM mxR k2 nn = if e3 ≠ 0 then ([], e3, k2.pl, k3) else if e4 ≠ 0 then ([], e4, k3.pl, k4) else if E ≠ 0 then ([], E, k3.pl, k4) else (b3, 0, 0, k4) := by
      unfold bodyM bdB bdS; rw [hX3]; dsimp only; rw [hX4]; dsimp only; rw [hE]
    rw [hY1]
    unfold frM frK
    rw [hX1]
    dsimp only
    rw [hX2]
    by_cases h1 : e1 ≠ 0
    · rw [if_pos h1, if_pos h1]
    rw [if_neg h1, if_neg h1]
    by_cases h2 : kd = 70
    · rw [if_pos h2, if_pos h2]
      unfold ftN
      rw [hF]
      dsimp only
      by_cases h3 : e2 ≠ 0
      · rw [if_pos h3, if_pos h3]
      rw [if_neg h3, if_neg h3]
      by_cases h4 : nn ≠ F.length
      · rw [if_pos h4, if_pos h4]
      rw [if_neg h4, if_neg h4]
      have h4 : nn = F.length := Classical.not_not.1 h4
      rw [← h4, hbody]
      unfold ftD ftC
      rw [hF]
      by_cases h5 : e3 ≠ 0
      · rw [if_pos h5, if_pos h5]; dsimp only; rw [if_pos h5]
      rw [if_neg h5, if_neg h5]
      by_cases h6 : e4 ≠ 0
      · rw [if_pos h6, if_pos h6]; dsimp only; rw [if_pos h6]
      rw [if_neg h6, if_neg h6]
      by_cases h7 : E ≠ 0
      · rw [if_pos h7, if_pos h7]; dsimp only; rw [if_pos h7]
      rw [if_neg h7, if_neg h7]
      rfl
    rw [if_neg h2, if_neg h2]
    by_cases h3 : kd ≠ 66
    · rw [if_pos h3, if_pos h3]
    rw [if_neg h3, if_neg h3]
    by_cases h3 : s1.rows.length = 8388608
    · rw [if_pos h3, if_pos h3]
    rw [if_neg h3, if_neg h3]
    unfold frN
    dsimp only
    by_cases h3 : e2 ≠ 0
    · rw [if_pos h3, if_pos h3]
    rw [if_neg h3, if_neg h3]
    by_cases h4 : nn < 1 ∨ 65535 < nn
    · rw [if_pos h4, if_pos h4]
    rw [if_neg h4, if_neg h4, hbody]
    unfold frD
    by_cases h5 : e3 ≠ 0
    · rw [if_pos h5, if_pos h5]; dsimp only; rw [if_pos h5]
    rw [if_neg h5, if_neg h5]
    by_cases h6 : e4 ≠ 0
    · rw [if_pos h6, if_pos h6]; dsimp only; rw [if_pos h6]
    rw [if_neg h6, if_neg h6]
    by_cases h7 : E ≠ 0
    · rw [if_pos h7, if_pos h7]; dsimp only; rw [if_pos h7]
    rw [if_neg h7, if_neg h7]
    dsimp only
    rw [hX5]
    rfl
  have LOW0 : Hid (lo ≤ w.heap.size) := Lib.hid hlw0
  have hO2 := O1.out.byte src_muR (src_leR L)
  rw [hX1] at hO2
  have hp1 := byteM_pl (M := mxR) (c := s1.c)
  have hr1 := byteM_er (M := mxR) (c := s1.c)
  rw [hX1] at hp1 hr1
  have hO3 := hO2.num src_muR (src_leR L)
  rw [hX2] at hO3
  have hp2 : k1.er = 0 → k2.pl ≤ k1.pl + 11 := fun e => by have := numM_pl (M := mxR) e; rw [hX2] at this; exact this
  have hb3 := hO3.bytes (n := (nn : Int)) src_muR (src_leR L)
  have hp3 := bytesM_pl (M := mxR) (n := (nn : Int)) (c := k2)
  rw [hX3] at hb3 hp3
  obtain ⟨hO4, hl3, -⟩ := hb3
  have hb4 := hO4.bytes (n := 4) src_muR (src_leR L)
  have hp4 := bytesM_pl (M := mxR) (n := 4) (c := k3)
  rw [hX4] at hb4 hp4
  obtain ⟨hO5, hl4, -⟩ := hb4
  dsimp only at hO2 hO3 hO4 hO5 hl3 hl4 hp1 hr1 hp3 hp4
  have hFl : F.length ≤ 873000000 := by rw [← hF]; exact fbs_le s1.rows
  obtain ⟨aR, nR, cR, hrv, hsp⟩ := hR1.spv
  subst hrv
  have hnR : s1.rows.length = nR := hsp.spans.1
  rw [hnR] at hM
  have c0 := hR1.c0
  have cp := hR1.cp
  have HM := Lib.hid hM
  have HX1 := Lib.hid hX1
  have HX2 := Lib.hid hX2
  have HX3 := Lib.hid hX3
  have HX4 := Lib.hid hX4
  have HX5 := Lib.hid hX5
  have HF := Lib.hid hF
  have HE := Lib.hid hE
  have HNR := Lib.hid hnR
  have R1 := Lib.hid hR1
  have G1 := Lib.hid hG1
  have O2 := Lib.hid hO2
  have O3 := Lib.hid hO3
  have O4 := Lib.hid hO4
  have O5 := Lib.hid hO5
  have L3 := Lib.hid hl3
  have L4 := Lib.hid hl4
  have ER1 := Lib.hid hr1
  have HP2 := Lib.hid hp2
  have HP3 := Lib.hid hp3
  have HP4 := Lib.hid hp4
  obtain ⟨pl, hpl⟩ : ∃ p, s1.c.pl = p := ⟨_, rfl⟩
  rw [hpl] at HM P1 cp
  have HP1 : Hid (k1.pl ≤ 100000000000001) := Lib.hid (by have := P1.out; omega)
  have hplb : pl ≤ 100000000000000 := P1.out
  clear hsp hM hX1 hX2 hX3 hX4 hX5 hF hE hnR hR1 hG1 hO2 hO3 hO4 hO5 hl3 hl4 hr1 hp1 hp2 hp3 hp4 hY1 her1 hph1 hpl
  have BYT := refByte_any hbl R1.out O1.out (by omega)
  rw [HX1.out] at BYT
  go_wp2_with fail
  refine BYT.mono ?_
  rintro r w2 ⟨S2, who2, rfl, hR2, hG2⟩
  have R2 := Lib.hid hR2
  have G2 := Lib.hid (G1.out.trans hG2)
  have c0 := hR2.c0
  have cp := hR2.cp
  have c5 := hR2.c5
  clear hR2 hG2 BYT R1 G1
  by_cases h1 : e1 = 0
  case neg =>
    have t1 : (e1 != 0) = true := by rw [bne_iff_ne]; exact h1
    have FIN := Lib.hid (show Y = s1.fail k1 e1 pl by rw [HM.out, if_pos h1])
    clear h1
    go_wp2_with (go_at_call 61; refine (rfail_any (s := s1) hbl R2.out G2.out rfl e1 pl).mono ?_; rintro r w9 ⟨rfl, hp9⟩; have P9 := Lib.hid hp9; clear hp9)
    go_ret2
    rw [FIN.out]
    exact P9.out
  subst h1
  have t1 : ((0 : Int) != 0) = false := by decide
  have NM := refNum_any hbl R2.out O2.out (by omega)
  dsimp only at NM
  rw [HX2.out] at NM
  replace NM := Lib.hid NM
  by_cases h2 : kd = 70
  case pos =>
    have k1' : (B kd != 66) = true := by rw [h2]; decide
    have k2' : (B kd != 70) = false := by rw [h2]; decide
    have k3' : (B kd == 66) = false := by rw [h2]; decide
    have k4' : (B kd == 70) = true := by rw [h2]; decide
    replace HM := Lib.hid (show Y = _ by rw [HM.out, if_neg (by simp), if_pos h2])
    clear h2
    go_wp2_with fail
    refine NM.out.mono ?_
    rintro r w3 ⟨S3, who3, rfl, hR3, hG3⟩
    have R3 := Lib.hid hR3
    have G3 := Lib.hid (G2.out.trans hG3)
    have c0 := hR3.c0
    have cp := hR3.cp
    have c5 := hR3.c5
    clear hR3 hG3 NM R2 G2
    by_cases h2 : e2 = 0
    case neg =>
      have t5 : (e2 != 0) = true := by rw [bne_iff_ne]; exact h2
      have FIN := Lib.hid (show Y = s1.fail k2 e2 k1.pl by rw [HM.out, if_pos h2])
      clear h2
      go_wp2_with (go_at_call 61; refine (rfail_any (s := s1) hbl R3.out G3.out rfl e2 k1.pl).mono ?_; rintro r w9 ⟨rfl, hp9⟩; have P9 := Lib.hid hp9; clear hp9)
      go_ret2
      rw [FIN.out]
      exact P9.out
    subst h2
    replace HM := Lib.hid (show Y = _ by rw [HM.out, if_neg (by simp)])
    obtain ⟨q1, hq1⟩ : ∃ q, (fchk s1.rows).2 = q := ⟨_, rfl⟩
    obtain ⟨q2, hq2⟩ : ∃ q, (fchk s1.rows).1 = q := ⟨_, rfl⟩
    have FB := frbytes_any aR nR cR s1.rows w3 (by have := MANY1.out; rw [HNR.out] at this; omega) FIT1.out (by obtain ⟨a9, n9, c9, e9, h9⟩ := R3.out.spv; obtain ⟨rfl, rfl, rfl⟩ : aR = a9 ∧ nR = n9 ∧ cR = c9 := (by simpa using e9); exact h9.spans)
    rw [HF.out, hq1, hq2] at FB
    replace FB := Lib.hid FB
    clear hq1 hq2
    have eF := u64_n F.length (by omega)
    have LOW3 := Lib.hid (fun j (hj : who3 j ≠ 0) => (R3.out.low j hj).2)
    go_wp2_with fail
    refine FB.out.mono ?_
    rintro r w4 ⟨x4, rfl, ho4, hb4⟩
    obtain ⟨aW, nW, cW, rfl, zW⟩ := ho4.slN
    obtain rfl : F.length = nW := zW.len
    have AW := Lib.hid (ho4.apt LOW3.out)
    have ZW := Lib.hid zW
    replace R3 := Lib.hid (R3.out.keep hbl hb4)
    replace G3 := Lib.hid (G3.out.trans (GrW.below hb4))
    have c0 := R3.out.c0
    have cp := R3.out.cp
    clear ho4 zW hb4 FB c5
    by_cases h2 : nn = F.length
    case neg =>
      have t2 : (nn != F.length) = true := by rw [bne_iff_ne]; exact h2
      have t2' : ((nn : Int) != (F.length : Int)) = true := by rw [bne_iff_ne]; omega
      have FIN := Lib.hid (show Y = s1.fail k2 84 k1.pl by rw [HM.out, if_pos h2])
      clear h2
      go_wp2_with (go_at_call 61; refine (rfail_any (s := s1) hbl R3.out G3.out rfl 84 k1.pl).mono ?_; rintro r w9 ⟨rfl, hp9⟩; have P9 := Lib.hid hp9; clear hp9)
      go_ret2
      rw [FIN.out]
      exact P9.out
    have t2 : (nn != F.length) = false := by rw [bne_eq_false_iff_eq]; exact h2
    have t2' : ((nn : Int) != (F.length : Int)) = false := by rw [bne_eq_false_iff_eq, h2]
    have HNF := Lib.hid h2
    replace HM := Lib.hid (show Y = _ by rw [HM.out, if_neg (by rw [HNF.out]; simp)])
    have hnn : nn ≤ 873000000 := by omega
    clear h2
    as_aux_lemma =>
      have e8 : IntKind.i64.wrap (nn : Int) = nn := IntWalk.i64_in _ (by omega)
      have BT := refBytes_any hbl R3.out O3.out (by omega) hL nn (by omega)
      dsimp only at BT
      rw [HX3.out] at BT
      go_wp2_with fail
      refine BT.mono ?_
      rintro r w5 ⟨bv, S5, who5, rfl, ho5, hz5, hR5, hG5⟩
      have R5 := Lib.hid hR5
      have G5 := Lib.hid (G3.out.trans hG5)
      have c0 := hR5.c0
      have cp := hR5.cp
      obtain ⟨a3, n3, m3, rfl, z3⟩ := ho5.slN
      have Z3 := Lib.hid z3
      have A3 : Hid (Apt who5 w5 (.slice a3 n3 m3)) := Lib.hid fun j hj => ⟨(ho5.lt j hj).2, hz5 j hj⟩
      have ZW5 := Lib.hid (ZW.out.grW AW.out hG5)
      have AW5 := Lib.hid (AW.out.grW hG5)
      clear hR5 hG5 BT R3 G3 ho5 hz5 z3 ZW AW
      by_cases h9 : e3 = 0
      case neg =>
        have t9 : (e3 != 0) = true := by rw [bne_iff_ne]; exact h9
        have FIN := Lib.hid (show Y = s1.fail k3 e3 k2.pl by rw [HM.out, if_pos h9])
        clear h9
        go_wp2_with (go_at_call 61; refine (rfail_any (s := s1) hbl R5.out G5.out rfl e3 k2.pl).mono ?_; rintro r w9 ⟨rfl, hp9⟩; have P9 := Lib.hid hp9; clear hp9)
        go_ret2
        rw [FIN.out]
        exact P9.out
      subst h9
      replace HM := Lib.hid (show Y = _ by rw [HM.out, if_neg (by simp)])
      have hb3 : b3.length = nn := by have := (L3.out (by simp)).2; simpa using this
      obtain rfl : nn = n3 := by rw [← hb3]; exact Z3.out.len
      have HB3 := Lib.hid hb3
      clear hb3
      have BT := refBytes_any hbl R5.out O4.out (by omega) hL 4 (by omega)
      dsimp only at BT
      rw [show (((4 : Nat) : Int)) = 4 from rfl, HX4.out] at BT
      go_wp2_with fail
      refine BT.mono ?_
      rintro r w6 ⟨bv, S6, who6, rfl, ho6, hz6, hR6, hG6⟩
      have R6 := Lib.hid hR6
      have G6 := Lib.hid (G5.out.trans hG6)
      have c0 := hR6.c0
      have cp := hR6.cp
      obtain ⟨a4, n4, m4, rfl, z4⟩ := ho6.slN
      have Z4 := Lib.hid z4
      have Z36 := Lib.hid (Z3.out.grW A3.out hG6)
      have A36 := Lib.hid (A3.out.grW hG6)
      have ZW6 := Lib.hid (ZW5.out.grW AW5.out hG6)
      have AW6 := Lib.hid (AW5.out.grW hG6)
      clear hR6 hG6 BT R5 G5 ho6 hz6 z4 Z3 A3 ZW5 AW5
      by_cases h10 : e4 = 0
      case neg =>
        have t10 : (e4 != 0) = true := by rw [bne_iff_ne]; exact h10
        have FIN := Lib.hid (show Y = s1.fail k4 e4 k3.pl by rw [HM.out, if_pos h10])
        clear h10
        go_wp2_with (go_at_call 61; refine (rfail_any (s := s1) hbl R6.out G6.out rfl e4 k3.pl).mono ?_; rintro r w9 ⟨rfl, hp9⟩; have P9 := Lib.hid hp9; clear hp9)
        go_ret2
        rw [FIN.out]
        exact P9.out
      subst h10
      replace HM := Lib.hid (show Y = _ by rw [HM.out, if_neg (by simp)])
      have hb4 : b4.length = 4 := by have := (L4.out (by simp)).2; simpa using this
      obtain rfl : 4 = n4 := by rw [← hb4]; exact Z4.out.len
      have HB4 := Lib.hid hb4
      clear hb4
      as_aux_lemma =>
        go_upto_region 41 with (fail)
        obtain ⟨d, hd⟩ : ∃ d, ((strB (b3 ++ four (sum b3))).toList == (strB (b3 ++ b4)).toList) = d := ⟨_, rfl⟩
        have hD := hd
        rw [strB_list, strB_list] at hD
        have HD := Lib.hid hD
        clear hD
        go_cut [237] (fun b wx => b = .bool (!d) ∧ Below w6.heap.size w6 wx)
        case first =>
          refine seal41 w6 Z36 Z4 HB3 HB4 hnn hd ?_
          intro x228 x229 x230 x231 x232 x233 x234 x235 x236 wx hbx
          have HBX := Lib.hid hbx
          clear hbx
          go_wp2_with fail
          go_meet
          exact ⟨rfl, HBX.out⟩
        obtain ⟨rfl, hcw⟩ := hcut
        obtain ⟨w7, hw7⟩ : ∃ w7, w7 = wc := ⟨_, rfl⟩
        subst hw7
        have R7 := Lib.hid (R6.out.keep hbl hcw)
        have G7 := Lib.hid (G6.out.trans (GrW.below hcw))
        have Z37 := Lib.hid (Z36.out.keep hcw)
        have A37 : Hid (Apt who6 w7 (.slice a3 nn m3)) := Lib.hid fun j hj => ⟨Nat.lt_of_lt_of_le (A36.out j hj).1 hcw.size, (A36.out j hj).2⟩
        have c0 := R7.out.c0
        have cp := R7.out.cp
        have ZW7 := Lib.hid (ZW6.out.keep hcw)
        have ES := Lib.hid (openE_seal (b := b3) HB4.out)
        clear hd hcw R6 G6 Z36 A36 Z4 ZW6 AW6
        cases d with
        | false =>
          have e22 : E = 22 := by rw [← HE.out, ES.out, HD.out]; simp
          have FIN := Lib.hid (show Y = s1.fail k4 22 k3.pl by rw [HM.out, if_pos (by rw [e22]; decide), e22])
          clear e22
          go_wp2_with (go_at_call 61; refine (rfail_any (s := s1) hbl R7.out G7.out rfl 22 k3.pl).mono ?_; rintro r w9 ⟨rfl, hp9⟩; have P9 := Lib.hid hp9; clear hp9)
          go_ret2
          rw [FIN.out]
          exact P9.out
        | true =>
          as_aux_lemma =>
            have e22 : E = 0 := by rw [← HE.out, ES.out, HD.out]; simp
            replace HM := Lib.hid (show Y = _ by rw [HM.out, if_neg (by rw [e22]; simp)])
            clear e22
            have hk2 : k2.pl ≤ 1000000000000000 := by have := HP1.out; have := HP2.out (ER1.out (by simp)); omega
            have FIN := Lib.hid (show Y = ftC mxR { s1 with c := k4 } pl k2.pl b3 F by rw [HM.out])
            go_wp2_with fail
            refine (rend08_any hbl R7.out O5.out (by omega) hL pl k2.pl (by omega) hk2 rfl a3 nn m3 b3 aW F.length cW F Z37.out ZW7.out (by rw [HB3.out]; exact HNF.out) (by omega)).mono ?_
            rintro r w9 hp9
            replace hp9 := hp9.trans G7.out
            obtain ⟨y, es, bg9, S9, rv9, vs9, who9, rfl, hl9, hz9, hR9, hG9⟩ := hp9
            have P9 := Lib.hid (And.intro hl9 (And.intro hz9 (And.intro hR9 hG9)))
            clear hl9 hz9 hR9 hG9
            go_wp2_with fail
            go_ret2
            rw [FIN.out]
            exact ⟨y, es, bg9, S9, rv9, vs9, who9, rfl, P9.out.1, P9.out.2.1, P9.out.2.2.1, P9.out.2.2.2⟩
  by_cases h3 : kd = 66
  case neg =>
    have k1' : (B kd != 66) = true := by rw [bne_iff_ne]; exact fun e => h3 (B_inj e)
    have k2' : (B kd != 70) = true := by rw [bne_iff_ne]; exact fun e => h2 (B_inj e)
    have FIN := Lib.hid (show Y = s1.fail k1 82 pl by rw [HM.out, if_neg (by simp), if_neg h2, if_pos h3])
    clear h2 h3
    go_wp2_with (go_at_call 61; refine (rfail_any (s := s1) hbl R2.out G2.out rfl 82 pl).mono ?_; rintro r w9 ⟨rfl, hp9⟩; have P9 := Lib.hid hp9; clear hp9)
    go_ret2
    rw [FIN.out]
    exact P9.out
  have k1' : (B kd != 66) = false := by rw [h3]; decide
  have k2' : (B kd != 70) = true := by rw [h3]; decide
  have k3' : (B kd == 66) = true := by rw [h3]; decide
  have k4' : (B kd == 70) = false := by rw [h3]; decide
  replace HM := Lib.hid (show Y = _ by rw [HM.out, if_neg (by simp), if_neg h2, if_neg (by simpa using h3)])
  clear h2 h3
  by_cases h4 : nR = 8388608
  case pos =>
    have t4 : ((nR : Int) == 8388608) = true := by rw [beq_iff_eq]; omega
    have t4' : (nR == 8388608) = true := by rw [beq_iff_eq]; omega
    have FIN := Lib.hid (show Y = s1.fail k1 71 pl by rw [HM.out, if_pos h4])
    clear h4
    go_wp2_with (go_at_call 61; refine (rfail_any (s := s1) hbl R2.out G2.out rfl 71 pl).mono ?_; rintro r w9 ⟨rfl, hp9⟩; have P9 := Lib.hid hp9; clear hp9)
    go_ret2
    rw [FIN.out]
    exact P9.out
  have t4 : ((nR : Int) == 8388608) = false := by rw [beq_eq_false_iff_ne]; omega
  have t4' : (nR == 8388608) = false := by rw [beq_eq_false_iff_ne]; omega
  replace HM := Lib.hid (show Y = _ by rw [HM.out, if_neg h4])
  have hnR4 : nR ≤ 8388608 := by have := MANY1.out; rw [HNR.out] at this; exact this
  clear h4
  go_wp2_with fail
  refine NM.out.mono ?_
  rintro r w3 ⟨S3, who3, rfl, hR3, hG3⟩
  have R3 := Lib.hid hR3
  have G3 := Lib.hid (G2.out.trans hG3)
  have c0 := hR3.c0
  have cp := hR3.cp
  have c5 := hR3.c5
  clear hR3 hG3 NM R2 G2
  by_cases h2 : e2 = 0
  case neg =>
    have t5 : (e2 != 0) = true := by rw [bne_iff_ne]; exact h2
    have FIN := Lib.hid (show Y = s1.fail k2 e2 k1.pl by rw [HM.out, if_pos h2])
    clear h2
    go_wp2_with (go_at_call 61; refine (rfail_any (s := s1) hbl R3.out G3.out rfl e2 k1.pl).mono ?_; rintro r w9 ⟨rfl, hp9⟩; have P9 := Lib.hid hp9; clear hp9)
    go_ret2
    rw [FIN.out]
    exact P9.out
  subst h2
  replace HM := Lib.hid (show Y = _ by rw [HM.out, if_neg (by simp)])
  by_cases h6 : nn < 1
  case pos =>
    have t6 : decide ((nn : Int) < 1) = true := decide_eq_true (by omega)
    have t6' : decide (nn < 1) = true := decide_eq_true h6
    have t6'' : decide (nn = 0) = true := decide_eq_true (by omega)
    have FIN := Lib.hid (show Y = s1.fail k2 83 k1.pl by rw [HM.out, if_pos (.inl h6)])
    clear h6
    go_wp2_with (go_at_call 61; refine (rfail_any (s := s1) hbl R3.out G3.out rfl 83 k1.pl).mono ?_; rintro r w9 ⟨rfl, hp9⟩; have P9 := Lib.hid hp9; clear hp9)
    go_ret2
    rw [FIN.out]
    exact P9.out
  have t6 : decide ((nn : Int) < 1) = false := decide_eq_false (by omega)
  have t6' : decide (nn < 1) = false := decide_eq_false h6
  have t6'' : decide (nn = 0) = false := decide_eq_false (by omega)
  by_cases h7 : 65535 < nn
  case pos =>
    have t7 : decide ((nn : Int) > 65535) = true := decide_eq_true (by omega)
    have t7' : decide (65535 < (nn : Int)) = true := decide_eq_true (by omega)
    have t7'' : decide (65535 < nn) = true := decide_eq_true h7
    have FIN := Lib.hid (show Y = s1.fail k2 83 k1.pl by rw [HM.out, if_pos (.inr h7)])
    clear h7 h6
    go_wp2_with (go_at_call 61; refine (rfail_any (s := s1) hbl R3.out G3.out rfl 83 k1.pl).mono ?_; rintro r w9 ⟨rfl, hp9⟩; have P9 := Lib.hid hp9; clear hp9)
    go_ret2
    rw [FIN.out]
    exact P9.out
  have t7 : decide ((nn : Int) > 65535) = false := decide_eq_false (by omega)
  have t7' : decide (65535 < (nn : Int)) = false := decide_eq_false (by omega)
  have t7'' : decide (65535 < nn) = false := decide_eq_false h7
  replace HM := Lib.hid (show Y = _ by rw [HM.out, if_neg (by omega)])
  have hnn : nn ≤ 873000000 := by omega
  have hnn2 : nn ≤ 65535 := by omega
  clear h6 h7
  as_aux_lemma =>
    have e8 : IntKind.i64.wrap (nn : Int) = nn := IntWalk.i64_in _ (by omega)
    have BT := refBytes_any hbl R3.out O3.out (by omega) hL nn (by omega)
    dsimp only at BT
    rw [HX3.out] at BT
    go_wp2_with fail
    refine BT.mono ?_
    rintro r w5 ⟨bv, S5, who5, rfl, ho5, hz5, hR5, hG5⟩
    have R5 := Lib.hid hR5
    have G5 := Lib.hid (G3.out.trans hG5)
    have c0 := hR5.c0
    have cp := hR5.cp
    obtain ⟨a3, n3, m3, rfl, z3⟩ := ho5.slN
    have Z3 := Lib.hid z3
    have A3 : Hid (Apt who5 w5 (.slice a3 n3 m3)) := Lib.hid fun j hj => ⟨(ho5.lt j hj).2, hz5 j hj⟩
    clear hR5 hG5 BT R3 G3 ho5 hz5 z3
    by_cases h9 : e3 = 0
    case neg =>
      have t9 : (e3 != 0) = true := by rw [bne_iff_ne]; exact h9
      have FIN := Lib.hid (show Y = s1.fail k3 e3 k2.pl by rw [HM.out, if_pos h9])
      clear h9
      go_wp2_with (go_at_call 61; refine (rfail_any (s := s1) hbl R5.out G5.out rfl e3 k2.pl).mono ?_; rintro r w9 ⟨rfl, hp9⟩; have P9 := Lib.hid hp9; clear hp9)
      go_ret2
      rw [FIN.out]
      exact P9.out
    subst h9
    replace HM := Lib.hid (show Y = _ by rw [HM.out, if_neg (by simp)])
    have hb3 : b3.length = nn := by have := (L3.out (by simp)).2; simpa using this
    obtain rfl : nn = n3 := by rw [← hb3]; exact Z3.out.len
    have HB3 := Lib.hid hb3
    clear hb3
    have BT := refBytes_any hbl R5.out O4.out (by omega) hL 4 (by omega)
    dsimp only at BT
    rw [show (((4 : Nat) : Int)) = 4 from rfl, HX4.out] at BT
    go_wp2_with fail
    refine BT.mono ?_
    rintro r w6 ⟨bv, S6, who6, rfl, ho6, hz6, hR6, hG6⟩
    have R6 := Lib.hid hR6
    have G6 := Lib.hid (G5.out.trans hG6)
    have c0 := hR6.c0
    have cp := hR6.cp
    obtain ⟨a4, n4, m4, rfl, z4⟩ := ho6.slN
    have Z4 := Lib.hid z4
    have Z36 := Lib.hid (Z3.out.grW A3.out hG6)
    have A36 := Lib.hid (A3.out.grW hG6)
    clear hR6 hG6 BT R5 G5 ho6 hz6 z4 Z3 A3
    by_cases h10 : e4 = 0
    case neg =>
      have t10 : (e4 != 0) = true := by rw [bne_iff_ne]; exact h10
      have FIN := Lib.hid (show Y = s1.fail k4 e4 k3.pl by rw [HM.out, if_pos h10])
      clear h10
      go_wp2_with (go_at_call 61; refine (rfail_any (s := s1) hbl R6.out G6.out rfl e4 k3.pl).mono ?_; rintro r w9 ⟨rfl, hp9⟩; have P9 := Lib.hid hp9; clear hp9)
      go_ret2
      rw [FIN.out]
      exact P9.out
    subst h10
    replace HM := Lib.hid (show Y = _ by rw [HM.out, if_neg (by simp)])
    have hb4 : b4.length = 4 := by have := (L4.out (by simp)).2; simpa using this
    obtain rfl : 4 = n4 := by rw [← hb4]; exact Z4.out.len
    have HB4 := Lib.hid hb4
    clear hb4
    as_aux_lemma =>
      go_upto_region 41 with (fail)
      obtain ⟨d, hd⟩ : ∃ d, ((strB (b3 ++ four (sum b3))).toList == (strB (b3 ++ b4)).toList) = d := ⟨_, rfl⟩
      have hD := hd
      rw [strB_list, strB_list] at hD
      have HD := Lib.hid hD
      clear hD
      go_cut [237] (fun b wx => b = .bool (!d) ∧ Below w6.heap.size w6 wx)
      case first =>
        refine seal41 w6 Z36 Z4 HB3 HB4 hnn hd ?_
        intro x228 x229 x230 x231 x232 x233 x234 x235 x236 wx hbx
        have HBX := Lib.hid hbx
        clear hbx
        go_wp2_with fail
        go_meet
        exact ⟨rfl, HBX.out⟩
      obtain ⟨rfl, hcw⟩ := hcut
      obtain ⟨w7, hw7⟩ : ∃ w7, w7 = wc := ⟨_, rfl⟩
      subst hw7
      have R7 := Lib.hid (R6.out.keep hbl hcw)
      have G7 := Lib.hid (G6.out.trans (GrW.below hcw))
      have Z37 := Lib.hid (Z36.out.keep hcw)
      have A37 : Hid (Apt who6 w7 (.slice a3 nn m3)) := Lib.hid fun j hj => ⟨Nat.lt_of_lt_of_le (A36.out j hj).1 hcw.size, (A36.out j hj).2⟩
      have c0 := R7.out.c0
      have cp := R7.out.cp
      have c5 := R7.out.c5
      have ES := Lib.hid (openE_seal (b := b3) HB4.out)
      clear hd hcw R6 G6 Z36 A36 Z4
      cases d with
      | false =>
        have e22 : E = 22 := by rw [← HE.out, ES.out, HD.out]; simp
        have FIN := Lib.hid (show Y = s1.fail k4 22 k3.pl by rw [HM.out, if_pos (by rw [e22]; decide), e22])
        clear e22
        go_wp2_with (go_at_call 61; refine (rfail_any (s := s1) hbl R7.out G7.out rfl 22 k3.pl).mono ?_; rintro r w9 ⟨rfl, hp9⟩; have P9 := Lib.hid hp9; clear hp9)
        go_ret2
        rw [FIN.out]
        exact P9.out
      | true =>
        as_aux_lemma =>
          have e22 : E = 0 := by rw [← HE.out, ES.out, HD.out]; simp
          replace HM := Lib.hid (show Y = _ by rw [HM.out, if_neg (by rw [e22]; simp)])
          clear e22
          have BR := rbread_any a3 nn m3 b3 w7 (by omega) Z37.out
          unfold RRdPost at BR
          rw [HX5.out] at BR
          have LO7 := Lib.hid (fun j (hj : who6 j ≠ 0) => (R7.out.low j hj).2)
          have SZ7 := Lib.hid G7.out.t.size
          have hlow : lo ≤ w.heap.size := LOW0.out
          go_wp2_with fail
          refine BR.mono ?_
          rintro r w8 ⟨hb8, yl, vl, rfl, hl8⟩
          have R8 := Lib.hid (R7.out.keep hbl hb8)
          have G8 := Lib.hid (G7.out.trans (GrW.below hb8))
          have c0 := R8.out.c0
          have cp := R8.out.cp
          have c5 := R8.out.c5
          have LL := Lib.hid (hl8.low SZ7.out)
          have LN := Lib.hid (fun j (hj : RLB yl vl j) => (hl8.inB j hj))
          have LZ : Hid (∀ j, RLB yl vl j → who6 j = 0) := Lib.hid fun j hj => by
            have h1 := (hl8.inB j hj).1
            by_cases e : who6 j = 0
            · exact e
            · have := LO7.out j e; omega
          clear hb8 R7 G7 Z37 BR LO7
          by_cases h10 : e5 = 0
          case neg =>
            have t10 : (e5 != 0) = true := by rw [bne_iff_ne]; exact h10
            have hq : q ≤ 65535 := by
              have := bread_place b3
              rw [HX5.out, HB3.out] at this
              dsimp only at this
              omega
            have r1 : IntKind.i64.wrap ((k2.pl : Int) + (q : Int)) = ((k2.pl + q : Nat) : Int) := by rw [IntWalk.i64_in _ (by have := HP1.out; have := HP2.out (ER1.out (by simp)); omega)]; omega
            have FIN := Lib.hid (show Y = s1.fail k4 e5 (k2.pl + q) by rw [HM.out, if_pos h10])
            clear h10 hl8
            go_wp2_with (go_at_call 61; refine (rfail_any (s := s1) hbl R8.out G8.out rfl e5 (k2.pl + q)).mono ?_; rintro r w9 ⟨rfl, hp9⟩; have P9 := Lib.hid hp9; clear hp9)
            go_ret2
            rw [FIN.out]
            exact P9.out
          subst h10
          have t10 : ((0 : Int) != 0) = false := by decide
          as_aux_lemma =>
            obtain ⟨hl1, hl64, hlk⟩ := bread_good (by rw [HB3.out]; omega) HX5.out
            replace HM := Lib.hid (show Y = _ by rw [HM.out, if_neg (by simp)])
            clear hl8
            obtain ⟨aL, cL, hyl, hEN⟩ := LL.out.ents
            obtain ⟨nl, hnl⟩ : ∃ nl, l.length = nl := ⟨_, rfl⟩
            rw [hnl] at hyl hEN
            subst hyl
            obtain ⟨jl, hjl⟩ : ∃ j, l.length = j + 1 := ⟨l.length - 1, by omega⟩
            obtain ⟨⟨fk, fv⟩, hf0⟩ : ∃ e, l[0]? = some e := ⟨_, List.getElem?_eq_getElem (by omega)⟩
            obtain ⟨⟨xk, xv⟩, hfx⟩ : ∃ e, l[jl]? = some e := ⟨_, List.getElem?_eq_getElem (by omega)⟩
            obtain ⟨bL, oL, ak, nk, ck, av, nv, cv, ha, d0, -, sk, -⟩ := hEN.2.2.2 0 fk fv hf0
            subst ha
            obtain ⟨bL2, oL2, ax, nx, cx, av2, nv2, cv2, ha2, dx, -, sx, -⟩ := hEN.2.2.2 jl xk xv hfx
            obtain ⟨rfl, rfl⟩ : bL = bL2 ∧ oL = oL2 := by simpa using ha2
            have d0' : w8.cell? ⟨bL, oL, none⟩ = some (.slice ak nk ck) := by simpa using d0
            have hkx := hlk _ (List.mem_of_getElem? hfx)
            have LK := Lib.hid (show lastK l = xk from lastK_at' hjl hfx)
            have FK := Lib.hid (show frst l = fk by cases l with | nil => simp at hf0 | cons a t => simp at hf0; subst hf0; rfl)
            have SK := Lib.hid sk
            have SX := Lib.hid sx
            have HNL := Lib.hid hnl
            have HJL := Lib.hid (show nl = jl + 1 by omega)
            have FKL := Lib.hid (show fk.length ≤ 64 from (hlk _ (List.mem_of_getElem? hf0)).2)
            have KBX := Lib.hid (fun j hj => RdL.keyB LL.out (i := jl) (by omega) dx j hj)
            have KX := Lib.hid (show xk.length ≤ 64 from hkx.2)
            rw [hnl] at HM
            obtain ⟨b24, hb24⟩ : ∃ b, decide (0 < nR ∧ 0 ≤ cmp (lastR s1.rows) fk) = b := ⟨_, rfl⟩
            have HB24 := Lib.hid hb24
            have hnl64 : nl ≤ 64 := by omega
            have hnl1 : 1 ≤ nl := by omega
            have hnl0 : 0 < nl := by omega
            obtain ⟨aR', nR', cR', hrv', hsp4⟩ := R8.out.spv
            obtain ⟨rfl, rfl, rfl⟩ : aR = aR' ∧ nR = nR' ∧ cR = cR' := by simpa using hrv'
            have SP4 := Lib.hid hsp4.spans
            rw [FK.out] at HM
            clear hEN hjl hf0 hfx d0 ha2 hkx hlk sk sx hnl hb24 hl1 hl64 hsp4 hrv'
            go_upto_region 48 with (fail)
            go_cut [295] (fun b wx => b = .bool b24 ∧ Drw w8 wx)
            case first =>
              as_aux_lemma =>
                by_cases hz : nR = 0
                · have hb : b24 = false := by rw [← HB24.out, hz]; simp
                  subst hb
                  have t11 : decide ((nR : Int) > 0) = false := decide_eq_false (by omega)
                  have t11' : decide (0 < (nR : Int)) = false := decide_eq_false (by omega)
                  have t11'' : decide (0 < nR) = false := decide_eq_false (by omega)
                  clear hz
                  go_wp2_with fail
                  go_quiet (fail)
                  go_wp2_with fail
                  go_meet
                  exact ⟨rfl, by first | exact (Drw.refl _).more _ | exact Drw.refl _⟩
                · obtain ⟨jR, hjR⟩ : ∃ j, nR = j + 1 := ⟨nR - 1, by omega⟩
                  obtain ⟨⟨rk, x, y, z⟩, hr⟩ : ∃ r, s1.rows[jR]? = some r := ⟨_, List.getElem?_eq_getElem (by rw [HNR.out]; omega)⟩
                  obtain ⟨bR, oR, ar, nr, cr, har, r0, -, -, -, sr⟩ := SP4.out.2.2.2 jR rk x y z hr
                  have hlr : lastR s1.rows = rk := lastR_at (by rw [HNR.out]; exact hjR) hr
                  have hb : b24 = decide (cmp rk fk ≥ 0) := by rw [← HB24.out, hlr]; simp [show 0 < nR by omega]
                  subst hb
                  subst har
                  have t11 : decide ((nR : Int) > 0) = true := decide_eq_true (by omega)
                  have t11' : decide (0 < (nR : Int)) = true := decide_eq_true (by omega)
                  have t11'' : decide (0 < nR) = true := decide_eq_true (by omega)
                  have e11 : IntKind.i64.wrap ((nR : Int) - 1) = (jR : Int) := by rw [show (nR : Int) - 1 = jR by omega]; exact IntWalk.i64_in _ (by omega)
                  have l11 : jR < nR := by omega
                  obtain ⟨q3, hq3⟩ : ∃ q3, cmp rk fk = q3 := ⟨_, rfl⟩
                  have SR := Lib.hid sr
                  have hnr : nr ≤ 140737488351232 := by rw [← sr.len]; exact (FIT1.out _ (List.mem_of_getElem? hr)).1
                  have hnk : nk ≤ 140737488351232 := by rw [← SK.out.len]; have := FKL.out; omega
                  have CM := Lib.hid (fun j : Nat => hq3 ▸ rcompare_q ar nr cr rk ak nk ck fk (w8.drewN j) hnr hnk (SR.out.drewN j) (SK.out.drewN j))
                  have h3 : -1 ≤ q3 ∧ q3 ≤ 1 := by have := cmp_cases rk fk; omega
                  have HQ3 := Lib.hid hq3
                  clear hz hjR hr hlr hq3 sr
                  go_wp2_with fail
                  go_quiet ((go_at_call 54; exact Calls.quiet_of_drw ((CM.out _).mono (by rintro e w' ⟨rfl, hd⟩; exact ⟨rfl, hd⟩))))
                  go_wp2_with fail
                  go_meet
                  exact ⟨by rw [HQ3.out], by first | exact (Drw.refl _).more _ | exact ((Drw.refl _).more _).more _ | exact Drw.refl _⟩
            obtain ⟨rfl, hcw⟩ := hcut
            obtain ⟨w9, hw9⟩ : ∃ w9, w9 = wc := ⟨_, rfl⟩
            subst hw9
            have R9 := Lib.hid (R8.out.keep hbl hcw.below)
            have G9 := Lib.hid (G8.out.trans (GrW.below hcw.below))
            have LL9 := Lib.hid (LL.out.keep hcw.below)
            have SX9 := Lib.hid (SX.out.keep hcw.below)
            have dx9 : w9.cell? ⟨bL, oL + jl * 2, none⟩ = some (.slice ax nx cx) := (World.cell?_of_block (hcw.below.block _ (cell_lt dx))).trans dx
            have hbL : bL < w9.heap.size := Nat.lt_of_lt_of_le (cell_lt dx) hcw.below.size
            have c0 := R9.out.c0
            have cp := R9.out.cp
            have c5 := R9.out.c5
            clear hcw R8 G8 LL SX dx d0' SK SP4
            cases b24 with
            | true =>
              have FIN := Lib.hid (show Y = s1.fail k4 51 k2.pl by rw [HM.out, if_pos (of_decide_eq_true HB24.out)])
              go_wp2_with (go_at_call 61; refine (rfail_any (s := s1) hbl R9.out G9.out rfl 51 k2.pl).mono ?_; rintro r w9 ⟨rfl, hp9⟩; have P9 := Lib.hid hp9; clear hp9)
              go_ret2
              rw [FIN.out]
              exact P9.out
            | false =>
              as_aux_lemma =>
                obtain ⟨D, hD⟩ : ∃ D, (k4.pl : Int) - (pl : Int) = D := ⟨_, rfl⟩
                have FIN := Lib.hid (show Y = ((l, true), ⟨k4, s1.ph, s1.rows ++ [(xk, (pl : Int), D, (nl : Int))], s1.er, s1.pt⟩) by rw [HM.out, if_neg (of_decide_eq_false HB24.out), PH1.out, LK.out, hD])
                have e12 : IntKind.i64.wrap ((k4.pl : Int) - (pl : Int)) = D := by rw [← hD]; exact IntWalk.i64_in _ (by have := HP1.out; have := HP2.out (ER1.out (by simp)); have := HP3.out; have := HP4.out; have e4 : (4 : Int).toNat = 4 := rfl; omega)
                have e13 : IntKind.i64.wrap ((nl : Int) - 1) = (jl : Int) := by rw [show (nl : Int) - 1 = jl by have := HJL.out; omega]; exact IntWalk.i64_in _ (by have := HJL.out; omega)
                have l13 : jl < nl := by have := HJL.out; omega
                have hgw9 : g < w9.heap.size := R9.out.lt
                have hgi9 : gi < w9.heap.size := cell_lt cp
                have NB := Lib.hid (show ∀ (W : World), Below w9.heap.size w9 W → W.cell? ⟨g, 0, none⟩ = some (.pointer (some ⟨gi, 0, none⟩)) ∧ W.cell? ⟨g, 5, none⟩ = some (.slice aR nR cR) ∧ W.cell? ⟨bL, oL + jl * 2, none⟩ = some (.slice ax nx cx) ∧ W.cell? ⟨gi, 2, none⟩ = some (.int .i64 (k4.pl : Nat)) from
                  fun W hb => ⟨(World.cell?_of_block (hb.block _ hgw9)).trans c0, (World.cell?_of_block (hb.block _ hgw9)).trans c5, (World.cell?_of_block (hb.block _ hbL)).trans dx9, (World.cell?_of_block (hb.block _ hgi9)).trans cp⟩)
                have HB9 : Hid (Below w9.heap.size w9 w9.drew) := Lib.hid ((Below.refl _ _).drew)
                have VL : Hid (vs.length = nR) := Lib.hid (by rw [R9.out.rl]; exact HNR.out)
                have LOW9 : Hid (lo ≤ w.heap.size) := Lib.hid hlow
                clear hD c0 cp c5 dx9 HB24 HM
                go_upto_region 50 with (fail)
                refine row50 w9 (Lib.hid R9.out.rw) R9.out.lw (Lib.hid R9.out.blk) rfl (fun e => by have := R9.out.rb g e; rw [R9.out.gw] at this; cases this) NB VL hnR4 e12 e13 l13 hnl64 hnl1 hnl0 ?_
                intro x301 x302 x303 x304 x305 x306 x307 x308 x309 x310 x311 x312 x313 x314 x315 x316 x317 x318 x319 x320 x321 x322 x323 x324 x325 x326 x327 x328 x329 a7 n7 c7 w7 h7 hv7 ht7
                have O7 := Lib.hid h7
                have V7 := Lib.hid hv7
                have TU7 := Lib.hid ht7
                clear h7 hv7 ht7
                go_wp2_with fail
                go_ret2
                rw [FIN.out]
                exact rblk_fin hbl R9.out LOW9.out G9.out LL9.out LZ.out SX9.out KBX.out O7.out HB9.out (o := .cells #[] 0) (by simpa using V7.out) TU7.out
end
end Go.Proofs.YtljcogimeimknaaGreat
