/- A reader of streams: a frame: contract. Conditions: the reader's budget, its rows and the places within reach. -/
import Derived.Test.YtljcogimeimknaaK8t
import Derived.Test.YtljcogimeimknaaK8b
import Derived.Test.YtljcogimeimknaaK8v
import Derived.Deep.RegionLaw
import Derived.Deep.CutBlock
namespace Go.Proofs.Ytljcogimeimknaa
open Go.RowKit Go.Shelf
set_option linter.unusedVariables false
set_option linter.unusedSimpArgs false

section
variable {w : World} {lo gs g gi : Nat} {S : Nat → Prop} {lv rv : Value} {vs : List RV} {s : RS} {who : Nat → Nat} {L Bd : Nat}
set_option maxRecDepth 100000 in
set_option maxHeartbeats 8000000 in
theorem rdframe_any (h : Rdp w lo gs g gi S lv rv vs s who) (hO : OkayC srcM (SrcR L) mxI Bd s.c) (hBd : Bd + 6000 ≤ 4611686018427387904) (hL : L ≤ 140737488351232) (hmany : s.rows.length ≤ 8388608) (hfit : FitR 140737488351232 s.rows) (hpl : s.c.pl ≤ 100000000000000) (he0 : s.c.er = 0) (hph : s.ph = 1) :
    Calls Try.prog 83 #[.pointer (some ⟨g, 0, none⟩)] w (RXPost lo gs g gi lv who w (frM mxI s)) := by
  obtain ⟨⟨kd, e1, k1⟩, hX1⟩ : ∃ X, byteM srcM mxI s.c = X := ⟨_, rfl⟩
  obtain ⟨⟨nn, e2, k2⟩, hX2⟩ : ∃ X, numM srcM mxI k1 = X := ⟨_, rfl⟩
  obtain ⟨⟨b3, e3, p3, k3⟩, hX3⟩ : ∃ X, bodyM mxI k2 nn = X := ⟨_, rfl⟩
  obtain ⟨⟨l, q, e4⟩, hX4⟩ : ∃ X, bread b3 = X := ⟨_, rfl⟩
  obtain ⟨Y, hY⟩ : ∃ Y, frM mxI s = Y := ⟨_, rfl⟩
  have hM : Y = if e1 ≠ 0 then s.fail k1 e1 s.c.pl else if kd = 70 then ftM mxI { s with c := k1 } s.c.pl else if kd ≠ 66 then s.fail k1 82 s.c.pl else if s.rows.length = 8388608 then s.fail k1 71 s.c.pl else
      if e2 ≠ 0 then s.fail k2 e2 k1.pl else if nn < 1 ∨ 65535 < nn then s.fail k2 83 k1.pl else if e3 ≠ 0 then s.fail k3 e3 p3 else if e4 ≠ 0 then s.fail k3 e4 (k2.pl + q) else
      if 0 < s.rows.length ∧ 0 ≤ cmp (lastR s.rows) (frst l) then s.fail k3 51 k2.pl else ((l, true), ⟨k3, 1, s.rows ++ [(lastK l, (s.c.pl : Int), (k3.pl : Int) - (s.c.pl : Int), (l.length : Int))], s.er, s.pt⟩) := by
    rw [← hY]; unfold frM frK; rw [hX1]; dsimp only; rw [hX2]; unfold frN; dsimp only; rw [hX3]; unfold frD; dsimp only; rw [hX4]; unfold frL ftM; dsimp only; rw [hX2]; rfl
  rw [hY]
  clear hY
  have hO1 := hO.byte src_muR (src_leR L)
  rw [hX1] at hO1
  have hp1 := byteM_pl (M := mxI) (c := s.c)
  have hr1 := byteM_er (M := mxI) (c := s.c)
  rw [hX1] at hp1 hr1
  have hO2 := hO1.num src_muR (src_leR L)
  rw [hX2] at hO2
  have hp2 : k1.er = 0 → k2.pl ≤ k1.pl + 11 := fun e => by have := numM_pl (M := mxI) e; rw [hX2] at this; exact this
  have hO3 := hO2.body (n := nn)
  rw [hX3] at hO3
  have hp3 := bodyM_pl (M := mxI) (c := k2) (n := nn)
  rw [hX3] at hp3
  have hB3 := bodyM_len (n := nn) hO2
  rw [hX3] at hB3
  dsimp only at hO1 hO2 hO3 hp1 hr1 hB3 hp3
  obtain ⟨aR, nR, cR, hrv, hsp⟩ := h.spv
  subst hrv
  have hnR : s.rows.length = nR := hsp.spans.1
  rw [hnR] at hM hmany
  have c0 := h.c0
  have AT := Lib.hid (inAt_any h)
  have BYT := inByte_any h hO (by omega)
  rw [hX1] at BYT
  replace BYT := Lib.hid BYT
  have HM := Lib.hid hM
  have O1 := Lib.hid hO1
  have O2 := Lib.hid hO2
  have O3 := Lib.hid hO3
  have B3 := Lib.hid hB3
  have ER1 := Lib.hid hr1
  have HP2 := Lib.hid hp2
  have HP3 := Lib.hid hp3
  have HX2 := Lib.hid hX2
  have HX3 := Lib.hid hX3
  have HX4 := Lib.hid hX4
  have HNR := Lib.hid hnR
  have FIT := Lib.hid hfit
  have PH := Lib.hid hph
  have LOW := Lib.hid (fun j (hj : who j ≠ 0) => (h.low j hj).2)
  obtain ⟨pl, hpl2⟩ : ∃ p, s.c.pl = p := ⟨_, rfl⟩
  rw [hpl2] at HM AT hp1 hpl
  have HP1 : Hid (k1.pl ≤ 100000000000001) := Lib.hid (by omega)
  clear hsp hM hO hO1 hO2 hO3 hB3 hr1 hX1 hX2 hX3 hX4 hnR hfit hph hpl2 hp1 hp2 hp3 he0 h
  go_enter Try.func83, Try.ntmps83
  go_wp2_with (go_at_call 101; refine AT.out.mono ?_; rintro r w1 ⟨rfl, rfl⟩)
  refine BYT.out.mono ?_
  rintro r w1 ⟨S1, who1, rfl, hR1, hG1⟩
  have R1 := Lib.hid hR1
  have G1 := Lib.hid hG1
  have c0 := hR1.c0
  have c3 := hR1.c3
  clear hR1 hG1 BYT AT
  by_cases h1 : e1 = 0
  case neg =>
    have t1 : (e1 != 0) = true := by rw [bne_iff_ne]; exact h1
    have FIN := Lib.hid (show Y = s.fail k1 e1 pl by rw [HM.out, if_pos h1])
    clear h1
    go_wp2_with (go_at_call 82; refine (fail_post (s := s) R1.out G1.out rfl e1 pl).mono ?_; rintro r w9 ⟨rfl, hp9⟩; have P9 := Lib.hid hp9; clear hp9)
    go_ret2
    rw [FIN.out]
    exact P9.out
  subst h1
  have t1 : ((0 : Int) != 0) = false := by decide
  by_cases h2 : kd = 70
  case pos =>
    have t2 : (B kd == 70) = true := by rw [h2]; decide
    have FIN := Lib.hid (show Y = ftM mxI { s with c := k1 } pl by rw [HM.out, if_neg (by simp), if_pos h2])
    clear h2
    go_wp2_with fail
    refine (rfoot_any R1.out O1.out (by omega) hL (by rw [HNR.out]; exact hmany) FIT.out pl (by omega) (by have := HP1.out; dsimp only; omega) (ER1.out (by simp))).mono ?_
    rintro r w9 hp9
    replace hp9 := hp9.trans G1.out
    obtain ⟨y, es, S9, rv9, vs9, who9, rfl, hl9, hz9, hR9, hG9⟩ := hp9
    have P9 := Lib.hid (And.intro hl9 (And.intro hz9 (And.intro hR9 hG9)))
    clear hl9 hz9 hR9 hG9
    go_wp2_with fail
    go_ret2
    rw [FIN.out]
    exact ⟨y, es, S9, rv9, vs9, who9, rfl, P9.out.1, P9.out.2.1, P9.out.2.2.1, P9.out.2.2.2⟩
  have t2 : (B kd == 70) = false := by rw [beq_eq_false_iff_ne]; exact fun e => h2 (B_inj e)
  by_cases h3 : kd = 66
  case neg =>
    have t3 : (B kd != 66) = true := by rw [bne_iff_ne]; exact fun e => h3 (B_inj e)
    have FIN := Lib.hid (show Y = s.fail k1 82 pl by rw [HM.out, if_neg (by simp), if_neg h2, if_pos h3])
    clear h3 h2
    go_wp2_with (go_at_call 82; refine (fail_post (s := s) R1.out G1.out rfl 82 pl).mono ?_; rintro r w9 ⟨rfl, hp9⟩; have P9 := Lib.hid hp9; clear hp9)
    go_ret2
    rw [FIN.out]
    exact P9.out
  have t3 : (B kd != 66) = false := by rw [h3]; decide
  replace HM := Lib.hid (show Y = _ by rw [HM.out, if_neg (by simp), if_neg h2, if_neg (by simpa using h3)])
  clear h2 h3
  by_cases h4 : nR = 8388608
  case pos =>
    have t4 : ((nR : Int) == 8388608) = true := by rw [beq_iff_eq]; omega
    have t4' : (nR == 8388608) = true := by rw [beq_iff_eq]; omega
    have FIN := Lib.hid (show Y = s.fail k1 71 pl by rw [HM.out, if_pos h4])
    clear h4
    go_wp2_with (go_at_call 82; refine (fail_post (s := s) R1.out G1.out rfl 71 pl).mono ?_; rintro r w9 ⟨rfl, hp9⟩; have P9 := Lib.hid hp9; clear hp9)
    go_ret2
    rw [FIN.out]
    exact P9.out
  have t4 : ((nR : Int) == 8388608) = false := by rw [beq_eq_false_iff_ne]; omega
  have t4' : (nR == 8388608) = false := by rw [beq_eq_false_iff_ne]; omega
  replace HM := Lib.hid (show Y = _ by rw [HM.out, if_neg h4])
  have hnR4 : nR < 8388608 := by omega
  clear h4 hmany
  have AT2 := Lib.hid (inAt_any R1.out)
  dsimp only at AT2
  go_wp2_with (go_at_call 101; refine AT2.out.mono ?_; rintro r w2 ⟨rfl, rfl⟩)
  have NM := inNum_any R1.out O1.out (by omega)
  dsimp only at NM
  rw [HX2.out] at NM
  refine NM.mono ?_
  rintro r w2 ⟨S2, who2, rfl, hR2, hG2⟩
  have R2 := Lib.hid hR2
  have G2 := Lib.hid (G1.out.trans hG2)
  have c0 := hR2.c0
  clear hR2 hG2 NM R1 G1 AT2 c3
  by_cases h5 : e2 = 0
  case neg =>
    have t5 : (e2 != 0) = true := by rw [bne_iff_ne]; exact h5
    have FIN := Lib.hid (show Y = s.fail k2 e2 k1.pl by rw [HM.out, if_pos h5])
    clear h5
    go_wp2_with (go_at_call 82; refine (fail_post (s := s) R2.out G2.out rfl e2 k1.pl).mono ?_; rintro r w9 ⟨rfl, hp9⟩; have P9 := Lib.hid hp9; clear hp9)
    go_ret2
    rw [FIN.out]
    exact P9.out
  subst h5
  have t5 : ((0 : Int) != 0) = false := by decide
  by_cases h6 : nn < 1
  case pos =>
    have t6 : decide ((nn : Int) < 1) = true := decide_eq_true (by omega)
    have t6' : decide (nn < 1) = true := decide_eq_true h6
    have t6'' : decide (nn = 0) = true := decide_eq_true (by omega)
    have FIN := Lib.hid (show Y = s.fail k2 83 k1.pl by rw [HM.out, if_neg (by simp), if_pos (.inl h6)])
    clear h6
    go_wp2_with (go_at_call 82; refine (fail_post (s := s) R2.out G2.out rfl 83 k1.pl).mono ?_; rintro r w9 ⟨rfl, hp9⟩; have P9 := Lib.hid hp9; clear hp9)
    go_ret2
    rw [FIN.out]
    exact P9.out
  have t6 : decide ((nn : Int) < 1) = false := decide_eq_false (by omega)
  have t6' : decide (nn < 1) = false := decide_eq_false h6
  have t6'' : decide (nn = 0) = false := decide_eq_false (by omega)
  by_cases h7 : 65535 < nn
  case pos =>
    have t7 : decide ((nn : Int) > 65535) = true := decide_eq_true (by omega)
    have t7' : decide (65535 < (nn : Int)) = true := decide_eq_true (by omega)
    have t7'' : decide (65535 < nn) = true := decide_eq_true h7
    have FIN := Lib.hid (show Y = s.fail k2 83 k1.pl by rw [HM.out, if_neg (by simp), if_pos (.inr h7)])
    clear h7 h6
    go_wp2_with (go_at_call 82; refine (fail_post (s := s) R2.out G2.out rfl 83 k1.pl).mono ?_; rintro r w9 ⟨rfl, hp9⟩; have P9 := Lib.hid hp9; clear hp9)
    go_ret2
    rw [FIN.out]
    exact P9.out
  have t7 : decide ((nn : Int) > 65535) = false := decide_eq_false (by omega)
  have t7' : decide (65535 < (nn : Int)) = false := decide_eq_false (by omega)
  have t7'' : decide (65535 < nn) = false := decide_eq_false h7
  replace HM := Lib.hid (show Y = _ by rw [HM.out, if_neg (by simp), if_neg (by omega)])
  have hnn : nn ≤ 65535 := by omega
  clear h6 h7
  have AT3 := Lib.hid (inAt_any R2.out)
  dsimp only at AT3
  have e8 : IntKind.i64.wrap (nn : Int) = nn := IntWalk.i64_in _ (by omega)
  go_wp2_with (go_at_call 101; refine AT3.out.mono ?_; rintro r w3 ⟨rfl, rfl⟩)
  have BD := rbody_any R2.out O2.out (by omega) hL nn (by omega)
  dsimp only at BD
  rw [HX3.out] at BD
  refine BD.mono ?_
  rintro r w3 ⟨bv, S3, who3, rfl, ho3, hz3, hR3, hG3⟩
  have R3 := Lib.hid hR3
  have G3 := Lib.hid (G2.out.trans hG3)
  have c0 := hR3.c0
  have c3 := hR3.c3
  obtain ⟨a3, n3, m3, rfl, z3⟩ := ho3.slN
  have Z3 := Lib.hid z3
  have LO3 := Lib.hid (fun j (hj : who3 j ≠ 0) => (hR3.low j hj).2)
  clear hR3 hG3 BD R2 G2 AT3 ho3 hz3 z3
  by_cases h9 : e3 = 0
  case neg =>
    have t9 : (e3 != 0) = true := by rw [bne_iff_ne]; exact h9
    have FIN := Lib.hid (show Y = s.fail k3 e3 p3 by rw [HM.out, if_pos h9])
    clear h9
    go_wp2_with (go_at_call 82; refine (fail_post (s := s) R3.out G3.out rfl e3 p3).mono ?_; rintro r w9 ⟨rfl, hp9⟩; have P9 := Lib.hid hp9; clear hp9)
    go_ret2
    rw [FIN.out]
    exact P9.out
  subst h9
  have t9 : ((0 : Int) != 0) = false := by decide
  have hb3 : b3.length = nn := B3.out (by simp)
  obtain rfl : nn = n3 := by rw [← hb3]; exact Z3.out.len
  have HB3 := Lib.hid hb3
  clear hb3
  have BR := bread_any a3 nn m3 b3 w3 (by omega) Z3.out
  unfold BrdPost at BR
  rw [HX4.out] at BR
  go_wp2_with fail
  refine BR.mono ?_
  rintro r w4 ⟨hb4, yl, vl, rfl, hl4⟩
  have R4 := Lib.hid (R3.out.keep hb4)
  have G4 := Lib.hid (G3.out.trans (Gr.below hb4))
  have c0 := R4.out.c0
  have c3 := R4.out.c3
  have LL := Lib.hid (hl4.low (G4.out.t.size |> fun _ => (G3.out.t.size)))
  have LZ : Hid (∀ j, RLB yl vl j → who3 j = 0) := Lib.hid fun j hj => by
    have h1 := (hl4.inB j hj).1
    by_cases e : who3 j = 0
    · exact e
    · have := LO3.out j e; omega
  clear hb4 R3 G3 Z3 BR
  by_cases h10 : e4 = 0
  case neg =>
    have t10 : (e4 != 0) = true := by rw [bne_iff_ne]; exact h10
    have hq : q ≤ 65535 := by
      have := bread_place b3
      rw [HX4.out, HB3.out] at this
      dsimp only at this
      omega
    have r1 : IntKind.i64.wrap ((k2.pl : Int) + (q : Int)) = ((k2.pl + q : Nat) : Int) := by rw [IntWalk.i64_in _ (by have := HP1.out; have := HP2.out (ER1.out (by simp)); omega)]; omega
    have FIN := Lib.hid (show Y = s.fail k3 e4 (k2.pl + q) by rw [HM.out, if_neg (by simp), if_pos h10])
    clear h10 hl4
    go_wp2_with (go_at_call 82; refine (fail_post (s := s) R4.out G4.out rfl e4 (k2.pl + q)).mono ?_; rintro r w9 ⟨rfl, hp9⟩; have P9 := Lib.hid hp9; clear hp9)
    go_ret2
    rw [FIN.out]
    exact P9.out
  subst h10
  have t10 : ((0 : Int) != 0) = false := by decide
  obtain ⟨hl1, hl64, hlk⟩ := bread_good (by rw [HB3.out]; omega) HX4.out
  replace HM := Lib.hid (show Y = _ by rw [HM.out, if_neg (by simp), if_neg (by simp)])
  clear hl4
  obtain ⟨aL, cL, hyl, hEN⟩ := LL.out.ents
  obtain ⟨nl, hnl⟩ : ∃ nl, l.length = nl := ⟨_, rfl⟩
  rw [hnl] at hyl hEN
  subst hyl
  obtain ⟨jl, hjl⟩ : ∃ j, l.length = j + 1 := ⟨l.length - 1, by omega⟩
  obtain ⟨⟨fk, fv⟩, hf0⟩ : ∃ e, l[0]? = some e := ⟨_, List.getElem?_eq_getElem (by omega)⟩
  obtain ⟨⟨xk, xv⟩, hfx⟩ : ∃ e, l[jl]? = some e := ⟨_, List.getElem?_eq_getElem (by omega)⟩
  obtain ⟨bL, oL, ak, nk, ck, av, nv, cv, ha, d0, -, sk, -⟩ := hEN.2.2.2 0 fk fv hf0
  subst ha
  obtain ⟨bL2, oL2, ax, nx, cx, av2, nv2, cv2, ha2, dx, -, sx, -⟩ := hEN.2.2.2 jl xk xv hfx
  obtain ⟨rfl, rfl⟩ : bL = bL2 ∧ oL = oL2 := by simpa using ha2
  have d0' : w4.cell? ⟨bL, oL, none⟩ = some (.slice ak nk ck) := by simpa using d0
  have hkx := hlk _ (List.mem_of_getElem? hfx)
  have LK := Lib.hid (show lastK l = xk from lastK_at' hjl hfx)
  have FK := Lib.hid (show frst l = fk by cases l with | nil => simp at hf0 | cons a t => simp at hf0; subst hf0; rfl)
  have SK := Lib.hid sk
  have SX := Lib.hid sx
  have HNL := Lib.hid hnl
  have HJL := Lib.hid (show nl = jl + 1 by omega)
  have KX := Lib.hid (show xk.length ≤ 64 from hkx.2)
  rw [hnl] at HM
  obtain ⟨b24, hb24⟩ : ∃ b, decide (0 < nR ∧ 0 ≤ cmp (lastR s.rows) fk) = b := ⟨_, rfl⟩
  have HB24 := Lib.hid hb24
  have hnl64 : nl ≤ 64 := by omega
  have hnl1 : 1 ≤ nl := by omega
  have hnl0 : 0 < nl := by omega
  obtain ⟨aR', nR', cR', hrv', hsp4⟩ := R4.out.spv
  obtain ⟨rfl, rfl, rfl⟩ : aR = aR' ∧ nR = nR' ∧ cR = cR' := by simpa using hrv'
  have SP4 := Lib.hid hsp4.spans
  rw [FK.out] at HM
  clear hEN hjl hf0 hfx d0 ha2 hkx hlk sk sx hnl hb24 hl1 hl64 hsp4 hrv'
  go_upto_region 24 with (fail)
  go_cut [141] (fun b wx => b = .bool b24 ∧ Drw w4 wx)
  case first =>
    by_cases hz : nR = 0
    · have hb : b24 = false := by rw [← HB24.out, hz]; simp
      subst hb
      have t11 : decide ((nR : Int) > 0) = false := decide_eq_false (by omega)
      have t11' : decide (0 < (nR : Int)) = false := decide_eq_false (by omega)
      have t11'' : decide (0 < nR) = false := decide_eq_false (by omega)
      clear hz
      go_wp2_with fail
      go_quiet (fail)
      go_wp2_with fail
      go_meet
      exact ⟨rfl, by first | exact (Drw.refl _).more _ | exact Drw.refl _⟩
    · obtain ⟨jR, hjR⟩ : ∃ j, nR = j + 1 := ⟨nR - 1, by omega⟩
      obtain ⟨⟨rk, x, y, z⟩, hr⟩ : ∃ r, s.rows[jR]? = some r := ⟨_, List.getElem?_eq_getElem (by rw [HNR.out]; omega)⟩
      obtain ⟨bR, oR, ar, nr, cr, har, r0, -, -, -, sr⟩ := SP4.out.2.2.2 jR rk x y z hr
      have hlr : lastR s.rows = rk := lastR_at (by rw [HNR.out]; exact hjR) hr
      have hb : b24 = decide (cmp rk fk ≥ 0) := by rw [← HB24.out, hlr]; simp [show 0 < nR by omega]
      subst hb
      subst har
      have t11 : decide ((nR : Int) > 0) = true := decide_eq_true (by omega)
      have t11' : decide (0 < (nR : Int)) = true := decide_eq_true (by omega)
      have t11'' : decide (0 < nR) = true := decide_eq_true (by omega)
      have e11 : IntKind.i64.wrap ((nR : Int) - 1) = (jR : Int) := by rw [show (nR : Int) - 1 = jR by omega]; exact IntWalk.i64_in _ (by omega)
      have l11 : jR < nR := by omega
      obtain ⟨q3, hq3⟩ : ∃ q3, cmp rk fk = q3 := ⟨_, rfl⟩
      have SR := Lib.hid sr
      have CM := Lib.hid (fun j : Nat => hq3 ▸ bcompare_any ar nr cr rk ak nk ck fk (w4.drewN j) (SR.out.drewN j) (SK.out.drewN j))
      have h3 : -1 ≤ q3 ∧ q3 ≤ 1 := by have := cmp_cases rk fk; omega
      have HQ3 := Lib.hid hq3
      clear hz hjR hr hlr hq3 sr
      go_wp2_with fail
      go_quiet ((go_at_call 39; exact Calls.quiet_of_drw ((CM.out _).mono (by rintro e w' ⟨rfl, rfl⟩; exact ⟨rfl, Drw.refl _⟩))))
      go_wp2_with fail
      go_meet
      exact ⟨by rw [HQ3.out], by first | exact (Drw.refl _).more _ | exact ((Drw.refl _).more _).more _ | exact Drw.refl _⟩
  obtain ⟨rfl, hcw⟩ := hcut
  obtain ⟨w5, hw5⟩ : ∃ w5, w5 = wc := ⟨_, rfl⟩
  subst hw5
  have R5 := Lib.hid (R4.out.keep hcw.below)
  have G5 := Lib.hid (G4.out.trans (Gr.below hcw.below))
  have LL5 := Lib.hid (LL.out.keep hcw.below)
  have SX5 := Lib.hid (SX.out.keep hcw.below)
  have dx5 : w5.cell? ⟨bL, oL + jl * 2, none⟩ = some (.slice ax nx cx) := (World.cell?_of_block (hcw.below.block _ (cell_lt dx))).trans dx
  have hbL : bL < w5.heap.size := Nat.lt_of_lt_of_le (cell_lt dx) hcw.below.size
  have c0 := R5.out.c0
  have c3 := R5.out.c3
  clear hcw R4 G4 LL SX dx d0' SK SP4
  cases b24 with
  | true =>
    have FIN := Lib.hid (show Y = s.fail k3 51 k2.pl by rw [HM.out, if_pos (of_decide_eq_true HB24.out)])
    go_wp2_with (go_at_call 82; refine (fail_post (s := s) R5.out G5.out rfl 51 k2.pl).mono ?_; rintro r w9 ⟨rfl, hp9⟩; have P9 := Lib.hid hp9; clear hp9)
    go_ret2
    rw [FIN.out]
    exact P9.out
  | false =>
    obtain ⟨D, hD⟩ : ∃ D, (k3.pl : Int) - (pl : Int) = D := ⟨_, rfl⟩
    have FIN := Lib.hid (show Y = ((l, true), ⟨k3, s.ph, s.rows ++ [(xk, (pl : Int), D, (nl : Int))], s.er, s.pt⟩) by rw [HM.out, if_neg (of_decide_eq_false HB24.out), PH.out, LK.out, hD])
    have e12 : IntKind.i64.wrap ((k3.pl : Int) - (pl : Int)) = D := by rw [← hD]; exact IntWalk.i64_in _ (by have := HP1.out; have := HP2.out (ER1.out (by simp)); have := HP3.out; omega)
    have e13 : IntKind.i64.wrap ((nl : Int) - 1) = (jl : Int) := by rw [show (nl : Int) - 1 = jl by have := HJL.out; omega]; exact IntWalk.i64_in _ (by have := HJL.out; omega)
    have l13 : jl < nl := by have := HJL.out; omega
    have hgw5 : g < w5.heap.size := R5.out.lt
    have NB := Lib.hid (show ∀ (W : World), Below w5.heap.size w5 W → W.cell? ⟨g, 0, none⟩ = some (.pointer (some ⟨gi, 0, none⟩)) ∧ W.cell? ⟨g, 3, none⟩ = some (.slice aR nR cR) ∧ W.cell? ⟨bL, oL + jl * 2, none⟩ = some (.slice ax nx cx) from
      fun W hb => ⟨(World.cell?_of_block (hb.block _ hgw5)).trans c0, (World.cell?_of_block (hb.block _ hgw5)).trans c3, (World.cell?_of_block (hb.block _ hbL)).trans dx5⟩)
    have hnx : nx ≤ 64 := by rw [← SX5.out.len]; exact KX.out
    have CLN := Lib.hid (fun (W : World) (hb : Below w5.heap.size w5 W) => clone_any ax nx cx xk W (by omega) (SX5.out.keep hb))
    have ATN := Lib.hid (fun (W : World) (hb : Below w5.heap.size w5 W) => inAt_any (R5.out.keep hb))
    dsimp only at ATN
    have HB : Hid (Below w5.heap.size w5 w5.drew) := Lib.hid ((Below.refl _ _).drew)
    obtain ⟨k0, k3', kx⟩ := NB.out _ HB.out
    have VL : Hid (vs.length = nR) := Lib.hid (by rw [R5.out.rl]; exact HNR.out)
    clear hD c0 c3 dx5 HB24 HM SX5
    go_upto_region 26 with (fail)
    go_region_law (first
      | (refine step_appT eltTR rfl (.tmp 178) (.tmp 200) rfl lo (.slice aR nR cR) vs (by simp [Act.eval]) RW6.out (some ⟨w6.heap.size, 0, none⟩) 1 1 [((a6, n6, c6), (pl : Int), D, (nl : Int))] (by simp [Act.eval]) (SlT.litR w6 ((a6, n6, c6), (pl : Int), D, (nl : Int)) w6.heap.size rfl) (by rw [VL.out]; unfold maxLen; omega) (by rw [VL.out]; omega) (by have := R5.out.lw; have := HB.out.size; simp; omega) _ rfl ?_; intro v7 w7 h7 hg7 hv7 hb7; obtain ⟨a7, n7, c7, rfl, -, -⟩ := h7.slR; have O7 := Lib.hid h7; have V7 := Lib.hid hv7; have GG7 := Lib.hid hg7; have TU7 : Hid (Turns (fun j => Value.ownBlock (.slice aR nR cR) = some j) w5 w7) := Lib.hid ((Turns.of_below (keep_trans HB.out ((Below.refl _ _).alloc (Nat.le_refl _) _))).trans (.of_grown hg7 fun j e => e) fun _ _ e => e); have hgo : ¬ (Value.ownBlock (.slice aR nR cR) = some g) := (fun e => by have := R5.out.rb g e; rw [R5.out.gw] at this; cases this); have hblk7 := TU7.out.heap R5.out.blk hgo; have d3 := cell_of hblk7 3 (v := .slice aR nR cR) rfl; have f3 := free_block hblk7 3; clear h7 hg7 hv7 hb7 hblk7 hgo)
      | (go_simp; go_at_call 42; refine (CLN.out _ HB.out).mono ?_; rintro e w6 ⟨xk6, rfl, ho6, hb6⟩; obtain ⟨a6, n6, c6, rfl, z6⟩ := ho6.slN; have Z6 := Lib.hid z6; have OB6 := Lib.hid ho6.lt; have HB5 := Lib.hid HB.out; replace HB := Lib.hid (keep_trans HB.out hb6); obtain ⟨k0, k3', kx⟩ := NB.out _ HB.out; obtain ⟨q0, q3', qx⟩ := NB.out (w6.alloc (.cells #[.slice a6 n6 c6, .int .i64 (pl : Nat), .int .i64 D, .int .i64 (nl : Nat)] 89)) (keep_trans HB.out ((Below.refl _ _).alloc (Nat.le_refl _) _)); have RW6 := Lib.hid ((R5.out.rw.keep HB.out).alloc (.cells #[.slice a6 n6 c6, .int .i64 (pl : Nat), .int .i64 D, .int .i64 (nl : Nat)] 89)); clear ho6 hb6 z6)
      | (go_simp; go_at_call 101; refine (ATN.out _ HB.out).mono ?_; rintro e w8 ⟨rfl, rfl⟩))
    all_goals
      go_wp2_with fail
      go_ret2
      rw [FIN.out]
      exact rdframe_fin R5.out G5.out LL5.out LZ.out HB5.out Z6.out OB6.out O7.out V7.out GG7.out HB.out TU7.out
end
end Go.Proofs.Ytljcogimeimknaa
