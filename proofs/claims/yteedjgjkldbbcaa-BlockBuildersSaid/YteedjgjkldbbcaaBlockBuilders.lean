/- BlockBuilders: the walk. Conditions: the script within reach. Written by a program of this place (gen_BlockBuilders.py). -/
import Derived.Test.YteedjgjkldbbcaaBlockLives
import Derived.Test.YteedjgjkldbbcaaBlockTwo
import Derived.Test.YteedjgjkldbbcaaBlockOps
import Derived.Deep.DeepCutAuto
import Derived.Deep.CutBlock
namespace Go.Proofs.Yteedjgjkldbbcaa
open Go.RowKit
set_option linter.unusedVariables false

def kw (b : Bool) : Nat := if b then 1 else 0
theorem kw_lt (b : Bool) : kw b < 2 := by cases b <;> decide
theorem bld_len {l : List Ent} (h : Ris l) : (bld l).length ≤ 23000 := by
  by_cases h0 : l = []
  · subst h0; exact Nat.zero_le _
  · have hb := bst_le l h.okay
    have := h.1
    rw [bld_some h0, vb_lt (show l.length < 128 by omega)]
    simp only [List.length_append, List.length_cons, List.length_nil]
    omega
theorem last_of {l : List Ent} {j : Nat} {ll vl : List UInt8} (hl : l.length = j + 1) (hx : l[j]? = some (ll, vl)) : (bst l).last = ll := by
  have hb := bst_take hx
  rw [List.take_of_length_le (by omega)] at hb
  rw [hb]; rfl
set_option maxHeartbeats 16000000 in
set_option maxRecDepth 100000 in
theorem blockBuilders_walk (a : Option Addr) (n c : Nat) (os : List OpB) (w : World) (hn : n ≤ 140737488351232) (hf : ∀ q, q ∈ os → q.2.2.1.length ≤ 140737488351232 ∧ q.2.2.2.length ≤ 140737488351232) (h : OpsB w a n c os) :
    Calls Try.prog 4 #[.slice a n c] w fun e w' => e = .returned (.bool true) ∧ Below w.heap.size w w' := by
  obtain rfl : n = os.length := h.1.symm
  have HF := Lib.hid hf
  have H := Lib.hid h
  clear hf h
  go_enter Try.func4, Try.ntmps4
  go_wp2_with fail
  refine (lives_any _).mono ?_
  rintro e w1 ⟨rfl, hb⟩
  have HI := Lib.hid (BSt.init hb)
  clear hb
  go_wp2_with fail
  refine (bnew_any w1).mono ?_
  rintro e w2 ⟨rfl, rfl⟩
  go_wp2_with fail
  refine (bnew_any _).mono ?_
  rintro e w3 ⟨rfl, rfl⟩
  go_upto_region 4 with (fail)
  obtain ⟨g0, hg0⟩ : ∃ g, w1.heap.size = g := ⟨_, rfl⟩
  obtain ⟨gx, hgx⟩ : ∃ g, w1.heap.size + 1 + 1 = g := ⟨_, rfl⟩
  obtain ⟨gy, hgy⟩ : ∃ g, w1.heap.size + 1 + 1 + 1 = g := ⟨_, rfl⟩
  obtain ⟨B0, hB0⟩ : ∃ g, w1.heap.size + 4 = g := ⟨_, rfl⟩
  obtain ⟨who0, hwho0⟩ : ∃ f, (fun j => if j = w1.heap.size then 0 else if j = w1.heap.size + 1 then 1 else if j = w1.heap.size + 2 then 4 else 5) = f := ⟨_, rfl⟩
  rw [hwho0, show w1.heap.size + 2 = gx from hgx, show w1.heap.size + 3 = gy from hgy, hB0] at HI
  rw [hgy, hgx]
  obtain ⟨G, hG⟩ : ∃ f, (fun k => w1.heap.size + k) = f := ⟨_, rfl⟩
  rw [hG] at HI
  clear hwho0 hgx hgy hB0 hg0
  generalize ((((w1.alloc (.cells #[.int .i64 0, .slice none 0 0, .slice none 0 0, .slice none 0 0] 75)).alloc (.cells #[.int .i64 0, .slice none 0 0, .slice none 0 0, .slice none 0 0] 75)).alloc (.cells #[.pointer (some ⟨w1.heap.size, 0, none⟩), .pointer (some ⟨w1.heap.size + 1, 0, none⟩)] 34)).alloc (.cells #[.slice none 0 0, .slice none 0 0] 39)) = w4 at *
  have x0 := HI.out.cx 0 (by omega)
  have x1 := HI.out.cx 1 (by omega)
  have HG := Lib.hid hG
  clear hG
  go_wp2_with fail
  clear x0 x1
  go_loopw [6] (fun i wr => ∃ (k B : Nat) (P : Nat → List Ent), k ≤ os.length ∧ i = .int .i64 (k : Nat) ∧ BStE w wr B gx gy G P) (fun i _ => os.length - (intOf i).toNat)
  case atStart => exact ⟨0, B0, _, Nat.zero_le _, rfl, _, _, _, _, HI.out⟩
  case round =>
    clear HI
    obtain ⟨m, B, P, hm, rfl, V, Y, X, who, hst⟩ := hrel
    have ST := Lib.hid hst
    clear hst
    by_cases hlt : m < os.length
    · obtain ⟨⟨wh, kd, kk, vv⟩, hx⟩ : ∃ e, os[m]? = some e := ⟨_, List.getElem?_eq_getElem hlt⟩
      obtain ⟨b, o, ak, ck, av, cv, rfl, s0, s1, hrow⟩ := H.out.row hx
      obtain ⟨f1, f2⟩ := HF.out _ (List.mem_of_getElem? hx)
      dsimp only at s0 s1 hrow f1 f2
      obtain ⟨c0, c1, c2, c3⟩ := hrow wr ST.out.below
      have S0 := Lib.hid s0
      have S1 := Lib.hid s1
      have BX := Lib.hid (heap_new wr (.cells #[.bool wh, .int .i64 kd, .slice ak kk.length ck, .slice av vv.length cv] 43))
      have hba := (Below.refl wr.heap.size wr).alloc (Nat.le_refl _) (.cells #[.bool wh, .int .i64 kd, .slice ak kk.length ck, .slice av vv.length cv] 43)
      have hBw := ST.out.hi
      replace ST := Lib.hid (ST.out.keep hba)
      clear hx s0 s1 hrow hba
      go_upto_region 10 with (fail)
      obtain ⟨gb, hgb⟩ : ∃ g, wr.heap.size = g := ⟨_, rfl⟩
      rw [hgb] at BX hBw ⊢
      clear hgb c0 c1 c2 c3
      generalize wr.alloc (.cells #[.bool wh, .int .i64 kd, .slice ak kk.length ck, .slice av vv.length cv] 43) = w5 at *
      have x0 := cell_of BX.out 0 rfl
      have x1 := cell_of BX.out 1 rfl
      have x2 := cell_of BX.out 2 rfl
      have x3 := cell_of BX.out 3 rfl
      have lgb : gb < w5.heap.size := cell_lt x0
      go_upto_if 50 with (fail)
      go_cut [8] (fun b wx => b = .int .i64 (kw wh : Nat) ∧ wx = w5)
      case first =>
        cases wh
        all_goals
          go_wp2_with fail
          go_meet
          exact ⟨rfl, rfl⟩
      case rest =>
        obtain ⟨rfl, rfl⟩ := hcut
        have hk := kw_lt wh
        obtain ⟨k, hkw⟩ : ∃ k, kw wh = k := ⟨_, rfl⟩
        rw [hkw] at hk ⊢
        clear hkw
        have ik0 : (0 : Int) ≤ (k : Int) := by omega
        have ik2 : (k : Int) < 2 := by omega
        obtain ⟨w5, rfl⟩ : ∃ w5, w5 = wc := ⟨_, rfl⟩
        go_upto_block 2 with (fail)
        go_cut [9, 10, 11, 12, 13] (fun _ _ _ _ _ wx => ∃ (P' : Nat → List Ent) (B' : Nat), BStE w wx B' gx gy G P')
        case first =>
          by_cases hk0 : kd = 0
          · subst hk0
            have EO := Lib.hid (Ents.one w5 ak kk.length ck kk av vv.length cv vv (S0.out.keep ST.out.below) (S1.out.keep ST.out.below))
            have FT := Lib.hid (show Fit 140737488351232 [(kk, vv)] from fun e he => by obtain rfl := List.mem_singleton.1 he; exact ⟨f1, f2⟩)
            have HBA := Lib.hid ((Below.refl w5.heap.size w5).alloc (Nat.le_refl _) (.cells #[.slice ak kk.length ck, .slice av vv.length cv] 41))
            have HCP := Lib.hid (copyZ_any _ 1 1 [(kk, vv)] _ (by omega) FT.out EO.out)
            obtain ⟨lo3, hlo3⟩ : ∃ z, (w5.alloc (.cells #[.slice ak kk.length ck, .slice av vv.length cv] 41)).heap.size = z := ⟨_, rfl⟩
            have hl3 : w5.heap.size ≤ lo3 := by rw [← hlo3]; simp
            rw [hlo3] at HCP
            clear EO hlo3
            go_wp2_with fail
            refine HCP.out.mono ?_
            rintro e w6 ⟨a3, c3, rfl, ⟨hcp, hsp⟩, hb6⟩
            have CP := Lib.hid hcp
            have SP := Lib.hid hsp
            have B6 := Lib.hid (HBA.out.trans (hb6.mono hl3))
            have hB6 := B6.out.size
            have HLO := Lib.hid ST.out.lo
            have hsz6 : w6.heap.size ≤ w6.heap.size := Nat.le_refl _
            replace ST := Lib.hid ((ST.out.keep B6.out).up (B' := w6.heap.size) (by omega) (Nat.le_refl _))
            have WN := Lib.hid (show ∀ j, B ≤ j → whoN who B 9 j = 9 from fun j hj => whoN_new hj)
            generalize whoN who B 9 = who2 at *
            obtain ⟨b3, o3, ak3, ck3, av3, cv3, rfl, d0, d1, z0, z1, lk, lv⟩ := hcp.one
            have Z0 := Lib.hid z0
            have Z1 := Lib.hid z1
            have LK := Lib.hid lk
            have LV := Lib.hid lv
            replace BX := Lib.hid ((Stab.block BX.out).keep B6.out).now
            clear hcp hsp hb6 z0 z1 lk lv x0 x1 x2 x3 HCP HBA
            go_upto_region 16 with (fail)
            go_cut [10] (fun b wx => b = .int .i64 (addE (P k) (kk, vv) : Nat) ∧ ∃ V1 who1, BSt w wx wx.heap.size gx gy G V1 Y X (added P k (kk, vv)) P who1 ∧ w6.heap.size ≤ wx.heap.size ∧ ∀ j, j < w6.heap.size → w.heap.size ≤ j → who2 j = 9 → wx.heap[j]? = w6.heap[j]? ∧ who1 j = 9)
            case first =>
              have px := ST.out.cx k hk
              have STD := Lib.hid (ST.out.keep (Below.refl _ _).drew)
              have HA := Lib.hid (badd_any w.heap.size (G k) (V k) (P k) ak3 kk.length ck3 kk av3 vv.length cv3 vv w6.drew (ST.out.rp k hk).1 (ST.out.rp k hk).okay f1 f2 (STD.out.bl k hk) Z0.out.drew Z1.out.drew (fun b' o' e hn hS => by have h1 := LK.out b' o' e; have h2 := (ST.out.blB k hk b' hS).2.2; have h3 := WN.out b' (by omega); omega) (fun b' o' e hn hS => by have h1 := LV.out b' o' e; have h2 := (ST.out.blB k hk b' hS).2.2; have h3 := WN.out b' (by omega); omega))
              go_still_tail 7, (by kernel_rfl)
              change wpList _ _ _ _ _ w6.drew
              go_wp2_with fail
              refine HA.out.mono ?_
              rintro e w7 hadd
              have HAP := Lib.hid (STD.out.addd k hk hadd)
              obtain ⟨rfl, _, _⟩ := hadd
              go_wp2_with fail
              go_meet
              exact ⟨rfl, HAP.out⟩
            case rest =>
              obtain ⟨rfl, V1, who1, hst, hi6, htmp⟩ := hcut
              obtain ⟨w7, rfl⟩ : ∃ w7, w7 = wc := ⟨_, rfl⟩
              have TMP := Lib.hid (show ∀ j, B ≤ j → j < w6.heap.size → w7.heap[j]? = w6.heap[j]? ∧ who1 j = 9 from fun j h1 h2 => htmp j h2 (Nat.le_trans HLO.out h1) (WN.out j h1))
              replace ST := Lib.hid hst
              replace CP := Lib.hid (CP.out.same fun j h1 h2 => (TMP.out j (by omega) h2).1)
              replace SP := Lib.hid (SP.out.same fun j h1 h2 => (TMP.out j (by omega) h2).1)
              replace BX : Hid (w7.heap[gb]? = _) := Lib.hid ((TMP.out gb hBw (by omega)).1.trans BX.out)
              clear hst htmp d0 d1 Z0 Z1 LK LV
              have x2 := cell_of BX.out 2 rfl
              have x3 := cell_of BX.out 3 rfl
              have EO := Lib.hid (Ents.one w7 ak kk.length ck kk av vv.length cv vv (S0.out.keep ST.out.below) (S1.out.keep ST.out.below))
              have HBA := Lib.hid ((Below.refl w7.heap.size w7).alloc (Nat.le_refl _) (.cells #[.slice ak kk.length ck, .slice av vv.length cv] 41))
              go_wp2_with fail
              refine (ekept_any _ 1 c3 _ 1 1 [(kk, vv)] lo3 w6.heap.size _ (by omega) FT.out (CP.out.keep HBA.out hi6) (Nat.le_trans hi6 (by simp)) EO.out).mono ?_
              rintro e w8 ⟨rfl, hb8⟩
              have B8 := Lib.hid (keep_trans HBA.out hb8)
              replace ST := Lib.hid (ST.out.keep B8.out)
              replace BX := Lib.hid ((Stab.block BX.out).keep B8.out).now
              replace SP := Lib.hid (SP.out.same fun j h1 h2 => B8.out.block j (by omega))
              have hi8 := B8.out.size
              clear hb8 x2 x3 EO HBA CP B8
              go_wp2_with fail
              refine (espoil_any _ 1 c3 lo3 w6.heap.size w8 SP.out).mono ?_
              rintro e w9 ⟨rfl, ht9⟩
              replace ST := Lib.hid (ST.out.turn ht9 fun j hj => .inr ⟨by have := HLO.out; omega, (TMP.out j (by omega) hj.2).2⟩)
              replace BX := Lib.hid (ht9.heap BX.out (fun e => by omega))
              clear ht9 SP TMP
              go_upto_region 19 with (fail)
              go_cut [84] (fun b wx => b = .bool false ∧ ∃ B1 Y1 X1 who2, BSt w wx B1 gx gy G V1 Y1 X1 (added P k (kk, vv)) (added P k (kk, vv)) who2)
              case first =>
                have x2 := cell_of BX.out 2 rfl
                have x3 := cell_of BX.out 3 rfl
                have STD := Lib.hid (ST.out.keep (Below.refl _ _).drew)
                have HR := Lib.hid (radd_any w gy k (Y k) (X k) (P k) ak kk.length ck kk av vv.length cv vv w9.drew (STD.out.rq k hk) f1 f2 STD.out.below (STD.out.yr k hk) (STD.out.cy k hk) (STD.out.fy k) (STD.out.offy k hk) S0.out S1.out)
                have hne : (((addE (P k) (kk, vv) : Nat) : Int) != ((addE (P k) (kk, vv) : Nat) : Int)) = false := by simp
                go_region_with (go_at_call 21; refine HR.out.mono ?_; rintro e w10 hadd; have HRP := Lib.hid (STD.out.raddd k hk hadd); obtain ⟨rfl, _, _⟩ := hadd)
                all_goals
                  go_wp2_with fail
                  go_meet
                  exact ⟨rfl, HRP.out⟩
              case rest =>
                obtain ⟨rfl, B1, Y1, X1, who3, hst⟩ := hcut
                go_wp2_with fail
                go_meet
                exact ⟨added P k (kk, vv), B1, V1, Y1, X1, who3, hst⟩
          · have t0 : (kd == 0) = false := by rw [beq_eq_false_iff_ne]; exact hk0
            by_cases hk1 : kd = 1
            · subst hk1
              have px := ST.out.cx k hk
              have HB1 := Lib.hid (bbytes_any w.heap.size (G k) (V k) (P k) w5 (ST.out.rp k hk).1 (ST.out.rp k hk).okay (ST.out.bl k hk))
              clear x0 x1 x2 x3
              go_wp2_with fail
              refine HB1.out.mono ?_
              rintro e w6 ⟨xb, rfl, ho, ⟨v', hbl, hs⟩, ht⟩
              have HR := Lib.hid (ST.out.rp k hk)
              have hbl2 := bld_len HR.out
              have ST6 := Lib.hid (ST.out.blds0 k hk (ht.mono fun j _ e => .inl e) hbl hs Ris.nil)
              obtain ⟨ab, nb, cb, rfl, zb⟩ := ho.slN
              obtain rfl : (bld (P k)).length = nb := zb.len
              have OB := Lib.hid ho
              have LB := Lib.hid ho.lt
              have hw6 := ht.size
              have hBB := ST.out.hi
              clear ho hbl hs ht zb px HB1 ST
              have py := ST6.out.cy k hk
              have HB2 := Lib.hid (rbytesB_any w gy k (Y k) (X k) (P k) w6 HR.out ST6.out.below (ST6.out.yr k hk) py)
              go_wp2_with fail
              refine HB2.out.mono ?_
              rintro e w7 ⟨yb, rfl, ho, hb⟩
              obtain ⟨ay, ny, cy, rfl, zy⟩ := ho.slN
              obtain rfl : (bld (P k)).length = ny := zy.len
              have ZY := Lib.hid zy
              have LB2 := Lib.hid (show ∀ j, Value.ownBlock (.slice ab (bld (P k)).length cb) = some j → w5.heap.size ≤ j from fun j hj => (LB.out j hj).1)
              replace OB := Lib.hid (OB.out.keep hb)
              replace ST6 := Lib.hid (ST6.out.keep hb)
              clear ho zy hb py HB2
              go_wp2_with fail
              refine (same_any ab (bld (P k)).length cb (bld (P k)) ay (bld (P k)).length cy (bld (P k)) w7 (by omega) (by omega) OB.out.slI ZY.out).mono ?_
              rintro e w8 ⟨rfl, hb⟩
              rw [decide_eq_true rfl]
              replace OB := Lib.hid (OB.out.keep hb)
              replace ST6 := Lib.hid (ST6.out.keep hb)
              clear hb ZY
              have hcap := OB.out.capB.2.2
              go_wp2_with fail
              refine (spoil_any ab (bld (P k)).length cb w8 hcap OB.out.soft).mono ?_
              rintro e w9 ⟨rfl, hg⟩
              replace ST6 := Lib.hid (ST6.out.turn (Turns.of_grown (S := fun j => ab.map (·.block) = some j) hg fun j e => e) fun j hj => .inl (by have := LB2.out j (by rw [own_map]; exact hj); omega))
              clear hg hcap OB LB LB2
              have cy9 := ST6.out.cy k hk
              have fy9 := ST6.out.fy k
              have ST7 := Lib.hid (ST6.out.refs k hk (Turns.refl _ _) (ELs.nil w w9) (fun j h => by cases h) Ris.nil)
              clear ST6
              go_wp2_with fail
              go_meet
              exact ⟨upd P k [], w9.heap.size, _, _, _, _, ST7.out⟩
            · have t1 : (kd == 1) = false := by rw [beq_eq_false_iff_ne]; exact hk1
              go_wp2_with fail
              go_meet
              exact ⟨P, B, V, Y, X, who, ST.out⟩
        case rest =>
          obtain ⟨P', B', V', Y', X', who', hst⟩ := hcut
          obtain ⟨w6, rfl⟩ : ∃ w6, w6 = wc := ⟨_, rfl⟩
          have ST6 := Lib.hid hst
          have RP := Lib.hid (hst.rp k hk)
          have hbl2 := bld_len (hst.rp k hk)
          clear hst x0 x1 x2 x3 BX ST
          obtain ⟨lp, hlp⟩ : ∃ z, (P' k).length = z := ⟨_, rfl⟩
          have hlp64 : lp ≤ 64 := by rw [← hlp]; exact RP.out.1
          have HLP := Lib.hid hlp
          clear hlp
          have px := ST6.out.cx k hk
          go_wp2_with fail
          refine (blen_any w.heap.size (G k) (V' k) (P' k) _ (ST6.out.bl k hk)).mono ?_
          rintro e w' ⟨rfl, rfl⟩
          rw [HLP.out]
          go_wp2_with fail
          refine (bsize_any w.heap.size (G k) (V' k) (P' k) _ RP.out.1 RP.out.okay (ST6.out.bl k hk)).mono ?_
          rintro e w7 ⟨rfl, hd⟩
          replace ST6 := Lib.hid (ST6.out.keep hd.below)
          clear hd px
          have px := ST6.out.cx k hk
          go_wp2_with fail
          refine (blast_any w.heap.size (G k) (V' k) (P' k) _ RP.out.okay (ST6.out.bl k hk)).mono ?_
          rintro e w8 ⟨xl, rfl, ho, hb⟩
          have hB7 := ST6.out.hi
          replace ST6 := Lib.hid (ST6.out.keep hb)
          obtain ⟨al, nl, cl, rfl, zl⟩ := ho.slN
          have OL := Lib.hid ho
          have LL := Lib.hid (show ∀ j, Value.ownBlock (.slice al nl cl) = some j → w7.heap.size ≤ j from fun j hj => (ho.lt j hj).1)
          clear ho hb zl px
          obtain ⟨ay, cy, hyk, hen⟩ := (ST6.out.yr k hk).ents ST6.out.below
          rw [HLP.out] at hyk hen
          have cyk : w8.cell? ⟨gy, k, none⟩ = some (.slice ay lp cy) := by rw [← hyk]; exact ST6.out.cy k hk
          have EN := Lib.hid hen
          clear hyk hen
          go_upto_if 124 with (fail)
          go_cut [17] (fun b wx => ∃ aw nw cw, b = .slice aw nw cw ∧ Sl Bf wx aw nw cw (bst (P' k)).last ∧ nw ≤ 64 ∧ Drw w8 wx)
          case first =>
            by_cases hl0 : lp = 0
            · subst hl0
              have hP : P' k = [] := List.length_eq_zero_iff.1 HLP.out
              have HP := Lib.hid hP
              clear hP
              go_wp2_with fail
              go_meet
              exact ⟨none, 0, 0, rfl, by rw [HP.out]; exact Sl.nil _ _, Nat.zero_le _, Drw.refl _⟩
            · obtain ⟨j, rfl⟩ : ∃ j, lp = j + 1 := ⟨lp - 1, by omega⟩
              have t2 : decide ((j : Int) + 1 > 0) = true := decide_eq_true (by omega)
              have t2' : decide (((j + 1 : Nat) : Int) > 0) = true := decide_eq_true (by omega)
              have t3 : decide (0 < j + 1) = true := decide_eq_true (by omega)
              have e1 : IntKind.i64.wrap ((j : Int) + 1 - 1) = (j : Int) := by rw [show (j : Int) + 1 - 1 = (j : Int) by omega]; exact IntWalk.i64_in _ (by omega)
              obtain ⟨⟨ll, vl⟩, hx⟩ : ∃ e, (P' k)[j]? = some e := ⟨_, List.getElem?_eq_getElem (by rw [HLP.out]; omega)⟩
              obtain ⟨bb, oo, aw, cw, _, _, rfl, _, _, hrow⟩ := EN.out.row hx
              obtain ⟨l0, _, sl0, _⟩ := hrow w8 (Below.refl _ _)
              have hll : (bst (P' k)).last = ll := last_of HLP.out hx
              have hll64 : ll.length ≤ 64 := (chk_zero (RP.out.okay _ (List.mem_of_getElem? hx))).2.1
              have SL0 := Lib.hid sl0
              have HLL := Lib.hid hll
              clear hx hrow sl0 hll EN
              go_wp2_with fail
              go_quiet (fail)
              go_wp2_with fail
              go_meet
              exact ⟨aw, ll.length, cw, rfl, by rw [HLL.out]; exact SL0.out.drewN _, hll64, ⟨_, rfl⟩⟩
          case rest =>
            obtain ⟨aw, nw, cw, rfl, hsw, hnw, hd⟩ := hcut
            obtain ⟨w9, rfl⟩ : ∃ w9, w9 = wc := ⟨_, rfl⟩
            have hb := hd.below
            replace ST6 := Lib.hid (ST6.out.keep hb)
            replace OL := Lib.hid (OL.out.keep hb)
            have SW := Lib.hid hsw
            have hs89 := hb.size
            clear hd hb hsw cyk EN
            have hnl : nl ≤ 64 := by have h1 := OL.out.slI.len; have h2 := (bst_le (P' k) RP.out.okay).2.2; omega
            go_wp2_with fail
            refine (same_any al nl cl (bst (P' k)).last aw nw cw (bst (P' k)).last w9 (by omega) (by omega) OL.out.slI SW.out).mono ?_
            rintro e w10 ⟨rfl, hb⟩
            rw [decide_eq_true rfl]
            replace ST6 := Lib.hid (ST6.out.keep hb)
            replace OL := Lib.hid (OL.out.keep hb)
            clear hb SW
            have hcap := OL.out.capB.2.2
            go_wp2_with fail
            refine (spoil_any al nl cl w10 hcap OL.out.soft).mono ?_
            rintro e w11 ⟨rfl, hg⟩
            replace ST6 := Lib.hid (ST6.out.turn (Turns.of_grown (S := fun j => al.map (·.block) = some j) hg fun j e => e) fun j hj => .inl (by have := LL.out j (by rw [own_map]; exact hj); omega))
            clear hg hcap OL LL
            obtain ⟨ay, cy, hyk, _⟩ := (ST6.out.yr k hk).ents ST6.out.below
            rw [HLP.out] at hyk
            have cyk : w11.cell? ⟨gy, k, none⟩ = some (.slice ay lp cy) := by rw [← hyk]; exact ST6.out.cy k hk
            have HB2 := Lib.hid (rbytesB_any w gy k (Y' k) (X' k) (P' k) w11 RP.out ST6.out.below (ST6.out.yr k hk) (ST6.out.cy k hk))
            clear hyk
            have u1 : ((lp : Int) != (lp : Int)) = false := by simp
            have u2 : (lp != lp) = false := by simp
            have u3 : (((bld (P' k)).length : Int) != ((bld (P' k)).length : Int)) = false := by simp
            have u4 : ((bld (P' k)).length != (bld (P' k)).length) = false := by simp
            go_wp2_with fail
            refine HB2.out.mono ?_
            rintro e w12 ⟨yb, rfl, ho, hb⟩
            obtain ⟨az, nz, cz, rfl, zz⟩ := ho.slN
            obtain rfl : (bld (P' k)).length = nz := zz.len
            replace ST6 := Lib.hid (ST6.out.keep hb)
            clear ho hb zz HB2 cyk
            go_wp2_with fail
            go_roundw
            case rel => exact ⟨m + 1, B', P', by omega, by go_num, V', Y', X', who', ST6.out⟩
            case measure => simp [intOf]; omega
    · have px := ST.out.cx 0 (by omega)
      have HR0 := Lib.hid (ST.out.rp 0 (by omega))
      have HR1 := Lib.hid (ST.out.rp 1 (by omega))
      have hl0 := bld_len HR0.out
      have hl1 := bld_len HR1.out
      have HB1 := Lib.hid (bbytes_any w.heap.size (G 0) (V 0) (P 0) wr HR0.out.1 HR0.out.okay (ST.out.bl 0 (by omega)))
      go_wp2_with fail
      refine HB1.out.mono ?_
      rintro e w6 ⟨xa, rfl, ho, ⟨v', hbl, hs⟩, ht⟩
      have hg1 := (ST.out.blB 1 (by omega) (G 1) (.inl rfl)).2.1
      have hBw := ST.out.hi
      have ST6 := Lib.hid (ST.out.blds0 0 (by omega) (ht.mono fun j _ e => .inl e) hbl hs Ris.nil)
      have hb1 := ST6.out.bl 1 (by omega)
      rw [upd_other _ _ (by omega), upd_other _ _ (by omega)] at hb1
      obtain ⟨aa, na, ca, rfl, za⟩ := ho.slN
      obtain rfl : (bld (P 0)).length = na := za.len
      have OA := Lib.hid ho
      have hw6 := ht.size
      have HB2 := Lib.hid (bbytes_any w.heap.size (G 1) (V 1) (P 1) w6 HR1.out.1 HR1.out.okay hb1)
      clear ho hbl hs ht za px HB1 ST hb1
      have px := ST6.out.cx 1 (by omega)
      go_wp2_with fail
      refine HB2.out.mono ?_
      rintro e w7 ⟨xb, rfl, ho, ⟨v'', hbl, hs⟩, ht⟩
      have ST7 := Lib.hid (ST6.out.blds0 1 (by omega) (ht.mono fun j _ e => .inl e) hbl (fun j hj => by rw [upd_other _ _ (by omega)]; exact hs j hj) Ris.nil)
      replace OA := Lib.hid (OA.out.turns ht fun j hj e => by have := (OA.out.lt j hj).1; omega)
      obtain ⟨ab, nb, cb, rfl, zb⟩ := ho.slN
      obtain rfl : (bld (P 1)).length = nb := zb.len
      have OB := Lib.hid ho
      clear ho hbl hs ht zb px HB2 ST6
      have HY0 := Lib.hid (rbytesB_any w gy 0 (Y 0) (X 0) (P 0) w7 HR0.out ST7.out.below (ST7.out.yr 0 (by omega)) (ST7.out.cy 0 (by omega)))
      go_wp2_with fail
      refine HY0.out.mono ?_
      rintro e w8 ⟨yb, rfl, ho, hb⟩
      obtain ⟨ay, ny, cy, rfl, zy⟩ := ho.slN
      obtain rfl : (bld (P 0)).length = ny := zy.len
      have ZY := Lib.hid zy
      replace OA := Lib.hid (OA.out.keep hb)
      replace OB := Lib.hid (OB.out.keep hb)
      replace ST7 := Lib.hid (ST7.out.keep hb)
      clear ho zy hb HY0
      go_wp2_with fail
      refine (same_any aa (bld (P 0)).length ca (bld (P 0)) ay (bld (P 0)).length cy (bld (P 0)) w8 (by omega) (by omega) OA.out.slI ZY.out).mono ?_
      rintro e w9 ⟨rfl, hb⟩
      rw [decide_eq_true rfl]
      replace OB := Lib.hid (OB.out.keep hb)
      replace ST7 := Lib.hid (ST7.out.keep hb)
      clear hb ZY OA
      have HY1 := Lib.hid (rbytesB_any w gy 1 (Y 1) (X 1) (P 1) w9 HR1.out ST7.out.below (ST7.out.yr 1 (by omega)) (ST7.out.cy 1 (by omega)))
      go_wp2_with fail
      refine HY1.out.mono ?_
      rintro e w10 ⟨yb, rfl, ho, hb⟩
      obtain ⟨az, nz, cz, rfl, zz⟩ := ho.slN
      obtain rfl : (bld (P 1)).length = nz := zz.len
      have ZZ := Lib.hid zz
      replace OB := Lib.hid (OB.out.keep hb)
      replace ST7 := Lib.hid (ST7.out.keep hb)
      clear ho zz hb HY1
      go_wp2_with fail
      refine (same_any ab (bld (P 1)).length cb (bld (P 1)) az (bld (P 1)).length cz (bld (P 1)) w10 (by omega) (by omega) OB.out.slI ZZ.out).mono ?_
      rintro e w11 ⟨rfl, hb⟩
      rw [decide_eq_true rfl]
      have FB := Lib.hid (ST7.out.keep hb).below
      clear hb ZZ OB ST7
      go_wp2_with fail
      go_ret
      exact ⟨ret_bool (by simp), FB.out⟩
end Go.Proofs.Yteedjgjkldbbcaa
