/- StreamWrites: the walk. Conditions: the script within reach. -/
import Derived.Test.YtljcogimeimknaaStmRBytes
import Derived.Test.YtljcogimeimknaaStmOps
import Derived.Test.YtljcogimeimknaaEntOne
import Derived.Test.YtljcogimeimknaaK8b
import Derived.Test.YtljcogimeimknaaFootSame
import Derived.Deep.DeepCutAuto
import Derived.Deep.CutBlock
namespace Go.Proofs.Ytljcogimeimknaa
open Go.RowKit
set_option linter.unusedVariables false

set_option maxHeartbeats 16000000 in
set_option maxRecDepth 100000 in
theorem streamWrites_walk (N : Int) (a : Option Addr) (n c : Nat) (os : List OpS) (w : World) (hn : n ≤ 140737488351232) (hf : ∀ q, q ∈ os → q.2.1.length ≤ 140737488351232 ∧ q.2.2.length ≤ 140737488351232) (h : OpsS w a n c os) :
    Calls Try.prog 4 #[.int .i64 N, .slice a n c] w fun e w' => e = .returned (.bool true) ∧ Below w.heap.size w w' := by
  obtain rfl : n = os.length := h.1.symm
  have HF := Lib.hid hf
  have H := Lib.hid h
  clear hf h
  by_cases hN : N < 1 ∨ 64 < N
  · have NB := Lib.hid (fun W : World => snewbad_any N W hN)
    by_cases h1 : N < 1
    · have t1 : decide (N < 1) = true := decide_eq_true h1
      clear hN h1
      go_enter Try.func4, Try.ntmps4
      go_wp2_with fail
      refine (lives_any _).mono ?_
      rintro e w1 ⟨rfl, hb⟩
      have B1 := Lib.hid hb
      clear hb
      go_wp2_with (go_at_call 14; refine (NB.out _).mono ?_; rintro e w2 ⟨rfl, rfl⟩)
      go_ret
      exact ⟨by first | rfl | exact ret_bool (by simp), B1.out⟩
    · have h2 : 64 < N := by omega
      have t1 : decide (N < 1) = false := decide_eq_false h1
      have t2 : decide (N > 64) = true := decide_eq_true h2
      have t3 : decide (64 < N) = true := decide_eq_true h2
      clear hN h1 h2
      go_enter Try.func4, Try.ntmps4
      go_wp2_with fail
      refine (lives_any _).mono ?_
      rintro e w1 ⟨rfl, hb⟩
      have B1 := Lib.hid hb
      clear hb
      go_wp2_with (go_at_call 14; refine (NB.out _).mono ?_; rintro e w2 ⟨rfl, rfl⟩)
      go_ret
      exact ⟨by first | rfl | exact ret_bool (by simp), B1.out⟩
  · obtain ⟨m, rfl⟩ : ∃ m : Nat, N = m := ⟨N.toNat, by omega⟩
    have hm1 : 1 ≤ m := by omega
    have hm2 : m ≤ 64 := by omega
    have t1 : decide ((m : Int) < 1) = false := decide_eq_false (by omega)
    have t2 : decide ((m : Int) > 64) = false := decide_eq_false (by omega)
    have t3 : decide (64 < (m : Int)) = false := decide_eq_false (by omega)
    have t3' : decide (64 < m) = false := decide_eq_false (by omega)
    have t1' : decide (m < 1) = false := decide_eq_false (by omega)
    clear hN
    go_enter Try.func4, Try.ntmps4
    go_wp2_with fail
    refine (lives_any _).mono ?_
    rintro e w1 ⟨rfl, hb⟩
    have B1 := Lib.hid hb
    clear hb
    go_wp2_with fail
    refine (snew_any m w1 hm1 hm2).mono ?_
    rintro e w2 ⟨g, who, rfl, hS, hb⟩
    have S2 := Lib.hid hS
    have B2 := Lib.hid (keep_trans B1.out hb)
    obtain ⟨lo, hlo⟩ : ∃ lo, w1.heap.size = lo := ⟨_, rfl⟩
    rw [hlo] at S2
    have hwlo : w.heap.size ≤ lo := by rw [← hlo]; exact B1.out.size
    clear hS hb hlo
    have I := Lib.hid (RWr.init (w0 := w) B2.out m)
    go_upto_region 8 with (fail)
    have HD := Lib.hid (show Duo w (w2.alloc (.cells #[.int .i64 (m : Nat), .slice none 0 0, .slice none 0 0, .slice none 0 0, .bool false, .int .i64 0] 40)) lo g w2.heap.size m WS0 WS0 who (fun j => if j = w2.heap.size then 1 else 0) from ⟨S2.out.keep ((Below.refl _ _).alloc (Nat.le_refl _) _), I.out, fun j hj => by have := (S2.out.low.1 j hj).2; rw [if_neg (by omega)], hwlo⟩)
    obtain ⟨g', hg'⟩ : ∃ g, w2.heap.size = g := ⟨_, rfl⟩
    rw [hg'] at HD ⊢
    generalize w2.alloc (.cells #[.int .i64 (m : Nat), .slice none 0 0, .slice none 0 0, .slice none 0 0, .bool false, .int .i64 0] 40) = w3 at *
    clear hg' t1 t2 t3 t3' t1' I S2 B2 B1
    go_wp2_with fail
    go_loopw [9] (fun i wr => ∃ (k : Nat) (s : WS) (who who' : Nat → Nat), k ≤ os.length ∧ i = .int .i64 (k : Nat) ∧ Duo w wr lo g g' m s s who who' ∧ s.Ok m) (fun i _ => os.length - (intOf i).toNat)
    case atStart => exact ⟨0, WS0, _, _, Nat.zero_le _, rfl, HD.out, WS.Ok.zero ⟨hm1, hm2⟩⟩
    case round =>
      clear HD
      obtain ⟨k, s, who, who', hk, rfl, hd, hok⟩ := hrel
      have D := Lib.hid hd
      have OK := Lib.hid hok
      clear hd hok
      by_cases hlt : k < os.length
      · obtain ⟨⟨kd, kk, vv⟩, hx⟩ : ∃ e, os[k]? = some e := ⟨_, List.getElem?_eq_getElem hlt⟩
        obtain ⟨b, o, ak, ck, av, cv, rfl, s0, s1, hrow⟩ := H.out.row hx
        obtain ⟨f1, f2⟩ := HF.out _ (List.mem_of_getElem? hx)
        dsimp only at s0 s1 hrow f1 f2
        obtain ⟨c0, c1, c2⟩ := hrow wr D.out.r.low.2
        have S0 := Lib.hid s0
        have S1 := Lib.hid s1
        have BX := Lib.hid (heap_new wr (.cells #[.int .i64 kd, .slice ak kk.length ck, .slice av vv.length cv] 44))
        have hba := (Below.refl wr.heap.size wr).alloc (Nat.le_refl _) (.cells #[.int .i64 kd, .slice ak kk.length ck, .slice av vv.length cv] 44)
        have NEW := Lib.hid D.out.new
        have LW := Lib.hid D.out.r.low.2.size
        replace D := Lib.hid (D.out.keep hba)
        clear hx s0 s1 hrow hba
        go_upto_region 12 with (fail)
        obtain ⟨gb, hgb⟩ : ∃ g, wr.heap.size = g := ⟨_, rfl⟩
        rw [hgb] at BX NEW LW ⊢
        clear hgb c0 c1 c2
        generalize wr.alloc (.cells #[.int .i64 kd, .slice ak kk.length ck, .slice av vv.length cv] 44) = w5 at *
        have x0 := cell_of BX.out 0 rfl
        have x1 := cell_of BX.out 1 rfl
        have x2 := cell_of BX.out 2 rfl
        have lgb : gb < w5.heap.size := cell_lt x0
        go_upto_block 2 with (fail)
        go_cut [7, 11, 12, 13] (fun _ b _ _ wx => b = .bool true ∧ ∃ (s1 : WS) (who1 who1' : Nat → Nat), Duo w wx lo g g' m s1 s1 who1 who1' ∧ s1.Ok m)
        case first =>
          by_cases hk0 : kd = 0
          · subst hk0
            have EO := Lib.hid (Ents.one w5 ak kk.length ck kk av vv.length cv vv (S0.out.keep D.out.r.low.2) (S1.out.keep D.out.r.low.2))
            have FT := Lib.hid (show Fit 140737488351232 [(kk, vv)] from fun e he => by obtain rfl := List.mem_singleton.1 he; exact ⟨f1, f2⟩)
            have HBA := Lib.hid ((Below.refl w5.heap.size w5).alloc (Nat.le_refl _) (.cells #[.slice ak kk.length ck, .slice av vv.length cv] 42))
            have HCP := Lib.hid (copyZ_any _ 1 1 [(kk, vv)] _ (by omega) FT.out EO.out)
            obtain ⟨lo3, hlo3⟩ : ∃ z, (w5.alloc (.cells #[.slice ak kk.length ck, .slice av vv.length cv] 42)).heap.size = z := ⟨_, rfl⟩
            have hl3 : w5.heap.size ≤ lo3 := by rw [← hlo3]; simp
            rw [hlo3] at HCP
            clear EO hlo3
            go_wp2_with fail
            refine HCP.out.mono ?_
            rintro e w6 ⟨a3, c3, rfl, ⟨hcp, hsp⟩, hb6⟩
            have CP := Lib.hid hcp
            have SP := Lib.hid hsp
            have B6 := Lib.hid (HBA.out.trans (hb6.mono hl3))
            have hB6 := B6.out.size
            replace D := Lib.hid (D.out.keep B6.out)
            obtain ⟨b3, o3, ak3, ck3, av3, cv3, rfl, d0, d1, z0, z1, lk, lv⟩ := hcp.one
            have Z0 := Lib.hid z0
            have Z1 := Lib.hid z1
            have F1 := Lib.hid (show ∀ b o, ak3 = some ⟨b, o, none⟩ → 0 < kk.length → who b = 0 from fun b o e _ => (NEW.out b (by have := (lk b o e).1; omega)).1)
            have F2 := Lib.hid (show ∀ b o, av3 = some ⟨b, o, none⟩ → 0 < vv.length → who b = 0 from fun b o e _ => (NEW.out b (by have := (lv b o e).1; omega)).1)
            replace BX := Lib.hid ((Stab.block BX.out).keep B6.out).now
            clear hcp hsp hb6 z0 z1 lk lv x0 x1 x2 HCP HBA
            go_wp2_with fail
            refine (sadd_any w6 lo g m s who ak3 kk.length ck3 kk av3 vv.length cv3 vv D.out.l OK.out f1 f2 Z0.out Z1.out F1.out F2.out).mono ?_
            rintro e w7 ⟨rfl, hp⟩
            obtain ⟨who1, hd1, ho1, ht1⟩ := D.out.left hp
            replace D := Lib.hid hd1
            have W1 := Lib.hid (show ∀ j, gb ≤ j → j < w6.heap.size → who1 j = 0 ∧ who' j = 0 ∧ w7.heap[j]? = w6.heap[j]? from fun j h1 h2 => ⟨(ho1 j h2).trans (NEW.out j h1).1, (NEW.out j h1).2, ht1.block j h2 (fun e => e (NEW.out j h1).1)⟩)
            have hi6 : w6.heap.size ≤ w7.heap.size := ht1.size
            replace CP := Lib.hid (CP.out.same fun j h1 h2 => (W1.out j (by omega) h2).2.2)
            replace SP := Lib.hid (SP.out.same fun j h1 h2 => (W1.out j (by omega) h2).2.2)
            replace BX : Hid (w7.heap[gb]? = _) := Lib.hid ((W1.out gb (Nat.le_refl _) (by omega)).2.2.trans BX.out)
            clear hp hd1 ho1 ht1 d0 d1 Z0 Z1 F1 F2
            have x1 := cell_of BX.out 1 rfl
            have x2 := cell_of BX.out 2 rfl
            have EO := Lib.hid (Ents.one w7 ak kk.length ck kk av vv.length cv vv (S0.out.keep D.out.r.low.2) (S1.out.keep D.out.r.low.2))
            have HBA := Lib.hid ((Below.refl w7.heap.size w7).alloc (Nat.le_refl _) (.cells #[.slice ak kk.length ck, .slice av vv.length cv] 42))
            obtain ⟨q, hq⟩ : ∃ q, (s.add m (kk, vv)).1 = q := ⟨_, rfl⟩
            rw [hq]
            have HQ := Lib.hid hq
            clear hq
            go_wp2_with fail
            refine (ekept_any _ 1 c3 _ 1 1 [(kk, vv)] lo3 w6.heap.size _ (by omega) FT.out (CP.out.keep HBA.out hi6) (Nat.le_trans hi6 (by simp)) EO.out).mono ?_
            rintro e w8 ⟨rfl, hb8⟩
            have B8 := Lib.hid (keep_trans HBA.out hb8)
            replace D := Lib.hid (D.out.keep B8.out)
            replace BX := Lib.hid ((Stab.block BX.out).keep B8.out).now
            replace SP := Lib.hid (SP.out.same fun j h1 h2 => B8.out.block j (by omega))
            have hi8 := B8.out.size
            clear hb8 x1 x2 EO HBA CP B8
            have x1 := cell_of BX.out 1 rfl
            have x2 := cell_of BX.out 2 rfl
            go_wp2_with fail
            refine (raddW_any w w8 g' m s who' ak kk.length ck kk av vv.length cv vv D.out.r OK.out f1 f2 S0.out S1.out).mono ?_
            rintro e w9 ⟨rfl, hp⟩
            rw [HQ.out]
            have tq : ((q : Int) == (q : Int)) = true := by simp
            obtain ⟨who2, hd2, ho2, ht2⟩ := D.out.right hp
            replace D := Lib.hid hd2
            have W2 := Lib.hid (show ∀ j, lo3 ≤ j → j < w6.heap.size → who1 j = 0 ∧ who2 j = 0 ∧ w9.heap[j]? = w8.heap[j]? from fun j h1 h2 => ⟨(W1.out j (by omega) h2).1, (ho2 j (by omega)).trans (W1.out j (by omega) h2).2.1, ht2.block j (by omega) (fun e => e (W1.out j (by omega) h2).2.1)⟩)
            replace SP := Lib.hid (SP.out.same fun j h1 h2 => (W2.out j h1 h2).2.2)
            clear hp hd2 ho2 ht2 x1 x2 BX
            go_wp2_with fail
            refine (espoil_any _ 1 c3 lo3 w6.heap.size w9 SP.out).mono ?_
            rintro e w10 ⟨rfl, ht10⟩
            replace D := Lib.hid (D.out.turn ht10 fun j hj => ⟨(W2.out j hj.1 hj.2).1, (W2.out j hj.1 hj.2).2.1, by have := LW.out; omega⟩)
            clear ht10 SP W1 W2
            go_wp2_with fail
            go_meet
            exact ⟨by first | rfl | simp, _, _, _, D.out, OK.out.add _⟩
          · have t0 : (kd == 0) = false := by rw [beq_eq_false_iff_ne]; exact hk0
            by_cases hk1 : kd = 1
            · subst hk1
              clear x1 x2
              go_wp2_with fail
              refine (scut_any w5 lo g m s who D.out.l OK.out).mono ?_
              rintro e w6 ⟨rfl, hp⟩
              obtain ⟨who1, hd1, ho1, ht1⟩ := D.out.left hp
              have D1 := Lib.hid hd1
              obtain ⟨q, hq⟩ : ∃ q, (if s.shut then 87 else 0 : Nat) = q := ⟨_, rfl⟩
              have CU := rcut_any w w6 g' m s who' D1.out.r OK.out.many OK.out.done
              rw [hq] at CU ⊢
              have CU := Lib.hid CU
              clear hp hd1 ho1 ht1 hq x0
              go_wp2_with fail
              refine CU.out.mono ?_
              rintro e w7 ⟨rfl, hp⟩
              obtain ⟨who2, hd2, ho2, ht2⟩ := D1.out.right hp
              have D2 := Lib.hid hd2
              have tq : ((q : Int) == (q : Int)) = true := by simp
              clear hp hd2 ho2 ht2
              go_wp2_with fail
              go_meet
              exact ⟨by first | rfl | simp, _, _, _, D2.out, OK.out.cut⟩
            · have t1 : (kd == 1) = false := by rw [beq_eq_false_iff_ne]; exact hk1
              by_cases hk2 : kd = 2
              · subst hk2
                clear x1 x2
                go_wp2_with fail
                refine (sclose_any w5 lo g m s who D.out.l OK.out).mono ?_
                rintro e w6 ⟨rfl, hp⟩
                obtain ⟨who1, hd1, ho1, ht1⟩ := D.out.left hp
                have D1 := Lib.hid hd1
                obtain ⟨q, hq⟩ : ∃ q, (if s.shut then 87 else 0 : Nat) = q := ⟨_, rfl⟩
                obtain ⟨T, hT⟩ : ∃ T, (if s.shut then s else s.close) = T := ⟨_, rfl⟩
                have OKT := Lib.hid (show T.Ok m by
                  rw [← hT]
                  by_cases hs : s.shut = true
                  · rw [if_pos hs]; exact OK.out
                  · rw [if_neg hs]; exact OK.out.close (ok_of_open hs))
                have CU := rclose_any w w6 g' m s who' D1.out.r OK.out
                rw [hq, hT] at CU
                rw [hT] at D1
                rw [hq]
                have CU := Lib.hid CU
                clear hp hd1 ho1 ht1 hq x0 hT
                go_wp2_with fail
                refine CU.out.mono ?_
                rintro e w7 ⟨rfl, hp⟩
                obtain ⟨who2, hd2, ho2, ht2⟩ := D1.out.right hp
                have D2 := Lib.hid hd2
                have tq : ((q : Int) == (q : Int)) = true := by simp
                clear hp hd2 ho2 ht2
                go_wp2_with fail
                go_meet
                exact ⟨by first | rfl | simp, _, _, _, D2.out, OKT.out⟩
              · have t2 : (kd == 2) = false := by rw [beq_eq_false_iff_ne]; exact hk2
                by_cases hk3 : kd = 3
                · subst hk3
                  have hrl := WS.ready_le OK.out
                  clear x1 x2
                  go_wp2_with fail
                  refine (snext_any w5 lo g m s who D.out.l OK.out).mono ?_
                  rintro e w6 ⟨a6, n6, c6, who1, rfl, ho6, hs6, hg6, hfr⟩
                  have D1 := Lib.hid (D.out.left2 hs6 hg6)
                  have O6 := Lib.hid ho6
                  have hcap := ho6.capB
                  have HFR := Lib.hid (show ∀ j, Value.ownBlock (.slice a6 n6 c6) = some j → gb ≤ j ∧ j < w6.heap.size ∧ who1 j = 0 ∧ who' j = 0 from fun j hj => by
                    obtain ⟨q1, q2, q3⟩ := hfr j hj
                    exact ⟨by omega, q2, q3, (NEW.out j (by omega)).2⟩)
                  have hn6 : n6 ≤ 200000000000 := by rw [hcap.1]; exact hrl
                  have hc6 : c6 ≤ 9223372036854775807 := hcap.2.2
                  clear ho6 hs6 hg6 hfr x0 hcap
                  go_wp2_with fail
                  refine (rnext_any w w6 g' m s who' D1.out.r OK.out).mono ?_
                  rintro e w7 ⟨a7, n7, c7, rfl, hs7, ⟨who2, hr7, hg7⟩, hfr7⟩
                  have D2 := Lib.hid (D1.out.right2 hr7 hg7)
                  replace O6 := Lib.hid (O6.out.turns hg7.t fun j hj e => e (HFR.out j hj).2.2.2)
                  have W2 := Lib.hid (show ∀ j, Value.ownBlock (.slice a6 n6 c6) = some j → who2 j = 0 from fun j hj => (hg7.o j (HFR.out j hj).2.1).trans (HFR.out j hj).2.2.2)
                  have Z7 := Lib.hid hs7
                  have hn7 : n7 ≤ 200000000000 := by rw [← hs7.len]; exact hrl
                  clear hs7 hr7 hg7 hfr7 D1
                  go_wp2_with fail
                  refine (same_any a6 n6 c6 s.ready a7 n7 c7 s.ready w7 (by omega) (by omega) O6.out.slI Z7.out).mono ?_
                  rintro e w8 ⟨rfl, hb8⟩
                  rw [decide_eq_true rfl]
                  replace D2 := Lib.hid (D2.out.keep hb8)
                  replace O6 := Lib.hid (O6.out.keep hb8)
                  clear hb8 Z7
                  go_wp2_with fail
                  refine (spoil_any a6 n6 c6 w8 hc6 O6.out.soft).mono ?_
                  rintro e w9 ⟨rfl, hg⟩
                  replace D2 := Lib.hid (D2.out.turn (Turns.of_grown (S := fun j => a6.map (·.block) = some j) hg fun j e => e) fun j hj => by
                    have hj2 : Value.ownBlock (.slice a6 n6 c6) = some j := by rw [own_map]; exact hj
                    exact ⟨(HFR.out j hj2).2.2.1, W2.out j hj2, by have := (HFR.out j hj2).1; have := LW.out; omega⟩)
                  clear hg O6 W2
                  go_wp2_with fail
                  go_meet
                  exact ⟨by first | rfl | simp, s.next, _, _, D2.out, OK.out.next⟩
                · have t3 : (kd == 3) = false := by rw [beq_eq_false_iff_ne]; exact hk3
                  go_wp2_with fail
                  go_meet
                  exact ⟨rfl, s, who, who', D.out, OK.out⟩
        case rest =>
          obtain ⟨rfl, s1, who1, who1', hd, hok⟩ := hcut
          obtain ⟨w6, rfl⟩ : ∃ w6, w6 = wc := ⟨_, rfl⟩
          replace D := Lib.hid hd
          replace OK := Lib.hid hok
          replace NEW := Lib.hid hd.new
          replace LW := Lib.hid hd.r.low.2.size
          have hrn : (rowsL s1.L).length ≤ 8388608 := by rw [rowsL_len]; exact hok.many
          clear hd hok x0 x1 x2 BX
          go_wp2_with fail
          refine (sspans_any w6 lo g m s1 who1 D.out.l OK.out).mono ?_
          rintro e w7 ⟨a7, n7, c7, vs, rfl, ho7, hk7, hb7⟩
          have O7 := Lib.hid ho7
          have HL7 := Lib.hid (fun j hj => (ho7.t.lt j hj).2)
          have K7 := Lib.hid hk7
          have B7 := Lib.hid hb7
          have hsp7 := KTx.spans ho7 hk7
          have hn7 : n7 ≤ 8388608 := by rw [← hsp7.1]; exact hrn
          have D7 := Lib.hid (D.out.keep hb7)
          clear ho7 hk7 hb7 hsp7
          go_wp2_with fail
          refine (rspansW_any w w7 g' m s1 who1' D7.out.r OK.out).mono ?_
          rintro e w8 ⟨a8, n8, c8, rfl, hs8, hb8⟩
          have S8 := Lib.hid hs8
          have hn8 : n8 ≤ 8388608 := by rw [← hs8.1]; exact hrn
          replace O7 := Lib.hid (O7.out.keep hb8)
          replace K7 := Lib.hid (K7.out.same fun j h1 h2 => hb8.block j h2)
          replace D7 := Lib.hid (D7.out.keep hb8)
          have L8 := hb8.size
          clear hs8 hb8 hrn
          go_wp2_with fail
          refine (rsame_any a7 n7 c7 a8 n8 c8 (rowsL s1.L) (rowsL s1.L) w8 (by omega) (by omega) (KTx.spans O7.out K7.out) S8.out).mono ?_
          rintro e w9 ⟨rfl, hb9⟩
          rw [decide_eq_true rfl]
          have HH := Lib.hid (show ∀ j, Value.ownBlock (.slice a7 n7 c7) = some j → w6.heap.size ≤ j ∧ j < w7.heap.size from fun j hj => ⟨(O7.out.t.lt j hj).1, HL7.out j hj⟩)
          replace O7 := Lib.hid (O7.out.keep hb9)
          replace K7 := Lib.hid (K7.out.same fun j h1 h2 => hb9.block j (by omega))
          replace D7 := Lib.hid (D7.out.keep hb9)
          clear hb9 S8
          go_wp2_with fail
          refine (rspoil_any a7 n7 c7 vs (rowsL s1.L) w6.heap.size w7.heap.size w9 O7.out K7.out HH.out).mono ?_
          rintro e w10 ⟨rfl, hch⟩
          have D10 := Lib.hid (D7.out.turn hch.turns fun j hj => ⟨(NEW.out j hj.1).1, (NEW.out j hj.1).2, by have := LW.out; omega⟩)
          clear hch O7 K7 HH D7 D
          go_wp2_with fail
          go_roundw
          case rel => exact ⟨k + 1, s1, who1, who1', by omega, by go_num, D10.out, OK.out⟩
          case measure => simp [intOf]; omega
      · obtain rfl : k = os.length := by omega
        obtain ⟨nl, hnl⟩ : ∃ nl, os.length = nl := ⟨_, rfl⟩
        rw [hnl]
        have hrl := WS.ready_le OK.out
        have NEW := Lib.hid D.out.new
        clear hlt hk hn hnl
        go_wp2_with fail
        refine (snext_any wr lo g m s who D.out.l OK.out).mono ?_
        rintro e w6 ⟨a6, n6, c6, who1, rfl, ho6, hs6, hg6, hfr⟩
        have D1 := Lib.hid (D.out.left2 hs6 hg6)
        have O6 := Lib.hid ho6
        have hn6 : n6 ≤ 200000000000 := by rw [ho6.capB.1]; exact hrl
        have HFR := Lib.hid (show ∀ j, Value.ownBlock (.slice a6 n6 c6) = some j → who' j = 0 from fun j hj => (NEW.out j (hfr j hj).1).2)
        clear ho6 hs6 hg6 hfr
        go_wp2_with fail
        refine (rnext_any w w6 g' m s who' D1.out.r OK.out).mono ?_
        rintro e w7 ⟨a7, n7, c7, rfl, hs7, ⟨who2, hr7, hg7⟩, hfr7⟩
        have B7 := Lib.hid hr7.low.2
        replace O6 := Lib.hid (O6.out.turns hg7.t fun j hj e => e (HFR.out j hj))
        have Z7 := Lib.hid hs7
        have hn7 : n7 ≤ 200000000000 := by rw [← hs7.len]; exact hrl
        clear hs7 hr7 hg7 hfr7 D1
        go_wp2_with fail
        refine (same_any a6 n6 c6 s.ready a7 n7 c7 s.ready w7 (by omega) (by omega) O6.out.slI Z7.out).mono ?_
        rintro e w8 ⟨rfl, hb8⟩
        rw [decide_eq_true rfl]
        have B8 := Lib.hid (keep_trans B7.out hb8)
        clear hb8 Z7 O6
        go_wp2_with fail
        go_ret
        exact ⟨rfl, B8.out⟩
end Go.Proofs.Ytljcogimeimknaa
