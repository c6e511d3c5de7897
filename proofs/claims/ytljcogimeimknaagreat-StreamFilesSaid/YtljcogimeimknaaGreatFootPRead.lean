/- What is read of a foot: contract of Read, the program's. Condition: the bytes within reach. Written by a program of this place (gen_FootPRead.py). -/
import Derived.Test.YtljcogimeimknaaGreatK8d
import Derived.Test.YtljcogimeimknaaGreatF8t
import Derived.Test.YtljcogimeimknaaGreatF8r
namespace Go.Proofs.YtljcogimeimknaaGreat
open Go.RowKit
attribute [local go_sem] run_store_fn

theorem spans_stabG {w : World} {g n c hi : Nat} {a : Option Addr} {vs : List RV} {rs : List Row} (hO : OwR w (g + 1) (.slice a n c) vs) (hK : KTx w (g + 1) hi (.slice a n c) vs rs) (hh : hi ≤ w.heap.size) : StabG g w (fun W => Spans W a n c rs) := fun W hg =>
  KTx.spans (hi := hi) (hO.grown hg fun j hj e => by have := (hO.t.lt j hj).1; injection e with e; omega) (hK.same fun j h1 h2 => hg.block j (by omega) (fun e => by injection e with e; omega))
theorem sl_stabG {w W0 : World} {g : Nat} {a : Option Addr} {n c : Nat} {b : List UInt8} (h : Sl Bf w a n c b) (hb : Below w.heap.size w W0) (hg : w.heap.size ≤ g) : StabG g W0 (fun W => Sl Bf W a n c b) := fun W hW =>
  h.keep (hb.grown hW hb.size (fun j hj => by injection hj with hj; omega))
theorem below_grow {w W0 W : World} {g : Nat} (hb : Below w.heap.size w W0) (hW : W0.grownBy W (some g)) (hg : w.heap.size ≤ g) : Below w.heap.size w W := hb.grown hW hb.size (fun j hj => by injection hj with hj; omega)
theorem Rd.row {w : World} {g : Nat} {a : Option Addr} {n c p : Nat} {e q : Int} (h : Rd w g a n c p e q) : w.heap[g]? = some (.cells #[.slice a n c, .int .i64 (p : Nat), .int .i64 e, .int .i64 q] 141 (0, 0)) := h

set_option maxHeartbeats 40000000 in
set_option maxRecDepth 100000 in
theorem fpread_any (a : Option Addr) (n c : Nat) (b : List UInt8) (w : World) (hn : n ≤ 1000000000000000) (h : Sl Bf w a n c b) :
    Calls Tryz.prog 37 #[.slice a n c] w fun ret w' => ROut w w' ret (fread b).1 (fread b).2.1 (fread b).2.2 := by
  obtain rfl : n = b.length := h.len.symm
  obtain ⟨⟨rF, qF, eF⟩, hF⟩ : ∃ X, fread b = X := ⟨_, rfl⟩
  rw [hF]
  dsimp only
  have H := Lib.hid h
  have RR := Lib.hid (heap_new w (.cells #[.slice a b.length c, .int .i64 0, .int .i64 0, .int .i64 0] 141))
  have B0 := Lib.hid ((Below.refl w.heap.size w).alloc (Nat.le_refl _) (.cells #[.slice a b.length c, .int .i64 0, .int .i64 0, .int .i64 0] 141))
  obtain ⟨⟨M, d0, e0'⟩, hrd0⟩ : ∃ X, rd b 0 0 = X := ⟨_, rfl⟩
  clear h
  go_enter Tryz.func37, Tryz.ntmps37
  go_upto_region 2 with (fail)
  obtain ⟨g, hg⟩ : ∃ g, w.heap.size = g := ⟨_, rfl⟩
  rw [hg] at RR ⊢
  have lwg : w.heap.size ≤ g := by omega
  have HG := Lib.hid hg
  clear hg
  generalize w.alloc (.cells #[.slice a b.length c, .int .i64 0, .int .i64 0, .int .i64 0] 141) = w1 at *
  have R1 := Lib.hid (show Rd w1 g a b.length c 0 0 0 from RR.out)
  clear RR
  by_cases he0 : e0' = 0
  · subst he0
    obtain ⟨hd0, hM0⟩ := rd_in hrd0
    have HN := Lib.hid (number_ok g a b.length c 0 b w1 hn (Nat.zero_le _) R1.out (sl_stabG H.out B0.out lwg) (by rw [List.drop_zero]; exact hrd0) (Nat.zero_add d0))
    go_wp2_with fail
    refine HN.out.mono ?_
    rintro ret w2 ⟨rfl, hR, hg⟩
    have R := Lib.hid hR
    have B := Lib.hid (below_grow B0.out hg lwg)
    have lg := hR.lt
    clear hR hg HN B0 R1
    by_cases hbig : 8388608 < M
    · rw [fread_many hrd0 hbig] at hF
      simp only [Prod.mk.injEq] at hF
      obtain ⟨rfl, rfl, rfl⟩ := hF
      have t1 : (M : Int) > 8388608 := by omega
      have HF := Lib.hid (fails0_any g a b.length c d0 71 0 w2 R.out)
      clear hrd0 R
      go_wp2_with fail
      refine HF.out.mono ?_
      rintro ret w3 ⟨rfl, hR, hg⟩
      have R := Lib.hid hR
      replace B := Lib.hid (below_grow B.out hg lwg)
      replace lg := hR.lt
      clear hR hg HF
      have t2 : (M : Int) > 0 := by omega
      have lg0 := R.out.lt
      go_wp2_with fail
      refine (rules_any _).mono ?_
      rintro ret wr0 ⟨rfl, hb⟩
      replace R := Lib.hid ((R.out.keep hb).keep ((Below.refl wr0.heap.size wr0).alloc (Nat.le_refl _) (.cells #[(.func (.func 121) #[] #[]), (.func (.func 122) #[] #[]), .int .i64 73, (.func (.func 123) #[] #[]), (.func (.func 124) #[] #[]), .int .i64 74, (.func (.func 125) #[] #[]), (.func (.func 126) #[] #[]), .int .i64 75] 149)))
      replace B := Lib.hid ((B.out.trans (hb.mono B.out.size)).alloc (Nat.le_trans B.out.size hb.size) (.cells #[(.func (.func 121) #[] #[]), (.func (.func 122) #[] #[]), .int .i64 73, (.func (.func 123) #[] #[]), (.func (.func 124) #[] #[]), .int .i64 74, (.func (.func 125) #[] #[]), (.func (.func 126) #[] #[]), .int .i64 75] 149))
      have T := Lib.hid (heap_new wr0 (.cells #[(.func (.func 121) #[] #[]), (.func (.func 122) #[] #[]), .int .i64 73, (.func (.func 123) #[] #[]), (.func (.func 124) #[] #[]), .int .i64 74, (.func (.func 125) #[] #[]), (.func (.func 126) #[] #[]), .int .i64 75] 149))
      replace lg := R.out.lt
      have lgr : g < wr0.heap.size := Nat.lt_of_lt_of_le lg0 hb.size
      clear hb
      go_wp2_with fail
      generalize wr0.alloc (.cells #[(.func (.func 121) #[] #[]), (.func (.func 122) #[] #[]), .int .i64 73, (.func (.func 123) #[] #[]), (.func (.func 124) #[] #[]), .int .i64 74, (.func (.func 125) #[] #[]), (.func (.func 126) #[] #[]), .int .i64 75] 149) = wl at *
      go_loopw [6] (fun m wr => m = .int .u64 (M : Nat) ∧ (∃ P : Nat, Rd wr g a b.length c P 71 0) ∧ Below w.heap.size w wr) (fun _ _ => 0)
      case atStart => exact ⟨rfl, ⟨_, R.out⟩, B.out⟩
      case round =>
        obtain ⟨rfl, ⟨P, hR⟩, hb⟩ := hrel
        clear R B
        have R := Lib.hid hR
        have B := Lib.hid hb
        clear hR hb
        have c2 := cell_of R.out 2 rfl
        have c3 := cell_of R.out 3 rfl
        have FB := Lib.hid B.out
        go_wp2_with fail
        go_quiet (fail)
        go_wp2_with fail
        go_ret3
        exact ROut.fail (keep_drewN FB.out _)
    · obtain ⟨⟨r0, q0, e0⟩, hr0⟩ : ∃ X, frd b M [] d0 = X := ⟨_, rfl⟩
      have hK : (e0 ≠ 0 → [] = rF ∧ q0 = qF ∧ e0 = eF) ∧ (e0 = 0 → ftl b r0 q0 = (rF, qF, eF)) := by
        refine ⟨fun he => ?_, fun he => ?_⟩
        · rw [fread_bad hrd0 hbig hr0 he] at hF
          simpa using hF
        · subst he
          rw [fread_go hrd0 hbig hr0] at hF
          exact hF
      have K := Lib.hid hK
      have HR0 := Lib.hid hr0
      have t1 : ¬ (M : Int) > 8388608 := by omega
      have hMM : M ≤ 8388608 := by omega
      have lg0 := lg
      clear hK hr0 hrd0 hbig hF
      go_wp2_with fail
      refine (rules_any _).mono ?_
      rintro ret wr0 ⟨rfl, hb⟩
      replace R := Lib.hid ((R.out.keep hb).keep ((Below.refl wr0.heap.size wr0).alloc (Nat.le_refl _) (.cells #[(.func (.func 121) #[] #[]), (.func (.func 122) #[] #[]), .int .i64 73, (.func (.func 123) #[] #[]), (.func (.func 124) #[] #[]), .int .i64 74, (.func (.func 125) #[] #[]), (.func (.func 126) #[] #[]), .int .i64 75] 149)))
      replace B := Lib.hid ((B.out.trans (hb.mono B.out.size)).alloc (Nat.le_trans B.out.size hb.size) (.cells #[(.func (.func 121) #[] #[]), (.func (.func 122) #[] #[]), .int .i64 73, (.func (.func 123) #[] #[]), (.func (.func 124) #[] #[]), .int .i64 74, (.func (.func 125) #[] #[]), (.func (.func 126) #[] #[]), .int .i64 75] 149))
      have T := Lib.hid (heap_new wr0 (.cells #[(.func (.func 121) #[] #[]), (.func (.func 122) #[] #[]), .int .i64 73, (.func (.func 123) #[] #[]), (.func (.func 124) #[] #[]), .int .i64 74, (.func (.func 125) #[] #[]), (.func (.func 126) #[] #[]), .int .i64 75] 149))
      replace lg := R.out.lt
      have lgr : g < wr0.heap.size := Nat.lt_of_lt_of_le lg0 hb.size
      clear hb
      obtain ⟨gA, hgA⟩ : ∃ x, wr0.heap.size = x := ⟨_, rfl⟩
      rw [hgA] at T lgr
      go_wp2_with fail
      try rw [hgA]
      generalize wr0.alloc (.cells #[(.func (.func 121) #[] #[]), (.func (.func 122) #[] #[]), .int .i64 73, (.func (.func 123) #[] #[]), (.func (.func 124) #[] #[]), .int .i64 74, (.func (.func 125) #[] #[]), (.func (.func 126) #[] #[]), .int .i64 75] 149) = wl at *
      have nA : gA ≠ g := by omega
      clear hgA
      go_loopw [6, 8] (fun m sl wr => ∃ (mm P : Nat) (E : Int) (Q : Nat) (vs : List RV), m = .int .u64 (mm : Nat) ∧ mm ≤ M ∧ P ≤ b.length ∧ Rd wr g a b.length c P E Q ∧ OwR wr (g + 1) sl vs ∧ Below w.heap.size w wr ∧ wr.heap[gA]? = some (.cells #[(.func (.func 121) #[] #[]), (.func (.func 122) #[] #[]), .int .i64 73, (.func (.func 123) #[] #[]), (.func (.func 124) #[] #[]), .int .i64 74, (.func (.func 125) #[] #[]), (.func (.func 126) #[] #[]), .int .i64 75] 149 (0, 0)) ∧ Off sl gA ∧
        (E = 0 → ∃ rs, Q = 0 ∧ mm + rs.length = M ∧ KTx wr (g + 1) wr.heap.size sl vs rs ∧ (8 ≤ endR rs ∧ endR rs ≤ 8 + 131072 * (rs.length : Int)) ∧ frd b mm rs P = (r0, q0, e0)) ∧ (E ≠ 0 → [] = rF ∧ Q = qF ∧ E = eF)) (fun m _ _ => (intOf m).toNat)
      case atStart => exact ⟨M, d0, 0, 0, [], rfl, Nat.le_refl _, hd0, R.out, OwZ.nil _ _ _ _ _, B.out, T.out, fun j hj => (by cases hj), fun _ => ⟨[], rfl, rfl, KTx.nil _ _ _ _, ⟨by rw [endR_nil]; omega, by rw [endR_nil]; simp⟩, HR0.out⟩, fun h => absurd rfl h⟩
      case round =>
        obtain ⟨mm, P, E, Q, vs, rfl, hmm, hP, hR, ho, hb, hT, hoff, h0, h1⟩ := hrel
        clear R B T HR0
        have R := Lib.hid hR
        have B := Lib.hid hb
        have T := Lib.hid hT
        have O := Lib.hid ho
        have OF := Lib.hid hoff
        have H0 := Lib.hid h0
        have H1 := Lib.hid h1
        have hlo := hb.size
        have lg := hR.lt
        obtain ⟨al, nl, cl, rfl, hnl, hcl⟩ := ho.t.slR
        have HNL := Lib.hid hnl
        clear hR ho hb hT hoff h0 h1 hnl
        by_cases hE : E = 0
        · subst hE
          obtain ⟨rs, rfl, hML, hkt, hA, hr⟩ := H0.out rfl
          have KT := Lib.hid hkt
          have hvl := hkt.1
          have hn3 : nl ≤ 8388608 := by have := HNL.out; omega
          have HML := Lib.hid hML
          have HVL := Lib.hid hvl
          have c2 := cell_of R.out 2 rfl
          clear H0 H1 hML hkt hvl
          by_cases hm0 : mm = 0
          · subst hm0
            have hr2 : (rs, P, (0 : Int)) = (r0, q0, e0) := hr
            simp only [Prod.mk.injEq] at hr2
            obtain ⟨rfl, rfl, rfl⟩ := hr2
            have hft := K.out.2 rfl
            have t2 : ¬ ((0 : Int) > 0) := by omega
            obtain ⟨⟨v, d, e1⟩, hrd⟩ : ∃ X, rd (b.drop P) 0 0 = X := ⟨_, rfl⟩
            obtain ⟨m, hm⟩ : ∃ m, P + d = m := ⟨_, rfl⟩
            have SB := Lib.hid (sl_stabG H.out B.out lwg)
            have SS := Lib.hid (spans_stabG O.out KT.out (Nat.le_refl _))
            obtain ⟨TT, hTT⟩ : ∃ x, tot rs = x := ⟨_, rfl⟩
            obtain ⟨UU, hUU⟩ : ∃ x, totU rs = x := ⟨_, rfl⟩
            have u8 := totU_eq rs
            rw [hTT, hUU] at u8
            have HTT := Lib.hid hTT
            have HUU := Lib.hid hUU
            clear K hr hA hTT hUU
            by_cases he1 : e1 = 0
            · subst he1
              have HN := Lib.hid (number_ok g a b.length c P b wr hn hP R.out SB.out hrd hm)
              go_wp2_with fail
              refine HN.out.mono ?_
              rintro ret w5 ⟨rfl, hR, hg⟩
              replace R := Lib.hid hR
              replace B := Lib.hid (below_grow B.out hg lwg)
              have HT5 := total_any al nl cl rs w5 (by omega) (SS.out _ hg)
              rw [HTT.out] at HT5
              replace HT5 := Lib.hid HT5
              replace O := Lib.hid (O.out.grown hg fun j hj e => by have := (O.out.t.lt j hj).1; injection e with e; omega)
              replace KT := Lib.hid ((KT.out.same fun j h1 h2 => hg.block j (by omega) (fun e => by injection e with e; omega)).widen (Nat.le_refl _) hg.size)
              have hlo5 := B.out.size
              clear hR hg HN c2 SB SS T OF
              go_wp2_with fail
              refine HT5.out.mono ?_
              rintro ret w6 ⟨rfl, hb6⟩
              replace R := Lib.hid (R.out.keep hb6)
              replace B := Lib.hid (B.out.trans (hb6.mono hlo5))
              replace O := Lib.hid (O.out.keep hb6)
              replace KT := Lib.hid ((KT.out.same fun j _ h2 => hb6.block j h2).widen (Nat.le_refl _) hb6.size)
              clear hb6 HT5
              by_cases hvu : v = UU
              · have t3 : ((v : Int) != (UU : Int)) = false := by rw [hvu]; simp
                have t3' : (v != UU) = false := by rw [hvu]; simp
                have c1 := cell_of R.out 1 rfl
                by_cases hrest : m < b.length
                · rw [ftl_rest hrd (by rw [HUU.out]; exact hvu) (by rw [hm]; exact hrest), hm] at hft
                  simp only [Prod.mk.injEq] at hft
                  obtain ⟨rfl, rfl, rfl⟩ := hft
                  have t4 : (m : Int) < b.length := by omega
                  have HF := Lib.hid (fails0_any g a b.length c m 78 m w6 R.out)
                  clear hrd hvu
                  go_wp2_with fail
                  refine HF.out.mono ?_
                  rintro ret w7 ⟨rfl, hR, hg⟩
                  replace R := Lib.hid hR
                  replace B := Lib.hid (below_grow B.out hg lwg)
                  clear hR hg HF c1
                  have c2 := cell_of R.out 2 rfl
                  have c3 := cell_of R.out 3 rfl
                  have FB := Lib.hid B.out
                  go_wp2_with fail
                  go_quiet (fail)
                  go_wp2_with fail
                  go_ret3
                  exact ROut.fail (keep_drewN FB.out _)
                · rw [ftl_ok hrd (by rw [HUU.out]; exact hvu) (by rw [hm]; exact hrest)] at hft
                  simp only [Prod.mk.injEq] at hft
                  obtain ⟨rfl, rfl, rfl⟩ := hft
                  have t4 : ¬ ((m : Int) < b.length) := by omega
                  have c2 := cell_of R.out 2 rfl
                  have FB := Lib.hid B.out
                  clear hrd hvu
                  go_wp2_with fail
                  go_ret3
                  exact ⟨al, nl, cl, vs, rfl, O.out.base (by omega), KT.out.widen (by omega) (Nat.le_refl _), FB.out⟩
              · have t3 : ((v : Int) != (UU : Int)) = true := by rw [bne_iff_ne]; omega
                have t3' : (v != UU) = true := by rw [bne_iff_ne]; exact hvu
                rw [ftl_bad hrd (by rw [HUU.out]; exact hvu)] at hft
                simp only [Prod.mk.injEq] at hft
                obtain ⟨rfl, rfl, rfl⟩ := hft
                have HF := Lib.hid (fails0_any g a b.length c m 76 P w6 R.out)
                clear hrd
                go_wp2_with fail
                refine HF.out.mono ?_
                rintro ret w7 ⟨rfl, hR, hg⟩
                replace R := Lib.hid hR
                replace B := Lib.hid (below_grow B.out hg lwg)
                have HE1 := Lib.hid (show (76 : Int) ≠ 0 by decide)
                clear hR hg HF
                by_cases hl : m < b.length
                · have t5 : (m : Int) < b.length := by omega
                  have c1 := cell_of R.out 1 rfl
                  have HF := Lib.hid (failsE_any g a b.length c m 76 (P : Nat) 78 m w7 R.out HE1.out)
                  go_wp2_with fail
                  refine HF.out.mono ?_
                  rintro ret w' ⟨rfl, rfl⟩
                  clear HF
                  clear c1
                  have c2 := cell_of R.out 2 rfl
                  have c3 := cell_of R.out 3 rfl
                  have FB := Lib.hid B.out
                  go_wp2_with fail
                  go_quiet (fail)
                  go_wp2_with fail
                  go_ret3
                  exact ROut.fail (keep_drewN FB.out _)
                · have t5 : ¬ ((m : Int) < b.length) := by omega
                  have c1 := cell_of R.out 1 rfl
                  have c2 := cell_of R.out 2 rfl
                  have c3 := cell_of R.out 3 rfl
                  have FB := Lib.hid B.out
                  go_wp2_with fail
                  go_quiet (fail)
                  go_wp2_with fail
                  go_ret3
                  exact ROut.fail (keep_drewN FB.out _)
            · have HN := Lib.hid (fnumber_no g a b.length c P b wr hn hP R.out SB.out hrd he1 hm)
              rw [ftl_no hrd he1, hm] at hft
              simp only [Prod.mk.injEq] at hft
              obtain ⟨rfl, rfl, rfl⟩ := hft
              have HE1 := Lib.hid he1
              have t8 : (e1 != 0) = true := by rw [bne_iff_ne]; exact he1
              have t9 : (e1 == 0) = false := by rw [beq_eq_false_iff_ne]; exact he1
              clear hrd
              go_wp2_with fail
              refine HN.out.mono ?_
              rintro ret w5 ⟨rfl, hR, hg⟩
              replace R := Lib.hid hR
              replace B := Lib.hid (below_grow B.out hg lwg)
              have HT5 := total_any al nl cl rs w5 (by omega) (SS.out _ hg)
              rw [HTT.out] at HT5
              replace HT5 := Lib.hid HT5
              have hlo5 := B.out.size
              clear hR hg HN c2 SB SS T OF O KT
              go_wp2_with fail
              refine HT5.out.mono ?_
              rintro ret w6 ⟨rfl, hb6⟩
              replace R := Lib.hid (R.out.keep hb6)
              replace B := Lib.hid (B.out.trans (hb6.mono hlo5))
              clear hb6 HT5
              by_cases hu : UU = 0
              · subst hu
                by_cases hl : P < b.length
                · have t5 : (P : Int) < b.length := by omega
                  have c1 := cell_of R.out 1 rfl
                  have HF := Lib.hid (failsE_any g a b.length c P e1 (m : Nat) 78 P w6 R.out HE1.out)
                  go_wp2_with fail
                  refine HF.out.mono ?_
                  rintro ret w' ⟨rfl, rfl⟩
                  clear HF
                  clear c1
                  have c2 := cell_of R.out 2 rfl
                  have c3 := cell_of R.out 3 rfl
                  have FB := Lib.hid B.out
                  go_wp2_with fail
                  go_quiet (fail)
                  go_wp2_with fail
                  go_ret3
                  exact ROut.fail (keep_drewN FB.out _)
                · have t5 : ¬ ((P : Int) < b.length) := by omega
                  have c1 := cell_of R.out 1 rfl
                  have c2 := cell_of R.out 2 rfl
                  have c3 := cell_of R.out 3 rfl
                  have FB := Lib.hid B.out
                  go_wp2_with fail
                  go_quiet (fail)
                  go_wp2_with fail
                  go_ret3
                  exact ROut.fail (keep_drewN FB.out _)
              · have t3 : ((0 : Int) != (UU : Int)) = true := by rw [bne_iff_ne]; omega
                have t3' : (0 != UU) = true := by rw [bne_iff_ne]; omega
                have HF := Lib.hid (failsE_any g a b.length c P e1 (m : Nat) 76 P w6 R.out HE1.out)
                go_wp2_with fail
                refine HF.out.mono ?_
                rintro ret w' ⟨rfl, rfl⟩
                clear HF
                by_cases hl : P < b.length
                · have t5 : (P : Int) < b.length := by omega
                  have c1 := cell_of R.out 1 rfl
                  have HF := Lib.hid (failsE_any g a b.length c P e1 (m : Nat) 78 P w6 R.out HE1.out)
                  go_wp2_with fail
                  refine HF.out.mono ?_
                  rintro ret w' ⟨rfl, rfl⟩
                  clear HF
                  clear c1
                  have c2 := cell_of R.out 2 rfl
                  have c3 := cell_of R.out 3 rfl
                  have FB := Lib.hid B.out
                  go_wp2_with fail
                  go_quiet (fail)
                  go_wp2_with fail
                  go_ret3
                  exact ROut.fail (keep_drewN FB.out _)
                · have t5 : ¬ ((P : Int) < b.length) := by omega
                  have c1 := cell_of R.out 1 rfl
                  have c2 := cell_of R.out 2 rfl
                  have c3 := cell_of R.out 3 rfl
                  have FB := Lib.hid B.out
                  go_wp2_with fail
                  go_quiet (fail)
                  go_wp2_with fail
                  go_ret3
                  exact ROut.fail (keep_drewN FB.out _)
          · obtain ⟨j, rfl⟩ : ∃ j, mm = j + 1 := ⟨mm - 1, by omega⟩
            have t2 : (((j + 1 : Nat) : Int) > 0) := by omega
            have u2 : IntKind.u64.wrap (((j + 1 : Nat) : Int) - 1) = (j : Nat) := by rw [show ((j + 1 : Nat) : Int) - 1 = (j : Nat) by omega, IntKind.wrap_u64]; omega
            obtain ⟨M1, hM1⟩ : ∃ x, j + 1 = x := ⟨_, rfl⟩
            have HM1 := Lib.hid hM1
            rw [hM1] at t2 u2 ⊢
            obtain ⟨⟨r, q, e1⟩, hfr⟩ : ∃ X, frow b rs P = X := ⟨_, rfl⟩
            have HRow := Lib.hid (row_any g a b.length c P b al nl cl rs wr hn hP (by omega) ⟨hA.1, by have := hA.2; have := HML.out; omega⟩ R.out ((sl_stabG H.out B.out lwg).and (spans_stabG O.out KT.out (Nat.le_refl _))) hfr)
            have HFR := Lib.hid hfr
            have HA := Lib.hid hA
            have HRR := Lib.hid hr
            clear hfr hA hr hM1 hm0
            have d0 := cell_of T.out 0 rfl
            have d1 := cell_of T.out 1 rfl
            have d2 := cell_of T.out 2 rfl
            have d3 := cell_of T.out 3 rfl
            have d4 := cell_of T.out 4 rfl
            have d5 := cell_of T.out 5 rfl
            have d6 := cell_of T.out 6 rfl
            have d7 := cell_of T.out 7 rfl
            have d8 := cell_of T.out 8 rfl
            go_wp2_with fail
            refine HRow.out.mono ?_
            rintro ret w5 ⟨⟨⟨ax, nx, cx⟩, X, Y, Z⟩, rfl, hg, h0, h1⟩
            have O5 := Lib.hid (O.out.grown hg fun j hj e => by have := (O.out.t.lt j hj).1; injection e with e; omega)
            have G5 := Lib.hid hg
            have H0 := Lib.hid h0
            have H1 := Lib.hid h1
            have lo5 := hg.size
            clear hg h0 h1 HRow c2 d0 d1 d2 d3 d4 d5 d6 d7 d8
            go_wp2_with (at_builtin; refine wpList_appZ eltTR zR_ok rfl (.tmp 36) (.tmp 41) rfl (g + 1) _ vs (by rfl) (O5.out.keep ((Below.refl _ _).alloc (Nat.le_refl _) _)) (some ⟨w5.heap.size, 0, none⟩) 1 1 [((ax, nx, cx), X, Y, Z)] (by rfl) (SlT.litR _ ((ax, nx, cx), X, Y, Z) _ rfl) (by rw [← HNL.out]; unfold maxLen; omega) (by rw [← HNL.out]; omega) (by simp; omega) (vs ++ [((ax, nx, cx), X, Y, Z)]) rfl ?_; intro v7 w7 h7 hg7 hv7 hb7)
            have B6 := Lib.hid ((Below.refl w5.heap.size w5).alloc (Nat.le_refl _) (.cells (fR ((ax, nx, cx), X, Y, Z)).toArray 94))
            have lgA : gA < wr.heap.size := (Array.getElem?_eq_some_iff.1 T.out).1
            have OG : Off (.slice al nl cl) g := fun j hj e => by have := (O.out.t.lt j hj).1; omega
            have B7 := Lib.hid ((((below_grow B.out G5.out lwg).trans (B6.out.mono (by omega))).trans (hb7.mono (by omega : w.heap.size ≤ g + 1))))
            have T7 := Lib.hid (OF.out.keep hg7 ((B6.out.block gA (by omega)).trans ((G5.out.block gA lgA (fun e => by injection e with e; omega)).trans T.out)))
            have OF7 := Lib.hid (OF.out.step (w := w5.alloc (.cells (fR ((ax, nx, cx), X, Y, Z)).toArray 94)) (by simp; omega) hv7)
            have O7 := Lib.hid h7
            have keepR : ∀ (P' : Nat) (E' Q' : Int), Rd w5 g a b.length c P' E' Q' → Rd w7 g a b.length c P' E' Q' := fun _ _ _ h => OG.keep hg7 (h.keep B6.out)
            have KR := Lib.hid keepR
            have HKT : Hid (∀ (hx : (X, Y, Z) = r.2) (hk : OwT fB w5 wr.heap.size 5 (.slice ax nx cx) r.1), KTx w7 (g + 1) w7.heap.size v7 (vs ++ [((ax, nx, cx), X, Y, Z)]) (rs ++ [r])) := Lib.hid fun hx hk =>
              KTx.step (x := ((ax, nx, cx), X, Y, Z)) (w2 := w5.alloc (.cells (fR ((ax, nx, cx), X, Y, Z)).toArray 94)) KT.out (by omega) (Nat.le_trans lo5 B6.out.size) (fun j h1 h2 => (B6.out.block j (by omega)).trans (G5.out.block j h2 (fun e => by injection e with e; omega))) hx (hk.keep B6.out) (fun j hj => (O.out.t.lt j hj).2) hg7 hv7
            clear h7 hg7 hv7 hb7 keepR
            go_roundw
            case rel =>
              by_cases he1 : e1 = 0
              · subst he1
                obtain ⟨g1, g2, g3, g4, g5, g6, g7, _⟩ := frow_in (by have := HA.out.1; omega) hP HFR.out
                obtain ⟨k1, k2, k3⟩ := H0.out rfl
                have hr := HRR.out
                rw [frd_go HFR.out] at hr
                refine ⟨j, q, 0, 0, _, by go_num, by have := HM1.out; omega, g1, KR.out _ _ _ k3, O7.out, B7.out, T7.out, OF7.out, fun _ => ⟨rs ++ [r], rfl, ?_, HKT.out k1 k2, ?_, hr⟩, fun h => absurd rfl h⟩
                · rw [List.length_append]; have := HML.out; simp; omega
                · rw [endR_snoc, g5, List.length_append]; have := HA.out; simp; omega
              · obtain ⟨p', hp', k3⟩ := H1.out he1
                have hr := HRR.out
                rw [frd_no HFR.out he1] at hr
                simp only [Prod.mk.injEq] at hr
                obtain ⟨_, rfl, rfl⟩ := hr
                exact ⟨j, p', e1, q, _, by go_num, by have := HM1.out; omega, hp', KR.out _ _ _ k3, O7.out, B7.out, T7.out, OF7.out, fun h => absurd h he1, fun _ => K.out.1 he1⟩
            case measure => have := HM1.out; simp [intOf]; omega
        · obtain ⟨rfl, rfl, rfl⟩ := H1.out hE
          have t8 : (E != 0) = true := by rw [bne_iff_ne]; exact hE
          have t9 : (E == 0) = false := by rw [beq_eq_false_iff_ne]; exact hE
          have hm : ¬ ((mm : Int) > 0) ∨ ((mm : Int) > 0) := by omega
          clear H0 H1 K T O OF
          rcases hm with t2 | t2
          all_goals
            have c2 := cell_of R.out 2 rfl
            have c3 := cell_of R.out 3 rfl
            have FB := Lib.hid B.out
            go_wp2_with fail
            go_quiet (fail)
            go_wp2_with fail
            go_ret3
            exact ROut.fail (keep_drewN FB.out _)
  · have HN := Lib.hid (fnumber_no g a b.length c 0 b w1 hn (Nat.zero_le _) R1.out (sl_stabG H.out B0.out lwg) (by rw [List.drop_zero]; exact hrd0) he0 (Nat.zero_add d0))
    rw [fread_no hrd0 he0] at hF
    simp only [Prod.mk.injEq] at hF
    obtain ⟨rfl, rfl, rfl⟩ := hF
    have t1 : (e0' != 0) = true := by rw [bne_iff_ne]; exact he0
    have t2 : (e0' == 0) = false := by rw [beq_eq_false_iff_ne]; exact he0
    clear hrd0
    go_wp2_with fail
    refine HN.out.mono ?_
    rintro ret w2 ⟨rfl, hR, hg⟩
    have R := Lib.hid hR
    have B := Lib.hid (below_grow B0.out hg lwg)
    have lg := hR.lt
    clear hR hg HN B0 R1
    have lg0 := R.out.lt
    go_wp2_with fail
    refine (rules_any _).mono ?_
    rintro ret wr0 ⟨rfl, hb⟩
    replace R := Lib.hid ((R.out.keep hb).keep ((Below.refl wr0.heap.size wr0).alloc (Nat.le_refl _) (.cells #[(.func (.func 121) #[] #[]), (.func (.func 122) #[] #[]), .int .i64 73, (.func (.func 123) #[] #[]), (.func (.func 124) #[] #[]), .int .i64 74, (.func (.func 125) #[] #[]), (.func (.func 126) #[] #[]), .int .i64 75] 149)))
    replace B := Lib.hid ((B.out.trans (hb.mono B.out.size)).alloc (Nat.le_trans B.out.size hb.size) (.cells #[(.func (.func 121) #[] #[]), (.func (.func 122) #[] #[]), .int .i64 73, (.func (.func 123) #[] #[]), (.func (.func 124) #[] #[]), .int .i64 74, (.func (.func 125) #[] #[]), (.func (.func 126) #[] #[]), .int .i64 75] 149))
    have T := Lib.hid (heap_new wr0 (.cells #[(.func (.func 121) #[] #[]), (.func (.func 122) #[] #[]), .int .i64 73, (.func (.func 123) #[] #[]), (.func (.func 124) #[] #[]), .int .i64 74, (.func (.func 125) #[] #[]), (.func (.func 126) #[] #[]), .int .i64 75] 149))
    replace lg := R.out.lt
    have lgr : g < wr0.heap.size := Nat.lt_of_lt_of_le lg0 hb.size
    clear hb
    go_wp2_with fail
    generalize wr0.alloc (.cells #[(.func (.func 121) #[] #[]), (.func (.func 122) #[] #[]), .int .i64 73, (.func (.func 123) #[] #[]), (.func (.func 124) #[] #[]), .int .i64 74, (.func (.func 125) #[] #[]), (.func (.func 126) #[] #[]), .int .i64 75] 149) = wl at *
    go_loopw [6] (fun m wr => m = .int .u64 0 ∧ (∃ P : Nat, Rd wr g a b.length c P e0' (d0 : Nat)) ∧ Below w.heap.size w wr) (fun _ _ => 0)
    case atStart => exact ⟨rfl, ⟨_, R.out⟩, B.out⟩
    case round =>
      obtain ⟨rfl, ⟨P, hR⟩, hb⟩ := hrel
      clear R B
      have R := Lib.hid hR
      have B := Lib.hid hb
      clear hR hb
      have c2 := cell_of R.out 2 rfl
      have c3 := cell_of R.out 3 rfl
      have FB := Lib.hid B.out
      go_wp2_with fail
      go_quiet (fail)
      go_wp2_with fail
      go_ret3
      exact ROut.fail (keep_drewN FB.out _)
end Go.Proofs.YtljcogimeimknaaGreat
