/- FootTrips: the walk. Conditions: the rows and the bytes within reach. Written by a program of this place (gen_FootTrips.py). -/
import Derived.Test.YtpmijgeakmmieaaFootReads
import Derived.Test.YtpmijgeakmmieaaFootTripsM
namespace Go.Proofs.Ytpmijgeakmmieaa
open Go.RowKit

theorem KTx.len {w : World} {lo hi base n c : Nat} {a : Option Addr} {vs : List RV} {rs : List Row} (hO : OwR w base (.slice a n c) vs) (hK : KTx w lo hi (.slice a n c) vs rs) : n = rs.length := by
  obtain ⟨a', n', c', hv, hn', _⟩ := hO.t.slR; cases hv; rw [hn', hK.1]
theorem tmod_in (z : Int) {l : Int} (h : 0 < l) : -l < z.tmod l ∧ z.tmod l < l := by
  rcases Int.lt_or_le z 0 with hz | hz
  · have h1 : z.tmod l = -((-z).tmod l) := by rw [Int.neg_tmod]; omega
    have h2 := Int.tmod_lt_of_pos (-z) h
    have h3 := Int.tmod_nonneg l (show 0 ≤ -z by omega)
    omega
  · have h2 := Int.tmod_lt_of_pos z h
    have h3 := Int.tmod_nonneg l hz
    omega
theorem fit_well {rs : List Row} (h : ∀ r, r ∈ rs → Well 1099511627784 r) : FitR 140737488351232 rs := fun r hr => by
  obtain ⟨a, b, c, d⟩ := h r hr
  exact ⟨by omega, by omega, by omega, by omega⟩
set_option maxHeartbeats 40000000 in
set_option maxRecDepth 100000 in
theorem footTrips_walk (al : Option Addr) (nl cl : Nat) (rs : List Row) (ab : Option Addr) (nb cb : Nat) (b : List UInt8) (z : Int) (am : Option Addr) (nm cm : Nat) (more : List UInt8) (w : World)
    (hn : nl ≤ 140737488351232) (hf : FitR 140737488351232 rs) (hb : nb ≤ 140737488351232) (hz : -9223372036854775808 ≤ z ∧ z ≤ 9223372036854775807) (hm : nm ≤ 140737488351232) (h0 : Spans w al nl cl rs) (h1 : Sl Bf w ab nb cb b) (h2 : Sl Bf w am nm cm more) :
    Calls Try.prog 6 #[.agg #[.slice al nl cl, .slice ab nb cb, .int .i64 z, .slice am nm cm]] w fun e w' => e = .returned (.bool true) ∧ Below w.heap.size w w' := by
  obtain rfl : nl = rs.length := h0.1.symm
  obtain rfl : nb = b.length := h1.len.symm
  obtain rfl : nm = more.length := h2.len.symm
  have HF := Lib.hid hf
  have s0 := (((Stab.spans h0).and (Stab.sl h1)).and (Stab.sl h2)).and (Stab.below (Below.refl w.heap.size w))
  have S := Lib.hid (s0.alloc (.cells #[.slice al rs.length cl, .slice ab b.length cb, .int .i64 z, .slice am more.length cm] 45))
  have T := Lib.hid (Stab.new w (.cells #[.slice al rs.length cl, .slice ab b.length cb, .int .i64 z, .slice am more.length cm] 45))
  obtain ⟨eb, heb⟩ : ∃ eb, fbs rs = eb := ⟨_, rfl⟩
  have HEB := Lib.hid heb
  obtain ⟨⟨r0, r1⟩, hr⟩ : ∃ R, fchk rs = R := ⟨_, rfl⟩
  have HR := Lib.hid hr
  obtain ⟨q1, hq1⟩ : ∃ q : Int, ((r1 : Nat) : Int) = q := ⟨_, rfl⟩
  have HQ1 := Lib.hid hq1
  clear hf h0 h1 h2 s0 heb hr hq1
  go_enter Try.func6, Try.ntmps6
  go_upto_region 1 with (fail)
  obtain ⟨g, hg⟩ : ∃ g, w.heap.size = g := ⟨_, rfl⟩
  rw [hg] at T ⊢
  clear hg
  generalize w.alloc (.cells #[.slice al rs.length cl, .slice ab b.length cb, .int .i64 z, .slice am more.length cm] 45) = w0 at *
  go_wp2_with fail
  refine (lives_any _).mono ?_
  rintro e w1 ⟨rfl, hb1⟩
  replace S := Lib.hid ((S.out.and T.out).keep hb1)
  clear hb1 T
  have c0 := cell_of S.out.now.2 0 rfl
  have c1 := cell_of S.out.now.2 1 rfl
  have c3 := cell_of S.out.now.2 3 rfl
  go_wp2_with fail
  have HC := ffbytes_any al rs.length cl rs w1 (by omega) HF.out S.out.now.1.1.1.1
  rw [HR.out, HEB.out] at HC
  dsimp only at HC
  rw [HQ1.out] at HC
  refine HC.mono ?_
  rintro e w2 ⟨_, rfl, ho, hb2⟩
  obtain ⟨aA, nA, cA, rfl, zA⟩ := ho.slN
  obtain rfl : eb.length = nA := zA.len
  replace S := Lib.hid ((S.out.keep hb2).and (show Stab w2 (fun W => Sl Bf W aA eb.length cA eb) from fun W hb => zA.keep hb))
  clear ho zA hb2 HC c0 c1 c3
  go_wp2_with fail
  have HC := fcheck_any al rs.length cl rs w2 (by omega) HF.out S.out.now.1.1.1.1.1
  rw [HR.out] at HC
  dsimp only at HC
  rw [HQ1.out] at HC
  refine HC.mono ?_
  rintro e w3 ⟨rfl, hb3⟩
  replace S := Lib.hid (S.out.keep hb3)
  clear HC hb3
  obtain ⟨⟨rs2, q2, e2⟩, hR2⟩ : ∃ X, fread b = X := ⟨_, rfl⟩
  have hl2 := fread_len hR2
  have HR2 := Lib.hid hR2
  have hback : e2 = 0 → fbs rs2 = b ∧ fchk rs2 = (0, 0) ∧ FitR 140737488351232 rs2 := fun he => by
    subst he
    obtain ⟨k1, k2⟩ := fread_back hR2
    exact ⟨by rw [fbs_yes k1]; exact k2, fchk_zero k1, fit_well (fchk_all k1).2⟩
  have HBK := Lib.hid hback
  clear hR2 hback
  by_cases hz1 : q1 = 0
  · subst hz1
    have hr1 : (fchk rs).2 = 0 := by rw [HR.out]; have := HQ1.out; show r1 = 0; omega
    have hebs : fbytes rs = eb := by rw [← HEB.out, fbs_yes hr1]
    have hel := fbytes_len hr1
    have hread := fread_of hr1 []
    rw [List.append_nil, if_pos rfl, hebs] at hread
    have hreadm := fread_of hr1 more
    rw [hebs] at hreadm hel
    have hpos : 0 < eb.length := by
      rw [← hebs]; unfold fbytes
      have := vb_pos rs.length
      rw [List.length_append]; omega
    have hshort : ∀ N, N < eb.length → (fread (eb.take N)).2.2 ≠ 0 := fun N hN => by rw [← hebs]; exact fread_short hr1 (by rw [hebs]; exact hN)
    have HSH := Lib.hid hshort
    obtain ⟨⟨rJ, qJ, eJ⟩, hJ⟩ : ∃ X, fread (eb ++ more) = X := ⟨_, rfl⟩
    have HJ := Lib.hid hJ
    have htests : ¬ ((more.length : Int) > 0) ∨ (((more.length : Int) > 0) ∧ eJ = 78 ∧ qJ = eb.length) := by
      rw [hJ] at hreadm
      by_cases hmo : more = []
      · left; rw [hmo]; simp
      · rw [if_neg hmo] at hreadm
        simp only [Prod.mk.injEq] at hreadm
        have : 0 < more.length := List.length_pos_iff.2 hmo
        exact .inr ⟨by omega, hreadm.2.2, hreadm.2.1⟩
    have hlJ := fread_len hJ
    obtain ⟨rm, hrm⟩ : ∃ x, z.tmod (eb.length : Int) = x := ⟨_, rfl⟩
    have hrb : -(eb.length : Int) < rm ∧ rm < (eb.length : Int) := by
      rw [← hrm]
      exact tmod_in z (by omega)
    have HC := fpread_any aA eb.length cA eb w3 (by omega) S.out.now.2
    rw [hread] at HC
    replace HC := Lib.hid HC
    clear hread hreadm hJ hshort hebs hr1
    go_wp2_with fail
    refine HC.out.mono ?_
    rintro e w4 ⟨a1, n1, c1, vs1, rfl, ho, hk, hb4⟩
    obtain rfl := KTx.len ho hk
    have hs1 := KTx.spans ho hk
    replace S := Lib.hid (S.out.keep hb4)
    clear ho hk hb4 HC
    go_wp2_with fail
    have HC := rsame_any a1 rs.length c1 al rs.length cl rs rs w4 (by omega) (by omega) hs1 S.out.now.1.1.1.1.1
    rw [decide_eq_true rfl] at HC
    refine HC.mono ?_
    rintro e w5 ⟨rfl, hb5⟩
    replace S := Lib.hid (S.out.keep hb5)
    clear HC hb5 hs1
    have c2 := cell_of S.out.now.1.2 2 rfl
    have t1 : ((eb.length : Int) == 0) = false := by rw [beq_eq_false_iff_ne]; omega
    have t2 : (eb.length == 0) = false := by rw [beq_eq_false_iff_ne]; omega
    have r1 : IntKind.i64.wrap rm = rm := IntWalk.i64_in _ (by omega)
    have hN : ∃ N : Nat, N < eb.length ∧ (rm < 0 ∧ rm + eb.length = N ∨ ¬ rm < 0 ∧ rm = N) := by
      rcases Int.lt_or_le rm 0 with h | h
      · exact ⟨(rm + eb.length).toNat, by omega, .inl ⟨h, by omega⟩⟩
      · exact ⟨rm.toNat, by omega, .inr ⟨by omega, by omega⟩⟩
    obtain ⟨N, hNl, hNc⟩ := hN
    have HT := Lib.hid htests
    have LJ := Lib.hid hlJ
    have r3 : IntKind.i64.wrap (N : Int) = N := IntWalk.i64_in _ (by omega)
    clear htests hlJ
    rcases hNc with ⟨t4, e4⟩ | ⟨t4, rfl⟩
    all_goals
      have hcut := fun W : World => run_cutto eltB W aA eb.length cA .i64 N (by have := S.out.now.2.le; omega)
      obtain ⟨⟨rsN, qN, eN⟩, hN2⟩ : ∃ X, fread (eb.take N) = X := ⟨_, rfl⟩
      have hne : eN ≠ 0 := by have := HSH.out N hNl; rw [hN2] at this; exact this
      have HC := fpread_any aA N cA (eb.take N) w5 (by omega) (S.out.now.2.upto N (by omega))
      rw [hN2] at HC
      replace HC := Lib.hid HC
      have t6 : (eN == 0) = false := by rw [beq_eq_false_iff_ne]; exact hne
      clear hN2 hne
      go_wp2_with fail
      refine HC.out.mono ?_
      rintro e w6 ⟨a3, n3, c3, vs3, rfl, _, _, hb6⟩
      replace S := Lib.hid (S.out.keep hb6)
      clear HC hb6 c2
      try clear e4
      go_wp2_with (first
        | (at_builtin; refine wpList_appT eltTB rfl (.tmp 92) (.tmp 93) rfl w6.heap.size _ [] (by rfl) (OwT.lit fB w6 w6.heap.size _ _ [] 0 rfl rfl (Nat.le_refl _) (Nat.zero_le _)) aA eb.length cA eb (by rfl) ((S.out.alloc _).now.2).toT (by unfold maxLen; simp; omega) (by simp; omega) (by simp) eb rfl ?_; intro v7 w7 h7 hg7 hv7 hb7; have hb7 := ((Below.refl w6.heap.size w6).alloc (Nat.le_refl _) _).trans hb7)
        | (at_builtin; refine wpList_appG eltTB rfl (.tmp 94) (.tmp 95) rfl w6.heap.size _ eb (by rfl) h7 am more.length cm more (by rfl) ((S.out.keep hb7).now.1.1.1.2).toT (by unfold maxLen; omega) (.wide (by omega)) hb7.size (eb ++ more) rfl ?_; intro v8 w8 h8 hg8 hv8 hb8; have hb8 := hb7.trans hb8; obtain ⟨a8, n8, c8, rfl, z8⟩ := h8.slN))
      have l8 : n8 = eb.length + more.length := by have := z8.len; rw [List.length_append] at this; exact this.symm
      have HC := fpread_any a8 n8 c8 (eb ++ more) w8 (by omega) z8
      rw [HJ.out] at HC
      replace S := Lib.hid (S.out.keep hb8)
      replace HC := Lib.hid HC
      clear h7 hg7 hv7 hb7 h8 hg8 hv8 hb8 z8 l8
      refine HC.out.mono ?_
      rintro e w9 ⟨a9, n9, c9, vs9, rfl, _, _, hb9⟩
      replace S := Lib.hid (S.out.keep hb9)
      clear HC hb9
      rcases HT.out with t7 | ⟨t7, rfl, rfl⟩
      all_goals
        go_wp2_with fail
        have HC := fpread_any ab b.length cb b w9 (by omega) S.out.now.1.1.1.1.2
        rw [HR2.out] at HC
        refine HC.mono ?_
        rintro e w10 ⟨a4, n4, c4, vs4, rfl, ho, hk, hb10⟩
        obtain rfl := KTx.len ho hk
        have hs4 := KTx.spans ho hk
        replace S := Lib.hid (S.out.keep hb10)
        clear ho hk hb10 HC
        by_cases he2 : e2 = 0
        · subst he2
          obtain ⟨k1, k2, k3⟩ := HBK.out rfl
          have HC := ffbytes_any a4 rs2.length c4 rs2 w10 (by omega) k3 hs4
          rw [k1, k2] at HC
          replace HC := Lib.hid HC
          clear k1 k2 k3 hs4
          go_wp2_with fail
          refine HC.out.mono ?_
          rintro e w11 ⟨_, rfl, ho5, hb11⟩
          obtain ⟨a5, n5, c5, rfl, z5⟩ := ho5.slN
          obtain rfl : b.length = n5 := z5.len
          replace S := Lib.hid (S.out.keep hb11)
          have Z5 := Lib.hid z5
          clear ho5 hb11 z5 HC
          go_wp2_with fail
          have HC := same_any a5 b.length c5 b ab b.length cb b w11 (by omega) (by omega) Z5.out S.out.now.1.1.1.1.2
          rw [decide_eq_true rfl] at HC
          refine HC.mono ?_
          rintro e w12 ⟨rfl, hb12⟩
          have FB := Lib.hid (S.out.keep hb12).now.1.1.2
          clear hb12 HC
          go_wp2_with fail
          go_ret
          exact ⟨rfl, FB.out⟩
        · have t9 : (e2 == 0) = false := by rw [beq_eq_false_iff_ne]; exact he2
          have FB := Lib.hid S.out.now.1.1.2
          clear hs4
          go_wp2_with fail
          go_ret
          exact ⟨rfl, FB.out⟩
  · have t1 : (q1 == 0) = false := by rw [beq_eq_false_iff_ne]; exact hz1
    go_wp2_with fail
    have HC := fpread_any ab b.length cb b w3 (by omega) S.out.now.1.1.1.1.2
    rw [HR2.out] at HC
    refine HC.mono ?_
    rintro e w10 ⟨a4, n4, c4, vs4, rfl, ho, hk, hb10⟩
    obtain rfl := KTx.len ho hk
    have hs4 := KTx.spans ho hk
    replace S := Lib.hid (S.out.keep hb10)
    clear ho hk hb10 HC
    by_cases he2 : e2 = 0
    · subst he2
      obtain ⟨k1, k2, k3⟩ := HBK.out rfl
      have HC := ffbytes_any a4 rs2.length c4 rs2 w10 (by omega) k3 hs4
      rw [k1, k2] at HC
      replace HC := Lib.hid HC
      clear k1 k2 k3 hs4
      go_wp2_with fail
      refine HC.out.mono ?_
      rintro e w11 ⟨_, rfl, ho5, hb11⟩
      obtain ⟨a5, n5, c5, rfl, z5⟩ := ho5.slN
      obtain rfl : b.length = n5 := z5.len
      replace S := Lib.hid (S.out.keep hb11)
      have Z5 := Lib.hid z5
      clear ho5 hb11 z5 HC
      go_wp2_with fail
      have HC := same_any a5 b.length c5 b ab b.length cb b w11 (by omega) (by omega) Z5.out S.out.now.1.1.1.1.2
      rw [decide_eq_true rfl] at HC
      refine HC.mono ?_
      rintro e w12 ⟨rfl, hb12⟩
      have FB := Lib.hid (S.out.keep hb12).now.1.1.2
      clear hb12 HC
      go_wp2_with fail
      go_ret
      exact ⟨rfl, FB.out⟩
    · have t9 : (e2 == 0) = false := by rw [beq_eq_false_iff_ne]; exact he2
      have FB := Lib.hid S.out.now.1.1.2
      clear hs4
      go_wp2_with fail
      go_ret
      exact ⟨rfl, FB.out⟩
end Go.Proofs.Ytpmijgeakmmieaa
