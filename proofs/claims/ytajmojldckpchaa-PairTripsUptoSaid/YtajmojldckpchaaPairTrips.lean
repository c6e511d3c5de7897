/- PairTrips: the walk. Conditions: the texts of bulk at most 1048576. -/
import Derived.Test.YtajmojldckpchaaPairTripsM
import Derived.Test.YtajmojldckpchaaPairWalk
import Derived.Test.YtajmojldckpchaaPairRead
import Derived.Test.YtajmojldckpchaaStab
namespace Go.Proofs.Ytajmojldckpchaa
open Go.RowKit

theorem chkN_le {n m : Nat} (h : chkN n m = 0) : n ≤ 64 ∧ m ≤ 256 := by
  unfold chkN keyN valN at h
  split at h <;> split at h <;> simp at h <;> omega

set_option maxRecDepth 100000 in
set_option maxHeartbeats 2000000 in
theorem pairTrips_walk (ap : Option Addr) (np cp : Nat) (p : List UInt8) (ak : Option Addr) (nk ck : Nat) (k : List UInt8) (av : Option Addr) (nv cv : Nat) (v : List UInt8) (aa : Option Addr) (na ca : Nat) (A : List UInt8) (ar : Option Addr) (nr cr : Nat) (R : List UInt8) (w : World)
    (hp : np ≤ 1048576) (hk : nk ≤ 1048576) (hv : nv ≤ 1048576) (ha : na ≤ 1048576) (hr : nr ≤ 1048576) (h0 : Sl Bf w ap np cp p) (h1 : Sl Bf w ak nk ck k) (h2 : Sl Bf w av nv cv v) (h3 : Sl Bf w aa na ca A) (h4 : Sl Bf w ar nr cr R) :
    Calls Try.prog 10 #[.agg #[.slice ap np cp, .slice ak nk ck, .slice av nv cv, .slice aa na ca, .slice ar nr cr]] w fun e w' => e = .returned (.bool true) ∧ Below w.heap.size w w' := by
  obtain rfl : np = p.length := h0.len.symm
  obtain rfl : nk = k.length := h1.len.symm
  obtain rfl : nv = v.length := h2.len.symm
  obtain rfl : na = A.length := h3.len.symm
  obtain rfl : nr = R.length := h4.len.symm
  have hy := written_yes (p := p) (k := k) (v := v) A R (by omega) (by omega) (by omega)
  have hn := written_no (p := p) (k := k) (v := v) A R (by omega) (by omega) (by omega)
  have hl : (ebytes p (k, v)).length ≤ 2097182 := by
    have hc := com_le p k
    unfold ebytes
    have t0 := vb_ten (n := com p k) (by omega)
    have t1 := vb_ten (n := k.length - com p k) (by omega)
    have t2 := vb_ten (n := v.length) (by omega)
    simp; omega
  obtain ⟨eb, heb⟩ : ∃ eb, ebytes p (k, v) = eb := ⟨_, rfl⟩
  rw [heb] at hl hy hn
  have HEB := Lib.hid heb; clear heb
  have HY := Lib.hid hy; clear hy
  have HN := Lib.hid hn; clear hn
  have s0 := ((((Stab.sl h0).and (Stab.sl h1)).and (Stab.sl h2)).and ((Stab.sl h3).and (Stab.sl h4))).and (Stab.below (Below.refl w.heap.size w))
  have S0 := Lib.hid (s0.alloc (.cells #[.slice ap p.length cp, .slice ak k.length ck, .slice av v.length cv, .slice aa A.length ca, .slice ar R.length cr] 52))
  have T0 := Lib.hid (Stab.new w (.cells #[.slice ap p.length cp, .slice ak k.length ck, .slice av v.length cv, .slice aa A.length ca, .slice ar R.length cr] 52))
  clear h0 h1 h2 h3 h4 s0
  go_enter Try.func10, Try.ntmps10
  go_upto_region 1 with (fail)
  obtain ⟨g, hg⟩ : ∃ g, w.heap.size = g := ⟨_, rfl⟩
  rw [hg] at T0 ⊢
  clear hg
  generalize w.alloc (.cells #[.slice ap p.length cp, .slice ak k.length ck, .slice av v.length cv, .slice aa A.length ca, .slice ar R.length cr] 52) = w0 at *
  go_wp2_with fail
  refine (lives_any _).mono ?_
  rintro e w1 ⟨rfl, hb⟩
  replace S0 := Lib.hid (S0.out.keep hb)
  replace T0 := Lib.hid (T0.out.keep hb)
  have c0 := cell_of T0.out.now 0 rfl
  have c1 := cell_of T0.out.now 1 rfl
  have c2 := cell_of T0.out.now 2 rfl
  clear hb
  go_upto_region 4 with (fail)
  replace T0 := Lib.hid (T0.out.alloc (.cells #[.slice ak k.length ck, .slice av v.length cv] 29))
  replace S0 := Lib.hid (S0.out.alloc (.cells #[.slice ak k.length ck, .slice av v.length cv] 29))
  have E := Lib.hid (Stab.new w1 (.cells #[.slice ak k.length ck, .slice av v.length cv] 29))
  obtain ⟨g5, hg⟩ : ∃ g, w1.heap.size = g := ⟨_, rfl⟩
  rw [hg] at E ⊢
  clear hg c0 c1 c2
  generalize w1.alloc (.cells #[.slice ak k.length ck, .slice av v.length cv] 29) = w2 at *
  have c0 := cell_of E.out.now 0 rfl
  have c1 := cell_of E.out.now 1 rfl
  have c3 := cell_of T0.out.now 3 rfl
  have c4 := cell_of T0.out.now 4 rfl
  clear T0
  have hpb := pbytes_any _ _ _ p _ _ _ k _ _ _ v w2 (by omega) (by omega) S0.out.now.1.1.1.1 S0.out.now.1.1.1.2 S0.out.now.1.1.2
  rw [HEB.out] at hpb
  have HPB := Lib.hid hpb; clear hpb
  go_wp2_with fail
  refine HPB.out.mono ?_
  rintro e w3 ⟨_, rfl, ho, hb⟩
  obtain ⟨a8, n8, c8, rfl, z8⟩ := ho.slN
  obtain rfl : eb.length = n8 := z8.len
  replace S0 := Lib.hid (S0.out.keep hb)
  replace E := Lib.hid (E.out.keep hb)
  have O8 := Lib.hid (Stab.sl ho.slI)
  clear hb ho z8 c0 c1 c3 c4 HPB
  go_wp2_with (first
    | (at_builtin; refine wpList_appT eltTB rfl (.tmp 33) (.tmp 34) rfl w3.heap.size _ [] (by rfl) (OwT.lit fB _ w3.heap.size _ _ [] 0 rfl rfl (Nat.le_refl _) (Nat.zero_le _)) aa A.length ca A (by rfl) (S0.out.alloc _).now.1.2.1.toT (by unfold maxLen; simp; omega) (by simp; omega) (by simp) A rfl ?_; intro v4 w4 h4 hg4 hv4 hb4; have hb4 := ((Below.refl w3.heap.size w3).alloc (Nat.le_refl _) _).trans hb4)
    | (at_builtin; refine wpList_appT eltTB rfl (.tmp 35) (.tmp 36) rfl w3.heap.size _ A (by rfl) h4 a8 eb.length c8 eb (by rfl) (O8.out.keep hb4).now.toT (by unfold maxLen; omega) (by omega) hb4.size (A ++ eb) rfl ?_; intro v5 w5 h5 hg5 hv5 hb5; have hb5 := hb4.trans hb5)
    | (at_builtin; refine wpList_appT eltTB rfl (.tmp 37) (.tmp 38) rfl w3.heap.size _ (A ++ eb) (by rfl) h5 ar R.length cr R (by rfl) (S0.out.keep hb5).now.1.2.2.toT (by unfold maxLen; simp; omega) (by simp; omega) hb5.size (A ++ (eb ++ R)) (by simp) ?_; intro v6 w6 h6 hg6 hv6 hb6; have hb6 := hb5.trans hb6; obtain ⟨a6, n6, c6, rfl, z6⟩ := h6.slN))
  replace S0 := Lib.hid (S0.out.keep hb6)
  replace E := Lib.hid (E.out.keep hb6)
  have l6 : n6 = A.length + (eb.length + R.length) := by have := z6.len; simp at this; omega
  have hpr := epread_any _ _ _ p a6 n6 c6 (A ++ (eb ++ R)) A.length w6 (by omega) (by omega) (by omega) S0.out.now.1.1.1.1 z6
  obtain ⟨⟨⟨rk, rv⟩, rq, re⟩, hR⟩ : ∃ X, pread p (A ++ (eb ++ R)) A.length = X := ⟨_, rfl⟩
  have hy := HY.out; have hn := HN.out
  rw [hR] at hpr hy hn
  replace HY := Lib.hid hy; replace HN := Lib.hid hn
  have HPR := Lib.hid hpr
  clear hpr hR hy hn hb4 hb5 hb6 h4 h5 h6 hg4 hg5 hg6 hv4 hv5 hv6 z6 l6 O8
  refine HPR.out.mono ?_
  rintro e w7 ⟨vk, vv, mid, rfl, hk1, hv1, _, _, hb⟩
  obtain ⟨xk, nk, dk, rfl, zk⟩ := hk1.slN
  obtain ⟨xv, nv, dv, rfl, zv⟩ := hv1.slN
  obtain rfl : rk.length = nk := zk.len
  obtain rfl : rv.length = nv := zv.len
  replace S0 := Lib.hid ((S0.out.keep hb).alloc (.cells #[.slice xk rk.length dk, .slice xv rv.length dv] 29))
  replace E := Lib.hid ((E.out.keep hb).alloc (.cells #[.slice xk rk.length dk, .slice xv rv.length dv] 29))
  have X := Lib.hid (((Stab.sl zk).and (Stab.sl zv)).alloc (.cells #[.slice xk rk.length dk, .slice xv rv.length dv] 29) |>.and (Stab.new w7 (.cells #[.slice xk rk.length dk, .slice xv rv.length dv] 29)))
  clear hb hk1 hv1 zk zv HPR
  go_upto_region 9 with (fail)
  obtain ⟨gx, hg⟩ : ∃ g, w7.heap.size = g := ⟨_, rfl⟩
  rw [hg] at X ⊢
  clear hg
  generalize w7.alloc (.cells #[.slice xk rk.length dk, .slice xv rv.length dv] 29) = w8 at *
  have c0 := cell_of E.out.now 0 rfl
  have c1 := cell_of E.out.now 1 rfl
  obtain ⟨q, hq⟩ : ∃ q, chkN k.length v.length = q := ⟨_, rfl⟩
  obtain ⟨cc, hcc⟩ : ∃ c, cmp p k = c := ⟨_, rfl⟩
  have hck := check_any ak k.length ck av v.length cv w8 (by omega) (by omega)
  have hy := HY.out; have hn := HN.out
  have e0 : chk (k, v) = q := hq
  rw [e0, hcc] at hy hn
  replace HY := Lib.hid hy; replace HN := Lib.hid hn
  rw [hq] at hck
  have HCK := Lib.hid hck
  have HCC := Lib.hid hcc
  clear hck hq hcc e0 hy hn
  go_wp2_with fail
  refine HCK.out.mono ?_
  rintro e w9 ⟨rfl, hb⟩
  replace S0 := Lib.hid (S0.out.keep hb)
  replace E := Lib.hid (E.out.keep hb)
  replace X := Lib.hid (X.out.keep hb)
  clear hb c0 c1 HCK
  have c0 := cell_of E.out.now 0 rfl
  have hcp := compare_any _ _ _ p _ _ _ k w9 S0.out.now.1.1.1.1 S0.out.now.1.1.1.2
  rw [HCC.out] at hcp
  have HCP := Lib.hid hcp; clear hcp
  go_wp2_with fail
  refine HCP.out.mono ?_
  rintro e w' ⟨rfl, rfl⟩
  clear c0 HCP
  have x0 := cell_of X.out.now.2 0 rfl
  have x1 := cell_of X.out.now.2 1 rfl
  have c0 := cell_of E.out.now 0 rfl
  have c1 := cell_of E.out.now 1 rfl
  by_cases hc : q = 0 ∧ (p.length = 0 ∨ cc < 0)
  · have hy := HY.out hc
    simp only [Prod.mk.injEq] at hy
    obtain ⟨⟨rfl, rfl⟩, rfl, rfl⟩ := hy
    obtain ⟨rfl, hor⟩ := hc
    have hsm := esame_any _ _ _ _ _ _ _ _ _ _ _ _ rk rv rk rv w9 X.out.now.1.1 X.out.now.1.2 S0.out.now.1.1.1.2 S0.out.now.1.1.2
    rw [decide_eq_true rfl, decide_eq_true rfl, Bool.true_and] at hsm
    have HSM := Lib.hid hsm; clear hsm HN HY HCC HEB X
    have fin : ∀ W', Below w9.heap.size w9 W' → Below w.heap.size w W' := fun W' h => (S0.out.keep h).now.2
    have FIN := Lib.hid fin; clear fin E S0
    by_cases hp0 : p.length = 0
    · have t1 : ((p.length : Int) == 0) = true := by rw [beq_iff_eq]; omega
      have t2 : (p.length == 0) = true := by rw [beq_iff_eq]; exact hp0
      clear hor hp0
      go_wp2_with fail
      refine HSM.out.mono ?_
      rintro e w10 ⟨rfl, hb⟩
      have FB := Lib.hid (FIN.out _ hb); clear hb
      go_wp2_with fail
      go_ret
      exact ⟨ret_bool (by simp), FB.out⟩
    · have t1 : ((p.length : Int) == 0) = false := by rw [beq_eq_false_iff_ne]; omega
      have t2 : (p.length == 0) = false := by rw [beq_eq_false_iff_ne]; exact hp0
      have t3 : decide (cc < 0) = true := decide_eq_true (by omega)
      clear hor hp0
      go_wp2_with fail
      refine HSM.out.mono ?_
      rintro e w10 ⟨rfl, hb⟩
      have FB := Lib.hid (FIN.out _ hb); clear hb
      go_wp2_with fail
      go_ret
      exact ⟨ret_bool (by simp), FB.out⟩
  · have hne : re ≠ 0 := HN.out hc
    have f1 : (re == 0) = false := by rw [beq_eq_false_iff_ne]; exact hne
    obtain ⟨⟨⟨yk, yv⟩, yq, ye⟩, hR2⟩ : ∃ X, pread p R 0 = X := ⟨_, rfl⟩
    have hpr2 := epread_any _ _ _ p ar R.length cr R 0 w9 (by omega) (by omega) (by omega) S0.out.now.1.1.1.1 S0.out.now.1.2.2
    rw [hR2] at hpr2
    have HP2 := Lib.hid (show Calls Try.prog 36 #[.slice ap p.length cp, .slice ar R.length cr, .int .i64 0] w9 (RdPost w9 yk yv yq ye) from hpr2)
    have HR2 := Lib.hid hR2
    clear hpr2 hR2 HN HY HCC HEB X hne x0 x1 c0 c1 E
    have tests : ((q : Int) == 0) = false ∧ (q == 0) = false ∨ ((q : Int) == 0) = true ∧ (q == 0) = true ∧ ((p.length : Int) == 0) = false ∧ (p.length == 0) = false ∧ decide (cc < 0) = false := by
      by_cases hq0 : q = 0
      · right
        have hp0 : ¬ p.length = 0 := fun h => hc ⟨hq0, .inl h⟩
        have hc0 : ¬ cc < 0 := fun h => hc ⟨hq0, .inr h⟩
        exact ⟨by rw [beq_iff_eq]; omega, by rw [beq_iff_eq]; exact hq0, by rw [beq_eq_false_iff_ne]; omega, by rw [beq_eq_false_iff_ne]; exact hp0, decide_eq_false hc0⟩
      · left
        exact ⟨by rw [beq_eq_false_iff_ne]; omega, by rw [beq_eq_false_iff_ne]; exact hq0⟩
    clear hc
    rcases tests with ⟨t1, t2⟩ | ⟨t1, t2, t3, t4, t5⟩
    all_goals
      go_wp2_with fail
      refine HP2.out.mono ?_
      rintro e w10 ⟨uk, uv, mid2, rfl, hk1, hv1, _, _, hb⟩
      obtain ⟨bk, nk, ek, rfl, zk⟩ := hk1.slN
      obtain ⟨bv, nv, ev, rfl, zv⟩ := hv1.slN
      obtain rfl : yk.length = nk := zk.len
      obtain rfl : yv.length = nv := zv.len
      replace S0 := Lib.hid ((S0.out.keep hb).alloc (.cells #[.slice bk yk.length ek, .slice bv yv.length ev] 29))
      have Y := Lib.hid (((Stab.sl zk).and (Stab.sl zv)).alloc (.cells #[.slice bk yk.length ek, .slice bv yv.length ev] 29) |>.and (Stab.new w10 (.cells #[.slice bk yk.length ek, .slice bv yv.length ev] 29)))
      clear hb hk1 hv1 zk zv HP2 t1 t2
      go_upto_region 19 with (fail)
      obtain ⟨gy, hg⟩ : ∃ g, w10.heap.size = g := ⟨_, rfl⟩
      rw [hg] at Y ⊢
      clear hg
      generalize w10.alloc (.cells #[.slice bk yk.length ek, .slice bv yv.length ev] 29) = w11 at *
      by_cases he : ye = 0
      · subst he
        obtain ⟨b1, b2, b3⟩ := read_back (by omega) HR2.out
        obtain ⟨b4, b5⟩ := chkN_le b1
        dsimp only at b4 b5
        have b1' : chkN yk.length yv.length = 0 := b1
        have hck := check_any bk yk.length ek bv yv.length ev w11 (by omega) (by omega)
        rw [b1'] at hck
        have HCK := Lib.hid hck
        have B3 := Lib.hid b3
        have y0 := cell_of Y.out.now.2 0 rfl
        have y1 := cell_of Y.out.now.2 1 rfl
        clear hck b1 b1' b3 HR2
        go_wp2_with fail
        refine HCK.out.mono ?_
        rintro e w12 ⟨rfl, hb⟩
        replace S0 := Lib.hid (S0.out.keep hb)
        replace Y := Lib.hid (Y.out.keep hb)
        clear hb y0 y1 HCK
        have y0 := cell_of Y.out.now.2 0 rfl
        have y1 := cell_of Y.out.now.2 1 rfl
        have hpb := pbytes_any _ _ _ p _ _ _ yk _ _ _ yv w12 (by omega) (by omega) S0.out.now.1.1.1.1 Y.out.now.1.1 Y.out.now.1.2
        rw [B3.out] at hpb
        have HPB := Lib.hid hpb; clear hpb
        go_wp2_with fail
        refine HPB.out.mono ?_
        rintro e w13 ⟨_, rfl, ho, hb⟩
        obtain ⟨a9, n9, c9, rfl, z9⟩ := ho.slN
        have l9 := z9.len
        rw [List.length_take, Nat.min_eq_left b2] at l9
        subst l9
        replace S0 := Lib.hid (S0.out.keep hb)
        clear hb ho y0 y1 HPB Y
        have hle := S0.out.now.1.2.2.le
        have z10 := S0.out.now.1.2.2.upto yq b2
        have hcut := fun W : World => run_cutto eltB W ar R.length cr .i64 yq (by omega)
        have hsm := same_any _ _ _ (R.take yq) _ _ _ (R.take yq) w13 (by omega) (by omega) z9 z10
        rw [decide_eq_true rfl] at hsm
        have HSM := Lib.hid hsm
        have r1 : ¬ ((yq : Int) < 0) := by omega
        have r2 : decide (R.length < yq) = false := decide_eq_false (by omega)
        clear hsm z9 z10 B3
        go_wp2_with fail
        refine HSM.out.mono ?_
        rintro e w14 ⟨rfl, hb⟩
        have FB := Lib.hid (S0.out.keep hb).now.2
        clear hb
        go_wp2_with fail
        go_ret
        exact ⟨ret_bool (by simp), FB.out⟩
      · have f2 : (ye != 0) = true := by rw [bne_iff_ne]; exact he
        have FB := Lib.hid S0.out.now.2
        clear he
        go_wp2_with fail
        go_ret
        exact ⟨rfl, FB.out⟩
end Go.Proofs.Ytajmojldckpchaa
