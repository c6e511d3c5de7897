/- What the reference reads of bytes behind a text: contract. Conditions: the texts within reach. -/
import Derived.Test.YtljcogimeimknaaGreatPairRead
import Derived.Test.YtljcogimeimknaaGreatVintRRead
import Derived.Test.YtljcogimeimknaaGreatK8b
import Derived.Deep.RegionLaw
namespace Go.Proofs.YtljcogimeimknaaGreat
open Go.RowKit
set_option linter.unusedVariables false

set_option maxRecDepth 100000 in
theorem erread_bad (ap : Option Addr) (np cp : Nat) (ab : Option Addr) (nb cb : Nat) (x : Int) (w : World) (hn : nb ≤ 140737488351232) (hx : x < 0 ∨ (nb : Int) < x) :
    Calls Tryz.prog 146 #[.slice ap np cp, .slice ab nb cb, .int .i64 x] w fun e w' => RdPost w [] [] 0 1 e w' := by
  by_cases h0 : x < 0
  · go_enter Tryz.func146, Tryz.ntmps146
    go_wp2_with fail
    exact bodyPost_ret (v := .tuple #[.agg #[.slice none 0 0, .slice none 0 0], .int .i64 0, .int .i64 1]) (by simp [results, Tryz.results146, go_sem]) rfl (RdPost.no ((Below.refl _ _).alloc (Nat.le_refl _) _))
  · have h1 : (nb : Int) < x := by omega
    go_enter Tryz.func146, Tryz.ntmps146
    go_wp2_with fail
    exact bodyPost_ret (v := .tuple #[.agg #[.slice none 0 0, .slice none 0 0], .int .i64 0, .int .i64 1]) (by simp [results, Tryz.results146, go_sem]) rfl (RdPost.no ((Below.refl _ _).alloc (Nat.le_refl _) _))
-- HEAD
set_option maxHeartbeats 8000000 in
set_option maxRecDepth 100000 in
theorem erread_any (ap : Option Addr) (np cp : Nat) (p : List UInt8) (ab : Option Addr) (nb cb : Nat) (b : List UInt8) (a : Nat) (w : World) (hp : np ≤ 140737488351232) (hb : nb ≤ 140737488351232) (ha : a ≤ nb) (h0 : Sl Bf w ap np cp p) (h1 : Sl Bf w ab nb cb b) :
    Calls Tryz.prog 146 #[.slice ap np cp, .slice ab nb cb, .int .i64 a] w fun e w' => RdPost w (pread p b a).1.1 (pread p b a).1.2 (pread p b a).2.1 (pread p b a).2.2 e w' := by
  obtain rfl : np = p.length := h0.len.symm
  obtain rfl : nb = b.length := h1.len.symm
  have P := Lib.hid h0; clear h0
  have S := Lib.hid h1; clear h1
  obtain ⟨⟨⟨rk, rv⟩, rq, re⟩, hR⟩ : ∃ R, pread p b a = R := ⟨_, rfl⟩
  rw [hR]
  dsimp only
  have HR := Lib.hid hR; clear hR
  have fa : ¬ ((a : Int) < 0) := by omega
  have fb : ¬ ((b.length : Int) < (a : Int)) := by omega
  have he6 : Eb (w.alloc (.cells #[.slice none 0 0, .slice none 0 0] 51)) w.heap.size (.slice none 0 0) (.slice none 0 0) := heap_new w _
  have hb6 : Below w.heap.size w (w.alloc (.cells #[.slice none 0 0, .slice none 0 0] 51)) := (Below.refl _ _).alloc (Nat.le_refl _) _
  have E6 := Lib.hid he6; clear he6
  have B := Lib.hid hb6; clear hb6
  go_enter Tryz.func146, Tryz.ntmps146
  go_upto_region 3 with (fail)
  obtain ⟨g6, hg6⟩ : ∃ g, w.heap.size = g := ⟨_, rfl⟩
  rw [hg6] at E6 ⊢
  have q1 : w.heap.size ≤ g6 := by omega
  clear hg6
  generalize w.alloc (.cells #[.slice none 0 0, .slice none 0 0] 51) = w1 at *
  have c60 := E6.out.c0
  have c61 := E6.out.c1
  have c6f := E6.out.free
  obtain ⟨⟨s, j, e0⟩, hr0⟩ : ∃ R, rd (b.drop a) 0 0 = R := ⟨_, rfl⟩
  have hv0 := rread_any _ _ _ b a w1 (by omega) ha (S.out.keep B.out)
  rw [hr0] at hv0
  dsimp only at hv0
  have HV0 := Lib.hid hv0; clear hv0
  by_cases he0 : e0 ≠ 0
  · skip
    have f1 : (e0 != 0) = true := by rw [bne_iff_ne]; exact he0
    have hpe := HR.out
    rw [pread_no (pr3_no hr0 he0) he0] at hpe
    clear HR
    obtain ⟨⟨rfl, rfl⟩, rfl, rfl⟩ : ([] = rk ∧ [] = rv) ∧ a + j = rq ∧ e0 = re := by simpa using hpe
    clear hpe he0
    go_wp2_with fail
    refine HV0.out.mono ?_
    rintro e' w' ⟨rfl, rfl⟩
    go_wp2_with fail
    have D := E6.out.none2
    have d0 := D.c0
    have d1 := D.c1
    exact bodyPost_ret (v := .tuple #[.agg #[.slice none 0 0, .slice none 0 0], .int .i64 (((a + j : Nat) : Int)), .int .i64 (e0)]) (by simp [results, Tryz.results146, d0, d1, go_sem]) rfl (RdPost.no ((B.out.setCell (p := ⟨g6, 0, none⟩) q1 _).setCell (p := ⟨g6, 1, none⟩) q1 _))
  replace he0 : e0 = 0 := by omega
  subst he0
  obtain ⟨hj, hs64⟩ := rd_in hr0
  rw [List.length_drop] at hj
  obtain ⟨⟨m, k, e1⟩, hr1⟩ : ∃ R, rd (b.drop (a + j)) 0 0 = R := ⟨_, rfl⟩
  have hv1 := rread_any _ _ _ b (a + j) w1 (by omega) (by omega) (S.out.keep B.out)
  rw [hr1] at hv1
  dsimp only at hv1
  have HV1 := Lib.hid hv1; clear hv1
  by_cases he1 : e1 ≠ 0
  · skip
    have f1 : (e1 != 0) = true := by rw [bne_iff_ne]; exact he1
    have hpe := HR.out
    rw [pread_no ((pr3_go hr0).trans (pr3_no hr1 he1)) he1] at hpe
    clear HR
    obtain ⟨⟨rfl, rfl⟩, rfl, rfl⟩ : ([] = rk ∧ [] = rv) ∧ a + j + k = rq ∧ e1 = re := by simpa using hpe
    clear hpe he1
    go_wp2_with fail
    refine HV0.out.mono ?_
    rintro e' w' ⟨rfl, rfl⟩
    go_wp2_with fail
    refine HV1.out.mono ?_
    rintro e' w' ⟨rfl, rfl⟩
    go_wp2_with fail
    have D := E6.out.none2
    have d0 := D.c0
    have d1 := D.c1
    exact bodyPost_ret (v := .tuple #[.agg #[.slice none 0 0, .slice none 0 0], .int .i64 (((a + j + k : Nat) : Int)), .int .i64 (e1)]) (by simp [results, Tryz.results146, d0, d1, go_sem]) rfl (RdPost.no ((B.out.setCell (p := ⟨g6, 0, none⟩) q1 _).setCell (p := ⟨g6, 1, none⟩) q1 _))
  replace he1 : e1 = 0 := by omega
  subst he1
  obtain ⟨hk, hm64⟩ := rd_in hr1
  rw [List.length_drop] at hk
  obtain ⟨⟨n, i, e2⟩, hr2⟩ : ∃ R, rd (b.drop (a + j + k)) 0 0 = R := ⟨_, rfl⟩
  have hv2 := rread_any _ _ _ b (a + j + k) w1 (by omega) (by omega) (S.out.keep B.out)
  rw [hr2] at hv2
  dsimp only at hv2
  have HV2 := Lib.hid hv2; clear hv2
  by_cases he2 : e2 ≠ 0
  · skip
    have f1 : (e2 != 0) = true := by rw [bne_iff_ne]; exact he2
    have hpe := HR.out
    rw [pread_no (((pr3_go hr0).trans (pr3_go hr1)).trans (pr3_no hr2 he2)) he2] at hpe
    clear HR
    obtain ⟨⟨rfl, rfl⟩, rfl, rfl⟩ : ([] = rk ∧ [] = rv) ∧ a + j + k + i = rq ∧ e2 = re := by simpa using hpe
    clear hpe he2
    go_wp2_with fail
    refine HV0.out.mono ?_
    rintro e' w' ⟨rfl, rfl⟩
    go_wp2_with fail
    refine HV1.out.mono ?_
    rintro e' w' ⟨rfl, rfl⟩
    go_wp2_with fail
    refine HV2.out.mono ?_
    rintro e' w' ⟨rfl, rfl⟩
    go_wp2_with fail
    have D := E6.out.none2
    have d0 := D.c0
    have d1 := D.c1
    exact bodyPost_ret (v := .tuple #[.agg #[.slice none 0 0, .slice none 0 0], .int .i64 (((a + j + k + i : Nat) : Int)), .int .i64 (e2)]) (by simp [results, Tryz.results146, d0, d1, go_sem]) rfl (RdPost.no ((B.out.setCell (p := ⟨g6, 0, none⟩) q1 _).setCell (p := ⟨g6, 1, none⟩) q1 _))
  replace he2 : e2 = 0 := by omega
  subst he2
  obtain ⟨hi, hn64⟩ := rd_in hr2
  rw [List.length_drop] at hi
  have hpe := HR.out
  rw [pread_ok (pr3_ok hr0 hr1 hr2)] at hpe
  obtain ⟨pl, hpl⟩ : ∃ pl, a + j + k + i = pl := ⟨_, rfl⟩
  rw [hpl] at hpe HV2
  have hplb : pl ≤ b.length := by omega
  clear HR hr0 hr1 hr2
  have HPL := Lib.hid hpl; clear hpl hi hk hj
  go_wp2_with fail
  refine HV0.out.mono ?_
  rintro e' w' ⟨rfl, rfl⟩
  go_wp2_with fail
  refine HV1.out.mono ?_
  rintro e' w' ⟨rfl, rfl⟩
  go_wp2_with fail
  refine HV2.out.mono ?_
  rintro e' w' ⟨rfl, rfl⟩
  clear HV0 HV1 HV2
  have up : IntKind.u64.wrap (p.length : Int) = p.length := by rw [IntKind.wrap_u64]; omega
  by_cases k1 : p.length < s
  · rw [pend_s k1] at hpe
    obtain ⟨⟨rfl, rfl⟩, rfl, rfl⟩ : ([] = rk ∧ [] = rv) ∧ a = rq ∧ 52 = re := by simpa using hpe
    clear hpe 
    go_wp2_with fail
    have D := E6.out.none2
    have d0 := D.c0
    have d1 := D.c1
    exact bodyPost_ret (v := .tuple #[.agg #[.slice none 0 0, .slice none 0 0], .int .i64 (((a : Nat) : Int)), .int .i64 (52)]) (by simp [results, Tryz.results146, d0, d1, go_sem]) rfl (RdPost.no ((B.out.setCell (p := ⟨g6, 0, none⟩) q1 _).setCell (p := ⟨g6, 1, none⟩) q1 _))
  · have ps : s ≤ p.length := by omega
    have K1 := Lib.hid k1
    by_cases m1 : (64 : Int) < (m : Int)
    · rw [pend_long k1 (.inl (by omega))] at hpe
      obtain ⟨⟨rfl, rfl⟩, rfl, rfl⟩ : ([] = rk ∧ [] = rv) ∧ a = rq ∧ 3 = re := by simpa using hpe
      clear hpe k1
      go_wp2_with fail
      have D := E6.out.none2
      have d0 := D.c0
      have d1 := D.c1
      exact bodyPost_ret (v := .tuple #[.agg #[.slice none 0 0, .slice none 0 0], .int .i64 (((a : Nat) : Int)), .int .i64 (3)]) (by simp [results, Tryz.results146, d0, d1, go_sem]) rfl (RdPost.no ((B.out.setCell (p := ⟨g6, 0, none⟩) q1 _).setCell (p := ⟨g6, 1, none⟩) q1 _))
    · by_cases m2 : (256 : Int) < (n : Int)
      · rw [pend_long k1 (.inr (.inl (by omega)))] at hpe
        obtain ⟨⟨rfl, rfl⟩, rfl, rfl⟩ : ([] = rk ∧ [] = rv) ∧ a = rq ∧ 3 = re := by simpa using hpe
        clear hpe k1
        go_wp2_with fail
        have D := E6.out.none2
        have d0 := D.c0
        have d1 := D.c1
        exact bodyPost_ret (v := .tuple #[.agg #[.slice none 0 0, .slice none 0 0], .int .i64 (((a : Nat) : Int)), .int .i64 (3)]) (by simp [results, Tryz.results146, d0, d1, go_sem]) rfl (RdPost.no ((B.out.setCell (p := ⟨g6, 0, none⟩) q1 _).setCell (p := ⟨g6, 1, none⟩) q1 _))
      · have mm : m ≤ 64 := by omega
        have nn : n ≤ 256 := by omega
        by_cases m3 : (s : Int) + (m : Int) < 1
        · rw [pend_long k1 (.inr (.inr (.inl (by omega))))] at hpe
          obtain rfl : s = 0 := by omega
          obtain rfl : m = 0 := by omega
          obtain ⟨⟨rfl, rfl⟩, rfl, rfl⟩ : ([] = rk ∧ [] = rv) ∧ a = rq ∧ 3 = re := by simpa using hpe
          clear hpe k1 m3 mm nn
          go_wp2_with fail
          have D := E6.out.none2
          have d0 := D.c0
          have d1 := D.c1
          exact bodyPost_ret (v := .tuple #[.agg #[.slice none 0 0, .slice none 0 0], .int .i64 (((a : Nat) : Int)), .int .i64 (3)]) (by simp [results, Tryz.results146, d0, d1, go_sem]) rfl (RdPost.no ((B.out.setCell (p := ⟨g6, 0, none⟩) q1 _).setCell (p := ⟨g6, 1, none⟩) q1 _))
        · by_cases m4 : (64 : Int) < (s : Int) + (m : Int)
          · rw [pend_long k1 (.inr (.inr (.inr (by omega))))] at hpe
            obtain ⟨⟨rfl, rfl⟩, rfl, rfl⟩ : ([] = rk ∧ [] = rv) ∧ a = rq ∧ 3 = re := by simpa using hpe
            clear hpe k1
            go_wp2_with fail
            have D := E6.out.none2
            have d0 := D.c0
            have d1 := D.c1
            exact bodyPost_ret (v := .tuple #[.agg #[.slice none 0 0, .slice none 0 0], .int .i64 (((a : Nat) : Int)), .int .i64 (3)]) (by simp [results, Tryz.results146, d0, d1, go_sem]) rfl (RdPost.no ((B.out.setCell (p := ⟨g6, 0, none⟩) q1 _).setCell (p := ⟨g6, 1, none⟩) q1 _))
          · have hlong : ¬ (64 < m ∨ 256 < n ∨ s + m = 0 ∨ 64 < s + m) := by omega
            have HLong := Lib.hid hlong; clear hlong
            have imm : IntKind.i64.wrap (m : Int) = m := by rw [IntKind.wrap_i64]; omega
            have inn : IntKind.i64.wrap (n : Int) = n := by rw [IntKind.wrap_i64]; omega
            have iss : IntKind.i64.wrap (s : Int) = s := by rw [IntKind.wrap_i64]; omega
            by_cases k3 : (b.length : Int) - (pl : Int) < (m : Int) + (n : Int)
            · rw [pend_short k1 HLong.out (by omega)] at hpe
              obtain ⟨⟨rfl, rfl⟩, rfl, rfl⟩ : ([] = rk ∧ [] = rv) ∧ b.length = rq ∧ 53 = re := by simpa using hpe
              clear hpe k1
              go_wp2_with fail
              have D := E6.out.none2
              have d0 := D.c0
              have d1 := D.c1
              exact bodyPost_ret (v := .tuple #[.agg #[.slice none 0 0, .slice none 0 0], .int .i64 (((b.length : Nat) : Int)), .int .i64 (53)]) (by simp [results, Tryz.results146, d0, d1, go_sem]) rfl (RdPost.no ((B.out.setCell (p := ⟨g6, 0, none⟩) q1 _).setCell (p := ⟨g6, 1, none⟩) q1 _))
            · have k3n : ¬ b.length - pl < m + n := by omega
              have K3 := Lib.hid k3n; clear k3n
              have mb : pl + m + n ≤ b.length := by omega
              obtain ⟨key, hkey⟩ : ∃ key, p.take s ++ (b.drop pl).take m = key := ⟨_, rfl⟩
              have hkl : key.length = s + m := by rw [← hkey]; simp; omega
              have HKey := Lib.hid hkey; clear hkey
              clear k1
              have hcb := S.out.le
              have hcp := P.out.le
              have c1 := fun W : World => run_cutto eltB W ap p.length cp .u64 s (by omega)
              have E5 : (pl + m) - pl = m := by omega
              have c2 := fun W : World => run_cut eltB W ab b.length cb .i64 .i64 pl (pl + m) (by omega) (by omega)
              rw [E5] at c2
              push_cast at c2
              clear E5
              have wpm : IntKind.i64.wrap ((pl : Int) + (m : Int)) = (pl : Int) + m := IntWalk.i64_in _ (by omega)
              have wpm0 : (0 : Int) ≤ (pl : Int) + m := by omega
              have hba : Below w1.heap.size w1 (w1.drew.alloc (.cells #[] 5)) := (Below.refl w1.heap.size w1).drew.alloc (Nat.le_refl _) _
              have SP := Lib.hid (((P.out.keep (keep_trans B.out hba)).upto s ps).toT)
              have SB := Lib.hid (show SlT fB 1 (w1.drew.alloc (.cells #[] 5)) (adv ab cb pl) m (cb - pl) ((b.drop pl).take m) by
                have := ((S.out.keep (keep_trans B.out hba)).from pl hplb).upto m (by omega); exact this.toT)
              have SB0 := Lib.hid (((S.out.keep B.out).from pl hplb).upto m (by omega))
              have OL := Lib.hid (OwT.lit fB w1.drew w1.heap.size 5 #[] [] 0 rfl rfl (Nat.le_refl _) (Nat.zero_le _))
              have HBA := Lib.hid hba; clear hba
              go_upto_region 20 with (fail)
              go_region_law (first
                | (refine step_appT eltTB rfl (.tmp 104) (.tmp 107) rfl w1.heap.size (.slice (some ⟨w1.heap.size, 0, none⟩) 0 0) [] (by simp [Act.eval]) OL.out ap s cp (p.take s) (by simp [Act.eval]) SP.out (by simp; unfold maxLen; omega) (by simp; omega) (by simp) (p.take s) rfl ?_; intro v5 w5 h5 hg5 hv5 hb5; obtain ⟨a5, n5, c5, rfl, z5⟩ := h5.slN; have lz5 := z5.len; have O5 := Lib.hid h5; have X5 := Lib.hid (HBA.out.trans hb5); clear h5 hv5 hb5 z5)
                | (refine step_appT eltTB rfl (.tmp 108) (.tmp 114) rfl w1.heap.size (.slice a5 n5 c5) (p.take s) (by simp [Act.eval]) O5.out (adv ab cb pl) m (cb - pl) ((b.drop pl).take m) (by simp [Act.eval]) (SB0.out.keep X5.out).toT (by simp; unfold maxLen; omega) (by simp; omega) (X5.out.size) key HKey.out ?_; intro v6 w6 h6 hg6 hv6 hb6; obtain ⟨ak, nk, ck, rfl, zk⟩ := h6.slN; have lk := zk.len; have K6 := Lib.hid h6; have X6 := Lib.hid (X5.out.trans hb6); clear h6 hv6 hb6 zk))
              clear wpm wpm0 OL SB SP SB0 HBA
              have lg1 := E6.out.lt
              replace E6 := Lib.hid (E6.out.keep X6.out)
              replace B := Lib.hid (keep_trans B.out X6.out)
              have l16 : w1.heap.size ≤ w6.heap.size := X6.out.size
              have lw1 : w.heap.size ≤ w1.heap.size := by omega
              rw [hkl] at lk
              clear X6 X5 O5 lz5 c60 c61 c6f hg5 hg6
              have hcom := rcommon_any _ _ _ p _ _ _ key w6 (by omega) (by omega) (P.out.keep B.out) K6.out.slI
              obtain ⟨cc, hcc⟩ : ∃ cc, com p key = cc := ⟨_, rfl⟩
              rw [hcc] at hcom
              have HCom := Lib.hid hcom; clear hcom
              go_wp2_with fail
              refine HCom.out.mono ?_
              rintro e w7 ⟨rfl, hb7⟩
              replace E6 := Lib.hid (E6.out.keep hb7)
              replace B := Lib.hid (keep_trans B.out hb7)
              have K := Lib.hid (K6.out.keep hb7)
              have l17 : w1.heap.size ≤ w7.heap.size := Nat.le_trans l16 hb7.size
              clear hb7 HCom K6 l16
              have c60 := E6.out.c0
              have c61 := E6.out.c1
              have c6f := E6.out.free
              by_cases k4 : cc = s
              · subst k4
                have hk4 : com p (p.take cc ++ (b.drop pl).take m) = cc := by rw [HKey.out]; exact hcc
                have HK4 := Lib.hid hk4
                clear hk4 hcc
                have S4 := Lib.hid (((S.out.keep B.out).cut (pl + m) (pl + m + n) (by omega) mb))
                obtain ⟨cm, hcm⟩ : ∃ cm, cmp p key = cm := ⟨_, rfl⟩
                have hcmp := rcompare_any _ _ _ p _ _ _ key w7 (by omega) (by omega) (P.out.keep B.out) K.out.slI
                rw [hcm] at hcmp
                have HCmp := Lib.hid hcmp; clear hcmp
                have HCM := Lib.hid hcm; clear hcm
                have E5 : (pl + m + n) - (pl + m) = n := by omega
                have cut4 := fun W : World => run_cut eltB W ab b.length cb .i64 .i64 (pl + m) (pl + m + n) (by omega) (by omega)
                rw [E5] at S4 cut4
                push_cast at cut4
                have EQ := Lib.hid (show (b.take (pl + m + n)).drop (pl + m) = (b.drop (pl + m)).take n by rw [List.drop_take, E5])
                rw [EQ.out] at S4
                clear E5
                by_cases k5 : 0 < p.length
                · have K0 := Lib.hid K.out.lt
                  by_cases k6 : 0 ≤ cm
                  · rw [pend_cmp K1.out HLong.out K3.out HK4.out ⟨k5, by rw [HKey.out, HCM.out]; exact k6⟩] at hpe
                    obtain ⟨⟨rfl, rfl⟩, rfl, rfl⟩ : ([] = rk ∧ [] = rv) ∧ a = rq ∧ 51 = re := by simpa using hpe
                    clear hpe 
                    go_wp2_with fail
                    refine HCmp.out.mono ?_
                    rintro e w9 ⟨rfl, hb9⟩
                    replace E6 := Lib.hid (E6.out.keep hb9)
                    replace B := Lib.hid (keep_trans B.out hb9)
                    replace K := Lib.hid (K.out.keep hb9)
                    replace S4 := Lib.hid (S4.out.keep hb9)
                    replace l17 : w1.heap.size ≤ w9.heap.size := Nat.le_trans l17 hb9.size
                    clear hb9 c60 c61 c6f
                    have c60 := E6.out.c0
                    have c61 := E6.out.c1
                    have c6f := E6.out.free
                    go_wp2_with fail
                    have D := E6.out.none2
                    have d0 := D.c0
                    have d1 := D.c1
                    exact bodyPost_ret (v := .tuple #[.agg #[.slice none 0 0, .slice none 0 0], .int .i64 (((a : Nat) : Int)), .int .i64 (51)]) (by simp [results, Tryz.results146, d0, d1, go_sem]) rfl (RdPost.no ((B.out.setCell (p := ⟨g6, 0, none⟩) q1 _).setCell (p := ⟨g6, 1, none⟩) q1 _))
                  · skip
                    rw [pend_ok K1.out HLong.out K3.out HK4.out (fun h => k6 (by have := h.2; rw [HKey.out, HCM.out] at this; exact this))] at hpe
                    rw [HKey.out] at hpe
                    obtain ⟨⟨rfl, hrv⟩, rfl, rfl⟩ : (key = rk ∧ (b.drop (pl + m)).take n = rv) ∧ pl + m + n = rq ∧ 0 = re := by simpa using hpe
                    have HRV := Lib.hid hrv; clear hrv hpe
                    have l79 : w7.heap.size ≤ w7.heap.size := Nat.le_refl _
                    go_wp2_with fail
                    refine HCmp.out.mono ?_
                    rintro e w9 ⟨rfl, hb9⟩
                    replace E6 := Lib.hid (E6.out.keep hb9)
                    replace B := Lib.hid (keep_trans B.out hb9)
                    replace K := Lib.hid (K.out.keep hb9)
                    replace S4 := Lib.hid (S4.out.keep hb9)
                    replace l17 : w1.heap.size ≤ w9.heap.size := Nat.le_trans l17 hb9.size
                    replace l79 : w7.heap.size ≤ w9.heap.size := hb9.size
                    clear hb9 c60 c61 c6f
                    have c60 := E6.out.c0
                    have c61 := E6.out.c1
                    have c6f := E6.out.free
                    have hba : Below w9.heap.size w9 (w9.alloc (.cells #[] 5)) := (Below.refl _ _).alloc (Nat.le_refl _) _
                    have BA := Lib.hid hba; clear hba
                    have lz := E6.out.lt
                    replace E6 := Lib.hid (E6.out.keep BA.out)
                    have BZ := Lib.hid (keep_trans B.out BA.out)
                    replace K := Lib.hid (K.out.keep BA.out)
                    have SZ := Lib.hid (S4.out.keep BA.out)
                    have OZ := Lib.hid (OwT.lit fB w9 w9.heap.size 5 #[] [] 0 rfl rfl (Nat.le_refl _) (Nat.zero_le _))
                    have hzw : w1.heap.size ≤ w9.heap.size := by omega
                    have K2 := Lib.hid K.out.lt
                    have kzb : Hid (∀ j, Value.ownBlock (.slice ak nk ck) = some j → j < w9.heap.size) := Lib.hid (fun j hj => by have := (K0.out j hj).2; omega)
                    clear c60 c61
                    go_wp2_with (at_builtin; refine wpList_appT eltTB rfl (.tmp 136) (.tmp 146) rfl w9.heap.size (.slice (some ⟨w9.heap.size, 0, none⟩) 0 0) [] (by rfl) OZ.out (adv ab cb (pl + m)) n (cb - (pl + m)) ((b.drop (pl + m)).take n) (by rfl) SZ.out.toT (by simp; unfold maxLen; omega) (by simp; omega) (by simp) _ rfl ?_; intro v8 w8 h8 hg8 hv8 hb8; obtain ⟨a8, n8, c8, rfl, z8⟩ := h8.slN; have V := Lib.hid h8; have E8 : Hid (Eb w8 g6 (.slice none 0 0) (.slice none 0 0)) := Lib.hid ((hb8.block g6 lz).trans E6.out); have K8 := Lib.hid (K.out.of_block fun j hj => hb8.block j (kzb.out j hj)); have B8 := Lib.hid (BZ.out.trans (hb8.mono (by omega))); have c60 := E8.out.c0; have c61 := E8.out.c1; have c6f := E8.out.free; have lz8 : w9.heap.size ≤ w8.heap.size := Nat.le_trans (le_alloc _ _) hg8.size; clear h8 hg8 hv8 hb8 z8)
                    have D := (E8.out.set0 (.slice ak nk ck)).set1 (.slice a8 n8 c8)
                    have d0 := D.c0
                    have d1 := D.c1
                    have kk := (K8.out.offB lg1 0 (.slice ak nk ck)).offB lg1 1 (.slice a8 n8 c8)
                    have vv := (V.out.offB lz 0 (.slice ak nk ck)).offB lz 1 (.slice a8 n8 c8)
                    rw [List.nil_append, HRV.out] at vv
                    have bb := (B8.out.setCell (p := ⟨g6, 0, none⟩) q1 (.slice ak nk ck)).setCell (p := ⟨g6, 1, none⟩) q1 (.slice a8 n8 c8)
                    exact bodyPost_ret (v := .tuple #[.agg #[.slice ak nk ck, .slice a8 n8 c8], .int .i64 ((pl + m + n : Nat) : Int), .int .i64 0]) (by simp [results, Tryz.results146, d0, d1, go_sem]) rfl
                      ⟨_, _, w9.heap.size, rfl, kk.base lw1, vv, kzb.out, by omega, bb⟩
                · obtain ⟨k5b, k5c⟩ : ¬ (p.length : Int) > 0 ∧ decide (0 < p.length) = false := ⟨by omega, decide_eq_false k5⟩
                  have K0 := Lib.hid K.out.lt
                  rw [pend_ok K1.out HLong.out K3.out HK4.out (fun h => k5 h.1)] at hpe
                  rw [HKey.out] at hpe
                  obtain ⟨⟨rfl, hrv⟩, rfl, rfl⟩ : (key = rk ∧ (b.drop (pl + m)).take n = rv) ∧ pl + m + n = rq ∧ 0 = re := by simpa using hpe
                  have HRV := Lib.hid hrv; clear hrv hpe
                  skip
                  have hba : Below w7.heap.size w7 (w7.alloc (.cells #[] 5)) := (Below.refl _ _).alloc (Nat.le_refl _) _
                  have BA := Lib.hid hba; clear hba
                  have lz := E6.out.lt
                  replace E6 := Lib.hid (E6.out.keep BA.out)
                  have BZ := Lib.hid (keep_trans B.out BA.out)
                  replace K := Lib.hid (K.out.keep BA.out)
                  have SZ := Lib.hid (S4.out.keep BA.out)
                  have OZ := Lib.hid (OwT.lit fB w7 w7.heap.size 5 #[] [] 0 rfl rfl (Nat.le_refl _) (Nat.zero_le _))
                  have hzw : w1.heap.size ≤ w7.heap.size := by omega
                  have K2 := Lib.hid K.out.lt
                  have kzb : Hid (∀ j, Value.ownBlock (.slice ak nk ck) = some j → j < w7.heap.size) := Lib.hid (fun j hj => by have := (K0.out j hj).2; omega)
                  clear c60 c61
                  go_wp2_with (at_builtin; refine wpList_appT eltTB rfl (.tmp 136) (.tmp 146) rfl w7.heap.size (.slice (some ⟨w7.heap.size, 0, none⟩) 0 0) [] (by rfl) OZ.out (adv ab cb (pl + m)) n (cb - (pl + m)) ((b.drop (pl + m)).take n) (by rfl) SZ.out.toT (by simp; unfold maxLen; omega) (by simp; omega) (by simp) _ rfl ?_; intro v8 w8 h8 hg8 hv8 hb8; obtain ⟨a8, n8, c8, rfl, z8⟩ := h8.slN; have V := Lib.hid h8; have E8 : Hid (Eb w8 g6 (.slice none 0 0) (.slice none 0 0)) := Lib.hid ((hb8.block g6 lz).trans E6.out); have K8 := Lib.hid (K.out.of_block fun j hj => hb8.block j (kzb.out j hj)); have B8 := Lib.hid (BZ.out.trans (hb8.mono (by omega))); have c60 := E8.out.c0; have c61 := E8.out.c1; have c6f := E8.out.free; have lz8 : w7.heap.size ≤ w8.heap.size := Nat.le_trans (le_alloc _ _) hg8.size; clear h8 hg8 hv8 hb8 z8)
                  have D := (E8.out.set0 (.slice ak nk ck)).set1 (.slice a8 n8 c8)
                  have d0 := D.c0
                  have d1 := D.c1
                  have kk := (K8.out.offB lg1 0 (.slice ak nk ck)).offB lg1 1 (.slice a8 n8 c8)
                  have vv := (V.out.offB lz 0 (.slice ak nk ck)).offB lz 1 (.slice a8 n8 c8)
                  rw [List.nil_append, HRV.out] at vv
                  have bb := (B8.out.setCell (p := ⟨g6, 0, none⟩) q1 (.slice ak nk ck)).setCell (p := ⟨g6, 1, none⟩) q1 (.slice a8 n8 c8)
                  exact bodyPost_ret (v := .tuple #[.agg #[.slice ak nk ck, .slice a8 n8 c8], .int .i64 ((pl + m + n : Nat) : Int), .int .i64 0]) (by simp [results, Tryz.results146, d0, d1, go_sem]) rfl
                    ⟨_, _, w7.heap.size, rfl, kk.base lw1, vv, kzb.out, by omega, bb⟩
              · have f4 : ((cc : Int) != (s : Int)) = true := by rw [bne_iff_ne]; omega
                have f4b : (cc != s) = true := by rw [bne_iff_ne]; omega
                rw [pend_com K1.out HLong.out K3.out (by rw [HKey.out, hcc]; exact k4)] at hpe
                clear hcc
                obtain ⟨⟨rfl, rfl⟩, rfl, rfl⟩ : ([] = rk ∧ [] = rv) ∧ a = rq ∧ 52 = re := by simpa using hpe
                clear hpe k4
                go_wp2_with fail
                have D := E6.out.none2
                have d0 := D.c0
                have d1 := D.c1
                exact bodyPost_ret (v := .tuple #[.agg #[.slice none 0 0, .slice none 0 0], .int .i64 (((a : Nat) : Int)), .int .i64 (52)]) (by simp [results, Tryz.results146, d0, d1, go_sem]) rfl (RdPost.no ((B.out.setCell (p := ⟨g6, 0, none⟩) q1 _).setCell (p := ⟨g6, 1, none⟩) q1 _))
end Go.Proofs.YtljcogimeimknaaGreat
