/- What is read of a foot: contract of Read, the reference's. Condition: the bytes within reach. Written by a program of this place (gen_FootRRead.py). -/
import Derived.Test.YtljcogimeimknaaGreatK8d
import Derived.Test.YtljcogimeimknaaGreatF8t
import Derived.Test.YtljcogimeimknaaGreatVintRRead
import Derived.Test.YtljcogimeimknaaGreatK8b
import Derived.Deep.Cut
namespace Go.Proofs.YtljcogimeimknaaGreat
open Go.RowKit

theorem keys_snoc {rs : List Row} {r : Row} (h : ∀ r, r ∈ rs → r.1.length ≤ 64) (h2 : r.1.length ≤ 64) : ∀ x, x ∈ rs ++ [r] → x.1.length ≤ 64 := fun x hx => by
  rcases List.mem_append.1 hx with h' | h'
  · exact h x h'
  · simp at h'; subst h'; exact h2
set_option maxHeartbeats 40000000 in
set_option maxRecDepth 100000 in
theorem rfread_any (a : Option Addr) (n c : Nat) (b : List UInt8) (w : World) (hn : n ≤ 140737488351232) (h : Sl Bf w a n c b) :
    Calls Tryz.prog 44 #[.slice a n c] w fun ret w' => ROut w w' ret (fread b).1 (fread b).2.1 (fread b).2.2 := by
  obtain rfl : n = b.length := h.len.symm
  obtain ⟨⟨rF, qF, eF⟩, hF⟩ : ∃ X, fread b = X := ⟨_, rfl⟩
  rw [hF]
  dsimp only
  have H := Lib.hid h
  obtain ⟨⟨M, d0, e0'⟩, hrd0⟩ : ∃ X, rd b 0 0 = X := ⟨_, rfl⟩
  have HC0 := rread_any a b.length c b 0 w (by omega) (Nat.zero_le _) h
  rw [List.drop_zero, hrd0] at HC0
  dsimp only at HC0
  rw [Nat.zero_add] at HC0
  replace HC0 := Lib.hid HC0
  have B0 := Lib.hid (Below.refl w.heap.size w)
  clear h
  by_cases he0 : e0' = 0
  · subst he0
    obtain ⟨hd0, hM0⟩ := rd_in hrd0
    by_cases hbig : 8388608 < M
    · rw [fread_many hrd0 hbig] at hF
      simp only [Prod.mk.injEq] at hF
      obtain ⟨rfl, rfl, rfl⟩ := hF
      have t1 : (M : Int) > 8388608 := by omega
      clear hrd0 hbig
      go_enter Tryz.func44, Tryz.ntmps44
      go_wp2_with fail
      refine HC0.out.mono ?_
      rintro ret w' ⟨rfl, rfl⟩
      go_wp2_with fail
      go_ret3
      exact ROut.fail B0.out
    · obtain ⟨⟨r0, q0, e0⟩, hr0⟩ : ∃ X, frd b M [] d0 = X := ⟨_, rfl⟩
      have hK : (e0 ≠ 0 → [] = rF ∧ q0 = qF ∧ e0 = eF) ∧ (e0 = 0 → ftl b r0 q0 = (rF, qF, eF)) := by
        refine ⟨fun he => ?_, fun he => ?_⟩
        · rw [fread_bad hrd0 hbig hr0 he] at hF
          simpa using hF
        · subst he
          rw [fread_go hrd0 hbig hr0] at hF
          exact hF
      have K := Lib.hid hK
      have HR0 := Lib.hid hr0
      have t1 : ¬ (M : Int) > 8388608 := by omega
      have u1 : IntKind.i64.wrap (M : Int) = M := IntWalk.i64_in _ (by omega)
      have hMM : M ≤ 8388608 := by omega
      clear hK hr0 hrd0 hbig hF
      go_enter Tryz.func44, Tryz.ntmps44
      go_wp2_with fail
      refine HC0.out.mono ?_
      rintro ret w' ⟨rfl, rfl⟩
      clear HC0
      go_wp2_with fail
      go_loopw [6, 8, 9, 10] (fun sp sl sa i wr => ∃ (k P : Nat) (A : Int) (vs : List RV) (rs : List Row), k ≤ M ∧ i = .int .i64 (k : Nat) ∧ sp = .int .i64 (P : Nat) ∧ sa = .int .i64 A ∧ P ≤ b.length ∧ rs.length = k ∧ (endR rs = A ∧ 8 ≤ A ∧ A ≤ 8 + 131072 * k) ∧ OwR wr w.heap.size sl vs ∧ KTx wr w.heap.size wr.heap.size sl vs rs ∧ Below w.heap.size w wr ∧ frd b (M - k) rs P = (r0, q0, e0) ∧ ∀ r, r ∈ rs → r.1.length ≤ 64) (fun _ _ _ i _ => M - (intOf i).toNat)
      case atStart => exact ⟨0, d0, 8, [], [], Nat.zero_le _, rfl, rfl, rfl, hd0, rfl, ⟨rfl, by omega, by omega⟩, OwZ.nil _ _ _ _ _, KTx.nil _ _ _ _, B0.out, HR0.out, fun r hr => (by cases hr)⟩
      case round =>
        obtain ⟨k, P, A, vs, rs, hk, rfl, rfl, rfl, hP, hrk, ⟨hA, hA1, hA2⟩, ho, hkt, hb, hr, hks⟩ := hrel
        have HA := Lib.hid hA
        have HKS := Lib.hid hks
        clear hks
        obtain ⟨al, nl, cl, rfl, hnl, hcl⟩ := ho.t.slR
        have B := Lib.hid hb
        have O := Lib.hid ho
        have T := Lib.hid hkt
        have hvl : vs.length = rs.length := hkt.1
        obtain rfl : nl = k := by omega
        have HRK := Lib.hid hrk
        have HVL := Lib.hid hvl
        have hlo := hb.size
        clear HR0 B0 hA ho hkt hb hnl hrk hvl
        by_cases hlt : nl < M
        · obtain ⟨j, hj⟩ : ∃ j, M - nl = j + 1 := ⟨M - nl - 1, by omega⟩
          obtain ⟨⟨v, d, e1⟩, hrdv⟩ : ∃ X, rd (b.drop P) 0 0 = X := ⟨_, rfl⟩
          obtain ⟨m, hmv⟩ : ∃ m, P + d = m := ⟨_, rfl⟩
          have HCv := rread_any a b.length c b P wr (by omega) hP (H.out.keep B.out)
          rw [hrdv] at HCv
          dsimp only at HCv
          rw [hmv] at HCv
          replace HCv := Lib.hid HCv
          go_wp2_with fail
          refine HCv.out.mono ?_
          rintro ret w' ⟨rfl, rfl⟩
          by_cases he1 : e1 = 0
          · subst he1
            obtain ⟨g1, g2, _, _⟩ := rd_drop_in hP hrdv
            rw [hmv] at g1
            by_cases hbd : v < 1 ∨ 64 < v
            · have tests : ((v : Int) < 1) ∨ (¬ ((v : Int) < 1) ∧ ((v : Int) > 64)) := by omega
              rcases tests with t2 | ⟨t2, t3⟩
              all_goals
                have hfr : frow b rs P = (dr, _, _) := frow_no (fky_bad hrdv hbd) (by decide)
                rw [hj, frd_no hfr (by decide)] at hr
                simp only [Prod.mk.injEq] at hr
                obtain ⟨_, rfl, rfl⟩ := hr
                obtain ⟨rfl, rfl, rfl⟩ := K.out.1 (by decide)
                have FB := Lib.hid B.out
                clear hfr K
                go_wp2_with fail
                go_ret3
                exact ROut.fail FB.out
            · have t2 : ¬ ((v : Int) < 1) := by omega
              have t3 : ¬ ((v : Int) > 64) := by omega
              have u2 : IntKind.i64.wrap (v : Int) = v := IntWalk.i64_in _ (by omega)
              by_cases hsh : b.length - m < v
              · have t4 : (v : Int) > (b.length : Int) - m := by omega
                have hfr : frow b rs P = (dr, _, _) := frow_no (fky_short hrdv hbd (by rw [hmv]; exact hsh)) (by decide)
                rw [hj, frd_no hfr (by decide)] at hr
                simp only [Prod.mk.injEq] at hr
                obtain ⟨_, rfl, rfl⟩ := hr
                obtain ⟨rfl, rfl, rfl⟩ := K.out.1 (by decide)
                have FB := Lib.hid B.out
                clear hfr K
                go_wp2_with fail
                go_ret3
                exact ROut.fail FB.out
              · have t4 : ¬ ((v : Int) > (b.length : Int) - m) := by omega
                obtain ⟨key, hkey⟩ : ∃ key, (b.drop m).take v = key := ⟨_, rfl⟩
                have hkl : key.length = v := by rw [← hkey, List.length_take, List.length_drop]; omega
                obtain ⟨m2, hm2⟩ : ∃ m2, m + v = m2 := ⟨_, rfl⟩
                have hm2n : m2 ≤ b.length := by omega
                have u3 : ((m : Int) + v) = ((m + v : Nat) : Int) := by omega
                rw [hm2] at u3
                have hcut := fun W : World => run_cut eltB W a b.length c .i64 .i64 m m2 (by omega) (by have := H.out.le; omega)
                have z1 := H.out.cut m m2 (by omega) hm2n
                have e1 : (b.take m2).drop m = key := by rw [List.drop_take, show m2 - m = v by omega]; exact hkey
                rw [e1] at z1
                have e2 : m2 - m = v := by omega
                rw [e2] at z1
                simp only [e2] at hcut
                have Z := Lib.hid (show Stab w (fun W => Sl Bf W (adv a c m) v (c - m) key) from fun W hb => z1.keep hb)
                have HKY := Lib.hid hkey
                have hkyl : key.length ≤ 64 := by omega
                have HKL := Lib.hid hkl
                have hkok : upR rs key = true → fky b rs P = (key, m2, 0) := fun hu => by
                  have := fky_ok hrdv hbd (by rw [hmv]; exact hsh) (rs := rs) (by rw [hmv, HKY.out]; exact hu)
                  rw [hmv, HKY.out, hm2] at this; exact this
                have hklow : upR rs key = false → fky b rs P = ([], P, 72) := fun hu => fky_low hrdv hbd (by rw [hmv]; exact hsh) (by rw [hmv, HKY.out]; exact hu)
                have HOK := Lib.hid hkok
                have HLOW := Lib.hid hklow
                have vpos : 1 ≤ v := by omega
                clear hkey hkl z1 e1 e2 hkok hklow hrdv hbd hsh HCv hmv g2
                rcases List.eq_nil_or_concat rs with hnil | ⟨ri, ⟨lk, lx, ly, lz⟩, hcc⟩
                · have hk0 : nl = 0 := by have := HRK.out; rw [hnil] at this; simpa using this.symm
                  have hup : upR rs key = true := by rw [hnil]; rfl
                  obtain ⟨K0, hK0⟩ : ∃ K0 : Int, ((nl : Nat) : Int) = K0 := ⟨_, rfl⟩
                  have t5 : ¬ ((nl : Int) > 0) := by omega
                  clear hnil hk0 hK0 K0
                  go_wp2_with (at_builtin; refine wpList_appT eltTB rfl (.tmp 68) (.tmp 75) rfl wr.heap.size _ [] (by rfl) (OwT.lit fB wr wr.heap.size _ _ [] 0 rfl rfl (Nat.le_refl _) (Nat.zero_le _)) (adv a c m) v (c - m) key (by rfl) (Z.out _ (B.out.alloc B.out.size _)).toT (by unfold maxLen; simp; omega) (by simp; omega) (by simp) key rfl ?_; intro kv w3 h3 hg3 hv3 hb3; obtain ⟨ak, nk, ck, rfl, zk⟩ := h3.slN; have HK3 := Lib.hid h3; have B3 : Hid (Below wr.heap.size wr w3) := Lib.hid (((Below.refl wr.heap.size wr).alloc (Nat.le_refl _) _).trans hb3); clear h3 hg3 hv3 hb3 zk)
                  have hlo3 : wr.heap.size ≤ w3.heap.size := B3.out.size
                  replace B := Lib.hid (B.out.trans (B3.out.mono hlo))
                  clear hcut u3
                  have hfk := frow_go (HOK.out hup)
                  rw [HA.out] at hfk
                  have HFK := Lib.hid hfk
                  clear hfk hup HOK HLOW
                  obtain ⟨⟨v1, d1, e1⟩, hrdv1⟩ : ∃ X, rd (b.drop m2) 0 0 = X := ⟨_, rfl⟩
                  obtain ⟨m3, hmv1⟩ : ∃ m, m2 + d1 = m := ⟨_, rfl⟩
                  have HCv1 := rread_any a b.length c b m2 w3 (by omega) hm2n (H.out.keep B.out)
                  rw [hrdv1] at HCv1
                  dsimp only at HCv1
                  rw [hmv1] at HCv1
                  replace HCv1 := Lib.hid HCv1
                  have u4 : IntKind.u64.wrap A = A := by rw [IntKind.wrap_u64]; omega
                  go_wp2_with fail
                  refine HCv1.out.mono ?_
                  rintro ret w' ⟨rfl, rfl⟩
                  by_cases he1 : e1 = 0
                  · subst he1
                    obtain ⟨g3, g4, _, _⟩ := rd_drop_in hm2n hrdv1
                    rw [hmv1] at g3
                    by_cases hpl : (v1 : Int) = A
                    · have t5 : ((v1 : Int) != A) = false := by rw [hpl]; simp
                      have hf3 := fr3_ok (k := key) hrdv1 hpl
                      rw [hmv1] at hf3
                      have HF3 := Lib.hid (HFK.out.trans hf3)
                      have HPL := Lib.hid hpl
                      clear hf3 hrdv1 hmv1 hpl HCv1 HFK
                      obtain ⟨⟨v2, d2, e1⟩, hrdv2⟩ : ∃ X, rd (b.drop m3) 0 0 = X := ⟨_, rfl⟩
                      obtain ⟨m4, hmv2⟩ : ∃ m, m3 + d2 = m := ⟨_, rfl⟩
                      have HCv2 := rread_any a b.length c b m3 w3 (by omega) g3 (H.out.keep B.out)
                      rw [hrdv2] at HCv2
                      dsimp only at HCv2
                      rw [hmv2] at HCv2
                      replace HCv2 := Lib.hid HCv2
                      go_wp2_with fail
                      refine HCv2.out.mono ?_
                      rintro ret w' ⟨rfl, rfl⟩
                      by_cases he1 : e1 = 0
                      · subst he1
                        obtain ⟨g5, g6, _, _⟩ := rd_drop_in g3 hrdv2
                        rw [hmv2] at g5
                        by_cases hb2 : v2 < 1 ∨ 131072 < v2
                        · have tests : ((v2 : Int) < 1) ∨ (¬ ((v2 : Int) < 1) ∧ ((v2 : Int) > 131072)) := by omega
                          rcases tests with t6 | ⟨t6, t7⟩
                          all_goals
                            have hfr : frow b rs P = (dr, _, _) := HF3.out.trans (fr2_bad hrdv2 hb2)
                            rw [hj, frd_no hfr (by decide)] at hr
                            simp only [Prod.mk.injEq] at hr
                            obtain ⟨_, rfl, rfl⟩ := hr
                            obtain ⟨rfl, rfl, rfl⟩ := K.out.1 (by decide)
                            have FB := Lib.hid B.out
                            clear hfr K
                            go_wp2_with fail
                            go_ret3
                            exact ROut.fail FB.out
                        · have t6 : ¬ ((v2 : Int) < 1) := by omega
                          have t7 : ¬ ((v2 : Int) > 131072) := by omega
                          have u5 : IntKind.i64.wrap (v2 : Int) = v2 := IntWalk.i64_in _ (by omega)
                          have hf2 := fr2_ok (k := key) (x := A) hrdv2 hb2
                          rw [hmv2] at hf2
                          have HF2 := Lib.hid (HF3.out.trans hf2)
                          have hv2b : 1 ≤ v2 ∧ v2 ≤ 131072 := by omega
                          clear hf2 hrdv2 hmv2 hb2 HCv2 HF3
                          obtain ⟨⟨v3, d3, e1⟩, hrdv3⟩ : ∃ X, rd (b.drop m4) 0 0 = X := ⟨_, rfl⟩
                          obtain ⟨m5, hmv3⟩ : ∃ m, m4 + d3 = m := ⟨_, rfl⟩
                          have HCv3 := rread_any a b.length c b m4 w3 (by omega) g5 (H.out.keep B.out)
                          rw [hrdv3] at HCv3
                          dsimp only at HCv3
                          rw [hmv3] at HCv3
                          replace HCv3 := Lib.hid HCv3
                          go_wp2_with fail
                          refine HCv3.out.mono ?_
                          rintro ret w' ⟨rfl, rfl⟩
                          by_cases he1 : e1 = 0
                          · subst he1
                            obtain ⟨g7, g8, _, _⟩ := rd_drop_in g5 hrdv3
                            rw [hmv3] at g7
                            by_cases hb3 : v3 < 1 ∨ 64 < v3
                            · have tests : ((v3 : Int) < 1) ∨ (¬ ((v3 : Int) < 1) ∧ ((v3 : Int) > 64)) := by omega
                              rcases tests with t8 | ⟨t8, t9⟩
                              all_goals
                                have hfr : frow b rs P = (dr, _, _) := HF2.out.trans (fr1_bad hrdv3 hb3)
                                rw [hj, frd_no hfr (by decide)] at hr
                                simp only [Prod.mk.injEq] at hr
                                obtain ⟨_, rfl, rfl⟩ := hr
                                obtain ⟨rfl, rfl, rfl⟩ := K.out.1 (by decide)
                                have FB := Lib.hid B.out
                                clear hfr K
                                go_wp2_with fail
                                go_ret3
                                exact ROut.fail FB.out
                            · have t8 : ¬ ((v3 : Int) < 1) := by omega
                              have t9 : ¬ ((v3 : Int) > 64) := by omega
                              have u6 : IntKind.i64.wrap (v3 : Int) = v3 := IntWalk.i64_in _ (by omega)
                              have hf1 := fr1_ok (k := key) (x := A) (y := (v2 : Int)) hrdv3 hb3
                              rw [hmv3] at hf1
                              have hro := HF2.out.trans hf1
                              rw [hj, frd_go hro] at hr
                              have HRR := Lib.hid hr
                              clear hf1 hrdv3 hmv3 hb3 HCv3 HF2 hro hr
                              have O3 := Lib.hid (O.out.keep B3.out)
                              go_wp2_with (at_builtin; refine wpList_appZ eltTR zR_ok rfl (.tmp 150) (.tmp 158) rfl w.heap.size _ vs (by rfl) (O3.out.keep ((Below.refl _ _).alloc (Nat.le_refl _) _)) (some ⟨w3.heap.size, 0, none⟩) 1 1 [((ak, nk, ck), A, (v2 : Int), (v3 : Int))] (by rfl) (SlT.litR _ ((ak, nk, ck), A, (v2 : Int), (v3 : Int)) _ rfl) (by rw [HVL.out, HRK.out]; unfold maxLen; omega) (by rw [HVL.out, HRK.out]; omega) (by simp; omega) (vs ++ [((ak, nk, ck), A, (v2 : Int), (v3 : Int))]) rfl ?_; intro v7 w7 h7 hg7 hv7 hb7)
                              have B4 := Lib.hid (B3.out.alloc hlo3 (.cells (fR ((ak, nk, ck), A, (v2 : Int), (v3 : Int))).toArray 94))
                              have HT := Lib.hid (KTx.step (x := ((ak, nk, ck), A, (v2 : Int), (v3 : Int))) (r := (key, A, (v2 : Int), (v3 : Int))) T.out hlo B4.out.size (fun j _ hj => B4.out.block j hj) rfl (HK3.out.keep ((Below.refl _ _).alloc (Nat.le_refl _) _)) (fun j hj => (O.out.t.lt j hj).2) hg7 hv7)
                              have O7 := Lib.hid h7
                              have B7 := Lib.hid ((B.out.alloc (Nat.le_trans hlo hlo3) (.cells (fR ((ak, nk, ck), A, (v2 : Int), (v3 : Int))).toArray 94)).trans hb7)
                              have he7 : endR (rs ++ [(key, A, (v2 : Int), (v3 : Int))]) = A + v2 := endR_snoc _ _
                              have HE7 := Lib.hid he7
                              clear h7 hg7 hv7 hb7 B4 O3 he7
                              go_roundw
                              case rel => exact ⟨nl + 1, m5, A + v2, _, rs ++ [(key, A, (v2 : Int), (v3 : Int))], by omega, by go_num, by go_num, by go_num, g7, by rw [List.length_append, HRK.out]; rfl, ⟨HE7.out, by omega, by omega⟩, O7.out, HT.out, B7.out, by rw [show M - (nl + 1) = j by omega]; exact HRR.out, keys_snoc HKS.out hkyl⟩
                              case measure => simp [intOf]; omega
                          · have t8 : (e1 != 0) = true := by rw [bne_iff_ne]; exact he1
                            have hfr : frow b rs P = (dr, m5, e1) := by have := HF2.out.trans (fr1_no hrdv3 he1); rw [hmv3] at this; exact this
                            rw [hj, frd_no hfr he1] at hr
                            simp only [Prod.mk.injEq] at hr
                            obtain ⟨_, rfl, rfl⟩ := hr
                            obtain ⟨rfl, rfl, rfl⟩ := K.out.1 he1
                            have FB := Lib.hid B.out
                            clear hfr K
                            go_wp2_with fail
                            go_ret3
                            exact ROut.fail FB.out
                      · have t6 : (e1 != 0) = true := by rw [bne_iff_ne]; exact he1
                        have hfr : frow b rs P = (dr, m4, e1) := by have := HF3.out.trans (fr2_no hrdv2 he1); rw [hmv2] at this; exact this
                        rw [hj, frd_no hfr he1] at hr
                        simp only [Prod.mk.injEq] at hr
                        obtain ⟨_, rfl, rfl⟩ := hr
                        obtain ⟨rfl, rfl, rfl⟩ := K.out.1 he1
                        have FB := Lib.hid B.out
                        clear hfr K
                        go_wp2_with fail
                        go_ret3
                        exact ROut.fail FB.out
                    · have t5 : ((v1 : Int) != A) = true := by rw [bne_iff_ne]; exact hpl
                      have hfr : frow b rs P = (dr, _, _) := HFK.out.trans (fr3_bad hrdv1 hpl)
                      rw [hj, frd_no hfr (by decide)] at hr
                      simp only [Prod.mk.injEq] at hr
                      obtain ⟨_, rfl, rfl⟩ := hr
                      obtain ⟨rfl, rfl, rfl⟩ := K.out.1 (by decide)
                      have FB := Lib.hid B.out
                      clear hfr K
                      go_wp2_with fail
                      go_ret3
                      exact ROut.fail FB.out
                  · have t5 : (e1 != 0) = true := by rw [bne_iff_ne]; exact he1
                    have hfr : frow b rs P = (dr, m3, e1) := by have := HFK.out.trans (fr3_no hrdv1 he1); rw [hmv1] at this; exact this
                    rw [hj, frd_no hfr he1] at hr
                    simp only [Prod.mk.injEq] at hr
                    obtain ⟨_, rfl, rfl⟩ := hr
                    obtain ⟨rfl, rfl, rfl⟩ := K.out.1 he1
                    have FB := Lib.hid B.out
                    clear hfr K
                    go_wp2_with fail
                    go_ret3
                    exact ROut.fail FB.out
                · rw [List.concat_eq_append] at hcc
                  have hki : nl = ri.length + 1 := by have := HRK.out; rw [hcc] at this; simpa using this.symm
                  have hupd : upR rs key = decide (cmp lk key < 0) := by rw [hcc]; exact upR_snoc _ _ _
                  have hl : rs[ri.length]? = some (lk, lx, ly, lz) := by rw [hcc]; simp
                  have t5 : ((nl : Int) > 0) := by omega
                  have u7 : IntKind.i64.wrap ((nl : Int) - 1) = ((ri.length : Nat) : Int) := by rw [show (nl : Int) - 1 = ((ri.length : Nat) : Int) by omega]; exact IntWalk.i64_in _ (by omega)
                  obtain ⟨ix, hix⟩ : ∃ ix, ri.length = ix := ⟨_, rfl⟩
                  rw [hix] at hki hl u7
                  have hsp := KTx.spans O.out T.out
                  obtain ⟨bb, oo, ax, nx, cx, ea, c0, _, _, _, s0⟩ := hsp.2.2.2 ix lk lx ly lz hl
                  have ea : al = some ⟨bb, oo, none⟩ := ea
                  subst ea
                  have hixl : ix < nl := by omega
                  clear hki
                  obtain rfl : lk.length = nx := s0.len
                  have SX := Lib.hid ((Stab.sl s0).and (Stab.cell c0))
                  obtain ⟨cc, hcc2⟩ : ∃ x, cmp lk key = x := ⟨_, rfl⟩
                  rw [hcc2] at hupd
                  have HUP := Lib.hid hupd
                  have HCC := Lib.hid hcc2
                  have hlkl : lk.length ≤ 140737488351232 := by have := HKS.out _ (List.mem_of_getElem? hl); dsimp only at this; omega
                  clear hcc hl hsp s0 hupd hcc2 hix c0
                  go_upto_region 21 with (at_builtin; refine wpList_appT eltTB rfl (.tmp 68) (.tmp 75) rfl wr.heap.size _ [] (by rfl) (OwT.lit fB wr wr.heap.size _ _ [] 0 rfl rfl (Nat.le_refl _) (Nat.zero_le _)) (adv a c m) v (c - m) key (by rfl) (Z.out _ (B.out.alloc B.out.size _)).toT (by unfold maxLen; simp; omega) (by simp; omega) (by simp) key rfl ?_; intro kv w3 h3 hg3 hv3 hb3; obtain ⟨ak, nk, ck, rfl, zk⟩ := h3.slN; have HK3 := Lib.hid h3; have B3 : Hid (Below wr.heap.size wr w3) := Lib.hid (((Below.refl wr.heap.size wr).alloc (Nat.le_refl _) _).trans hb3); have c0 := (SX.out.keep B3.out).now.2; clear h3 hg3 hv3 hb3 zk)
                  have hlo3 : wr.heap.size ≤ w3.heap.size := B3.out.size
                  replace B := Lib.hid (B.out.trans (B3.out.mono hlo))
                  clear hcut u3
                  have hcp := rcompare_any ax lk.length cx lk ak nk ck key w3 hlkl (by have := HK3.out.slI.len; omega) (SX.out.keep B3.out).now.1 HK3.out.slI
                  rw [HCC.out] at hcp
                  have HCP := Lib.hid hcp
                  clear hcp
                  by_cases hc0 : 0 ≤ cc
                  · have hup : upR rs key = false := by rw [HUP.out]; exact decide_eq_false (by omega)
                    go_wp2_with fail
                    refine HCP.out.mono ?_
                    rintro ret w4 ⟨rfl, hb4⟩
                    replace B := Lib.hid (B.out.trans (hb4.mono (Nat.le_trans hlo hlo3)))
                    clear hb4 c0
                    have hfr : frow b rs P = (dr, _, _) := frow_no (HLOW.out hup) (by decide)
                    rw [hj, frd_no hfr (by decide)] at hr
                    simp only [Prod.mk.injEq] at hr
                    obtain ⟨_, rfl, rfl⟩ := hr
                    obtain ⟨rfl, rfl, rfl⟩ := K.out.1 (by decide)
                    have FB := Lib.hid B.out
                    clear hfr K
                    go_wp2_with fail
                    go_ret3
                    exact ROut.fail FB.out
                  · have hup : upR rs key = true := by rw [HUP.out]; exact decide_eq_true (by omega)
                    have t10 : ¬ (cc ≥ 0) := by omega
                    go_wp2_with fail
                    refine HCP.out.mono ?_
                    rintro ret w4 ⟨rfl, hb4⟩
                    replace B := Lib.hid (B.out.trans (hb4.mono (Nat.le_trans hlo hlo3)))
                    replace B3 := Lib.hid (B3.out.trans (hb4.mono hlo3))
                    replace HK3 := Lib.hid (HK3.out.keep hb4)
                    replace hlo3 := B3.out.size
                    clear hb4 c0 HCP SX HUP HCC u7 hc0
                    generalize w4 = w3 at *
                    have hfk := frow_go (HOK.out hup)
                    rw [HA.out] at hfk
                    have HFK := Lib.hid hfk
                    clear hfk hup HOK HLOW
                    obtain ⟨⟨v1, d1, e1⟩, hrdv1⟩ : ∃ X, rd (b.drop m2) 0 0 = X := ⟨_, rfl⟩
                    obtain ⟨m3, hmv1⟩ : ∃ m, m2 + d1 = m := ⟨_, rfl⟩
                    have HCv1 := rread_any a b.length c b m2 w3 (by omega) hm2n (H.out.keep B.out)
                    rw [hrdv1] at HCv1
                    dsimp only at HCv1
                    rw [hmv1] at HCv1
                    replace HCv1 := Lib.hid HCv1
                    have u4 : IntKind.u64.wrap A = A := by rw [IntKind.wrap_u64]; omega
                    go_wp2_with fail
                    refine HCv1.out.mono ?_
                    rintro ret w' ⟨rfl, rfl⟩
                    by_cases he1 : e1 = 0
                    · subst he1
                      obtain ⟨g3, g4, _, _⟩ := rd_drop_in hm2n hrdv1
                      rw [hmv1] at g3
                      by_cases hpl : (v1 : Int) = A
                      · have t5 : ((v1 : Int) != A) = false := by rw [hpl]; simp
                        have hf3 := fr3_ok (k := key) hrdv1 hpl
                        rw [hmv1] at hf3
                        have HF3 := Lib.hid (HFK.out.trans hf3)
                        have HPL := Lib.hid hpl
                        clear hf3 hrdv1 hmv1 hpl HCv1 HFK
                        obtain ⟨⟨v2, d2, e1⟩, hrdv2⟩ : ∃ X, rd (b.drop m3) 0 0 = X := ⟨_, rfl⟩
                        obtain ⟨m4, hmv2⟩ : ∃ m, m3 + d2 = m := ⟨_, rfl⟩
                        have HCv2 := rread_any a b.length c b m3 w3 (by omega) g3 (H.out.keep B.out)
                        rw [hrdv2] at HCv2
                        dsimp only at HCv2
                        rw [hmv2] at HCv2
                        replace HCv2 := Lib.hid HCv2
                        go_wp2_with fail
                        refine HCv2.out.mono ?_
                        rintro ret w' ⟨rfl, rfl⟩
                        by_cases he1 : e1 = 0
                        · subst he1
                          obtain ⟨g5, g6, _, _⟩ := rd_drop_in g3 hrdv2
                          rw [hmv2] at g5
                          by_cases hb2 : v2 < 1 ∨ 131072 < v2
                          · have tests : ((v2 : Int) < 1) ∨ (¬ ((v2 : Int) < 1) ∧ ((v2 : Int) > 131072)) := by omega
                            rcases tests with t6 | ⟨t6, t7⟩
                            all_goals
                              have hfr : frow b rs P = (dr, _, _) := HF3.out.trans (fr2_bad hrdv2 hb2)
                              rw [hj, frd_no hfr (by decide)] at hr
                              simp only [Prod.mk.injEq] at hr
                              obtain ⟨_, rfl, rfl⟩ := hr
                              obtain ⟨rfl, rfl, rfl⟩ := K.out.1 (by decide)
                              have FB := Lib.hid B.out
                              clear hfr K
                              go_wp2_with fail
                              go_ret3
                              exact ROut.fail FB.out
                          · have t6 : ¬ ((v2 : Int) < 1) := by omega
                            have t7 : ¬ ((v2 : Int) > 131072) := by omega
                            have u5 : IntKind.i64.wrap (v2 : Int) = v2 := IntWalk.i64_in _ (by omega)
                            have hf2 := fr2_ok (k := key) (x := A) hrdv2 hb2
                            rw [hmv2] at hf2
                            have HF2 := Lib.hid (HF3.out.trans hf2)
                            have hv2b : 1 ≤ v2 ∧ v2 ≤ 131072 := by omega
                            clear hf2 hrdv2 hmv2 hb2 HCv2 HF3
                            obtain ⟨⟨v3, d3, e1⟩, hrdv3⟩ : ∃ X, rd (b.drop m4) 0 0 = X := ⟨_, rfl⟩
                            obtain ⟨m5, hmv3⟩ : ∃ m, m4 + d3 = m := ⟨_, rfl⟩
                            have HCv3 := rread_any a b.length c b m4 w3 (by omega) g5 (H.out.keep B.out)
                            rw [hrdv3] at HCv3
                            dsimp only at HCv3
                            rw [hmv3] at HCv3
                            replace HCv3 := Lib.hid HCv3
                            go_wp2_with fail
                            refine HCv3.out.mono ?_
                            rintro ret w' ⟨rfl, rfl⟩
                            by_cases he1 : e1 = 0
                            · subst he1
                              obtain ⟨g7, g8, _, _⟩ := rd_drop_in g5 hrdv3
                              rw [hmv3] at g7
                              by_cases hb3 : v3 < 1 ∨ 64 < v3
                              · have tests : ((v3 : Int) < 1) ∨ (¬ ((v3 : Int) < 1) ∧ ((v3 : Int) > 64)) := by omega
                                rcases tests with t8 | ⟨t8, t9⟩
                                all_goals
                                  have hfr : frow b rs P = (dr, _, _) := HF2.out.trans (fr1_bad hrdv3 hb3)
                                  rw [hj, frd_no hfr (by decide)] at hr
                                  simp only [Prod.mk.injEq] at hr
                                  obtain ⟨_, rfl, rfl⟩ := hr
                                  obtain ⟨rfl, rfl, rfl⟩ := K.out.1 (by decide)
                                  have FB := Lib.hid B.out
                                  clear hfr K
                                  go_wp2_with fail
                                  go_ret3
                                  exact ROut.fail FB.out
                              · have t8 : ¬ ((v3 : Int) < 1) := by omega
                                have t9 : ¬ ((v3 : Int) > 64) := by omega
                                have u6 : IntKind.i64.wrap (v3 : Int) = v3 := IntWalk.i64_in _ (by omega)
                                have hf1 := fr1_ok (k := key) (x := A) (y := (v2 : Int)) hrdv3 hb3
                                rw [hmv3] at hf1
                                have hro := HF2.out.trans hf1
                                rw [hj, frd_go hro] at hr
                                have HRR := Lib.hid hr
                                clear hf1 hrdv3 hmv3 hb3 HCv3 HF2 hro hr
                                have O3 := Lib.hid (O.out.keep B3.out)
                                go_wp2_with (at_builtin; refine wpList_appZ eltTR zR_ok rfl (.tmp 150) (.tmp 158) rfl w.heap.size _ vs (by rfl) (O3.out.keep ((Below.refl _ _).alloc (Nat.le_refl _) _)) (some ⟨w3.heap.size, 0, none⟩) 1 1 [((ak, nk, ck), A, (v2 : Int), (v3 : Int))] (by rfl) (SlT.litR _ ((ak, nk, ck), A, (v2 : Int), (v3 : Int)) _ rfl) (by rw [HVL.out, HRK.out]; unfold maxLen; omega) (by rw [HVL.out, HRK.out]; omega) (by simp; omega) (vs ++ [((ak, nk, ck), A, (v2 : Int), (v3 : Int))]) rfl ?_; intro v7 w7 h7 hg7 hv7 hb7)
                                have B4 := Lib.hid (B3.out.alloc hlo3 (.cells (fR ((ak, nk, ck), A, (v2 : Int), (v3 : Int))).toArray 94))
                                have HT := Lib.hid (KTx.step (x := ((ak, nk, ck), A, (v2 : Int), (v3 : Int))) (r := (key, A, (v2 : Int), (v3 : Int))) T.out hlo B4.out.size (fun j _ hj => B4.out.block j hj) rfl (HK3.out.keep ((Below.refl _ _).alloc (Nat.le_refl _) _)) (fun j hj => (O.out.t.lt j hj).2) hg7 hv7)
                                have O7 := Lib.hid h7
                                have B7 := Lib.hid ((B.out.alloc (Nat.le_trans hlo hlo3) (.cells (fR ((ak, nk, ck), A, (v2 : Int), (v3 : Int))).toArray 94)).trans hb7)
                                have he7 : endR (rs ++ [(key, A, (v2 : Int), (v3 : Int))]) = A + v2 := endR_snoc _ _
                                have HE7 := Lib.hid he7
                                clear h7 hg7 hv7 hb7 B4 O3 he7
                                go_roundw
                                case rel => exact ⟨nl + 1, m5, A + v2, _, rs ++ [(key, A, (v2 : Int), (v3 : Int))], by omega, by go_num, by go_num, by go_num, g7, by rw [List.length_append, HRK.out]; rfl, ⟨HE7.out, by omega, by omega⟩, O7.out, HT.out, B7.out, by rw [show M - (nl + 1) = j by omega]; exact HRR.out, keys_snoc HKS.out hkyl⟩
                                case measure => simp [intOf]; omega
                            · have t8 : (e1 != 0) = true := by rw [bne_iff_ne]; exact he1
                              have hfr : frow b rs P = (dr, m5, e1) := by have := HF2.out.trans (fr1_no hrdv3 he1); rw [hmv3] at this; exact this
                              rw [hj, frd_no hfr he1] at hr
                              simp only [Prod.mk.injEq] at hr
                              obtain ⟨_, rfl, rfl⟩ := hr
                              obtain ⟨rfl, rfl, rfl⟩ := K.out.1 he1
                              have FB := Lib.hid B.out
                              clear hfr K
                              go_wp2_with fail
                              go_ret3
                              exact ROut.fail FB.out
                        · have t6 : (e1 != 0) = true := by rw [bne_iff_ne]; exact he1
                          have hfr : frow b rs P = (dr, m4, e1) := by have := HF3.out.trans (fr2_no hrdv2 he1); rw [hmv2] at this; exact this
                          rw [hj, frd_no hfr he1] at hr
                          simp only [Prod.mk.injEq] at hr
                          obtain ⟨_, rfl, rfl⟩ := hr
                          obtain ⟨rfl, rfl, rfl⟩ := K.out.1 he1
                          have FB := Lib.hid B.out
                          clear hfr K
                          go_wp2_with fail
                          go_ret3
                          exact ROut.fail FB.out
                      · have t5 : ((v1 : Int) != A) = true := by rw [bne_iff_ne]; exact hpl
                        have hfr : frow b rs P = (dr, _, _) := HFK.out.trans (fr3_bad hrdv1 hpl)
                        rw [hj, frd_no hfr (by decide)] at hr
                        simp only [Prod.mk.injEq] at hr
                        obtain ⟨_, rfl, rfl⟩ := hr
                        obtain ⟨rfl, rfl, rfl⟩ := K.out.1 (by decide)
                        have FB := Lib.hid B.out
                        clear hfr K
                        go_wp2_with fail
                        go_ret3
                        exact ROut.fail FB.out
                    · have t5 : (e1 != 0) = true := by rw [bne_iff_ne]; exact he1
                      have hfr : frow b rs P = (dr, m3, e1) := by have := HFK.out.trans (fr3_no hrdv1 he1); rw [hmv1] at this; exact this
                      rw [hj, frd_no hfr he1] at hr
                      simp only [Prod.mk.injEq] at hr
                      obtain ⟨_, rfl, rfl⟩ := hr
                      obtain ⟨rfl, rfl, rfl⟩ := K.out.1 he1
                      have FB := Lib.hid B.out
                      clear hfr K
                      go_wp2_with fail
                      go_ret3
                      exact ROut.fail FB.out
          · have t2 : (e1 != 0) = true := by rw [bne_iff_ne]; exact he1
            have hfr : frow b rs P = (dr, m, e1) := frow_no (by have := fky_no (rs := rs) hrdv he1; rw [hmv] at this; exact this) he1
            rw [hj, frd_no hfr he1] at hr
            simp only [Prod.mk.injEq] at hr
            obtain ⟨_, rfl, rfl⟩ := hr
            obtain ⟨rfl, rfl, rfl⟩ := K.out.1 he1
            have FB := Lib.hid B.out
            clear hfr K
            go_wp2_with fail
            go_ret3
            exact ROut.fail FB.out
        · obtain rfl : nl = M := by omega
          rw [Nat.sub_self] at hr
          have hr2 : (rs, P, (0 : Int)) = (r0, q0, e0) := hr
          simp only [Prod.mk.injEq] at hr2
          obtain ⟨rfl, rfl, rfl⟩ := hr2
          have hft := K.out.2 rfl
          clear K hr hA2 hlt
          obtain ⟨⟨v, d, e1⟩, hrdv⟩ : ∃ X, rd (b.drop P) 0 0 = X := ⟨_, rfl⟩
          obtain ⟨m, hmv⟩ : ∃ m, P + d = m := ⟨_, rfl⟩
          have HCv := rread_any a b.length c b P wr (by omega) hP (H.out.keep B.out)
          rw [hrdv] at HCv
          dsimp only at HCv
          rw [hmv] at HCv
          replace HCv := Lib.hid HCv
          have hsp := KTx.spans O.out T.out
          have HT := Lib.hid (rtotal_any al nl cl rs wr (by omega) hsp)
          obtain ⟨TT, hTT⟩ : ∃ x, tot rs = x := ⟨_, rfl⟩
          obtain ⟨UU, hUU⟩ : ∃ x, totU rs = x := ⟨_, rfl⟩
          have u8 := totU_eq rs
          rw [hTT, hUU] at u8
          rw [hTT] at HT
          have HUU := Lib.hid hUU
          clear hsp hTT hUU
          go_wp2_with fail
          refine HCv.out.mono ?_
          rintro ret w' ⟨rfl, rfl⟩
          by_cases he1 : e1 = 0
          · subst he1
            by_cases hvu : v = UU
            · have t2 : ((v : Int) != (UU : Int)) = false := by rw [hvu]; simp
              have t2' : (v != UU) = false := by rw [hvu]; simp
              by_cases hrest : m < b.length
              · rw [ftl_rest hrdv (by rw [HUU.out]; exact hvu) (by rw [hmv]; exact hrest), hmv] at hft
                simp only [Prod.mk.injEq] at hft
                obtain ⟨rfl, rfl, rfl⟩ := hft
                have t3 : (m : Int) < b.length := by omega
                clear hrdv hvu
                go_wp2_with fail
                refine HT.out.mono ?_
                rintro ret w3 ⟨rfl, hb3⟩
                have FB := Lib.hid (B.out.trans (hb3.mono hlo))
                clear hb3
                go_wp2_with fail
                go_ret3
                exact ROut.fail FB.out
              · rw [ftl_ok hrdv (by rw [HUU.out]; exact hvu) (by rw [hmv]; exact hrest)] at hft
                simp only [Prod.mk.injEq] at hft
                obtain ⟨rfl, rfl, rfl⟩ := hft
                have t3 : ¬ ((m : Int) < b.length) := by omega
                clear hrdv hvu
                go_wp2_with fail
                refine HT.out.mono ?_
                rintro ret w3 ⟨rfl, hb3⟩
                have FB := Lib.hid (B.out.trans (hb3.mono hlo))
                have O3 := Lib.hid (O.out.keep hb3)
                have T3 := Lib.hid ((T.out.same (fun j _ hj => hb3.block j hj)).widen (Nat.le_refl _) hb3.size)
                clear hb3
                go_wp2_with fail
                go_ret3
                exact ⟨al, nl, cl, vs, rfl, O3.out, T3.out, FB.out⟩
            · have t2 : ((v : Int) != (UU : Int)) = true := by rw [bne_iff_ne]; omega
              have t2' : (v != UU) = true := by rw [bne_iff_ne]; exact hvu
              rw [ftl_bad hrdv (by rw [HUU.out]; exact hvu)] at hft
              simp only [Prod.mk.injEq] at hft
              obtain ⟨rfl, rfl, rfl⟩ := hft
              clear hrdv
              go_wp2_with fail
              refine HT.out.mono ?_
              rintro ret w3 ⟨rfl, hb3⟩
              have FB := Lib.hid (B.out.trans (hb3.mono hlo))
              clear hb3
              go_wp2_with fail
              go_ret3
              exact ROut.fail FB.out
          · have t2 : (e1 != 0) = true := by rw [bne_iff_ne]; exact he1
            rw [ftl_no hrdv he1, hmv] at hft
            simp only [Prod.mk.injEq] at hft
            obtain ⟨rfl, rfl, rfl⟩ := hft
            have FB := Lib.hid B.out
            go_wp2_with fail
            go_ret3
            exact ROut.fail FB.out
  · have t1 : (e0' != 0) = true := by rw [bne_iff_ne]; exact he0
    rw [fread_no hrd0 he0] at hF
    simp only [Prod.mk.injEq] at hF
    obtain ⟨rfl, rfl, rfl⟩ := hF
    clear hrd0
    go_enter Tryz.func44, Tryz.ntmps44
    go_wp2_with fail
    refine HC0.out.mono ?_
    rintro ret w' ⟨rfl, rfl⟩
    go_wp2_with fail
    go_ret3
    exact ROut.fail B0.out
end Go.Proofs.YtljcogimeimknaaGreat
