/- PairOrder: the walk: the law's Go text returns true and writes nothing that was there. Conditions: the slices within reach, what is joined too. -/
import Derived.Test.YtajmojldckpchaaPairWalk
import Derived.Deep.RegionWith
namespace Go.Proofs.Ytajmojldckpchaa
open Go.RowKit

set_option maxHeartbeats 1000000 in
set_option maxRecDepth 100000 in
theorem pairOrder_walk (a : Option Addr) (n c : Nat) (xs : List UInt8) (a' : Option Addr) (n' c' : Nat) (ys : List UInt8) (a2 : Option Addr) (n2 c2 : Nat) (zs : List UInt8) (w : World)
    (hn : n + n2 ≤ 140737488351232) (hn' : n' ≤ 140737488351232) (h : Sl Bf w a n c xs) (h' : Sl Bf w a' n' c' ys) (h2 : Sl Bf w a2 n2 c2 zs) :
    Calls Try.prog 3 #[.slice a n c, .slice a' n' c', .slice a2 n2 c2] w fun e w' => e = .returned (.bool true) ∧ Below w.heap.size w w' := by
  obtain rfl : n = xs.length := h.len.symm
  obtain rfl : n' = ys.length := h'.len.symm
  obtain rfl : n2 = zs.length := h2.len.symm
  have H := Lib.hid h; clear h
  have H' := Lib.hid h'; clear h'
  have H2 := Lib.hid h2; clear h2
  obtain ⟨p, hp⟩ : ∃ p, cmp xs ys = p := ⟨_, rfl⟩
  obtain ⟨r, hr⟩ : ∃ r, cmp ys zs = r := ⟨_, rfl⟩
  obtain ⟨s, hs⟩ : ∃ s, cmp xs zs = s := ⟨_, rfl⟩
  obtain ⟨l, hl⟩ : ∃ l, cmp xs (xs ++ zs) = l := ⟨_, rfl⟩
  have hba : cmp ys xs = -p := by rw [cmp_neg, hp]
  have hpc := cmp_cases xs ys
  rw [hp] at hpc
  have hp1 : -1 ≤ p := by omega
  have hp2 : p ≤ 1 := by omega
  have HPC := Lib.hid hpc; clear hpc
  have HP := Lib.hid hp; clear hp
  have HR := Lib.hid hr; clear hr
  have HS := Lib.hid hs; clear hs
  have HL := Lib.hid hl; clear hl
  have HBA := Lib.hid hba; clear hba
  go_enter Try.func3, Try.ntmps3
  go_wp2_with fail
  refine (lives_any _).mono ?_
  rintro e w1 ⟨rfl, hb⟩
  have G := Lib.hid hb; clear hb
  go_wp2_with fail
  refine (compare_any _ _ _ xs _ _ _ ys _ (H.out.keep G.out) (H'.out.keep G.out)).mono ?_
  rintro e w' ⟨rfl, rfl⟩
  rw [HP.out]
  go_wp2_with fail
  refine (compare_any _ _ _ ys _ _ _ xs _ (H'.out.keep G.out) (H.out.keep G.out)).mono ?_
  rintro e w' ⟨rfl, rfl⟩
  rw [HBA.out]
  go_wp2_with fail
  refine (compare_any _ _ _ ys _ _ _ zs _ (H'.out.keep G.out) (H2.out.keep G.out)).mono ?_
  rintro e w' ⟨rfl, rfl⟩
  rw [HR.out]
  go_wp2_with fail
  refine (compare_any _ _ _ xs _ _ _ zs _ (H.out.keep G.out) (H2.out.keep G.out)).mono ?_
  rintro e w' ⟨rfl, rfl⟩
  rw [HS.out]
  go_wp2_with (first
    | (at_builtin; refine wpList_appT eltTB rfl (.tmp 30) (.tmp 31) rfl w1.heap.size _ [] (by rfl) (OwT.lit fB _ w1.heap.size _ _ [] 0 rfl rfl (Nat.le_refl _) (Nat.zero_le _)) a xs.length c xs (by rfl) ((H.out.keep G.out).keep ((Below.refl _ _).alloc (Nat.le_refl _) _)).toT (by unfold maxLen; simp; omega) (by simp; omega) (by simp) xs rfl ?_; intro v4 w4 h4 hg4 hv4 hb4; have hb4 := ((Below.refl w1.heap.size w1).alloc (Nat.le_refl _) _).trans hb4)
    | (at_builtin; refine wpList_appT eltTB rfl (.tmp 32) (.tmp 33) rfl w1.heap.size _ xs (by rfl) h4 a2 zs.length c2 zs (by rfl) ((H2.out.keep G.out).keep hb4).toT (by unfold maxLen; omega) (by omega) hb4.size (xs ++ zs) rfl ?_; intro v5 w5 h5 hg5 hv5 hb5; obtain ⟨a5, n5, c5, rfl, z5⟩ := h5.slN))
  have Z5 := Lib.hid z5; clear z5 h5
  have G2 := Lib.hid (keep_trans G.out (hb4.trans hb5))
  clear h4 hg4 hv4 hb4 hg5 hv5 hb5 G
  refine (compare_any _ _ _ xs _ _ _ (xs ++ zs) _ (H.out.keep G2.out) Z5.out).mono ?_
  rintro e w' ⟨rfl, rfl⟩
  rw [HL.out]
  clear Z5
  go_wp2_with fail
  refine (same_any _ _ _ xs _ _ _ ys _ (by omega) (by omega) (H.out.keep G2.out) (H'.out.keep G2.out)).mono ?_
  rintro e w6 ⟨rfl, hb⟩
  have G := Lib.hid (keep_trans G2.out hb); clear hb G2
  obtain ⟨q, hq⟩ : ∃ q, decide (xs = ys) = q := ⟨_, rfl⟩
  rw [hq]
  have HQ := Lib.hid hq; clear hq
  go_upto_region 8 with (fail)
  go_cut [73] from 39 to 73 (fun b wx => b = .bool false ∧ wx = w6)
  case first =>
    have hq2 : q = (p == 0) := by
      rw [← HQ.out, ← HP.out, Bool.eq_iff_iff, decide_eq_true_eq, beq_iff_eq]; exact (cmp_eq xs ys).symm
    have hl2 := HL.out
    rw [cmp_app] at hl2
    by_cases hz : 0 < zs.length
    · rw [if_neg (fun e => by rw [e] at hz; simp at hz)] at hl2
      have hzi : (0 : Int) < zs.length := by omega
      rcases HPC.out with h0 | h0 | h0
      all_goals (subst h0; subst hl2; subst hq2; go_wp2_with fail; go_meet; exact ⟨rfl, rfl⟩)
    · rw [if_pos (List.length_eq_zero_iff.1 (by omega))] at hl2
      have hzi : ¬ (0 : Int) < zs.length := by omega
      rcases HPC.out with h0 | h0 | h0
      all_goals (subst h0; subst hl2; subst hq2; go_wp2_with fail; go_meet; exact ⟨rfl, rfl⟩)
  case rest =>
    obtain ⟨rfl, rfl⟩ := hcut
    obtain ⟨w7, rfl⟩ : ∃ w7, w7 = wc := ⟨_, rfl⟩
    go_upto_region 10 with (fail)
    go_cut [91] from 74 to 91 (fun b wx => b = .bool false ∧ wx = w7)
    case first =>
      have htr := cmp_trans xs ys zs
      rw [HP.out, HR.out, HS.out] at htr
      rcases HPC.out with h0 | h0 | h0
      · by_cases hr0 : r ≤ 0
        · obtain ⟨t1, t2⟩ := htr (by omega) hr0
          have hs1 : s < 0 := by
            rcases Int.lt_or_eq_of_le t1 with h | h
            · exact h
            · have := t2 h; omega
          clear t1 t2 htr
          subst h0; go_wp2_with fail; go_meet; first | exact ⟨rfl, rfl⟩ | exact ⟨congrArg Value.bool (by simp; omega), rfl⟩
        · clear htr; subst h0; go_wp2_with fail; go_meet; first | exact ⟨rfl, rfl⟩ | exact ⟨congrArg Value.bool (by simp; omega), rfl⟩
      · by_cases hr0 : r ≤ 0
        · have hs1 : s ≤ 0 := (htr (by omega) hr0).1
          clear htr
          by_cases hs0 : s = 0
          · subst hs0; subst h0; go_wp2_with fail; go_meet; first | exact ⟨rfl, rfl⟩ | exact ⟨congrArg Value.bool (by simp; omega), rfl⟩
          · have hs2 : s < 0 := by omega
            subst h0; go_wp2_with fail; go_meet; first | exact ⟨rfl, rfl⟩ | exact ⟨congrArg Value.bool (by simp; omega), rfl⟩
        · clear htr; subst h0; go_wp2_with fail; go_meet; first | exact ⟨rfl, rfl⟩ | exact ⟨congrArg Value.bool (by simp; omega), rfl⟩
      · clear htr; subst h0; go_wp2_with fail; go_meet; first | exact ⟨rfl, rfl⟩ | exact ⟨congrArg Value.bool (by simp; omega), rfl⟩
    case rest =>
      obtain ⟨rfl, rfl⟩ := hcut
      go_wp2_with fail
      refine (common_any _ _ _ xs _ _ _ ys _ (by omega) (by omega) (H.out.keep G.out) (H'.out.keep G.out)).mono ?_
      rintro e w8 ⟨rfl, hb⟩
      replace G := Lib.hid (keep_trans G.out hb); clear hb
      obtain ⟨m, hm⟩ : ∃ m, com xs ys = m := ⟨_, rfl⟩
      have hm1 : m ≤ xs.length := hm ▸ (com_le xs ys).1
      have hm2 : m ≤ ys.length := hm ▸ (com_le xs ys).2
      rw [hm]
      have HM := Lib.hid hm; clear hm
      have le1 := H.out.le
      have le2 := H'.out.le
      have hc1 := fun (W : World) => run_cutto eltB W a xs.length c .i64 m (by omega)
      have hc2 := fun (W : World) => run_cutto eltB W a' ys.length c' .i64 m (by omega)
      have d1 : decide (xs.length < m) = false := decide_eq_false (by omega)
      have d2 : decide (ys.length < m) = false := decide_eq_false (by omega)
      have d3 : ¬ xs.length < m := by omega
      have d4 : ¬ ys.length < m := by omega
      go_upto_region 15 with (fail)
      go_cut [15] from 109 to 115 (fun x wx => x = .bool true ∧ Below w8.heap.size w8 wx)
      case first =>
        have hsm : ∀ W : World, Below w.heap.size w W → Calls Try.prog 13 #[.slice a m c, .slice a' m c'] W fun e w' => e = .returned (.bool true) ∧ Below W.heap.size W w' := by
          intro W hW
          have := same_any a m c (xs.take m) a' m c' (ys.take m) W (by omega) (by omega) ((H.out.keep hW).upto m hm1) ((H'.out.keep hW).upto m hm2)
          have e : xs.take m = ys.take m := by rw [← HM.out]; exact com_take xs ys
          rwa [decide_eq_true e] at this
        have HSM := Lib.hid hsm; clear hsm
        go_region_with (go_at_call 13; refine (HSM.out _ (G.out.drew)).mono ?_; rintro e w9 ⟨rfl, hb⟩)
        all_goals go_wp2_with fail
        all_goals go_meet
        all_goals exact ⟨rfl, (Below.refl _ _).drew.trans hb⟩
      case rest =>
        obtain ⟨rfl, hb⟩ := hcut
        replace G := Lib.hid (keep_trans G.out hb); clear hb
        have hend := com_end xs ys
        rw [HM.out] at hend
        by_cases hA : (m : Int) = xs.length
        · have f1 : ((m : Int) == (xs.length : Int)) = true := by simpa using hA
          have f2 : (m == xs.length) = true := by simp; omega
          clear hend
          go_wp2_with fail
          go_quiet (fail)
          go_wp2_with fail
          go_ret
          exact ⟨ret_bool (by simp), keep_drewN G.out _⟩
        · have f1 : ((m : Int) == (xs.length : Int)) = false := by simpa using hA
          have f2 : (m == xs.length) = false := by simp; omega
          by_cases hB : (m : Int) = ys.length
          · obtain rfl : m = ys.length := by omega
            clear hend hB
            go_wp2_with fail
            go_quiet (fail)
            go_wp2_with fail
            go_ret
            exact ⟨ret_bool (by simp), keep_drewN G.out _⟩
          · have f3 : ((m : Int) == (ys.length : Int)) = false := by simpa using hB
            have f4 : (m == ys.length) = false := by simp; omega
            obtain ⟨x, y, hx, hy, hxy, hcm⟩ : ∃ x y, xs[m]? = some x ∧ ys[m]? = some y ∧ x ≠ y ∧ cmp xs ys = if x.toNat < y.toNat then -1 else 1 := by
              rcases hend with h | h | h
              · omega
              · omega
              · exact h
            rw [HP.out] at hcm
            obtain ⟨b, o, hxa, hcx⟩ := (H.out.keep G.out).2.2.2 m x hx
            obtain ⟨b', o', hya, hcy⟩ := (H'.out.keep G.out).2.2.2 m y hy
            subst hxa; subst hya
            have hcx : wc.cell? ⟨b, o + m, none⟩ = some (.int .u8 (B x)) := hcx
            have hcy : wc.cell? ⟨b', o' + m, none⟩ = some (.int .u8 (B y)) := hcy
            have hne : (B x != B y) = true := by rw [bne_iff_ne]; exact fun e => hxy (B_inj e)
            have hne2 := u8_ne hxy
            clear hx hy hxy hend
            by_cases hlt : B x < B y
            · rw [if_pos (by unfold B at hlt; omega)] at hcm
              clear hne2
              go_wp2_with fail
              go_quiet (fail)
              go_wp2_with fail
              go_ret
              exact ⟨ret_bool (by subst hcm; simp; try omega), keep_drewN G.out _⟩
            · rw [if_neg (by unfold B at hlt; omega)] at hcm
              clear hne2
              go_wp2_with fail
              go_quiet (fail)
              go_wp2_with fail
              go_ret
              exact ⟨ret_bool (by subst hcm; simp; try omega), keep_drewN G.out _⟩
end Go.Proofs.Ytajmojldckpchaa
