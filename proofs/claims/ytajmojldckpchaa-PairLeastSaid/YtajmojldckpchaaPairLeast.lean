/- PairLeast: the walk: the law's Go text returns true and writes nothing that was there. Conditions: the slices within reach. -/
import Derived.Test.YtajmojldckpchaaPairLeastM
import Derived.Deep.DeepCutAuto
namespace Go.Proofs.Ytajmojldckpchaa
open Go.RowKit

theorem key_any (a : Option Addr) (n c : Nat) (xs : List UInt8) (w : World) (hn : n ≤ 140737488351232) (h : Sl Bf w a n c xs) :
    Calls Try.prog 15 #[.slice a n c] w fun e w' => e = .returned (.int .i64 (keyE xs)) ∧ w = w' := by
  obtain rfl : n = xs.length := h.len.symm
  have H := Lib.hid h; clear h
  by_cases h0 : xs.length = 0
  · have hk : keyE xs = 3 := by unfold keyE; rw [if_pos (.inl h0)]
    have f1 : ((xs.length : Int) == 0) = true := by rw [beq_iff_eq]; omega
    have f2 : (xs.length == 0) = true := by rw [beq_iff_eq]; omega
    have HK := Lib.hid hk
    clear hk h0
    go_enter Try.func15, Try.ntmps15
    go_wp2_with fail
    go_ret
    exact ⟨ret_int HK.out.symm, rfl⟩
  · have f1 : ((xs.length : Int) == 0) = false := by rw [beq_eq_false_iff_ne]; omega
    have f2 : (xs.length == 0) = false := by rw [beq_eq_false_iff_ne]; omega
    by_cases h1 : (xs.length : Int) > 64
    · have hk : keyE xs = 3 := by unfold keyE; rw [if_pos (.inr (by omega))]
      have HK := Lib.hid hk
      clear hk h0
      go_enter Try.func15, Try.ntmps15
      go_wp2_with fail
      go_ret
      exact ⟨ret_int HK.out.symm, rfl⟩
    · have hk : keyE xs = 0 := by unfold keyE; rw [if_neg (by omega)]
      have HK := Lib.hid hk
      clear hk h0
      go_enter Try.func15, Try.ntmps15
      go_wp2_with fail
      go_ret
      exact ⟨ret_int HK.out.symm, rfl⟩

set_option maxHeartbeats 1000000 in
set_option maxRecDepth 100000 in
theorem pairLeast_walk (a : Option Addr) (n c : Nat) (xs : List UInt8) (a' : Option Addr) (n' c' : Nat) (ys : List UInt8) (a2 : Option Addr) (n2 c2 : Nat) (ts : List UInt8) (w : World)
    (hn : n ≤ 140737488351232) (hn' : n' ≤ 140737488351232) (hn2 : n2 ≤ 140737488351232) (h : Sl Bf w a n c xs) (h' : Sl Bf w a' n' c' ys) (h2 : Sl Bf w a2 n2 c2 ts) :
    Calls Try.prog 6 #[.slice a n c, .slice a' n' c', .slice a2 n2 c2] w fun e w' => e = .returned (.bool true) ∧ Below w.heap.size w w' := by
  obtain rfl : n = xs.length := h.len.symm
  obtain rfl : n' = ys.length := h'.len.symm
  obtain rfl : n2 = ts.length := h2.len.symm
  have H := Lib.hid h; clear h
  have H' := Lib.hid h'; clear h'
  have H2 := Lib.hid h2; clear h2
  obtain ⟨p, hp⟩ : ∃ p, cmp xs ys = p := ⟨_, rfl⟩
  have HP := Lib.hid hp; clear hp
  obtain ⟨ee, hee⟩ : ∃ ee, betE xs ys = ee := ⟨_, rfl⟩
  have HE := Lib.hid hee; clear hee
  go_enter Try.func6, Try.ntmps6
  go_wp2_with fail
  refine (lives_any _).mono ?_
  rintro e w1 ⟨rfl, hb⟩
  have G := Lib.hid hb; clear hb
  go_wp2_with fail
  refine (between_any _ _ _ xs _ _ _ ys _ hn hn' (H.out.keep G.out) (H'.out.keep G.out)).mono ?_
  rintro e w2 ⟨v, rfl, hv, hb⟩
  rw [HE.out]
  replace G := Lib.hid (keep_trans G.out hb); clear hb
  obtain ⟨av, nv, cv, rfl, zv⟩ := hv.slN
  have O := Lib.hid hv; clear hv zv
  go_wp2_with fail
  refine (compare_any _ _ _ xs _ _ _ ys _ (H.out.keep G.out) (H'.out.keep G.out)).mono ?_
  rintro e w' ⟨rfl, rfl⟩
  rw [HP.out]
  go_upto_region 4 with (fail)
  go_cut [41] from 33 to 41 (fun b wx => b = .bool false ∧ wx = w2)
  case first =>
    by_cases hp0 : p < 0
    · have he : ee = 0 := by rw [← HE.out]; exact (bet_yes (HP.out ▸ hp0)).2
      subst he; go_wp2_with fail; go_meet; exact ⟨rfl, rfl⟩
    · have he : ee = 51 := by rw [← HE.out]; exact (bet_no (HP.out ▸ hp0)).2
      subst he; go_wp2_with fail; go_meet; exact ⟨rfl, rfl⟩
  case rest =>
    obtain ⟨rfl, rfl⟩ := hcut
    obtain ⟨w3, rfl⟩ : ∃ w3, w3 = wc := ⟨_, rfl⟩
    go_upto_if 43 with (fail)
    go_cut [11, 12, 13, 14, 15] from 44 to 91 (fun _ _ _ _ _ wx => Below w3.heap.size w3 wx)
    case first =>
      by_cases hp0 : p < 0
      · have he : ee = 0 := by rw [← HE.out]; exact (bet_yes (HP.out ▸ hp0)).2
        have hs := (bet_yes (xs := xs) (ys := ys) (HP.out ▸ hp0)).1
        obtain ⟨hn1, hn2⟩ := cmp_next xs ys (HP.out ▸ hp0)
        have hO := O.out
        rw [hs] at hO
        have hhi := cmp_upto ys (com xs ys + 1)
        have hlea := least (xs := xs) (ys := ys) (ts := ts)
        obtain ⟨m, hm⟩ : ∃ m, com xs ys = m := ⟨_, rfl⟩
        rw [hm] at hn1 hn2 hO hhi hlea
        have hnv : nv = m + 1 := by rw [← hO.slI.len, List.length_take]; omega
        subst he
        subst hnv
        have SV := Lib.hid hO.slI; clear hO
        have HN2 := Lib.hid hn2; clear hn2
        obtain ⟨hi, hhi0⟩ : ∃ hi, cmp (ys.take (m + 1)) ys = hi := ⟨_, rfl⟩
        obtain ⟨ta, hta⟩ : ∃ ta, cmp xs ts = ta := ⟨_, rfl⟩
        obtain ⟨tb, htb⟩ : ∃ tb, cmp ts ys = tb := ⟨_, rfl⟩
        rw [hhi0] at hhi
        rw [hta, htb] at hlea
        have HI := Lib.hid hhi0; clear hhi0
        have HTA := Lib.hid hta; clear hta
        have HTB := Lib.hid htb; clear htb
        have HLE := Lib.hid hlea; clear hlea
        clear hs hm
        go_wp2_with fail
        refine (compare_any _ _ _ xs _ _ _ (ys.take (m + 1)) _ (H.out.keep G.out) SV.out).mono ?_
        rintro e w' ⟨rfl, rfl⟩
        rw [HN2.out]
        go_wp2_with fail
        refine (compare_any _ _ _ (ys.take (m + 1)) _ _ _ ys _ SV.out (H'.out.keep G.out)).mono ?_
        rintro e w' ⟨rfl, rfl⟩
        rw [HI.out]
        go_wp2_with fail
        refine (compare_any _ _ _ xs _ _ _ ts _ (H.out.keep G.out) (H2.out.keep G.out)).mono ?_
        rintro e w' ⟨rfl, rfl⟩
        rw [HTA.out]
        go_wp2_with fail
        refine (compare_any _ _ _ ts _ _ _ ys _ (H2.out.keep G.out) (H'.out.keep G.out)).mono ?_
        rintro e w' ⟨rfl, rfl⟩
        rw [HTB.out]
        have le2 := H'.out.le
        have hc2 := fun (W : World) => run_cutto eltB W a' ys.length c' .i64 (m + 1) (by omega)
        have hc3 : ∀ (W : World), (Instr.slice 22 (.slice a' ys.length c') none (some (.int .i64 ((m : Int) + 1))) none).run Try.prog W = .ok (.slice a' (m + 1) c') W := hc2
        have hsm : ∀ W : World, Below w3.heap.size w3 W → Calls Try.prog 13 #[.slice av (m + 1) cv, .slice a' (m + 1) c'] W fun e w' => e = .returned (.bool true) ∧ Below W.heap.size W w' := by
          intro W hW
          have := same_any av (m + 1) cv (ys.take (m + 1)) a' (m + 1) c' (ys.take (m + 1)) W (by omega) (by omega) (SV.out.keep hW) (((H'.out.keep G.out).keep hW).upto (m + 1) (by omega))
          rwa [decide_eq_true rfl] at this
        have HSM := Lib.hid hsm; clear hsm
        by_cases h1 : ta < 0
        · by_cases h2 : tb ≤ 0
          · have h3 := HLE.out h1 h2
            have d1 : ¬ ts.length < m + 1 := by omega
            have d2 : ¬ (ts.length : Int) < (m : Int) + 1 := by omega
            go_wp2_with (go_at_call 13; refine (HSM.out _ (Below.refl _ _)).mono ?_; rintro e w9 ⟨rfl, hb⟩)
            go_meet
            exact hb
          · go_wp2_with (go_at_call 13; refine (HSM.out _ (Below.refl _ _)).mono ?_; rintro e w9 ⟨rfl, hb⟩)
            go_meet
            exact hb
        · go_wp2_with (go_at_call 13; refine (HSM.out _ (Below.refl _ _)).mono ?_; rintro e w9 ⟨rfl, hb⟩)
          go_meet
          exact hb
      · have he : ee = 51 := by rw [← HE.out]; exact (bet_no (HP.out ▸ hp0)).2
        subst he; go_wp2_with fail; go_meet; exact Below.refl _ _
    case rest =>
      have G := Lib.hid (keep_trans G.out hcut); clear hcut O
      go_wp2_with fail
      refine (after_any _ _ _ xs _ (by omega) (H.out.keep G.out)).mono ?_
      rintro e w5 ⟨k, rfl, hk, hb⟩
      have G := Lib.hid (keep_trans G.out hb); clear hb
      obtain ⟨ak, nk, ck, rfl, zk⟩ := hk.slN
      have Z := Lib.hid zk; clear hk zk
      obtain ⟨q, hq⟩ : ∃ q, aftB xs = q := ⟨_, rfl⟩
      rw [hq]
      have HQ := Lib.hid hq; clear hq
      obtain ⟨ab, hab⟩ : ∃ ab, cmp xs ts = ab := ⟨_, rfl⟩
      have HAB := Lib.hid hab; clear hab
      obtain ⟨ke, hke⟩ : ∃ ke, keyE ts = ke := ⟨_, rfl⟩
      have HKE := Lib.hid hke; clear hke
      go_wp2_with fail
      refine (compare_any _ _ _ xs _ _ _ ts _ (H.out.keep G.out) (H2.out.keep G.out)).mono ?_
      rintro e w' ⟨rfl, rfl⟩
      rw [HAB.out]
      go_wp2_with fail
      refine (key_any _ _ _ ts _ (by omega) (H2.out.keep G.out)).mono ?_
      rintro e w' ⟨rfl, rfl⟩
      rw [HKE.out]
      have hk2 : ke = 0 → ts.length ≤ 64 := by
        intro e
        have := HKE.out
        rw [e] at this
        unfold keyE at this
        split at this
        · cases this
        · omega
      have HK2 := Lib.hid hk2; clear hk2
      cases q with
      | true =>
        obtain ⟨h1, h2, h3, h4⟩ := aft_yes HQ.out
        have hkk : keyE (aftV xs) = 0 := by unfold keyE; rw [if_neg (by omega)]
        obtain ⟨kt, hkt⟩ : ∃ kt, cmp (aftV xs) ts = kt := ⟨_, rfl⟩
        have HKT := Lib.hid hkt; clear hkt
        have H3 := Lib.hid h3; clear h3
        have H4 := Lib.hid h4; clear h4
        have HKK := Lib.hid hkk; clear hkk
        have hnk : nk ≤ 140737488351232 := by have := Z.out.len; omega
        go_wp2_with fail
        refine (key_any _ _ _ (aftV xs) _ hnk Z.out).mono ?_
        rintro e w' ⟨rfl, rfl⟩
        rw [HKK.out]
        go_wp2_with fail
        refine (compare_any _ _ _ xs _ _ _ (aftV xs) _ (H.out.keep G.out) Z.out).mono ?_
        rintro e w' ⟨rfl, rfl⟩
        rw [H3.out]
        go_wp2_with fail
        refine (compare_any _ _ _ (aftV xs) _ _ _ ts _ Z.out (H2.out.keep G.out)).mono ?_
        rintro e w' ⟨rfl, rfl⟩
        rw [HKT.out]
        by_cases ha : 0 ≤ ab
        · go_wp2_with fail
          go_ret
          exact ⟨ret_bool (by simp), G.out⟩
        · by_cases hz : ke = 0
          · have hkt : kt ≤ 0 := by rw [← HKT.out]; exact H4.out ts (HK2.out hz) (by rw [HAB.out]; omega)
            go_wp2_with fail
            go_ret
            exact ⟨ret_bool (by simp), G.out⟩
          · have f1 : (ke != 0) = true := by rw [bne_iff_ne]; exact hz
            go_wp2_with fail
            go_ret
            exact ⟨ret_bool (by simp), G.out⟩
      | false =>
        obtain ⟨h1, h2⟩ := aft_no HQ.out
        have hnk : nk = 0 := by have := Z.out.len; rw [h1] at this; exact this.symm
        subst hnk
        have H3 := Lib.hid h2; clear h2 h1
        by_cases ha : 0 ≤ ab
        · go_wp2_with fail
          go_ret
          exact ⟨ret_bool (by simp), G.out⟩
        · have hz : ¬ ke = 0 := by
            intro e
            have := H3.out ts (HK2.out e)
            rw [HAB.out] at this; omega
          have f1 : (ke != 0) = true := by rw [bne_iff_ne]; exact hz
          go_wp2_with fail
          go_ret
          exact ⟨ret_bool (by simp), G.out⟩
end Go.Proofs.Ytajmojldckpchaa
