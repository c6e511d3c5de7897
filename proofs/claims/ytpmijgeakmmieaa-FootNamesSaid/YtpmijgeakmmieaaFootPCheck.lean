/- May rows be: Check, the program's: contract. Conditions: the rows within reach. Written by a program of this place (gen_FootPCheck.py). -/
import Derived.Test.YtpmijgeakmmieaaFootRCheck
import Derived.Deep.RegionHeld3
namespace Go.Proofs.Ytpmijgeakmmieaa
open Go.RowKit
attribute [local go_sem] run_store_fn

theorem run_cutS (w : World) (aa : Option Addr) (n c : Nat) (k2 : IntKind) (r : Nat) (hr : r ≤ c) : (Instr.slice 22 (.slice aa n c) none (some (.int k2 r)) none).run Try.prog w = .ok (.slice aa r c) w := by
  have hi : (Try.prog.info? 49).map (fun i => (i.zero, i.size, i.bytes)) = some (some (.agg #[.slice none 0 0, .int .i64 0, .int .i64 0, .int .i64 0]), 4, 48) := by kernel_rfl
  obtain ⟨i, hi1, hi2, hi3, hi4⟩ := info_parts hi
  cases aa <;> simp [Instr.slice, run_underlying Try.underlying22, Instr.sliceBounds, Instr.sliceBound, asIntOf, sizeOf, typeInfo, hi1, hr, Addr.add]

set_option maxHeartbeats 4000000 in
set_option maxRecDepth 100000 in
theorem fcheck_any (a : Option Addr) (n c : Nat) (rs : List Row) (w : World) (hn : n ≤ 140737488351232) (hf : FitR 140737488351232 rs) (h : Spans w a n c rs) :
    Calls Try.prog 10 #[.slice a n c] w fun e w' => e = .returned (.tuple #[.int .i64 ((fchk rs).1 : Nat), .int .i64 ((fchk rs).2 : Nat)]) ∧ Below w.heap.size w w' := by
  obtain rfl : n = rs.length := h.1.symm
  have HF := Lib.hid hf; clear hf
  unfold fchk
  by_cases hm : 8388608 < rs.length
  · rw [if_pos hm]
    have t1 : (rs.length : Int) > 8388608 := by omega
    go_enter Try.func10, Try.ntmps10
    go_wp2_with fail
    go_ret2
    exact ⟨rfl, Below.refl _ _⟩
  · rw [if_neg hm]
    have t1 : decide (8388608 < rs.length) = false := decide_eq_false hm
    have t2 : decide ((8388608 : Int) < (rs.length : Int)) = false := decide_eq_false (by omega)
    have t3 : decide ((rs.length : Int) > 8388608) = false := decide_eq_false (by omega)
    have hm' : rs.length ≤ 8388608 := by omega
    obtain ⟨⟨r0, r1⟩, hr⟩ : ∃ R, fck 0 8 [] rs = R := ⟨_, rfl⟩
    rw [hr]
    have HR := Lib.hid hr; clear hr hm
    have S0 := Lib.hid ((Stab.spans h).and (Stab.below (Below.refl w.heap.size w)))
    have H := Lib.hid h
    clear h
    go_enter Try.func10, Try.ntmps10
    go_wp2_with fail
    refine (rules_any _).mono ?_
    rintro e w1 ⟨rfl, hb⟩
    replace S0 := Lib.hid ((S0.out.keep hb).alloc (.cells #[.func (.func 44) #[] #[], .func (.func 45) #[] #[], .int .i64 73, .func (.func 46) #[] #[], .func (.func 47) #[] #[], .int .i64 74, .func (.func 48) #[] #[], .func (.func 49) #[] #[], .int .i64 75] 54))
    have T := Lib.hid (Stab.new w1 (.cells #[.func (.func 44) #[] #[], .func (.func 45) #[] #[], .int .i64 73, .func (.func 46) #[] #[], .func (.func 47) #[] #[], .int .i64 74, .func (.func 48) #[] #[], .func (.func 49) #[] #[], .int .i64 75] 54))
    clear hb
    go_upto_region 4 with (fail)
    obtain ⟨g4, hg⟩ : ∃ g, w1.heap.size = g := ⟨_, rfl⟩
    rw [hg] at T ⊢
    clear hg
    generalize w1.alloc (.cells #[.func (.func 44) #[] #[], .func (.func 45) #[] #[], .int .i64 73, .func (.func 46) #[] #[], .func (.func 47) #[] #[], .int .i64 74, .func (.func 48) #[] #[], .func (.func 49) #[] #[], .int .i64 75] 54) = w2 at *
    have S1 := Lib.hid (S0.out.and T.out)
    clear S0 T
    go_wp2_with fail
    go_loopw [16] (fun i wr => ∃ (k : Nat) (p : Int) (l : List UInt8), k ≤ rs.length ∧ i = .int .i64 k ∧ (8 ≤ p ∧ p ≤ 8 + 131072 * k) ∧ (k = 0 → p = 8) ∧ (∀ j, k = j + 1 → ∃ x y z, rs[j]? = some (l, x, y, z) ∧ x + y = p) ∧ fck k p l (rs.drop k) = (r0, r1) ∧ Stab wr (fun W => (Spans W a rs.length c rs ∧ Below w.heap.size w W) ∧ W.heap[g4]? = some (.cells #[.func (.func 44) #[] #[], .func (.func 45) #[] #[], .int .i64 73, .func (.func 46) #[] #[], .func (.func 47) #[] #[], .int .i64 74, .func (.func 48) #[] #[], .func (.func 49) #[] #[], .int .i64 75] 54 (0, 0)))) (fun i _ => rs.length - (intOf i).toNat)
    case atStart => exact ⟨0, 8, [], Nat.zero_le _, rfl, ⟨by omega, by omega⟩, fun _ => rfl, (fun j hj => by cases hj), HR.out, S1.out⟩
    case round =>
      obtain ⟨k, p, l, hk, rfl, ⟨hp1, hp2⟩, hp8, hl, hr, hS⟩ := hrel
      have HL := Lib.hid hl
      have H8 := Lib.hid hp8
      have S := Lib.hid hS
      clear hl hp8 hS
      by_cases hlt : k < rs.length
      · obtain ⟨⟨kk, x, y, z⟩, hx⟩ : ∃ e, rs[k]? = some e := ⟨_, List.getElem?_eq_getElem hlt⟩
        obtain ⟨fk, fx, fy, fz⟩ := HF.out.at hx
        obtain ⟨b, o, ak, nk, ck, ha, c0, c1, c2, c3, s0⟩ := S.out.now.1.1.2.2.2 k kk x y z hx
        subst ha
        rw [rdrop_cons hx] at hr
        have HX := Lib.hid hx; clear hx
        obtain rfl : kk.length = nk := s0.len
        have S0 := Lib.hid ((Stab.sl s0).alloc (.cells #[.slice ak kk.length ck, .int .i64 x, .int .i64 y, .int .i64 z] 49))
        replace S := Lib.hid (S.out.alloc (.cells #[.slice ak kk.length ck, .int .i64 x, .int .i64 y, .int .i64 z] 49))
        have X := Lib.hid (Stab.new wr (.cells #[.slice ak kk.length ck, .int .i64 x, .int .i64 y, .int .i64 z] 49))
        clear s0
        go_upto_region 7 with (fail)
        obtain ⟨g6, hg⟩ : ∃ g, wr.heap.size = g := ⟨_, rfl⟩
        rw [hg] at X ⊢
        clear hg c0 c1 c2 c3
        generalize wr.alloc (.cells #[.slice ak kk.length ck, .int .i64 x, .int .i64 y, .int .i64 z] 49) = w3 at *
        have hA : ∀ W : World, Spans W (some ⟨b, o, none⟩) rs.length c rs → Sl Bf W ak kk.length ck kk → Calls Try.prog 30 #[.slice (some ⟨b, o, none⟩) k c, .slice ak kk.length ck] W fun e w' => e = .returned (.bool (decide (¬ (0 < k ∧ 0 ≤ cmp l kk)))) ∧ W = w' := by
          intro W hs hsk
          by_cases hk0 : k = 0
          · subst hk0
            rw [decide_eq_true (by omega)]
            exact above0_any _ _ _ _ _ _
          · obtain ⟨j, rfl⟩ : ∃ j, k = j + 1 := ⟨k - 1, by omega⟩
            obtain ⟨x', y', z', hlj, _⟩ := HL.out j rfl
            have hlj2 : (rs.take (j + 1))[j]? = some (l, x', y', z') := by rw [List.getElem?_take_of_lt (by omega)]; exact hlj
            have := above_any _ j c (rs.take (j + 1)) l x' y' z' ak kk.length ck kk W (by omega) (hs.upto (j + 1) (by omega)) hlj2 hsk
            have e : decide (¬ (0 < j + 1 ∧ 0 ≤ cmp l kk)) = decide (cmp l kk < 0) := by
              by_cases h : cmp l kk < 0
              · rw [decide_eq_true h, decide_eq_true (by omega)]
              · rw [decide_eq_false h, decide_eq_false (by omega)]
            rw [e]; exact this
        have hE : ∀ W : World, Spans W (some ⟨b, o, none⟩) rs.length c rs → Calls Try.prog 31 #[.slice (some ⟨b, o, none⟩) k c] W fun e w' => e = .returned (.int .i64 p) ∧ Below W.heap.size W w' := by
          intro W hs
          by_cases hk0 : k = 0
          · subst hk0
            rw [H8.out rfl]
            exact end0_any _ _ _
          · obtain ⟨j, rfl⟩ : ∃ j, k = j + 1 := ⟨k - 1, by omega⟩
            obtain ⟨x', y', z', hlj, hxy⟩ := HL.out j rfl
            have hlj2 : (rs.take (j + 1))[j]? = some (l, x', y', z') := by rw [List.getElem?_take_of_lt (by omega)]; exact hlj
            exact end_any _ j c (rs.take (j + 1)) l x' y' z' p W (by omega) (hs.upto (j + 1) (by omega)) hlj2 hxy (by omega)
        have HE := Lib.hid hE
        obtain ⟨ab, hab⟩ : ∃ ab, decide (¬ (0 < k ∧ 0 ≤ cmp l kk)) = ab := ⟨_, rfl⟩
        rw [hab] at hA
        have HA := Lib.hid (fun q : Nat => (hA (w3.drewN q) (S.out.drewN q).now.1.1 (S0.out.drewN q).now).mono (fun _ _ (h : _ ∧ _) => (⟨h.1, Drw.of h.2.symm⟩ : _ ∧ Drw (w3.drewN q) _)))
        obtain ⟨q, hq⟩ : ∃ q : Int, ((fkN kk.length : Nat) : Int) = q := ⟨_, rfl⟩
        have hK := fun m : Nat => (fkeyn_any ak kk.length ck (w3.drewN m) fk).mono (fun _ _ (h : _ ∧ _) => (⟨h.1, Drw.of h.2⟩ : _ ∧ Drw (w3.drewN m) _))
        rw [hq] at hK
        have HK := Lib.hid hK
        have hcut := fun W : World => run_cutS W (some ⟨b, o, none⟩) rs.length c .i64 k (by have := S.out.now.1.1.2.1; omega)
        have x0 := cell_of X.out.now 0 rfl
        clear hA hE hK H8 HL
        by_cases hkb : kk.length = 0 ∨ 64 < kk.length
        · rw [fck_key (.inl hkb)] at hr
          obtain ⟨rfl, rfl⟩ : k = r0 ∧ 72 = r1 := by simpa using hr
          have hq3 : q = 3 := by rw [← hq, fkN_bad hkb]; rfl
          subst hq3
          have FB := Lib.hid S.out.now.1.2
          clear hr hq hkb hab HR HX S
          go_wp2_with fail
          go_quiet ((go_at_call 29; exact Calls.quiet_of_drw (HK.out _)))
          go_wp2_with fail
          go_ret2
          exact ⟨rfl, keep_drewN FB.out _⟩
        · have hq0 : q = 0 := by rw [← hq, fkN_ok hkb]; rfl
          subst hq0
          by_cases hbad : 0 < k ∧ 0 ≤ cmp l kk
          · rw [fck_key (.inr hbad)] at hr
            obtain ⟨rfl, rfl⟩ : k = r0 ∧ 72 = r1 := by simpa using hr
            obtain rfl : ab = false := by rw [← hab]; exact decide_eq_false (fun h => h hbad)
            have FB := Lib.hid S.out.now.1.2
            clear hr hq hkb hab HR HX S hbad
            go_wp2_with fail
            go_quiet ((first | (go_at_call 29; exact Calls.quiet_of_drw (HK.out _)) | (go_at_call 30; exact Calls.quiet_of_drw (HA.out _))))
            go_wp2_with fail
            go_ret2
            exact ⟨rfl, keep_drewN FB.out _⟩
          · have hG : ¬ ((kk.length = 0 ∨ 64 < kk.length) ∨ (0 < k ∧ 0 ≤ cmp l kk)) := by omega
            have hfin : (x ≠ p → k = r0 ∧ 73 = r1) ∧ (x = p → (y < 1 ∨ 131072 < y) → k = r0 ∧ 74 = r1) ∧ (x = p → ¬ (y < 1 ∨ 131072 < y) → (z < 1 ∨ 64 < z) → k = r0 ∧ 75 = r1) ∧ (x = p → ¬ (y < 1 ∨ 131072 < y) → ¬ (z < 1 ∨ 64 < z) → fck (k + 1) (p + y) kk (rs.drop (k + 1)) = (r0, r1)) := by
              refine ⟨fun h1 => ?_, fun h1 h2 => ?_, fun h1 h2 h3 => ?_, fun h1 h2 h3 => ?_⟩
              · rw [fck_at hG h1] at hr; simpa using hr
              · rw [fck_len hG h1 h2] at hr; simpa using hr
              · rw [fck_ent hG h1 h2 h3] at hr; simpa using hr
              · rw [fck_go hG h1 h2 h3] at hr; exact hr
            have FIN := Lib.hid hfin
            obtain rfl : ab = true := by rw [← hab]; exact decide_eq_true hbad
            clear hfin hr hG hkb hbad hab hq HR
            have d0 := cell_of S.out.now.2 0 rfl
            have d1 := cell_of S.out.now.2 1 rfl
            have d2 := cell_of S.out.now.2 2 rfl
            have d3 := cell_of S.out.now.2 3 rfl
            have d4 := cell_of S.out.now.2 4 rfl
            have d5 := cell_of S.out.now.2 5 rfl
            have d6 := cell_of S.out.now.2 6 rfl
            have d7 := cell_of S.out.now.2 7 rfl
            have d8 := cell_of S.out.now.2 8 rfl
            go_wp2_with fail
            go_quiet ((first | (go_at_call 29; exact Calls.quiet_of_drw (HK.out _)) | (go_at_call 30; exact Calls.quiet_of_drw (HA.out _))))
            go_wp2_with fail
            replace S := Lib.hid (S.out.drewN nq)
            replace X := Lib.hid (X.out.drewN nq)
            clear HA HK x0 hcut d0 d1 d2 d3 d4 d5 d6 d7 d8
            generalize w3.drewN nq = w4 at *
            go_loopw [36] (fun i wr => ∃ j : Nat, j ≤ 3 ∧ i = .int .i64 j ∧ (1 ≤ j → x = p) ∧ (2 ≤ j → ¬ (y < 1 ∨ 131072 < y)) ∧ (3 ≤ j → ¬ (z < 1 ∨ 64 < z)) ∧ Stab wr (fun W => (((Spans W (some ⟨b, o, none⟩) rs.length c rs ∧ Below w.heap.size w W) ∧ W.heap[g4]? = some (.cells #[.func (.func 44) #[] #[], .func (.func 45) #[] #[], .int .i64 73, .func (.func 46) #[] #[], .func (.func 47) #[] #[], .int .i64 74, .func (.func 48) #[] #[], .func (.func 49) #[] #[], .int .i64 75] 54 (0, 0))) ∧ W.heap[g6]? = some (.cells #[.slice ak kk.length ck, .int .i64 x, .int .i64 y, .int .i64 z] 49 (0, 0))))) (fun i _ => 3 - (intOf i).toNat)
            case atStart => exact ⟨0, by omega, rfl, (fun h => by omega), (fun h => by omega), (fun h => by omega), S.out.and X.out⟩
            case round =>
              obtain ⟨j, hj, rfl, j1, j2, j3, hs⟩ := hrel
              clear S X
              have S := Lib.hid hs; have J1 := Lib.hid j1; have J2 := Lib.hid j2; have J3 := Lib.hid j3
              clear hs j1 j2 j3
              rcases (by omega : j = 0 ∨ j = 1 ∨ j = 2 ∨ j = 3) with rfl | rfl | rfl | rfl
              · have ix : ∀ W, (Instr.index 54 (.agg #[.func (.func 44) #[] #[], .func (.func 45) #[] #[], .int .i64 73, .func (.func 46) #[] #[], .func (.func 47) #[] #[], .int .i64 74, .func (.func 48) #[] #[], .func (.func 49) #[] #[], .int .i64 75]) (.int .i64 0)).run Try.prog W = .ok (.agg #[.func (.func 44) #[] #[], .func (.func 45) #[] #[], .int .i64 73]) W := fun _ => by kernel_rfl
                replace S := Lib.hid (S.out.alloc (.cells #[.func (.func 44) #[] #[], .func (.func 45) #[] #[], .int .i64 73] 53))
                have T := Lib.hid (Stab.new wr (.cells #[.func (.func 44) #[] #[], .func (.func 45) #[] #[], .int .i64 73] 53))
                go_upto_region 12 with (fail)
                obtain ⟨g8, hg⟩ : ∃ g, wr.heap.size = g := ⟨_, rfl⟩
                rw [hg] at T ⊢
                clear hg ix
                generalize wr.alloc (.cells #[.func (.func 44) #[] #[], .func (.func 45) #[] #[], .int .i64 73] 53) = w5 at *
                have r0 := cell_of T.out.now 0 rfl
                have x1 := cell_of S.out.now.2 1 rfl
                have r2 := cell_of T.out.now 2 rfl
                go_wp2_with fail
                refine (of1_any _ _).mono ?_
                rintro e w' ⟨rfl, rfl⟩
                by_cases hv : x < 0
                · have hne : x ≠ p := by omega
                  obtain ⟨rfl, rfl⟩ := FIN.out.1 hne
                  have FB := Lib.hid S.out.now.1.1.2
                  clear hne FIN
                  go_wp2_with fail
                  go_quiet (fail)
                  go_wp2_with fail
                  go_quiet (fail)
                  go_wp2_with fail
                  go_ret2
                  exact ⟨rfl, keep_drewN (keep_drewN FB.out _) _⟩
                · have hv1 : decide (x < 0) = false := decide_eq_false hv
                  have hv0 : 0 ≤ x := by omega
                  have e1 : IntKind.u64.wrap x = x := by rw [IntKind.wrap_u64]; omega
                  have r1 := cell_of T.out.now 1 rfl
                  have hcut := fun W : World => run_cutS W (some ⟨b, o, none⟩) rs.length c .i64 k (by have := S.out.now.1.1.1.2.1; omega)
                  obtain ⟨t, ht⟩ : ∃ t, (x == p) = t := ⟨_, rfl⟩
                  have hM := fun W : World => (may2_any x p W (by omega))
                  rw [ht] at hM
                  have HM := Lib.hid hM
                  clear hM
                  have SD : Hid (Stab w5.drew _) := Lib.hid (S.out.drewN 1)
                  have TD : Hid (Stab w5.drew _) := Lib.hid (T.out.drewN 1)
                  have HE5 := Lib.hid (HE.out w5.drew SD.out.now.1.1.1)
                  go_wp2_with fail
                  go_region_held3 (fun w' => w'.cell? ⟨g8, 1, none⟩ = some (.func (.func 45) #[] #[])) (first | go_keep | assumption) (first | (go_at_call 31; refine HE5.out.mono ?_; rintro e w6 ⟨rfl, hb6⟩; have S6 := Lib.hid (SD.out.keep hb6); have r6 := cell_of (TD.out.keep hb6).now 2 rfl; have q6 : w6.cell? ⟨g8, 1, none⟩ = some (.func (.func 45) #[] #[]) := cell_of (TD.out.keep hb6).now 1 rfl; clear hb6) | (go_at_call 45; refine (HM.out _).mono ?_; rintro e w' ⟨rfl, rfl⟩))
                  cases t
                  · have hne : x ≠ p := (by have := ht; rw [beq_eq_false_iff_ne] at this; exact this)
                    obtain ⟨rfl, rfl⟩ := FIN.out.1 hne
                    have FB := Lib.hid S6.out.now.1.1.2
                    clear hne FIN ht
                    go_wp2_with fail
                    go_quiet (fail)
                    go_wp2_with fail
                    go_ret2
                    exact ⟨rfl, keep_drewN FB.out _⟩
                  · have ho : x = p := (by have := ht; rw [beq_iff_eq] at this; exact this)
                    have HO := Lib.hid ho
                    clear ho ht r6
                    go_wp2_with fail
                    go_roundw
                    case rel => exact ⟨1, by omega, rfl, (fun _ => HO.out), (fun h => by omega), (fun h => by omega), S6.out⟩
                    case measure => simp [intOf]
              · have ix : ∀ W, (Instr.index 54 (.agg #[.func (.func 44) #[] #[], .func (.func 45) #[] #[], .int .i64 73, .func (.func 46) #[] #[], .func (.func 47) #[] #[], .int .i64 74, .func (.func 48) #[] #[], .func (.func 49) #[] #[], .int .i64 75]) (.int .i64 1)).run Try.prog W = .ok (.agg #[.func (.func 46) #[] #[], .func (.func 47) #[] #[], .int .i64 74]) W := fun _ => by kernel_rfl
                replace S := Lib.hid (S.out.alloc (.cells #[.func (.func 46) #[] #[], .func (.func 47) #[] #[], .int .i64 74] 53))
                have T := Lib.hid (Stab.new wr (.cells #[.func (.func 46) #[] #[], .func (.func 47) #[] #[], .int .i64 74] 53))
                go_upto_region 12 with (fail)
                obtain ⟨g8, hg⟩ : ∃ g, wr.heap.size = g := ⟨_, rfl⟩
                rw [hg] at T ⊢
                clear hg ix
                generalize wr.alloc (.cells #[.func (.func 46) #[] #[], .func (.func 47) #[] #[], .int .i64 74] 53) = w5 at *
                have r0 := cell_of T.out.now 0 rfl
                have x2 := cell_of S.out.now.2 2 rfl
                have r2 := cell_of T.out.now 2 rfl
                go_wp2_with fail
                refine (of3_any _ _).mono ?_
                rintro e w' ⟨rfl, rfl⟩
                by_cases hv : y < 0
                · have hne : (y < 1 ∨ 131072 < y) := by omega
                  obtain ⟨rfl, rfl⟩ := FIN.out.2.1 (J1.out (by omega)) hne
                  have FB := Lib.hid S.out.now.1.1.2
                  clear hne FIN
                  go_wp2_with fail
                  go_quiet (fail)
                  go_wp2_with fail
                  go_quiet (fail)
                  go_wp2_with fail
                  go_ret2
                  exact ⟨rfl, keep_drewN (keep_drewN FB.out _) _⟩
                · have hv1 : decide (y < 0) = false := decide_eq_false hv
                  have hv0 : 0 ≤ y := by omega
                  have e1 : IntKind.u64.wrap y = y := by rw [IntKind.wrap_u64]; omega
                  have r1 := cell_of T.out.now 1 rfl
                  have hcut := fun W : World => run_cutS W (some ⟨b, o, none⟩) rs.length c .i64 k (by have := S.out.now.1.1.1.2.1; omega)
                  obtain ⟨t, ht⟩ : ∃ t, (decide (1 ≤ y ∧ y ≤ 131072)) = t := ⟨_, rfl⟩
                  have hM := fun W : World => (may4_any y p W (by omega))
                  rw [ht] at hM
                  have HM := Lib.hid hM
                  clear hM
                  have SD : Hid (Stab w5.drew _) := Lib.hid (S.out.drewN 1)
                  have TD : Hid (Stab w5.drew _) := Lib.hid (T.out.drewN 1)
                  have HE5 := Lib.hid (HE.out w5.drew SD.out.now.1.1.1)
                  go_wp2_with fail
                  go_region_held3 (fun w' => w'.cell? ⟨g8, 1, none⟩ = some (.func (.func 47) #[] #[])) (first | go_keep | assumption) (first | (go_at_call 31; refine HE5.out.mono ?_; rintro e w6 ⟨rfl, hb6⟩; have S6 := Lib.hid (SD.out.keep hb6); have r6 := cell_of (TD.out.keep hb6).now 2 rfl; have q6 : w6.cell? ⟨g8, 1, none⟩ = some (.func (.func 47) #[] #[]) := cell_of (TD.out.keep hb6).now 1 rfl; clear hb6) | (go_at_call 47; refine (HM.out _).mono ?_; rintro e w' ⟨rfl, rfl⟩))
                  cases t
                  · have hne : (y < 1 ∨ 131072 < y) := (by have := of_decide_eq_false ht; omega)
                    obtain ⟨rfl, rfl⟩ := FIN.out.2.1 (J1.out (by omega)) hne
                    have FB := Lib.hid S6.out.now.1.1.2
                    clear hne FIN ht
                    go_wp2_with fail
                    go_quiet (fail)
                    go_wp2_with fail
                    go_ret2
                    exact ⟨rfl, keep_drewN FB.out _⟩
                  · have ho : ¬ (y < 1 ∨ 131072 < y) := (by have := of_decide_eq_true ht; omega)
                    have HO := Lib.hid ho
                    clear ho ht r6
                    go_wp2_with fail
                    go_roundw
                    case rel => exact ⟨2, by omega, rfl, (fun _ => J1.out (by omega)), (fun _ => HO.out), (fun h => by omega), S6.out⟩
                    case measure => simp [intOf]
              · have ix : ∀ W, (Instr.index 54 (.agg #[.func (.func 44) #[] #[], .func (.func 45) #[] #[], .int .i64 73, .func (.func 46) #[] #[], .func (.func 47) #[] #[], .int .i64 74, .func (.func 48) #[] #[], .func (.func 49) #[] #[], .int .i64 75]) (.int .i64 2)).run Try.prog W = .ok (.agg #[.func (.func 48) #[] #[], .func (.func 49) #[] #[], .int .i64 75]) W := fun _ => by kernel_rfl
                replace S := Lib.hid (S.out.alloc (.cells #[.func (.func 48) #[] #[], .func (.func 49) #[] #[], .int .i64 75] 53))
                have T := Lib.hid (Stab.new wr (.cells #[.func (.func 48) #[] #[], .func (.func 49) #[] #[], .int .i64 75] 53))
                go_upto_region 12 with (fail)
                obtain ⟨g8, hg⟩ : ∃ g, wr.heap.size = g := ⟨_, rfl⟩
                rw [hg] at T ⊢
                clear hg ix
                generalize wr.alloc (.cells #[.func (.func 48) #[] #[], .func (.func 49) #[] #[], .int .i64 75] 53) = w5 at *
                have r0 := cell_of T.out.now 0 rfl
                have x3 := cell_of S.out.now.2 3 rfl
                have r2 := cell_of T.out.now 2 rfl
                go_wp2_with fail
                refine (of5_any _ _).mono ?_
                rintro e w' ⟨rfl, rfl⟩
                by_cases hv : z < 0
                · have hne : (z < 1 ∨ 64 < z) := by omega
                  obtain ⟨rfl, rfl⟩ := FIN.out.2.2.1 (J1.out (by omega)) (J2.out (by omega)) hne
                  have FB := Lib.hid S.out.now.1.1.2
                  clear hne FIN
                  go_wp2_with fail
                  go_quiet (fail)
                  go_wp2_with fail
                  go_quiet (fail)
                  go_wp2_with fail
                  go_ret2
                  exact ⟨rfl, keep_drewN (keep_drewN FB.out _) _⟩
                · have hv1 : decide (z < 0) = false := decide_eq_false hv
                  have hv0 : 0 ≤ z := by omega
                  have e1 : IntKind.u64.wrap z = z := by rw [IntKind.wrap_u64]; omega
                  have r1 := cell_of T.out.now 1 rfl
                  have hcut := fun W : World => run_cutS W (some ⟨b, o, none⟩) rs.length c .i64 k (by have := S.out.now.1.1.1.2.1; omega)
                  obtain ⟨t, ht⟩ : ∃ t, (decide (1 ≤ z ∧ z ≤ 64)) = t := ⟨_, rfl⟩
                  have hM := fun W : World => (may6_any z p W (by omega))
                  rw [ht] at hM
                  have HM := Lib.hid hM
                  clear hM
                  have SD : Hid (Stab w5.drew _) := Lib.hid (S.out.drewN 1)
                  have TD : Hid (Stab w5.drew _) := Lib.hid (T.out.drewN 1)
                  have HE5 := Lib.hid (HE.out w5.drew SD.out.now.1.1.1)
                  go_wp2_with fail
                  go_region_held3 (fun w' => w'.cell? ⟨g8, 1, none⟩ = some (.func (.func 49) #[] #[])) (first | go_keep | assumption) (first | (go_at_call 31; refine HE5.out.mono ?_; rintro e w6 ⟨rfl, hb6⟩; have S6 := Lib.hid (SD.out.keep hb6); have r6 := cell_of (TD.out.keep hb6).now 2 rfl; have q6 : w6.cell? ⟨g8, 1, none⟩ = some (.func (.func 49) #[] #[]) := cell_of (TD.out.keep hb6).now 1 rfl; clear hb6) | (go_at_call 49; refine (HM.out _).mono ?_; rintro e w' ⟨rfl, rfl⟩))
                  cases t
                  · have hne : (z < 1 ∨ 64 < z) := (by have := of_decide_eq_false ht; omega)
                    obtain ⟨rfl, rfl⟩ := FIN.out.2.2.1 (J1.out (by omega)) (J2.out (by omega)) hne
                    have FB := Lib.hid S6.out.now.1.1.2
                    clear hne FIN ht
                    go_wp2_with fail
                    go_quiet (fail)
                    go_wp2_with fail
                    go_ret2
                    exact ⟨rfl, keep_drewN FB.out _⟩
                  · have ho : ¬ (z < 1 ∨ 64 < z) := (by have := of_decide_eq_true ht; omega)
                    have HO := Lib.hid ho
                    clear ho ht r6
                    go_wp2_with fail
                    go_roundw
                    case rel => exact ⟨3, by omega, rfl, (fun _ => J1.out (by omega)), (fun _ => J2.out (by omega)), (fun _ => HO.out), S6.out⟩
                    case measure => simp [intOf]
              · have HN := Lib.hid (FIN.out.2.2.2 (J1.out (by omega)) (J2.out (by omega)) (J3.out (by omega)))
                have hxp := J1.out (by omega)
                have hy := J2.out (by omega)
                have again : ∀ i, k + 1 = i + 1 → ∃ x2 y2 z2, rs[i]? = some (kk, x2, y2, z2) ∧ x2 + y2 = p + y := fun i hi => by
                  obtain rfl : k = i := by omega
                  exact ⟨x, y, z, HX.out, by omega⟩
                have AG := Lib.hid again
                clear again
                go_wp2_with fail
                go_roundw
                case rel => exact ⟨k + 1, p + y, kk, by omega, by go_num, ⟨by omega, by omega⟩, (fun h => by omega), AG.out, HN.out, S.out.imp fun W h => h.1⟩
                case measure => simp [intOf]; omega
      · have hpe : rs.drop k = [] := List.drop_of_length_le (by omega)
        rw [hpe, fck_nil] at hr
        obtain ⟨rfl, rfl⟩ : 0 = r0 ∧ 0 = r1 := by simpa using hr
        have FB := Lib.hid S.out.now.1.2
        clear hr hpe HR
        go_wp2_with fail
        go_ret2
        exact ⟨rfl, FB.out⟩
end Go.Proofs.Ytpmijgeakmmieaa
