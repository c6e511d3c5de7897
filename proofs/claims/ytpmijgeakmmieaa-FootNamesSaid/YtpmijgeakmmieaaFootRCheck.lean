/- May rows be: Check, the program's and the reference's: contracts. Conditions: the rows within reach. Written by a program of this place (gen_FootCheck.py). -/
import Derived.Test.YtpmijgeakmmieaaFootFns
import Derived.Deep.LoopGhost
import Derived.Deep.RegionWith
namespace Go.Proofs.Ytpmijgeakmmieaa
open Go.RowKit

set_option maxHeartbeats 2000000 in
theorem frcheck_any (a : Option Addr) (n c : Nat) (rs : List Row) (w : World) (hn : n ≤ 140737488351232) (hf : FitR 140737488351232 rs) (h : Spans w a n c rs) :
    Calls Try.prog 11 #[.slice a n c] w fun e w' => e = .returned (.tuple #[.int .i64 ((fchk rs).1 : Nat), .int .i64 ((fchk rs).2 : Nat)]) ∧ Below w.heap.size w w' := by
  obtain rfl : n = rs.length := h.1.symm
  have H := Lib.hid h; clear h
  have HF := Lib.hid hf; clear hf
  unfold fchk
  by_cases hm : 8388608 < rs.length
  · rw [if_pos hm]
    have t1 : (rs.length : Int) > 8388608 := by omega
    go_enter Try.func11, Try.ntmps11
    go_wp2_with fail
    go_ret2
    exact ⟨rfl, Below.refl _ _⟩
  · rw [if_neg hm]
    have t1 : decide (8388608 < rs.length) = false := decide_eq_false hm
    have hm' : rs.length ≤ 8388608 := by omega
    obtain ⟨⟨r0, r1⟩, hr⟩ : ∃ R, fck 0 8 [] rs = R := ⟨_, rfl⟩
    rw [hr]
    have HR := Lib.hid hr; clear hr hm
    go_enter Try.func11, Try.ntmps11
    go_wp2_with fail
    go_loopw [4, 5] (fun t i wr => ∃ (k : Nat) (p : Int) (l : List UInt8), k ≤ rs.length ∧ i = .int .i64 k ∧ t = .int .i64 p ∧ (8 ≤ p ∧ p ≤ 8 + 131072 * k) ∧ (∀ j, k = j + 1 → ∃ x y z, rs[j]? = some (l, x, y, z)) ∧ fck k p l (rs.drop k) = (r0, r1) ∧ Below w.heap.size w wr) (fun _ i _ => rs.length - (intOf i).toNat)
    case atStart => exact ⟨0, 8, [], Nat.zero_le _, rfl, rfl, ⟨by omega, by omega⟩, (fun j hj => by cases hj), HR.out, Below.refl _ _⟩
    case round =>
      obtain ⟨k, p, l, hk, rfl, rfl, ⟨hp1, hp2⟩, hl, hr, hb⟩ := hrel
      have HL := Lib.hid hl; clear hl
      have B := Lib.hid hb; clear hb
      have hws := B.out.size
      by_cases hlt : k < rs.length
      · obtain ⟨⟨kk, x, y, z⟩, hx⟩ : ∃ e, rs[k]? = some e := ⟨_, List.getElem?_eq_getElem hlt⟩
        obtain ⟨fk, fx, fy, fz⟩ := HF.out.at hx
        obtain ⟨b, o, ak, nk, ck, rfl, c0, c1, c2, c3, s0⟩ := (H.out.keep B.out).2.2.2 k kk x y z hx
        rw [rdrop_cons hx] at hr
        have HX := Lib.hid hx; clear hx
        obtain rfl : kk.length = nk := s0.len
        have hck := fun W : World => frkeyn_any ak kk.length ck W fk
        obtain ⟨q, hq⟩ : ∃ q, fkN kk.length = q := ⟨_, rfl⟩
        rw [hq] at hck
        have HCK := Lib.hid hck
        have S0 := Lib.hid s0
        clear hck s0
        go_wp2_with fail
        refine (HCK.out _).mono ?_
        rintro e w' ⟨rfl, rfl⟩
        clear HCK
        replace B := Lib.hid (B.out.alloc hws (.cells #[.slice ak kk.length ck, .int .i64 x, .int .i64 y, .int .i64 z] 49))
        replace S0 := Lib.hid (S0.out.keep ((Below.refl _ _).alloc (Nat.le_refl _) (.cells #[.slice ak kk.length ck, .int .i64 x, .int .i64 y, .int .i64 z] 49)))
        have hT := heap_new wr (.cells #[.slice ak kk.length ck, .int .i64 x, .int .i64 y, .int .i64 z] 49)
        have H1 := Lib.hid (H.out.keep B.out)
        obtain ⟨g6, hg⟩ : ∃ g, wr.heap.size = g := ⟨_, rfl⟩
        rw [hg] at hT ⊢
        clear hg c0 c1 c2 c3
        generalize wr.alloc (.cells #[.slice ak kk.length ck, .int .i64 x, .int .i64 y, .int .i64 z] 49) = w1 at *
        have x0 := cell_of hT 0 rfl
        have x1 := cell_of hT 1 rfl
        have x2 := cell_of hT 2 rfl
        have x3 := cell_of hT 3 rfl
        clear hT
        have hsz := B.out.size
        by_cases hkb : kk.length = 0 ∨ 64 < kk.length
        · rw [fck_key (.inl hkb)] at hr
          obtain ⟨rfl, rfl⟩ : k = r0 ∧ 72 = r1 := by simpa using hr
          have hq3 : q = 3 := by rw [← hq]; exact fkN_bad hkb
          subst hq3
          clear hr hq hkb
          go_wp2_with fail
          go_quiet (fail)
          go_wp2_with fail
          go_ret2
          exact ⟨rfl, keep_drewN B.out _⟩
        · have hq0 : q = 0 := by rw [← hq]; exact fkN_ok hkb
          subst hq0
          have hbad : (0 < k ∧ 0 ≤ cmp l kk) ∨ ¬ (0 < k ∧ 0 ≤ cmp l kk) := by omega
          clear hq
          rcases hbad with hbad | hgood
          · rw [fck_key (.inr hbad)] at hr
            obtain ⟨rfl, rfl⟩ : k = r0 ∧ 72 = r1 := by simpa using hr
            obtain ⟨j, rfl⟩ : ∃ j, k = j + 1 := ⟨k - 1, by omega⟩
            obtain ⟨x', y', z', hlj⟩ := HL.out j rfl
            obtain ⟨b', o', al, nl, cl, e0, d0, _, _, _, z0⟩ := H1.out.2.2.2 j l x' y' z' hlj
            cases e0
            obtain ⟨fl, _⟩ := HF.out.at hlj
            obtain rfl : l.length = nl := z0.len
            obtain ⟨pp, hpp⟩ : ∃ p, cmp l kk = p := ⟨_, rfl⟩
            have HC := Lib.hid (fun q => rcompare_q al l.length cl l ak kk.length ck kk (w1.drewN q) fl fk (z0.drewN q) (S0.out.drewN q))
            rw [hpp] at HC
            have hp0 : 0 ≤ pp := by rw [← hpp]; exact hbad.2
            clear z0 hlj hr hkb hbad hpp
            have hg0 : ((j + 1 : Nat) : Int) > 0 := by omega
            have e1 : IntKind.i64.wrap ((j : Int) + 1 - 1) = (j : Int) := by rw [show (j : Int) + 1 - 1 = (j : Int) by omega]; exact IntWalk.i64_in _ (by omega)
            go_wp2_with fail
            go_quiet ((go_at_call 33; exact Calls.quiet_of_drw (HC.out _)))
            go_wp2_with fail
            go_ret2
            exact ⟨rfl, keep_drewN B.out _⟩
          · have hG : ¬ ((kk.length = 0 ∨ 64 < kk.length) ∨ (0 < k ∧ 0 ≤ cmp l kk)) := by omega
            have hfin : ∀ W : World, Below w.heap.size w W → (x ≠ p → k = r0 ∧ 73 = r1) ∧ (x = p → (y < 1 ∨ 131072 < y) → k = r0 ∧ 74 = r1) ∧ (x = p → ¬ (y < 1 ∨ 131072 < y) → (z < 1 ∨ 64 < z) → k = r0 ∧ 75 = r1) ∧ (x = p → ¬ (y < 1 ∨ 131072 < y) → ¬ (z < 1 ∨ 64 < z) → fck (k + 1) (p + y) kk (rs.drop (k + 1)) = (r0, r1)) := by
              intro W _
              refine ⟨fun h1 => ?_, fun h1 h2 => ?_, fun h1 h2 h3 => ?_, fun h1 h2 h3 => ?_⟩
              · rw [fck_at hG h1] at hr; simpa using hr
              · rw [fck_len hG h1 h2] at hr; simpa using hr
              · rw [fck_ent hG h1 h2 h3] at hr; simpa using hr
              · rw [fck_go hG h1 h2 h3] at hr; exact hr
            have FIN := Lib.hid (hfin w (Below.refl _ _))
            clear hfin hr hG hkb
            have tests : k = 0 ∨ ∃ j pp al cl, k = j + 1 ∧ pp < 0 ∧ w1.cell? ⟨b, o + j * 4, none⟩ = some (.slice al l.length cl) ∧ l.length ≤ 140737488351232 ∧ Hid (∀ q, Calls Try.prog 33 #[.slice al l.length cl, .slice ak kk.length ck] (w1.drewN q) fun e w' => e = .returned (.int .i64 pp) ∧ Drw (w1.drewN q) w') := by
              by_cases hk0 : k = 0
              · exact .inl hk0
              · obtain ⟨j, rfl⟩ : ∃ j, k = j + 1 := ⟨k - 1, by omega⟩
                obtain ⟨x', y', z', hlj⟩ := HL.out j rfl
                obtain ⟨b', o', al, nl, cl, e0, d0, _, _, _, z0⟩ := H1.out.2.2.2 j l x' y' z' hlj
                cases e0
                obtain ⟨fl, _⟩ := HF.out.at hlj
                obtain rfl : l.length = nl := z0.len
                exact .inr ⟨j, cmp l kk, al, cl, rfl, by omega, d0, fl, Lib.hid (fun q => rcompare_q al l.length cl l ak kk.length ck kk (w1.drewN q) fl fk (z0.drewN q) (S0.out.drewN q))⟩
            clear hgood
            have again : ∀ j, k + 1 = j + 1 → ∃ x y z, rs[j]? = some (kk, x, y, z) := fun j hj => by
              obtain rfl : k = j := by omega
              exact ⟨x, y, z, HX.out⟩
            have AG := Lib.hid again
            clear again HL HX
            rcases tests with hk0 | ⟨j, pp, al, cl, hkj, hpp, d0, fl, HC⟩
            · have hk1 : ¬ (k : Int) > 0 := by omega
              have hk2 : decide (0 < k) = false := decide_eq_false (by omega)
              clear hk0
              by_cases h1 : x = p
              · have t2 : (x != p) = false := by rw [h1]; simp
                have H1x := Lib.hid h1
                clear h1
                by_cases h2 : y < 1
                · obtain ⟨rfl, rfl⟩ := FIN.out.2.1 H1x.out (.inl h2)
                  go_wp2_with fail
                  go_quiet (fail)
                  go_wp2_with fail
                  go_ret2
                  exact ⟨rfl, keep_drewN B.out _⟩
                by_cases h3 : y > 131072
                · obtain ⟨rfl, rfl⟩ := FIN.out.2.1 H1x.out (.inr h3)
                  have t3 : decide (y < 1) = false := decide_eq_false h2
                  go_wp2_with fail
                  go_quiet (fail)
                  go_wp2_with fail
                  go_ret2
                  exact ⟨rfl, keep_drewN B.out _⟩
                have t3 : decide (y < 1) = false := decide_eq_false h2
                have t4 : decide (131072 < y) = false := decide_eq_false (by omega)
                have t5 : decide (y > 131072) = false := decide_eq_false (by omega)
                by_cases h4 : z < 1
                · obtain ⟨rfl, rfl⟩ := FIN.out.2.2.1 H1x.out (by omega) (.inl h4)
                  go_wp2_with fail
                  go_quiet (fail)
                  go_wp2_with fail
                  go_ret2
                  exact ⟨rfl, keep_drewN B.out _⟩
                by_cases h5 : z > 64
                · obtain ⟨rfl, rfl⟩ := FIN.out.2.2.1 H1x.out (by omega) (.inr h5)
                  have t6 : decide (z < 1) = false := decide_eq_false h4
                  go_wp2_with fail
                  go_quiet (fail)
                  go_wp2_with fail
                  go_ret2
                  exact ⟨rfl, keep_drewN B.out _⟩
                have t6 : decide (z < 1) = false := decide_eq_false h4
                have t7 : decide (64 < z) = false := decide_eq_false (by omega)
                have t8 : decide (z > 64) = false := decide_eq_false (by omega)
                have HN := Lib.hid (FIN.out.2.2.2 H1x.out (by omega) (by omega))
                have e2 : p + y ≤ 8 + 131072 * 8388608 := by omega
                go_wp2_with fail
                go_quiet (fail)
                go_wp2_with fail
                go_roundw
                case rel => exact ⟨k + 1, p + y, kk, by omega, by go_num, rfl, ⟨by omega, by omega⟩, AG.out, HN.out, keep_drewN B.out _⟩
                case measure => simp [intOf]; omega
              · obtain ⟨rfl, rfl⟩ := FIN.out.1 h1
                have t2 : (x != p) = true := by rw [bne_iff_ne]; exact h1
                clear h1
                go_wp2_with fail
                go_quiet (fail)
                go_wp2_with fail
                go_ret2
                exact ⟨rfl, keep_drewN B.out _⟩
            · subst hkj
              have hg0 : ((j + 1 : Nat) : Int) > 0 := by omega
              have e1 : IntKind.i64.wrap ((j : Int) + 1 - 1) = (j : Int) := by rw [show (j : Int) + 1 - 1 = (j : Int) by omega]; exact IntWalk.i64_in _ (by omega)
              by_cases h1 : x = p
              · have t2 : (x != p) = false := by rw [h1]; simp
                have H1x := Lib.hid h1
                clear h1
                by_cases h2 : y < 1
                · obtain ⟨rfl, rfl⟩ := FIN.out.2.1 H1x.out (.inl h2)
                  go_wp2_with fail
                  go_quiet ((go_at_call 33; exact Calls.quiet_of_drw (HC.out _)))
                  go_wp2_with fail
                  go_ret2
                  exact ⟨rfl, keep_drewN B.out _⟩
                by_cases h3 : y > 131072
                · obtain ⟨rfl, rfl⟩ := FIN.out.2.1 H1x.out (.inr h3)
                  have t3 : decide (y < 1) = false := decide_eq_false h2
                  go_wp2_with fail
                  go_quiet ((go_at_call 33; exact Calls.quiet_of_drw (HC.out _)))
                  go_wp2_with fail
                  go_ret2
                  exact ⟨rfl, keep_drewN B.out _⟩
                have t3 : decide (y < 1) = false := decide_eq_false h2
                have t4 : decide (131072 < y) = false := decide_eq_false (by omega)
                have t5 : decide (y > 131072) = false := decide_eq_false (by omega)
                by_cases h4 : z < 1
                · obtain ⟨rfl, rfl⟩ := FIN.out.2.2.1 H1x.out (by omega) (.inl h4)
                  go_wp2_with fail
                  go_quiet ((go_at_call 33; exact Calls.quiet_of_drw (HC.out _)))
                  go_wp2_with fail
                  go_ret2
                  exact ⟨rfl, keep_drewN B.out _⟩
                by_cases h5 : z > 64
                · obtain ⟨rfl, rfl⟩ := FIN.out.2.2.1 H1x.out (by omega) (.inr h5)
                  have t6 : decide (z < 1) = false := decide_eq_false h4
                  go_wp2_with fail
                  go_quiet ((go_at_call 33; exact Calls.quiet_of_drw (HC.out _)))
                  go_wp2_with fail
                  go_ret2
                  exact ⟨rfl, keep_drewN B.out _⟩
                have t6 : decide (z < 1) = false := decide_eq_false h4
                have t7 : decide (64 < z) = false := decide_eq_false (by omega)
                have t8 : decide (z > 64) = false := decide_eq_false (by omega)
                have HN := Lib.hid (FIN.out.2.2.2 H1x.out (by omega) (by omega))
                have e2 : p + y ≤ 8 + 131072 * 8388608 := by omega
                go_wp2_with fail
                go_quiet ((go_at_call 33; exact Calls.quiet_of_drw (HC.out _)))
                go_wp2_with fail
                go_roundw
                case rel => exact ⟨j + 1 + 1, p + y, kk, by omega, by go_num, rfl, ⟨by omega, by omega⟩, AG.out, HN.out, keep_drewN B.out _⟩
                case measure => simp [intOf]; omega
              · obtain ⟨rfl, rfl⟩ := FIN.out.1 h1
                have t2 : (x != p) = true := by rw [bne_iff_ne]; exact h1
                clear h1
                go_wp2_with fail
                go_quiet ((go_at_call 33; exact Calls.quiet_of_drw (HC.out _)))
                go_wp2_with fail
                go_ret2
                exact ⟨rfl, keep_drewN B.out _⟩
      · have hpe : rs.drop k = [] := List.drop_of_length_le (by omega)
        rw [hpe, fck_nil] at hr
        obtain ⟨rfl, rfl⟩ : 0 = r0 ∧ 0 = r1 := by simpa using hr
        clear hr hpe
        go_wp2_with fail
        go_ret2
        exact ⟨rfl, B.out⟩
end Go.Proofs.Ytpmijgeakmmieaa
