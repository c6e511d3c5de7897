/- VintPieces: the walk: the law's Go text returns true and writes nothing that was there. Conditions: the slice within reach. -/
import Derived.Test.YthiebpiohkfjgaaVintReads
namespace Go.Proofs.Ythiebpiohkfjgaa
open Go.RowKit

theorem new_any (w : World) :
    Calls Try.prog 18 #[] w fun e w' => e = .returned (.pointer (some ⟨w.heap.size, 0, none⟩)) ∧ Tk w' w.heap.size 0 0 0 ∧ Below w.heap.size w w' := by
  go_enter Try.func18, Try.ntmps18
  go_wp2_with fail
  go_ret
  exact ⟨rfl, heap_new w _, (Below.refl _ _).alloc (Nat.le_refl _) _⟩
theorem taken_any (g n t s : Nat) (w : World) (h : Tk w g n t s) :
    Calls Try.prog 23 #[.pointer (some ⟨g, 0, none⟩)] w fun e w' => e = .returned (.int .i64 t) ∧ w = w' := by
  have c1 := h.c1
  have HH := Lib.hid h; clear h
  go_enter Try.func23, Try.ntmps23
  go_wp2_with fail
  go_ret
  exact ⟨rfl, rfl⟩
theorem number_no (g n t s : Nat) (w : World) (hs : s ≠ 1) (h : Tk w g n t s) :
    Calls Try.prog 21 #[.pointer (some ⟨g, 0, none⟩)] w fun e w' => e = .returned (.tuple #[.int .u64 0, .bool false]) ∧ w = w' := by
  have c2 := h.c2
  have f1 : ((s : Int) != 1) = true := by rw [bne_iff_ne]; omega
  have HH := Lib.hid h; clear h
  go_enter Try.func21, Try.ntmps21
  go_wp2_with fail
  go_ret2
  exact ⟨rfl, rfl⟩
theorem number_yes (g n t : Nat) (w : World) (h : Tk w g n t 1) :
    Calls Try.prog 21 #[.pointer (some ⟨g, 0, none⟩)] w fun e w' => e = .returned (.tuple #[.int .u64 n, .bool true]) ∧ w = w' := by
  have c2 : w.cell? ⟨g, 2, none⟩ = some (.int .i64 1) := h.c2
  have c0 := h.c0
  have HH := Lib.hid h; clear h
  go_enter Try.func21, Try.ntmps21
  go_wp2_with fail
  go_ret2
  exact ⟨rfl, rfl⟩

set_option maxHeartbeats 1000000 in
set_option maxRecDepth 100000 in
theorem vintPieces_walk (a : Option Addr) (n c : Nat) (xs : List UInt8) (w : World) (hn : n ≤ 140737488351232) (h : Sl Bf w a n c xs) :
    Calls Try.prog 6 #[.slice a n c] w fun e w' => e = .returned (.bool true) ∧ Below w.heap.size w w' := by
  obtain rfl : n = xs.length := h.len.symm
  have H := Lib.hid h; clear h
  obtain ⟨⟨rv, rp, re⟩, hR⟩ : ∃ R, rd xs 0 0 = R := ⟨_, rfl⟩
  have HR := Lib.hid hR; clear hR
  go_enter Try.func6, Try.ntmps6
  go_wp2_with fail
  refine (lives_any _).mono ?_
  rintro e w1 ⟨rfl, hb⟩
  have G := Lib.hid hb; clear hb
  go_wp2_with fail
  refine (new_any _).mono ?_
  rintro e w2 ⟨rfl, hT, hb⟩
  have T := Lib.hid hT; clear hT
  have lw1 : w.heap.size ≤ w1.heap.size := G.out.size
  have G2 := Lib.hid (keep_trans G.out hb); clear hb G
  obtain ⟨g, hg⟩ : ∃ g, w1.heap.size = g := ⟨_, rfl⟩
  rw [hg] at T lw1 ⊢
  clear hg
  go_wp2_with fail
  have hv := vread_any _ _ _ xs 0 _ (by omega) (Nat.zero_le _) (H.out.keep G2.out)
  rw [List.drop_zero, HR.out] at hv
  refine hv.mono ?_
  rintro e w3 ⟨rfl, hb⟩
  replace T := Lib.hid (T.out.keep hb)
  replace G2 := Lib.hid (keep_trans G2.out hb)
  clear hb hv
  have hz : ((0 + rp : Nat) : Int) = rp := by rw [Nat.zero_add]
  rw [show (((0 + rp : Nat)) : Int) = (rp : Int) by rw [Nat.zero_add]]
  clear hz
  go_wp2_with fail
  go_loopw [8] (fun i wr => ∃ k v : Nat, k ≤ xs.length ∧ k ≤ 9 ∧ i = .int .i64 k ∧ Tk wr g v k 0 ∧ v < 128 ^ k ∧ rd (xs.drop k) k v = (rv, rp, re) ∧ Below w.heap.size w wr) (fun i _ => xs.length - (intOf i).toNat)
  case atStart => exact ⟨0, 0, Nat.zero_le _, by omega, rfl, T.out, by decide, HR.out, G2.out⟩
  case round =>
    obtain ⟨k, v, hkl, hk, rfl, ht, hv, hr, hb⟩ := hrel
    have HT := Lib.hid ht; clear ht
    have HB := Lib.hid hb; clear hb
    clear HR T G2
    by_cases hlt : k < xs.length
    · obtain ⟨x, b, o, hx, rfl, hc⟩ := (H.out.keep HB.out).at k hlt
      have hc : wr.cell? ⟨b, o + k, none⟩ = some (.int .u8 (B x)) := hc
      rw [vdrop_cons hx] at hr
      clear hx
      by_cases c1 : k = 9 ∧ 1 < x.toNat
      · obtain ⟨rfl, c1⟩ := c1
        rw [rd_long ⟨rfl, c1⟩] at hr
        obtain ⟨rfl, rfl, rfl⟩ : rv = 0 ∧ rp = 9 ∧ re = 12 := by
          injection hr with h1 h2; injection h2 with h3 h4; exact ⟨h1.symm, h3.symm, h4.symm⟩
        clear hr
        go_wp2_with fail
        refine (take_long _ _ x _ c1 HT.out).mono ?_
        rintro e w4 ⟨rfl, ht, hg⟩
        have HT2 := Lib.hid ht; clear ht
        have G := Lib.hid (HB.out.grown hg HB.out.size (fun j hj => by cases hj; exact lw1)); clear hg
        go_wp2_with fail
        refine (taken_any _ _ _ _ _ HT2.out).mono ?_
        rintro e w' ⟨rfl, rfl⟩
        go_wp2_with fail
        refine (number_no _ _ _ _ _ (by decide) HT2.out).mono ?_
        rintro e w' ⟨rfl, rfl⟩
        go_wp2_with fail
        go_ret
        exact ⟨ret_bool (by simp), G.out⟩
      · by_cases c2 : 0 < k ∧ x.toNat = 0
        · rw [rd_form c2] at hr
          obtain ⟨rfl, rfl, rfl⟩ : rv = 0 ∧ rp = k ∧ re = 13 := by
            injection hr with h1 h2; injection h2 with h3 h4; exact ⟨h1.symm, h3.symm, h4.symm⟩
          clear hr
          go_wp2_with fail
          refine (take_form _ _ rp x _ c2.1 hk c2.2 HT.out).mono ?_
          rintro e w4 ⟨rfl, ht, hg⟩
          have HT2 := Lib.hid ht; clear ht
          have G := Lib.hid (HB.out.grown hg HB.out.size (fun j hj => by cases hj; exact lw1)); clear hg
          go_wp2_with fail
          refine (taken_any _ _ _ _ _ HT2.out).mono ?_
          rintro e w' ⟨rfl, rfl⟩
          go_wp2_with fail
          refine (number_no _ _ _ _ _ (by decide) HT2.out).mono ?_
          rintro e w' ⟨rfl, rfl⟩
          go_wp2_with fail
          go_ret
          exact ⟨ret_bool (by simp), G.out⟩
        · by_cases c3 : x.toNat < 128
          · rw [rd_last c1 c2 c3] at hr
            have hgo := take_go g v k x wr hk c1 c2 hv HT.out
            rw [if_pos c3, decide_eq_true c3] at hgo
            obtain ⟨u, hu⟩ : ∃ u, v + x.toNat % 128 * 128 ^ k = u := ⟨_, rfl⟩
            rw [hu] at hr hgo
            obtain ⟨rfl, rfl, rfl⟩ : u = rv ∧ rp = k + 1 ∧ re = 0 := by
              injection hr with h1 h2; injection h2 with h3 h4; exact ⟨h1, h3.symm, h4.symm⟩
            have HGO := Lib.hid hgo; clear hgo c1 c2 c3 hr hu hv
            go_wp2_with fail
            refine HGO.out.mono ?_
            rintro e w4 ⟨rfl, ht, hg⟩
            have HT2 := Lib.hid ht; clear ht
            have G := Lib.hid (HB.out.grown hg HB.out.size (fun j hj => by cases hj; exact lw1)); clear hg
            go_wp2_with fail
            refine (taken_any _ _ _ _ _ HT2.out).mono ?_
            rintro e w' ⟨rfl, rfl⟩
            go_wp2_with fail
            refine (number_yes _ _ _ _ HT2.out).mono ?_
            rintro e w' ⟨rfl, rfl⟩
            go_wp2_with fail
            go_ret
            exact ⟨ret_bool (by simp), G.out⟩
          · rw [rd_go c1 c2 c3] at hr
            have hv2 := go_small (c := x) hv
            have hk9 : k ≠ 9 := fun e => c1 ⟨e, by omega⟩
            have HRR := Lib.hid hr; clear hr
            have HV2 := Lib.hid hv2; clear hv2
            have hgo := take_go g v k x wr hk c1 c2 hv HT.out
            rw [if_neg c3, decide_eq_false c3] at hgo
            have HGO := Lib.hid hgo; clear hgo c1 c2 c3 hv
            go_wp2_with fail
            refine HGO.out.mono ?_
            rintro e w4 ⟨rfl, ht, hg⟩
            have HT2 := Lib.hid ht; clear ht
            have G := Lib.hid (HB.out.grown hg HB.out.size (fun j hj => by cases hj; exact lw1)); clear hg
            go_wp2_with fail
            refine (taken_any _ _ _ _ _ HT2.out).mono ?_
            rintro e w' ⟨rfl, rfl⟩
            go_wp2_with fail
            refine (number_no _ _ _ _ _ (by decide) HT2.out).mono ?_
            rintro e w' ⟨rfl, rfl⟩
            go_wp2_with fail
            go_roundw
            case rel => exact ⟨k + 1, _, by omega, by omega, by go_num, HT2.out, HV2.out, HRR.out, G.out⟩
            case measure => simp [intOf]; omega
    · have hpe : xs.drop k = [] := List.drop_of_length_le (by omega)
      rw [hpe, rd_nil] at hr
      obtain ⟨rfl, rfl, rfl⟩ : rv = 0 ∧ rp = k ∧ re = 11 := by
        injection hr with h1 h2; injection h2 with h3 h4; exact ⟨h1.symm, h3.symm, h4.symm⟩
      have f1 : ((rp : Int) == (xs.length : Int)) = true := by rw [beq_iff_eq]; omega
      have f2 : (rp == xs.length) = true := by rw [beq_iff_eq]; omega
      clear hr hpe
      go_wp2_with fail
      go_ret
      exact ⟨ret_bool (by simp), HB.out⟩
end Go.Proofs.Ythiebpiohkfjgaa
