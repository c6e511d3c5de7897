/- Read, the program's and the reference's: contracts. Conditions: the slice within reach. -/
import Derived.Test.YteedjgjkldbbcaaVintTake
import Derived.WalkMore
import Derived.Test.YteedjgjkldbbcaaByte
namespace Go.Proofs.Yteedjgjkldbbcaa
set_option linter.unusedVariables false
open Go.RowKit

theorem vdrop_cons {xs : List UInt8} {k : Nat} {x : UInt8} (h : xs[k]? = some x) : xs.drop k = x :: xs.drop (k + 1) := by
  obtain ⟨hk, e⟩ := List.getElem?_eq_some_iff.1 h
  rw [List.drop_eq_getElem_cons hk, e]
theorem vread_bad (a : Option Addr) (n c : Nat) (x : Int) (w : World) (hn : n ≤ 140737488351232) (hx : x < 0 ∨ (n : Int) < x) :
    Calls Try.prog 75 #[.slice a n c, .int .i64 x] w fun e w' => e = .returned (.tuple #[.int .u64 0, .int .i64 0, .int .i64 1]) ∧ w = w' := by
  by_cases h1 : x < 0
  · go_enter Try.func75, Try.ntmps75
    go_wp2_with fail
    go_step3
    go_wp2_with fail
    try rw [Exit.noGoto_ret]
    go_ret3
    exact ⟨rfl, rfl⟩
  · have h2 : (n : Int) < x := by omega
    clear hx
    go_enter Try.func75, Try.ntmps75
    go_wp2_with fail
    go_step3
    go_wp2_with fail
    try rw [Exit.noGoto_ret]
    go_ret3
    exact ⟨rfl, rfl⟩

set_option maxRecDepth 100000 in
set_option maxHeartbeats 1000000 in
theorem vread_any (a : Option Addr) (n c : Nat) (xs : List UInt8) (m : Nat) (w : World) (hn : n ≤ 1000000000000000) (hm : m ≤ n) (h : Sl Bf w a n c xs) :
    Calls Try.prog 75 #[.slice a n c, .int .i64 m] w fun e w' => e = .returned (.tuple #[.int .u64 (((rd (xs.drop m) 0 0).1 : Nat) : Int), .int .i64 ((m + (rd (xs.drop m) 0 0).2.1 : Nat) : Int), .int .i64 (rd (xs.drop m) 0 0).2.2]) ∧ Below w.heap.size w w' := by
  obtain rfl : n = xs.length := h.len.symm
  have H := Lib.hid h; clear h
  obtain ⟨R, hR⟩ : ∃ R, rd (xs.drop m) 0 0 = R := ⟨_, rfl⟩
  rw [hR]
  have g1 : ¬ ((m : Int) < 0) := by omega
  have g2 : ¬ ((xs.length : Int) < m) := by omega
  have g3 : decide ((m : Int) < 0) = false := decide_eq_false (by omega)
  have g4 : decide (xs.length < m) = false := decide_eq_false (by omega)
  have HR0 := Lib.hid hR; clear hR
  have t0 : Tk (w.alloc (.cells #[.int .u64 0, .int .i64 0, .int .i64 0] 105)) w.heap.size 0 0 0 := heap_new w _
  have b0 : Below w.heap.size w (w.alloc (.cells #[.int .u64 0, .int .i64 0, .int .i64 0] 105)) := (Below.refl _ _).alloc (Nat.le_refl _) _
  have T0 := Lib.hid t0; clear t0
  have B0 := Lib.hid b0; clear b0
  go_enter Try.func75, Try.ntmps75
  go_wp2_with fail
  go_step3
  go_wp2_with fail
  go_step3
  go_wp2_with fail
  go_loopw [8] (fun i wr => ∃ p k v : Nat, p = m + k ∧ p ≤ xs.length ∧ k ≤ 9 ∧ i = .int .i64 p ∧ Tk wr w.heap.size v k 0 ∧ v < 128 ^ k ∧ rd (xs.drop p) k v = R ∧ Below w.heap.size w wr) (fun i _ => xs.length - (intOf i).toNat)
  case atStart => exact ⟨m, 0, 0, rfl, hm, by omega, rfl, T0.out, by decide, HR0.out, B0.out⟩
  case round =>
    obtain ⟨p, k, v, hp, hpl, hk, rfl, ht, hv, hr, hb⟩ := hrel
    have HP := Lib.hid hp; clear hp
    have HT := Lib.hid ht; clear ht
    have HB := Lib.hid hb; clear hb
    clear HR0 T0 B0
    by_cases hlt : p < xs.length
    · obtain ⟨x, b, o, hx, rfl, hc⟩ := (H.out.keep HB.out).at p hlt
      have hc : wr.cell? ⟨b, o + p, none⟩ = some (.int .u8 (B x)) := hc
      rw [vdrop_cons hx] at hr
      clear hx
      by_cases c1 : k = 9 ∧ 1 < x.toNat
      · obtain ⟨rfl, c1⟩ := c1
        rw [rd_long ⟨rfl, c1⟩] at hr
        have HRR := Lib.hid hr; clear hr
        go_wp2_with fail
        refine (take_long _ _ x _ c1 HT.out).mono ?_
        rintro e w2 ⟨rfl, _, hg⟩
        have G := Lib.hid (HB.out.grown hg HB.out.size (fun j hj => by cases hj; exact Nat.le_refl _)); clear hg
        go_wp2_with fail
        try rw [Exit.noGoto_ret]
        go_ret3
        refine ⟨?_, G.out⟩
        rw [← HRR.out, ← HP.out]; rfl
      · by_cases c2 : 0 < k ∧ x.toNat = 0
        · rw [rd_form c2] at hr
          have HRR := Lib.hid hr; clear hr
          go_wp2_with fail
          refine (take_form _ _ k x _ c2.1 hk c2.2 HT.out).mono ?_
          rintro e w2 ⟨rfl, _, hg⟩
          have G := Lib.hid (HB.out.grown hg HB.out.size (fun j hj => by cases hj; exact Nat.le_refl _)); clear hg
          go_wp2_with fail
          try rw [Exit.noGoto_ret]
          go_ret3
          refine ⟨?_, G.out⟩
          rw [← HRR.out, ← HP.out]; rfl
        · by_cases c3 : x.toNat < 128
          · rw [rd_last c1 c2 c3] at hr
            have HRR := Lib.hid hr; clear hr
            have hgo := take_go w.heap.size v k x wr hk c1 c2 hv HT.out
            rw [if_pos c3, decide_eq_true c3] at hgo
            have HGO := Lib.hid hgo; clear hgo c1 c2 c3
            go_wp2_with fail
            refine HGO.out.mono ?_
            rintro e w2 ⟨rfl, ht2, hg⟩
            have G := Lib.hid (HB.out.grown hg HB.out.size (fun j hj => by cases hj; exact Nat.le_refl _)); clear hg
            have c0 := ht2.c0
            clear ht2
            go_wp2_with fail
            try rw [Exit.noGoto_ret]
            go_ret3
            refine ⟨?_, G.out⟩
            rw [← HRR.out]
            show _ = Ending.returned (.tuple #[_, .int .i64 ((m + (k + 1) : Nat) : Int), _])
            rw [← Nat.add_assoc, ← HP.out]; rfl
          · rw [rd_go c1 c2 c3] at hr
            have hv2 := go_small (c := x) hv
            have hk9 : k ≠ 9 := fun e => c1 ⟨e, by omega⟩
            have HRR := Lib.hid hr; clear hr
            have HV2 := Lib.hid hv2; clear hv2
            have hgo := take_go w.heap.size v k x wr hk c1 c2 hv HT.out
            rw [if_neg c3, decide_eq_false c3] at hgo
            have HGO := Lib.hid hgo; clear hgo c1 c2 c3
            go_wp2_with fail
            refine HGO.out.mono ?_
            rintro e w2 ⟨rfl, ht2, hg⟩
            have G := Lib.hid (HB.out.grown hg HB.out.size (fun j hj => by cases hj; exact Nat.le_refl _)); clear hg
            have HT2 := Lib.hid ht2; clear ht2
            go_wp2_with fail
            go_roundw
            case rel => exact ⟨p + 1, k + 1, _, by have := HP.out; omega, by omega, by omega, by go_num, HT2.out, HV2.out, HRR.out, G.out⟩
            case measure => simp [intOf]; omega
    · have hpe : xs.drop p = [] := List.drop_of_length_le (by omega)
      rw [hpe, rd_nil] at hr
      have HRR := Lib.hid hr; clear hr hpe
      have f1 : ((p : Int) == (xs.length : Int)) = true := by rw [beq_iff_eq]; omega
      have f2 : (p == xs.length) = true := by rw [beq_iff_eq]; omega
      go_wp2_with fail
      try rw [Exit.noGoto_ret]
      go_ret3
      refine ⟨?_, HB.out⟩
      rw [← HRR.out, ← HP.out]; rfl
end Go.Proofs.Yteedjgjkldbbcaa
