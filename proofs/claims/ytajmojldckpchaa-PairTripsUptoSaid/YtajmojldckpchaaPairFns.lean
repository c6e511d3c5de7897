/- Between and After, the program's and the reference's; the reference's Common and Compare; Clone: contracts. Conditions: the slices within reach. -/
import Derived.Test.YtajmojldckpchaaPairWalk
import Derived.Lib.SliceRun
import Derived.Laws.CopyOwn
import Derived.Deep.RegionWith
import Derived.Deep.RegionLaw
namespace Go.Proofs.Ytajmojldckpchaa
open Go.RowKit

/-- the shortest text above one that is not above the other -/
def bet (xs ys : List UInt8) : List UInt8 := if cmp xs ys < 0 then ys.take (com xs ys + 1) else []
def betE (xs ys : List UInt8) : Int := if cmp xs ys < 0 then 0 else 51
theorem bet_yes {xs ys : List UInt8} (h : cmp xs ys < 0) : bet xs ys = ys.take (com xs ys + 1) ∧ betE xs ys = 0 := by unfold bet betE; rw [if_pos h, if_pos h]; exact ⟨rfl, rfl⟩
theorem bet_no {xs ys : List UInt8} (h : ¬ cmp xs ys < 0) : bet xs ys = [] ∧ betE xs ys = 51 := by unfold bet betE; rw [if_neg h, if_neg h]; exact ⟨rfl, rfl⟩
theorem bet_first {xs ys : List UInt8} {n : Nat} (hb : ∀ m, m < n → 0 ≤ cmp xs (ys.take m)) (h : cmp xs (ys.take n) < 0) : cmp xs ys < 0 ∧ n = com xs ys + 1 := by
  have h1 : cmp xs ys < 0 := by
    by_cases h2 : cmp xs ys < 0
    · exact h2
    · have := cmp_none xs ys n (by omega); omega
  refine ⟨h1, ?_⟩
  obtain ⟨_, h3⟩ := cmp_next xs ys h1
  by_cases h4 : n ≤ com xs ys
  · have := cmp_short xs ys n h4; omega
  · by_cases h5 : n = com xs ys + 1
    · exact h5
    · have := hb (com xs ys + 1) (by omega); omega
theorem bet_last {xs ys : List UInt8} {n : Nat} (hb : ∀ m, m < n → 0 ≤ cmp xs (ys.take m)) (hn : ys.length < n) : ¬ cmp xs ys < 0 := by
  have := hb ys.length hn
  rw [List.take_length] at this; omega

theorem clone_any (a : Option Addr) (n c : Nat) (xs : List UInt8) (w : World) (hn : n ≤ 140737488351232) (h : Sl Bf w a n c xs) :
    Calls Try.prog 42 #[.slice a n c] w fun e w' => ∃ v, e = .returned v ∧ OwT fB w' w.heap.size 5 v xs ∧ Below w.heap.size w w' := by
  obtain rfl : n = xs.length := h.len.symm
  have H := Lib.hid h; clear h
  cases a with
  | none =>
    have HZ := Lib.hid H.out.none_eq.2.2
    have hnil := Lib.run_eql_slice_nil w 22 5 none xs.length c 0 0 Try.underlying22
    go_enter Try.func42, Try.ntmps42
    go_wp2_with fail
    go_ret
    exact ⟨_, rfl, by rw [HZ.out]; exact OwT.nil _ _ _ _, Below.refl _ _⟩
  | some p =>
    have hnil := Lib.run_eql_slice_nil w 22 5 (some p) xs.length c 0 0 Try.underlying22
    go_enter Try.func42, Try.ntmps42
    go_wp2_with (at_builtin; refine wpList_appT eltTB rfl _ _ rfl w.heap.size _ [] (by rfl) (OwT.lit fB _ w.heap.size _ _ [] 0 rfl rfl (Nat.le_refl _) (Nat.zero_le _)) (some p) xs.length c xs (by rfl) (H.out.keep ((Below.refl _ _).alloc (Nat.le_refl _) _)).toT (by unfold maxLen; simp; omega) (by simp; omega) (by simp) xs rfl ?_; intro v5 w5 h5 hg5 hv5 hb5)
    go_ret
    exact ⟨_, rfl, h5, ((Below.refl _ _).alloc (Nat.le_refl _) _).trans hb5⟩

theorem between_any (a : Option Addr) (n c : Nat) (xs : List UInt8) (a' : Option Addr) (n' c' : Nat) (ys : List UInt8) (w : World) (hn : n ≤ 140737488351232) (hn' : n' ≤ 140737488351232)
    (h : Sl Bf w a n c xs) (h' : Sl Bf w a' n' c' ys) :
    Calls Try.prog 26 #[.slice a n c, .slice a' n' c'] w fun e w' => ∃ v, e = .returned (.tuple #[v, .int .i64 (betE xs ys)]) ∧ OwT fB w' w.heap.size 5 v (bet xs ys) ∧ Below w.heap.size w w' := by
  obtain rfl : n = xs.length := h.len.symm
  obtain rfl : n' = ys.length := h'.len.symm
  have H := Lib.hid h; clear h
  have H' := Lib.hid h'; clear h'
  obtain ⟨p, hp⟩ : ∃ p, cmp xs ys = p := ⟨_, rfl⟩
  by_cases hlt : p < 0
  · have hy := bet_yes (hp ▸ hlt)
    obtain ⟨hx1, hx2⟩ := cmp_next xs ys (hp ▸ hlt)
    rw [hy.1, hy.2]
    clear hy hx2
    obtain ⟨m, hm⟩ : ∃ m, com xs ys = m := ⟨_, rfl⟩
    rw [hm] at hx1
    have le2 := H'.out.le
    have hc2 := fun (W : World) => run_cutto eltB W a' ys.length c' .i64 (m + 1) (by omega)
    have hc3 : ∀ (W : World), (Instr.slice 22 (.slice a' ys.length c') none (some (.int .i64 ((m : Int) + 1))) none).run Try.prog W = .ok (.slice a' (m + 1) c') W := hc2
    have HP := Lib.hid hp; clear hp
    have HM := Lib.hid hm; clear hm
    go_enter Try.func26, Try.ntmps26
    go_wp2_with fail
    refine (bcompare_any _ _ _ xs _ _ _ ys _ H.out H'.out).mono ?_
    rintro e w' ⟨rfl, rfl⟩
    rw [HP.out]
    go_wp2_with fail
    refine (common_any _ _ _ xs _ _ _ ys _ (by omega) (by omega) H.out H'.out).mono ?_
    rintro e w1 ⟨rfl, hb⟩
    have G := Lib.hid hb; clear hb
    rw [HM.out]
    go_wp2_with fail
    refine (clone_any _ _ _ (ys.take (m + 1)) _ (by omega) ((H'.out.keep G.out).upto (m + 1) (by omega))).mono ?_
    rintro e w2 ⟨v, rfl, hv, hb⟩
    have lw := G.out.size
    have G2 := Lib.hid (keep_trans G.out hb); clear hb
    have O := Lib.hid (hv.base lw); clear hv
    go_wp2_with fail
    go_ret2
    exact ⟨_, rfl, by rw [HM.out]; exact O.out, G2.out⟩
  · have hy := bet_no (hp ▸ hlt)
    rw [hy.1, hy.2]
    clear hy
    have HP := Lib.hid hp; clear hp
    go_enter Try.func26, Try.ntmps26
    go_wp2_with fail
    refine (bcompare_any _ _ _ xs _ _ _ ys _ H.out H'.out).mono ?_
    rintro e w' ⟨rfl, rfl⟩
    rw [HP.out]
    go_wp2_with fail
    go_ret2
    exact ⟨_, rfl, OwT.nil _ _ _ _, Below.refl _ _⟩

set_option maxHeartbeats 400000 in
theorem rcommon_q (a : Option Addr) (n c : Nat) (xs : List UInt8) (a' : Option Addr) (n' c' : Nat) (ys : List UInt8) (w : World) (hn : n ≤ 140737488351232) (hn' : n' ≤ 140737488351232)
    (h : Sl Bf w a n c xs) (h' : Sl Bf w a' n' c' ys) :
    Calls Try.prog 33 #[.slice a n c, .slice a' n' c'] w fun e w' => e = .returned (.int .i64 (com xs ys)) ∧ Drw w w' := by
  obtain rfl : n = xs.length := h.len.symm
  obtain rfl : n' = ys.length := h'.len.symm
  have H := Lib.hid h; clear h
  have H' := Lib.hid h'; clear h'
  go_enter Try.func33, Try.ntmps33
  go_wp2_with fail
  go_loopw [5] (fun i wr => ∃ k : Nat, k ≤ xs.length ∧ k ≤ ys.length ∧ i = .int .i64 k ∧ xs.take k = ys.take k ∧ Drw w wr) (fun i _ => xs.length - (intOf i).toNat)
  case atStart => exact ⟨0, Nat.zero_le _, Nat.zero_le _, rfl, by simp, Drw.refl _⟩
  case round =>
    obtain ⟨k, hk, hk', rfl, he, hb⟩ := hrel
    have HE := Lib.hid he; clear he
    have HB := Lib.hid hb; clear hb
    by_cases h1 : k < xs.length
    · have d1 : decide (k < xs.length) = true := decide_eq_true h1
      by_cases h2 : k < ys.length
      · have d2 : decide (k < ys.length) = true := decide_eq_true h2
        obtain ⟨x, b, o, hx, rfl, hc⟩ := (H.out.keep HB.out.below).at k (by omega)
        obtain ⟨y, b', o', hy, rfl, hc'⟩ := (H'.out.keep HB.out.below).at k (by omega)
        have hc : wr.cell? ⟨b, o + k, none⟩ = some (.int .u8 (B x)) := hc
        have hc' : wr.cell? ⟨b', o' + k, none⟩ = some (.int .u8 (B y)) := hc'
        have HX := Lib.hid hx; clear hx
        have HY := Lib.hid hy; clear hy
        by_cases hxy : x = y
        · subst hxy
          go_wp2_with fail
          go_quiet (fail)
          go_wp2_with fail
          go_roundw
          case rel => exact ⟨k + 1, by omega, by omega, by go_num, (take_eq_snoc HX.out HY.out HE.out).2 rfl, HB.out.more _⟩
          case measure => simp [intOf]; omega
        · have hne : (B x == B y) = false := by rw [beq_eq_false_iff_ne]; exact fun e => hxy (B_inj e)
          go_wp2_with fail
          go_quiet (fail)
          go_wp2_with fail
          go_ret
          refine ⟨ret_int ?_, HB.out.more _⟩
          rw [com_diff HE.out HX.out HY.out hxy]
      · have d2 : decide (k < ys.length) = false := decide_eq_false h2
        have EK := Lib.hid (show k = ys.length by omega)
        go_wp2_with fail
        go_quiet (fail)
        go_wp2_with fail
        go_ret
        refine ⟨ret_int ?_, HB.out.more _⟩
        rw [com_full HE.out (by have := EK.out; omega) (by have := EK.out; omega) (by have := EK.out; omega)]
    · have d1 : decide (k < xs.length) = false := decide_eq_false h1
      have EK := Lib.hid (show k = xs.length by omega)
      go_wp2_with fail
      go_quiet (fail)
      go_wp2_with fail
      go_ret
      refine ⟨ret_int ?_, HB.out.more _⟩
      rw [com_full HE.out (by have := EK.out; omega) (by have := EK.out; omega) (by have := EK.out; omega)]
theorem rcommon_any (a : Option Addr) (n c : Nat) (xs : List UInt8) (a' : Option Addr) (n' c' : Nat) (ys : List UInt8) (w : World) (hn : n ≤ 140737488351232) (hn' : n' ≤ 140737488351232)
    (h : Sl Bf w a n c xs) (h' : Sl Bf w a' n' c' ys) :
    Calls Try.prog 33 #[.slice a n c, .slice a' n' c'] w fun e w' => e = .returned (.int .i64 (com xs ys)) ∧ Below w.heap.size w w' :=
  (rcommon_q a n c xs a' n' c' ys w hn hn' h h').mono fun _ _ ⟨he, hd⟩ => ⟨he, hd.below⟩
end Go.Proofs.Ytajmojldckpchaa
