/- The reference's Compare and Between; After, the program's and the reference's: contracts. Conditions: the slices within reach. -/
import Derived.Test.YtajmojldckpchaaPairFns
namespace Go.Proofs.Ytajmojldckpchaa
open Go.RowKit

theorem OwT.setB {w : World} {base : Nat} {e : TypeId} {g o n c : Nat} {xs : List UInt8} (h : OwT fB w base e (.slice (some ⟨g, o, none⟩) n c) xs) (k : Nat) (x y : UInt8) (hx : xs[k]? = some x) :
    OwT fB (w.setCell ⟨g, o + k, none⟩ (.int .u8 (B y))) base e (.slice (some ⟨g, o, none⟩) n c) (xs.set k y) := by
  rcases h with ⟨hv, _⟩ | ⟨g', cap, ys, hv, hg, hh, hl, hn, hc, ht⟩
  · cases hv
  · cases hv
    have hk : k < xs.length := (List.getElem?_eq_some_iff.1 hx).1
    refine .inr ⟨g, c, ys.set k y, by rw [List.length_set], hg, ?_, by rw [List.length_set]; exact hl, by rw [List.length_set]; exact hn, hc, ?_⟩
    · have hlt : g < w.heap.size := (Array.getElem?_eq_some_iff.1 hh).1
      simp only [World.setCell, Array.getElem?_modify, if_true]
      rw [hh]
      simp only [Option.map_some, Nat.zero_add]
      congr 2
      rw [flat_fB, flat_fB]
      simp [List.map_set]
    · rw [List.length_set, List.take_set, ht]

theorem rcompare_q (a : Option Addr) (n c : Nat) (xs : List UInt8) (a' : Option Addr) (n' c' : Nat) (ys : List UInt8) (w : World) (hn : n ≤ 140737488351232) (hn' : n' ≤ 140737488351232)
    (h : Sl Bf w a n c xs) (h' : Sl Bf w a' n' c' ys) :
    Calls Try.prog 32 #[.slice a n c, .slice a' n' c'] w fun e w' => e = .returned (.int .i64 (cmp xs ys)) ∧ Drw w w' := by
  obtain rfl : n = xs.length := h.len.symm
  obtain rfl : n' = ys.length := h'.len.symm
  have H := Lib.hid h; clear h
  have H' := Lib.hid h'; clear h'
  obtain ⟨m, hm⟩ : ∃ m, com xs ys = m := ⟨_, rfl⟩
  have hm1 : m ≤ xs.length := hm ▸ (com_le xs ys).1
  have hm2 : m ≤ ys.length := hm ▸ (com_le xs ys).2
  have hcc := cmp_com xs ys
  rw [hm] at hcc
  have HC := Lib.hid hcc; clear hcc
  have hend := com_end xs ys
  rw [hm] at hend
  have HEnd := Lib.hid hend; clear hend
  have HM := Lib.hid hm; clear hm
  go_enter Try.func32, Try.ntmps32
  go_wp2_with fail
  refine (rcommon_q _ _ _ xs _ _ _ ys _ hn hn' H.out H'.out).mono ?_
  rintro e w1 ⟨rfl, hb⟩
  have G := Lib.hid hb; clear hb
  rw [HM.out]
  by_cases hA : m = xs.length
  · have hcc := HC.out
    have HX := HM.out
    clear HM HC HEnd
    subst hA
    by_cases hB : xs.length = ys.length
    · rw [if_pos ⟨rfl, hB⟩] at hcc
      have f3 : ((xs.length : Int) == (ys.length : Int)) = true := by simp; omega
      have f4 : (xs.length == ys.length) = true := by simp; omega
      have HCC := Lib.hid hcc
      clear hB hcc
      go_wp2_with fail
      go_ret
      exact ⟨ret_int HCC.out.symm, G.out⟩
    · rw [if_neg (fun e => hB e.2), if_pos rfl] at hcc
      have f3 : ((xs.length : Int) == (ys.length : Int)) = false := by simp; omega
      have f4 : (xs.length == ys.length) = false := by simp; omega
      have HCC := Lib.hid hcc
      clear hB hcc
      go_wp2_with fail
      go_ret
      exact ⟨ret_int HCC.out.symm, G.out⟩
  · by_cases hB : m = ys.length
    · have hcc := HC.out
      clear HM HC HEnd
      subst hB
      rw [if_neg (fun e => hA e.1), if_neg hA, if_pos rfl] at hcc
      have f3 : ((ys.length : Int) == (xs.length : Int)) = false := by simp; omega
      have f4 : (ys.length == xs.length) = false := by simp; omega
      have HCC := Lib.hid hcc
      clear hA hcc
      go_wp2_with fail
      go_ret
      exact ⟨ret_int HCC.out.symm, G.out⟩
    · have f1 : ((m : Int) == (xs.length : Int)) = false := by simp; omega
      have f2 : (m == xs.length) = false := by simp; omega
      have f3 : ((m : Int) == (ys.length : Int)) = false := by simp; omega
      have f4 : (m == ys.length) = false := by simp; omega
      obtain ⟨x, y, hx, hy, hxy, hcm⟩ : ∃ x y, xs[m]? = some x ∧ ys[m]? = some y ∧ x ≠ y ∧ cmp xs ys = if x.toNat < y.toNat then -1 else 1 := by
        rcases HEnd.out with h | h | h
        · omega
        · omega
        · exact h
      obtain ⟨b, o, hxa, hcx⟩ := (H.out.keep G.out.below).2.2.2 m x hx
      obtain ⟨b', o', hya, hcy⟩ := (H'.out.keep G.out.below).2.2.2 m y hy
      subst hxa; subst hya
      have hcx : w1.cell? ⟨b, o + m, none⟩ = some (.int .u8 (B x)) := hcx
      have hcy : w1.cell? ⟨b', o' + m, none⟩ = some (.int .u8 (B y)) := hcy
      have hl1 : m < xs.length := by omega
      have hl2 : m < ys.length := by omega
      clear hx hy hxy HC HM HEnd hA hB
      by_cases hlt : B x < B y
      · rw [if_pos (by unfold B at hlt; omega)] at hcm
        have HCC := Lib.hid hcm; clear hcm
        go_wp2_with fail
        go_quiet (fail)
        go_wp2_with fail
        go_ret
        exact ⟨ret_int HCC.out.symm, G.out.more _⟩
      · rw [if_neg (by unfold B at hlt; omega)] at hcm
        have HCC := Lib.hid hcm; clear hcm
        go_wp2_with fail
        go_quiet (fail)
        go_wp2_with fail
        go_ret
        exact ⟨ret_int HCC.out.symm, G.out.more _⟩

theorem rcompare_any (a : Option Addr) (n c : Nat) (xs : List UInt8) (a' : Option Addr) (n' c' : Nat) (ys : List UInt8) (w : World) (hn : n ≤ 140737488351232) (hn' : n' ≤ 140737488351232)
    (h : Sl Bf w a n c xs) (h' : Sl Bf w a' n' c' ys) :
    Calls Try.prog 32 #[.slice a n c, .slice a' n' c'] w fun e w' => e = .returned (.int .i64 (cmp xs ys)) ∧ Below w.heap.size w w' :=
  (rcompare_q a n c xs a' n' c' ys w hn hn' h h').mono fun _ _ ⟨he, hd⟩ => ⟨he, hd.below⟩

theorem rbetween_any (a : Option Addr) (n c : Nat) (xs : List UInt8) (a' : Option Addr) (n' c' : Nat) (ys : List UInt8) (w : World) (hn : n ≤ 140737488351232) (hn' : n' ≤ 140737488351232)
    (h : Sl Bf w a n c xs) (h' : Sl Bf w a' n' c' ys) :
    Calls Try.prog 27 #[.slice a n c, .slice a' n' c'] w fun e w' => ∃ v, e = .returned (.tuple #[v, .int .i64 (betE xs ys)]) ∧ OwT fB w' w.heap.size 5 v (bet xs ys) ∧ Below w.heap.size w w' := by
  obtain rfl : n = xs.length := h.len.symm
  obtain rfl : n' = ys.length := h'.len.symm
  have H := Lib.hid h; clear h
  have H' := Lib.hid h'; clear h'
  have le2 := H'.out.le
  go_enter Try.func27, Try.ntmps27
  go_wp2_with fail
  go_loopw [6] (fun i wr => ∃ k : Nat, k ≤ ys.length + 1 ∧ i = .int .i64 k ∧ (∀ m, m < k → 0 ≤ cmp xs (ys.take m)) ∧ Below w.heap.size w wr) (fun i _ => ys.length + 1 - (intOf i).toNat)
  case atStart => exact ⟨0, Nat.zero_le _, rfl, fun m hm => absurd hm (by omega), Below.refl _ _⟩
  case round =>
    obtain ⟨k, hk, rfl, hs, hb⟩ := hrel
    have HS := Lib.hid hs; clear hs
    have HB := Lib.hid hb; clear hb
    by_cases hlt : (k : Int) ≤ ys.length
    · have hc2 := fun (W : World) => run_cutto eltB W a' ys.length c' .i64 k (by omega)
      obtain ⟨p, hp⟩ : ∃ p, cmp xs (ys.take k) = p := ⟨_, rfl⟩
      have HP := Lib.hid hp; clear hp
      go_wp2_with fail
      refine (rcompare_any _ _ _ xs _ _ _ (ys.take k) _ (by omega) (by omega) (H.out.keep HB.out) ((H'.out.keep HB.out).upto k (by omega))).mono ?_
      rintro e w1 ⟨rfl, hb⟩
      have G := Lib.hid (keep_trans HB.out hb); clear hb
      rw [HP.out]
      have lw := G.out.size
      by_cases hp0 : p < 0
      · obtain ⟨h1, h2⟩ := bet_first HS.out (HP.out ▸ hp0)
        have hy := bet_yes h1
        have HY := Lib.hid hy; clear hy h1
        have H2 := Lib.hid h2; clear h2
        go_wp2_with (at_builtin; refine wpList_appT eltTB rfl _ _ rfl w1.heap.size _ [] (by rfl) (OwT.lit fB _ w1.heap.size _ _ [] 0 rfl rfl (Nat.le_refl _) (Nat.zero_le _)) a' k c' (ys.take k) (by rfl) (((H'.out.keep G.out).upto k (by omega)).keep ((Below.refl _ _).alloc (Nat.le_refl _) _)).toT (by unfold maxLen; simp; omega) (by simp; omega) (by simp) (ys.take k) rfl ?_; intro v5 w5 h5 hg5 hv5 hb5)
        go_ret2
        refine ⟨_, by rw [HY.out.2]; rfl, ?_, keep_trans G.out (((Below.refl _ _).alloc (Nat.le_refl _) _).trans hb5)⟩
        rw [HY.out.1, ← H2.out]
        exact OwT.base h5 lw
      · have hp1 : 0 ≤ p := by omega
        go_wp2_with fail
        go_roundw
        case rel =>
          refine ⟨k + 1, by omega, by go_num, fun m hm => ?_, G.out⟩
          by_cases e : m = k
          · subst e; rw [HP.out]; exact hp1
          · exact HS.out m (by omega)
        case measure => simp [intOf]; omega
    · have hy := bet_no (bet_last HS.out (by omega))
      have HY := Lib.hid hy; clear hy
      go_wp2_with fail
      go_ret2
      exact ⟨_, by rw [HY.out.2]; rfl, by rw [HY.out.1]; exact OwT.nil _ _ _ _, HB.out⟩
end Go.Proofs.Ytajmojldckpchaa
