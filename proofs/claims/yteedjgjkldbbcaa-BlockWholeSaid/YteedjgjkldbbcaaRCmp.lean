/- How two texts compare: the reference's contract. Conditions: the slices within reach. -/
import Derived.Test.YteedjgjkldbbcaaRCom
import Derived.Deep.DeepCutAuto
namespace Go.Proofs.Yteedjgjkldbbcaa
open Go.RowKit

theorem rcompare_q (a : Option Addr) (n c : Nat) (xs : List UInt8) (a' : Option Addr) (n' c' : Nat) (ys : List UInt8) (w : World) (hn : n ≤ 140737488351232) (hn' : n' ≤ 140737488351232)
    (h : Sl Bf w a n c xs) (h' : Sl Bf w a' n' c' ys) :
    Calls Try.prog 47 #[.slice a n c, .slice a' n' c'] w fun e w' => e = .returned (.int .i64 (cmp xs ys)) ∧ Drw w w' := by
  obtain rfl : n = xs.length := h.len.symm
  obtain rfl : n' = ys.length := h'.len.symm
  have H := Lib.hid h; clear h
  have H' := Lib.hid h'; clear h'
  obtain ⟨m, hm⟩ : ∃ m, com xs ys = m := ⟨_, rfl⟩
  have hm1 : m ≤ xs.length := hm ▸ (com_le xs ys).1
  have hm2 : m ≤ ys.length := hm ▸ (com_le xs ys).2
  have hcc := cmp_com xs ys
  rw [hm] at hcc
  have HC := Lib.hid hcc; clear hcc
  have hend := com_end xs ys
  rw [hm] at hend
  have HEnd := Lib.hid hend; clear hend
  have HM := Lib.hid hm; clear hm
  go_enter Try.func47, Try.ntmps47
  go_wp2_with fail
  refine (rcommon_q _ _ _ xs _ _ _ ys _ hn hn' H.out H'.out).mono ?_
  rintro e w1 ⟨rfl, hb⟩
  have G := Lib.hid hb; clear hb
  rw [HM.out]
  by_cases hA : m = xs.length
  · have hcc := HC.out
    have HX := HM.out
    clear HM HC HEnd
    subst hA
    by_cases hB : xs.length = ys.length
    · rw [if_pos ⟨rfl, hB⟩] at hcc
      have f3 : ((xs.length : Int) == (ys.length : Int)) = true := by simp; omega
      have f4 : (xs.length == ys.length) = true := by simp; omega
      have HCC := Lib.hid hcc
      clear hB hcc
      go_wp2_with fail
      go_ret
      exact ⟨ret_int HCC.out.symm, G.out⟩
    · rw [if_neg (fun e => hB e.2), if_pos rfl] at hcc
      have f3 : ((xs.length : Int) == (ys.length : Int)) = false := by simp; omega
      have f4 : (xs.length == ys.length) = false := by simp; omega
      have HCC := Lib.hid hcc
      clear hB hcc
      go_wp2_with fail
      go_ret
      exact ⟨ret_int HCC.out.symm, G.out⟩
  · by_cases hB : m = ys.length
    · have hcc := HC.out
      clear HM HC HEnd
      subst hB
      rw [if_neg (fun e => hA e.1), if_neg hA, if_pos rfl] at hcc
      have f3 : ((ys.length : Int) == (xs.length : Int)) = false := by simp; omega
      have f4 : (ys.length == xs.length) = false := by simp; omega
      have HCC := Lib.hid hcc
      clear hA hcc
      go_wp2_with fail
      go_ret
      exact ⟨ret_int HCC.out.symm, G.out⟩
    · have f1 : ((m : Int) == (xs.length : Int)) = false := by simp; omega
      have f2 : (m == xs.length) = false := by simp; omega
      have f3 : ((m : Int) == (ys.length : Int)) = false := by simp; omega
      have f4 : (m == ys.length) = false := by simp; omega
      obtain ⟨x, y, hx, hy, hxy, hcm⟩ : ∃ x y, xs[m]? = some x ∧ ys[m]? = some y ∧ x ≠ y ∧ cmp xs ys = if x.toNat < y.toNat then -1 else 1 := by
        rcases HEnd.out with h | h | h
        · omega
        · omega
        · exact h
      obtain ⟨b, o, hxa, hcx⟩ := (H.out.keep G.out.below).2.2.2 m x hx
      obtain ⟨b', o', hya, hcy⟩ := (H'.out.keep G.out.below).2.2.2 m y hy
      subst hxa; subst hya
      have hcx : w1.cell? ⟨b, o + m, none⟩ = some (.int .u8 (B x)) := hcx
      have hcy : w1.cell? ⟨b', o' + m, none⟩ = some (.int .u8 (B y)) := hcy
      have hl1 : m < xs.length := by omega
      have hl2 : m < ys.length := by omega
      clear hx hy hxy HC HM HEnd hA hB
      by_cases hlt : B x < B y
      · rw [if_pos (by unfold B at hlt; omega)] at hcm
        have HCC := Lib.hid hcm; clear hcm
        go_wp2_with fail
        go_quiet (fail)
        go_wp2_with fail
        go_ret
        exact ⟨ret_int HCC.out.symm, G.out.more _⟩
      · rw [if_neg (by unfold B at hlt; omega)] at hcm
        have HCC := Lib.hid hcm; clear hcm
        go_wp2_with fail
        go_quiet (fail)
        go_wp2_with fail
        go_ret
        exact ⟨ret_int HCC.out.symm, G.out.more _⟩

theorem rcompare_any (a : Option Addr) (n c : Nat) (xs : List UInt8) (a' : Option Addr) (n' c' : Nat) (ys : List UInt8) (w : World) (hn : n ≤ 140737488351232) (hn' : n' ≤ 140737488351232)
    (h : Sl Bf w a n c xs) (h' : Sl Bf w a' n' c' ys) :
    Calls Try.prog 47 #[.slice a n c, .slice a' n' c'] w fun e w' => e = .returned (.int .i64 (cmp xs ys)) ∧ Below w.heap.size w w' :=
  (rcompare_q a n c xs a' n' c' ys w hn hn' h h').mono fun _ _ ⟨he, hd⟩ => ⟨he, hd.below⟩
end Go.Proofs.Yteedjgjkldbbcaa
