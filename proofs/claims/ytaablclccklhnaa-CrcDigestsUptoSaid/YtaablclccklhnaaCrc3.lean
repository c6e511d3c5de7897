/- The contracts of Open, the program's and the reference's. Conditions: the slice within reach. -/
import Derived.Test.YtaablclccklhnaaCrc2
import Derived.Test.YtaablclccklhnaaStr
import Derived.Deep.RegionWith
namespace Go.Proofs.Ytaablclccklhnaa
open Go.RowKit

/-- what Open gives: the bytes, and the error's number -/
def openV (xs : List UInt8) : List UInt8 := if xs.length < 4 then [] else if four (sum (xs.take (xs.length - 4))) = xs.drop (xs.length - 4) then xs.take (xs.length - 4) else []
def openE (xs : List UInt8) : Int := if xs.length < 4 then 21 else if four (sum (xs.take (xs.length - 4))) = xs.drop (xs.length - 4) then 0 else 22

set_option maxHeartbeats 1000000 in
theorem open_any (a : Option Addr) (n c : Nat) (xs : List UInt8) (w : World) (hn : n ≤ 140737488351300) (h : Sl Bf w a n c xs) :
    Calls Try.prog 27 #[.slice a n c] w fun e w' => ∃ v, e = .returned (.tuple #[v, .int .i64 (openE xs)]) ∧ OwT fB w' w.heap.size 5 v (openV xs) ∧ Below w.heap.size w w' := by
  obtain rfl : n = xs.length := h.len.symm
  by_cases hlt : (xs.length : Int) < 4
  · have he : openE xs = 21 := by unfold openE; rw [if_pos (by omega)]
    have hv : openV xs = [] := by unfold openV; rw [if_pos (by omega)]
    rw [he, hv]
    clear he hv
    have H := Lib.hid h; clear h
    go_enter Try.func27, Try.ntmps27
    go_wp2_with fail
    go_ret2
    exact ⟨_, rfl, OwT.nil _ _ _ _, Below.refl _ _⟩
  · obtain ⟨m, hm⟩ : ∃ m, xs.length = m + 4 := ⟨xs.length - 4, by omega⟩
    have hm4 : xs.length - 4 = m := by omega
    have hle : m ≤ xs.length := by omega
    have h1 := h.upto m hle
    have h2 := h.from m hle
    rw [show xs.length - m = 4 by omega] at h2
    by_cases hq : four (sum (xs.take m)) = xs.drop m
    · have he : openE xs = 0 := by unfold openE; rw [if_neg (by omega), hm4, if_pos hq]
      have hv : openV xs = xs.take m := by unfold openV; rw [if_neg (by omega), hm4, if_pos hq]
      rw [he, hv]
      clear he hv
      have hc1 := fun (W : World) => run_cutto eltB W a xs.length c .i64 m (by have := h.le; omega)
      have hc2 := fun (W : World) => run_cutfrom eltB W a xs.length c .i64 m hle
      rw [show xs.length - m = 4 by omega] at hc2
      have hd := (Below.refl w.heap.size w).drew
      have hs2 := fun (W : World) (hW : Below w.heap.size w W) => run_str (P := Try.prog) (dst := 9) Try.underlying22 Try.underlying5 Try.underlying9 W _ _ _ _ (h2.keep hW)
      have H := Lib.hid h; clear h
      have H1 := Lib.hid h1; clear h1 h2
      have hq2 : ((strB (four (sum (xs.take m)))).toList == (strB (xs.drop m)).toList) = true := by rw [strB_list, strB_list]; exact beq_iff_eq.2 hq
      clear hq
      have hm' : (xs.length : Int) = (m : Int) + 4 := by omega
      clear hm hm4
      go_enter Try.func27, Try.ntmps27
      go_wp2_with fail
      go_region_with (first
          | (go_at_call 14; refine (sum_any _ _ _ (xs.take m) _ (by omega) H1.out.drew).mono ?_; rintro e w' ⟨rfl, rfl⟩)
          | (go_at_call 38; refine (put_any _ [] w.heap.size _ w.drew (Nat.le_refl _) (by simp) (OwT.nil _ _ _ _)).mono ?_; rintro e w3 ⟨v3, rfl, h3, hg3, hb3⟩; have hb3 := (Below.refl w.heap.size w).drew.trans hb3; have h3 : OwT fB w3 w.heap.size 5 v3 (four (sum (xs.take m))) := h3; obtain ⟨a3, c3, rfl, hs3⟩ := h3.slB; have hs4 := run_str (P := Try.prog) (dst := 9) Try.underlying22 Try.underlying5 Try.underlying9 w3 _ _ _ _ hs3; clear hs3))
      all_goals go_wp2_with (at_builtin; refine wpList_appT eltTB rfl _ _ rfl w.heap.size _ [] (by rfl) (OwT.lit fB _ w.heap.size _ _ [] 0 rfl rfl hb3.size (Nat.zero_le _)) a m c (xs.take m) (by rfl) (H1.out.keep (hb3.alloc hb3.size _)).toT (by unfold maxLen; simp; omega) (by simp; omega) (by have := hb3.size; simp; omega) _ rfl ?_; intro v5 w5 h5 hg5 hv5 hb5)
      all_goals go_ret2
      all_goals exact ⟨_, rfl, h5, (hb3.alloc hb3.size _).trans hb5⟩
    · have he : openE xs = 22 := by unfold openE; rw [if_neg (by omega), hm4, if_neg hq]
      have hv : openV xs = [] := by unfold openV; rw [if_neg (by omega), hm4, if_neg hq]
      rw [he, hv]
      clear he hv
      have hc1 := fun (W : World) => run_cutto eltB W a xs.length c .i64 m (by have := h.le; omega)
      have hc2 := fun (W : World) => run_cutfrom eltB W a xs.length c .i64 m hle
      rw [show xs.length - m = 4 by omega] at hc2
      have hd := (Below.refl w.heap.size w).drew
      have hs2 := fun (W : World) (hW : Below w.heap.size w W) => run_str (P := Try.prog) (dst := 9) Try.underlying22 Try.underlying5 Try.underlying9 W _ _ _ _ (h2.keep hW)
      have H := Lib.hid h; clear h
      have H1 := Lib.hid h1; clear h1 h2
      have hq2 : ((strB (four (sum (xs.take m)))).toList == (strB (xs.drop m)).toList) = false := by rw [strB_list, strB_list]; exact beq_eq_false_iff_ne.2 hq
      clear hq
      have hm' : (xs.length : Int) = (m : Int) + 4 := by omega
      clear hm hm4
      go_enter Try.func27, Try.ntmps27
      go_wp2_with fail
      go_region_with (first
          | (go_at_call 14; refine (sum_any _ _ _ (xs.take m) _ (by omega) H1.out.drew).mono ?_; rintro e w' ⟨rfl, rfl⟩)
          | (go_at_call 38; refine (put_any _ [] w.heap.size _ w.drew (Nat.le_refl _) (by simp) (OwT.nil _ _ _ _)).mono ?_; rintro e w3 ⟨v3, rfl, h3, hg3, hb3⟩; have hb3 := (Below.refl w.heap.size w).drew.trans hb3; have h3 : OwT fB w3 w.heap.size 5 v3 (four (sum (xs.take m))) := h3; obtain ⟨a3, c3, rfl, hs3⟩ := h3.slB; have hs4 := run_str (P := Try.prog) (dst := 9) Try.underlying22 Try.underlying5 Try.underlying9 w3 _ _ _ _ hs3; clear hs3))
      all_goals go_wp2_with fail
      all_goals go_ret2
      all_goals exact ⟨_, rfl, OwT.nil _ _ _ _, by first | exact hb3 | exact hd.trans hb3⟩

set_option maxHeartbeats 1000000 in
theorem ropen_any (a : Option Addr) (n c : Nat) (xs : List UInt8) (w : World) (hn : n ≤ 140737488351300) (h : Sl Bf w a n c xs) :
    Calls Try.prog 28 #[.slice a n c] w fun e w' => ∃ v, e = .returned (.tuple #[v, .int .i64 (openE xs)]) ∧ OwT fB w' w.heap.size 5 v (openV xs) ∧ Below w.heap.size w w' := by
  obtain rfl : n = xs.length := h.len.symm
  by_cases hlt : (xs.length : Int) < 4
  · have he : openE xs = 21 := by unfold openE; rw [if_pos (by omega)]
    have hv : openV xs = [] := by unfold openV; rw [if_pos (by omega)]
    rw [he, hv]
    clear he hv
    have H := Lib.hid h; clear h
    go_enter Try.func28, Try.ntmps28
    go_wp2_with fail
    go_ret2
    exact ⟨_, rfl, OwT.nil _ _ _ _, Below.refl _ _⟩
  · obtain ⟨m, hm⟩ : ∃ m, xs.length = m + 4 := ⟨xs.length - 4, by omega⟩
    have hm4 : xs.length - 4 = m := by omega
    have hle : m ≤ xs.length := by omega
    have h1 := h.upto m hle
    have h2 := h.from m hle
    rw [show xs.length - m = 4 by omega] at h2
    by_cases hq : four (sum (xs.take m)) = xs.drop m
    · have he : openE xs = 0 := by unfold openE; rw [if_neg (by omega), hm4, if_pos hq]
      have hv : openV xs = xs.take m := by unfold openV; rw [if_neg (by omega), hm4, if_pos hq]
      rw [he, hv]
      clear he hv
      have hc1 := fun (W : World) => run_cutto eltB W a xs.length c .i64 m (by have := h.le; omega)
      have hc2 := fun (W : World) => run_cutfrom eltB W a xs.length c .i64 m hle
      rw [show xs.length - m = 4 by omega] at hc2
      have hd := (Below.refl w.heap.size w).drew
      have hs2 := fun (W : World) (hW : Below w.heap.size w W) => run_str (P := Try.prog) (dst := 9) Try.underlying22 Try.underlying5 Try.underlying9 W _ _ _ _ (h2.keep hW)
      have H := Lib.hid h; clear h
      have H1 := Lib.hid h1; clear h1 h2
      have hq2 : ((strB (four (sum (xs.take m)))).toList == (strB (xs.drop m)).toList) = true := by rw [strB_list, strB_list]; exact beq_iff_eq.2 hq
      clear hq
      have hm' : (xs.length : Int) = (m : Int) + 4 := by omega
      clear hm hm4
      go_enter Try.func28, Try.ntmps28
      go_wp2_with fail
      go_region_with (first
          | (go_at_call 18; refine (rsum_any _ _ _ (xs.take m) _ (by omega) H1.out.drew).mono ?_; rintro e w' ⟨rfl, rfl⟩)
          | (go_at_call 39; refine (rfour_any _ w.drew).mono ?_; rintro e w3 ⟨v3, rfl, h3, hb3⟩; have hb3 : Below w.heap.size w w3 := (Below.refl w.heap.size w).drew.trans hb3; obtain ⟨a3, c3, rfl, hs3⟩ := h3.slB; have hs4 := run_str (P := Try.prog) (dst := 9) Try.underlying22 Try.underlying5 Try.underlying9 w3 _ _ _ _ hs3; clear hs3))
      all_goals go_wp2_with (at_builtin; refine wpList_appT eltTB rfl _ _ rfl w.heap.size _ [] (by rfl) (OwT.lit fB _ w.heap.size _ _ [] 0 rfl rfl hb3.size (Nat.zero_le _)) a m c (xs.take m) (by rfl) (H1.out.keep (hb3.alloc hb3.size _)).toT (by unfold maxLen; simp; omega) (by simp; omega) (by have := hb3.size; simp; omega) _ rfl ?_; intro v5 w5 h5 hg5 hv5 hb5)
      all_goals go_ret2
      all_goals exact ⟨_, rfl, h5, (hb3.alloc hb3.size _).trans hb5⟩
    · have he : openE xs = 22 := by unfold openE; rw [if_neg (by omega), hm4, if_neg hq]
      have hv : openV xs = [] := by unfold openV; rw [if_neg (by omega), hm4, if_neg hq]
      rw [he, hv]
      clear he hv
      have hc1 := fun (W : World) => run_cutto eltB W a xs.length c .i64 m (by have := h.le; omega)
      have hc2 := fun (W : World) => run_cutfrom eltB W a xs.length c .i64 m hle
      rw [show xs.length - m = 4 by omega] at hc2
      have hd := (Below.refl w.heap.size w).drew
      have hs2 := fun (W : World) (hW : Below w.heap.size w W) => run_str (P := Try.prog) (dst := 9) Try.underlying22 Try.underlying5 Try.underlying9 W _ _ _ _ (h2.keep hW)
      have H := Lib.hid h; clear h
      have H1 := Lib.hid h1; clear h1 h2
      have hq2 : ((strB (four (sum (xs.take m)))).toList == (strB (xs.drop m)).toList) = false := by rw [strB_list, strB_list]; exact beq_eq_false_iff_ne.2 hq
      clear hq
      have hm' : (xs.length : Int) = (m : Int) + 4 := by omega
      clear hm hm4
      go_enter Try.func28, Try.ntmps28
      go_wp2_with fail
      go_region_with (first
          | (go_at_call 18; refine (rsum_any _ _ _ (xs.take m) _ (by omega) H1.out.drew).mono ?_; rintro e w' ⟨rfl, rfl⟩)
          | (go_at_call 39; refine (rfour_any _ w.drew).mono ?_; rintro e w3 ⟨v3, rfl, h3, hb3⟩; have hb3 : Below w.heap.size w w3 := (Below.refl w.heap.size w).drew.trans hb3; obtain ⟨a3, c3, rfl, hs3⟩ := h3.slB; have hs4 := run_str (P := Try.prog) (dst := 9) Try.underlying22 Try.underlying5 Try.underlying9 w3 _ _ _ _ hs3; clear hs3))
      all_goals go_wp2_with fail
      all_goals go_ret2
      all_goals exact ⟨_, rfl, OwT.nil _ _ _ _, by first | exact hb3 | exact hd.trans hb3⟩
end Go.Proofs.Ytaablclccklhnaa
