/- The contracts of put, four, Seal and Open, the program's and the reference's: what each gives in new memory. Conditions: slices within reach. -/
import Derived.Test.YtaablclccklhnaaCrc1
import Derived.Test.YtaablclccklhnaaHelp
import Derived.Test.YtaablclccklhnaaRow
import Derived.Test.YtaablclccklhnaaCrcBurstM
import Derived.Deep.RegionHeld3
namespace Go.Proofs.Ytaablclccklhnaa
open Go.RowKit

abbrev fB (x : UInt8) : List Value := [Bf x]
theorem eltTB : EltT Try.prog 22 5 fB 1 1 := EltT.mk1 Try.underlying22 (z := .int .u8 0) (by kernel_rfl) 0 rfl (fun _ => rfl)
theorem fB_len (x : UInt8) : (fB x).length = 1 := rfl
theorem flat_fB (xs : List UInt8) : xs.flatMap fB = xs.map Bf := by induction xs <;> simp_all [fB]

theorem OwT.slB {w : World} {base : Nat} {e : TypeId} {v : Value} {xs : List UInt8} (h : OwT fB w base e v xs) : ∃ a c, v = .slice a xs.length c ∧ Sl Bf w a xs.length c xs := by
  obtain ⟨a, c, hv, hs⟩ := h.sl fB_len
  exact ⟨a, c, hv, hs.to1⟩
theorem OwT.soft {w : World} {base : Nat} {e : TypeId} {a : Option Addr} {n c : Nat} {xs : List UInt8} (h : OwT fB w base e (.slice a n c) xs) : Soft w a c := by
  rcases h with ⟨hv, _⟩ | ⟨g, cap, ys, hv, hg, hh, hl, hn, hc, ht⟩
  · cases hv; intro i hi; omega
  · cases hv
    intro i hi
    have hy : ys[i]? = some ys[i] := List.getElem?_eq_getElem (by omega)
    refine ⟨ys[i], g, 0, rfl, ?_, ?_⟩
    · simp only [World.cell?, hh, Nat.zero_add, flat_fB]; simp [hy]
    · simp [World.frozen?, hh]
theorem OwT.capB {w : World} {base : Nat} {e : TypeId} {a : Option Addr} {n c : Nat} {xs : List UInt8} (h : OwT fB w base e (.slice a n c) xs) : n = xs.length ∧ n ≤ c ∧ c ≤ 9223372036854775807 := by
  rcases h with ⟨hv, rfl⟩ | ⟨g, cap, ys, hv, hg, hh, hl, hn, hc, ht⟩
  · cases hv; simp
  · cases hv; unfold maxLen at hc; exact ⟨rfl, hn, hc⟩

theorem by8_0 (s : BitVec 32) : U s % (256 : Int) = B (by8 s 0) := by
  unfold U B by8; rw [UInt8.toNat_ofNat', BitVec.toNat_ushiftRight, Nat.shiftRight_eq_div_pow]; omega
theorem by8_8 (s : BitVec 32) : U s / (256 : Int) % (256 : Int) = B (by8 s 8) := by
  unfold U B by8; rw [UInt8.toNat_ofNat', BitVec.toNat_ushiftRight, Nat.shiftRight_eq_div_pow]; omega
theorem by8_16 (s : BitVec 32) : U s / (65536 : Int) % (256 : Int) = B (by8 s 16) := by
  unfold U B by8; rw [UInt8.toNat_ofNat', BitVec.toNat_ushiftRight, Nat.shiftRight_eq_div_pow]; omega
theorem by8_24 (s : BitVec 32) : U s / (16777216 : Int) % (256 : Int) = B (by8 s 24) := by
  unfold U B by8; rw [UInt8.toNat_ofNat', BitVec.toNat_ushiftRight, Nat.shiftRight_eq_div_pow]; omega

theorem rfour_any (s : BitVec 32) (w : World) :
    Calls Try.prog 39 #[.int .u32 (U s)] w fun e w' => ∃ v, e = .returned v ∧ OwT fB w' w.heap.size 5 v (four s) ∧ Below w.heap.size w w' := by
  have r0 := by8_0; have r1 := by8_8; have r2 := by8_16; have r3 := by8_24
  go_enter Try.func39, Try.ntmps39
  go_wp2_with fail
  go_ret
  exact ⟨_, rfl, OwT.lit fB w _ _ _ _ 4 rfl rfl (Nat.le_refl _) (by decide), by go_grown⟩

theorem put_any (v : Value) (xs : List UInt8) (base : Nat) (s : BitVec 32) (w : World) (hb : base ≤ w.heap.size) (hn : xs.length ≤ 140737488351232) (h : OwT fB w base 5 v xs) :
    Calls Try.prog 38 #[v, .int .u32 (U s)] w fun e w' => ∃ v', e = .returned v' ∧ OwT fB w' base 5 v' (xs ++ four s) ∧ (w.grownBy w' v.ownBlock) ∧ Below base w w' := by
  have r0 := by8_0; have r1 := by8_8; have r2 := by8_16; have r3 := by8_24
  have H := Lib.hid h; clear h
  go_enter Try.func38, Try.ntmps38
  go_wp2_with (at_builtin; refine wpList_appT eltTB rfl _ _ rfl base v xs (by rfl) (H.out.alloc _) _ 4 4 (four s) (by rfl) (Sl.lit _ _ _ _ _ rfl rfl).toT (by unfold maxLen; omega) (by omega) (by simp; omega) _ rfl ?_; intro v1 w1 h1 hg1 hv1 hb1)
  go_ret
  refine ⟨v1, rfl, h1, ?_, ?_⟩
  · obtain ⟨g1, g2, g3, g4, g5⟩ := hg1
    exact ⟨g1, g2, g3, by simp at g4; omega, fun k hk hne => by rw [g5 k (by simp; omega) hne]; exact Below.heap_alloc _ _ _ hk⟩
  · exact ((Below.refl _ _).alloc hb _).trans hb1

set_option maxHeartbeats 400000 in
theorem seal_any (a : Option Addr) (n c : Nat) (xs : List UInt8) (w : World) (hn : n ≤ 140737488351232) (h : Sl Bf w a n c xs) :
    Calls Try.prog 26 #[.slice a n c] w fun e w' => ∃ v, e = .returned v ∧ OwT fB w' w.heap.size 5 v (xs ++ four (sum xs)) ∧ Below w.heap.size w w' := by
  obtain rfl : n = xs.length := h.len.symm
  have H := Lib.hid h; clear h
  go_enter Try.func26, Try.ntmps26
  go_wp2_with (first
    | (at_make; refine wpList_mkT eltTB rfl _ _ rfl w.heap.size 0 (xs.length + 4) (by omega) rfl rfl rfl (by omega) (by omega) (by unfold maxLen; omega) (Nat.le_refl _) ?_; intro x0 w1 hh1 h1 _ hb1)
    | (at_builtin; refine wpList_appT eltTB rfl _ _ rfl w.heap.size _ [] (by rfl) h1 a xs.length c xs (by rfl) (H.out.keep hb1).toT (by unfold maxLen; simp; omega) (by simp; omega) hb1.size xs rfl ?_; intro v2 w2 h2 hg2 hv2 hb2; have hb2 := hb1.trans hb2)
    | (go_at_call 14; refine (sum_any _ _ _ xs _ (by omega) (H.out.keep hb2)).mono ?_; rintro e w' ⟨rfl, rfl⟩)
    | (go_at_call 38; refine (put_any _ xs w.heap.size _ _ hb2.size (by omega) h2).mono ?_; rintro e w3 ⟨v3, rfl, h3, hg3, hb3⟩))
  go_ret
  exact ⟨v3, rfl, h3, hb2.trans hb3⟩

set_option maxHeartbeats 400000 in
theorem rseal_any (a : Option Addr) (n c : Nat) (xs : List UInt8) (w : World) (hn : n ≤ 140737488351232) (h : Sl Bf w a n c xs) :
    Calls Try.prog 30 #[.slice a n c] w fun e w' => ∃ v, e = .returned v ∧ OwT fB w' w.heap.size 5 v (xs ++ four (sum xs)) ∧ Below w.heap.size w w' := by
  obtain rfl : n = xs.length := h.len.symm
  have H := Lib.hid h; clear h
  have hb0 : Below w.heap.size w (w.alloc (.cells #[] 5)) := (Below.refl _ _).alloc (Nat.le_refl _) _
  have HB0 := Lib.hid hb0; clear hb0
  go_enter Try.func30, Try.ntmps30
  go_wp2_with (first
    | (at_builtin; refine wpList_appT eltTB rfl (.tmp 3) (.tmp 4) rfl w.heap.size _ [] (by rfl) (OwT.lit fB w w.heap.size _ _ [] 0 rfl rfl (Nat.le_refl _) (Nat.zero_le _)) a xs.length c xs (by rfl) (H.out.keep HB0.out).toT (by unfold maxLen; simp; omega) (by simp; omega) HB0.out.size xs rfl ?_; intro v2 w2 h2 hg2 hv2 hb2; have hb2 := HB0.out.trans hb2)
    | (go_at_call 18; refine (rsum_any _ _ _ xs _ (by omega) (H.out.keep hb2)).mono ?_; rintro e w' ⟨rfl, rfl⟩)
    | (go_at_call 39; refine (rfour_any _ _).mono ?_; rintro e w3 ⟨v3, rfl, h3, hb3⟩; obtain ⟨a3, c3, rfl, hs3⟩ := h3.slB)
    | (at_builtin; refine wpList_appT eltTB rfl (.tmp 5) (.tmp 8) rfl w.heap.size _ xs (by rfl) (h2.keep hb3) a3 _ c3 (four (sum xs)) (by rfl) hs3.toT (by unfold maxLen; simp [four]; omega) (by simp [four]; omega) (by have := hb2.size; have := hb3.size; omega) _ rfl ?_; intro v4 w4 h4 hg4 hv4 hb4))
  go_ret
  exact ⟨v4, rfl, h4, (keep_trans hb2 hb3).trans hb4⟩
end Go.Proofs.Ytaablclccklhnaa
