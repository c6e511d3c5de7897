/- After, the program's and the reference's: contracts. Conditions: the slice within reach. -/
import Derived.Test.YtajmojldckpchaaPairFns2
import Derived.Deep.DeepMust
namespace Go.Proofs.Ytajmojldckpchaa
open Go.RowKit

/-- behind the last byte, of the first n, that can be greater -/
def top (xs : List UInt8) : Nat → Nat
  | 0 => 0
  | n + 1 => if xs.getD n 0 = 255 then top xs n else n + 1
def bump (xs : List UInt8) (n : Nat) : List UInt8 := (xs.take n).set (n - 1) (xs.getD (n - 1) 0 + 1)
def aftV (xs : List UInt8) : List UInt8 := if xs.length < 64 then xs ++ [0] else if top xs 64 = 0 then [] else bump xs (top xs 64)
def aftB (xs : List UInt8) : Bool := if xs.length < 64 then true else if top xs 64 = 0 then false else true
theorem top_le (xs : List UInt8) : ∀ n, top xs n ≤ n
  | 0 => Nat.le_refl _
  | n + 1 => by
    unfold top
    have := top_le xs n
    split <;> omega
theorem top_down {xs : List UInt8} {n : Nat} {x : UInt8} (hx : xs[n]? = some x) (h : x = 255) : top xs (n + 1) = top xs n := by
  have e : xs.getD n 0 = 255 := by rw [List.getD, hx]; exact h
  rw [top, if_pos e]
theorem top_at {xs : List UInt8} {n : Nat} {x : UInt8} (hx : xs[n]? = some x) (h : x ≠ 255) : top xs (n + 1) = n + 1 := by
  have e : ¬ xs.getD n 0 = 255 := by rw [List.getD, hx]; exact h
  rw [top, if_neg e]
theorem aft_short {xs : List UInt8} (h : xs.length < 64) : aftV xs = xs ++ [0] ∧ aftB xs = true := by unfold aftV aftB; rw [if_pos h, if_pos h]; exact ⟨rfl, rfl⟩
theorem aft_none {xs : List UInt8} (h : ¬ xs.length < 64) (h2 : top xs 64 = 0) : aftV xs = [] ∧ aftB xs = false := by unfold aftV aftB; rw [if_neg h, if_neg h, if_pos h2, if_pos h2]; exact ⟨rfl, rfl⟩
theorem aft_long {xs : List UInt8} {n : Nat} (h : ¬ xs.length < 64) (h2 : top xs 64 = n) (h3 : n ≠ 0) : aftV xs = bump xs n ∧ aftB xs = true := by
  subst h2; unfold aftV aftB; rw [if_neg h, if_neg h, if_neg h3, if_neg h3]; exact ⟨rfl, rfl⟩
theorem B_lt255 {x : UInt8} (h : x ≠ 255) : B x < 255 := by
  have h1 := B_hi x
  have h2 : B x ≠ 255 := fun e => h (B_inj (e.trans (by decide)))
  omega
theorem B_succ {x : UInt8} (h : x ≠ 255) : (B x + 1) % (256 : Int) = B (x + 1) := by
  have h1 := B_lt255 h
  unfold B at *
  rw [UInt8.toNat_add]
  have : (1 : UInt8).toNat = 1 := rfl
  rw [this]; omega
theorem zero_u8 {x0 : UInt8} (h : ∃ i z, Try.prog.info? 5 = some i ∧ i.zero = some z ∧ z.cells.toList = fB x0) : x0 = 0 := by
  obtain ⟨i, z, h1, h2, h3⟩ := h
  have hz : (Try.prog.info? 5).bind (·.zero) = some (.int .u8 0) := by kernel_rfl
  rw [h1] at hz
  have hz : i.zero = some (.int .u8 0) := hz
  rw [h2] at hz
  cases hz
  have h4 : [Value.int .u8 0] = [Bf x0] := h3
  injection h4 with h5 _
  injection h5 with _ h6
  exact (B_inj (a := 0) (b := x0) h6).symm
theorem OwT.app0 {w : World} {base g : Nat} {xs : List UInt8} {x0 : UInt8} {n : Nat} (hx : x0 = 0) (hl : xs.length = n) (h : w.heap[g]? = some (.cells (splice ((List.replicate (n + 1) x0).flatMap fB) 0 (xs.map Bf)).toArray 5 (0, 0))) (hb : base ≤ g) (hm : n + 1 ≤ maxLen) :
    OwT fB w base 5 (.slice (some ⟨g, 0, none⟩) (n + 1) (n + 1)) (xs ++ [0]) := by
  subst hx; subst hl
  refine .inr ⟨g, xs.length + 1, xs ++ [0], by rw [List.length_append]; rfl, hb, ?_, by rw [List.length_append]; rfl, by rw [List.length_append]; exact Nat.le_refl _, hm, by rw [List.take_of_length_le (by rw [List.length_append]; exact Nat.le_refl _)]⟩
  rw [h]
  congr 3
  rw [flat_fB, flat_fB]
  unfold splice
  simp [List.replicate_succ']

theorem src_some {w : World} {a : Option Addr} {n c : Nat} {xs : List UInt8} (h : Sl Bf w a n c xs) (hn : 0 < n) : ∃ ad, a = some ad ∧ ∀ j v, (xs.map Bf)[j]? = some v → w.cell? (ad.add j) = some v := by
  obtain ⟨b, o, rfl, _⟩ := h.lt hn
  exact ⟨_, rfl, (src_of h).2 _ rfl⟩
theorem bump_eq {xs : List UInt8} {j : Nat} {x : UInt8} (hx : xs[j]? = some x) : bump xs (j + 1) = (xs.take (j + 1)).set j (x + 1) := by
  unfold bump
  rw [Nat.add_sub_cancel, List.getD, hx]; rfl

set_option maxHeartbeats 400000 in
theorem after_any (a : Option Addr) (n c : Nat) (xs : List UInt8) (w : World) (hn : n ≤ 140737488351232) (h : Sl Bf w a n c xs) :
    Calls Try.prog 28 #[.slice a n c] w fun e w' => ∃ v, e = .returned (.tuple #[v, .bool (aftB xs)]) ∧ OwT fB w' w.heap.size 5 v (aftV xs) ∧ Below w.heap.size w w' := by
  obtain rfl : n = xs.length := h.len.symm
  have le1 := h.le
  have H := Lib.hid h; clear h
  by_cases hs : (xs.length : Int) < 64
  · have ha := aft_short (xs := xs) (by omega)
    have HA := Lib.hid ha; clear ha
    go_enter Try.func28, Try.ntmps28
    go_upto_region 3 with (at_make; refine wpList_mkT eltTB rfl _ _ rfl w.heap.size (xs.length + 1) (xs.length + 1) (Nat.le_refl _) rfl rfl (by omega) (by omega) (by omega) (by unfold maxLen; omega) (Nat.le_refl _) ?_; intro x0 w1 hh1 h1 hz1 hb1; have HH := Lib.hid hh1; have HZ := Lib.hid (zero_u8 hz1); have HB := Lib.hid hb1; clear hh1 h1 hz1 hb1)
    iterate 7 go_step
    refine wpList_copy_splice rfl (.tmp 14) (.tmp 15) 22 22 rfl 5 Try.underlying22 (by kernel_rfl) (some ⟨w.heap.size, 0, none⟩) a (xs.length + 1) (xs.length + 1) xs.length c (by rfl) (by rfl) w.heap.size 0 ((List.replicate (xs.length + 1) x0).flatMap fB) 5 HH.out (xs.map Bf) (by rw [List.length_map]; exact (Nat.min_eq_left (by omega)).symm) (fun h0 => ⟨rfl, src_some (H.out.keep HB.out) (by rw [List.length_map] at h0; exact h0)⟩) (by rw [List.length_map, flat_length fB_len, List.length_replicate]; omega) (bf_one _) w.heap.size w HB.out (Nat.le_refl _) ?_
    intro w2 h2 hb2
    go_wp2_with fail
    go_ret2
    exact ⟨_, by rw [HA.out.2]; rfl, by rw [HA.out.1]; exact OwT.app0 HZ.out rfl h2.out (Nat.le_refl _) (by unfold maxLen; omega), hb2⟩
  · go_enter Try.func28, Try.ntmps28
    go_wp2_with fail
    go_loopw [5] (fun i wr => ∃ k : Nat, k ≤ 64 ∧ i = .int .i64 k ∧ top xs 64 = top xs k ∧ wr = w) (fun i _ => (intOf i).toNat)
    case atStart => exact ⟨64, Nat.le_refl _, rfl, rfl, rfl⟩
    case round =>
      obtain ⟨k, hk, rfl, ht, hwr⟩ := hrel
      subst hwr
      have HT := Lib.hid ht; clear ht
      by_cases hk0 : k = 0
      · have HK := Lib.hid hk0
        have hk1 : ¬ (0 : Int) < k := by omega
        have hk2 : ((k : Int) == 0) = true := by simp; omega
        clear hk0
        have ha : aftV xs = [] ∧ aftB xs = false := aft_none (by omega) (by rw [HT.out, HK.out]; rfl)
        have HA := Lib.hid ha; clear ha
        go_wp2_with fail
        go_ret2
        exact ⟨_, by rw [HA.out.2]; rfl, by rw [HA.out.1]; exact OwT.nil _ _ _ _, Below.refl _ _⟩
      · obtain ⟨j, rfl⟩ : ∃ j, k = j + 1 := ⟨k - 1, by omega⟩
        obtain ⟨x, b, o, hx, rfl, hc⟩ := H.out.at j (by omega)
        have hc : wr.cell? ⟨b, o + j, none⟩ = some (.int .u8 (B x)) := hc
        have HX := Lib.hid hx; clear hx
        by_cases hx255 : x = 255
        · have hb : (B x == 255) = true := by rw [hx255]; rfl
          have HT2 := Lib.hid (HT.out.trans (top_down HX.out hx255))
          clear hx255
          go_wp2_with fail
          go_roundw
          case rel => exact ⟨j, by omega, by go_num, HT2.out, trivial⟩
          case measure => simp [intOf] <;> omega
        · have hl := B_lt255 hx255
          have hsu := B_succ hx255
          have hb : (B x == 255) = false := by rw [beq_eq_false_iff_ne]; omega
          have ha := aft_long (xs := xs) (by omega) (HT.out.trans (top_at HX.out hx255)) (by omega)
          rw [bump_eq HX.out] at ha
          have HA := Lib.hid ha; clear ha
          have HSU := Lib.hid hsu; clear hsu hx255
          have hc2 := fun (W : World) => run_cutto eltB W (some ⟨b, o, none⟩) xs.length c .i64 (j + 1) (by omega)
          have hc3 : ∀ (W : World), (Instr.slice 22 (.slice (some ⟨b, o, none⟩) xs.length c) none (some (.int .i64 ((j : Int) + 1))) none).run Try.prog W = .ok (.slice (some ⟨b, o, none⟩) (j + 1) c) W := hc2
          have hk2 : ((j : Int) + 1 == 0) = false := by rw [beq_eq_false_iff_ne]; omega
          go_wp2_with fail
          refine (clone_any _ _ _ (xs.take (j + 1)) _ (by omega) (H.out.upto (j + 1) (by omega))).mono ?_
          rintro e w1 ⟨v, rfl, hv, hb1⟩
          have hlen : (xs.take (j + 1)).length = j + 1 := by rw [List.length_take]; omega
          obtain ⟨ge, ce, rfl⟩ : ∃ ge ce, v = .slice (some ⟨ge, 0, none⟩) (j + 1) ce := by
            rcases hv with ⟨_, e0⟩ | ⟨g, cap, ys, rfl, _⟩
            · rw [e0] at hlen; simp at hlen
            · exact ⟨g, cap, by rw [hlen]⟩
          have htk : (xs.take (j + 1))[j]? = some x := by rw [List.getElem?_take_of_lt (by omega)]; exact HX.out
          have hcp := hv.capB
          obtain ⟨_, b2, o2, e, _, hf⟩ := hv.soft j (by omega)
          cases e
          obtain ⟨y, b2, o2, hy, e, hc4⟩ := hv.slI.at j (by omega)
          cases e
          rw [htk] at hy
          obtain rfl : x = y := Option.some.inj hy
          have hc4 : w1.cell? ⟨ge, 0 + j, none⟩ = some (.int .u8 (B x)) := hc4
          have hset := hv.setB j x (x + 1) htk
          rw [Nat.zero_add] at hf hc4 hset
          have hge := (hv.lt ge rfl).1
          have HSet := Lib.hid hset
          have G := Lib.hid (Below.setCell (p := ⟨ge, j, none⟩) hb1 hge (.int .u8 ((B x + 1) % (256 : Int))))
          clear hy htk hcp hset hb1 hv hlen hge
          go_wp2_with fail
          go_ret2
          exact ⟨_, by rw [HA.out.2]; rfl, by rw [HA.out.1]; have := HSet.out; rw [← HSU.out] at this; exact this, G.out⟩

set_option maxHeartbeats 400000 in
theorem rafter_any (a : Option Addr) (n c : Nat) (xs : List UInt8) (w : World) (hn : n ≤ 140737488351232) (h : Sl Bf w a n c xs) :
    Calls Try.prog 29 #[.slice a n c] w fun e w' => ∃ v, e = .returned (.tuple #[v, .bool (aftB xs)]) ∧ OwT fB w' w.heap.size 5 v (aftV xs) ∧ Below w.heap.size w w' := by
  obtain rfl : n = xs.length := h.len.symm
  have le1 := h.le
  have H := Lib.hid h; clear h
  by_cases hs : (xs.length : Int) < 64
  · have ha := aft_short (xs := xs) (by omega)
    have HA := Lib.hid ha; clear ha
    go_enter Try.func29, Try.ntmps29
    go_wp2_with (first
      | (at_builtin; refine wpList_appT eltTB rfl (.tmp 9) (.tmp 10) rfl w.heap.size _ [] (by rfl) (OwT.lit fB _ w.heap.size _ _ [] 0 rfl rfl (Nat.le_refl _) (Nat.zero_le _)) a xs.length c xs (by rfl) (H.out.keep ((Below.refl _ _).alloc (Nat.le_refl _) _)).toT (by unfold maxLen; simp; omega) (by simp; omega) (by simp) xs rfl ?_; intro v4 w4 h4 hg4 hv4 hb4; have hb4 := ((Below.refl w.heap.size w).alloc (Nat.le_refl _) _).trans hb4)
      | (at_builtin; refine wpList_appT eltTB rfl (.tmp 11) (.tmp 12) rfl w.heap.size _ xs (by rfl) (h4.alloc _) _ 1 1 [0] (by rfl) (Sl.lit _ _ _ _ _ rfl rfl).toT (by unfold maxLen; omega) (by omega) (by simp; have := hb4.size; omega) (xs ++ [0]) rfl ?_; intro v5 w5 h5 hg5 hv5 hb5; have hb5 := (hb4.alloc hb4.size _).trans hb5))
    go_ret2
    exact ⟨_, by rw [HA.out.2]; rfl, by rw [HA.out.1]; exact h5, hb5⟩
  · go_enter Try.func29, Try.ntmps29
    go_wp2_with fail
    go_loopw [4] (fun i wr => ∃ k : Nat, k ≤ 64 ∧ i = .int .i64 k ∧ top xs 64 = top xs k ∧ wr = w) (fun i _ => (intOf i).toNat)
    case atStart => exact ⟨64, Nat.le_refl _, rfl, rfl, rfl⟩
    case round =>
      obtain ⟨k, hk, rfl, ht, hwr⟩ := hrel
      subst hwr
      have HT := Lib.hid ht; clear ht
      by_cases hk0 : k = 0
      · have HK := Lib.hid hk0
        have hk1 : ¬ (0 : Int) < k := by omega
        have ha : aftV xs = [] ∧ aftB xs = false := aft_none (by omega) (by rw [HT.out, hk0]; rfl)
        clear hk0
        have HA := Lib.hid ha; clear ha
        go_wp2_with fail
        go_ret2
        exact ⟨_, by rw [HA.out.2]; rfl, by rw [HA.out.1]; exact OwT.nil _ _ _ _, Below.refl _ _⟩
      · obtain ⟨j, rfl⟩ : ∃ j, k = j + 1 := ⟨k - 1, by omega⟩
        obtain ⟨x, b, o, hx, rfl, hc⟩ := H.out.at j (by omega)
        have hc : wr.cell? ⟨b, o + j, none⟩ = some (.int .u8 (B x)) := hc
        have HX := Lib.hid hx; clear hx
        by_cases hx255 : x = 255
        · have hb : ¬ B x < 255 := by rw [hx255]; decide
          have HT2 := Lib.hid (HT.out.trans (top_down HX.out hx255))
          clear hx255
          go_wp2_with fail
          go_roundw
          case rel => exact ⟨j, by omega, by go_num, HT2.out, trivial⟩
          case measure => simp [intOf] <;> omega
        · have hl := B_lt255 hx255
          have hsu := B_succ hx255
          have ha := aft_long (xs := xs) (by omega) (HT.out.trans (top_at HX.out hx255)) (by omega)
          rw [bump_eq HX.out] at ha
          have HA := Lib.hid ha; clear ha
          have HSU := Lib.hid hsu; clear hsu hx255
          have hc2 := fun (W : World) => run_cutto eltB W (some ⟨b, o, none⟩) xs.length c .i64 (j + 1) (by omega)
          have hc3 : ∀ (W : World), (Instr.slice 22 (.slice (some ⟨b, o, none⟩) xs.length c) none (some (.int .i64 ((j : Int) + 1))) none).run Try.prog W = .ok (.slice (some ⟨b, o, none⟩) (j + 1) c) W := hc2
          go_upto_region 8 with (at_builtin; refine wpList_appT eltTB rfl _ _ rfl wr.heap.size _ [] (by rfl) (OwT.lit fB _ wr.heap.size _ _ [] 0 rfl rfl (Nat.le_refl _) (Nat.zero_le _)) (some ⟨b, o, none⟩) (j + 1) c (xs.take (j + 1)) (by rfl) ((H.out.upto (j + 1) (by omega)).keep ((Below.refl _ _).alloc (Nat.le_refl _) _)).toT (by unfold maxLen; simp; omega) (by simp; omega) (by simp) (xs.take (j + 1)) rfl ?_; intro v w1 hv hg1 hv1 hb1)
          have hb1 : Below wr.heap.size wr w1 := ((Below.refl _ _).alloc (Nat.le_refl _) _).trans hb1
          have hv : OwT fB w1 wr.heap.size 5 v (xs.take (j + 1)) := hv
          have hlen : (xs.take (j + 1)).length = j + 1 := by rw [List.length_take]; omega
          obtain ⟨ge, ce, rfl⟩ : ∃ ge ce, v = .slice (some ⟨ge, 0, none⟩) (j + 1) ce := by
            rcases hv with ⟨_, e0⟩ | ⟨g, cap, ys, rfl, _⟩
            · rw [e0] at hlen; simp at hlen
            · exact ⟨g, cap, by rw [hlen]⟩
          have htk : (xs.take (j + 1))[j]? = some x := by rw [List.getElem?_take_of_lt (by omega)]; exact HX.out
          have hcp := hv.capB
          obtain ⟨_, b2, o2, e, _, hf⟩ := hv.soft j (by omega)
          cases e
          obtain ⟨y, b2, o2, hy, e, hc4⟩ := hv.slI.at j (by omega)
          cases e
          rw [htk] at hy
          obtain rfl : x = y := Option.some.inj hy
          have hc4 : w1.cell? ⟨ge, 0 + j, none⟩ = some (.int .u8 (B x)) := hc4
          have hset := hv.setB j x (x + 1) htk
          rw [Nat.zero_add] at hf hc4 hset
          have hge := (hv.lt ge rfl).1
          have HSet := Lib.hid hset
          have G := Lib.hid (Below.setCell (p := ⟨ge, j, none⟩) hb1 hge (.int .u8 ((B x + 1) % (256 : Int))))
          clear hy htk hcp hset hb1 hv hlen hge hg1 hv1
          go_wp2_with fail
          go_ret2
          exact ⟨_, by rw [HA.out.2]; rfl, by rw [HA.out.1]; have := HSet.out; rw [← HSU.out] at this; exact this, G.out⟩
end Go.Proofs.Ytajmojldckpchaa
