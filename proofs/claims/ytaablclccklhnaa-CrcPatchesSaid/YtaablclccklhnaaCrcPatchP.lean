/- The contracts of the program's back and Patch. Condition: the slice within reach. -/
import Derived.Test.YtaablclccklhnaaCrc2
import Derived.Test.YtaablclccklhnaaCrcPatchM
import Derived.Laws.CopyOwn
import Derived.Deep.RegionLaw
namespace Go.Proofs.Ytaablclccklhnaa
open Go.RowKit

theorem U_top (s : BitVec 32) : (U s / (2147483648 : Int) == 1) = s.getLsbD 31 := by
  have h := U_bit s 31
  have e : U (s >>> 31 &&& 1#32) = U s / 2147483648 := by
    rw [← U_and1, ← U_shr]
    have hlo := U_lo s; have hhi := U_hi s
    rcases (by omega : U s / (2:Int) ^ 31 = 0 ∨ U s / (2:Int) ^ 31 = 1) with h | h
    · rw [h]; have : U s / 2147483648 = 0 := h; rw [this]; decide
    · rw [h]; have : U s / 2147483648 = 1 := h; rw [this]; decide
  rw [← e]; exact h

theorem U_shl1 (s : BitVec 32) : U s * (2 : Int) % (4294967296 : Int) = U (s <<< 1) := by
  unfold U
  rw [BitVec.toNat_shiftLeft, Nat.shiftLeft_eq]
  show _ = ((s.toNat * 2 ^ 1 % 2 ^ 32 : Nat) : Int)
  omega

theorem back_any (s : BitVec 32) (w : World) :
    Calls Try.prog 40 #[.int .u32 (U s)] w fun e w' => e = .returned (.int .u32 (U (bck s))) ∧ w = w' := by
  have r1 := U_xpoly
  have hb := U_top s
  by_cases h : s.getLsbD 31 = true
  · have e : bck s = ((s ^^^ 0xedb88320#32) <<< 1) ||| 1#32 := by unfold bck; rw [if_pos h]
    rw [e]
    rw [h] at hb
    go_enter Try.func40, Try.ntmps40
    go_wp2_with fail
    go_ret
    exact ⟨ret_int (by rw [U_shl1, U_or1]), rfl⟩
  · have e : bck s = s <<< 1 := by unfold bck; rw [if_neg h]
    rw [e]
    rw [eq_false_of_ne_true h] at hb
    go_enter Try.func40, Try.ntmps40
    go_wp2_with fail
    go_ret
    exact ⟨ret_int (by rw [U_shl1]), rfl⟩

theorem patch_bad (a : Option Addr) (n c : Nat) (x : Int) (want : BitVec 32) (w : World) (hn : n ≤ 140737488351232) (hx : x < 0 ∨ n < 4 ∨ (n : Int) - 4 < x) :
    Calls Try.prog 32 #[.slice a n c, .int .i64 x, .int .u32 (U want)] w fun e w' => e = .returned (.tuple #[.slice none 0 0, .int .i64 1]) ∧ w = w' := by
  by_cases h1 : x < 0
  · go_enter Try.func32, Try.ntmps32
    go_wp2_with fail
    go_ret2
    exact ⟨rfl, rfl⟩
  · by_cases h2 : (n : Int) < 4
    · go_enter Try.func32, Try.ntmps32
      go_wp2_with fail
      go_ret2
      exact ⟨rfl, rfl⟩
    · have h3 : (n : Int) - 4 < x := by omega
      clear hx
      go_enter Try.func32, Try.ntmps32
      go_wp2_with fail
      go_ret2
      exact ⟨rfl, rfl⟩

theorem splice_put (ys xs : List UInt8) (m : Nat) (q : BitVec 32) (hx : ys.take xs.length = xs) (hm : m + 4 ≤ xs.length) : (splice ys m (four q)).take xs.length = put4 xs m q := by
  have hl : xs.length ≤ ys.length := by have := congrArg List.length hx; simp at this; omega
  have h4 : (four q).length = 4 := rfl
  have e1 : ys.take m = xs.take m := by rw [← hx, List.take_take, show min m xs.length = m by omega]
  unfold splice put4
  rw [e1, h4, List.append_assoc]
  have e2 : ∀ t : Nat, (xs.take m ++ (four q ++ ys.drop (m + 4))).take (m + 4 + t) = xs.take m ++ (four q ++ (ys.drop (m + 4)).take t) := by
    intro t
    have h5 : (xs.take m).length = m := by simp; omega
    have t1 : (xs.take m).take (m + 4 + t) = xs.take m := List.take_of_length_le (by rw [h5]; omega)
    have t2 : (four q).take (m + 4 + t - m) = four q := List.take_of_length_le (by rw [h4]; omega)
    rw [List.take_append, List.take_append, h4, h5, t1, t2, show m + 4 + t - m - 4 = t by omega]
  have e3 := e2 (xs.length - (m + 4))
  rw [show m + 4 + (xs.length - (m + 4)) = xs.length by omega] at e3
  rw [e3]
  congr 2
  conv => rhs; rw [← hx]
  rw [List.drop_take]
theorem map_splice (ys l : List UInt8) (m : Nat) : splice (ys.map Bf) m (l.map Bf) = (splice ys m l).map Bf := by
  unfold splice; simp
theorem OwT.splice4 {w : World} {base g cap m : Nat} {e : TypeId} {ys xs : List UInt8} {q : BitVec 32} (h : w.heap[g]? = some (.cells (splice (ys.map Bf) m ((four q).map Bf)).toArray e (0, 0)))
    (hb : base ≤ g) (hl : ys.length = cap) (hx : ys.take xs.length = xs) (hxc : xs.length ≤ cap) (hc : cap ≤ maxLen) (hm : m + 4 ≤ xs.length) : OwT fB w base e (.slice (some ⟨g, 0, none⟩) xs.length cap) (put4 xs m q) := by
  have hp := put4_length xs m q hm
  refine .inr ⟨g, cap, splice ys m (four q), by rw [hp], hb, ?_, ?_, by rw [hp]; exact hxc, hc, by rw [hp]; exact splice_put ys xs m q hx hm⟩
  · rw [h, map_splice, flat_fB]
  · have h4 : (four q).length = 4 := rfl
    rw [length_splice _ _ _ (by rw [h4]; omega), hl]

theorem adv_in (g cap j : Nat) (h : j < cap) : adv (some ⟨g, 0, none⟩) cap j = some ⟨g, j, none⟩ := by
  unfold adv
  rw [if_neg (by omega)]
  by_cases h0 : j = 0
  · subst h0; simp [Addr.add]
  · simp [Addr.add, h0]
theorem four_len (q : BitVec 32) : (four q).length = 4 := rfl
theorem copy_len (q : BitVec 32) {n j : Nat} (h : j + 4 ≤ n) : ((four q).map Bf).length = Nat.min (four q).length (n - j) := by
  rw [List.length_map, four_len]; exact (Nat.min_eq_left (by omega)).symm
theorem src_some {w : World} {a : Option Addr} {n c : Nat} {xs : List UInt8} (h : Sl Bf w a n c xs) (hn : 0 < n) : ∃ ad, a = some ad ∧ ∀ j v, (xs.map Bf)[j]? = some v → w.cell? (ad.add j) = some v := by
  obtain ⟨b, o, rfl, _⟩ := h.lt hn
  exact ⟨_, rfl, (src_of h).2 _ rfl⟩

set_option maxHeartbeats 1000000 in
theorem patch_any (a : Option Addr) (n c : Nat) (xs : List UInt8) (m : Nat) (want : BitVec 32) (w : World) (hn : n ≤ 140737488351232) (hm : m + 4 ≤ n) (h : Sl Bf w a n c xs) :
    Calls Try.prog 32 #[.slice a n c, .int .i64 m, .int .u32 (U want)] w fun e w' => ∃ v q, e = .returned (.tuple #[v, .int .i64 0]) ∧ OwT fB w' w.heap.size 5 v (put4 xs m q) ∧ sum (put4 xs m q) = want ∧ Below w.heap.size w w' := by
  obtain rfl : n = xs.length := h.len.symm
  have h1 : ¬ ((m : Int) < 0) := by omega
  have h2 : ¬ ((xs.length : Int) < 4) := by omega
  have h3 : ¬ ((xs.length : Int) - 4 < m) := by omega
  have hc1 := fun (W : World) => run_cutto eltB W a xs.length c .i64 m (by have := h.le; omega)
  have H1 := Lib.hid (h.upto m (by omega))
  have H := Lib.hid h; clear h
  go_enter Try.func32, Try.ntmps32
  go_wp2_with fail
  go_loop [8, 9] (fun x i => ∃ (j : Nat) (s : BitVec 32), m ≤ j ∧ j ≤ xs.length ∧ i = .int .i64 ((j : Int) - 1) ∧ x = .int .u32 (U s) ∧ pinv xs m want j s) (fun _ i => (intOf i + 1).toNat)
  case atStart => exact ⟨xs.length, _, by omega, Nat.le_refl _, rfl, val_int (U_xmax _), pinv_start xs m want (by omega)⟩
  case round =>
    have r1 := U_xor; have r6 := B_u32
    obtain ⟨j, s, hmj, hj, rfl, rfl, hp⟩ := hrel
    by_cases hlt : (m : Int) ≤ (j : Int) - 1
    · obtain ⟨k, rfl⟩ : ∃ k, j = k + 1 := ⟨j - 1, by omega⟩
      have hk : ((k + 1 : Nat) : Int) - 1 = (k : Int) := by omega
      rw [hk] at hlt ⊢
      clear hk
      have HP := Lib.hid hp; clear hp
      go_wp2_with fail
      go_loop [8, 35] (fun y t => ∃ i : Nat, i ≤ 8 ∧ t = .int .i64 i ∧ y = .int .u32 (U (bckN i s))) (fun _ t => 8 - (intOf t).toNat)
      case atStart => exact ⟨0, Nat.zero_le _, rfl, rfl⟩
      case round =>
        obtain ⟨i, hi, rfl, rfl⟩ := hrel
        by_cases hlt2 : (i : Int) < 8
        · go_wp2_with (go_at_call 40; refine (back_any _ _).mono ?_; rintro e w' ⟨rfl, rfl⟩)
          go_round
          case rel => exact ⟨i + 1, by omega, by go_num, rfl⟩
          case measure => simp [intOf]; omega
        · have e8 : i = 8 := by omega
          by_cases hge : (m : Int) + 4 ≤ k
          · obtain ⟨x, b, o, hx, rfl, hc⟩ := H.out.at k (by omega)
            have hc : w.cell? ⟨b, o + k, none⟩ = some (.int .u8 (B x)) := hc
            have HX := Lib.hid hx; clear hx
            have E8 := Lib.hid e8; clear e8
            go_wp2_with fail
            go_round
            case rel =>
              have := E8.out; subst this
              exact ⟨k, _, by omega, by omega, by go_num, rfl, pinv_text xs m want k s x HX.out (by omega) HP.out⟩
            case measure => simp [intOf]
          · have E8 := Lib.hid e8; clear e8
            go_wp2_with fail
            go_round
            case rel =>
              have := E8.out; subst this
              exact ⟨k, _, by omega, by omega, by go_num, rfl, pinv_gap xs m want k s (by omega) HP.out⟩
            case measure => simp [intOf]
    · obtain rfl : j = m := by omega
      have hq := pinv_end xs j want s hp
      clear hp
      go_wp2_with fail
      refine (in_int 0xffffffff#32 rfl _ _ _ (xs.take j) _ (by omega) H1.out).mono ?_
      rintro e w' ⟨rfl, rfl⟩
      have HQ := Lib.hid hq; clear hq
      go_wp2_with (at_builtin; refine wpList_appT eltTB rfl _ _ rfl w.heap.size _ [] (by rfl) (OwT.lit fB _ w.heap.size _ _ [] 0 rfl rfl (Nat.le_refl _) (Nat.zero_le _)) a xs.length c xs (by rfl) (H.out.keep ((Below.refl _ _).alloc (Nat.le_refl _) _)).toT (by unfold maxLen; simp; omega) (by simp; omega) (by simp) _ rfl ?_; intro v2 w2 h2 hg2 hv2 hb2)
      rcases h2 with ⟨_, e0⟩ | ⟨g, cap, ys, rfl, hbg, hg, hyl, hxc, hcm, hyx⟩
      · simp at e0; subst e0; simp at hm
      · rw [flat_fB] at hg
        have hxc : xs.length ≤ cap := hxc
        have hyx : ys.take xs.length = xs := hyx
        have hb2 : Below w.heap.size w w2 := ((Below.refl _ _).alloc (Nat.le_refl _) _).trans hb2
        have hc2 := fun (W : World) => run_cutfrom eltB W (some ⟨g, 0, none⟩) xs.length cap .i64 j (by omega)
        rw [adv_in g cap j (by omega)] at hc2
        have HG := Lib.hid hg
        have HB2 := Lib.hid hb2
        have HX := Lib.hid hyx; clear hyx
        have gl : g < w2.heap.size := (Array.getElem?_eq_some_iff.1 hg).1
        clear hg hb2 hc1
        obtain ⟨q, hqd⟩ : ∃ q, q = s ^^^ inn 0xffffffff#32 (xs.take j) := ⟨_, rfl⟩
        rw [← hqd] at HQ ⊢
        have HD := Lib.hid hqd; clear hqd
        go_region_law (first
          | (go_simp; go_at_call 38; refine (put_any _ [] w2.heap.size _ w2.drew (Nat.le_refl _) (by simp) (OwT.nil _ _ _ _)).mono ?_; rintro e w3 ⟨v3, rfl, h3, hg3, hb3⟩; have h3 : OwT fB w3 w2.heap.size 5 v3 (four q) := h3; obtain ⟨a3, c3, rfl, hs3⟩ := h3.slB; have HB3 := Lib.hid hb3; have HS3 := Lib.hid hs3; clear h3 hs3 hb3 hg3)
          | (refine step_copy_splice rfl (.tmp 62) (.tmp 64) 22 22 rfl 5 Try.underlying22 (by kernel_rfl) (some ⟨g, j, none⟩) a3 (xs.length - j) (cap - j) (four q).length c3 (by simp [Act.eval]) (by simp [Act.eval]) g j (ys.map Bf) 5 ((HB3.out.block g gl).trans HG.out) ((four q).map Bf) (copy_len q hm) (fun _ => ⟨rfl, src_some HS3.out (by simp [four_len q])⟩) (by simp [four_len q]; omega) (bf_one _) w.heap.size w (HB2.out.drew.trans (HB3.out.mono HB2.out.size)) hbg ?_; intro w5 h5 hb5))
        all_goals go_wp2_with fail
        all_goals go_ret2
        all_goals exact ⟨_, q, rfl, OwT.splice4 h5.out hbg hyl HX.out hxc hcm hm, HQ.out, hb5⟩
end Go.Proofs.Ytaablclccklhnaa
