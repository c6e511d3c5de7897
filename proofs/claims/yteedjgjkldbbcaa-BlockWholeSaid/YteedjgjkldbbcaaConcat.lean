/- slices.Grow at nil, slices.Concat at texts: contracts. Conditions: the texts within reach. -/
import Derived.Test.YteedjgjkldbbcaaRows2
import Derived.Test.YteedjgjkldbbcaaBy
import Derived.Lib.AppendZeros
import Derived.Deep.LoopGhost
namespace Go.Proofs.Yteedjgjkldbbcaa
open Go.RowKit

theorem zeroInfoB : (Try.prog.info? 5).map (fun i => (i.zero, i.size, i.bytes)) = some (some (.int .u8 0), 1, 1) := by kernel_rfl
theorem zeros_flat (n m : Nat) : (Builtin.zeroCells (Value.int .u8 0).cells n ++ Builtin.zeroCells (Value.int .u8 0).cells m : Array Value) = ((List.replicate (n + m) (0 : UInt8)).flatMap fB).toArray := by
  apply Array.ext'
  rw [Array.toList_append, zero_flat (f := fB) (x0 := (0 : UInt8)) (k := 1) rfl (by decide) rfl, zero_flat (f := fB) (x0 := (0 : UInt8)) (k := 1) rfl (by decide) rfl, ← List.flatMap_append, List.replicate_append_replicate]

set_option maxHeartbeats 400000 in
set_option maxRecDepth 100000 in
theorem grow_nil (n : Nat) (w : World) (hn : n ≤ 281474976710656) :
    Calls Try.prog 72 #[.slice none 0 0, .int .i64 n] w fun e w' => ∃ v, e = .returned v ∧ OwT fB w' w.heap.size 5 v [] ∧ Below w.heap.size w w' := by
  by_cases h0 : 0 < n
  · obtain ⟨i, hi1, hi2, hi3, hi4⟩ := info_parts zeroInfoB
    have hr := Lib.run_append_nil_zeros (P := Try.prog) w 25 3 25 5 i (.int .u8 0) .i64 .i64 Try.underlying25 Try.underlying3 hi1 hi2 n h0 (by omega) (by omega) (by rw [hi4]; omega)
    have hge := grownCap_ge w n 0 5
    have hcm : grownCap w n 0 5 ≤ maxLen := grownCap_le_maxLen w n 0 5 (by unfold maxLen; omega)
    obtain ⟨cp, hcp⟩ : ∃ cp, grownCap w n 0 5 = cp := ⟨_, rfl⟩
    rw [hcp] at hge hcm hr
    rw [zeros_flat, show n + (cp - n) = cp by omega] at hr
    have HR := Lib.hid hr; clear hr hcp
    have f1 : (n : Int) > 0 := by omega
    have hcut := fun W : World => run_cutto eltB W (some ⟨w.heap.size, 0, none⟩) n cp .i64 0 (Nat.zero_le _)
    have hcut0 := fun W : World => run_cutto eltB W none 0 0 .i64 0 (Nat.zero_le _)
    go_enter Try.func72, Try.ntmps72
    go_wp2_with (at_builtin; refine Lib.wpList_append_run _ rfl _ _ _ _ rfl _ _ rfl rfl _ _ HR.out ?_)
    go_ret
    refine ⟨_, rfl, .inr ⟨w.heap.size, cp, List.replicate cp 0, rfl, Nat.le_refl _, ?_, by simp, Nat.zero_le _, hcm, by simp⟩, (Below.refl w.heap.size w).drew.alloc (Nat.le_refl _) _⟩
    exact heap_new w.drew _
  · obtain rfl : n = 0 := by omega
    go_enter Try.func72, Try.ntmps72
    go_wp2_with fail
    go_ret
    exact ⟨_, rfl, OwT.nil _ _ _ _, Below.refl _ _⟩

abbrev Sw := Option Addr × Nat × Nat
abbrev sw (s : Sw) : Value := .slice s.1 s.2.1 s.2.2
theorem flat_next {xss : List (List UInt8)} {k : Nat} {xs : List UInt8} (h : xss[k]? = some xs) : (xss.take (k + 1)).flatten = (xss.take k).flatten ++ xs := by
  rw [List.take_add_one, h]; simp
theorem flat_le (xss : List (List UInt8)) (k : Nat) : (xss.take k).flatten.length ≤ xss.flatten.length := by
  conv => rhs; rw [← List.take_append_drop k xss]
  rw [List.flatten_append, List.length_append]; omega

set_option maxRecDepth 100000 in
set_option maxHeartbeats 1000000 in
theorem concat_any (a : Option Addr) (n c : Nat) (xss : List (List UInt8)) (w : World) (hn : n ≤ 9223372036854775807) (hm : xss.flatten.length ≤ 140737488355328) (h : Rows2 w a n c xss) :
    Calls Try.prog 48 #[.slice a n c] w fun e w' => ∃ v, e = .returned v ∧ OwT fB w' w.heap.size 5 v xss.flatten ∧ Below w.heap.size w w' := by
  obtain rfl : n = xss.length := h.1.symm
  have H := Lib.hid h; clear h
  obtain ⟨M, hM⟩ : ∃ M, xss.flatten.length = M := ⟨_, rfl⟩
  rw [hM] at hm
  have HM := Lib.hid hM; clear hM
  go_enter Try.func48, Try.ntmps48
  go_wp2_with fail
  go_loop [3, 11] (fun s i => ∃ k z : Nat, k ≤ xss.length ∧ i = .int .i64 k ∧ s = .int .i64 z ∧ (xss.take k).flatten.length = z) (fun _ i => xss.length - (intOf i).toNat)
  case atStart => exact ⟨0, 0, Nat.zero_le _, rfl, rfl, rfl⟩
  case round =>
    obtain ⟨k, z, hk, rfl, rfl, hz⟩ := hrel
    by_cases hlt : k < xss.length
    · obtain ⟨xs, hx⟩ : ∃ xs, xss[k]? = some xs := ⟨_, List.getElem?_eq_getElem hlt⟩
      obtain ⟨b, o, ax, nx, cx, rfl, hc, hs⟩ := H.out.2.2 k xs hx
      have hl := hs.len
      have hle := flat_le xss (k + 1)
      rw [flat_next hx, List.length_append, hz, hl, HM.out] at hle
      have hz2 : (xss.take (k + 1)).flatten.length = z + nx := by rw [flat_next hx, List.length_append, hz, hl]
      have HZ := Lib.hid hz2; clear hz2 hz hl hs hx
      go_wp2_with fail
      go_round
      case rel => exact ⟨k + 1, z + nx, by omega, by go_num, by go_num, HZ.out⟩
      case measure => simp [intOf]; omega
    · rw [List.take_of_length_le (by omega), HM.out] at hz
      obtain rfl : M = z := hz
      go_wp2_with fail
      refine (grow_nil M _ (by omega)).mono ?_
      rintro e w1 ⟨v1, rfl, ho, hb⟩
      have O := Lib.hid ho; clear ho
      have B := Lib.hid hb; clear hb
      go_wp2_with fail
      go_loopw [6, 27] (fun s i wr => ∃ k : Nat, k ≤ xss.length ∧ i = .int .i64 k ∧ OwT fB wr w.heap.size 5 s ((xss.take k).flatten) ∧ Below w.heap.size w wr) (fun _ i _ => xss.length - (intOf i).toNat)
      case atStart => exact ⟨0, Nat.zero_le _, rfl, O.out, B.out⟩
      case round =>
        obtain ⟨k, hk, rfl, ho, hb⟩ := hrel
        replace O := Lib.hid ho; clear ho
        replace B := Lib.hid hb; clear hb
        have hsz := B.out.size
        by_cases hlt : k < xss.length
        · obtain ⟨xs, hx⟩ : ∃ xs, xss[k]? = some xs := ⟨_, List.getElem?_eq_getElem hlt⟩
          obtain ⟨b, o, ax, nx, cx, rfl, hc, hs⟩ := (H.out.keep B.out).2.2 k xs hx
          have hl := hs.len
          have hle := flat_le xss (k + 1)
          rw [flat_next hx, List.length_append, hl, HM.out] at hle
          have HX := Lib.hid hx; clear hx hl
          have S := Lib.hid hs; clear hs
          go_wp2_with (at_builtin; refine wpList_appT eltTB rfl _ _ rfl w.heap.size _ ((xss.take k).flatten) (by rfl) O.out ax nx cx xs (by rfl) S.out.toT (by unfold maxLen; omega) (by omega) hsz _ rfl ?_; intro v5 w5 h5 hg5 hv5 hb5; have O5 := Lib.hid h5; have B5 := Lib.hid (B.out.trans hb5); clear h5 hg5 hv5 hb5)
          go_roundw
          case rel => exact ⟨k + 1, by omega, by go_num, by rw [flat_next HX.out]; exact O5.out, B5.out⟩
          case measure => simp [intOf]; omega
        · have HT := Lib.hid (show xss.take k = xss from List.take_of_length_le (by omega))
          go_wp2_with fail
          go_ret
          exact ⟨_, rfl, by have := O.out; rw [HT.out] at this; exact this, B.out⟩
end Go.Proofs.Yteedjgjkldbbcaa
