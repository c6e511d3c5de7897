/- The contracts of the law package's helpers same and spoil. No condition but what the slices read xs and that they are within reach. -/
import Derived.Test.YtpenbaafhbbmhaaByte
import Derived.Deep.LoopGhost
namespace Go.Proofs.Ytpenbaafhbbmhaa
open Go.RowKit

set_option maxRecDepth 100000 in
set_option maxHeartbeats 400000 in
theorem same_any (a : Option Addr) (n c : Nat) (xs : List UInt8) (a' : Option Addr) (n' c' : Nat) (ys : List UInt8) (w : World) (hn : n ≤ 9223372036854775807) (hn' : n' ≤ 9223372036854775807)
    (h : Sl Bf w a n c xs) (h' : Sl Bf w a' n' c' ys) :
    Calls Try.prog 26 #[.slice a n c, .slice a' n' c'] w fun e w' => e = .returned (.bool (decide (xs = ys))) ∧ Below w.heap.size w w' := by
  have H := Lib.hid h; clear h
  have H' := Lib.hid h'; clear h'
  by_cases hl : n = n'
  · subst hl
    go_enter Try.func26, Try.ntmps26
    go_wp2_with fail
    go_loopw [5] (fun i wr => ∃ k : Nat, k ≤ n ∧ i = .int .i64 k ∧ xs.take k = ys.take k ∧ Below w.heap.size w wr) (fun i _ => n - (intOf i).toNat)
    case atStart => exact ⟨0, Nat.zero_le _, rfl, by simp, Below.refl _ _⟩
    case round =>
      obtain ⟨k, hk, rfl, he, hb⟩ := hrel
      have HE := Lib.hid he; clear he
      have HB := Lib.hid hb; clear hb
      by_cases hlt : k < n
      · obtain ⟨x, b, o, hx, rfl, hc⟩ := (H.out.keep HB.out).at k hlt
        obtain ⟨y, b', o', hy, rfl, hc'⟩ := (H'.out.keep HB.out).at k hlt
        have hc : wr.cell? ⟨b, o + k, none⟩ = some (.int .u8 (B x)) := hc
        have hc' : wr.cell? ⟨b', o' + k, none⟩ = some (.int .u8 (B y)) := hc'
        have HX := Lib.hid hx; clear hx
        have HY := Lib.hid hy; clear hy
        by_cases hxy : x = y
        · subst hxy
          go_wp2_with fail
          go_quiet (fail)
          go_wp2_with fail
          go_roundw
          case rel => exact ⟨k + 1, by omega, by go_num, (take_eq_snoc HX.out HY.out HE.out).2 rfl, keep_drewN HB.out _⟩
          case measure => simp [intOf]; omega
        · have hne : (B x != B y) = true := by rw [bne_iff_ne]; exact fun e => hxy (B_inj e)
          go_wp2_with fail
          go_quiet (fail)
          go_wp2_with fail
          go_ret
          refine ⟨ret_bool ?_, keep_drewN HB.out _⟩
          symm; rw [decide_eq_false_iff_not]; rintro rfl
          exact hxy (Option.some.inj (HX.out.symm.trans HY.out))
      · go_wp2_with fail
        go_ret
        refine ⟨ret_bool ?_, HB.out⟩
        have e1 := H.out.len; have e2 := H'.out.len; have e3 := HE.out
        rw [List.take_of_length_le (by omega), List.take_of_length_le (by omega)] at e3
        symm; rw [decide_eq_true_eq]; exact e3
  · have hne : ((n : Int) != (n' : Int)) = true := by rw [bne_iff_ne]; omega
    go_enter Try.func26, Try.ntmps26
    go_wp2_with fail
    go_ret
    refine ⟨ret_bool ?_, Below.refl _ _⟩
    have e1 := H.out.len; have e2 := H'.out.len
    symm; rw [decide_eq_false_iff_not]; rintro rfl; omega

/-- every place of a slice, spare ones too, holds a byte and may be written -/
def Soft (w : World) (a : Option Addr) (c : Nat) : Prop := ∀ i, i < c → ∃ x b o, a = some ⟨b, o, none⟩ ∧ w.cell? ⟨b, o + i, none⟩ = some (.int .u8 (B x)) ∧ w.frozen? ⟨b, o + i, none⟩ = false

theorem Soft.set {w : World} {b o c k : Nat} (h : Soft w (some ⟨b, o, none⟩) c) (y : UInt8) : Soft (w.setCell ⟨b, o + k, none⟩ (.int .u8 (B y))) (some ⟨b, o, none⟩) c := by
  intro i hi
  obtain ⟨x, b', o', e, hc, hf⟩ := h i hi
  cases e
  by_cases hik : i = k
  · subst hik
    exact ⟨y, b, o, rfl, World.cell?_setCell_same _ _ _ hc, (World.frozen?_setCell _ _ _ _).trans hf⟩
  · exact ⟨x, b, o, rfl, (World.cell?_setCell_other _ _ _ _ (by simp)).trans hc, (World.frozen?_setCell _ _ _ _).trans hf⟩

theorem grown_set {w w1 : World} {row : Option Nat} (h : w.grownBy w1 row) (p : Addr) (hp : row = some p.block) (v : Value) : w.grownBy (w1.setCell p v) row := by
  obtain ⟨h1, h2, h3, h4, h5⟩ := h
  refine ⟨h1, h2, h3, by simpa using h4, fun k hk hne => ?_⟩
  rw [Below.heap_setCell _ _ _ _ (fun e => hne (by rw [hp, e]))]
  exact h5 k hk hne

set_option maxRecDepth 100000 in
set_option maxHeartbeats 400000 in
theorem spoil_any (a : Option Addr) (n c : Nat) (w : World) (hc63 : c ≤ 9223372036854775807) (h : Soft w a c) :
    Calls Try.prog 36 #[.slice a n c] w fun e w' => e = .returned (.tuple #[]) ∧ w.grownBy w' (a.map (·.block)) := by
  have H := Lib.hid h; clear h
  have hcut := fun (W : World) => run_cutto eltB W a n c .i64 c (Nat.le_refl _)
  have hcap : ∀ W : World, (Builtin.cap_ #[22] 3 #[.slice a n c]).run Try.prog W = .ok (goInt c) W := fun W => run_cap_slice W _ _ _ _ _ Try.underlying22
  go_enter Try.func36, Try.ntmps36
  go_wp2_with fail
  go_loopw [2] (fun i wr => ∃ k : Nat, k ≤ c ∧ i = .int .i64 k ∧ Soft wr a c ∧ w.grownBy wr (a.map (·.block))) (fun i _ => c - (intOf i).toNat)
  case atStart => exact ⟨0, Nat.zero_le _, rfl, H.out, World.grownBy.refl _ _⟩
  case round =>
    obtain ⟨k, hk, rfl, hs, hg⟩ := hrel
    have HS := Lib.hid hs; clear hs
    have HG := Lib.hid hg; clear hg
    by_cases hlt : k < c
    · obtain ⟨x, b, o, rfl, hc, hf⟩ := HS.out k hlt
      have hy : bits .xor .u8 (B x) 255 = B (x ^^^ 255) := B_xor x 255
      go_wp2_with fail
      go_roundw
      case rel => exact ⟨k + 1, by omega, by go_num, HS.out.set _, grown_set HG.out ⟨b, o + k, none⟩ rfl _⟩
      case measure => simp [intOf]; omega
    · go_wp2_with fail
      go_end0
      exact ⟨rfl, HG.out⟩

end Go.Proofs.Ytpenbaafhbbmhaa
