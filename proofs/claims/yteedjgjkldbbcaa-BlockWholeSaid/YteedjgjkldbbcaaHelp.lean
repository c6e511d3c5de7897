/- The contracts of the law package's helpers same, lent, kept and spoil. No condition but what the slices read xs and that they are within reach. -/
import Derived.Test.YteedjgjkldbbcaaByte
import Derived.Deep.LoopGhost
namespace Go.Proofs.Yteedjgjkldbbcaa
open Go.RowKit

set_option maxRecDepth 100000 in
set_option maxHeartbeats 400000 in
theorem same_any (a : Option Addr) (n c : Nat) (xs : List UInt8) (a' : Option Addr) (n' c' : Nat) (ys : List UInt8) (w : World) (hn : n ≤ 9223372036854775807) (hn' : n' ≤ 9223372036854775807)
    (h : Sl Bf w a n c xs) (h' : Sl Bf w a' n' c' ys) :
    Calls Try.prog 15 #[.slice a n c, .slice a' n' c'] w fun e w' => e = .returned (.bool (decide (xs = ys))) ∧ Below w.heap.size w w' := by
  have H := Lib.hid h; clear h
  have H' := Lib.hid h'; clear h'
  by_cases hl : n = n'
  · subst hl
    go_enter Try.func15, Try.ntmps15
    go_wp2_with fail
    go_loopw [5] (fun i wr => ∃ k : Nat, k ≤ n ∧ i = .int .i64 k ∧ xs.take k = ys.take k ∧ Below w.heap.size w wr) (fun i _ => n - (intOf i).toNat)
    case atStart => exact ⟨0, Nat.zero_le _, rfl, by simp, Below.refl _ _⟩
    case round =>
      obtain ⟨k, hk, rfl, he, hb⟩ := hrel
      have HE := Lib.hid he; clear he
      have HB := Lib.hid hb; clear hb
      by_cases hlt : k < n
      · obtain ⟨x, b, o, hx, rfl, hc⟩ := (H.out.keep HB.out).at k hlt
        obtain ⟨y, b', o', hy, rfl, hc'⟩ := (H'.out.keep HB.out).at k hlt
        have hc : wr.cell? ⟨b, o + k, none⟩ = some (.int .u8 (B x)) := hc
        have hc' : wr.cell? ⟨b', o' + k, none⟩ = some (.int .u8 (B y)) := hc'
        have HX := Lib.hid hx; clear hx
        have HY := Lib.hid hy; clear hy
        by_cases hxy : x = y
        · subst hxy
          go_wp2_with fail
          go_quiet (fail)
          go_wp2_with fail
          go_roundw
          case rel => exact ⟨k + 1, by omega, by go_num, (take_eq_snoc HX.out HY.out HE.out).2 rfl, keep_drewN HB.out _⟩
          case measure => simp [intOf]; omega
        · have hne : (B x != B y) = true := by rw [bne_iff_ne]; exact fun e => hxy (B_inj e)
          go_wp2_with fail
          go_quiet (fail)
          go_wp2_with fail
          go_ret
          refine ⟨ret_bool ?_, keep_drewN HB.out _⟩
          symm; rw [decide_eq_false_iff_not]; rintro rfl
          exact hxy (Option.some.inj (HX.out.symm.trans HY.out))
      · go_wp2_with fail
        go_ret
        refine ⟨ret_bool ?_, HB.out⟩
        have e1 := H.out.len; have e2 := H'.out.len; have e3 := HE.out
        rw [List.take_of_length_le (by omega), List.take_of_length_le (by omega)] at e3
        symm; rw [decide_eq_true_eq]; exact e3
  · have hne : ((n : Int) != (n' : Int)) = true := by rw [bne_iff_ne]; omega
    go_enter Try.func15, Try.ntmps15
    go_wp2_with fail
    go_ret
    refine ⟨ret_bool ?_, Below.refl _ _⟩
    have e1 := H.out.len; have e2 := H'.out.len
    symm; rw [decide_eq_false_iff_not]; rintro rfl; omega

/-- bytes in a block of their own, marks behind -/
def Lent (w : World) (g : Nat) (xs : List UInt8) : Prop := w.heap[g]? = some (.cells ((xs ++ [77, 78]).map Bf).toArray 5 (0, 0))
theorem Lent.sl {w : World} {g : Nat} {xs : List UInt8} (h : Lent w g xs) : Sl Bf w (some ⟨g, 0, none⟩) xs.length (xs.length + 2) xs :=
  Sl.of_row xs _ _ h rfl (by omega) (by simp [List.take_left'])
theorem Lent.lt {w : World} {g : Nat} {xs : List UInt8} (h : Lent w g xs) : g < w.heap.size := by
  rcases Nat.lt_or_ge g w.heap.size with h' | h'
  · exact h'
  · unfold Lent at h; rw [Array.getElem?_eq_none h'] at h; cases h
theorem Lent.keep {w w' : World} {g : Nat} {xs : List UInt8} (h : Lent w g xs) (hb : Below w.heap.size w w') : Lent w' g xs := (hb.block g h.lt).trans h
theorem Lent.of_own {w : World} {base g : Nat} {xs : List UInt8} {n : Nat} (h : w.ownsRow base 5 1 (.slice (some ⟨g, 0, none⟩) n n) n ((xs ++ [77, 78]).map Bf)) : Lent w g xs := by
  obtain ⟨_, hv⟩ := h
  rcases hv with ⟨hv, _⟩ | ⟨g', cap, cur, hv, hg, hh, _, _, hsz, htake⟩
  · cases hv
  · cases hv
    unfold Lent
    rw [hh]
    have : cur.toList = (xs ++ [77, 78]).map Bf := by
      rw [← htake, List.take_of_length_le (by simp [hsz])]
    rw [← this]

set_option maxRecDepth 100000 in
set_option maxHeartbeats 400000 in
theorem lent_any (a : Option Addr) (n c : Nat) (xs : List UInt8) (w : World) (hn : n ≤ 140737488351232) (h : Sl Bf w a n c xs) :
    Calls Try.prog 27 #[.slice a n c] w fun e w' => ∃ g, e = .returned (.slice (some ⟨g, 0, none⟩) n (n + 2)) ∧ w.heap.size ≤ g ∧ Lent w' g xs ∧ Below w.heap.size w w' := by
  have e1 := h.len
  have H := Lib.hid h; clear h
  have E1 := Lib.hid e1; clear e1
  have hcut := fun (W : World) (g : Nat) => run_cutto eltB W (some ⟨g, 0, none⟩) (n + 2) (n + 2) .i64 n (by omega)
  go_enter Try.func27, Try.ntmps27
  go_wp2_with (first
    | (at_make; refine wpList_mk0 eltB rfl _ _ rfl w.heap.size (n + 2) rfl rfl (by omega) (by omega) (by unfold maxLen; omega) (Nat.le_refl _) ?_; intro w1 hown1 hb1)
    | (at_builtin; refine wpList_fit (f := Bf) eltB rfl (.tmp 6) (.tmp 7) rfl w.heap.size _ 0 (n + 2) [] (by rfl) (by assumption) a n c xs (by rfl) (H.out.keep (by assumption)) (bf_one _) n (by omega) (by omega) hb1.size (xs.map Bf) rfl ?_; intro w2 hown2 hg2 hb2)
    | (at_builtin; go_loud (refine wpList_fit (f := Bf) eltB rfl (.tmp 8) (.tmp 9) rfl w.heap.size _ n (n + 2) (xs.map Bf) (by rfl) (World.ownsRow.alloc (by assumption) _) _ 2 2 [77, 78] (by rfl) (Sl.lit _ _ _ _ _ rfl rfl) (bf_one _) (n + 2) rfl (by omega) (by have := hb1.size; have := hb2.size; simp; omega) ((xs ++ [77, 78]).map Bf) (by simp) ?_); intro w3 hown3 hg3 hb3))
  go_ret
  refine ⟨_, rfl, Nat.le_refl _, Lent.of_own hown3, ?_⟩
  have s1 := hb1.size; have s2 := hb2.size
  exact ((hb1.trans hb2).alloc (by omega) _).trans hb3

theorem Lent.mark {w : World} {g : Nat} {xs : List UInt8} (h : Lent w g xs) :
    w.cell? ⟨g, xs.length, none⟩ = some (.int .u8 77) ∧ w.cell? ⟨g, xs.length + 1, none⟩ = some (.int .u8 78) := by
  unfold Lent at h
  constructor
  · simp only [World.cell?, h]
    simp; rfl
  · simp only [World.cell?, h]
    simp; rfl

set_option maxRecDepth 100000 in
set_option maxHeartbeats 400000 in
theorem kept_any (g n : Nat) (a : Option Addr) (c : Nat) (xs : List UInt8) (w : World) (hn : n ≤ 140737488351232) (hl : Lent w g xs) (h : Sl Bf w a n c xs) :
    Calls Try.prog 30 #[.slice (some ⟨g, 0, none⟩) n (n + 2), .slice a n c] w fun e w' => e = .returned (.bool true) ∧ Below w.heap.size w w' := by
  obtain rfl : n = xs.length := h.len.symm
  have hs := (same_any (some ⟨g, 0, none⟩) xs.length (xs.length + 2) xs a xs.length c xs w (by omega) (by omega) hl.sl h)
  have HS := Lib.hid hs; clear hs h
  have HL := Lib.hid hl; clear hl
  have hcut := fun (W : World) => run_cutto eltB W (some ⟨g, 0, none⟩) xs.length (xs.length + 2) .i64 (xs.length + 2) (by omega)
  go_enter Try.func30, Try.ntmps30
  go_wp2_with fail
  refine HS.out.mono ?_
  rintro e w1 ⟨rfl, hb⟩
  obtain ⟨hc1, hc2⟩ := (HL.out.keep hb).mark
  have HB := Lib.hid hb; clear hb
  go_wp2_with fail
  go_ret
  exact ⟨ret_bool (by simp), HB.out⟩

/-- every place of a slice, spare ones too, holds a byte and may be written -/
def Soft (w : World) (a : Option Addr) (c : Nat) : Prop := ∀ i, i < c → ∃ x b o, a = some ⟨b, o, none⟩ ∧ w.cell? ⟨b, o + i, none⟩ = some (.int .u8 (B x)) ∧ w.frozen? ⟨b, o + i, none⟩ = false

theorem Soft.set {w : World} {b o c k : Nat} (h : Soft w (some ⟨b, o, none⟩) c) (y : UInt8) : Soft (w.setCell ⟨b, o + k, none⟩ (.int .u8 (B y))) (some ⟨b, o, none⟩) c := by
  intro i hi
  obtain ⟨x, b', o', e, hc, hf⟩ := h i hi
  cases e
  by_cases hik : i = k
  · subst hik
    exact ⟨y, b, o, rfl, World.cell?_setCell_same _ _ _ hc, (World.frozen?_setCell _ _ _ _).trans hf⟩
  · exact ⟨x, b, o, rfl, (World.cell?_setCell_other _ _ _ _ (by simp)).trans hc, (World.frozen?_setCell _ _ _ _).trans hf⟩

theorem grown_set {w w1 : World} {row : Option Nat} (h : w.grownBy w1 row) (p : Addr) (hp : row = some p.block) (v : Value) : w.grownBy (w1.setCell p v) row := by
  obtain ⟨h1, h2, h3, h4, h5⟩ := h
  refine ⟨h1, h2, h3, by simpa using h4, fun k hk hne => ?_⟩
  rw [Below.heap_setCell _ _ _ _ (fun e => hne (by rw [hp, e]))]
  exact h5 k hk hne

set_option maxRecDepth 100000 in
set_option maxHeartbeats 400000 in
theorem spoil_any (a : Option Addr) (n c : Nat) (w : World) (hc63 : c ≤ 9223372036854775807) (h : Soft w a c) :
    Calls Try.prog 16 #[.slice a n c] w fun e w' => e = .returned (.tuple #[]) ∧ w.grownBy w' (a.map (·.block)) := by
  have H := Lib.hid h; clear h
  have hcut := fun (W : World) => run_cutto eltB W a n c .i64 c (Nat.le_refl _)
  have hcap : ∀ W : World, (Builtin.cap_ #[25] 3 #[.slice a n c]).run Try.prog W = .ok (goInt c) W := fun W => run_cap_slice W _ _ _ _ _ Try.underlying25
  go_enter Try.func16, Try.ntmps16
  go_wp2_with fail
  go_loopw [2] (fun i wr => ∃ k : Nat, k ≤ c ∧ i = .int .i64 k ∧ Soft wr a c ∧ w.grownBy wr (a.map (·.block))) (fun i _ => c - (intOf i).toNat)
  case atStart => exact ⟨0, Nat.zero_le _, rfl, H.out, World.grownBy.refl _ _⟩
  case round =>
    obtain ⟨k, hk, rfl, hs, hg⟩ := hrel
    have HS := Lib.hid hs; clear hs
    have HG := Lib.hid hg; clear hg
    by_cases hlt : k < c
    · obtain ⟨x, b, o, rfl, hc, hf⟩ := HS.out k hlt
      have hy : bits .xor .u8 (B x) 255 = B (x ^^^ 255) := B_xor x 255
      go_wp2_with fail
      go_roundw
      case rel => exact ⟨k + 1, by omega, by go_num, HS.out.set _, grown_set HG.out ⟨b, o + k, none⟩ rfl _⟩
      case measure => simp [intOf]; omega
    · go_wp2_with fail
      go_end0
      exact ⟨rfl, HG.out⟩

end Go.Proofs.Yteedjgjkldbbcaa
