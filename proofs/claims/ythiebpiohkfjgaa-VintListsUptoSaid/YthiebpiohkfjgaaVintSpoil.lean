/- Writing over a row: spoil of the vint law (no cut to the capacity). Condition: every place may be written. -/
import Derived.Test.YthiebpiohkfjgaaHelpA
import Derived.Test.YthiebpiohkfjgaaByA
import Derived.Deep.LoopGhost
namespace Go.Proofs.Ythiebpiohkfjgaa
open Go.RowKit

/-- every place of a slice, spare ones too, holds a byte and may be written -/
def Soft (w : World) (a : Option Addr) (c : Nat) : Prop := ∀ i, i < c → ∃ x b o, a = some ⟨b, o, none⟩ ∧ w.cell? ⟨b, o + i, none⟩ = some (.int .u8 (B x)) ∧ w.frozen? ⟨b, o + i, none⟩ = false

theorem Soft.set {w : World} {b o c k : Nat} (h : Soft w (some ⟨b, o, none⟩) c) (y : UInt8) : Soft (w.setCell ⟨b, o + k, none⟩ (.int .u8 (B y))) (some ⟨b, o, none⟩) c := by
  intro i hi
  obtain ⟨x, b', o', e, hc, hf⟩ := h i hi
  cases e
  by_cases hik : i = k
  · subst hik
    exact ⟨y, b, o, rfl, World.cell?_setCell_same _ _ _ hc, (World.frozen?_setCell _ _ _ _).trans hf⟩
  · exact ⟨x, b, o, rfl, (World.cell?_setCell_other _ _ _ _ (by simp)).trans hc, (World.frozen?_setCell _ _ _ _).trans hf⟩

theorem grown_set {w w1 : World} {row : Option Nat} (h : w.grownBy w1 row) (p : Addr) (hp : row = some p.block) (v : Value) : w.grownBy (w1.setCell p v) row := by
  obtain ⟨h1, h2, h3, h4, h5⟩ := h
  refine ⟨h1, h2, h3, by simpa using h4, fun k hk hne => ?_⟩
  rw [Below.heap_setCell _ _ _ _ (fun e => hne (by rw [hp, e]))]
  exact h5 k hk hne

set_option maxHeartbeats 400000 in
theorem spoilv_any (a : Option Addr) (c : Nat) (w : World) (hc63 : c ≤ 9223372036854775807) (h : Soft w a c) :
    Calls Try.prog 26 #[.slice a c c] w fun e w' => e = .returned (.tuple #[]) ∧ w.grownBy w' (a.map (·.block)) := by
  have H := Lib.hid h; clear h
  go_enter Try.func26, Try.ntmps26
  go_wp2_with fail
  go_loopw [2] (fun i wr => ∃ k : Nat, k ≤ c ∧ i = .int .i64 k ∧ Soft wr a c ∧ w.grownBy wr (a.map (·.block))) (fun i _ => c - (intOf i).toNat)
  case atStart => exact ⟨0, Nat.zero_le _, rfl, H.out, World.grownBy.refl _ _⟩
  case round =>
    obtain ⟨k, hk, rfl, hs, hg⟩ := hrel
    have HS := Lib.hid hs; clear hs
    have HG := Lib.hid hg; clear hg
    by_cases hlt : k < c
    · obtain ⟨x, b, o, rfl, hc, hf⟩ := HS.out k hlt
      have hy : bits .xor .u8 (B x) 255 = B (x ^^^ 255) := B_xor x 255
      go_wp2_with fail
      go_roundw
      case rel => exact ⟨k + 1, by omega, by go_num, HS.out.set _, grown_set HG.out ⟨b, o + k, none⟩ rfl _⟩
      case measure => simp [intOf]; omega
    · go_wp2_with fail
      go_end0
      exact ⟨rfl, HG.out⟩

theorem OwT.soft {w : World} {base : Nat} {e : TypeId} {a : Option Addr} {n c : Nat} {xs : List UInt8} (h : OwT fB w base e (.slice a n c) xs) : Soft w a c := by
  rcases h with ⟨hv, _⟩ | ⟨g, cap, ys, hv, hg, hh, hl, hn, hc, ht⟩
  · cases hv; intro i hi; omega
  · cases hv
    intro i hi
    have hy : ys[i]? = some ys[i] := List.getElem?_eq_getElem (by omega)
    refine ⟨ys[i], g, 0, rfl, ?_, ?_⟩
    · simp only [World.cell?, hh, Nat.zero_add, flat_fB]; simp [hy]
    · simp [World.frozen?, hh]
end Go.Proofs.Ythiebpiohkfjgaa
