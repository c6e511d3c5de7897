/- An entry in a list of its own. No condition. -/
import Derived.Test.YtljcogimeimknaaEntCopyZ
namespace Go.Proofs.Ytljcogimeimknaa
open Go.RowKit
set_option linter.unusedVariables false

theorem Ents.one (w : World) (ak : Option Addr) (nk ck : Nat) (k : List UInt8) (av : Option Addr) (nv cv : Nat) (v : List UInt8) (h1 : Sl Bf w ak nk ck k) (h2 : Sl Bf w av nv cv v) :
    Ents (w.alloc (.cells #[.slice ak nk ck, .slice av nv cv] 42)) (some ⟨w.heap.size, 0, none⟩) 1 1 [(k, v)] := by
  have hh := heap_new w (.cells #[.slice ak nk ck, .slice av nv cv] 42)
  have hb := (Below.refl _ w).alloc (Nat.le_refl _) (.cells #[.slice ak nk ck, .slice av nv cv] 42)
  refine ⟨rfl, Nat.le_refl _, by simp, fun i k' v' hi => ?_⟩
  obtain rfl : i = 0 := by have := (List.getElem?_eq_some_iff.1 hi).1; simp at this; omega
  simp at hi
  obtain ⟨rfl, rfl⟩ := hi
  exact ⟨_, _, _, _, _, _, _, _, rfl, cell_of hh 0 rfl, cell_of hh 1 rfl, h1.keep hb, h2.keep hb⟩
theorem Cpy.one {w : World} {lo hi n c : Nat} {a : Option Addr} {k v : List UInt8} (h : Cpy w lo hi (a, n, c) [(k, v)]) :
    ∃ b o ak ck av cv, a = some ⟨b, o, none⟩ ∧ w.cell? ⟨b, o, none⟩ = some (.slice ak k.length ck) ∧ w.cell? ⟨b, o + 1, none⟩ = some (.slice av v.length cv) ∧ Sl Bf w ak k.length ck k ∧ Sl Bf w av v.length cv v ∧
      (∀ b' o', ak = some ⟨b', o', none⟩ → lo ≤ b' ∧ b' < hi) ∧ ∀ b' o', av = some ⟨b', o', none⟩ → lo ≤ b' ∧ b' < hi := by
  obtain ⟨b, o, ⟨ak, nk, ck⟩, ⟨av, nv, cv⟩, ha, h0, h1, m0, m1⟩ := h.at 0 (k, v) rfl
  obtain rfl : nk = k.length := m0.1
  obtain rfl : nv = v.length := m1.1
  rw [Nat.zero_mul, Nat.add_zero] at h0 h1
  exact ⟨b, o, ak, ck, av, cv, ha, h0, h1, m0.sl, m1.sl, fun b' o' e => m0.blk b' (by rw [show (ak, k.length, ck).1 = ak from rfl, e]; rfl), fun b' o' e => m1.blk b' (by rw [show (av, v.length, cv).1 = av from rfl, e]; rfl)⟩
theorem SpE.same {w w' : World} {lo hi : Nat} {a : Option Addr} {n c : Nat} (h : SpE w lo hi a n c) (hs : ∀ j, lo ≤ j → j < hi → w'.heap[j]? = w.heap[j]?) : SpE w' lo hi a n c := by
  rcases h with h | ⟨gl, ys, e, hb, h1, h2, h3, h4, h5, hk⟩
  · exact .inl h
  · have kb : ∀ s : Sv, KbE w gl lo hi s → KbE w' gl lo hi s := fun s hs2 => by
      rcases hs2 with h | ⟨g, bs, k1, k2, k3, k4, k5, k6, k7⟩
      · exact .inl h
      · exact .inr ⟨g, bs, k1, (hs g k5 k6).trans k2, k3, k4, k5, k6, k7⟩
    exact .inr ⟨gl, ys, e, (hs gl h4 h5).trans hb, h1, h2, h3, h4, h5, fun x hx => ⟨kb _ (hk x hx).1, kb _ (hk x hx).2⟩⟩
end Go.Proofs.Ytljcogimeimknaa
