/- BlockReads: the walk. Condition: the bytes within reach. -/
import Derived.Test.YteedjgjkldbbcaaK6c
import Derived.Test.YteedjgjkldbbcaaBlockRRead
import Derived.Test.YteedjgjkldbbcaaK6e
namespace Go.Proofs.Yteedjgjkldbbcaa
open Go.RowKit
set_option linter.unusedVariables false

theorem spE_same {w w' : World} {lo hi : Nat} {a : Option Addr} {n c : Nat} (h : SpE w lo hi a n c) (hs : ∀ j, lo ≤ j → j < hi → w'.heap[j]? = w.heap[j]?) : SpE w' lo hi a n c := by
  rcases h with h | ⟨gl, ys, e, hb, h1, h2, h3, h4, h5, hk⟩
  · exact .inl h
  · have kb : ∀ s : Sv, KbE w gl lo hi s → KbE w' gl lo hi s := fun s hs2 => by
      rcases hs2 with h | ⟨g, bs, k1, k2, k3, k4, k5, k6, k7⟩
      · exact .inl h
      · exact .inr ⟨g, bs, k1, (hs g k5 k6).trans k2, k3, k4, k5, k6, k7⟩
    exact .inr ⟨gl, ys, e, (hs gl h4 h5).trans hb, h1, h2, h3, h4, h5, fun x hx => ⟨kb _ (hk x hx).1, kb _ (hk x hx).2⟩⟩
theorem bread_len (b : List UInt8) (hb : b.length < 18446744073709551616) : (bread b).1.length ≤ 64 := by
  obtain ⟨⟨l, q, e⟩, hr⟩ : ∃ X, bread b = X := ⟨_, rfl⟩
  by_cases he : e = 0
  · subst he
    have := (bread_back hb hr).1
    rw [hr]; show l.length ≤ 64; omega
  · have := (bread_zero (b := b)).2 (by rw [hr]; exact he)
    rw [this]; exact Nat.zero_le _
set_option maxHeartbeats 4000000 in
set_option maxRecDepth 100000 in
theorem blockReads_walk (a : Option Addr) (n c : Nat) (b : List UInt8) (w : World) (hn : n ≤ 140737488351232) (h : Sl Bf w a n c b) :
    Calls Try.prog 6 #[.slice a n c] w fun e w' => e = .returned (.bool true) ∧ Below w.heap.size w w' := by
  obtain rfl : b.length = n := h.len
  have H := Lib.hid h
  obtain ⟨⟨l, q, er⟩, hX⟩ : ∃ X, bread b = X := ⟨_, rfl⟩
  have hl64 : l.length ≤ 64 := by have := bread_len b (by omega); rw [hX] at this; exact this
  have HX := Lib.hid hX
  clear h hX
  go_enter Try.func6, Try.ntmps6
  go_wp2_with fail
  refine (lives_any _).mono ?_
  rintro e w1 ⟨rfl, hb⟩
  have G1 := Lib.hid hb
  clear hb
  go_wp2_with fail
  refine (lent_any a b.length c b w1 hn (H.out.keep G1.out)).mono ?_
  rintro e w2 ⟨g, rfl, hg, hL, hb⟩
  have G2 := Lib.hid (keep_trans G1.out hb)
  have LN := Lib.hid hL
  have hgs : g < w2.heap.size := hL.lt
  clear hb hL hg
  go_wp2_with fail
  refine (bread_any (some ⟨g, 0, none⟩) b.length (b.length + 2) b w2 (by omega) LN.out.sl).mono ?_
  rintro e w3 ⟨hb, y, vs, rfl, hR⟩
  rw [HX.out] at hR ⊢
  obtain ⟨ay, cy, rfl, -⟩ := hR.ents
  have R3 := Lib.hid hR
  have SP3 := Lib.hid (hR.spoil (Nat.le_refl _))
  have B3 := Lib.hid hb
  clear hR hb
  dsimp only
  go_wp2_with fail
  refine (bread_any (some ⟨g, 0, none⟩) b.length (b.length + 2) b w3 (by omega) (LN.out.keep B3.out).sl).mono ?_
  rintro e w4 ⟨hb, y, vs2, rfl, hR⟩
  rw [HX.out] at hR ⊢
  obtain ⟨ay2, cy2, rfl, -⟩ := hR.ents
  have R4 := Lib.hid hR
  have B4 := Lib.hid hb
  clear hR hb
  dsimp only
  go_wp2_with fail
  refine (rbread_any a b.length c b w4 hn (H.out.keep (keep_trans (keep_trans G2.out B3.out) B4.out))).mono ?_
  rintro e w5 ⟨hb, y, vs3, rfl, hR⟩
  rw [HX.out] at hR ⊢
  obtain ⟨ay3, cy3, rfl, -⟩ := hR.ents
  have R5 := Lib.hid hR
  have B5 := Lib.hid hb
  clear hR hb
  dsimp only
  have E35 := Lib.hid (R3.out.keep (keep_trans B4.out B5.out))
  have hs := sameAll_any ay l.length cy ay3 l.length cy3 l l w5 (by omega) (by omega) (by obtain ⟨_, _, e, hE⟩ := E35.out.ents; cases e; exact hE) (by obtain ⟨_, _, e, hE⟩ := R5.out.ents; cases e; exact hE)
  rw [decide_eq_true rfl] at hs
  have HS := Lib.hid hs
  clear hs
  go_wp2_with fail
  refine HS.out.mono ?_
  rintro e w6 ⟨rfl, hb⟩
  have B6 := Lib.hid hb
  clear hb HS
  have SP6 := Lib.hid (spE_same SP3.out fun j _ hj => (keep_trans (keep_trans B4.out B5.out) B6.out).block j hj)
  go_wp2_with fail
  refine (espoil_any ay l.length cy w2.heap.size w3.heap.size w6 SP6.out).mono ?_
  rintro e w7 ⟨rfl, hT⟩
  have T7 := Lib.hid hT
  have B56 := Lib.hid (keep_trans B5.out B6.out)
  have R7 := Lib.hid ((R4.out.keep B56.out).turns hT fun j hj e => by have := (R4.out.inB j hj).1; omega)
  have W7 := Lib.hid ((R5.out.keep B6.out).turns hT fun j hj e => by have := (R5.out.inB j hj).1; have := B4.out.size; omega)
  have G6 := Lib.hid (keep_trans (keep_trans (keep_trans G2.out B3.out) B4.out) B56.out)
  have LN7 := Lib.hid (show Lent w7 g b from hT.heap (((LN.out.keep B3.out).keep B4.out).keep B56.out) (by omega))
  have G7 := Lib.hid (hT.below (b := w.heap.size) G6.out G6.out.size fun j hj => by have := G2.out.size; omega)
  have hs := sameAll_any ay2 l.length cy2 ay3 l.length cy3 l l w7 (by omega) (by omega) (by obtain ⟨_, _, e, hE⟩ := R7.out.ents; cases e; exact hE) (by obtain ⟨_, _, e, hE⟩ := W7.out.ents; cases e; exact hE)
  rw [decide_eq_true rfl] at hs
  have HS := Lib.hid hs
  clear hs hT R3 R4 R5 E35 SP3 SP6 B3 B4 B5 B6 B56 G6 T7 G1 G2 LN
  go_wp2_with fail
  refine HS.out.mono ?_
  rintro e w8 ⟨rfl, hb⟩
  have G8 := Lib.hid (keep_trans G7.out hb)
  have LN8 := Lib.hid (LN7.out.keep hb)
  clear hb HS
  go_wp2_with fail
  refine (kept_any g b.length a c b w8 hn LN8.out (H.out.keep G8.out)).mono ?_
  rintro e w9 ⟨rfl, hb⟩
  have G9 := Lib.hid (keep_trans G8.out hb)
  clear hb
  go_wp2_with fail
  go_ret
  exact ⟨rfl, G9.out⟩
end Go.Proofs.Yteedjgjkldbbcaa
