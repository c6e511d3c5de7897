/- The document's reader of streams: what stands behind a block: plain. No condition. -/
import Derived.Test.YtljcogimeimknaaGreatK8v
namespace Go.Proofs.YtljcogimeimknaaGreat
open Go.RowKit Go.Shelf
set_option linter.unusedVariables false
set_option linter.unusedSimpArgs false

/-- a key's block is among the list's -/
theorem RdL.keyB {w : World} {lo b o n c i nk ck : Nat} {ak : Option Addr} {vs : List (Sv × Sv)} {es : List Ent} (h : RdL w lo (.slice (some ⟨b, o, none⟩) n c) vs es) (hi : i < es.length) (hc : w.cell? ⟨b, o + i * 2, none⟩ = some (.slice ak nk ck)) :
    ∀ j, Value.ownBlock (.slice ak nk ck) = some j → RLB (.slice (some ⟨b, o, none⟩) n c) vs j := fun j hj => by
  obtain ⟨a, c', hv, hs⟩ := h.own.t.sl fE_len
  have hin : i < vs.length := by rw [h.len]; exact hi
  obtain ⟨b', o', ha, hcell⟩ := hs.2.2.2 i _ (List.getElem?_eq_getElem hin)
  injection hv with e1 e2 e3
  rw [ha] at e1
  injection e1 with e1
  injection e1 with e4 e5
  subst e4 e5
  have h0 := hcell 0 _ rfl
  rw [Nat.add_zero, hc] at h0
  injection h0 with h0
  exact .inr ⟨i, _, List.getElem?_eq_getElem hin, .inl (by rw [← hj, h0])⟩
section
variable {w w5 w6 w7 : World} {bs : List UInt8} {lo gt g gi nR cR n6 c6 n7 c7 : Nat} {S5 : Nat → Prop} {lv y : Value} {aR a6 a7 : Option Addr} {vs : List RV} {s : RS} {k3 : CIn Src} {who who3 : Nat → Nat} {vl : List (Sv × Sv)} {l : List Ent} {xk : List UInt8} {P D N : Int} {o : Obj}
theorem rblk_fin (hbl : bs.length ≤ 140737488351232) (hR : Rrp w5 bs lo gt g gi true S5 lv (.slice aR nR cR) vs { s with c := k3 } who3) (hlo : lo ≤ w.heap.size) (hG : GrW w w5 who who3) (hL : RdL w5 w.heap.size y vl l) (hZ : ∀ j, RLB y vl j → who3 j = 0) (hz : Sl Bf w5 a6 n6 c6 xk)
    (hk : ∀ j, Value.ownBlock (.slice a6 n6 c6) = some j → RLB y vl j) (h7 : OwT fR w7 lo 94 (.slice a7 n7 c7) (vs ++ [((a6, n6, c6), (P, D, N))])) (h6 : Below w5.heap.size w5 w6)
    (hv : Value.ownBlock (.slice a7 n7 c7) = Value.ownBlock (.slice aR nR cR) ∨ Value.ownBlock (.slice a7 n7 c7) = some (w6.alloc o).heap.size)
    (ht : Turns (fun j => Value.ownBlock (.slice aR nR cR) = some j) w5 w7) :
    RRPost bs lo gt g gi lv who w ((l, true), ⟨k3, s.ph, s.rows ++ [(xk, (P, D, N))], s.er, s.pt⟩) (.returned (.tuple #[y, .bool true])) (w7.setCell ⟨g, 5, none⟩ (.slice a7 n7 c7)) := by
  have hrow : ∀ j, Value.ownBlock (.slice aR nR cR) = some j → j < w5.heap.size ∧ who3 j = 4 := fun j hj => ⟨(hR.rw.lt j hj).2, hR.rb j hj⟩
  have h6s := h6.size
  have hkb : ∀ b o', a6 = some ⟨b, o', none⟩ → w.heap.size ≤ b ∧ b < w5.heap.size ∧ who3 b = 0 := fun b o' e => by
    have h1 := hk b (by subst e; rfl)
    exact ⟨(hL.inB b h1).1, (hL.inB b h1).2, hZ b h1⟩
  have hz7 : Sl Bf w7 a6 n6 c6 xk := hz.turns ht fun b o' e _ hs => by
    have := (hkb b o' e).2.2
    have := (hrow b hs).2
    omega
  obtain ⟨who7, hR7, hG7, hC7⟩ := hR.setR hbl hG ht hz7 (x := .slice a7 n7 c7) (fun b o' e h0 => by
    obtain ⟨q1, q2, q3⟩ := hkb b o' e
    refine ⟨q1, Nat.le_trans hlo q1, q2, q3, fun h => ?_⟩
    rcases hv with e2 | e2
    · have := (hrow b (e2 ▸ h)).2; omega
    · rw [e2] at h; injection h with h; simp at h; omega) h7 (fun j hj => by
    rcases hv with e2 | e2
    · exact .inl (e2 ▸ hj)
    · rw [e2] at hj; injection hj with hj; exact .inr (by simp at hj; omega))
  have hL7 : RdL (w7.setCell ⟨g, 5, none⟩ (.slice a7 n7 c7)) w.heap.size y vl l := (hL.turns ht fun j hj e => by
    have := hZ j hj
    have := (hrow j e).2
    omega).turns (Turns.set (S := fun j => j = g) w7 (i := 5) rfl _) fun j hj e => by
      have e : j = g := e
      have h1 := hZ j hj
      rw [e, hR.gw] at h1
      cases h1
  exact ⟨y, vl, true, S5, _, _, who7, rfl, hL7, fun j hj => hC7 j (hL.inB j hj).2 (.inl (hZ j hj)), hR7, hG7⟩
end
end Go.Proofs.YtljcogimeimknaaGreat
