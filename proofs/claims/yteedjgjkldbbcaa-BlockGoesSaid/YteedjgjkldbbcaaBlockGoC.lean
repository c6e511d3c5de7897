/- All's two closures: the beginning and a step, tried: contracts. Conditions: numbers within reach. -/
import Derived.Test.YteedjgjkldbbcaaBlockRead
import Derived.Test.YteedjgjkldbbcaaBlockEntries
import Derived.Test.YteedjgjkldbbcaaRange
namespace Go.Proofs.Yteedjgjkldbbcaa
open Go.RowKit
set_option linter.unusedVariables false
set_option linter.unusedSimpArgs false

theorem blk_keep {w w' : World} {g : Nat} {o : Obj} (h : w.heap[g]? = some o) (hb : Below w.heap.size w w') : w'.heap[g]? = some o := (hb.block g (Array.getElem?_eq_some_iff.1 h).1).trans h

set_option maxRecDepth 100000 in
set_option maxHeartbeats 2000000 in
theorem gobeg_any (gb gr : Nat) (ab : Option Addr) (nb cb : Nat) (b : List UInt8) (w : World) (hb : nb ≤ 140737499999999) (hB : Sl Bf w ab nb cb b) (hbox : w.heap[gb]? = some (.cells #[.slice ab nb cb] 25 (0, 0)))
    (hgr : w.heap[gr]? = some (.cells #[.pointer none] 84 (0, 0))) (hne : gb ≠ gr) :
    Calls Try.prog 54 #[.pointer (some ⟨gb, 0, none⟩), .pointer (some ⟨gr, 0, none⟩)] w fun r w' => ∃ e q : Int, ((e = 0 ∧ q = 0 ∧ r = .returned (.tuple #[])) ∨ r = wrongBy e q) ∧ Turns (fun j => j = gr) w w' ∧ (e ≠ 0 → (bentries b).1 = []) ∧
      (e = 0 → ∃ n qq g, rd b 0 0 = (n, qq, 0) ∧ ¬ (n < 1 ∨ 64 < n) ∧ w'.heap[gr]? = some (.cells #[.pointer (some ⟨g, 0, none⟩)] 84 (0, 0)) ∧ Rdr w' w.heap.size g ab nb cb n 0 qq (.slice none 0 0) (.slice none 0 0) [] []) := by
  obtain rfl : b.length = nb := hB.len
  have HBG := Lib.hid (bbegin_any ab b.length cb b w hb hB)
  have x0 := cell_of hbox 0 rfl
  have GR := Lib.hid hgr
  clear hB hbox hgr
  go_enter Try.func54, Try.ntmps54
  go_wp2_with fail
  refine HBG.out.mono ?_
  rintro r w1 ⟨n, q, er, hrd, hb1, h1, h2, h3⟩
  by_cases hz : er = 0
  · subst hz
    by_cases hn : n < 1 ∨ 64 < n
    · obtain rfl := h2 rfl hn
      have hbr := bentries_bad hrd hn
      unfold wrongBy
      go_wp2_with fail
      exact ⟨rfl, 61, 0, .inr rfl, .of_below hb1, fun _ => by rw [hbr], fun e => (by cases e)⟩
    · obtain ⟨g, rfl, hR⟩ := h3 rfl hn
      have GR1 := Lib.hid (blk_keep GR.out hb1)
      have c0 := cell_of GR1.out 0 rfl
      have f0 := free_block GR1.out 0
      have FIN := Lib.hid (show Turns (fun j => j = gr) w (w1.setCell ⟨gr, 0, none⟩ (.pointer (some ⟨g, 0, none⟩))) ∧ (∃ n qq g', rd b 0 0 = (n, qq, 0) ∧ ¬ (n < 1 ∨ 64 < n) ∧ (w1.setCell ⟨gr, 0, none⟩ (.pointer (some ⟨g, 0, none⟩))).heap[gr]? = some (.cells #[.pointer (some ⟨g', 0, none⟩)] 84 (0, 0)) ∧ Rdr (w1.setCell ⟨gr, 0, none⟩ (.pointer (some ⟨g, 0, none⟩))) w.heap.size g' ab b.length cb n 0 qq (.slice none 0 0) (.slice none 0 0) [] []) from
        ⟨(Turns.of_below (S := fun j => j = gr) hb1).trans (Turns.set (S := fun j => j = gr) w1 (b := gr) (i := 0) rfl _) fun _ _ e => e, n, q, g, hrd, hn, set_block (i := 0) GR1.out _, hR.turns (Turns.set (S := fun j => j = gr) w1 (b := gr) (i := 0) rfl _) fun j hj e => by
          have := (hR.inS j hj).1
          have := (Array.getElem?_eq_some_iff.1 GR.out).1
          omega⟩)
      clear hR h1 h2 h3 hb1 hrd hn
      go_wp2_with fail
      go_end0
      exact ⟨0, 0, .inl ⟨rfl, rfl, rfl⟩, FIN.out.1, fun e => absurd rfl e, fun _ => FIN.out.2⟩
  · obtain rfl := h1 hz
    have hbr := bentries_no hrd hz
    unfold wrongBy
    go_wp2_with fail
    exact ⟨rfl, er, q, .inr rfl, .of_below hb1, fun _ => by rw [hbr], fun e => absurd e hz⟩
/-- behind a step, tried -/
def GoNext (w : World) (lo g gx : Nat) (ab : Option Addr) (nb cb n k m : Nat) (vl vr : Value) (last : List UInt8) (runs : List Nat) (b : List UInt8) (e : Int) (w' : World) : Prop :=
  Turns (fun j => RdS g vl vr j ∨ j = gx) w w' ∧ ∃ (x : Ent) (qq : Nat) (er : Int), erd (if k % 8 = 0 then [] else last) b m = (x, qq, er) ∧ (e ≠ 0 → er ≠ 0 ∨ (er = 0 ∧ k % 8 = 0 ∧ 0 < last.length ∧ 0 ≤ cmp last x.1)) ∧
    (e = 0 → er = 0 ∧ ¬ (k % 8 = 0 ∧ 0 < last.length ∧ 0 ≤ cmp last x.1) ∧ ∃ vk vv vl' vr' mid, w'.heap[gx]? = some (.cells #[vk, vv] 41 (0, 0)) ∧ OwT fB w' w.heap.size 5 vk x.1 ∧ OwT fB w' mid 5 vv x.2 ∧ (∀ j, vk.ownBlock = some j → j < mid) ∧ w.heap.size ≤ mid ∧
      Rdr w' lo g ab nb cb n (k + 1) qq vl' vr' x.1 (runs ++ if k % 8 = 0 then [m] else []) ∧ (∀ j, RdS g vl' vr' j → RdS g vl vr j ∨ w.heap.size ≤ j) ∧ ∀ j, RdS g vl' vr' j → vk.ownBlock ≠ some j ∧ vv.ownBlock ≠ some j)
set_option maxRecDepth 100000 in
set_option maxHeartbeats 2000000 in
theorem gonext_any (gr gx lo g : Nat) (ab : Option Addr) (nb cb n k m : Nat) (vl vr x0 x1 : Value) (last : List UInt8) (runs : List Nat) (b : List UInt8) (w : World) (hb : nb ≤ 140737499999999) (hd : k ≤ 1000) (ha : m ≤ 4611686018427387903) (hl : last.length ≤ 64) (hr : runs.length ≤ 1000)
    (hR : Rdr w lo g ab nb cb n k m vl vr last runs) (hB : Sl Bf w ab nb cb b) (hlo : ∀ b o, ab = some ⟨b, o, none⟩ → 0 < nb → b < lo) (hgr : w.heap[gr]? = some (.cells #[.pointer (some ⟨g, 0, none⟩)] 84 (0, 0))) (hgx : w.heap[gx]? = some (.cells #[x0, x1] 41 (0, 0))) (hnx : ¬ RdS g vl vr gx) :
    Calls Try.prog 56 #[.pointer (some ⟨gr, 0, none⟩), .pointer (some ⟨gx, 0, none⟩)] w fun r w' => ∃ e q : Int, ((e = 0 ∧ q = 0 ∧ r = .returned (.tuple #[])) ∨ r = wrongBy e q) ∧ GoNext w lo g gx ab nb cb n k m vl vr last runs b e w' := by
  have NX := Lib.hid (bnext_any lo g ab nb cb n k m vl vr last runs b w hb hd ha hl hr hR hB hlo)
  have r0 := cell_of hgr 0 rfl
  have GX := Lib.hid hgx
  have HNX := Lib.hid hnx
  clear hgr hgx hnx hR hB hlo
  go_enter Try.func56, Try.ntmps56
  go_wp2_with fail
  refine NX.out.mono ?_
  rintro r w1 ⟨x, q, er, hx, ht, p1, p2, p3⟩
  by_cases hz : er = 0
  · subst hz
    by_cases hlow : k % 8 = 0 ∧ 0 < last.length ∧ 0 ≤ cmp last x.1
    · obtain rfl := p2 rfl hlow
      unfold wrongBy
      go_wp2_with fail
      exact ⟨rfl, 51, m, .inr rfl, ht.mono fun _ _ e => .inl e, x, q, 0, hx, fun _ => .inr ⟨rfl, hlow⟩, fun e => (by cases e)⟩
    · obtain ⟨vk, vv, vl', vr', mid, rfl, o1, o2, o3, o4, hR2, hS2, hD2⟩ := p3 rfl hlow
      obtain ⟨ak, nk, ck, rfl, -⟩ := o1.slN
      obtain ⟨av, nv, cv, rfl, -⟩ := o2.slN
      have GX1 := ht.heap GX.out HNX.out
      have c0 := cell_of GX1 0 rfl
      have f0 := free_block GX1 0
      have G2 := set_block (i := 0) GX1 (.slice ak nk ck)
      have c1 : (w1.setCell ⟨gx, 0, none⟩ (.slice ak nk ck)).cell? ⟨gx, 1, none⟩ = some x1 := cell_of G2 1 rfl
      have f1 : (w1.setCell ⟨gx, 0, none⟩ (.slice ak nk ck)).frozen? ⟨gx, 1, none⟩ = false := free_block G2 1
      have G3 := set_block (i := 1) G2 (.slice av nv cv)
      have hgxl := (Array.getElem?_eq_some_iff.1 GX.out).1
      have TX : Turns (fun j => j = gx) w1 ((w1.setCell ⟨gx, 0, none⟩ (.slice ak nk ck)).setCell ⟨gx, 1, none⟩ (.slice av nv cv)) := (Turns.set (S := fun j => j = gx) w1 (b := gx) (i := 0) rfl _).trans (Turns.set (S := fun j => j = gx) _ (b := gx) (i := 1) rfl _) fun _ _ e => e
      have FIN := Lib.hid (show GoNext w lo g gx ab nb cb n k m vl vr last runs b 0 ((w1.setCell ⟨gx, 0, none⟩ (.slice ak nk ck)).setCell ⟨gx, 1, none⟩ (.slice av nv cv)) from
        ⟨(ht.mono (T := fun j => RdS g vl vr j ∨ j = gx) fun _ _ e => .inl e).trans TX fun _ _ e => .inr e, x, q, 0, hx, fun e => absurd rfl e, fun _ => ⟨rfl, hlow, _, _, vl', vr', mid, G3, o1.turns TX fun j hj e => by have := (o1.lt j hj).1; omega, o2.turns TX fun j hj e => by have := (o2.lt j hj).1; omega, o3, o4,
          hR2.turns TX fun j hj e => by
            subst e
            rcases hS2 _ hj with h | h
            · exact HNX.out h
            · omega, hS2, hD2⟩⟩)
      clear hR2 hS2 hD2 o1 o2 o3 o4 ht hx p1 p2 p3 G2 G3 GX1 TX hlow
      go_wp2_with fail
      go_end0
      exact ⟨0, 0, .inl ⟨rfl, rfl, rfl⟩, FIN.out⟩
  · obtain rfl := p1 hz
    unfold wrongBy
    go_wp2_with fail
    exact ⟨rfl, er, q, .inr rfl, ht.mono fun _ _ e => .inl e, x, q, er, hx, fun _ => .inl hz, fun e => absurd e hz⟩
end Go.Proofs.Yteedjgjkldbbcaa
