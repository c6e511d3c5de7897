/- A builder of blocks: Bytes, Len, Size, Last: contracts. Conditions: entries that may be, 64 at most. Written by a program of this place (gen_BlockBytes.py). -/
import Derived.Test.YteedjgjkldbbcaaBlockAdd
import Derived.Test.YteedjgjkldbbcaaVintBytes
import Derived.Deep.RegionHeld3
namespace Go.Proofs.Yteedjgjkldbbcaa
open Go.RowKit
set_option linter.unusedVariables false

theorem four_setB {w : World} {g : Nat} {t : TypeId} {v0 v1 v2 v3 s x y z : Value} (h : w.heap[g]? = some (.cells #[v0, v1, v2, v3] t (0, 0))) :
    (w.cell? ⟨g, 0, none⟩ = some v0 ∧ w.frozen? ⟨g, 0, none⟩ = false) ∧ ((w.setCell ⟨g, 0, none⟩ s).cell? ⟨g, 1, none⟩ = some v1 ∧ (w.setCell ⟨g, 0, none⟩ s).frozen? ⟨g, 1, none⟩ = false) ∧
    (((w.setCell ⟨g, 0, none⟩ s).setCell ⟨g, 1, none⟩ x).cell? ⟨g, 2, none⟩ = some v2 ∧ ((w.setCell ⟨g, 0, none⟩ s).setCell ⟨g, 1, none⟩ x).frozen? ⟨g, 2, none⟩ = false) ∧
    ((((w.setCell ⟨g, 0, none⟩ s).setCell ⟨g, 1, none⟩ x).setCell ⟨g, 2, none⟩ y).cell? ⟨g, 3, none⟩ = some v3 ∧ (((w.setCell ⟨g, 0, none⟩ s).setCell ⟨g, 1, none⟩ x).setCell ⟨g, 2, none⟩ y).frozen? ⟨g, 3, none⟩ = false) ∧
    ((((w.setCell ⟨g, 0, none⟩ s).setCell ⟨g, 1, none⟩ x).setCell ⟨g, 2, none⟩ y).setCell ⟨g, 3, none⟩ z).heap[g]? = some (.cells #[s, x, y, z] t (0, 0)) := by
  have h1 : (w.setCell ⟨g, 0, none⟩ s).heap[g]? = some (.cells #[s, v1, v2, v3] t (0, 0)) := set_block (i := 0) h s
  have h2 : ((w.setCell ⟨g, 0, none⟩ s).setCell ⟨g, 1, none⟩ x).heap[g]? = some (.cells #[s, x, v2, v3] t (0, 0)) := set_block (i := 1) h1 x
  have h3 : (((w.setCell ⟨g, 0, none⟩ s).setCell ⟨g, 1, none⟩ x).setCell ⟨g, 2, none⟩ y).heap[g]? = some (.cells #[s, x, y, v3] t (0, 0)) := set_block (i := 2) h2 y
  exact ⟨⟨cell_of h 0 rfl, free_block h 0⟩, ⟨cell_of h1 1 rfl, free_block h1 1⟩, ⟨cell_of h2 2 rfl, free_block h2 2⟩, ⟨cell_of h3 3 rfl, free_block h3 3⟩, set_block (i := 3) h3 z⟩
theorem Bl.fresh {w : World} {lo g : Nat} (h : w.heap[g]? = some (.cells #[.int .i64 0, .slice none 0 0, .slice none 0 0, .slice none 0 0] 75 (0, 0))) (hl : lo ≤ g) : Bl w lo g (fun _ => .slice none 0 0) [] :=
  ⟨h, fun k h1 h3 => .inl ⟨rfl, by rcases (by omega : k = 1 ∨ k = 2 ∨ k = 3) with e | e | e <;> subst e <;> rfl⟩, fun k _ _ j hj => (by cases hj), fun i k b _ _ _ _ _ hb => (by cases hb), hl⟩
theorem BlS_nil {g j : Nat} (h : BlS g (fun _ => .slice none 0 0) j) : j = g := by
  rcases h with h | ⟨k, _, _, hk⟩
  · exact h
  · cases hk
/-- behind Bytes -/
def BytesPost (w : World) (lo g : Nat) (v : Nat → Value) (l : List Ent) (r : Ending) (w' : World) : Prop :=
  ∃ x, r = .returned x ∧ OwT fB w' w.heap.size 5 x (bld l) ∧ (∃ v', Bl w' lo g v' [] ∧ ∀ j, BlS g v' j → BlS g v j) ∧ Turns (fun j => j = g) w w'
theorem BytesPost.mk {w w' : World} {lo g : Nat} {v v' : Nat → Value} {l : List Ent} {x : Value} (ho : OwT fB w' w.heap.size 5 x (bld l)) (hb : Bl w' lo g v' []) (hs : ∀ j, BlS g v' j → BlS g v j) (ht : Turns (fun j => j = g) w w') : BytesPost w lo g v l (.returned x) w' :=
  ⟨x, rfl, ho, ⟨v', hb, hs⟩, ht⟩
set_option maxRecDepth 100000 in
set_option maxHeartbeats 4000000 in
theorem bbytes_any (lo g : Nat) (v : Nat → Value) (l : List Ent) (w : World) (hl : l.length ≤ 64) (hok : Okay l) (hB : Bl w lo g v l) :
    Calls Try.prog 22 #[.pointer (some ⟨g, 0, none⟩)] w (BytesPost w lo g v l) := by
  obtain ⟨n, hn⟩ : ∃ n, l.length = n := ⟨_, rfl⟩
  have hB0 := hB
  unfold Bl at hB0
  rw [hn] at hB0 hl
  have BL := Lib.hid hB0
  by_cases h0 : l = []
  · subst h0
    obtain rfl : 0 = n := hn
    have c0 := hB0.c0
    clear hB0
    go_enter Try.func22, Try.ntmps22
    go_wp2_with fail
    go_ret
    exact BytesPost.mk (OwT.nil _ _ _ _) BL.out (fun j h => h) (Turns.refl _ _)
  · have n0 : 0 < n := by cases l with | nil => exact absurd rfl h0 | cons e r => simp at hn; omega
    have t1 : ((n : Int) == 0) = false := by rw [beq_eq_false_iff_ne]; omega
    have t1' : (n == 0) = false := by rw [beq_eq_false_iff_ne]; omega
    have r1 : IntKind.u64.wrap (n : Int) = n := u64_nat n (by omega)
    have BE := Lib.hid (bld_some h0)
    have HN := Lib.hid hn
    have hble := bst_le l hok
    rw [hn] at hble
    obtain ⟨a1, n1, k1, hv1, z1⟩ := (hB0.row 1 (by omega) (by omega)).slN
    obtain ⟨a2, n2, k2, hv2, z2⟩ := (hB0.row 2 (by omega) (by omega)).slN
    have l1 : (bst l).body.length = n1 := z1.len
    have l2 : (bst l).tab.length = n2 := z2.len
    have c0 := hB0.c0
    have c1 := hB0.c 1 (by omega) (by omega)
    have c2 := hB0.c 2 (by omega) (by omega)
    rw [hv1] at c1
    rw [hv2] at c2
    obtain ⟨BB, hBB⟩ : ∃ B, (bst l).body = B := ⟨_, rfl⟩
    obtain ⟨TT, hTT⟩ : ∃ B, (bst l).tab = B := ⟨_, rfl⟩
    rw [hBB] at l1
    rw [hTT] at l2
    have zb : Sl Bf w a1 n1 k1 BB := by rw [← hBB]; exact z1
    have zt : Sl Bf w a2 n2 k2 TT := by rw [← hTT]; exact z2
    have ZB := Lib.hid (Stab.sl zb)
    have ZT := Lib.hid (Stab.sl zt)
    obtain ⟨vn, hvn⟩ : ∃ x, vb n = x := ⟨_, rfl⟩
    have hvl : vn.length ≤ 10 := hvn ▸ vb_ten (by omega)
    have b1 : n1 ≤ 22400 := by rw [hBB, l1] at hble; omega
    have b2 : n2 ≤ 128 := by rw [hTT, l2] at hble; omega
    have fin : [vn, BB, TT].flatten = bld l := by rw [BE.out, hBB, hTT, hn, hvn]; simp
    have FIN := Lib.hid fin
    have FL := Lib.hid (show [vn, BB, TT].flatten.length ≤ 140737488355328 by simp; omega)
    have VB := Lib.hid (fun W : World => hvn ▸ vbytes_any n W (by omega))
    have lg := hB0.lt
    have LO := Lib.hid hB0.low
    clear hB0 hB hn hble hv1 hv2 z1 z2 l1 l2 hBB hTT zb zt hvn fin hok h0
    go_enter Try.func22, Try.ntmps22
    go_wp2_with fail
    go_region_held3 (fun w' => w'.cell? ⟨g, 0, none⟩ = some (.int .i64 (n : Nat)) ∧ w'.cell? ⟨g, 1, none⟩ = some (.slice a1 n1 k1) ∧ w'.cell? ⟨g, 2, none⟩ = some (.slice a2 n2 k2)) (first | go_keep | assumption) (first
      | ((go_at_call 49; refine (VB.out _).mono ?_; rintro e w1 ⟨x1, rfl, ho1, hb1⟩; obtain ⟨a3, n3, k3, rfl, z3⟩ := ho1.slN; obtain rfl : vn.length = n3 := z3.len; have Z3 := Lib.hid (Stab.sl z3); have H1 : Hid (Below w.heap.size w w1) := Lib.hid (((Below.refl _ _).drew).trans hb1); have d0 : w1.cell? ⟨g, 0, none⟩ = some (.int .i64 (n : Nat)) := (World.cell?_of_block (H1.out.block _ (cell_lt c0))).trans c0; have d1 : w1.cell? ⟨g, 1, none⟩ = some (.slice a1 n1 k1) := (World.cell?_of_block (H1.out.block _ (cell_lt c1))).trans c1; have d2 : w1.cell? ⟨g, 2, none⟩ = some (.slice a2 n2 k2) := (World.cell?_of_block (H1.out.block _ (cell_lt c2))).trans c2; have RR := Lib.hid (rows2_3 w1 _ _ _ _ _ _ _ _ _ _ _ _ Z3.out.now (ZB.out.keep H1.out).now (ZT.out.keep H1.out).now); clear ho1 hb1 z3))
      | ((go_at_call 48; refine (concat_any _ 3 3 [vn, BB, TT] _ (by omega) FL.out RR.out).mono ?_; rintro e w2 ⟨x2, rfl, ho2, hb2⟩; have O2 := Lib.hid ho2; have H2 : Hid (Below w.heap.size w w2) := Lib.hid ((H1.out.alloc H1.out.size _).trans (hb2.mono (Nat.le_trans H1.out.size (by simp)))); have e0 : w2.cell? ⟨g, 0, none⟩ = some (.int .i64 (n : Nat)) := (World.cell?_of_block (H2.out.block _ (cell_lt c0))).trans c0; have e1 : w2.cell? ⟨g, 1, none⟩ = some (.slice a1 n1 k1) := (World.cell?_of_block (H2.out.block _ (cell_lt c1))).trans c1; have e2 : w2.cell? ⟨g, 2, none⟩ = some (.slice a2 n2 k2) := (World.cell?_of_block (H2.out.block _ (cell_lt c2))).trans c2; have s1 := H1.out.size; have BR := Lib.hid (ho2.base (base' := w.heap.size) (Nat.le_trans s1 (by simp))); clear ho2 hb2)))
    all_goals
      have hbl := BL.out.keep H2.out
      obtain ⟨⟨g0, g0'⟩, ⟨g1, g1'⟩, ⟨g2, g2'⟩, ⟨g3, g3'⟩, hfin⟩ := four_setB (s := .int .i64 0) (x := .slice none 0 0) (y := .slice none 0 0) (z := .slice none 0 0) hbl.blk
      have NB := Lib.hid hfin
      have OFF := Lib.hid (show Off x2 g from fun j hj e => by have := (BR.out.lt j hj).1; omega)
      clear hbl hfin c0 c1 c2 d0 d1 d2 e0 e1 e2 O2
      go_wp2_with fail
      go_ret
      refine BytesPost.mk (v' := fun _ => .slice none 0 0) ?_ (Bl.fresh NB.out LO.out) (fun j h => .inl (BlS_nil h)) ((((((Turns.of_below H2.out).trans (Turns.set (S := fun j => j = g) _ rfl _) fun _ _ e => e).trans (Turns.set (S := fun j => j = g) _ rfl _) fun _ _ e => e).trans (Turns.set (S := fun j => j = g) _ rfl _) fun _ _ e => e).trans (Turns.set (S := fun j => j = g) _ rfl _) fun _ _ e => e))
      have := BR.out
      rw [FIN.out] at this
      exact this.of_block fun j hj => by rw [Below.heap_setCell _ _ _ _ (OFF.out j hj), Below.heap_setCell _ _ _ _ (OFF.out j hj), Below.heap_setCell _ _ _ _ (OFF.out j hj), Below.heap_setCell _ _ _ _ (OFF.out j hj)]
theorem blen_any (lo g : Nat) (v : Nat → Value) (l : List Ent) (w : World) (hB : Bl w lo g v l) :
    Calls Try.prog 24 #[.pointer (some ⟨g, 0, none⟩)] w fun e w' => e = .returned (.int .i64 (l.length : Nat)) ∧ w = w' := by
  have c0 := BlR.c0 hB
  clear hB
  go_enter Try.func24, Try.ntmps24
  go_wp2_with fail
  go_ret
  exact ⟨rfl, rfl⟩
/-- how many bytes the block would have -/
theorem bsize_any (lo g : Nat) (v : Nat → Value) (l : List Ent) (w : World) (hl : l.length ≤ 64) (hok : Okay l) (hB : Bl w lo g v l) :
    Calls Try.prog 25 #[.pointer (some ⟨g, 0, none⟩)] w fun e w' => e = .returned (.int .i64 ((bld l).length : Nat)) ∧ Drw w w' := by
  obtain ⟨n, hn⟩ : ∃ n, l.length = n := ⟨_, rfl⟩
  have hB0 := hB
  unfold Bl at hB0
  rw [hn] at hB0 hl
  by_cases h0 : l = []
  · subst h0
    obtain rfl : 0 = n := hn
    have c0 := hB0.c0
    clear hB0 hB
    go_enter Try.func25, Try.ntmps25
    go_wp2_with fail
    go_ret
    exact ⟨rfl, Drw.refl _⟩
  · have n0 : 0 < n := by cases l with | nil => exact absurd rfl h0 | cons e r => simp at hn; omega
    have t1 : ((n : Int) == 0) = false := by rw [beq_eq_false_iff_ne]; omega
    have t1' : (n == 0) = false := by rw [beq_eq_false_iff_ne]; omega
    have hble := bst_le l hok
    rw [hn] at hble
    obtain ⟨a1, n1, k1, hv1, z1⟩ := (hB0.row 1 (by omega) (by omega)).slN
    obtain ⟨a2, n2, k2, hv2, z2⟩ := (hB0.row 2 (by omega) (by omega)).slN
    have l1 : (bst l).body.length = n1 := z1.len
    have l2 : (bst l).tab.length = n2 := z2.len
    have c0 := hB0.c0
    have c1 := hB0.c 1 (by omega) (by omega)
    have c2 := hB0.c 2 (by omega) (by omega)
    rw [hv1] at c1
    rw [hv2] at c2
    have b1 : n1 ≤ 22400 := by rw [l1] at hble; omega
    have b2 : n2 ≤ 128 := by rw [l2] at hble; omega
    have fin : (bld l).length = 1 + n1 + n2 := by rw [bld_some h0, hn, vb_lt (show n < 128 by omega)]; simp only [List.length_append, List.length_cons, List.length_nil, l1, l2]
    have FIN := Lib.hid fin
    have e1 : IntKind.i64.wrap (1 + (n1 : Int)) = 1 + (n1 : Int) := IntWalk.i64_in _ (by omega)
    have e2 : IntKind.i64.wrap (1 + (n1 : Int) + n2) = 1 + (n1 : Int) + n2 := IntWalk.i64_in _ (by omega)
    clear hB0 hB hn hble hv1 hv2 z1 z2 l1 l2 h0 fin hok
    go_enter Try.func25, Try.ntmps25
    go_wp2_with fail
    go_quiet (fail)
    go_wp2_with fail
    go_ret
    exact ⟨ret_int (by rw [FIN.out]; push_cast; rfl), ⟨_, rfl⟩⟩
theorem blast_any (lo g : Nat) (v : Nat → Value) (l : List Ent) (w : World) (hok : Okay l) (hB : Bl w lo g v l) :
    Calls Try.prog 26 #[.pointer (some ⟨g, 0, none⟩)] w fun e w' => ∃ x, e = .returned x ∧ OwT fB w' w.heap.size 5 x (bst l).last ∧ Below w.heap.size w w' := by
  have hble := (bst_le l hok).2.2
  obtain ⟨a3, n3, k3, hv3, z3⟩ := (BlR.row hB 3 (by omega) (by omega)).slN
  have l3 : (bst l).last.length = n3 := z3.len
  have c3 := BlR.c hB 3 (by omega) (by omega)
  rw [hv3] at c3
  rw [l3] at hble
  have Z3 := Lib.hid (show Sl Bf w a3 n3 k3 (bst l).last from z3)
  clear hB hok hv3 z3 l3
  go_enter Try.func26, Try.ntmps26
  go_wp2_with fail
  refine (clone_any a3 n3 k3 _ _ (by omega) Z3.out).mono ?_
  rintro e w1 ⟨x, rfl, ho, hb⟩
  have O := Lib.hid ho
  have B := Lib.hid hb
  clear ho hb
  go_wp2_with fail
  go_ret
  exact ⟨x, rfl, O.out, B.out⟩
end Go.Proofs.Yteedjgjkldbbcaa
