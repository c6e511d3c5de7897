/- A builder of blocks in memory. No condition. -/
import Derived.Test.YteedjgjkldbbcaaTurns
import Derived.Test.YteedjgjkldbbcaaBlockM
namespace Go.Proofs.Yteedjgjkldbbcaa
open Go.RowKit
set_option linter.unusedVariables false

/-- v at k, else as it was -/
def upd {α : Type} (v : Nat → α) (k : Nat) (x : α) : Nat → α := fun i => if i = k then x else v i
theorem upd_same {α : Type} (v : Nat → α) (k : Nat) (x : α) : upd v k x k = x := if_pos rfl
theorem upd_other {α : Type} (v : Nat → α) {k i : Nat} (x : α) (h : i ≠ k) : upd v k x i = v i := if_neg h
/-- a builder: its number, its three rows -/
structure BlR (w : World) (lo g n : Nat) (v : Nat → Value) (X : Nat → List UInt8) : Prop where
  blk : w.heap[g]? = some (.cells #[.int .i64 (n : Nat), v 1, v 2, v 3] 75 (0, 0))
  row : ∀ k, 1 ≤ k → k ≤ 3 → OwT fB w lo 5 (v k) (X k)
  off : ∀ k, 1 ≤ k → k ≤ 3 → Off (v k) g
  dis : ∀ i k b, 1 ≤ i → i ≤ 3 → 1 ≤ k → k ≤ 3 → i ≠ k → (v i).ownBlock = some b → (v k).ownBlock ≠ some b
  low : lo ≤ g
/-- the blocks of a builder -/
def BlS (g : Nat) (v : Nat → Value) (j : Nat) : Prop := j = g ∨ ∃ k, 1 ≤ k ∧ k ≤ 3 ∧ (v k).ownBlock = some j
section
variable {w w1 : World} {lo g n : Nat} {v : Nat → Value} {X : Nat → List UInt8}
theorem BlR.lt (h : BlR w lo g n v X) : g < w.heap.size := (Array.getElem?_eq_some_iff.1 h.blk).1
theorem BlR.inS (h : BlR w lo g n v X) : ∀ j, BlS g v j → lo ≤ j ∧ j < w.heap.size := fun j hj => by
  rcases hj with rfl | ⟨k, h1, h3, hk⟩
  · exact ⟨h.low, h.lt⟩
  · exact (h.row k h1 h3).lt j hk
theorem BlR.c0 (h : BlR w lo g n v X) : w.cell? ⟨g, 0, none⟩ = some (.int .i64 (n : Nat)) := cell_of h.blk 0 rfl
theorem BlR.c (h : BlR w lo g n v X) (k : Nat) (h1 : 1 ≤ k) (h3 : k ≤ 3) : w.cell? ⟨g, k, none⟩ = some (v k) := by
  rcases (by omega : k = 1 ∨ k = 2 ∨ k = 3) with e | e | e <;> subst e
  · exact cell_of h.blk 1 rfl
  · exact cell_of h.blk 2 rfl
  · exact cell_of h.blk 3 rfl
theorem BlR.free (h : BlR w lo g n v X) (k : Nat) : w.frozen? ⟨g, k, none⟩ = false := free_block h.blk k
theorem BlR.turns {S : Nat → Prop} (h : BlR w lo g n v X) (ht : Turns S w w1) (hs : ∀ j, BlS g v j → ¬ S j) : BlR w1 lo g n v X :=
  ⟨ht.heap h.blk (hs g (.inl rfl)), fun k h1 h3 => (h.row k h1 h3).turns ht fun j hj => hs j (.inr ⟨k, h1, h3, hj⟩), h.off, h.dis, h.low⟩
theorem BlR.keep (h : BlR w lo g n v X) (hb : Below w.heap.size w w1) : BlR w1 lo g n v X := h.turns (S := fun _ => False) (.of_below hb) fun _ _ e => e
theorem BlR.drewN (h : BlR w lo g n v X) (m : Nat) : BlR (w.drewN m) lo g n v X := h.keep (keep_drewN (Below.refl _ _) m)
/-- a row is laid anew -/
theorem BlR.put (h : BlR w lo g n v X) (k : Nat) (h1 : 1 ≤ k) (h3 : k ≤ 3) (x : Value) (xs : List UInt8) (ht : Turns (fun j => (v k).ownBlock = some j) w w1) (ho : OwT fB w1 lo 5 x xs)
    (hx : ∀ j, x.ownBlock = some j → (v k).ownBlock = some j ∨ w.heap.size ≤ j) : BlR (w1.setCell ⟨g, k, none⟩ x) lo g n (upd v k x) (upd X k xs) := by
  have hblk : w1.heap[g]? = some (.cells #[.int .i64 (n : Nat), v 1, v 2, v 3] 75 (0, 0)) := ht.heap h.blk fun e => h.off k h1 h3 g e rfl
  have hxg : Off x g := fun j hj e => by
    rcases hx j hj with h2 | h2
    · exact h.off k h1 h3 j h2 e
    · have := h.lt; omega
  have hxi : ∀ i b, 1 ≤ i → i ≤ 3 → i ≠ k → (v i).ownBlock = some b → x.ownBlock ≠ some b := fun i b i1 i3 ik hb hxb => by
    rcases hx b hxb with h2 | h2
    · exact h.dis i k b i1 i3 h1 h3 ik hb h2
    · have := ((h.row i i1 i3).lt b hb).2; omega
  refine ⟨?_, fun i i1 i3 => ?_, fun i i1 i3 => ?_, fun i j b i1 i3 j1 j3 ij hb => ?_, h.low⟩
  · have := set_block (i := k) hblk x
    rw [this]
    rcases (by omega : k = 1 ∨ k = 2 ∨ k = 3) with e | e | e <;> subst e <;> rfl
  · by_cases e : i = k
    · subst e
      rw [upd_same, upd_same]
      exact ho.of_block fun j hj => Below.heap_setCell _ _ _ _ (hxg j hj)
    · rw [upd_other _ _ e, upd_other _ _ e]
      exact ((h.row i i1 i3).turns ht fun j hj e2 => h.dis i k j i1 i3 h1 h3 e hj e2).of_block fun j hj => Below.heap_setCell _ _ _ _ (h.off i i1 i3 j hj)
  · by_cases e : i = k
    · subst e; rw [upd_same]; exact hxg
    · rw [upd_other _ _ e]; exact h.off i i1 i3
  · by_cases e : i = k
    · subst e
      rw [upd_same] at hb
      rw [upd_other _ _ (fun e => ij e.symm)]
      exact fun e2 => hxi j b j1 j3 (fun e => ij e.symm) e2 hb
    · rw [upd_other _ _ e] at hb
      by_cases e2 : j = k
      · subst e2; rw [upd_same]; exact hxi i b i1 i3 e hb
      · rw [upd_other _ _ e2]; exact h.dis i j b i1 i3 j1 j3 ij hb
theorem BlS_put {k : Nat} {x : Value} {m : Nat} (h1 : 1 ≤ k) (h3 : k ≤ 3) (hx : ∀ j, x.ownBlock = some j → (v k).ownBlock = some j ∨ m ≤ j) : ∀ j, BlS g (upd v k x) j → BlS g v j ∨ m ≤ j := fun j hj => by
  rcases hj with rfl | ⟨i, i1, i3, hi⟩
  · exact .inl (.inl rfl)
  · by_cases e : i = k
    · subst e
      rw [upd_same] at hi
      rcases hx j hi with h | h
      · exact .inl (.inr ⟨i, i1, i3, h⟩)
      · exact .inr h
    · rw [upd_other _ _ e] at hi
      exact .inl (.inr ⟨i, i1, i3, hi⟩)
/-- the number is laid anew -/
theorem BlR.num (h : BlR w lo g n v X) (m : Nat) : BlR (w.setCell ⟨g, 0, none⟩ (.int .i64 (m : Nat))) lo g m v X :=
  ⟨set_block (i := 0) h.blk _, fun k h1 h3 => (h.row k h1 h3).of_block fun j hj => Below.heap_setCell _ _ _ _ (h.off k h1 h3 j hj), h.off, h.dis, h.low⟩
end
/-- a row is laid anew by a store: the cell ahead of it, what stands behind it -/
theorem BlR.lay {w w1 : World} {lo g n : Nat} {v : Nat → Value} {X : Nat → List UInt8} (h : BlR w lo g n v X) (k : Nat) (h1 : 1 ≤ k) (h3 : k ≤ 3) {vk : Value} (hvk : v k = vk) (ht : Turns (fun j => vk.ownBlock = some j) w w1) {x : Value} {xs : List UInt8} (ho : OwT fB w1 lo 5 x xs)
    (hx : ∀ j, x.ownBlock = some j → vk.ownBlock = some j ∨ w.heap.size ≤ j) :
    w1.cell? ⟨g, k, none⟩ = some vk ∧ w1.frozen? ⟨g, k, none⟩ = false ∧ BlR (w1.setCell ⟨g, k, none⟩ x) lo g n (upd v k x) (upd X k xs) ∧ Turns (BlS g v) w w1 ∧ Turns (BlS g v) w (w1.setCell ⟨g, k, none⟩ x) ∧ ∀ j, BlS g (upd v k x) j → BlS g v j ∨ w.heap.size ≤ j := by
  subst hvk
  have hblk : w1.heap[g]? = some (.cells #[.int .i64 (n : Nat), v 1, v 2, v 3] 75 (0, 0)) := ht.heap h.blk fun e => h.off k h1 h3 g e rfl
  refine ⟨?_, free_block hblk k, h.put k h1 h3 x xs ht ho hx, ht.mono fun j _ hj => .inr ⟨k, h1, h3, hj⟩, ?_, BlS_put h1 h3 hx⟩
  · rcases (by omega : k = 1 ∨ k = 2 ∨ k = 3) with e | e | e <;> subst e
    · exact cell_of hblk 1 rfl
    · exact cell_of hblk 2 rfl
    · exact cell_of hblk 3 rfl
  · exact (ht.mono (T := BlS g v) fun j _ hj => .inr ⟨k, h1, h3, hj⟩).trans (Turns.set (S := BlS g v) w1 (.inl rfl) x) fun _ _ e => e
theorem BlR.app {w w0 w1 : World} {lo g n : Nat} {v : Nat → Value} {X : Nat → List UInt8} (h : BlR w lo g n v X) (k : Nat) (h1 : 1 ≤ k) (h3 : k ≤ 3) {vk : Value} (hvk : v k = vk) (hw : Below w.heap.size w w0) (hg : w0.grownBy w1 vk.ownBlock) {x : Value} {xs : List UInt8} (ho : OwT fB w1 lo 5 x xs)
    (hx : x.ownBlock = vk.ownBlock ∨ x.ownBlock = some w0.heap.size) :
    w1.cell? ⟨g, k, none⟩ = some vk ∧ w1.frozen? ⟨g, k, none⟩ = false ∧ BlR (w1.setCell ⟨g, k, none⟩ x) lo g n (upd v k x) (upd X k xs) ∧ Turns (BlS g v) w w1 ∧ Turns (BlS g v) w (w1.setCell ⟨g, k, none⟩ x) ∧ ∀ j, BlS g (upd v k x) j → BlS g v j ∨ w.heap.size ≤ j :=
  h.lay k h1 h3 hvk ((Turns.of_below hw).trans (.of_grown hg fun j e => e) fun _ _ e => e) ho fun j hj => by
    rcases hx with e | e
    · exact .inl (e.symm.trans hj)
    · rw [e] at hj; injection hj with hj; exact .inr (by have := hw.size; omega)
/-- what a builder's rows are, of entries -/
def rowsOf (l : List Ent) : Nat → List UInt8 := fun k => if k = 1 then (bst l).body else if k = 2 then (bst l).tab else (bst l).last
def Bl (w : World) (lo g : Nat) (v : Nat → Value) (l : List Ent) : Prop := BlR w lo g l.length v (rowsOf l)
theorem BlR.as {w : World} {lo g n m : Nat} {v : Nat → Value} {X Y : Nat → List UInt8} (h : BlR w lo g n v X) (hn : n = m) (hX : ∀ k, 1 ≤ k → k ≤ 3 → X k = Y k) : BlR w lo g m v Y :=
  ⟨hn ▸ h.blk, fun k h1 h3 => hX k h1 h3 ▸ h.row k h1 h3, h.off, h.dis, h.low⟩
end Go.Proofs.Yteedjgjkldbbcaa
