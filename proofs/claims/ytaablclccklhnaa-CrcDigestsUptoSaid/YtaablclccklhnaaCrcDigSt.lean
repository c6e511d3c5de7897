/- What stands in memory while CrcDigests goes: two digests, the row of their places, the array of two texts. No condition. -/
import Derived.Test.YtaablclccklhnaaCrcSeals
import Derived.Test.YtaablclccklhnaaCrcReset
namespace Go.Proofs.Ytaablclccklhnaa
open Go.RowKit

/-- two values side by side in a block -/
def Two2 (w : World) (g : Nat) (t : TypeId) (v : Nat → Value) : Prop := w.heap[g]? = some (.cells #[v 0, v 1] t (0, 0))
theorem Two2.lt {w : World} {g : Nat} {t : TypeId} {v : Nat → Value} (h : Two2 w g t v) : g < w.heap.size := (Array.getElem?_eq_some_iff.1 h).1
theorem Two2.keep {w w' : World} {g : Nat} {t : TypeId} {v : Nat → Value} (h : Two2 w g t v) (hb : Below w.heap.size w w') : Two2 w' g t v := (hb.block g h.lt).trans h
theorem Two2.cell {w : World} {g : Nat} {t : TypeId} {v : Nat → Value} (h : Two2 w g t v) (k : Nat) (hk : k < 2) : w.cell? ⟨g, k, none⟩ = some (v k) := by
  unfold Two2 at h
  rcases (by omega : k = 0 ∨ k = 1) with e | e <;> subst e <;> simp [World.cell?, h]
theorem Two2.free {w : World} {g : Nat} {t : TypeId} {v : Nat → Value} (h : Two2 w g t v) (i : Nat) : w.frozen? ⟨g, i, none⟩ = false := by
  unfold Two2 at h; simp [World.frozen?, h]
theorem Two2.set {w : World} {g : Nat} {t : TypeId} {v : Nat → Value} (h : Two2 w g t v) (k : Nat) (hk : k < 2) (x : Value) : Two2 (w.setCell ⟨g, k, none⟩ x) g t (fun i => if i = k then x else v i) := by
  unfold Two2 at h ⊢
  simp only [World.setCell, Array.getElem?_modify, if_true]
  rw [h]
  rcases (by omega : k = 0 ∨ k = 1) with e | e <;> subst e <;> rfl

/-- digests that hold zs, texts that read as ys -/
structure St (w : World) (G : Nat → Nat) (gx : Nat) (zs ys : Nat → List UInt8) (v : Nat → Value) : Prop where
  dig : ∀ k, k < 2 → Dig w (G k) (sum (zs k)) ((zs k).length : Nat)
  ptr : Two2 w gx 32 (fun k => .pointer (some ⟨G k, 0, none⟩))
  arr : Two2 w (gx + 1) 35 v
  row : ∀ k, k < 2 → OwT fB w (gx + 2) 5 (v k) (ys k)
  two : ∀ j, (v 0).ownBlock = some j → (v 1).ownBlock ≠ some j
  gs : ∀ k, k < 2 → G k < gx
  ne : G 0 ≠ G 1
theorem St.same {w w' : World} {G : Nat → Nat} {gx : Nat} {zs ys : Nat → List UInt8} {v : Nat → Value} (h : St w G gx zs ys v) (hs : ∀ b, b < w.heap.size → w'.heap[b]? = w.heap[b]?) : St w' G gx zs ys v :=
  ⟨fun k hk => (hs _ (h.dig k hk).lt).trans (h.dig k hk), (hs _ h.ptr.lt).trans h.ptr, (hs _ h.arr.lt).trans h.arr, fun k hk => (h.row k hk).of_block fun j hj => hs j ((h.row k hk).lt j hj).2, h.two, h.gs, h.ne⟩
theorem St.keep {w w' : World} {G : Nat → Nat} {gx : Nat} {zs ys : Nat → List UInt8} {v : Nat → Value} (h : St w G gx zs ys v) (hb : Below w.heap.size w w') : St w' G gx zs ys v := h.same fun b hb2 => hb.block b hb2
/-- behind what a digest took or gave up -/
theorem St.turn {w w' : World} {G : Nat → Nat} {gx : Nat} {zs ys : Nat → List UInt8} {v : Nat → Value} (h : St w G gx zs ys v) (k : Nat) (hk : k < 2) (xs : List UInt8) (hg : w.grownBy w' (some (G k))) (hd : Dig w' (G k) (sum xs) (xs.length : Nat)) :
    St w' G gx (fun i => if i = k then xs else zs i) ys v := by
  have gk := h.gs k hk
  refine ⟨fun j hj => ?_, (hg.block _ h.ptr.lt (by intro e; injection e; omega)).trans h.ptr, (hg.block _ h.arr.lt (by intro e; injection e; omega)).trans h.arr,
    fun j hj => (h.row j hj).of_block fun b hb => hg.block b ((h.row j hj).lt b hb).2 (by have := ((h.row j hj).lt b hb).1; intro e; injection e; omega), h.two, h.gs, h.ne⟩
  by_cases e : j = k
  · subst e; rw [if_pos rfl]; exact hd
  · rw [if_neg e]
    have hne : G j ≠ G k := by
      have := h.ne
      rcases (by omega : j = 0 ∨ j = 1) with e1 | e1 <;> rcases (by omega : k = 0 ∨ k = 1) with e2 | e2 <;> subst e1 <;> subst e2
      · exact absurd rfl e
      · exact this
      · exact fun e3 => this e3.symm
      · exact absurd rfl e
    exact (hg.block _ (h.dig j hj).lt (by intro e3; injection e3 with e4; exact hne e4)).trans (h.dig j hj)
/-- behind a text that was laid anew in the array -/
theorem St.text {w w1 : World} {G : Nat → Nat} {gx : Nat} {zs ys : Nat → List UInt8} {v : Nat → Value} (h : St w G gx zs ys v) (k : Nat) (hk : k < 2) (xs : List UInt8) (x : Value) (hg : w.grownBy w1 (v k).ownBlock)
    (ho : OwT fB w1 (gx + 2) 5 x xs) (hx : x.ownBlock = none ∨ x.ownBlock = (v k).ownBlock ∨ x.ownBlock = some w.heap.size) :
    St (w1.setCell ⟨gx + 1, k, none⟩ x) G gx zs (fun i => if i = k then xs else ys i) (fun i => if i = k then x else v i) := by
  have hob : ∀ j, (v k).ownBlock = some j → gx + 2 ≤ j := fun j hj => ((h.row k hk).lt j hj).1
  have hlow : ∀ b, b < gx + 2 → w1.heap[b]? = w.heap[b]? := fun b hb => hg.block b (by have := h.arr.lt; omega) (by intro e; have := hob b e.symm; omega)
  have harr : Two2 w1 (gx + 1) 35 v := (hlow _ (by omega)).trans h.arr
  have hset : ∀ b, b ≠ gx + 1 → (w1.setCell ⟨gx + 1, k, none⟩ x).heap[b]? = w1.heap[b]? := fun b hb => Below.heap_setCell _ _ _ _ hb
  refine ⟨fun j hj => ?_, ?_, harr.set k hk x, fun j hj => ?_, ?_, h.gs, h.ne⟩
  · have := h.gs j hj
    exact ((hset _ (by omega)).trans (hlow _ (by omega))).trans (h.dig j hj)
  · exact ((hset _ (by omega)).trans (hlow _ (by omega))).trans h.ptr
  · by_cases e : j = k
    · subst e; rw [if_pos rfl, if_pos rfl]
      exact ho.of_block fun b hb => hset b (by have := (ho.lt b hb).1; omega)
    · rw [if_neg e, if_neg e]
      refine (h.row j hj).of_block fun b hb => ?_
      have hlt := (h.row j hj).lt b hb
      refine (hset b (by omega)).trans (hg.block b hlt.2 fun e2 => ?_)
      rcases (by omega : j = 0 ∨ j = 1) with e1 | e1 <;> rcases (by omega : k = 0 ∨ k = 1) with e3 | e3 <;> subst e1 <;> subst e3
      · exact e rfl
      · exact h.two b hb e2.symm
      · exact h.two b e2.symm hb
      · exact e rfl
  · intro b h0 h1
    have hv : ∀ j, j < 2 → j ≠ k → (v j).ownBlock = some b → x.ownBlock = some b → False := by
      intro j hj e hvb hxb
      have hlt := (h.row j hj).lt b hvb
      rcases hx with h2 | h2 | h2
      · rw [h2] at hxb; cases hxb
      · rw [h2] at hxb
        rcases (by omega : j = 0 ∨ j = 1) with e1 | e1 <;> rcases (by omega : k = 0 ∨ k = 1) with e3 | e3 <;> subst e1 <;> subst e3
        · exact e rfl
        · exact h.two b hvb hxb
        · exact h.two b hxb hvb
        · exact e rfl
      · rw [h2] at hxb; injection hxb with e4; omega
    rcases (by omega : k = 0 ∨ k = 1) with e3 | e3 <;> subst e3
    · rw [if_pos rfl] at h0; rw [if_neg (by omega)] at h1; exact hv 1 (by omega) (by omega) h1 h0
    · rw [if_neg (by omega)] at h0; rw [if_pos rfl] at h1; exact hv 0 (by omega) (by omega) h0 h1
/-- behind a call that wrote over another row -/
theorem St.away {w w' : World} {G : Nat → Nat} {gx j : Nat} {zs ys : Nat → List UInt8} {v : Nat → Value} (h : St w G gx zs ys v) (hg : w.grownBy w' (some j)) (h1 : gx + 1 < j) (h2 : ∀ k, k < 2 → (v k).ownBlock ≠ some j) : St w' G gx zs ys v := by
  have low : ∀ b, b ≤ gx + 1 → w'.heap[b]? = w.heap[b]? := fun b hb => hg.block b (by have := h.arr.lt; omega) (by intro e; injection e; omega)
  refine ⟨fun k hk => ?_, (low _ (by omega)).trans h.ptr, (low _ (by omega)).trans h.arr, fun k hk => (h.row k hk).of_block fun b hb => hg.block b ((h.row k hk).lt b hb).2 (by intro e; injection e with e; subst e; exact h2 k hk hb), h.two, h.gs, h.ne⟩
  have := h.gs k hk
  exact (low _ (by omega)).trans (h.dig k hk)
theorem Lent.soft {w : World} {g : Nat} {xs : List UInt8} (h : Lent w g xs) : Soft w (some ⟨g, 0, none⟩) (xs.length + 2) := by
  unfold Lent at h
  intro i hi
  obtain ⟨x, hx⟩ : ∃ x, (xs ++ [77, 78])[i]? = some x := ⟨_, List.getElem?_eq_getElem (by rw [List.length_append]; simpa using hi)⟩
  refine ⟨x, g, 0, rfl, ?_, ?_⟩
  · simp only [World.cell?, h, Nat.zero_add]
    simp only [List.getElem?_toArray, List.getElem?_map, hx]
    simp
  · simp [World.frozen?, h]
end Go.Proofs.Ytaablclccklhnaa
