/- What holds now and behind whatever keeps what was there: many facts on memory kept by one line a call. No condition. -/
import Derived.Test.YtpenbaafhbbmhaaRow
namespace Go.Proofs.Ytpenbaafhbbmhaa
open Go.RowKit

/-- p holds, and behind whatever keeps all that is there -/
def Stab (w : World) (p : World → Prop) : Prop := ∀ w', Below w.heap.size w w' → p w'
theorem Stab.now {w : World} {p : World → Prop} (h : Stab w p) : p w := h w (Below.refl _ _)
theorem Stab.keep {w w1 : World} {p : World → Prop} (h : Stab w p) (hb : Below w.heap.size w w1) : Stab w1 p := fun w' h' => h w' (keep_trans hb h')
theorem Stab.and {w : World} {p q : World → Prop} (h : Stab w p) (k : Stab w q) : Stab w (fun W => p W ∧ q W) := fun w' h' => ⟨h w' h', k w' h'⟩
theorem Stab.imp {w : World} {p q : World → Prop} (h : Stab w p) (k : ∀ W, p W → q W) : Stab w q := fun w' h' => k _ (h w' h')
theorem Stab.below {w0 w : World} (h : Below w0.heap.size w0 w) : Stab w (Below w0.heap.size w0) := fun _ h' => keep_trans h h'
theorem Stab.sl {α : Type} {f : α → Value} {w : World} {a : Option Addr} {n c : Nat} {xs : List α} (h : Sl f w a n c xs) : Stab w (fun W => Sl f W a n c xs) := fun _ h' => h.keep h'
theorem Stab.row {α : Type} {f : α → List Value} {w : World} {base : Nat} {e : TypeId} {v : Value} {xs : List α} (h : OwT f w base e v xs) : Stab w (fun W => OwT f W base e v xs) := fun _ h' => h.keep h'
theorem Stab.block {w : World} {b : Nat} {o : Obj} (h : w.heap[b]? = some o) : Stab w (fun W => W.heap[b]? = some o) := fun _ h' => (h'.block b (Array.getElem?_eq_some_iff.1 h).1).trans h
theorem Stab.alloc {w : World} {p : World → Prop} (h : Stab w p) (o : Obj) : Stab (w.alloc o) p := h.keep ((Below.refl _ _).alloc (Nat.le_refl _) o)
theorem Stab.new (w : World) (o : Obj) : Stab (w.alloc o) (fun W => W.heap[w.heap.size]? = some o) := .block (heap_new w o)
theorem Stab.drewN {w : World} {p : World → Prop} (h : Stab w p) (n : Nat) : Stab (w.drewN n) p := h.keep (keep_drewN (Below.refl _ _) n)
theorem Drw.of {w w' : World} (h : w' = w) : Drw w w' := by subst h; exact Drw.refl _
theorem Stab.cell {w : World} {b o : Nat} {v : Value} (h : w.cell? ⟨b, o, none⟩ = some v) : Stab w (fun W => W.cell? ⟨b, o, none⟩ = some v) := fun _ h' => (World.cell?_of_block (h'.block _ (cell_lt h))).trans h
theorem Stab.size {w : World} {p : World → Prop} {b : Nat} (_h : Stab w p) (hb : b ≤ w.heap.size) : Stab w (fun W => b ≤ W.heap.size) := fun _ h' => Nat.le_trans hb h'.size
theorem cell_of {w : World} {b : Nat} {cs : Array Value} {t : TypeId} {fr : Nat × Nat} (h : w.heap[b]? = some (.cells cs t fr)) (i : Nat) {v : Value} (hv : cs[i]? = some v) : w.cell? ⟨b, i, none⟩ = some v := by
  simp only [World.cell?, h]; exact hv
/-- a row of the call's own lies apart from a block -/
def Off (v : Value) (b : Nat) : Prop := ∀ j, v.ownBlock = some j → j ≠ b
theorem Off.step {w : World} {v v' : Value} {b : Nat} (h : Off v b) (hb : b < w.heap.size) (hv : v'.ownBlock = v.ownBlock ∨ v'.ownBlock = some w.heap.size) : Off v' b := by
  intro j hj
  rcases hv with e | e
  · exact h j (e.symm.trans hj)
  · rw [e] at hj; injection hj with hj; omega
theorem OwT.off {α : Type} {f : α → List Value} {w : World} {base : Nat} {e : TypeId} {v : Value} {xs : List α} (h : OwT f w base e v xs) : Off v w.heap.size := fun j hj he => by have := (h.lt j hj).2; omega
theorem Off.keep {w w' : World} {v : Value} {b : Nat} {o : Obj} (h : Off v b) (hg : w.grownBy w' v.ownBlock) (hb : w.heap[b]? = some o) : w'.heap[b]? = some o :=
  (hg.block b (Array.getElem?_eq_some_iff.1 hb).1 (fun e => h b e.symm rfl)).trans hb
theorem set_block {w : World} {b i : Nat} {cs : Array Value} {t : TypeId} {fr : Nat × Nat} (h : w.heap[b]? = some (.cells cs t fr)) (v : Value) : (w.setCell ⟨b, i, none⟩ v).heap[b]? = some (.cells (cs.setIfInBounds i v) t fr) := by
  simp only [World.setCell, Array.getElem?_modify, if_pos, h]
  rfl
theorem free_block {w : World} {b : Nat} {cs : Array Value} {t : TypeId} (h : w.heap[b]? = some (.cells cs t (0, 0))) (i : Nat) : w.frozen? ⟨b, i, none⟩ = false := by
  simp [World.frozen?, h]
theorem le_allocF (w : World) (o : Obj) : w.heap.size ≤ (w.alloc o).heap.size := by simp
end Go.Proofs.Ytpenbaafhbbmhaa
