/- What a call leaves of memory where it writes blocks of a set: all others lie as they lay, new ones come behind. No condition. -/
import Derived.Test.YtpenbaafhbbmhaaStab
import Derived.Test.YtpenbaafhbbmhaaByS
namespace Go.Proofs.Ytpenbaafhbbmhaa
open Go.RowKit
set_option linter.unusedVariables false

/-- all blocks but those of S lie as they lay -/
structure Turns (S : Nat → Prop) (w w' : World) : Prop where
  os : w'.os = w.os
  tape : w'.tape = w.tape
  output : w'.output = w.output
  size : w.heap.size ≤ w'.heap.size
  block : ∀ j, j < w.heap.size → ¬ S j → w'.heap[j]? = w.heap[j]?
theorem Turns.refl (S : Nat → Prop) (w : World) : Turns S w w := ⟨rfl, rfl, rfl, Nat.le_refl _, fun _ _ _ => rfl⟩
theorem Turns.of_below {S : Nat → Prop} {w w' : World} (h : Below w.heap.size w w') : Turns S w w' := ⟨h.os, h.tape, h.output, h.size, fun j hj _ => h.block j hj⟩
theorem Turns.of_grown {S : Nat → Prop} {w w' : World} {row : Option Nat} (h : w.grownBy w' row) (hr : ∀ j, row = some j → S j) : Turns S w w' :=
  ⟨h.os, h.tape, h.output, h.size, fun j hj hs => h.block j hj (fun e => hs (hr j e.symm))⟩
theorem Turns.trans {S T : Nat → Prop} {w w1 w2 : World} (h : Turns S w w1) (k : Turns T w1 w2) (hT : ∀ j, j < w.heap.size → T j → S j) : Turns S w w2 :=
  ⟨k.os.trans h.os, k.tape.trans h.tape, k.output.trans h.output, Nat.le_trans h.size k.size, fun j hj hs => (k.block j (Nat.lt_of_lt_of_le hj h.size) (fun t => hs (hT j hj t))).trans (h.block j hj hs)⟩
theorem Turns.trans_below {S : Nat → Prop} {w w1 w2 : World} (h : Turns S w w1) (k : Below w1.heap.size w1 w2) : Turns S w w2 := h.trans (T := S) (.of_below k) fun _ _ t => t
theorem Turns.mono {S T : Nat → Prop} {w w' : World} (h : Turns S w w') (k : ∀ j, j < w.heap.size → S j → T j) : Turns T w w' := ⟨h.os, h.tape, h.output, h.size, fun j hj hs => h.block j hj (fun e => hs (k j hj e))⟩
theorem Turns.below {S : Nat → Prop} {w0 w w' : World} {b : Nat} (h : Turns S w w') (k : Below b w0 w) (hb : b ≤ w.heap.size) (hS : ∀ j, S j → b ≤ j) : Below b w0 w' :=
  ⟨h.os.trans k.os, h.tape.trans k.tape, h.output.trans k.output, Nat.le_trans k.size h.size, fun j hj => (h.block j (by omega) (fun e => by have := hS j e; omega)).trans (k.block j hj)⟩
theorem Turns.set {S : Nat → Prop} (w : World) {b i : Nat} (hb : S b) (v : Value) : Turns S w (w.setCell ⟨b, i, none⟩ v) :=
  ⟨rfl, rfl, rfl, by simp, fun j _ hs => Below.heap_setCell _ _ _ _ (fun e => hs (e ▸ hb))⟩
theorem Turns.alloc {S : Nat → Prop} {w w' : World} (h : Turns S w w') (o : Obj) : Turns S w (w'.alloc o) := h.trans_below ((Below.refl _ _).alloc (Nat.le_refl _) o)
theorem Turns.drewN {S : Nat → Prop} {w w' : World} (h : Turns S w w') (n : Nat) : Turns S w (w'.drewN n) := h.trans_below (keep_drewN (Below.refl _ _) n)
theorem Turns.heap {S : Nat → Prop} {w w' : World} {g : Nat} {o : Obj} (h : Turns S w w') (hg : w.heap[g]? = some o) (hs : ¬ S g) : w'.heap[g]? = some o :=
  (h.block g (Array.getElem?_eq_some_iff.1 hg).1 hs).trans hg
theorem OwT.turns {α : Type} {f : α → List Value} {S : Nat → Prop} {w w' : World} {base : Nat} {e : TypeId} {v : Value} {xs : List α} (h : OwT f w base e v xs) (ht : Turns S w w') (hs : ∀ j, v.ownBlock = some j → ¬ S j) : OwT f w' base e v xs :=
  h.of_block fun j hj => ht.block j (h.lt j hj).2 (hs j hj)
theorem Sl.turns {α : Type} {f : α → Value} {S : Nat → Prop} {w w' : World} {a : Option Addr} {n c : Nat} {xs : List α} (h : Sl f w a n c xs) (ht : Turns S w w') (hs : ∀ b o, a = some ⟨b, o, none⟩ → 0 < n → ¬ S b) : Sl f w' a n c xs :=
  h.of_block fun b o ha hn => ht.block b (by subst ha; exact h.blt hn) (hs b o ha hn)
theorem Stab.of_lt {w : World} {p : World → Prop} {S : Nat → Prop} {w0 w' : World} {b : Nat} (h : ∀ W, Below b w0 W → p W) (k : Below b w0 w) (hb : b ≤ w.heap.size) (ht : Turns S w w') (hS : ∀ j, S j → b ≤ j) : p w' := h w' (ht.below k hb hS)
end Go.Proofs.Ytpenbaafhbbmhaa
