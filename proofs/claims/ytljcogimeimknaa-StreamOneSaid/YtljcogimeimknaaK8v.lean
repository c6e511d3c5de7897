/- Several texts in one: VintRRead, CurRTk, CurRNum, RdRef, RdRFn, BlockPlaceM. Each has its own sentence and conditions below. -/
import Derived.Test.YtljcogimeimknaaK8r
import Derived.Test.YtljcogimeimknaaK8q
import Derived.Test.YtljcogimeimknaaK8u
import Derived.Test.YtljcogimeimknaaK8t
/- The reference's Read: contract. Conditions: the slice within reach. Written by a program of this place (gen_VintRRead.py). -/
namespace Go.Proofs.Ytljcogimeimknaa
set_option linter.unusedVariables false
open Go.RowKit

end Go.Proofs.Ytljcogimeimknaa
/- The reference's taker, one of it in a block: contracts of Take and Number. Conditions: the taker's two cells lie in a block of which they are known; its bytes are a row of the call's own. -/
namespace Go.Proofs.Ytljcogimeimknaa
open Go.RowKit
set_option maxRecDepth 100000
set_option linter.unusedVariables false

/-- what was there stays but one block and one row -/
def Tch (w w' : World) (g : Nat) (row : Option Nat) : Prop := w'.os = w.os ∧ w'.tape = w.tape ∧ w'.output = w.output ∧ w.heap.size ≤ w'.heap.size ∧ ∀ j, j < w.heap.size → j ≠ g → some j ≠ row → w'.heap[j]? = w.heap[j]?
theorem Tch.of {w w' : World} {g : Nat} {row : Option Nat} (h : w.grownBy w' row) : Tch w w' g row := ⟨h.os, h.tape, h.output, h.size, fun j hj _ hr => h.block j hj hr⟩
theorem Tch.set {w w' : World} {g : Nat} {row : Option Nat} (h : Tch w w' g row) (i : Nat) (v : Value) : Tch w (w'.setCell ⟨g, i, none⟩ v) g row := by
  obtain ⟨h1, h2, h3, h4, h5⟩ := h
  refine ⟨h1, h2, h3, by simpa using h4, fun j hj hg hr => ?_⟩
  rw [Below.heap_setCell _ _ _ _ hg]
  exact h5 j hj hg hr
end Go.Proofs.Ytljcogimeimknaa
/- The document's In: Byte, End, Number: contracts over any reader of the document's. Conditions: numbers and what is taken within reach. -/
namespace Go.Proofs.Ytljcogimeimknaa
open Go.RowKit Go.Shelf
set_option maxRecDepth 100000
set_option linter.unusedVariables false
set_option linter.unusedSimpArgs false

section
variable {σ : Type} {R : Rm σ} {v : Value} {lo Br : Nat} {St : σ → (Nat → Prop) → World → Prop}
variable {g : Nat} {most : Int} {c : CIn σ} {S : Nat → Prop} {w : World}
end
end Go.Proofs.Ytljcogimeimknaa
/- The document's reader of streams in memory. No condition. -/
namespace Go.Proofs.Ytljcogimeimknaa
open Go.RowKit Go.Shelf
set_option linter.unusedVariables false

/-- what its doings leave: all but its own (its rows' keys, 5, too) lies as it lay; it may let go of what its In had -/
structure GrW (w w' : World) (who who' : Nat → Nat) : Prop where
  t : Turns (fun j => who j ≠ 0 ∧ who j ≠ 5) w w'
  o : ∀ j, j < w.heap.size → who' j = who j ∨ (who j = 3 ∧ who' j = 0)
theorem GrW.refl (w : World) (who : Nat → Nat) : GrW w w who who := ⟨Turns.refl _ _, fun _ _ => .inl rfl⟩
theorem GrW.old {w w' : World} {who who' : Nat → Nat} (h : GrW w w' who who') {j : Nat} (hj : j < w.heap.size) (hn : who' j ≠ 0) : who j = who' j := by
  rcases h.o j hj with e | ⟨_, e⟩
  · exact e.symm
  · exact absurd e hn
theorem GrW.trans {w w1 w2 : World} {who who1 who2 : Nat → Nat} (h : GrW w w1 who who1) (k : GrW w1 w2 who1 who2) : GrW w w2 who who2 :=
  ⟨h.t.trans k.t fun j hj e => by rw [h.old hj e.1]; exact e, fun j hj => by
    rcases k.o j (Nat.lt_of_lt_of_le hj h.t.size) with e | ⟨e1, e2⟩
    · rw [e]; exact h.o j hj
    · rcases h.o j hj with e | ⟨e, _⟩
      · exact .inr ⟨e ▸ e1, e2⟩
      · exact .inr ⟨e, e2⟩⟩
theorem GrW.below {w w' : World} {who : Nat → Nat} (h : Below w.heap.size w w') : GrW w w' who who := ⟨.of_below h, fun _ _ => .inl rfl⟩
theorem GrW.zero {w w' : World} {who who' : Nat → Nat} (h : GrW w w' who who') {j : Nat} (hj : j < w.heap.size) (hn : who j = 0) : who' j = 0 := by
  rcases h.o j hj with e | ⟨_, e⟩
  · rw [e]; exact hn
  · exact e
section
variable {w w' w1 w0 : World} {bs : List UInt8} {lo gt g gi : Nat} {bg : Bool} {S S' : Nat → Prop} {lv rv : Value} {vs : List RV} {s : RS} {who who0 : Nat → Nat}

end
end Go.Proofs.Ytljcogimeimknaa
/- The document's reader of streams: fail, its In, end: contracts. Conditions: the reader's budget and the places within reach. -/
namespace Go.Proofs.Ytljcogimeimknaa
open Go.RowKit Go.Shelf
set_option linter.unusedVariables false
set_option linter.unusedSimpArgs false

section
variable {w w1 : World} {bs : List UInt8} {lo gt g gi : Nat} {bg : Bool} {S S1 : Nat → Prop} {lv rv : Value} {vs : List RV} {s s1 : RS} {who who1 : Nat → Nat} {L Bd : Nat}
end
end Go.Proofs.Ytljcogimeimknaa
/- Where a reading of a block ends, or errs: within the bytes. No condition. -/
namespace Go.Proofs.Ytljcogimeimknaa
set_option linter.unusedVariables false

theorem rd_place : ∀ (l : List UInt8) (k v : Nat), (rd l k v).2.1 ≤ k + l.length
  | [], k, v => by rw [rd_nil]; exact Nat.le_refl _
  | c :: r, k, v => by
    by_cases h1 : k = 9 ∧ 1 < c.toNat
    · rw [rd_long h1]; exact Nat.le_add_right _ _
    · by_cases h2 : 0 < k ∧ c.toNat = 0
      · rw [rd_form h2]; exact Nat.le_add_right _ _
      · by_cases h3 : c.toNat < 128
        · rw [rd_last h1 h2 h3, List.length_cons]; show k + 1 ≤ _; omega
        · rw [rd_go h1 h2 h3, List.length_cons]
          have := rd_place r (k + 1) (v + c.toNat % 128 * 128 ^ k)
          omega
theorem pr3_place {b : List UInt8} : ∀ (j : Nat) (l : List Nat) (a : Nat), a ≤ b.length → (pr3 b j l a).2.1 ≤ b.length
  | 0, l, a, h => h
  | j + 1, l, a, h => by
    obtain ⟨⟨v, k, e⟩, hr⟩ : ∃ R, rd (b.drop a) 0 0 = R := ⟨_, rfl⟩
    have hk := rd_place (b.drop a) 0 0
    rw [hr, List.length_drop] at hk
    dsimp only at hk
    by_cases he : e = 0
    · subst he
      rw [pr3_go hr]
      exact pr3_place j _ _ (by omega)
    · rw [pr3_no hr he]
      show a + k ≤ _
      omega
theorem pread_place {p b : List UInt8} {a : Nat} (h : a ≤ b.length) : (pread p b a).2.1 ≤ b.length := by
  obtain ⟨⟨x, q, e⟩, hx⟩ : ∃ R, pread p b a = R := ⟨_, rfl⟩
  by_cases he : e = 0
  · subst he
    rw [hx]; exact (pread_in hx h).2.2.1
  · obtain ⟨⟨ns, a3, e3⟩, hr⟩ : ∃ R, pr3 b 3 [] a = R := ⟨_, rfl⟩
    have h3 := pr3_place (b := b) 3 [] a h
    rw [hr] at h3
    dsimp only at h3
    by_cases f : e3 = 0
    · subst f
      unfold pread
      rw [hr, if_pos rfl]
      unfold pend
      split
      · exact h
      · split
        · exact h
        · split
          · exact Nat.le_refl _
          · split
            · exact h
            · split
              · exact h
              · rename_i k1 k2 k3 k4 k5
                dsimp only at k1 k2 k3 ⊢
                omega
    · rw [pread_no hr f]; exact h3
theorem bents_place {b : List UInt8} : ∀ (j : Nat) (l : List Ent) (ps : List Nat) (p : Nat), p ≤ b.length → (bents b j l ps p).2.2.1 ≤ b.length ∧ (bents b j l ps p).2.2.2.2 ≤ b.length
  | 0, l, ps, p, h => ⟨h, Nat.zero_le _⟩
  | j + 1, l, ps, p, h => by
    obtain ⟨⟨x, q, e⟩, hx⟩ : ∃ R, pread (bP l.length (bst l).last) b p = R := ⟨_, rfl⟩
    have hq := pread_place (p := bP l.length (bst l).last) h
    rw [hx] at hq
    dsimp only at hq
    by_cases he : e = 0
    · subst he
      by_cases hc : 0 < l.length ∧ 0 ≤ cmp (bst l).last x.1
      · rw [bents_low hx hc]; exact ⟨h, h⟩
      · rw [bents_go hx hc]; exact bents_place j _ _ _ hq
    · rw [bents_no hx he]; exact ⟨h, hq⟩
theorem bentries_place (b : List UInt8) : (bentries b).2.2.1 ≤ b.length ∧ (bentries b).2.2.2.2 ≤ b.length := by
  obtain ⟨⟨n, d, e0⟩, hr⟩ : ∃ X, rd b 0 0 = X := ⟨_, rfl⟩
  have hd := rd_place b 0 0
  rw [hr] at hd
  dsimp only at hd
  by_cases he0 : e0 = 0
  · subst he0
    by_cases hn : n < 1 ∨ 64 < n
    · rw [bentries_bad hr hn]; exact ⟨Nat.zero_le _, Nat.zero_le _⟩
    · rw [bentries_go hr hn]; exact bents_place _ _ _ _ (by omega)
  · rw [bentries_no hr he0]; exact ⟨Nat.zero_le _, by show d ≤ _; omega⟩
theorem btable_place {b : List UInt8} : ∀ (l : List UInt8) (p : Nat), p ≤ b.length → (btable b l p).1 ≤ b.length
  | [], p, h => by
    by_cases hp : p < b.length
    · rw [btable_end hp]; exact h
    · rw [btable_ok hp]; exact Nat.zero_le _
  | c :: r, p, h => by
    by_cases hg : b[p]? = some c
    · rw [btable_go hg]
      exact btable_place r (p + 1) (List.getElem?_eq_some_iff.1 hg).1
    · rw [btable_no hg]; exact h
theorem bread_place (b : List UInt8) : (bread b).2.1 ≤ b.length := by
  obtain ⟨h1, h2⟩ := bentries_place b
  unfold bread
  split
  · exact h2
  · split
    · exact btable_place _ _ h1
    · exact Nat.zero_le _
end Go.Proofs.Ytljcogimeimknaa
