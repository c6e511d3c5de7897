/- A script for a writer of streams in memory, and from the row's reading to it; a writer and the document's side by side. No condition. -/
import Derived.Test.YtljcogimeimknaaEntCopyZ
import Derived.Test.YtljcogimeimknaaStmRWM
import Derived.Test.YtljcogimeimknaaFootSpoil
namespace Go.Proofs.Ytljcogimeimknaa
open Go.RowKit
set_option linter.unusedVariables false

/-- an operation of a script -/
abbrev OpS := Int × Ent
def OpsS (w : World) (a : Option Addr) (n c : Nat) (os : List OpS) : Prop :=
  os.length = n ∧ n ≤ c ∧ (a = none → c = 0) ∧ ∀ i q, os[i]? = some q → ∃ b o ak nk ck av nv cv, a = some ⟨b, o, none⟩ ∧ w.cell? ⟨b, o + i * 3, none⟩ = some (.int .i64 q.1) ∧
    w.cell? ⟨b, o + i * 3 + 1, none⟩ = some (.slice ak nk ck) ∧ w.cell? ⟨b, o + i * 3 + 2, none⟩ = some (.slice av nv cv) ∧ Sl Bf w ak nk ck q.2.1 ∧ Sl Bf w av nv cv q.2.2
theorem OpsS.row {w : World} {a : Option Addr} {n c : Nat} {os : List OpS} (h : OpsS w a n c os) {i : Nat} {q : OpS} (hi : os[i]? = some q) :
    ∃ b o ak ck av cv, a = some ⟨b, o, none⟩ ∧ Sl Bf w ak q.2.1.length ck q.2.1 ∧ Sl Bf w av q.2.2.length cv q.2.2 ∧
      ∀ W, Below w.heap.size w W → W.cell? ⟨b, o + i * 3, none⟩ = some (.int .i64 q.1) ∧ W.cell? ⟨b, o + i * 3 + 1, none⟩ = some (.slice ak q.2.1.length ck) ∧ W.cell? ⟨b, o + i * 3 + 2, none⟩ = some (.slice av q.2.2.length cv) := by
  obtain ⟨b, o, ak, nk, ck, av, nv, cv, ha, c0, c1, c2, s0, s1⟩ := h.2.2.2 i q hi
  obtain rfl : nk = q.2.1.length := s0.len.symm
  obtain rfl : nv = q.2.2.length := s1.len.symm
  have kp : ∀ {W : World} {j : Nat} {v : Value}, Below w.heap.size w W → w.cell? ⟨b, j, none⟩ = some v → W.cell? ⟨b, j, none⟩ = some v := fun hb hc => (World.cell?_of_block (hb.block _ (cell_lt hc))).trans hc
  exact ⟨b, o, ak, ck, av, cv, ha, s0, s1, fun W hb => ⟨kp hb c0, kp hb c1, kp hb c2⟩⟩

/-- a writer, and the document's -/
structure Duo (w0 w : World) (lo g g' m : Nat) (s s' : WS) (who who' : Nat → Nat) : Prop where
  l : WrS w lo g m s who
  r : RWS w0 w g' m s' who'
  d : ∀ j, who j ≠ 0 → who' j = 0
  b : w0.heap.size ≤ lo
section
variable {w0 w w' w1 : World} {lo g g' m : Nat} {s s' s1 : WS} {who who' : Nat → Nat}
theorem Duo.turn {T : Nat → Prop} (h : Duo w0 w lo g g' m s s' who who') (ht : Turns T w w') (hT : ∀ j, T j → who j = 0 ∧ who' j = 0 ∧ w0.heap.size ≤ j) : Duo w0 w' lo g g' m s s' who who' :=
  ⟨h.l.turn ht fun j hj => (hT j hj).1, h.r.turn ht fun j hj => (hT j hj).2, h.d, h.b⟩
theorem Duo.keep (h : Duo w0 w lo g g' m s s' who who') (hb : Below w.heap.size w w') : Duo w0 w' lo g g' m s s' who who' :=
  ⟨h.l.keep hb, h.r.keep hb, h.d, h.b⟩
theorem Duo.new (h : Duo w0 w lo g g' m s s' who who') : ∀ j, w.heap.size ≤ j → who j = 0 ∧ who' j = 0 := fun j hj =>
  ⟨Classical.byContradiction fun e => by have := (h.l.low.1 j e).2; omega, Classical.byContradiction fun e => by have := (h.r.low.1 j e).2; omega⟩
theorem Duo.left2 (h : Duo w0 w lo g g' m s s' who who') {who1 : Nat → Nat} (h1 : WrS w1 lo g m s1 who1) (hg : Gr w w1 who who1) : Duo w0 w1 lo g g' m s1 s' who1 who' := by
  refine ⟨h1, h.r.turn hg.t fun j hj => ⟨h.d j hj, Nat.le_trans h.b (h.l.low.1 j hj).1⟩, fun j hj => ?_, h.b⟩
  by_cases hlt : j < w.heap.size
  · rw [hg.o j hlt] at hj; exact h.d j hj
  · exact (h.new j (by omega)).2
theorem Duo.right2 (h : Duo w0 w lo g g' m s s' who who') {who1 : Nat → Nat} (h1 : RWS w0 w1 g' m s1 who1) (hg : Gr w w1 who' who1) : Duo w0 w1 lo g g' m s s1 who who1 := by
  have hn : ∀ j, who' j ≠ 0 → who j = 0 := fun j hj => Classical.byContradiction fun e => hj (h.d j e)
  refine ⟨h.l.turn hg.t hn, h1, fun j hj => ?_, h.b⟩
  have hlt := (h.l.low.1 j hj).2
  rw [hg.o j hlt]; exact h.d j hj
theorem Duo.left (h : Duo w0 w lo g g' m s s' who who') (hp : WPost w w1 lo g m s1 who) : ∃ who1, Duo w0 w1 lo g g' m s1 s' who1 who' ∧ (∀ j, j < w.heap.size → who1 j = who j) ∧ Turns (fun j => who j ≠ 0) w w1 := by
  obtain ⟨who1, h1, hg⟩ := hp
  refine ⟨who1, ⟨h1, h.r.turn hg.t fun j hj => ⟨h.d j hj, Nat.le_trans h.b (h.l.low.1 j hj).1⟩, fun j hj => ?_, h.b⟩, hg.o, hg.t⟩
  by_cases hlt : j < w.heap.size
  · rw [hg.o j hlt] at hj; exact h.d j hj
  · exact (h.new j (by omega)).2
theorem Duo.right (h : Duo w0 w lo g g' m s s' who who') (hp : RWPost w0 w w1 g' m s1 who') : ∃ who1, Duo w0 w1 lo g g' m s s1 who who1 ∧ (∀ j, j < w.heap.size → who1 j = who' j) ∧ Turns (fun j => who' j ≠ 0) w w1 := by
  obtain ⟨who1, h1, hg⟩ := hp
  have hn : ∀ j, who' j ≠ 0 → who j = 0 := fun j hj => Classical.byContradiction fun e => hj (h.d j e)
  refine ⟨who1, ⟨h.l.turn hg.t hn, h1, fun j hj => ?_, h.b⟩, hg.o, hg.t⟩
  have hlt := (h.l.low.1 j hj).2
  rw [hg.o j hlt]; exact h.d j hj
end
theorem Chg.turns {lo hi : Nat} {w w' : World} (h : Chg lo hi w w') : Turns (fun j => lo ≤ j ∧ j < hi) w w' := ⟨h.os, h.tape, h.output, h.size, h.block⟩
end Go.Proofs.Ytljcogimeimknaa
