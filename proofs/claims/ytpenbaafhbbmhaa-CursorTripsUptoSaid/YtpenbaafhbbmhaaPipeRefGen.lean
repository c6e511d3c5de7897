/- The document's readers and writers of any make, in memory; its source and its sink are such. Conditions: numbers within reach. -/
import Derived.Test.YtpenbaafhbbmhaaPipeRefK
import Derived.Test.YtpenbaafhbbmhaaPipeGen
namespace Go.Proofs.Ytpenbaafhbbmhaa
open Go.RowKit
set_option linter.unusedVariables false

/-- a reader of the document's in memory: what it was handed lies below lo, its own blocks are S -/
structure RdrL {σ : Type} (R : Rm σ) (v : Value) (lo Bd : Nat) (St : σ → (Nat → Prop) → World → Prop) : Prop where
  frame : ∀ s S T w w', St s S w → Turns T w w' → (∀ j, S j → ¬ T j) → (∀ j, T j → lo ≤ j) → St s S w'
  inS : ∀ s S w, St s S w → ∀ j, S j → lo ≤ j ∧ j < w.heap.size
  read : ∀ s S w g n c (zs : List UInt8), St s S w → R.cnt s < Bd → n ≤ zs.length → n ≤ c → n ≤ 65537 → w.heap[g]? = some (.cells (zs.map Bf).toArray 5 (0, 0)) → ¬ S g → lo ≤ g →
    Calls Try.prog 58 #[v, .slice (some ⟨g, 0, none⟩) n c] w fun e w' => e = .returned (.tuple #[.int .i64 (R.num s n), .int .i64 (R.er s n)]) ∧ ∃ S', St (R.nxt s n) S' w' ∧ (∀ j, S' j → S j ∨ w.heap.size ≤ j) ∧
      Turns (fun j => S j ∨ j = g) w w' ∧ w'.heap[g]? = some (.cells ((R.lay s n ++ zs.drop (R.lay s n).length).map Bf).toArray 5 (0, 0))
/-- a writer of the document's in memory -/
structure WrtL {τ : Type} (V : Wm τ) (v : Value) (lo Bd Rmx : Nat) (St : τ → (Nat → Prop) → World → Prop) : Prop where
  frame : ∀ s S T w w', St s S w → Turns T w w' → (∀ j, S j → ¬ T j) → (∀ j, T j → lo ≤ j) → St s S w'
  inS : ∀ s S w, St s S w → ∀ j, S j → lo ≤ j ∧ j < w.heap.size
  write : ∀ t S w ap n c (xs : List UInt8), St t S w → V.cnt t < Bd → V.room t + n ≤ Rmx → n ≤ 65537 → Sl Bf w ap n c xs → (∀ b o, ap = some ⟨b, o, none⟩ → 0 < n → ¬ S b) →
    Calls Try.prog 53 #[v, .slice ap n c] w fun e w' => e = .returned (.tuple #[.int .i64 (V.num t xs), .int .i64 (V.er t xs)]) ∧ ∃ S', St (V.nxt t xs) S' w' ∧ (∀ j, S' j → S j ∨ w.heap.size ≤ j) ∧ Turns S w w'
/-- the document's source, not odd -/
def StR (g lo : Nat) (bs : List UInt8) (s : Src) (S : Nat → Prop) (w : World) : Prop := (∀ j, S j ↔ j = g) ∧ RsP g s bs (fun j => j < lo ∨ j = g) w ∧ lo ≤ g
def StK (g lo : Nat) (t : Snk) (S : Nat → Prop) (w : World) : Prop := RkP g lo t S w ∧ lo ≤ w.heap.size
theorem rsrcL (g lo : Nat) (bs : List UInt8) (hbl : bs.length ≤ 140737488351232) : RdrL srcM (.pointer (some ⟨g, 0, none⟩)) lo 2305843009213693952 (StR g lo bs) where
  frame s S T w w' h ht hd hT := ⟨h.1, h.2.1.turns ht fun j hj e => by
    rcases hj with hj | hj
    · have := hT j e; omega
    · exact hd j ((h.1 j).2 hj) e, h.2.2⟩
  inS s S w h j hj := by
    have e := (h.1 j).1 hj
    subst e
    exact ⟨h.2.2, h.2.1.inS j (.inr rfl)⟩
  read s S w p n c zs h hc hn hnc hz hp hg hlg := by
    have hpg : p ≠ g := fun e => hg ((h.1 p).2 e)
    refine (rsread_any g s bs _ p n c zs w h.2.1 (Nat.le_of_lt hc) hbl hn hnc (by omega) hp (fun e => by rcases e with e | e; (omega); (exact hpg e))).mono ?_
    rintro e w' ⟨rfl, h1, h2, h3⟩
    exact ⟨rfl, S, ⟨h.1, h1, h.2.2⟩, fun j hj => .inl hj, h2.mono fun j _ e => by rcases e with e | e; (exact .inl ((h.1 j).2 e)); (exact .inr e), h3⟩
theorem rsnkL (g lo : Nat) : WrtL snkM (.pointer (some ⟨g, 0, none⟩)) lo 2305843009213693952 140737488355328 (StK g lo) where
  frame s S T w w' h ht hd hT := ⟨h.1.turns ht hd hT, Nat.le_trans h.2 ht.size⟩
  inS s S w h j hj := h.1.inS j hj
  write t S w ap n c xs h hc hr hn hx hg := by
    refine (rwrite_any g lo t S ap n c xs w h.1 h.2 (Nat.le_of_lt hc) hr hx hg).mono ?_
    rintro e w' ⟨rfl, S', h1, h2, h3⟩
    exact ⟨rfl, S', ⟨h1, Nat.le_trans h.2 h3.size⟩, h2, h3⟩
end Go.Proofs.Ytpenbaafhbbmhaa
