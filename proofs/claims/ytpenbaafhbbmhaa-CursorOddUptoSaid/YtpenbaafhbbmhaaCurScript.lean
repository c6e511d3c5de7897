/- Scripts in memory: what an In is asked, what an Out is told. No condition. -/
import Derived.Test.YtpenbaafhbbmhaaByte
namespace Go.Proofs.Ytpenbaafhbbmhaa
open Go.RowKit
set_option linter.unusedVariables false

/-- a script of two numbers each -/
def Asks (w : World) (a : Option Addr) (n c : Nat) (l : List (Int × Int)) : Prop :=
  l.length = n ∧ n ≤ c ∧ ∀ (i : Nat) (x : Int × Int), l[i]? = some x → ∃ b o, a = some ⟨b, o, none⟩ ∧ w.cell? ⟨b, o + i * 2, none⟩ = some (.int .i64 x.1) ∧ w.cell? ⟨b, o + i * 2 + 1, none⟩ = some (.int .i64 x.2)
theorem Asks.keep {w w' : World} {a : Option Addr} {n c : Nat} {l : List (Int × Int)} (h : Asks w a n c l) (hb : Below w.heap.size w w') : Asks w' a n c l :=
  ⟨h.1, h.2.1, fun i x hx => by
    obtain ⟨b, o, ha, h1, h2⟩ := h.2.2 i x hx
    exact ⟨b, o, ha, (World.cell?_of_block (a := ⟨b, _, none⟩) (hb.block b (cell_lt h1))).trans h1, (World.cell?_of_block (a := ⟨b, _, none⟩) (hb.block b (cell_lt h2))).trans h2⟩⟩
/-- numbers that came in, the second of each -/
def AsksW (l : List (Int × Int)) : Prop := ∀ x, x ∈ l → -9223372036854775808 ≤ x.2 ∧ x.2 ≤ 9223372036854775807
/-- a script of a number and a text each -/
def Lays (w : World) (a : Option Addr) (n c : Nat) (l : List (Int × List UInt8)) : Prop :=
  l.length = n ∧ n ≤ c ∧ ∀ (i : Nat) (x : Int × List UInt8), l[i]? = some x → ∃ b o ax nx cx, a = some ⟨b, o, none⟩ ∧ w.cell? ⟨b, o + i * 2, none⟩ = some (.int .i64 x.1) ∧ w.cell? ⟨b, o + i * 2 + 1, none⟩ = some (.slice ax nx cx) ∧ Sl Bf w ax nx cx x.2
theorem Lays.keep {w w' : World} {a : Option Addr} {n c : Nat} {l : List (Int × List UInt8)} (h : Lays w a n c l) (hb : Below w.heap.size w w') : Lays w' a n c l :=
  ⟨h.1, h.2.1, fun i x hx => by
    obtain ⟨b, o, ax, nx, cx, ha, h1, h2, h3⟩ := h.2.2 i x hx
    exact ⟨b, o, ax, nx, cx, ha, (World.cell?_of_block (a := ⟨b, _, none⟩) (hb.block b (cell_lt h1))).trans h1, (World.cell?_of_block (a := ⟨b, _, none⟩) (hb.block b (cell_lt h2))).trans h2, h3.keep hb⟩⟩
def laySum (l : List (Int × List UInt8)) : Nat := (l.map fun x => x.2.length).sum
theorem laySum_cons (x : Int × List UInt8) (r : List (Int × List UInt8)) : laySum (x :: r) = x.2.length + laySum r := by simp [laySum]
theorem laySum_take : ∀ {l : List (Int × List UInt8)} {k : Nat} {x : Int × List UInt8}, l[k]? = some x → laySum (l.take (k + 1)) = laySum (l.take k) + x.2.length
  | [], k, x, h => by simp at h
  | y :: r, 0, x, h => by
    obtain rfl : y = x := by simpa using h
    simp [laySum]
  | y :: r, k + 1, x, h => by
    have := laySum_take (l := r) (k := k) (x := x) (by simpa using h)
    rw [List.take_succ_cons, List.take_succ_cons, laySum_cons, laySum_cons]
    omega
theorem laySum_le : ∀ (l : List (Int × List UInt8)) (k : Nat), laySum (l.take k) ≤ laySum l
  | [], k => by simp
  | x :: r, 0 => by simp [laySum]
  | x :: r, k + 1 => by
    have := laySum_le r k
    unfold laySum at *
    simp
    simpa using this
end Go.Proofs.Ytpenbaafhbbmhaa
