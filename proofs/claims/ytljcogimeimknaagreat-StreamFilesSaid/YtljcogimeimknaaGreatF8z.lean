/- Several texts in one: RowIn, RowInZ. Each has its own sentence and conditions below. -/
import Derived.Test.YtljcogimeimknaaGreatK8a
import Derived.OwnWalkIn
import Derived.RangeFuncWrites
/- Append onto a typed row, in a fence (within a range over a function). No condition but the sizes. -/
namespace Go.Proofs.YtljcogimeimknaaGreat
set_option linter.unusedVariables false
open Go.RowKit
/-- a step of append's: what is no cells stays -/
theorem keepsFrom_own {α : Type} {f : α → List Value} {B base : Nat} {e : TypeId} {W W' : World} {v : Value} {xs : List α} (ho : OwT f W base e v xs) (hg : W.grownBy W' v.ownBlock) : KeepsFrom B W W' := by
  refine ⟨hg.size, fun k o _ hk hc => (hg.block k (Array.getElem?_eq_some_iff.1 hk).1 fun e => ?_).trans hk⟩
  rcases ho with ⟨rfl, _⟩ | ⟨g, cap, ys, rfl, _, hh, _⟩
  · cases e
  · cases e; rw [hh] at hk; cases hk; cases hc
end Go.Proofs.YtljcogimeimknaaGreat
/- Append onto a row whose spare places are zero, in a fence. No condition but the sizes. -/
namespace Go.Proofs.YtljcogimeimknaaGreat
set_option linter.unusedVariables false
open Go.RowKit
theorem wpListIn_appZ {F : Fence} {nF : Nat} {α : Type} {f : α → List Value} {x0 : α} {P : Program} {t e : TypeId} {k bytes : Nat} (E : EltT P t e f k bytes) (hz0 : ∃ i z, P.info? e = some i ∧ i.zero = some z ∧ z.cells.toList = f x0) {ops : Array Oper} {rest : List Oper} {o : Oper} {a : Act} {Q : Exit → Act → World → Prop} {w : World} (hg : o.guard = none) (s x : Operand)
    (ho : o.op = .call { callee := .builtin .append, args := #[s, x], argTypes := #[t, t] }) (base : Nat) (v : Value) (xs : List α) (hs : a.eval s = v) (hown : OwZ f x0 w base e v xs)
    (aa : Option Addr) (m c : Nat) (news : List α) (hx : a.eval x = .slice aa m c) (hsl : SlT f k w aa m c news)
    (h63 : xs.length + m ≤ maxLen) (hbytes : Fits (xs.length + m) bytes) (hbase : base ≤ w.heap.size) (ys : List α) (hy : xs ++ news = ys)
    (h : ∀ v' w', OwZ f x0 w' base e v' ys → w.grownBy w' v.ownBlock → (v'.ownBlock = v.ownBlock ∨ v'.ownBlock = some w.heap.size) → Below base w w' → wpListIn F nF P ops Q rest (a.put o.dst v') w') : wpListIn F nF P ops Q (o :: rest) a w := by
  subst hy
  refine wpListIn_plain hg fun K hK => ?_
  obtain ⟨v', w', hr, h2, h3, h4⟩ := run_appZ E hz0 w o.type base v xs hown aa m c news hsl h63 hbytes hbase
  unfold Oper.wpIn
  refine ⟨by simp [Oper.about, ho, resolve, Target.leads, Sem.run_pure], ?_⟩
  rw [Oper.semAt_plain F _ _ (by rw [ho]; intro c hc'; cases hc')]
  simp [execOp, ho, resolve, invoke, builtin, hs, hx, hr, Result.andThen]
  exact hK _ _ (h v' w' h2 h3 h4 ((Below.refl _ _).grown h3 hbase (fun k hk => (hown.t.lt k hk).1)))
end Go.Proofs.YtljcogimeimknaaGreat
