/- Several texts in one: Mem, Row, Stab, Num, Byte, Help, By, Turns, PairM, Open, OpenEnt, RowZ. Each has its own sentence and conditions below. -/
import Derived.WalkKit
import Derived.Handy
import Derived.Lib.Hide
import Derived.Maps.AppendAt
import Derived.BigQuiet
import Derived.Deep.QuietTactic
import Derived.Deep.DeepAppendWide
import Derived.Test.YtljcogimeimknaaGreatRows
import Derived.Deep.LoopGhost
import Derived.ProofKit
import Derived.OpenShut
import Derived.SizedLaws
import Derived.JoinedCond
import Derived.Deep.SlicePairs
/- Words on slices in memory, over any program: what a slice reads as, how that stays behind a call, and laws for slicing and append. No condition. -/
namespace Go.Proofs.YtljcogimeimknaaGreat
set_option linter.unusedVariables false
open Go.RowKit

theorem ret_int {k : IntKind} {a b : Int} (h : a = b) : Ending.returned (.int k a) = .returned (.int k b) := by rw [h]
theorem val_int {k : IntKind} {a b : Int} (h : a = b) : Value.int k a = .int k b := by rw [h]
theorem ret_bool {a b : Bool} (h : a = b) : Ending.returned (.bool a) = .returned (.bool b) := by rw [h]

/-- a slice of one-cell elements reads as xs -/
def Sl {α : Type} (f : α → Value) (w : World) (a : Option Addr) (n c : Nat) (xs : List α) : Prop :=
  xs.length = n ∧ n ≤ c ∧ (a = none → c = 0) ∧ ∀ i x, xs[i]? = some x → ∃ b o, a = some ⟨b, o, none⟩ ∧ w.cell? ⟨b, o + i, none⟩ = some (f x)

theorem Sl.len {α : Type} {f : α → Value} {w : World} {a : Option Addr} {n c : Nat} {xs : List α} (h : Sl f w a n c xs) : xs.length = n := h.1
theorem Sl.le {α : Type} {f : α → Value} {w : World} {a : Option Addr} {n c : Nat} {xs : List α} (h : Sl f w a n c xs) : n ≤ c := h.2.1

theorem Sl.at {α : Type} {f : α → Value} {w : World} {a : Option Addr} {n c : Nat} {xs : List α} (h : Sl f w a n c xs) (i : Nat) (hi : i < n) :
    ∃ x b o, xs[i]? = some x ∧ a = some ⟨b, o, none⟩ ∧ w.cell? ⟨b, o + i, none⟩ = some (f x) := by
  have hl : i < xs.length := by rw [h.1]; exact hi
  obtain ⟨b, o, h1, h2⟩ := h.2.2.2 i xs[i] (List.getElem?_eq_getElem hl)
  exact ⟨_, b, o, List.getElem?_eq_getElem hl, h1, h2⟩

theorem cell_lt {w : World} {p : Addr} {v : Value} (h : w.cell? p = some v) : p.block < w.heap.size := by
  unfold World.cell? at h
  rcases Nat.lt_or_ge p.block w.heap.size with h' | h'
  · exact h'
  · rw [Array.getElem?_eq_none h'] at h; simp at h

theorem Sl.lt {α : Type} {f : α → Value} {w : World} {a : Option Addr} {n c : Nat} {xs : List α} (h : Sl f w a n c xs) (hn : 0 < n) : ∃ b o, a = some ⟨b, o, none⟩ ∧ b < w.heap.size := by
  obtain ⟨x, b, o, _, h2, h3⟩ := h.at 0 hn
  exact ⟨b, o, h2, cell_lt h3⟩

theorem Sl.blt {α : Type} {f : α → Value} {w : World} {b o : Nat} {s : Option Nat} {n c : Nat} {xs : List α} (h : Sl f w (some ⟨b, o, s⟩) n c xs) (hn : 0 < n) : b < w.heap.size := by
  obtain ⟨b', o', e, hlt⟩ := h.lt hn
  cases e; exact hlt

/-- it stays where its block stays -/
theorem Sl.of_block {α : Type} {f : α → Value} {w w' : World} {a : Option Addr} {n c : Nat} {xs : List α} (h : Sl f w a n c xs)
    (hb : ∀ b o, a = some ⟨b, o, none⟩ → 0 < n → w'.heap[b]? = w.heap[b]?) : Sl f w' a n c xs := by
  obtain ⟨h1, h2, h3, h4⟩ := h
  refine ⟨h1, h2, h3, fun i x hx => ?_⟩
  obtain ⟨b, o, ha, hc⟩ := h4 i x hx
  have hi : i < xs.length := (List.getElem?_eq_some_iff.1 hx).1
  exact ⟨b, o, ha, by rw [World.cell?_of_block (w := w) (hb b o ha (by omega))]; exact hc⟩

theorem Sl.keep {α : Type} {f : α → Value} {w w' : World} {a : Option Addr} {n c : Nat} {xs : List α} (h : Sl f w a n c xs) (hb : Below w.heap.size w w') : Sl f w' a n c xs :=
  h.of_block fun b o ha hn => by obtain ⟨b', o', e, hlt⟩ := h.lt hn; rw [ha] at e; cases e; exact hb.block b hlt

theorem Sl.grown {α : Type} {f : α → Value} {w w' : World} {row : Option Nat} {a : Option Addr} {n c : Nat} {xs : List α} (h : Sl f w a n c xs) (hb : w.grownBy w' row)
    (hne : ∀ b o, a = some ⟨b, o, none⟩ → row ≠ some b) : Sl f w' a n c xs :=
  h.of_block fun b o ha hn => by obtain ⟨b', o', e, hlt⟩ := h.lt hn; rw [ha] at e; cases e; exact hb.block b hlt (fun e => hne b o ha e.symm)

theorem Sl.nil {α : Type} (f : α → Value) (w : World) : Sl f w none 0 0 ([] : List α) := ⟨rfl, Nat.le_refl _, fun _ => rfl, fun _ _ h => by simp at h⟩
theorem Sl.empty {α : Type} (f : α → Value) (w : World) (a : Addr) (c : Nat) : Sl f w (some a) 0 c ([] : List α) := ⟨rfl, Nat.zero_le _, by simp, fun _ _ h => by simp at h⟩

theorem Sl.none_eq {α : Type} {f : α → Value} {w : World} {n c : Nat} {xs : List α} (h : Sl f w none n c xs) : n = 0 ∧ c = 0 ∧ xs = [] := by
  have := h.2.2.1 rfl
  have h1 := h.1; have h2 := h.2.1
  have : n = 0 := by omega
  exact ⟨this, by omega, List.eq_nil_of_length_eq_zero (by omega)⟩

/-- the address of s[l:] -/
def adv (a : Option Addr) (c l : Nat) : Option Addr := if c = l then a else a.map (·.add l)

/-- s[l:h] -/
theorem Sl.cut {α : Type} {f : α → Value} {w : World} {a : Option Addr} {n c : Nat} {xs : List α} (h : Sl f w a n c xs) (l r : Nat) (hlr : l ≤ r) (hr : r ≤ n) :
    Sl f w (adv a c l) (r - l) (c - l) ((xs.take r).drop l) := by
  obtain ⟨h1, h2, h3, h4⟩ := h
  refine ⟨by simp; omega, by omega, fun e => ?_, fun i x hx => ?_⟩
  · unfold adv at e
    split at e
    · have := h3 e; omega
    · cases a with
      | none => have := h3 rfl; omega
      | some q => simp at e
  · have hx' := hx
    rw [List.getElem?_drop] at hx'
    have hi : l + i < r := by
      have := (List.getElem?_eq_some_iff.1 hx').1
      simp at this; omega
    rw [List.getElem?_take_of_lt hi] at hx'
    obtain ⟨b, o, rfl, hc⟩ := h4 _ _ hx'
    refine ⟨b, o + l, ?_, by rw [Nat.add_assoc]; exact hc⟩
    unfold adv
    rw [if_neg (by have := (List.getElem?_eq_some_iff.1 hx').1; omega)]
    simp only [Option.map_some, Addr.add]
    by_cases hl : l = 0
    · subst hl; simp
    · rw [if_neg hl]

theorem Sl.from {α : Type} {f : α → Value} {w : World} {a : Option Addr} {n c : Nat} {xs : List α} (h : Sl f w a n c xs) (l : Nat) (hl : l ≤ n) :
    Sl f w (adv a c l) (n - l) (c - l) (xs.drop l) := by
  have := h.cut l n hl (Nat.le_refl _)
  rwa [List.take_of_length_le (by rw [h.1]; exact Nat.le_refl _)] at this

theorem adv_zero (a : Option Addr) (c : Nat) : adv a c 0 = a := by
  unfold adv
  split
  · rfl
  · cases a <;> simp [Addr.add]

theorem Sl.upto {α : Type} {f : α → Value} {w : World} {a : Option Addr} {n c : Nat} {xs : List α} (h : Sl f w a n c xs) (r : Nat) (hr : r ≤ n) :
    Sl f w a r c (xs.take r) := by
  have := h.cut 0 r (Nat.zero_le _) hr
  simpa [adv_zero] using this

/-- a row of a block that is known whole reads so -/
theorem Sl.of_row {α : Type} {f : α → Value} {w : World} {g : Nat} {E : TypeId} {fr : Nat × Nat} {cur : Array Value} (xs : List α) (n c : Nat) (hg : w.heap[g]? = some (.cells cur E fr))
    (hl : xs.length = n) (hn : n ≤ c) (hx : cur.toList.take n = xs.map f) : Sl f w (some ⟨g, 0, none⟩) n c xs := by
  refine ⟨hl, hn, by simp, fun i x hi => ⟨g, 0, rfl, ?_⟩⟩
  have hin : i < n := by have := (List.getElem?_eq_some_iff.1 hi).1; omega
  have : (cur.toList.take n)[i]? = some (f x) := by rw [hx]; simp [hi]
  rw [List.getElem?_take_of_lt hin] at this
  simp only [World.cell?, hg, Nat.zero_add]
  simpa using this

theorem heap_new (w : World) (o : Obj) : (w.alloc o).heap[w.heap.size]? = some o := by
  show (w.heap.push o)[w.heap.size]? = _
  simp

theorem Sl.lit {α : Type} {f : α → Value} (w : World) (E : TypeId) (cur : Array Value) (xs : List α) (n : Nat) (hl : xs.length = n) (hx : cur.toList = xs.map f) :
    Sl f (w.alloc (.cells cur E)) (some ⟨w.heap.size, 0, none⟩) n n xs :=
  Sl.of_row xs n n (g := w.heap.size) (E := E) (fr := (0, 0)) (cur := cur) (heap_new w _) hl (Nat.le_refl _) (by rw [hx, List.take_of_length_le (by simp [hl])])

theorem Sl.of_own {α : Type} {f : α → Value} {w : World} {base : Nat} {E : TypeId} {v : Value} {n : Nat} (xs : List α) (h : w.ownsRow base E 1 v n (xs.map f)) :
    ∃ a c, v = .slice a n c ∧ Sl f w a n c xs := by
  obtain ⟨hl, hv⟩ := h
  have hl' : xs.length = n := by simpa using hl
  rcases hv with ⟨rfl, rfl⟩ | ⟨g, cap, cur, rfl, hg, hh, hn, hcap, hsz, htake⟩
  · have : xs = [] := List.eq_nil_of_length_eq_zero hl'
    subst this
    exact ⟨none, 0, rfl, Sl.nil f w⟩
  · exact ⟨_, _, rfl, Sl.of_row xs n cap hh hl' hn (by simpa using htake)⟩

theorem Sl.drew {α : Type} {f : α → Value} {w : World} {a : Option Addr} {n c : Nat} {xs : List α} (h : Sl f w a n c xs) : Sl f w.drew a n c xs := h
theorem Sl.drewN {α : Type} {f : α → Value} {w : World} {a : Option Addr} {n c : Nat} {xs : List α} (h : Sl f w a n c xs) (k : Nat) : Sl f (w.drewN k) a n c xs := h

theorem src_of {α : Type} {f : α → Value} {w : World} {a : Option Addr} {n c : Nat} {xs : List α} (h : Sl f w a n c xs) :
    (a = none → n = 0 ∧ c = 0) ∧ ∀ ad, a = some ad → ∀ j u, (xs.map f)[j]? = some u → w.cell? (ad.add j) = some u := by
  refine ⟨fun e => ?_, fun ad e j u hj => ?_⟩
  · subst e; exact ⟨h.none_eq.1, h.none_eq.2.1⟩
  · rw [List.getElem?_map] at hj
    cases hx : xs[j]? with
    | none => rw [hx] at hj; cases hj
    | some x =>
      rw [hx] at hj; cases hj
      obtain ⟨b, o, e', hc⟩ := h.2.2.2 j x hx
      rw [e] at e'; cases e'
      have : (⟨b, o, none⟩ : Addr).add j = ⟨b, o + j, none⟩ := by unfold Addr.add; split <;> simp_all
      rw [this]; exact hc

theorem Sl.map {α : Type} {f : α → Value} {w : World} {a : Option Addr} {n c : Nat} {xs : List α} (h : Sl f w a n c xs) : Sl id w a n c (xs.map f) := by
  refine ⟨by rw [List.length_map]; exact h.1, h.2.1, h.2.2.1, fun i u hu => ?_⟩
  rw [List.getElem?_map] at hu
  cases hx : xs[i]? with
  | none => rw [hx] at hu; cases hu
  | some x => rw [hx] at hu; cases hu; exact h.2.2.2 i x hx

/-! ### the element type -/
structure Elt (P : Program) (t e : TypeId) (z : Value) (bytes : Nat) : Prop where
  ht : P.underlying t = some (.slice e)
  hi : (P.info? e).map (fun i => (i.zero, i.size, i.bytes)) = some (some z, 1, bytes)
  hz : z.cells.size = 1

section
variable {P : Program} {t e : TypeId} {z : Value} {bytes : Nat}

theorem wpList_w {ops : Array Oper} {rest : List Oper} {o : Oper} {a : Act} {Q : Exit → Act → World → Prop} {w : World} (hw : Region.wanted o (yielded ops a.tmps) = true)
    (h : ∀ K : Act → World → Prop, (∀ a w, wpList P ops Q rest a w → K a w) → o.wp P a w K Q) : wpList P ops Q (o :: rest) a w :=
  wpList_step fun K hK => by rw [if_pos hw]; exact h K hK

/-- make([]T, 0, n) -/
theorem wpList_mk0 (E : Elt P t e z bytes) {ops : Array Oper} {rest : List Oper} {o : Oper} {a : Act} {Q : Exit → Act → World → Prop} {w : World} (hw : Region.wanted o (yielded ops a.tmps) = true) (l c : Operand)
    (ho : o.op = Op.makeSlice t l c) (base n : Nat) {kl kc : IntKind} {C : Int} (hl : a.eval l = .int kl 0) (hc : a.eval c = .int kc C) (hC : C = (n : Int)) (hb : bytes * n ≤ 281474976710656) (hm : n ≤ maxLen) (hbase : base ≤ w.heap.size)
    (h : ∀ w', w'.ownsRow base e 1 (.slice (some ⟨w.heap.size, 0, none⟩) 0 n) 0 [] → Below w.heap.size w w' → wpList P ops Q rest (a.put o.dst (.slice (some ⟨w.heap.size, 0, none⟩) 0 n)) w') : wpList P ops Q (o :: rest) a w := by
  obtain ⟨ht, hi, hz⟩ := E
  obtain ⟨i, hi1, hi2, hi3, hi4⟩ := info_parts hi
  refine wpList_w hw fun K hK => ?_
  obtain ⟨w', hrun, r1, r2⟩ := run_make_own (P := P) w base t e i z 1 ht hi1 hi2 hi3 kl kc n (by rw [hi4]; exact hb) hm hbase
  subst hC
  unfold Oper.wp
  simp [execOp, ho, hl, hc, hrun, Result.andThen]
  exact hK _ _ (h w' r1 ((Below.refl _ _).grown r2 (Nat.le_refl _) (by simp)))

/-- append within the capacity -/
theorem wpList_fit (E : Elt P t e z bytes) {α : Type} {f : α → Value} {ops : Array Oper} {rest : List Oper} {o : Oper} {a : Act} {Q : Exit → Act → World → Prop} {w : World} (hw : Region.wanted o (yielded ops a.tmps) = true) (s x : Operand)
    (ho : o.op = .call { callee := .builtin .append, args := #[s, x], argTypes := #[t, t] }) (base g k cap : Nat) (xs : List Value) (hs : a.eval s = .slice (some ⟨g, 0, none⟩) k cap)
    (hown : w.ownsRow base e 1 (.slice (some ⟨g, 0, none⟩) k cap) k xs) (aa : Option Addr) (m c : Nat) (news : List α) (hx : a.eval x = .slice aa m c) (hsl : Sl f w aa m c news) (h1 : ∀ u ∈ news.map f, u.oneCell' = true) (r : Nat) (hr : k + m = r) (hrc : r ≤ cap) (hbase : base ≤ w.heap.size) (ys : List Value) (hy : xs ++ news.map f = ys)
    (h : ∀ w', w'.ownsRow base e 1 (.slice (some ⟨g, 0, none⟩) r cap) r ys → w.grownBy w' (some g) → Below base w w' → wpList P ops Q rest (a.put o.dst (.slice (some ⟨g, 0, none⟩) r cap)) w') : wpList P ops Q (o :: rest) a w := by
  obtain ⟨ht, hi, hz⟩ := E
  obtain ⟨i, hi1, hi2, hi3, hi4⟩ := info_parts hi
  have hsrc := src_of hsl
  subst hr hy
  refine wpList_w hw fun K hK => ?_
  unfold Oper.wp
  cases aa with
  | none =>
    obtain ⟨rfl, rfl⟩ := hsrc.1 rfl
    have hnews : news = [] := List.eq_nil_of_length_eq_zero hsl.1
    subst hnews
    have hrun := run_append_owned_none (P := P) (w := w) base t o.type e i 1 ht hi1 _ k xs hown
    simp [execOp, ho, resolve, invoke, builtin, hs, hx, hrun, Result.andThen]
    exact hK _ _ (by simpa using h w (by simpa using hown) (World.grownBy.refl _ _) (Below.refl _ _))
  | some ad =>
    obtain ⟨w', hrun, r1, r2⟩ := run_append_fits (P := P) w base t o.type e i 1 ht hi1 hi3 g k cap xs hown ad m c (news.map f) (by rw [List.length_map, hsl.1]; omega) (hsrc.2 ad rfl) h1 hrc
    simp [execOp, ho, resolve, invoke, builtin, hs, hx, hrun, Result.andThen]
    exact hK _ _ (h w' r1 r2 ((Below.refl _ _).grown r2 hbase (fun k hk => (hown.lt k hk).1)))

/-- the run of s[l:h] -/
theorem run_cut (E : Elt P t e z bytes) (w : World) (aa : Option Addr) (n c : Nat) (k1 k2 : IntKind) (l r : Nat) (hlr : l ≤ r) (hr : r ≤ c) :
    (Instr.slice t (.slice aa n c) (some (.int k1 l)) (some (.int k2 r)) none).run P w = .ok (.slice (adv aa c l) (r - l) (c - l)) w := by
  obtain ⟨ht, hi, hz⟩ := E
  obtain ⟨i, hi1, hi2, hi3, hi4⟩ := info_parts hi
  simp [Instr.slice, run_underlying ht, Instr.sliceBounds, Instr.sliceBound, asIntOf, sizeOf, typeInfo, hi1, hi3, hlr, hr, adv]
theorem run_cutfrom (E : Elt P t e z bytes) (w : World) (aa : Option Addr) (n c : Nat) (k1 : IntKind) (l : Nat) (hl : l ≤ n) :
    (Instr.slice t (.slice aa n c) (some (.int k1 l)) none none).run P w = .ok (.slice (adv aa c l) (n - l) (c - l)) w := by
  obtain ⟨ht, hi, hz⟩ := E
  obtain ⟨i, hi1, hi2, hi3, hi4⟩ := info_parts hi
  simp [Instr.slice, run_underlying ht, Instr.sliceBounds, Instr.sliceBound, asIntOf, sizeOf, typeInfo, hi1, hi3, hl, adv]
theorem run_cutto (E : Elt P t e z bytes) (w : World) (aa : Option Addr) (n c : Nat) (k2 : IntKind) (r : Nat) (hr : r ≤ c) :
    (Instr.slice t (.slice aa n c) none (some (.int k2 r)) none).run P w = .ok (.slice aa r c) w := by
  obtain ⟨ht, hi, hz⟩ := E
  obtain ⟨i, hi1, hi2, hi3, hi4⟩ := info_parts hi
  cases aa <;> simp [Instr.slice, run_underlying ht, Instr.sliceBounds, Instr.sliceBound, asIntOf, sizeOf, typeInfo, hi1, hr, Addr.add]
end

theorem keep_drewN {b : Nat} {w w1 : World} (h : Below b w w1) (n : Nat) : Below b w (w1.drewN n) := ⟨h.os, h.tape, h.output, h.size, h.block⟩

/-- nothing has turned but the count of answers -/
def Drw (w w' : World) : Prop := ∃ m, w' = w.drewN m
theorem Drw.refl (w : World) : Drw w w := ⟨0, rfl⟩
theorem Drw.more {w w1 : World} (h : Drw w w1) (n : Nat) : Drw w (w1.drewN n) := by obtain ⟨m, rfl⟩ := h; exact ⟨m + n, by rw [World.drewN_drewN]⟩
theorem Drw.below {w w1 : World} (h : Drw w w1) : Below w.heap.size w w1 := by obtain ⟨m, rfl⟩ := h; exact keep_drewN (Below.refl _ _) m
theorem Drw.trans {w w1 w2 : World} (h : Drw w w1) (k : Drw w1 w2) : Drw w w2 := by obtain ⟨m, rfl⟩ := k; exact h.more m
theorem Calls.quiet_of_drw {P : Program} {f : FuncId} {args : Array Value} {w : World} {n : Nat} {v : Value}
    (h : Calls P f args (w.drewN n) fun e w' => e = .returned v ∧ Drw (w.drewN n) w') : Calls P f args (w.drewN n) fun e w'' => e = .returned v ∧ ∃ m, w'' = w.drewN m :=
  Calls.quiet_of (h.mono fun _ _ ⟨he, hm⟩ => ⟨he, hm⟩)

/-- what was there is there: nothing of it has turned -/
theorem keep_trans {w w1 w2 : World} (h : Below w.heap.size w w1) (k : Below w1.heap.size w1 w2) : Below w.heap.size w w2 := h.trans (k.mono h.size)

end Go.Proofs.YtljcogimeimknaaGreat
/- Rows of typed elements of the call's own: what append, make and literals leave, spare places too; over any program. No condition. -/
namespace Go.Proofs.YtljcogimeimknaaGreat
set_option linter.unusedVariables false
open Go.RowKit

theorem flat_length {α : Type} {f : α → List Value} {k : Nat} (hf : ∀ x, (f x).length = k) : ∀ ys : List α, (ys.flatMap f).length = ys.length * k
  | [] => by simp
  | y :: ys => by simp only [List.flatMap_cons, List.length_append, hf, flat_length hf ys, List.length_cons]; rw [Nat.add_mul, Nat.one_mul, Nat.add_comm]
theorem flat_take {α : Type} {f : α → List Value} {k : Nat} (hf : ∀ x, (f x).length = k) : ∀ (ys : List α) (n : Nat), (ys.flatMap f).take (n * k) = (ys.take n).flatMap f
  | [], n => by simp
  | y :: ys, 0 => by simp
  | y :: ys, n + 1 => by
    simp only [List.flatMap_cons, List.take_succ_cons]
    rw [Nat.add_mul, Nat.one_mul, Nat.add_comm, List.take_append, hf, List.take_of_length_le (by rw [hf]; omega), show k + n * k - k = n * k from by omega, flat_take hf ys n]
theorem flat_drop {α : Type} {f : α → List Value} {k : Nat} (hf : ∀ x, (f x).length = k) : ∀ (ys : List α) (n : Nat), (ys.flatMap f).drop (n * k) = (ys.drop n).flatMap f
  | [], n => by simp
  | y :: ys, 0 => by simp
  | y :: ys, n + 1 => by
    simp only [List.flatMap_cons, List.drop_succ_cons]
    rw [Nat.add_mul, Nat.one_mul, Nat.add_comm, List.drop_append, hf, List.drop_eq_nil_of_le (by rw [hf]; omega), show k + n * k - k = n * k from by omega, flat_drop hf ys n]; rfl
theorem flat_get {α : Type} {f : α → List Value} {k : Nat} (hf : ∀ x, (f x).length = k) : ∀ (ys : List α) (i : Nat) (x : α) (j : Nat) (v : Value), ys[i]? = some x → (f x)[j]? = some v → (ys.flatMap f)[i * k + j]? = some v
  | [], i, x, j, v, hx, _ => by simp at hx
  | y :: ys, 0, x, j, v, hx, hv => by
    simp at hx; subst hx
    simp only [List.flatMap_cons, Nat.zero_mul, Nat.zero_add]
    rw [List.getElem?_append_left (List.getElem?_eq_some_iff.1 hv).1]; exact hv
  | y :: ys, i + 1, x, j, v, hx, hv => by
    simp only [List.getElem?_cons_succ] at hx
    simp only [List.flatMap_cons]
    rw [List.getElem?_append_right (by rw [hf, Nat.add_mul]; omega), hf, show (i + 1) * k + j - k = i * k + j from by rw [Nat.add_mul]; omega]
    exact flat_get hf ys i x j v hx hv
theorem flat_inv {α : Type} {f : α → List Value} {k : Nat} (hf : ∀ x, (f x).length = k) (hk : 0 < k) : ∀ (ys : List α) (i : Nat) (v : Value), (ys.flatMap f)[i]? = some v → ∃ x, ys[i / k]? = some x ∧ (f x)[i % k]? = some v
  | [], i, v, h => by simp at h
  | y :: ys, i, v, h => by
    simp only [List.flatMap_cons] at h
    by_cases hi : i < k
    · rw [List.getElem?_append_left (by rw [hf]; exact hi)] at h
      exact ⟨y, by rw [Nat.div_eq_of_lt hi]; rfl, by rw [Nat.mod_eq_of_lt hi]; exact h⟩
    · rw [List.getElem?_append_right (by rw [hf]; omega), hf] at h
      obtain ⟨x, h1, h2⟩ := flat_inv hf hk ys _ v h
      refine ⟨x, ?_, ?_⟩
      · have : i / k = (i - k) / k + 1 := by rw [Nat.sub_eq_of_eq_add (Nat.add_comm _ _ ▸ (Nat.sub_add_cancel (Nat.le_of_not_lt hi)).symm : i = (i - k) + k)] <;> exact (Nat.div_eq_sub_div hk (by omega))
        rw [this]; simpa using h1
      · have : i % k = (i - k) % k := (Nat.mod_eq_sub_mod (by omega))
        rw [this]; exact h2

/-- a slice of elements of k cells each reads as xs -/
def SlT {α : Type} (f : α → List Value) (k : Nat) (w : World) (a : Option Addr) (n c : Nat) (xs : List α) : Prop :=
  xs.length = n ∧ n ≤ c ∧ (a = none → c = 0) ∧ ∀ i x, xs[i]? = some x → ∃ b o, a = some ⟨b, o, none⟩ ∧ ∀ j v, (f x)[j]? = some v → w.cell? ⟨b, o + i * k + j, none⟩ = some v

theorem Sl.toT {α : Type} {g : α → Value} {w : World} {a : Option Addr} {n c : Nat} {xs : List α} (h : Sl g w a n c xs) : SlT (fun x => [g x]) 1 w a n c xs := by
  refine ⟨h.1, h.2.1, h.2.2.1, fun i x hx => ?_⟩
  obtain ⟨b, o, ha, hc⟩ := h.2.2.2 i x hx
  refine ⟨b, o, ha, fun j v hv => ?_⟩
  obtain rfl : j = 0 := by have := (List.getElem?_eq_some_iff.1 hv).1; simpa using this
  simp at hv; subst hv
  simpa using hc
theorem SlT.to1 {α : Type} {g : α → Value} {w : World} {a : Option Addr} {n c : Nat} {xs : List α} (h : SlT (fun x => [g x]) 1 w a n c xs) : Sl g w a n c xs := by
  refine ⟨h.1, h.2.1, h.2.2.1, fun i x hx => ?_⟩
  obtain ⟨b, o, ha, hc⟩ := h.2.2.2 i x hx
  exact ⟨b, o, ha, by simpa using hc 0 (g x) rfl⟩

theorem SlT.of_block {α : Type} {f : α → List Value} {k : Nat} {w w' : World} {a : Option Addr} {n c : Nat} {xs : List α} (h : SlT f k w a n c xs)
    (hb : ∀ b o, a = some ⟨b, o, none⟩ → 0 < n → w'.heap[b]? = w.heap[b]?) : SlT f k w' a n c xs := by
  obtain ⟨h1, h2, h3, h4⟩ := h
  refine ⟨h1, h2, h3, fun i x hx => ?_⟩
  obtain ⟨b, o, ha, hc⟩ := h4 i x hx
  have hi : i < xs.length := (List.getElem?_eq_some_iff.1 hx).1
  exact ⟨b, o, ha, fun j v hv => by rw [World.cell?_of_block (w := w) (hb b o ha (by omega))]; exact hc j v hv⟩
theorem SlT.keep {α : Type} {f : α → List Value} {k : Nat} (hf : ∀ x, (f x).length = k) (hk : 0 < k) {w w' : World} {a : Option Addr} {n c : Nat} {xs : List α} (h : SlT f k w a n c xs) (hb : Below w.heap.size w w') : SlT f k w' a n c xs :=
  h.of_block fun b o ha hn => by
    have hl : 0 < xs.length := by rw [h.1]; exact hn
    obtain ⟨b', o', e, hc⟩ := h.2.2.2 0 xs[0] (List.getElem?_eq_getElem hl)
    rw [ha] at e; cases e
    have h0 : 0 < (f xs[0]).length := by rw [hf]; exact hk
    exact hb.block b (cell_lt (hc 0 _ (List.getElem?_eq_getElem h0)))

/-- a row of the call's own: nil with nothing in it, or from the head of a block that holds typed elements up to its end -/
def OwT {α : Type} (f : α → List Value) (w : World) (base : Nat) (e : TypeId) (v : Value) (xs : List α) : Prop :=
  (v = .slice none 0 0 ∧ xs = []) ∨
  ∃ (g cap : Nat) (ys : List α), v = .slice (some ⟨g, 0, none⟩) xs.length cap ∧ base ≤ g ∧ w.heap[g]? = some (.cells (ys.flatMap f).toArray e (0, 0)) ∧ ys.length = cap ∧ xs.length ≤ cap ∧ cap ≤ maxLen ∧ ys.take xs.length = xs

theorem OwT.sl {α : Type} {f : α → List Value} {k : Nat} (hf : ∀ x, (f x).length = k) {w : World} {base : Nat} {e : TypeId} {v : Value} {xs : List α} (h : OwT f w base e v xs) :
    ∃ a c, v = .slice a xs.length c ∧ SlT f k w a xs.length c xs := by
  rcases h with ⟨rfl, rfl⟩ | ⟨g, cap, ys, rfl, hg, hh, hl, hn, hc, ht⟩
  · exact ⟨none, 0, rfl, rfl, Nat.le_refl _, fun _ => rfl, fun _ _ h => by simp at h⟩
  · refine ⟨_, cap, rfl, rfl, hn, by simp, fun i x hx => ⟨g, 0, rfl, fun j v hv => ?_⟩⟩
    have hi : i < xs.length := (List.getElem?_eq_some_iff.1 hx).1
    have hy : ys[i]? = some x := by rw [← ht] at hx; rwa [List.getElem?_take_of_lt hi] at hx
    simp only [World.cell?, hh, Nat.zero_add]
    simpa using flat_get hf ys i x j v hy hv

theorem OwT.lt {α : Type} {f : α → List Value} {w : World} {base : Nat} {e : TypeId} {v : Value} {xs : List α} (h : OwT f w base e v xs) : ∀ j, v.ownBlock = some j → base ≤ j ∧ j < w.heap.size := by
  intro j hj
  rcases h with ⟨rfl, rfl⟩ | ⟨g, cap, ys, rfl, hg, hh, _⟩
  · simp [Value.ownBlock] at hj
  · simp [Value.ownBlock] at hj; subst hj
    refine ⟨hg, ?_⟩
    rcases Nat.lt_or_ge g w.heap.size with h' | h'
    · exact h'
    · rw [Array.getElem?_eq_none h'] at hh; cases hh

theorem OwT.of_block {α : Type} {f : α → List Value} {w w' : World} {base : Nat} {e : TypeId} {v : Value} {xs : List α} (h : OwT f w base e v xs) (hb : ∀ g, v.ownBlock = some g → w'.heap[g]? = w.heap[g]?) : OwT f w' base e v xs := by
  rcases h with h | ⟨g, cap, ys, rfl, hg, hh, r⟩
  · exact .inl h
  · exact .inr ⟨g, cap, ys, rfl, hg, (hb g rfl).trans hh, r⟩
theorem OwT.keep {α : Type} {f : α → List Value} {w w' : World} {base : Nat} {e : TypeId} {v : Value} {xs : List α} (h : OwT f w base e v xs) (hb : Below w.heap.size w w') : OwT f w' base e v xs :=
  h.of_block fun g hg => hb.block g (h.lt g hg).2
theorem OwT.grown {α : Type} {f : α → List Value} {w w' : World} {row : Option Nat} {base : Nat} {e : TypeId} {v : Value} {xs : List α} (h : OwT f w base e v xs) (hb : w.grownBy w' row) (hne : v.ownBlock = none ∨ row ≠ v.ownBlock) : OwT f w' base e v xs :=
  h.of_block fun g hg => hb.block g (h.lt g hg).2 (fun e => by rcases hne with h' | h'; · rw [h'] at hg; cases hg
                                                               · exact h' (e.symm.trans hg.symm))
theorem OwT.base {α : Type} {f : α → List Value} {w : World} {base base' : Nat} {e : TypeId} {v : Value} {xs : List α} (h : OwT f w base e v xs) (hb : base' ≤ base) : OwT f w base' e v xs := by
  rcases h with h | ⟨g, cap, ys, rfl, hg, r⟩
  · exact .inl h
  · exact .inr ⟨g, cap, ys, rfl, Nat.le_trans hb hg, r⟩
theorem OwT.drew {α : Type} {f : α → List Value} {w : World} {base : Nat} {e : TypeId} {v : Value} {xs : List α} (h : OwT f w base e v xs) : OwT f w.drew base e v xs := h
theorem OwT.drewN {α : Type} {f : α → List Value} {w : World} {base : Nat} {e : TypeId} {v : Value} {xs : List α} (h : OwT f w base e v xs) (n : Nat) : OwT f (w.drewN n) base e v xs := h
theorem OwT.nil {α : Type} (f : α → List Value) (w : World) (base : Nat) (e : TypeId) : OwT f w base e (.slice none 0 0) ([] : List α) := .inl ⟨rfl, rfl⟩
theorem OwT.alloc {α : Type} {f : α → List Value} {w : World} {base : Nat} {e : TypeId} {v : Value} {xs : List α} (h : OwT f w base e v xs) (o : Obj) : OwT f (w.alloc o) base e v xs :=
  h.keep ((Below.refl _ _).alloc (Nat.le_refl _) o)
/-- a literal -/
theorem OwT.lit {α : Type} (f : α → List Value) (w : World) (base : Nat) (e : TypeId) (cur : Array Value) (xs : List α) (n : Nat) (hl : xs.length = n) (hx : cur.toList = xs.flatMap f) (hb : base ≤ w.heap.size) (hm : n ≤ maxLen) :
    OwT f (w.alloc (.cells cur e)) base e (.slice (some ⟨w.heap.size, 0, none⟩) n n) xs := by
  subst hl
  exact .inr ⟨w.heap.size, xs.length, xs, rfl, hb, by rw [heap_new, ← hx], rfl, Nat.le_refl _, hm, List.take_of_length_le (Nat.le_refl _)⟩

/-! ### the element type -/
structure EltT {α : Type} (P : Program) (t e : TypeId) (f : α → List Value) (k bytes : Nat) : Prop where
  ht : P.underlying t = some (.slice e)
  hi : ∃ i z, P.info? e = some i ∧ i.zero = some z ∧ i.size = k ∧ i.bytes = bytes ∧ ∃ x0, z.cells.toList = f x0
  hf : ∀ x, (f x).length = k
  hk : 0 < k
  h1 : ∀ x, ∀ u ∈ f x, u.oneCell' = true

theorem EltT.mk1 {α : Type} {P : Program} {t e : TypeId} {g : α → Value} {bytes : Nat} {z : Value} (ht : P.underlying t = some (.slice e))
    (hi : (P.info? e).map (fun i => (i.zero, i.size, i.bytes)) = some (some z, 1, bytes)) (x0 : α) (hz : z.cells.toList = [g x0]) (h1 : ∀ x, (g x).oneCell' = true) : EltT P t e (fun x => [g x]) 1 bytes := by
  obtain ⟨i, hi1, hi2, hi3, hi4⟩ := info_parts hi
  exact ⟨ht, ⟨i, z, hi1, hi2, hi3, hi4, x0, hz⟩, fun _ => rfl, by decide, fun x u hu => by simp at hu; subst hu; exact h1 x⟩

theorem zero_flat {α : Type} {f : α → List Value} {k : Nat} {z : Value} {x0 : α} (hf : (f x0).length = k) (hk : 0 < k) (hz : z.cells.toList = f x0) (n : Nat) : (Builtin.zeroCells z.cells n).toList = (List.replicate n x0).flatMap f := by
  have hsz : z.cells.size = k := by rw [← Array.length_toList, hz]; exact hf
  apply List.ext_getElem?
  intro i
  have hl1 : (Builtin.zeroCells z.cells n).toList.length = n * k := by rw [Array.length_toList, size_zeroCells, hsz]
  have hl2 : ((List.replicate n x0).flatMap f).length = n * k := by
    induction n with
    | zero => simp
    | succ n ih => rw [List.replicate_succ, List.flatMap_cons, List.length_append, hf, ih (by rw [Array.length_toList, size_zeroCells, hsz]), Nat.add_mul, Nat.one_mul, Nat.add_comm]
  by_cases hi : i < n * k
  · have hik : i % k < k := Nat.mod_lt _ hk
    have hdiv : i / k < n := Nat.div_lt_of_lt_mul (by rw [Nat.mul_comm]; exact hi)
    have e1 : (Builtin.zeroCells z.cells n).toList[i]? = (f x0)[i % k]? := by
      have hlen : i < (List.range (n * z.cells.size)).length := by rw [List.length_range, hsz]; exact hi
      simp only [Builtin.zeroCells, Array.toList_map, Array.toList_range, List.getElem?_map]
      rw [List.getElem?_eq_getElem hlen, List.getElem_range, hsz, ← hz]
      have hm : i % k < z.cells.size := by rw [hsz]; exact hik
      simp [hm]
    have hj : ∃ v, (f x0)[i % k]? = some v := ⟨_, List.getElem?_eq_getElem (by rw [hf]; exact hik)⟩
    obtain ⟨v, hv⟩ := hj
    rw [e1, hv]
    have : ∀ (n i : Nat), i < n * k → ((List.replicate n x0).flatMap f)[i]? = (f x0)[i % k]? := by
      intro n
      induction n with
      | zero => intro i h; simp at h
      | succ n ih =>
        intro i h
        rw [List.replicate_succ, List.flatMap_cons]
        by_cases hlt : i < k
        · rw [List.getElem?_append_left (by rw [hf]; exact hlt), Nat.mod_eq_of_lt hlt]
        · rw [List.getElem?_append_right (by rw [hf]; omega), hf, ih (i - k) (by rw [Nat.add_mul] at h; omega), ← Nat.mod_eq_sub_mod (by omega)]
    rw [this n i hi, hv]
  · rw [List.getElem?_eq_none (by omega), List.getElem?_eq_none (by omega)]

section
variable {α : Type} {f : α → List Value} {P : Program} {t e : TypeId} {k bytes : Nat}

theorem SlT.news {w : World} {q : Addr} {m c : Nat} {news : List α} (hf : ∀ x, (f x).length = k) (hk : 0 < k) (hx : SlT f k w (some q) m c news) :
    ∀ j u, (news.flatMap f)[j]? = some u → w.cell? (q.add j) = some u := by
  intro j u hj
  obtain ⟨x, h1, h2⟩ := flat_inv hf hk news j u hj
  obtain ⟨b, o, hq, hc⟩ := hx.2.2.2 _ x h1
  cases hq
  have e1 := hc _ _ h2
  have e2 : o + j / k * k + j % k = o + j := by have := Nat.div_add_mod j k; rw [Nat.mul_comm] at this; omega
  rw [e2] at e1
  have : (⟨b, o, none⟩ : Addr).add j = ⟨b, o + j, none⟩ := by unfold Addr.add; split <;> simp_all
  rw [this]; exact e1

/-- however the row grew to this length, its new capacity is within the largest allocation -/
def Fits (need bytes : Nat) : Prop := ∀ old, old < need → Builtin.nextslicecap need old * bytes ≤ 281474976710656
theorem Fits.half {need bytes : Nat} (hb : need * bytes ≤ 140737488355328) : Fits need bytes := fun _ h => growslice_fits h hb
theorem Fits.wide {need bytes : Nat} (hb : (need + need / 4 + 192) * bytes ≤ 281474976710656) : Fits need bytes := fun _ h => growslice_fits_wide h hb

theorem run_appG (E : EltT P t e f k bytes) (w : World) (ty : TypeId) (base : Nat) (v : Value) (xs : List α) (hown : OwT f w base e v xs) (aa : Option Addr) (m c : Nat) (news : List α)
    (hx : SlT f k w aa m c news) (h63 : xs.length + m ≤ maxLen) (hbytes : Fits (xs.length + m) bytes) (hbase : base ≤ w.heap.size) :
    ∃ v' w', (Builtin.append_ #[t, t] ty #[v, .slice aa m c]).run P w = .ok v' w' ∧ OwT f w' base e v' (xs ++ news) ∧ w.grownBy w' v.ownBlock ∧
      (v'.ownBlock = v.ownBlock ∨ v'.ownBlock = some w.heap.size) := by
  obtain ⟨ht, ⟨i, z, hi1, hi2, hi3, hi4, x0, hz⟩, hf, hk, h1⟩ := E
  subst hi3; subst hi4
  have hml : news.length = m := hx.1
  cases aa with
  | none =>
    have hc0 := hx.2.2.1 rfl
    have hm0 : m = 0 := by have := hx.2.1; omega
    subst hm0 hc0
    have hn : news = [] := List.eq_nil_of_length_eq_zero hml
    subst hn
    refine ⟨v, w, ?_, by simpa using hown, World.grownBy.refl _ _, .inl rfl⟩
    rcases hown with ⟨rfl, rfl⟩ | ⟨g, cap, ys, rfl, hg, hh, hl, hn, hc, htk⟩
    · simp [Builtin.append_, run_underlying ht, sizeOf, typeInfo, hi1, Builtin.lenOf, Builtin.firstCells]
    · simp [Builtin.append_, run_underlying ht, sizeOf, typeInfo, hi1, Builtin.lenOf, Builtin.firstCells, hn]
      rfl
  | some q =>
    have hnews := hx.news hf hk
    have hlen : (news.flatMap f).length = m * i.size := by rw [flat_length hf, hml]
    have hone : ∀ u ∈ news.flatMap f, u.oneCell' = true := by
      intro u hu; obtain ⟨x, _, hxu⟩ := List.mem_flatMap.1 hu; exact h1 x u hxu
    have hsmall : xs.length + m ≤ 9223372036854775807 := by simp only [maxLen] at h63; omega
    have grown : ∀ (old : Nat) (row : Option Nat),
        OwT f (w.drew.alloc (.cells ((xs.flatMap f).toArray ++ (news.flatMap f).toArray ++ Builtin.zeroCells z.cells (grownCap w (xs.length + m) old e - (xs.length + m))) e)) base e
          (.slice (some ⟨w.heap.size, 0, none⟩) (xs.length + m) (grownCap w (xs.length + m) old e)) (xs ++ news) ∧
        w.grownBy (w.drew.alloc (.cells ((xs.flatMap f).toArray ++ (news.flatMap f).toArray ++ Builtin.zeroCells z.cells (grownCap w (xs.length + m) old e - (xs.length + m))) e)) row := by
      intro old row
      have hge := grownCap_ge w (xs.length + m) old e
      have hcm : grownCap w (xs.length + m) old e ≤ maxLen := grownCap_le_maxLen w (xs.length + m) old e h63
      refine ⟨.inr ⟨w.heap.size, _, xs ++ news ++ List.replicate (grownCap w (xs.length + m) old e - (xs.length + m)) x0, by rw [List.length_append, hml], hbase, ?_, ?_, ?_, hcm, ?_⟩, ⟨rfl, rfl, rfl, by simp, fun j hj _ => Below.heap_alloc w.drew _ j hj⟩⟩
      · have : (w.drew.alloc (.cells ((xs.flatMap f).toArray ++ (news.flatMap f).toArray ++ Builtin.zeroCells z.cells (grownCap w (xs.length + m) old e - (xs.length + m))) e)).heap[w.heap.size]? = _ := heap_new w.drew _
        rw [this]
        congr 2
        apply Array.ext'
        simp only [Array.toList_append, List.flatMap_append, zero_flat (hf x0) hk hz]
      · simp [hml]; omega
      · simp [hml]; omega
      · rw [List.append_assoc, ← List.append_assoc]; exact List.take_left
    rcases hown with ⟨rfl, rfl⟩ | ⟨g, cap, ys, rfl, hbg, hh, hl, hn, hcm, htk⟩
    · by_cases hm : m = 0
      · subst hm
        have hn : news = [] := List.eq_nil_of_length_eq_zero hml
        subst hn
        refine ⟨.slice none 0 0, w, ?_, .inl ⟨rfl, rfl⟩, World.grownBy.refl _ _, .inl rfl⟩
        simp [Builtin.append_, run_underlying ht, sizeOf, typeInfo, hi1, Builtin.lenOf, Builtin.firstCells, loadCells, loadCellsFrom]
      · have hr := run_append_nil (P := P) w t ty e i z ht hi1 hi2 q m c (news.flatMap f) hlen hnews (by omega) (by simp at hsmall; omega) (by have hb := hbytes 0 (by simp; omega); simp only [List.length_nil, Nat.zero_add] at hb; rw [nextslicecap_zero (by omega)] at hb; exact hb)
        have hgr := grown 0 (Value.ownBlock (.slice none 0 0))
        simp only [List.length_nil, Nat.zero_add, List.flatMap_nil, List.nil_append, Array.empty_append] at hgr ⊢
        exact ⟨_, _, hr, hgr.1, hgr.2, .inr rfl⟩
    · by_cases hroom : xs.length + m ≤ cap
      · have hcs : (ys.flatMap f).toArray.size = cap * i.size := by rw [List.size_toArray, flat_length hf, hl]
        have hfit : xs.length * i.size + (news.flatMap f).length ≤ (ys.flatMap f).toArray.size := by rw [hcs, hlen, ← Nat.add_mul]; exact Nat.mul_le_mul_right _ hroom
        have hr := run_append_room (P := P) w t ty e i ht hi1 g xs.length cap _ hh q m c (news.flatMap f) hlen hnews hone hroom hfit
        refine ⟨_, _, hr, .inr ⟨g, cap, xs ++ news ++ ys.drop (xs.length + m), by rw [List.length_append, hml], hbg, ?_, ?_, by rw [List.length_append, hml]; exact hroom, hcm, ?_⟩, ⟨rfl, rfl, rfl, by simp, fun k _ hk => setRow_other w g k _ (fun e => hk (by simp [Value.ownBlock, e]))⟩, .inl rfl⟩
        · rw [setRow_heap w g _ _ e _ hh]
          congr 2
          apply Array.ext'
          rw [hlen, ← Nat.add_mul, flat_take hf, flat_drop hf, htk]
          simp
        · simp [hml, hl]; omega
        · rw [List.append_assoc, ← List.append_assoc]; exact List.take_left
      · have holds : ∀ j u, (xs.flatMap f)[j]? = some u → w.cell? ((⟨g, 0, none⟩ : Addr).add j) = some u := by
          intro j u hj
          have hadd : (⟨g, 0, none⟩ : Addr).add j = ⟨g, j, none⟩ := by unfold Addr.add; split <;> simp_all
          rw [hadd]
          simp only [World.cell?, hh]
          have : (ys.flatMap f)[j]? = some u := by
            have hlt := (List.getElem?_eq_some_iff.1 hj).1
            rw [← htk, ← flat_take hf, List.getElem?_take_of_lt] at hj
            · exact hj
            · rw [flat_length hf] at hlt; exact hlt
          simpa using this
        have hr := run_append_grow (P := P) w t ty e i z ht hi1 hi2 ⟨g, 0, none⟩ xs.length cap (xs.flatMap f) (flat_length hf xs) holds q m c (news.flatMap f) hlen hnews (by omega) (by omega) (hbytes _ (by omega))
        have hgr := grown cap (Value.ownBlock (.slice (some ⟨g, 0, none⟩) xs.length cap))
        exact ⟨_, _, hr, hgr.1, hgr.2, .inr rfl⟩


theorem wp_appG (E : EltT P t e f k bytes) {o : Oper} {a : Act} {K : Act → World → Prop} {Q : Exit → Act → World → Prop} {w : World} (s x : Operand)
    (ho : o.op = .call { callee := .builtin .append, args := #[s, x], argTypes := #[t, t] }) (base : Nat) (v : Value) (xs : List α) (hs : a.eval s = v) (hown : OwT f w base e v xs)
    (aa : Option Addr) (m c : Nat) (news : List α) (hx : a.eval x = .slice aa m c) (hsl : SlT f k w aa m c news)
    (h63 : xs.length + m ≤ maxLen) (hbytes : Fits (xs.length + m) bytes) (hbase : base ≤ w.heap.size)
    (h : ∀ v' w', OwT f w' base e v' (xs ++ news) → w.grownBy w' v.ownBlock → (v'.ownBlock = v.ownBlock ∨ v'.ownBlock = some w.heap.size) → Below base w w' → K (a.put o.dst v') w') : o.wp P a w K Q := by
  obtain ⟨v', w', hr, h2, h3, h4⟩ := run_appG E w o.type base v xs hown aa m c news hsl h63 hbytes hbase
  unfold Oper.wp execOp
  simp only [ho, resolve, invoke, builtin, Sem.run_bind, Sem.run_pure, Result.andThen_ok, List.map_toArray, List.map_cons, List.map_nil, hs, hx, hr]
  exact h v' w' h2 h3 h4 ((Below.refl _ _).grown h3 hbase (fun k hk => (hown.lt k hk).1))

theorem wpList_appG (E : EltT P t e f k bytes) {ops : Array Oper} {rest : List Oper} {o : Oper} {a : Act} {Q : Exit → Act → World → Prop} {w : World} (hw : Region.wanted o (yielded ops a.tmps) = true) (s x : Operand)
    (ho : o.op = .call { callee := .builtin .append, args := #[s, x], argTypes := #[t, t] }) (base : Nat) (v : Value) (xs : List α) (hs : a.eval s = v) (hown : OwT f w base e v xs)
    (aa : Option Addr) (m c : Nat) (news : List α) (hx : a.eval x = .slice aa m c) (hsl : SlT f k w aa m c news)
    (h63 : xs.length + m ≤ maxLen) (hbytes : Fits (xs.length + m) bytes) (hbase : base ≤ w.heap.size) (ys : List α) (hy : xs ++ news = ys)
    (h : ∀ v' w', OwT f w' base e v' ys → w.grownBy w' v.ownBlock → (v'.ownBlock = v.ownBlock ∨ v'.ownBlock = some w.heap.size) → Below base w w' → wpList P ops Q rest (a.put o.dst v') w') : wpList P ops Q (o :: rest) a w := by
  subst hy
  exact wpList_w hw fun _ hK => wp_appG E s x ho base v xs hs hown aa m c news hx hsl h63 hbytes hbase fun v' w' h2 h3 h4 h5 => hK _ _ (h v' w' h2 h3 h4 h5)

theorem step_appG (E : EltT P t e f k bytes) {ops : Array Oper} {o : Oper} {a : Act} {K : Act → World → Prop} {Q : Exit → Act → World → Prop} {F : Prop} {w : World} (hw : Region.wanted o (yielded ops a.tmps) = true) (s x : Operand)
    (ho : o.op = .call { callee := .builtin .append, args := #[s, x], argTypes := #[t, t] }) (base : Nat) (v : Value) (xs : List α) (hs : a.eval s = v) (hown : OwT f w base e v xs)
    (aa : Option Addr) (m c : Nat) (news : List α) (hx : a.eval x = .slice aa m c) (hsl : SlT f k w aa m c news)
    (h63 : xs.length + m ≤ maxLen) (hbytes : Fits (xs.length + m) bytes) (hbase : base ≤ w.heap.size) (ys : List α) (hy : xs ++ news = ys)
    (h : ∀ v' w', OwT f w' base e v' ys → w.grownBy w' v.ownBlock → (v'.ownBlock = v.ownBlock ∨ v'.ownBlock = some w.heap.size) → Below base w w' → K (a.put o.dst v') w') :
    if Region.wanted o (yielded ops a.tmps) = true then Oper.wp P o a w K Q else F := by
  subst hy
  rw [if_pos hw]
  exact wp_appG E s x ho base v xs hs hown aa m c news hx hsl h63 hbytes hbase h

theorem wpList_appT (E : EltT P t e f k bytes) {ops : Array Oper} {rest : List Oper} {o : Oper} {a : Act} {Q : Exit → Act → World → Prop} {w : World} (hw : Region.wanted o (yielded ops a.tmps) = true) (s x : Operand)
    (ho : o.op = .call { callee := .builtin .append, args := #[s, x], argTypes := #[t, t] }) (base : Nat) (v : Value) (xs : List α) (hs : a.eval s = v) (hown : OwT f w base e v xs)
    (aa : Option Addr) (m c : Nat) (news : List α) (hx : a.eval x = .slice aa m c) (hsl : SlT f k w aa m c news)
    (h63 : xs.length + m ≤ maxLen) (hbytes : (xs.length + m) * bytes ≤ 140737488355328) (hbase : base ≤ w.heap.size) (ys : List α) (hy : xs ++ news = ys)
    (h : ∀ v' w', OwT f w' base e v' ys → w.grownBy w' v.ownBlock → (v'.ownBlock = v.ownBlock ∨ v'.ownBlock = some w.heap.size) → Below base w w' → wpList P ops Q rest (a.put o.dst v') w') : wpList P ops Q (o :: rest) a w :=
  wpList_appG E hw s x ho base v xs hs hown aa m c news hx hsl h63 (.half hbytes) hbase ys hy h

theorem step_appT (E : EltT P t e f k bytes) {ops : Array Oper} {o : Oper} {a : Act} {K : Act → World → Prop} {Q : Exit → Act → World → Prop} {F : Prop} {w : World} (hw : Region.wanted o (yielded ops a.tmps) = true) (s x : Operand)
    (ho : o.op = .call { callee := .builtin .append, args := #[s, x], argTypes := #[t, t] }) (base : Nat) (v : Value) (xs : List α) (hs : a.eval s = v) (hown : OwT f w base e v xs)
    (aa : Option Addr) (m c : Nat) (news : List α) (hx : a.eval x = .slice aa m c) (hsl : SlT f k w aa m c news)
    (h63 : xs.length + m ≤ maxLen) (hbytes : (xs.length + m) * bytes ≤ 140737488355328) (hbase : base ≤ w.heap.size) (ys : List α) (hy : xs ++ news = ys)
    (h : ∀ v' w', OwT f w' base e v' ys → w.grownBy w' v.ownBlock → (v'.ownBlock = v.ownBlock ∨ v'.ownBlock = some w.heap.size) → Below base w w' → K (a.put o.dst v') w') :
    if Region.wanted o (yielded ops a.tmps) = true then Oper.wp P o a w K Q else F :=
  step_appG E hw s x ho base v xs hs hown aa m c news hx hsl h63 (.half hbytes) hbase ys hy h

theorem made_flat {z : Value} {x0 : α} (hf : (f x0).length = k) (hk : 0 < k) (hz : z.cells.toList = f x0) (n : Nat) : (madeCells z.cells (n * k)).toList = (List.replicate n x0).flatMap f := by
  have hsz : z.cells.size = k := by rw [← Array.length_toList, hz]; exact hf
  rw [← zero_flat hf hk hz n]
  simp only [madeCells, Builtin.zeroCells, hsz]

/-- make([]T, l, n) -/
theorem wpList_mkT (E : EltT P t e f k bytes) {ops : Array Oper} {rest : List Oper} {o : Oper} {a : Act} {Q : Exit → Act → World → Prop} {w : World} (hw : Region.wanted o (yielded ops a.tmps) = true) (l c : Operand)
    (ho : o.op = Op.makeSlice t l c) (base r n : Nat) (hrn : r ≤ n) {kl kc : IntKind} {L C : Int} (hl : a.eval l = .int kl L) (hc : a.eval c = .int kc C) (hL : L = (r : Int)) (hC : C = (n : Int)) (hb : bytes * n ≤ 281474976710656) (hm : n ≤ maxLen) (hbase : base ≤ w.heap.size)
    (h : ∀ x0 w', w'.heap[w.heap.size]? = some (.cells ((List.replicate n x0).flatMap f).toArray e (0, 0)) → OwT f w' base e (.slice (some ⟨w.heap.size, 0, none⟩) r n) (List.replicate r x0) → (∃ i z, P.info? e = some i ∧ i.zero = some z ∧ z.cells.toList = f x0) → Below w.heap.size w w' → wpList P ops Q rest (a.put o.dst (.slice (some ⟨w.heap.size, 0, none⟩) r n)) w') : wpList P ops Q (o :: rest) a w := by
  obtain ⟨ht, ⟨i, z, hi1, hi2, hi3, hi4, x0, hz⟩, hf, hk, h1⟩ := E
  refine wpList_w hw fun K hK => ?_
  subst hL hC
  have hm' : n ≤ 9223372036854775807 := by simp only [maxLen] at hm; omega
  have hr := run_make (P := P) w t e i z ht hi1 hi2 kl kc (r : Int) (n : Int) (by omega) (by omega) (by rw [hi4]; omega) (by omega)
  unfold Oper.wp
  simp [execOp, ho, hl, hc, hr, Result.andThen]
  have hcells : Obj.cells (madeCells z.cells (n * i.size)) e = Obj.cells ((List.replicate n x0).flatMap f).toArray e (0, 0) := by
    congr 1
    apply Array.ext'
    rw [hi3, made_flat (hf x0) hk hz]
  refine hK _ _ (h x0 _ ?_ (.inr ⟨w.heap.size, n, List.replicate n x0, by simp, hbase, ?_, by simp, by simpa using hrn, hm, ?_⟩) ⟨i, z, hi1, hi2, hz⟩ ((Below.refl _ _).alloc (Nat.le_refl _) _))
  · rw [heap_new, hcells]
  · rw [heap_new, hcells]
  · simp; omega

end
end Go.Proofs.YtljcogimeimknaaGreat
/- What holds now and behind whatever keeps what was there: many facts on memory kept by one line a call. No condition. -/
namespace Go.Proofs.YtljcogimeimknaaGreat
set_option linter.unusedVariables false
open Go.RowKit

/-- p holds, and behind whatever keeps all that is there -/
def Stab (w : World) (p : World → Prop) : Prop := ∀ w', Below w.heap.size w w' → p w'
theorem Stab.now {w : World} {p : World → Prop} (h : Stab w p) : p w := h w (Below.refl _ _)
theorem Stab.keep {w w1 : World} {p : World → Prop} (h : Stab w p) (hb : Below w.heap.size w w1) : Stab w1 p := fun w' h' => h w' (keep_trans hb h')
theorem Stab.and {w : World} {p q : World → Prop} (h : Stab w p) (k : Stab w q) : Stab w (fun W => p W ∧ q W) := fun w' h' => ⟨h w' h', k w' h'⟩
theorem Stab.imp {w : World} {p q : World → Prop} (h : Stab w p) (k : ∀ W, p W → q W) : Stab w q := fun w' h' => k _ (h w' h')
theorem Stab.below {w0 w : World} (h : Below w0.heap.size w0 w) : Stab w (Below w0.heap.size w0) := fun _ h' => keep_trans h h'
theorem Stab.sl {α : Type} {f : α → Value} {w : World} {a : Option Addr} {n c : Nat} {xs : List α} (h : Sl f w a n c xs) : Stab w (fun W => Sl f W a n c xs) := fun _ h' => h.keep h'
theorem Stab.row {α : Type} {f : α → List Value} {w : World} {base : Nat} {e : TypeId} {v : Value} {xs : List α} (h : OwT f w base e v xs) : Stab w (fun W => OwT f W base e v xs) := fun _ h' => h.keep h'
theorem Stab.block {w : World} {b : Nat} {o : Obj} (h : w.heap[b]? = some o) : Stab w (fun W => W.heap[b]? = some o) := fun _ h' => (h'.block b (Array.getElem?_eq_some_iff.1 h).1).trans h
theorem Stab.alloc {w : World} {p : World → Prop} (h : Stab w p) (o : Obj) : Stab (w.alloc o) p := h.keep ((Below.refl _ _).alloc (Nat.le_refl _) o)
theorem Stab.new (w : World) (o : Obj) : Stab (w.alloc o) (fun W => W.heap[w.heap.size]? = some o) := .block (heap_new w o)
theorem Stab.drewN {w : World} {p : World → Prop} (h : Stab w p) (n : Nat) : Stab (w.drewN n) p := h.keep (keep_drewN (Below.refl _ _) n)
theorem Drw.of {w w' : World} (h : w' = w) : Drw w w' := by subst h; exact Drw.refl _
theorem Stab.cell {w : World} {b o : Nat} {v : Value} (h : w.cell? ⟨b, o, none⟩ = some v) : Stab w (fun W => W.cell? ⟨b, o, none⟩ = some v) := fun _ h' => (World.cell?_of_block (h'.block _ (cell_lt h))).trans h
theorem Stab.size {w : World} {p : World → Prop} {b : Nat} (_h : Stab w p) (hb : b ≤ w.heap.size) : Stab w (fun W => b ≤ W.heap.size) := fun _ h' => Nat.le_trans hb h'.size
theorem cell_of {w : World} {b : Nat} {cs : Array Value} {t : TypeId} {fr : Nat × Nat} (h : w.heap[b]? = some (.cells cs t fr)) (i : Nat) {v : Value} (hv : cs[i]? = some v) : w.cell? ⟨b, i, none⟩ = some v := by
  simp only [World.cell?, h]; exact hv
/-- a row of the call's own lies apart from a block -/
def Off (v : Value) (b : Nat) : Prop := ∀ j, v.ownBlock = some j → j ≠ b
theorem Off.step {w : World} {v v' : Value} {b : Nat} (h : Off v b) (hb : b < w.heap.size) (hv : v'.ownBlock = v.ownBlock ∨ v'.ownBlock = some w.heap.size) : Off v' b := by
  intro j hj
  rcases hv with e | e
  · exact h j (e.symm.trans hj)
  · rw [e] at hj; injection hj with hj; omega
theorem OwT.off {α : Type} {f : α → List Value} {w : World} {base : Nat} {e : TypeId} {v : Value} {xs : List α} (h : OwT f w base e v xs) : Off v w.heap.size := fun j hj he => by have := (h.lt j hj).2; omega
theorem Off.keep {w w' : World} {v : Value} {b : Nat} {o : Obj} (h : Off v b) (hg : w.grownBy w' v.ownBlock) (hb : w.heap[b]? = some o) : w'.heap[b]? = some o :=
  (hg.block b (Array.getElem?_eq_some_iff.1 hb).1 (fun e => h b e.symm rfl)).trans hb
theorem set_block {w : World} {b i : Nat} {cs : Array Value} {t : TypeId} {fr : Nat × Nat} (h : w.heap[b]? = some (.cells cs t fr)) (v : Value) : (w.setCell ⟨b, i, none⟩ v).heap[b]? = some (.cells (cs.setIfInBounds i v) t fr) := by
  simp only [World.setCell, Array.getElem?_modify, if_pos, h]
  rfl
theorem free_block {w : World} {b : Nat} {cs : Array Value} {t : TypeId} (h : w.heap[b]? = some (.cells cs t (0, 0))) (i : Nat) : w.frozen? ⟨b, i, none⟩ = false := by
  simp [World.frozen?, h]
theorem le_allocF (w : World) (o : Obj) : w.heap.size ≤ (w.alloc o).heap.size := by simp
end Go.Proofs.YtljcogimeimknaaGreat
/- Words on 32-bit registers and bytes as the walk's numbers. No condition. -/
namespace Go.Proofs.YtljcogimeimknaaGreat
set_option linter.unusedVariables false
open Go.RowKit

/-- a register as the walk's number -/
def U (s : BitVec 32) : Int := (s.toNat : Int)
/-- a byte as the walk's number -/
def B (c : UInt8) : Int := (c.toNat : Int)
def ext (c : UInt8) : BitVec 32 := BitVec.ofNat 32 c.toNat
abbrev Bf (c : UInt8) : Value := .int .u8 (B c)

theorem U_lo (s : BitVec 32) : 0 ≤ U s := by unfold U; omega
theorem U_hi (s : BitVec 32) : U s < 4294967296 := by unfold U; have := s.isLt; omega
theorem B_lo (c : UInt8) : 0 ≤ B c := by unfold B; omega
theorem B_inj {a b : UInt8} (h : B a = B b) : a = b := by unfold B at h; exact UInt8.toNat_inj.1 (by omega)
theorem ofInt_U (s : BitVec 32) : BitVec.ofInt 32 (U s) = s := by
  unfold U; rw [BitVec.ofInt_natCast]; simp
theorem wrap_U (s : BitVec 32) : IntKind.u32.wrap (U s) = U s := by
  rw [IntKind.wrap_u32']; have := U_lo s; have := U_hi s; omega
theorem U_xor (a b : BitVec 32) : bits .xor .u32 (U a) (U b) = U (a ^^^ b) := by
  show IntKind.u32.wrap ((BitVec.ofInt 32 (U a) ^^^ BitVec.ofInt 32 (U b)).toNat : Int) = _
  rw [ofInt_U, ofInt_U]; exact wrap_U _
theorem U_and (a b : BitVec 32) : bits .and .u32 (U a) (U b) = U (a &&& b) := by
  show IntKind.u32.wrap ((BitVec.ofInt 32 (U a) &&& BitVec.ofInt 32 (U b)).toNat : Int) = _
  rw [ofInt_U, ofInt_U]; exact wrap_U _
theorem U_and1 (a : BitVec 32) : bits .and .u32 (U a) 1 = U (a &&& 1#32) := U_and a 1#32
theorem U_poly (a : BitVec 32) : bits .and .u32 3988292384 (U a) = U (0xedb88320#32 &&& a) := U_and 0xedb88320#32 a
theorem U_xpoly (a : BitVec 32) : bits .xor .u32 (U a) 3988292384 = U (a ^^^ 0xedb88320#32) := U_xor a 0xedb88320#32
theorem U_neg (a : BitVec 32) : -U a % (4294967296 : Int) = U (-a) := by
  unfold U; rw [BitVec.toNat_neg]; have := a.isLt; omega
theorem U_half (a : BitVec 32) : U a / (2 : Int) = U (a >>> 1) := by
  unfold U; rw [BitVec.toNat_ushiftRight, Nat.shiftRight_eq_div_pow]; omega
theorem U_not (a : BitVec 32) : (4294967295 : Int) - U a = U (~~~a) := by
  unfold U; rw [BitVec.toNat_not]; have := a.isLt; omega
theorem U_not' (a : BitVec 32) : ((4294967295 : Int) - U a) % (4294967296 : Int) = U (~~~a) := by
  rw [U_not]; have := U_lo (~~~a); have := U_hi (~~~a); omega
theorem B_u32 (c : UInt8) : B c % (4294967296 : Int) = U (ext c) := by
  unfold U B ext; rw [BitVec.toNat_ofNat]; omega
theorem B_xor (x y : UInt8) : bits .xor .u8 (B x) (B y) = B (x ^^^ y) := by
  have hx := x.toNat_lt; have hy := y.toNat_lt
  unfold B
  rw [u8_xor_nat _ _ (by omega) (by omega), UInt8.toNat_xor]
theorem U_xmax (a : BitVec 32) : bits .xor .u32 IntKind.u32.max (U a) = U (~~~a) := by
  have := U_xor 0xffffffff#32 a
  have e : U 0xffffffff#32 = IntKind.u32.max := rfl
  rw [e] at this; rw [this]; congr 1
theorem U_tq (a : BitVec 32) : (U a).tdiv (2 : Int) % (4294967296 : Int) = U (a >>> 1) := by
  have := U_half a; have h0 := U_lo a; have h1 := U_lo (a >>> 1); have h2 := U_hi (a >>> 1)
  rw [Int.tdiv_eq_ediv_of_nonneg h0]; omega

end Go.Proofs.YtljcogimeimknaaGreat
/- Rows of bytes of a call's own. No condition. -/
namespace Go.Proofs.YtljcogimeimknaaGreat
set_option linter.unusedVariables false
open Go.RowKit

theorem eltB : Elt Tryz.prog 22 5 (.int .u8 0) 1 := ⟨Tryz.underlying22, by kernel_rfl, rfl⟩

theorem take_eq_snoc {α : Type} {xs ys : List α} {k : Nat} {x y : α} (hx : xs[k]? = some x) (hy : ys[k]? = some y) (h : xs.take k = ys.take k) :
    xs.take (k + 1) = ys.take (k + 1) ↔ x = y := by
  rw [List.take_add_one, List.take_add_one, hx, hy, h]; simp

theorem bf_one (l : List UInt8) : ∀ u ∈ l.map Bf, u.oneCell' = true := by
  intro u hu; obtain ⟨x, _, rfl⟩ := List.mem_map.1 hu; rfl

abbrev fB (x : UInt8) : List Value := [Bf x]
theorem eltTB : EltT Tryz.prog 22 5 fB 1 1 := EltT.mk1 Tryz.underlying22 (z := .int .u8 0) (by kernel_rfl) 0 rfl (fun _ => rfl)
theorem fB_len (x : UInt8) : (fB x).length = 1 := rfl
theorem flat_fB (xs : List UInt8) : xs.flatMap fB = xs.map Bf := by induction xs <;> simp_all [fB]

theorem OwT.slB {w : World} {base : Nat} {e : TypeId} {v : Value} {xs : List UInt8} (h : OwT fB w base e v xs) : ∃ a c, v = .slice a xs.length c ∧ Sl Bf w a xs.length c xs := by
  obtain ⟨a, c, hv, hs⟩ := h.sl fB_len
  exact ⟨a, c, hv, hs.to1⟩
theorem OwT.slI {w : World} {base : Nat} {e : TypeId} {a : Option Addr} {n c : Nat} {xs : List UInt8} (h : OwT fB w base e (.slice a n c) xs) : Sl Bf w a n c xs := by
  obtain ⟨a', c', hv, hs⟩ := h.slB
  cases hv; exact hs
theorem own_map (a : Option Addr) (n c : Nat) : Value.ownBlock (.slice a n c) = a.map (·.block) := by cases a <;> rfl
theorem OwT.slN {w : World} {base : Nat} {e : TypeId} {v : Value} {xs : List UInt8} (h : OwT fB w base e v xs) : ∃ a n c, v = .slice a n c ∧ Sl Bf w a n c xs := by
  obtain ⟨a, c, hv, hs⟩ := h.slB
  exact ⟨a, _, c, hv, hs⟩
theorem OwT.capB {w : World} {base : Nat} {e : TypeId} {a : Option Addr} {n c : Nat} {xs : List UInt8} (h : OwT fB w base e (.slice a n c) xs) : n = xs.length ∧ n ≤ c ∧ c ≤ 9223372036854775807 := by
  rcases h with ⟨hv, rfl⟩ | ⟨g, cap, ys, hv, hg, hh, hl, hn, hc, ht⟩
  · cases hv; simp
  · cases hv; unfold maxLen at hc; exact ⟨rfl, hn, hc⟩
end Go.Proofs.YtljcogimeimknaaGreat
/- The contracts of the law package's helpers same, lent, kept and spoil. No condition but what the slices read xs and that they are within reach. -/
namespace Go.Proofs.YtljcogimeimknaaGreat
set_option linter.unusedVariables false
open Go.RowKit

set_option maxRecDepth 100000 in
set_option maxHeartbeats 400000 in
theorem same_any (a : Option Addr) (n c : Nat) (xs : List UInt8) (a' : Option Addr) (n' c' : Nat) (ys : List UInt8) (w : World) (hn : n ≤ 9223372036854775807) (hn' : n' ≤ 9223372036854775807)
    (h : Sl Bf w a n c xs) (h' : Sl Bf w a' n' c' ys) :
    Calls Tryz.prog 18 #[.slice a n c, .slice a' n' c'] w fun e w' => e = .returned (.bool (decide (xs = ys))) ∧ Below w.heap.size w w' := by
  have H := Lib.hid h; clear h
  have H' := Lib.hid h'; clear h'
  by_cases hl : n = n'
  · subst hl
    go_enter Tryz.func18, Tryz.ntmps18
    go_wp2_with fail
    go_loopw [5] (fun i wr => ∃ k : Nat, k ≤ n ∧ i = .int .i64 k ∧ xs.take k = ys.take k ∧ Below w.heap.size w wr) (fun i _ => n - (intOf i).toNat)
    case atStart => exact ⟨0, Nat.zero_le _, rfl, by simp, Below.refl _ _⟩
    case round =>
      obtain ⟨k, hk, rfl, he, hb⟩ := hrel
      have HE := Lib.hid he; clear he
      have HB := Lib.hid hb; clear hb
      by_cases hlt : k < n
      · obtain ⟨x, b, o, hx, rfl, hc⟩ := (H.out.keep HB.out).at k hlt
        obtain ⟨y, b', o', hy, rfl, hc'⟩ := (H'.out.keep HB.out).at k hlt
        have hc : wr.cell? ⟨b, o + k, none⟩ = some (.int .u8 (B x)) := hc
        have hc' : wr.cell? ⟨b', o' + k, none⟩ = some (.int .u8 (B y)) := hc'
        have HX := Lib.hid hx; clear hx
        have HY := Lib.hid hy; clear hy
        by_cases hxy : x = y
        · subst hxy
          go_wp2_with fail
          go_quiet (fail)
          go_wp2_with fail
          go_roundw
          case rel => exact ⟨k + 1, by omega, by go_num, (take_eq_snoc HX.out HY.out HE.out).2 rfl, keep_drewN HB.out _⟩
          case measure => simp [intOf]; omega
        · have hne : (B x != B y) = true := by rw [bne_iff_ne]; exact fun e => hxy (B_inj e)
          go_wp2_with fail
          go_quiet (fail)
          go_wp2_with fail
          go_ret
          refine ⟨ret_bool ?_, keep_drewN HB.out _⟩
          symm; rw [decide_eq_false_iff_not]; rintro rfl
          exact hxy (Option.some.inj (HX.out.symm.trans HY.out))
      · go_wp2_with fail
        go_ret
        refine ⟨ret_bool ?_, HB.out⟩
        have e1 := H.out.len; have e2 := H'.out.len; have e3 := HE.out
        rw [List.take_of_length_le (by omega), List.take_of_length_le (by omega)] at e3
        symm; rw [decide_eq_true_eq]; exact e3
  · have hne : ((n : Int) != (n' : Int)) = true := by rw [bne_iff_ne]; omega
    go_enter Tryz.func18, Tryz.ntmps18
    go_wp2_with fail
    go_ret
    refine ⟨ret_bool ?_, Below.refl _ _⟩
    have e1 := H.out.len; have e2 := H'.out.len
    symm; rw [decide_eq_false_iff_not]; rintro rfl; omega

/-- bytes in a block of their own, marks behind -/
def Lent (w : World) (g : Nat) (xs : List UInt8) : Prop := w.heap[g]? = some (.cells ((xs ++ [77, 78]).map Bf).toArray 5 (0, 0))
theorem Lent.sl {w : World} {g : Nat} {xs : List UInt8} (h : Lent w g xs) : Sl Bf w (some ⟨g, 0, none⟩) xs.length (xs.length + 2) xs :=
  Sl.of_row xs _ _ h rfl (by omega) (by simp [List.take_left'])
theorem Lent.lt {w : World} {g : Nat} {xs : List UInt8} (h : Lent w g xs) : g < w.heap.size := by
  rcases Nat.lt_or_ge g w.heap.size with h' | h'
  · exact h'
  · unfold Lent at h; rw [Array.getElem?_eq_none h'] at h; cases h
theorem Lent.keep {w w' : World} {g : Nat} {xs : List UInt8} (h : Lent w g xs) (hb : Below w.heap.size w w') : Lent w' g xs := (hb.block g h.lt).trans h
theorem Lent.of_own {w : World} {base g : Nat} {xs : List UInt8} {n : Nat} (h : w.ownsRow base 5 1 (.slice (some ⟨g, 0, none⟩) n n) n ((xs ++ [77, 78]).map Bf)) : Lent w g xs := by
  obtain ⟨_, hv⟩ := h
  rcases hv with ⟨hv, _⟩ | ⟨g', cap, cur, hv, hg, hh, _, _, hsz, htake⟩
  · cases hv
  · cases hv
    unfold Lent
    rw [hh]
    have : cur.toList = (xs ++ [77, 78]).map Bf := by
      rw [← htake, List.take_of_length_le (by simp [hsz])]
    rw [← this]

set_option maxRecDepth 100000 in
set_option maxHeartbeats 400000 in
theorem lent_any (a : Option Addr) (n c : Nat) (xs : List UInt8) (w : World) (hn : n ≤ 140737488351232) (h : Sl Bf w a n c xs) :
    Calls Tryz.prog 8 #[.slice a n c] w fun e w' => ∃ g, e = .returned (.slice (some ⟨g, 0, none⟩) n (n + 2)) ∧ w.heap.size ≤ g ∧ Lent w' g xs ∧ Below w.heap.size w w' := by
  have e1 := h.len
  have H := Lib.hid h; clear h
  have E1 := Lib.hid e1; clear e1
  have hcut := fun (W : World) (g : Nat) => run_cutto eltB W (some ⟨g, 0, none⟩) (n + 2) (n + 2) .i64 n (by omega)
  go_enter Tryz.func8, Tryz.ntmps8
  go_wp2_with (first
    | (at_make; refine wpList_mk0 eltB rfl _ _ rfl w.heap.size (n + 2) rfl rfl (by omega) (by omega) (by unfold maxLen; omega) (Nat.le_refl _) ?_; intro w1 hown1 hb1)
    | (at_builtin; refine wpList_fit (f := Bf) eltB rfl (.tmp 6) (.tmp 7) rfl w.heap.size _ 0 (n + 2) [] (by rfl) (by assumption) a n c xs (by rfl) (H.out.keep (by assumption)) (bf_one _) n (by omega) (by omega) hb1.size (xs.map Bf) rfl ?_; intro w2 hown2 hg2 hb2)
    | (at_builtin; go_loud (refine wpList_fit (f := Bf) eltB rfl (.tmp 8) (.tmp 9) rfl w.heap.size _ n (n + 2) (xs.map Bf) (by rfl) (World.ownsRow.alloc (by assumption) _) _ 2 2 [77, 78] (by rfl) (Sl.lit _ _ _ _ _ rfl rfl) (bf_one _) (n + 2) rfl (by omega) (by have := hb1.size; have := hb2.size; simp; omega) ((xs ++ [77, 78]).map Bf) (by simp) ?_); intro w3 hown3 hg3 hb3))
  go_ret
  refine ⟨_, rfl, Nat.le_refl _, Lent.of_own hown3, ?_⟩
  have s1 := hb1.size; have s2 := hb2.size
  exact ((hb1.trans hb2).alloc (by omega) _).trans hb3

theorem Lent.mark {w : World} {g : Nat} {xs : List UInt8} (h : Lent w g xs) :
    w.cell? ⟨g, xs.length, none⟩ = some (.int .u8 77) ∧ w.cell? ⟨g, xs.length + 1, none⟩ = some (.int .u8 78) := by
  unfold Lent at h
  constructor
  · simp only [World.cell?, h]
    simp; rfl
  · simp only [World.cell?, h]
    simp; rfl

set_option maxRecDepth 100000 in
set_option maxHeartbeats 400000 in
theorem kept_any (g n : Nat) (a : Option Addr) (c : Nat) (xs : List UInt8) (w : World) (hn : n ≤ 140737488351232) (hl : Lent w g xs) (h : Sl Bf w a n c xs) :
    Calls Tryz.prog 11 #[.slice (some ⟨g, 0, none⟩) n (n + 2), .slice a n c] w fun e w' => e = .returned (.bool true) ∧ Below w.heap.size w w' := by
  obtain rfl : n = xs.length := h.len.symm
  have hs := (same_any (some ⟨g, 0, none⟩) xs.length (xs.length + 2) xs a xs.length c xs w (by omega) (by omega) hl.sl h)
  have HS := Lib.hid hs; clear hs h
  have HL := Lib.hid hl; clear hl
  have hcut := fun (W : World) => run_cutto eltB W (some ⟨g, 0, none⟩) xs.length (xs.length + 2) .i64 (xs.length + 2) (by omega)
  go_enter Tryz.func11, Tryz.ntmps11
  go_wp2_with fail
  refine HS.out.mono ?_
  rintro e w1 ⟨rfl, hb⟩
  obtain ⟨hc1, hc2⟩ := (HL.out.keep hb).mark
  have HB := Lib.hid hb; clear hb
  go_wp2_with fail
  go_ret
  exact ⟨ret_bool (by simp), HB.out⟩

/-- every place of a slice, spare ones too, holds a byte and may be written -/
def Soft (w : World) (a : Option Addr) (c : Nat) : Prop := ∀ i, i < c → ∃ x b o, a = some ⟨b, o, none⟩ ∧ w.cell? ⟨b, o + i, none⟩ = some (.int .u8 (B x)) ∧ w.frozen? ⟨b, o + i, none⟩ = false

theorem Soft.set {w : World} {b o c k : Nat} (h : Soft w (some ⟨b, o, none⟩) c) (y : UInt8) : Soft (w.setCell ⟨b, o + k, none⟩ (.int .u8 (B y))) (some ⟨b, o, none⟩) c := by
  intro i hi
  obtain ⟨x, b', o', e, hc, hf⟩ := h i hi
  cases e
  by_cases hik : i = k
  · subst hik
    exact ⟨y, b, o, rfl, World.cell?_setCell_same _ _ _ hc, (World.frozen?_setCell _ _ _ _).trans hf⟩
  · exact ⟨x, b, o, rfl, (World.cell?_setCell_other _ _ _ _ (by simp)).trans hc, (World.frozen?_setCell _ _ _ _).trans hf⟩

theorem grown_set {w w1 : World} {row : Option Nat} (h : w.grownBy w1 row) (p : Addr) (hp : row = some p.block) (v : Value) : w.grownBy (w1.setCell p v) row := by
  obtain ⟨h1, h2, h3, h4, h5⟩ := h
  refine ⟨h1, h2, h3, by simpa using h4, fun k hk hne => ?_⟩
  rw [Below.heap_setCell _ _ _ _ (fun e => hne (by rw [hp, e]))]
  exact h5 k hk hne

set_option maxRecDepth 100000 in
set_option maxHeartbeats 400000 in
theorem spoil_any (a : Option Addr) (n c : Nat) (w : World) (hc63 : c ≤ 9223372036854775807) (h : Soft w a c) :
    Calls Tryz.prog 12 #[.slice a n c] w fun e w' => e = .returned (.tuple #[]) ∧ w.grownBy w' (a.map (·.block)) := by
  have H := Lib.hid h; clear h
  have hcut := fun (W : World) => run_cutto eltB W a n c .i64 c (Nat.le_refl _)
  have hcap : ∀ W : World, (Builtin.cap_ #[22] 3 #[.slice a n c]).run Tryz.prog W = .ok (goInt c) W := fun W => run_cap_slice W _ _ _ _ _ Tryz.underlying22
  go_enter Tryz.func12, Tryz.ntmps12
  go_wp2_with fail
  go_loopw [2] (fun i wr => ∃ k : Nat, k ≤ c ∧ i = .int .i64 k ∧ Soft wr a c ∧ w.grownBy wr (a.map (·.block))) (fun i _ => c - (intOf i).toNat)
  case atStart => exact ⟨0, Nat.zero_le _, rfl, H.out, World.grownBy.refl _ _⟩
  case round =>
    obtain ⟨k, hk, rfl, hs, hg⟩ := hrel
    have HS := Lib.hid hs; clear hs
    have HG := Lib.hid hg; clear hg
    by_cases hlt : k < c
    · obtain ⟨x, b, o, rfl, hc, hf⟩ := HS.out k hlt
      have hy : bits .xor .u8 (B x) 255 = B (x ^^^ 255) := B_xor x 255
      go_wp2_with fail
      go_roundw
      case rel => exact ⟨k + 1, by omega, by go_num, HS.out.set _, grown_set HG.out ⟨b, o + k, none⟩ rfl _⟩
      case measure => simp [intOf]; omega
    · go_wp2_with fail
      go_end0
      exact ⟨rfl, HG.out⟩

end Go.Proofs.YtljcogimeimknaaGreat
/- Rows of bytes of a call's own may be written over. No condition. -/
namespace Go.Proofs.YtljcogimeimknaaGreat
set_option linter.unusedVariables false
open Go.RowKit

theorem OwT.soft {w : World} {base : Nat} {e : TypeId} {a : Option Addr} {n c : Nat} {xs : List UInt8} (h : OwT fB w base e (.slice a n c) xs) : Soft w a c := by
  rcases h with ⟨hv, _⟩ | ⟨g, cap, ys, hv, hg, hh, hl, hn, hc, ht⟩
  · cases hv; intro i hi; omega
  · cases hv
    intro i hi
    have hy : ys[i]? = some ys[i] := List.getElem?_eq_getElem (by omega)
    refine ⟨ys[i], g, 0, rfl, ?_, ?_⟩
    · simp only [World.cell?, hh, Nat.zero_add, flat_fB]; simp [hy]
    · simp [World.frozen?, hh]
end Go.Proofs.YtljcogimeimknaaGreat
/- What a call leaves of memory where it writes blocks of a set: all others lie as they lay, new ones come behind. No condition. -/
namespace Go.Proofs.YtljcogimeimknaaGreat
open Go.RowKit
set_option linter.unusedVariables false

/-- all blocks but those of S lie as they lay -/
structure Turns (S : Nat → Prop) (w w' : World) : Prop where
  os : w'.os = w.os
  tape : w'.tape = w.tape
  output : w'.output = w.output
  size : w.heap.size ≤ w'.heap.size
  block : ∀ j, j < w.heap.size → ¬ S j → w'.heap[j]? = w.heap[j]?
theorem Turns.refl (S : Nat → Prop) (w : World) : Turns S w w := ⟨rfl, rfl, rfl, Nat.le_refl _, fun _ _ _ => rfl⟩
theorem Turns.of_below {S : Nat → Prop} {w w' : World} (h : Below w.heap.size w w') : Turns S w w' := ⟨h.os, h.tape, h.output, h.size, fun j hj _ => h.block j hj⟩
theorem Turns.of_grown {S : Nat → Prop} {w w' : World} {row : Option Nat} (h : w.grownBy w' row) (hr : ∀ j, row = some j → S j) : Turns S w w' :=
  ⟨h.os, h.tape, h.output, h.size, fun j hj hs => h.block j hj (fun e => hs (hr j e.symm))⟩
theorem Turns.trans {S T : Nat → Prop} {w w1 w2 : World} (h : Turns S w w1) (k : Turns T w1 w2) (hT : ∀ j, j < w.heap.size → T j → S j) : Turns S w w2 :=
  ⟨k.os.trans h.os, k.tape.trans h.tape, k.output.trans h.output, Nat.le_trans h.size k.size, fun j hj hs => (k.block j (Nat.lt_of_lt_of_le hj h.size) (fun t => hs (hT j hj t))).trans (h.block j hj hs)⟩
theorem Turns.trans_below {S : Nat → Prop} {w w1 w2 : World} (h : Turns S w w1) (k : Below w1.heap.size w1 w2) : Turns S w w2 := h.trans (T := S) (.of_below k) fun _ _ t => t
theorem Turns.mono {S T : Nat → Prop} {w w' : World} (h : Turns S w w') (k : ∀ j, j < w.heap.size → S j → T j) : Turns T w w' := ⟨h.os, h.tape, h.output, h.size, fun j hj hs => h.block j hj (fun e => hs (k j hj e))⟩
theorem Turns.below {S : Nat → Prop} {w0 w w' : World} {b : Nat} (h : Turns S w w') (k : Below b w0 w) (hb : b ≤ w.heap.size) (hS : ∀ j, S j → b ≤ j) : Below b w0 w' :=
  ⟨h.os.trans k.os, h.tape.trans k.tape, h.output.trans k.output, Nat.le_trans k.size h.size, fun j hj => (h.block j (by omega) (fun e => by have := hS j e; omega)).trans (k.block j hj)⟩
theorem Turns.set {S : Nat → Prop} (w : World) {b i : Nat} (hb : S b) (v : Value) : Turns S w (w.setCell ⟨b, i, none⟩ v) :=
  ⟨rfl, rfl, rfl, by simp, fun j _ hs => Below.heap_setCell _ _ _ _ (fun e => hs (e ▸ hb))⟩
theorem Turns.alloc {S : Nat → Prop} {w w' : World} (h : Turns S w w') (o : Obj) : Turns S w (w'.alloc o) := h.trans_below ((Below.refl _ _).alloc (Nat.le_refl _) o)
theorem Turns.drewN {S : Nat → Prop} {w w' : World} (h : Turns S w w') (n : Nat) : Turns S w (w'.drewN n) := h.trans_below (keep_drewN (Below.refl _ _) n)
theorem Turns.heap {S : Nat → Prop} {w w' : World} {g : Nat} {o : Obj} (h : Turns S w w') (hg : w.heap[g]? = some o) (hs : ¬ S g) : w'.heap[g]? = some o :=
  (h.block g (Array.getElem?_eq_some_iff.1 hg).1 hs).trans hg
theorem OwT.turns {α : Type} {f : α → List Value} {S : Nat → Prop} {w w' : World} {base : Nat} {e : TypeId} {v : Value} {xs : List α} (h : OwT f w base e v xs) (ht : Turns S w w') (hs : ∀ j, v.ownBlock = some j → ¬ S j) : OwT f w' base e v xs :=
  h.of_block fun j hj => ht.block j (h.lt j hj).2 (hs j hj)
theorem Sl.turns {α : Type} {f : α → Value} {S : Nat → Prop} {w w' : World} {a : Option Addr} {n c : Nat} {xs : List α} (h : Sl f w a n c xs) (ht : Turns S w w') (hs : ∀ b o, a = some ⟨b, o, none⟩ → 0 < n → ¬ S b) : Sl f w' a n c xs :=
  h.of_block fun b o ha hn => ht.block b (by subst ha; exact h.blt hn) (hs b o ha hn)
end Go.Proofs.YtljcogimeimknaaGreat
/- Texts in order: plain words, no program: what two texts have in common, how they compare. No condition. -/
namespace Go.Proofs.YtljcogimeimknaaGreat
set_option linter.unusedVariables false

/-- how many bytes two texts have in common at their beginnings -/
def com : List UInt8 → List UInt8 → Nat
  | a :: ps, b :: qs => if a = b then com ps qs + 1 else 0
  | _, _ => 0
/-- how two texts compare -/
def cmp : List UInt8 → List UInt8 → Int
  | [], [] => 0
  | [], _ :: _ => -1
  | _ :: _, [] => 1
  | a :: ps, b :: qs => if a = b then cmp ps qs else if a.toNat < b.toNat then -1 else 1

theorem u8_ext {a b : UInt8} (h : a.toNat = b.toNat) : a = b := UInt8.toNat_inj.1 h
theorem u8_ne {a b : UInt8} (h : a ≠ b) : a.toNat ≠ b.toNat := fun e => h (u8_ext e)
theorem cmp_cases : ∀ xs ys, cmp xs ys = -1 ∨ cmp xs ys = 0 ∨ cmp xs ys = 1
  | [], [] => .inr (.inl rfl)
  | [], _ :: _ => .inl rfl
  | _ :: _, [] => .inr (.inr rfl)
  | a :: ps, b :: qs => by
    unfold cmp
    split
    · exact cmp_cases ps qs
    · split
      · exact .inl rfl
      · exact .inr (.inr rfl)
theorem cmp_neg : ∀ xs ys, cmp ys xs = - cmp xs ys
  | [], [] => rfl
  | [], _ :: _ => rfl
  | _ :: _, [] => rfl
  | a :: ps, b :: qs => by
    unfold cmp
    by_cases h : a = b
    · subst h; rw [if_pos rfl, if_pos rfl]; exact cmp_neg ps qs
    · have h2 : ¬ b = a := fun e => h e.symm
      have := u8_ne h
      rw [if_neg h, if_neg h2]
      by_cases h3 : a.toNat < b.toNat
      · rw [if_pos h3, if_neg (by omega)]; rfl
      · rw [if_neg h3, if_pos (by omega)]
theorem cmp_self : ∀ xs, cmp xs xs = 0
  | [] => rfl
  | a :: ps => by unfold cmp; rw [if_pos rfl]; exact cmp_self ps
theorem cmp_zero : ∀ xs ys, cmp xs ys = 0 → xs = ys
  | [], [], _ => rfl
  | [], _ :: _, h => by simp [cmp] at h
  | _ :: _, [], h => by simp [cmp] at h
  | a :: ps, b :: qs, h => by
    unfold cmp at h
    split at h
    · rename_i e; rw [e, cmp_zero ps qs h]
    · split at h <;> simp at h
theorem cmp_eq (xs ys : List UInt8) : cmp xs ys = 0 ↔ xs = ys := ⟨cmp_zero xs ys, fun e => e ▸ cmp_self xs⟩
theorem cmp_pre : ∀ p xs ys, cmp (p ++ xs) (p ++ ys) = cmp xs ys
  | [], _, _ => rfl
  | a :: p, xs, ys => by
    show cmp (a :: (p ++ xs)) (a :: (p ++ ys)) = _
    rw [cmp, if_pos rfl]; exact cmp_pre p xs ys
theorem cmp_nil (ys : List UInt8) : cmp [] ys = if ys = [] then 0 else -1 := by cases ys <;> simp [cmp]
theorem cmp_trans : ∀ xs ys zs, cmp xs ys ≤ 0 → cmp ys zs ≤ 0 → cmp xs zs ≤ 0 ∧ (cmp xs zs = 0 → cmp xs ys = 0)
  | [], [], zs, _, h2 => ⟨h2, fun _ => rfl⟩
  | [], b :: qs, [], _, h2 => by simp [cmp] at h2
  | [], b :: qs, c :: cs, _, _ => by simp [cmp]
  | _ :: _, [], _, h1, _ => by simp [cmp] at h1
  | _ :: _, _ :: _, [], _, h2 => by simp [cmp] at h2
  | a :: ps, b :: qs, c :: cs, h1, h2 => by
    unfold cmp at h1 h2 ⊢
    by_cases e1 : a = b
    · subst e1
      rw [if_pos rfl] at h1
      rw [if_pos rfl]
      by_cases e2 : a = c
      · subst e2
        rw [if_pos rfl] at h2
        rw [if_pos rfl]
        exact cmp_trans ps qs cs h1 h2
      · rw [if_neg e2] at h2 ⊢
        by_cases e3 : a.toNat < c.toNat
        · rw [if_pos e3]; exact ⟨by omega, fun h => by omega⟩
        · rw [if_neg e3] at h2; omega
    · rw [if_neg e1] at h1 ⊢
      have n1 := u8_ne e1
      by_cases e4 : a.toNat < b.toNat
      · by_cases e2 : b = c
        · subst e2
          rw [if_neg e1, if_pos e4]; exact ⟨by omega, fun h => by omega⟩
        · rw [if_neg e2] at h2
          have n2 := u8_ne e2
          by_cases e5 : b.toNat < c.toNat
          · have e6 : ¬ a = c := fun e => by subst e; omega
            rw [if_neg e6, if_pos (by omega)]; exact ⟨by omega, fun h => by omega⟩
          · rw [if_neg e5] at h2; omega
      · rw [if_neg e4] at h1; omega
theorem com_le : ∀ xs ys, com xs ys ≤ xs.length ∧ com xs ys ≤ ys.length
  | [], ys => by cases ys <;> simp [com]
  | _ :: _, [] => by simp [com]
  | a :: ps, b :: qs => by
    unfold com
    have := com_le ps qs
    split <;> simp <;> omega
theorem com_take : ∀ xs ys : List UInt8, xs.take (com xs ys) = ys.take (com xs ys)
  | [], ys => by cases ys <;> simp [com]
  | _ :: _, [] => by simp [com]
  | a :: ps, b :: qs => by
    unfold com
    split
    · rename_i e; subst e; simp [com_take ps qs]
    · simp
theorem com_pre : ∀ p xs ys, com (p ++ xs) (p ++ ys) = p.length + com xs ys
  | [], _, _ => by simp
  | a :: p, xs, ys => by
    show com (a :: (p ++ xs)) (a :: (p ++ ys)) = _
    rw [com, if_pos rfl, com_pre p xs ys]; simp; omega
/-- split at a place up to which they are alike -/
theorem cut_at {xs ys : List UInt8} {k : Nat} (h : xs.take k = ys.take k) : ∃ p a b, xs = p ++ a ∧ ys = p ++ b ∧ a = xs.drop k ∧ b = ys.drop k ∧ p = xs.take k :=
  ⟨xs.take k, xs.drop k, ys.drop k, (List.take_append_drop k xs).symm, by rw [h]; exact (List.take_append_drop k ys).symm, rfl, rfl, rfl⟩
theorem cmp_drop {xs ys : List UInt8} {k : Nat} (h : xs.take k = ys.take k) : cmp xs ys = cmp (xs.drop k) (ys.drop k) := by
  obtain ⟨p, a, b, e1, e2, e3, e4, _⟩ := cut_at h
  rw [← e3, ← e4]
  conv => lhs; rw [e1, e2]
  exact cmp_pre p a b
theorem com_drop {xs ys : List UInt8} {k : Nat} (h : xs.take k = ys.take k) (hk : k ≤ xs.length) : com xs ys = k + com (xs.drop k) (ys.drop k) := by
  obtain ⟨p, a, b, e1, e2, e3, e4, e5⟩ := cut_at h
  rw [← e3, ← e4]
  conv => lhs; rw [e1, e2]
  rw [com_pre, e5, List.length_take]; omega
theorem drop_cons {xs : List UInt8} {k : Nat} {x : UInt8} (h : xs[k]? = some x) : xs.drop k = x :: xs.drop (k + 1) := by
  obtain ⟨hk, e⟩ := List.getElem?_eq_some_iff.1 h
  rw [List.drop_eq_getElem_cons hk, e]
theorem cmp_diff {xs ys : List UInt8} {k : Nat} {x y : UInt8} (h : xs.take k = ys.take k) (hx : xs[k]? = some x) (hy : ys[k]? = some y) (hne : x ≠ y) : cmp xs ys = if x.toNat < y.toNat then -1 else 1 := by
  rw [cmp_drop h, drop_cons hx, drop_cons hy, cmp, if_neg hne]
theorem com_diff {xs ys : List UInt8} {k : Nat} {x y : UInt8} (h : xs.take k = ys.take k) (hx : xs[k]? = some x) (hy : ys[k]? = some y) (hne : x ≠ y) : com xs ys = k := by
  have hk := (List.getElem?_eq_some_iff.1 hx).1
  rw [com_drop h (by omega), drop_cons hx, drop_cons hy, com, if_neg hne, Nat.add_zero]
theorem com_full {xs ys : List UInt8} {k : Nat} (h : xs.take k = ys.take k) (hx : k ≤ xs.length) (hy : k ≤ ys.length) (hk : k = xs.length ∨ k = ys.length) : com xs ys = k := by
  rw [com_drop h hx]
  rcases hk with e | e
  · rw [List.drop_of_length_le (by omega : xs.length ≤ k)]; cases ys.drop k <;> simp [com]
  · rw [List.drop_of_length_le (by omega : ys.length ≤ k)]; cases xs.drop k <;> simp [com]
theorem cmp_full {xs ys : List UInt8} {k : Nat} (h : xs.take k = ys.take k) (hx : k ≤ xs.length) (hy : k ≤ ys.length) (hk : k = xs.length ∨ k = ys.length) :
    cmp xs ys = if xs.length < ys.length then -1 else if ys.length < xs.length then 1 else 0 := by
  rw [cmp_drop h]
  have hd : ∀ zs : List UInt8, zs.drop k = [] ↔ zs.length ≤ k := fun zs => List.drop_eq_nil_iff
  rcases hk with e | e
  · rw [List.drop_of_length_le (by omega : xs.length ≤ k), cmp_nil]
    by_cases h0 : xs.length < ys.length
    · rw [if_pos h0, if_neg (fun e2 => by have := (hd ys).1 e2; omega)]
    · rw [if_neg h0, if_neg (by omega : ¬ ys.length < xs.length), if_pos ((hd ys).2 (by omega))]
  · rw [List.drop_of_length_le (by omega : ys.length ≤ k), cmp_neg, cmp_nil]
    by_cases h0 : ys.length < xs.length
    · rw [if_neg (by omega : ¬ xs.length < ys.length), if_pos h0, if_neg (fun e2 => by have := (hd xs).1 e2; omega)]; rfl
    · rw [if_neg (by omega : ¬ xs.length < ys.length), if_neg h0, if_pos ((hd xs).2 (by omega))]; rfl
/-- where they part -/
theorem com_end (xs ys : List UInt8) : com xs ys = xs.length ∨ com xs ys = ys.length ∨ ∃ x y, xs[com xs ys]? = some x ∧ ys[com xs ys]? = some y ∧ x ≠ y ∧ cmp xs ys = if x.toNat < y.toNat then -1 else 1 := by
  have hl := com_le xs ys
  have ht := com_take xs ys
  generalize hk : com xs ys = k at *
  by_cases h1 : k = xs.length
  · exact .inl h1
  by_cases h2 : k = ys.length
  · exact .inr (.inl h2)
  obtain ⟨x, hx⟩ : ∃ x, xs[k]? = some x := ⟨_, List.getElem?_eq_getElem (by omega)⟩
  obtain ⟨y, hy⟩ : ∃ y, ys[k]? = some y := ⟨_, List.getElem?_eq_getElem (by omega)⟩
  have hne : x ≠ y := by
    intro e
    subst e
    have := com_drop ht (by omega)
    rw [drop_cons hx, drop_cons hy, com, if_pos rfl] at this
    omega
  exact .inr (.inr ⟨x, y, hx, hy, hne, cmp_diff ht hx hy hne⟩)
/-- the reference's way of comparing -/
theorem cmp_com (xs ys : List UInt8) : cmp xs ys = if com xs ys = xs.length ∧ com xs ys = ys.length then 0 else if com xs ys = xs.length then -1 else if com xs ys = ys.length then 1 else
    if (xs.getD (com xs ys) 0).toNat < (ys.getD (com xs ys) 0).toNat then -1 else 1 := by
  have hl := com_le xs ys
  have ht := com_take xs ys
  rcases com_end xs ys with h | h | ⟨x, y, hx, hy, hne, hc⟩
  · have := cmp_full ht hl.1 hl.2 (.inl h)
    rw [this]
    by_cases h2 : com xs ys = ys.length
    · rw [if_neg (by omega), if_neg (by omega), if_pos ⟨h, h2⟩]
    · rw [if_pos (by omega), if_neg (fun e => h2 e.2), if_pos h]
  · have := cmp_full ht hl.1 hl.2 (.inr h)
    rw [this]
    by_cases h2 : com xs ys = xs.length
    · rw [if_neg (by omega), if_neg (by omega), if_pos ⟨h2, h⟩]
    · rw [if_neg (by omega), if_pos (by omega), if_neg (fun e => h2 e.1), if_neg h2, if_pos h]
  · have h1 := (List.getElem?_eq_some_iff.1 hx).1
    have h2 := (List.getElem?_eq_some_iff.1 hy).1
    rw [hc, if_neg (show ¬ (com xs ys = xs.length ∧ com xs ys = ys.length) from fun e => by omega), if_neg (show ¬ com xs ys = xs.length by omega), if_neg (show ¬ com xs ys = ys.length by omega), List.getD, List.getD, hx, hy]; rfl
end Go.Proofs.YtljcogimeimknaaGreat
/- Words for the step from a walk to the given row: arguments opened as slices of bytes and of numbers, with their sizes. No condition. -/
namespace Go.Proofs.YtljcogimeimknaaGreat
set_option linter.unusedVariables false
open Go.ChangeShapes Go.WideShapes Go.ChangeAt Go.RowKit

theorem prog_own : ownKnob Tryz.prog.godebug = none := by kernel_rfl
theorem prog_laidOut : laidOutB Tryz.prog = true := by kernel_rfl

theorem wf_u8_of {x : Int} (h : (Lit.int .u8 x).wf = true) : 0 ≤ x ∧ x < 256 := by
  simp [Lit.wf, IntKind.min, IntKind.max, IntKind.signed, IntKind.bits] at h; omega
theorem wf_i64_of {x : Int} (h : (Lit.int .i64 x).wf = true) : -9223372036854775808 ≤ x ∧ x ≤ 9223372036854775807 := by
  simp [Lit.wf, IntKind.min, IntKind.max, IntKind.signed, IntKind.bits] at h; omega

/-- a slice of integers, opened, whatever its kind -/
theorem opens_ints {H : Type} {enc : TypeId × Value → H} {P : Program} {t e : TypeId} {k : IntKind} (ht : P.underlying t = some (.slice e)) (he : P.underlying e = some (.int k)) (hc : P.cellsOf e = 1)
    {W : World} {a : Option Addr} {n c : Nat} {d : DataW H} {p : List MemPlace} (h : DataW.Trod enc P W 0 (fun _ => true) true t (.slice a n c) d p) :
    ∃ zs : List Int, Sl (Value.int k) W a n c zs ∧ (∀ z ∈ zs, (Lit.int k z).wf = true) ∧ ((d = .nil ∧ c = 0) ∨ ∃ elems spare, d = .slice elems spare ∧ elems.length + spare.length = c) := by
  obtain ⟨fuel, hf⟩ := h
  rcases open_ints ht he hc hf with ⟨hcs, hx⟩ | ⟨x, l, c', zs, hcs, _, hl, hm, hz, hx, hcell, hwz⟩
  · simp [Value.cells] at hcs
    obtain ⟨rfl, rfl, rfl⟩ := hcs
    simp only [Prod.mk.injEq] at hx
    exact ⟨[], Sl.nil _ _, by simp, .inl ⟨hx.1, rfl⟩⟩
  · simp [Value.cells] at hcs
    obtain ⟨rfl, rfl, rfl⟩ := hcs
    simp only [Prod.mk.injEq] at hx
    simp only [if_true] at hz
    refine ⟨zs.take n, ⟨by simp; omega, hl, by simp, fun i z hi => ?_⟩, fun z hz => hwz z (List.mem_of_mem_take hz), .inr ⟨_, _, hx.1, by simp [lits]; omega⟩⟩
    have hin : i < n := by have := (List.getElem?_eq_some_iff.1 hi).1; simp at this; omega
    have hc0 := hcell i (by omega)
    obtain ⟨b, off, s⟩ := x
    have hc00 := hcell 0 (by omega)
    obtain rfl : s = none := by simpa [Addr.add] using World.cell?_spot hc00
    refine ⟨b, off, rfl, ?_⟩
    have e : (⟨b, off, none⟩ : Addr).add i = ⟨b, off + i, none⟩ := by unfold Addr.add; split <;> simp_all
    rw [e] at hc0
    rw [List.getElem?_take_of_lt hin] at hi
    rw [hc0, List.getD, hi]; rfl

theorem opens_bytes {H : Type} {enc : TypeId × Value → H} {P : Program} {t e : TypeId} (ht : P.underlying t = some (.slice e)) (he : P.underlying e = some (.int .u8)) (hc : P.cellsOf e = 1)
    {W : World} {a : Option Addr} {n c : Nat} {d : DataW H} {p : List MemPlace} (h : DataW.Trod enc P W 0 (fun _ => true) true t (.slice a n c) d p) :
    ∃ xs : List UInt8, Sl Bf W a n c xs ∧ ((d = .nil ∧ c = 0) ∨ ∃ elems spare, d = .slice elems spare ∧ elems.length + spare.length = c) := by
  obtain ⟨zs, hs, hw, hd⟩ := opens_ints ht he hc h
  refine ⟨zs.map fun z => UInt8.ofNat z.toNat, ⟨by rw [List.length_map]; exact hs.1, hs.2.1, hs.2.2.1, fun i x hx => ?_⟩, hd⟩
  rw [List.getElem?_map] at hx
  cases hz : zs[i]? with
  | none => rw [hz] at hx; cases hx
  | some z =>
    rw [hz] at hx; cases hx
    obtain ⟨b, o, ha, hcell⟩ := hs.2.2.2 i z hz
    refine ⟨b, o, ha, ?_⟩
    have hb := wf_u8_of (hw z (List.mem_of_getElem? hz))
    rw [hcell]
    unfold Bf B
    rw [UInt8.toNat_ofNat']
    congr 2; omega

/-- the reach of an argument -/
theorem reach_of {H : Type} {P : Program} {ts : List TypeId} {ds : List (DataW H)} {d : DataW H} {c bytes : Nat} (h : (DataW.weightsEach P ts ds).all (· ≤ reachBytes) = true) (j : Nat) {t e : TypeId}
    (ht : ts[j]? = some t) (hd : ds[j]? = some d) (hu : P.underlying t = some (.slice e)) (hb : P.bytesOf e = bytes) (hc : (d = .nil ∧ c = 0) ∨ ∃ elems spare, d = .slice elems spare ∧ elems.length + spare.length = c) :
    c * bytes ≤ 140737488351232 := by
  rcases hc with ⟨_, rfl⟩ | ⟨el, sp, rfl, hl⟩
  · simp
  · have := sized_slice h ht hd hu
    rw [hl, hb] at this
    simpa [reachBytes] using this

/-! ### what the bound of the second form gives -/
theorem bulk_one {H : Type} (d : DataW H) : 1 ≤ Rows.uptoBulk d := by
  cases d with
  | lit l => cases l <;> simp [Rows.uptoBulk]
  | nil => simp [Rows.uptoBulk]
  | ptr d => simp [Rows.uptoBulk]
  | slice elems spare => simp [Rows.uptoBulk]
  | agg parts => simp [Rows.uptoBulk]
  | iface t d => simp [Rows.uptoBulk]
  | map entries => simp [Rows.uptoBulk]
  | held h => simp [Rows.uptoBulk]
theorem bulk_length {H : Type} (l : List (DataW H)) : l.length ≤ Rows.uptoBulkAll l := by
  induction l with
  | nil => simp [Rows.uptoBulkAll]
  | cons x r ih => have := bulk_one x; simp only [Rows.uptoBulkAll, List.length_cons]; omega
theorem bulk_slice {H : Type} {d : DataW H} {c : Nat} (hc : (d = .nil ∧ c = 0) ∨ ∃ elems spare, d = .slice elems spare ∧ elems.length + spare.length = c) : c + 1 ≤ Rows.uptoBulk d := by
  rcases hc with ⟨rfl, rfl⟩ | ⟨el, sp, rfl, hl⟩
  · simp [Rows.uptoBulk]
  · have h1 := bulk_length el
    have h2 := bulk_length sp
    simp only [Rows.uptoBulk]
    omega
end Go.Proofs.YtljcogimeimknaaGreat
/- From the row's reading to a slice of entries (structs of two slices of bytes). No condition. -/
namespace Go.Proofs.YtljcogimeimknaaGreat
set_option linter.unusedVariables false
open Go.ChangeShapes Go.RowKit

/-- a slice of entries that reads as a list of pairs of texts -/
def Ents (w : World) (a : Option Addr) (n c : Nat) (es : List (List UInt8 × List UInt8)) : Prop :=
  es.length = n ∧ n ≤ c ∧ (a = none → c = 0) ∧ ∀ i k v, es[i]? = some (k, v) → ∃ b o ak nk ck av nv cv, a = some ⟨b, o, none⟩ ∧ w.cell? ⟨b, o + i * 2, none⟩ = some (.slice ak nk ck) ∧ w.cell? ⟨b, o + i * 2 + 1, none⟩ = some (.slice av nv cv) ∧ Sl Bf w ak nk ck k ∧ Sl Bf w av nv cv v

theorem trod_bytes {H : Type} {enc : TypeId × Value → H} {P : Program} {t e : TypeId} (ht : P.underlying t = some (.slice e)) (he : P.underlying e = some (.int .u8)) (hc : P.cellsOf e = 1)
    {W : World} {V : Value} {n : Nat} {x : DataW H × List MemPlace} (h : DataW.trod enc P W 0 (fun _ => true) true n t [V] = some x) :
    ∃ a l c xs, V = .slice a l c ∧ Sl Bf W a l c xs ∧ ((x.1 = .nil ∧ c = 0) ∨ ∃ elems spare, x.1 = .slice elems spare ∧ elems.length + spare.length = c) := by
  have key : ∀ a l c, V = .slice a l c → ∃ a l c xs, V = .slice a l c ∧ Sl Bf W a l c xs ∧ ((x.1 = .nil ∧ c = 0) ∨ ∃ elems spare, x.1 = .slice elems spare ∧ elems.length + spare.length = c) := by
    rintro a l c rfl
    obtain ⟨xs, hs, hd⟩ := opens_bytes (d := x.1) (p := x.2) ht he hc ⟨n, by simpa [Value.cells] using h⟩
    exact ⟨_, _, _, xs, rfl, hs, hd⟩
  rcases open_ints ht he hc h with ⟨hcs, _⟩ | ⟨y, l, c', zs, hcs, _⟩
  · exact key none 0 0 (by simpa using hcs)
  · exact key (some y) l c' (by simpa using hcs)

theorem weights_mem_all {H : Type} {P : Program} {e : TypeId} {d : DataW H} {m : Nat} (hm : m ∈ d.weights P e) : ∀ {l : List (DataW H)}, d ∈ l → m ∈ DataW.weightsAll P e l
  | [], h => by cases h
  | x :: r, h => by
    simp only [DataW.weightsAll, List.mem_append]
    cases List.mem_cons.1 h with
    | inl e => subst e; exact .inl hm
    | inr e => exact .inr (weights_mem_all hm e)
/-- of a text's reading: its room is among the weights, and within the bulk -/
theorem weights_text {H : Type} {P : Program} {q u : TypeId} {d : DataW H} {c : Nat} (hq : P.underlying q = some (.slice u)) (hd : (d = .nil ∧ c = 0) ∨ ∃ elems spare, d = .slice elems spare ∧ elems.length + spare.length = c) :
    c = 0 ∨ c * P.bytesOf u ∈ d.weights P q := by
  rcases hd with ⟨_, rfl⟩ | ⟨el, sp, rfl, hl⟩
  · exact .inl rfl
  · refine .inr ?_
    subst hl
    simp [DataW.weights, hq]
theorem bulk_sum {H : Type} (D : Nat → DataW H) (f : Nat → Nat) : ∀ l : List Nat, (∀ i, i ∈ l → f i + 1 ≤ Rows.uptoBulk (D i)) → (l.map f).sum + l.length ≤ Rows.uptoBulkAll (l.map D)
  | [], _ => by simp
  | x :: r, h => by
    have h1 := h x (by simp)
    have h2 := bulk_sum D f r (fun i hi => h i (by simp [hi]))
    simp only [List.map_cons, List.sum_cons, List.length_cons, Rows.uptoBulkAll]; omega

end Go.Proofs.YtljcogimeimknaaGreat
/- Rows of the call's own whose spare places are zero elements: append. No condition. -/
namespace Go.Proofs.YtljcogimeimknaaGreat
set_option linter.unusedVariables false
open Go.RowKit

/-- a row of the call's own, its spare places zero elements -/
def OwZ {α : Type} (f : α → List Value) (x0 : α) (w : World) (base : Nat) (e : TypeId) (v : Value) (xs : List α) : Prop :=
  (v = .slice none 0 0 ∧ xs = []) ∨
  ∃ (g cap : Nat), v = .slice (some ⟨g, 0, none⟩) xs.length cap ∧ base ≤ g ∧ w.heap[g]? = some (.cells ((xs ++ List.replicate (cap - xs.length) x0).flatMap f).toArray e (0, 0)) ∧ xs.length ≤ cap ∧ cap ≤ maxLen
theorem OwZ.t {α : Type} {f : α → List Value} {x0 : α} {w : World} {base : Nat} {e : TypeId} {v : Value} {xs : List α} (h : OwZ f x0 w base e v xs) : OwT f w base e v xs := by
  rcases h with h | ⟨g, cap, rfl, hg, hh, hn, hc⟩
  · exact .inl h
  · exact .inr ⟨g, cap, _, rfl, hg, hh, by simp; omega, hn, hc, by simp⟩
theorem OwZ.nil {α : Type} (f : α → List Value) (x0 : α) (w : World) (base : Nat) (e : TypeId) : OwZ f x0 w base e (.slice none 0 0) ([] : List α) := .inl ⟨rfl, rfl⟩
theorem OwZ.of_block {α : Type} {f : α → List Value} {x0 : α} {w w' : World} {base : Nat} {e : TypeId} {v : Value} {xs : List α} (h : OwZ f x0 w base e v xs) (hb : ∀ g, v.ownBlock = some g → w'.heap[g]? = w.heap[g]?) : OwZ f x0 w' base e v xs := by
  rcases h with h | ⟨g, cap, rfl, hg, hh, r⟩
  · exact .inl h
  · exact .inr ⟨g, cap, rfl, hg, (hb g rfl).trans hh, r⟩
theorem OwZ.keep {α : Type} {f : α → List Value} {x0 : α} {w w' : World} {base : Nat} {e : TypeId} {v : Value} {xs : List α} (h : OwZ f x0 w base e v xs) (hb : Below w.heap.size w w') : OwZ f x0 w' base e v xs :=
  h.of_block fun g hg => hb.block g (h.t.lt g hg).2
theorem OwZ.grown {α : Type} {f : α → List Value} {x0 : α} {w w' : World} {row : Option Nat} {base : Nat} {e : TypeId} {v : Value} {xs : List α} (h : OwZ f x0 w base e v xs) (hb : w.grownBy w' row) (hne : ∀ j, v.ownBlock = some j → row ≠ some j) : OwZ f x0 w' base e v xs :=
  h.of_block fun g hg => hb.block g (h.t.lt g hg).2 (fun e => hne g hg e.symm)
theorem OwZ.base {α : Type} {f : α → List Value} {x0 : α} {w : World} {base base' : Nat} {e : TypeId} {v : Value} {xs : List α} (h : OwZ f x0 w base e v xs) (hb : base' ≤ base) : OwZ f x0 w base' e v xs := by
  rcases h with h | ⟨g, cap, rfl, hg, r⟩
  · exact .inl h
  · exact .inr ⟨g, cap, rfl, Nat.le_trans hb hg, r⟩

section
variable {α : Type} {f : α → List Value} {x0 : α} {P : Program} {t e : TypeId} {k bytes : Nat}
theorem run_appZ (E : EltT P t e f k bytes) (hz0 : ∃ i z, P.info? e = some i ∧ i.zero = some z ∧ z.cells.toList = f x0) (w : World) (ty : TypeId) (base : Nat) (v : Value) (xs : List α) (hown : OwZ f x0 w base e v xs) (aa : Option Addr) (m c : Nat) (news : List α)
    (hx : SlT f k w aa m c news) (h63 : xs.length + m ≤ maxLen) (hbytes : Fits (xs.length + m) bytes) (hbase : base ≤ w.heap.size) :
    ∃ v' w', (Builtin.append_ #[t, t] ty #[v, .slice aa m c]).run P w = .ok v' w' ∧ OwZ f x0 w' base e v' (xs ++ news) ∧ w.grownBy w' v.ownBlock ∧
      (v'.ownBlock = v.ownBlock ∨ v'.ownBlock = some w.heap.size) := by
  have hownT := hown.t
  obtain ⟨ht, ⟨i, z, hi1, hi2, hi3, hi4, _, _⟩, hf, hk, h1⟩ := E
  have hz : z.cells.toList = f x0 := by
    obtain ⟨i', z', e1, e2, e3⟩ := hz0
    rw [hi1] at e1; cases e1
    rw [hi2] at e2; cases e2
    exact e3
  subst hi3; subst hi4
  have hml : news.length = m := hx.1
  cases aa with
  | none =>
    have hc0 := hx.2.2.1 rfl
    have hm0 : m = 0 := by have := hx.2.1; omega
    subst hm0 hc0
    have hn : news = [] := List.eq_nil_of_length_eq_zero hml
    subst hn
    refine ⟨v, w, ?_, by simpa using hown, World.grownBy.refl _ _, .inl rfl⟩
    rcases hown with ⟨rfl, rfl⟩ | ⟨g, cap, rfl, hg, hh, hn, hc⟩
    · simp [Builtin.append_, run_underlying ht, sizeOf, typeInfo, hi1, Builtin.lenOf, Builtin.firstCells]
    · simp [Builtin.append_, run_underlying ht, sizeOf, typeInfo, hi1, Builtin.lenOf, Builtin.firstCells, hn]
      rfl
  | some q =>
    have hnews := hx.news hf hk
    have hlen : (news.flatMap f).length = m * i.size := by rw [flat_length hf, hml]
    have hone : ∀ u ∈ news.flatMap f, u.oneCell' = true := by
      intro u hu; obtain ⟨x, _, hxu⟩ := List.mem_flatMap.1 hu; exact h1 x u hxu
    have hsmall : xs.length + m ≤ 9223372036854775807 := by simp only [maxLen] at h63; omega
    have grown : ∀ (old : Nat) (row : Option Nat),
        OwZ f x0 (w.drew.alloc (.cells ((xs.flatMap f).toArray ++ (news.flatMap f).toArray ++ Builtin.zeroCells z.cells (grownCap w (xs.length + m) old e - (xs.length + m))) e)) base e
          (.slice (some ⟨w.heap.size, 0, none⟩) (xs.length + m) (grownCap w (xs.length + m) old e)) (xs ++ news) ∧
        w.grownBy (w.drew.alloc (.cells ((xs.flatMap f).toArray ++ (news.flatMap f).toArray ++ Builtin.zeroCells z.cells (grownCap w (xs.length + m) old e - (xs.length + m))) e)) row := by
      intro old row
      have hge := grownCap_ge w (xs.length + m) old e
      have hcm : grownCap w (xs.length + m) old e ≤ maxLen := grownCap_le_maxLen w (xs.length + m) old e h63
      refine ⟨.inr ⟨w.heap.size, _, by rw [List.length_append, hml], hbase, ?_, ?_, hcm⟩, ⟨rfl, rfl, rfl, by simp, fun j hj _ => Below.heap_alloc w.drew _ j hj⟩⟩
      · have : (w.drew.alloc (.cells ((xs.flatMap f).toArray ++ (news.flatMap f).toArray ++ Builtin.zeroCells z.cells (grownCap w (xs.length + m) old e - (xs.length + m))) e)).heap[w.heap.size]? = _ := heap_new w.drew _
        rw [this]
        congr 2
        apply Array.ext'
        simp only [Array.toList_append, List.flatMap_append, zero_flat (hf x0) hk hz, List.length_append, hml]
      · simp [hml]; omega
    rcases hown with ⟨rfl, rfl⟩ | ⟨g, cap, rfl, hbg, hh, hn, hcm⟩
    · by_cases hm : m = 0
      · subst hm
        have hn : news = [] := List.eq_nil_of_length_eq_zero hml
        subst hn
        refine ⟨.slice none 0 0, w, ?_, .inl ⟨rfl, rfl⟩, World.grownBy.refl _ _, .inl rfl⟩
        simp [Builtin.append_, run_underlying ht, sizeOf, typeInfo, hi1, Builtin.lenOf, Builtin.firstCells, loadCells, loadCellsFrom]
      · have hr := run_append_nil (P := P) w t ty e i z ht hi1 hi2 q m c (news.flatMap f) hlen hnews (by omega) (by simp at hsmall; omega) (by have hb := hbytes 0 (by simp; omega); simp only [List.length_nil, Nat.zero_add] at hb; rw [nextslicecap_zero (by omega)] at hb; exact hb)
        have hgr := grown 0 (Value.ownBlock (.slice none 0 0))
        simp only [List.length_nil, Nat.zero_add, List.flatMap_nil, List.nil_append, Array.empty_append] at hgr ⊢
        exact ⟨_, _, hr, hgr.1, hgr.2, .inr rfl⟩
    · have hl : (xs ++ List.replicate (cap - xs.length) x0).length = cap := by simp; omega
      by_cases hroom : xs.length + m ≤ cap
      · have hcs : ((xs ++ List.replicate (cap - xs.length) x0).flatMap f).toArray.size = cap * i.size := by rw [List.size_toArray, flat_length hf, hl]
        have hfit : xs.length * i.size + (news.flatMap f).length ≤ ((xs ++ List.replicate (cap - xs.length) x0).flatMap f).toArray.size := by rw [hcs, hlen, ← Nat.add_mul]; exact Nat.mul_le_mul_right _ hroom
        have hr := run_append_room (P := P) w t ty e i ht hi1 g xs.length cap _ hh q m c (news.flatMap f) hlen hnews hone hroom hfit
        refine ⟨_, _, hr, .inr ⟨g, cap, by rw [List.length_append, hml], hbg, ?_, by rw [List.length_append, hml]; exact hroom, hcm⟩, ⟨rfl, rfl, rfl, by simp, fun k _ hk => setRow_other w g k _ (fun e => hk (by simp [Value.ownBlock, e]))⟩, .inl rfl⟩
        rw [setRow_heap w g _ _ e _ hh]
        congr 2
        apply Array.ext'
        have hd : (xs ++ List.replicate (cap - xs.length) x0).drop (xs.length + m) = List.replicate (cap - (xs ++ news).length) x0 := by
          rw [List.drop_append, List.drop_of_length_le (by omega), List.nil_append, List.drop_replicate]
          congr 1
          rw [List.length_append, hml]; omega
        rw [hlen, ← Nat.add_mul, flat_take hf, flat_drop hf, hd]
        simp
      · have holds : ∀ j u, (xs.flatMap f)[j]? = some u → w.cell? ((⟨g, 0, none⟩ : Addr).add j) = some u := by
          intro j u hj
          have hadd : (⟨g, 0, none⟩ : Addr).add j = ⟨g, j, none⟩ := by unfold Addr.add; split <;> simp_all
          rw [hadd]
          simp only [World.cell?, hh]
          have hlt := (List.getElem?_eq_some_iff.1 hj).1
          have : ((xs ++ List.replicate (cap - xs.length) x0).flatMap f)[j]? = some u := by
            rw [List.flatMap_append, List.getElem?_append_left hlt]; exact hj
          simpa using this
        have hr := run_append_grow (P := P) w t ty e i z ht hi1 hi2 ⟨g, 0, none⟩ xs.length cap (xs.flatMap f) (flat_length hf xs) holds q m c (news.flatMap f) hlen hnews (by omega) (by omega) (hbytes _ (by omega))
        have hgr := grown cap (Value.ownBlock (.slice (some ⟨g, 0, none⟩) xs.length cap))
        exact ⟨_, _, hr, hgr.1, hgr.2, .inr rfl⟩

theorem wpList_appZ (E : EltT P t e f k bytes) (hz0 : ∃ i z, P.info? e = some i ∧ i.zero = some z ∧ z.cells.toList = f x0) {ops : Array Oper} {rest : List Oper} {o : Oper} {a : Act} {Q : Exit → Act → World → Prop} {w : World} (hw : Region.wanted o (yielded ops a.tmps) = true) (s x : Operand)
    (ho : o.op = .call { callee := .builtin .append, args := #[s, x], argTypes := #[t, t] }) (base : Nat) (v : Value) (xs : List α) (hs : a.eval s = v) (hown : OwZ f x0 w base e v xs)
    (aa : Option Addr) (m c : Nat) (news : List α) (hx : a.eval x = .slice aa m c) (hsl : SlT f k w aa m c news)
    (h63 : xs.length + m ≤ maxLen) (hbytes : (xs.length + m) * bytes ≤ 140737488355328) (hbase : base ≤ w.heap.size) (ys : List α) (hy : xs ++ news = ys)
    (h : ∀ v' w', OwZ f x0 w' base e v' ys → w.grownBy w' v.ownBlock → (v'.ownBlock = v.ownBlock ∨ v'.ownBlock = some w.heap.size) → Below base w w' → wpList P ops Q rest (a.put o.dst v') w') : wpList P ops Q (o :: rest) a w := by
  subst hy
  refine wpList_w hw fun K hK => ?_
  obtain ⟨v', w', hr, h2, h3, h4⟩ := run_appZ E hz0 w o.type base v xs hown aa m c news hsl h63 (.half hbytes) hbase
  unfold Oper.wp execOp
  simp only [ho, resolve, invoke, builtin, Sem.run_bind, Sem.run_pure, Result.andThen_ok, List.map_toArray, List.map_cons, List.map_nil, hs, hx, hr]
  exact hK _ _ (h v' w' h2 h3 h4 ((Below.refl _ _).grown h3 hbase (fun k hk => (hown.t.lt k hk).1)))
theorem step_appZ (E : EltT P t e f k bytes) (hz0 : ∃ i z, P.info? e = some i ∧ i.zero = some z ∧ z.cells.toList = f x0) {ops : Array Oper} {o : Oper} {a : Act} {K : Act → World → Prop} {Q : Exit → Act → World → Prop} {F : Prop} {w : World} (hw : Region.wanted o (yielded ops a.tmps) = true) (s x : Operand)
    (ho : o.op = .call { callee := .builtin .append, args := #[s, x], argTypes := #[t, t] }) (base : Nat) (v : Value) (xs : List α) (hs : a.eval s = v) (hown : OwZ f x0 w base e v xs)
    (aa : Option Addr) (m c : Nat) (news : List α) (hx : a.eval x = .slice aa m c) (hsl : SlT f k w aa m c news)
    (h63 : xs.length + m ≤ maxLen) (hbytes : (xs.length + m) * bytes ≤ 140737488355328) (hbase : base ≤ w.heap.size) (ys : List α) (hy : xs ++ news = ys)
    (h : ∀ v' w', OwZ f x0 w' base e v' ys → w.grownBy w' v.ownBlock → (v'.ownBlock = v.ownBlock ∨ v'.ownBlock = some w.heap.size) → Below base w w' → K (a.put o.dst v') w') :
    if Region.wanted o (yielded ops a.tmps) = true then Oper.wp P o a w K Q else F := by
  subst hy
  rw [if_pos hw]
  obtain ⟨v', w', hr, h2, h3, h4⟩ := run_appZ E hz0 w o.type base v xs hown aa m c news hsl h63 (.half hbytes) hbase
  unfold Oper.wp execOp
  simp only [ho, resolve, invoke, builtin, Sem.run_bind, Sem.run_pure, Result.andThen_ok, List.map_toArray, List.map_cons, List.map_nil, hs, hx, hr]
  exact h v' w' h2 h3 h4 ((Below.refl _ _).grown h3 hbase (fun k hk => (hown.t.lt k hk).1))
end
end Go.Proofs.YtljcogimeimknaaGreat
