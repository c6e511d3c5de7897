/- Words on slices in memory, over any program: what a slice reads as, how that stays behind a call, and laws for slicing and append. No condition. -/
import Derived.WalkKit
import Derived.Handy
import Derived.Lib.Hide
import Derived.Maps.AppendAt
import Derived.BigQuiet
import Derived.Deep.QuietTactic
namespace Go.Proofs.Ytpenbaafhbbmhaa
open Go.RowKit

theorem ret_int {k : IntKind} {a b : Int} (h : a = b) : Ending.returned (.int k a) = .returned (.int k b) := by rw [h]
theorem val_int {k : IntKind} {a b : Int} (h : a = b) : Value.int k a = .int k b := by rw [h]
theorem ret_bool {a b : Bool} (h : a = b) : Ending.returned (.bool a) = .returned (.bool b) := by rw [h]

/-- a slice of one-cell elements reads as xs -/
def Sl {α : Type} (f : α → Value) (w : World) (a : Option Addr) (n c : Nat) (xs : List α) : Prop :=
  xs.length = n ∧ n ≤ c ∧ (a = none → c = 0) ∧ ∀ i x, xs[i]? = some x → ∃ b o, a = some ⟨b, o, none⟩ ∧ w.cell? ⟨b, o + i, none⟩ = some (f x)

theorem Sl.len {α : Type} {f : α → Value} {w : World} {a : Option Addr} {n c : Nat} {xs : List α} (h : Sl f w a n c xs) : xs.length = n := h.1
theorem Sl.le {α : Type} {f : α → Value} {w : World} {a : Option Addr} {n c : Nat} {xs : List α} (h : Sl f w a n c xs) : n ≤ c := h.2.1

theorem Sl.at {α : Type} {f : α → Value} {w : World} {a : Option Addr} {n c : Nat} {xs : List α} (h : Sl f w a n c xs) (i : Nat) (hi : i < n) :
    ∃ x b o, xs[i]? = some x ∧ a = some ⟨b, o, none⟩ ∧ w.cell? ⟨b, o + i, none⟩ = some (f x) := by
  have hl : i < xs.length := by rw [h.1]; exact hi
  obtain ⟨b, o, h1, h2⟩ := h.2.2.2 i xs[i] (List.getElem?_eq_getElem hl)
  exact ⟨_, b, o, List.getElem?_eq_getElem hl, h1, h2⟩

theorem cell_lt {w : World} {p : Addr} {v : Value} (h : w.cell? p = some v) : p.block < w.heap.size := by
  unfold World.cell? at h
  rcases Nat.lt_or_ge p.block w.heap.size with h' | h'
  · exact h'
  · rw [Array.getElem?_eq_none h'] at h; simp at h

theorem Sl.lt {α : Type} {f : α → Value} {w : World} {a : Option Addr} {n c : Nat} {xs : List α} (h : Sl f w a n c xs) (hn : 0 < n) : ∃ b o, a = some ⟨b, o, none⟩ ∧ b < w.heap.size := by
  obtain ⟨x, b, o, _, h2, h3⟩ := h.at 0 hn
  exact ⟨b, o, h2, cell_lt h3⟩

theorem Sl.blt {α : Type} {f : α → Value} {w : World} {b o : Nat} {s : Option Nat} {n c : Nat} {xs : List α} (h : Sl f w (some ⟨b, o, s⟩) n c xs) (hn : 0 < n) : b < w.heap.size := by
  obtain ⟨b', o', e, hlt⟩ := h.lt hn
  cases e; exact hlt

/-- it stays where its block stays -/
theorem Sl.of_block {α : Type} {f : α → Value} {w w' : World} {a : Option Addr} {n c : Nat} {xs : List α} (h : Sl f w a n c xs)
    (hb : ∀ b o, a = some ⟨b, o, none⟩ → 0 < n → w'.heap[b]? = w.heap[b]?) : Sl f w' a n c xs := by
  obtain ⟨h1, h2, h3, h4⟩ := h
  refine ⟨h1, h2, h3, fun i x hx => ?_⟩
  obtain ⟨b, o, ha, hc⟩ := h4 i x hx
  have hi : i < xs.length := (List.getElem?_eq_some_iff.1 hx).1
  exact ⟨b, o, ha, by rw [World.cell?_of_block (w := w) (hb b o ha (by omega))]; exact hc⟩

theorem Sl.keep {α : Type} {f : α → Value} {w w' : World} {a : Option Addr} {n c : Nat} {xs : List α} (h : Sl f w a n c xs) (hb : Below w.heap.size w w') : Sl f w' a n c xs :=
  h.of_block fun b o ha hn => by obtain ⟨b', o', e, hlt⟩ := h.lt hn; rw [ha] at e; cases e; exact hb.block b hlt

theorem Sl.grown {α : Type} {f : α → Value} {w w' : World} {row : Option Nat} {a : Option Addr} {n c : Nat} {xs : List α} (h : Sl f w a n c xs) (hb : w.grownBy w' row)
    (hne : ∀ b o, a = some ⟨b, o, none⟩ → row ≠ some b) : Sl f w' a n c xs :=
  h.of_block fun b o ha hn => by obtain ⟨b', o', e, hlt⟩ := h.lt hn; rw [ha] at e; cases e; exact hb.block b hlt (fun e => hne b o ha e.symm)

theorem Sl.nil {α : Type} (f : α → Value) (w : World) : Sl f w none 0 0 ([] : List α) := ⟨rfl, Nat.le_refl _, fun _ => rfl, fun _ _ h => by simp at h⟩
theorem Sl.empty {α : Type} (f : α → Value) (w : World) (a : Addr) (c : Nat) : Sl f w (some a) 0 c ([] : List α) := ⟨rfl, Nat.zero_le _, by simp, fun _ _ h => by simp at h⟩

theorem Sl.none_eq {α : Type} {f : α → Value} {w : World} {n c : Nat} {xs : List α} (h : Sl f w none n c xs) : n = 0 ∧ c = 0 ∧ xs = [] := by
  have := h.2.2.1 rfl
  have h1 := h.1; have h2 := h.2.1
  have : n = 0 := by omega
  exact ⟨this, by omega, List.eq_nil_of_length_eq_zero (by omega)⟩

/-- the address of s[l:] -/
def adv (a : Option Addr) (c l : Nat) : Option Addr := if c = l then a else a.map (·.add l)

/-- s[l:h] -/
theorem Sl.cut {α : Type} {f : α → Value} {w : World} {a : Option Addr} {n c : Nat} {xs : List α} (h : Sl f w a n c xs) (l r : Nat) (hlr : l ≤ r) (hr : r ≤ n) :
    Sl f w (adv a c l) (r - l) (c - l) ((xs.take r).drop l) := by
  obtain ⟨h1, h2, h3, h4⟩ := h
  refine ⟨by simp; omega, by omega, fun e => ?_, fun i x hx => ?_⟩
  · unfold adv at e
    split at e
    · have := h3 e; omega
    · cases a with
      | none => have := h3 rfl; omega
      | some q => simp at e
  · have hx' := hx
    rw [List.getElem?_drop] at hx'
    have hi : l + i < r := by
      have := (List.getElem?_eq_some_iff.1 hx').1
      simp at this; omega
    rw [List.getElem?_take_of_lt hi] at hx'
    obtain ⟨b, o, rfl, hc⟩ := h4 _ _ hx'
    refine ⟨b, o + l, ?_, by rw [Nat.add_assoc]; exact hc⟩
    unfold adv
    rw [if_neg (by have := (List.getElem?_eq_some_iff.1 hx').1; omega)]
    simp only [Option.map_some, Addr.add]
    by_cases hl : l = 0
    · subst hl; simp
    · rw [if_neg hl]

theorem Sl.from {α : Type} {f : α → Value} {w : World} {a : Option Addr} {n c : Nat} {xs : List α} (h : Sl f w a n c xs) (l : Nat) (hl : l ≤ n) :
    Sl f w (adv a c l) (n - l) (c - l) (xs.drop l) := by
  have := h.cut l n hl (Nat.le_refl _)
  rwa [List.take_of_length_le (by rw [h.1]; exact Nat.le_refl _)] at this

theorem adv_zero (a : Option Addr) (c : Nat) : adv a c 0 = a := by
  unfold adv
  split
  · rfl
  · cases a <;> simp [Addr.add]

theorem Sl.upto {α : Type} {f : α → Value} {w : World} {a : Option Addr} {n c : Nat} {xs : List α} (h : Sl f w a n c xs) (r : Nat) (hr : r ≤ n) :
    Sl f w a r c (xs.take r) := by
  have := h.cut 0 r (Nat.zero_le _) hr
  simpa [adv_zero] using this

/-- a row of a block that is known whole reads so -/
theorem Sl.of_row {α : Type} {f : α → Value} {w : World} {g : Nat} {E : TypeId} {fr : Nat × Nat} {cur : Array Value} (xs : List α) (n c : Nat) (hg : w.heap[g]? = some (.cells cur E fr))
    (hl : xs.length = n) (hn : n ≤ c) (hx : cur.toList.take n = xs.map f) : Sl f w (some ⟨g, 0, none⟩) n c xs := by
  refine ⟨hl, hn, by simp, fun i x hi => ⟨g, 0, rfl, ?_⟩⟩
  have hin : i < n := by have := (List.getElem?_eq_some_iff.1 hi).1; omega
  have : (cur.toList.take n)[i]? = some (f x) := by rw [hx]; simp [hi]
  rw [List.getElem?_take_of_lt hin] at this
  simp only [World.cell?, hg, Nat.zero_add]
  simpa using this

theorem heap_new (w : World) (o : Obj) : (w.alloc o).heap[w.heap.size]? = some o := by
  show (w.heap.push o)[w.heap.size]? = _
  simp

theorem Sl.lit {α : Type} {f : α → Value} (w : World) (E : TypeId) (cur : Array Value) (xs : List α) (n : Nat) (hl : xs.length = n) (hx : cur.toList = xs.map f) :
    Sl f (w.alloc (.cells cur E)) (some ⟨w.heap.size, 0, none⟩) n n xs :=
  Sl.of_row xs n n (g := w.heap.size) (E := E) (fr := (0, 0)) (cur := cur) (heap_new w _) hl (Nat.le_refl _) (by rw [hx, List.take_of_length_le (by simp [hl])])

theorem Sl.of_own {α : Type} {f : α → Value} {w : World} {base : Nat} {E : TypeId} {v : Value} {n : Nat} (xs : List α) (h : w.ownsRow base E 1 v n (xs.map f)) :
    ∃ a c, v = .slice a n c ∧ Sl f w a n c xs := by
  obtain ⟨hl, hv⟩ := h
  have hl' : xs.length = n := by simpa using hl
  rcases hv with ⟨rfl, rfl⟩ | ⟨g, cap, cur, rfl, hg, hh, hn, hcap, hsz, htake⟩
  · have : xs = [] := List.eq_nil_of_length_eq_zero hl'
    subst this
    exact ⟨none, 0, rfl, Sl.nil f w⟩
  · exact ⟨_, _, rfl, Sl.of_row xs n cap hh hl' hn (by simpa using htake)⟩

theorem Sl.drew {α : Type} {f : α → Value} {w : World} {a : Option Addr} {n c : Nat} {xs : List α} (h : Sl f w a n c xs) : Sl f w.drew a n c xs := h
theorem Sl.drewN {α : Type} {f : α → Value} {w : World} {a : Option Addr} {n c : Nat} {xs : List α} (h : Sl f w a n c xs) (k : Nat) : Sl f (w.drewN k) a n c xs := h

theorem src_of {α : Type} {f : α → Value} {w : World} {a : Option Addr} {n c : Nat} {xs : List α} (h : Sl f w a n c xs) :
    (a = none → n = 0 ∧ c = 0) ∧ ∀ ad, a = some ad → ∀ j u, (xs.map f)[j]? = some u → w.cell? (ad.add j) = some u := by
  refine ⟨fun e => ?_, fun ad e j u hj => ?_⟩
  · subst e; exact ⟨h.none_eq.1, h.none_eq.2.1⟩
  · rw [List.getElem?_map] at hj
    cases hx : xs[j]? with
    | none => rw [hx] at hj; cases hj
    | some x =>
      rw [hx] at hj; cases hj
      obtain ⟨b, o, e', hc⟩ := h.2.2.2 j x hx
      rw [e] at e'; cases e'
      have : (⟨b, o, none⟩ : Addr).add j = ⟨b, o + j, none⟩ := by unfold Addr.add; split <;> simp_all
      rw [this]; exact hc

theorem Sl.map {α : Type} {f : α → Value} {w : World} {a : Option Addr} {n c : Nat} {xs : List α} (h : Sl f w a n c xs) : Sl id w a n c (xs.map f) := by
  refine ⟨by rw [List.length_map]; exact h.1, h.2.1, h.2.2.1, fun i u hu => ?_⟩
  rw [List.getElem?_map] at hu
  cases hx : xs[i]? with
  | none => rw [hx] at hu; cases hu
  | some x => rw [hx] at hu; cases hu; exact h.2.2.2 i x hx

theorem own_empty (w : World) (base : Nat) (E : TypeId) (hb : base ≤ w.heap.size) : (w.alloc (.cells #[] E)).ownsRow base E 1 (.slice (some ⟨w.heap.size, 0, none⟩) 0 0) 0 [] :=
  ⟨rfl, .inr ⟨w.heap.size, 0, #[], rfl, hb, heap_new w _, Nat.le_refl _, Nat.zero_le _, rfl, rfl⟩⟩

/-! ### the element type -/
structure Elt (P : Program) (t e : TypeId) (z : Value) (bytes : Nat) : Prop where
  ht : P.underlying t = some (.slice e)
  hi : (P.info? e).map (fun i => (i.zero, i.size, i.bytes)) = some (some z, 1, bytes)
  hz : z.cells.size = 1

section
variable {P : Program} {t e : TypeId} {z : Value} {bytes : Nat}

theorem run_app (E : Elt P t e z bytes) (w : World) (ty : TypeId) (base : Nat) (v : Value) (n : Nat) (xs : List Value) (hown : w.ownsRow base e 1 v n xs) (aa : Option Addr) (m c : Nat) (news : List Value)
    (hx : Sl id w aa m c news) (h1 : ∀ u ∈ news, u.oneCell' = true) (h63 : n + m ≤ maxLen) (hbytes : (n + m) * bytes ≤ 140737488355328) (hbase : base ≤ w.heap.size) :
    ∃ v' w', (Builtin.append_ #[t, t] ty #[v, .slice aa m c]).run P w = .ok v' w' ∧ w'.ownsRow base e 1 v' (n + m) (xs ++ news) ∧ w.grownBy w' v.ownBlock ∧
      (v'.ownBlock = v.ownBlock ∨ v'.ownBlock = some w.heap.size) := by
  obtain ⟨ht, hi, hz⟩ := E
  obtain ⟨i, hi1, hi2, hi3, hi4⟩ := info_parts hi
  cases aa with
  | none =>
    obtain ⟨rfl, rfl, rfl⟩ := hx.none_eq
    have := run_append_owned_none (P := P) (w := w) base t ty e i 1 ht hi1 v n xs hown
    exact ⟨v, w, this, by simpa using hown, World.grownBy.refl _ _, .inl rfl⟩
  | some q =>
    have hl : news.length = m * 1 := by rw [hx.1]; omega
    obtain ⟨v', w', r1, r2, r3, _, r5⟩ := run_append_own_at (P := P) w base t ty e i z 1 bytes ht hi1 hi2 hi3 hi4 hz (by decide) v n xs hown q m c news hl (fun j u hj => by
      obtain ⟨b, o, hq, hc⟩ := hx.2.2.2 j u hj
      cases hq
      have : (⟨b, o, none⟩ : Addr).add j = ⟨b, o + j, none⟩ := by unfold Addr.add; split <;> simp_all
      rw [this]; exact hc) h1 h63 hbytes hbase
    exact ⟨v', w', r1, r2, r3, r5⟩

theorem wp_app (E : Elt P t e z bytes) {o : Oper} {a : Act} {K : Act → World → Prop} {Q : Exit → Act → World → Prop} {w : World} (s x : Operand)
    (ho : o.op = .call { callee := .builtin .append, args := #[s, x], argTypes := #[t, t] }) (base : Nat) (v : Value) (n : Nat) (xs : List Value) (hs : a.eval s = v) (hown : w.ownsRow base e 1 v n xs)
    (aa : Option Addr) (m c : Nat) (news : List Value) (hx : a.eval x = .slice aa m c) (hsl : Sl id w aa m c news) (h1 : ∀ u ∈ news, u.oneCell' = true)
    (h63 : n + m ≤ maxLen) (hbytes : (n + m) * bytes ≤ 140737488355328) (hbase : base ≤ w.heap.size)
    (h : ∀ v' w', w'.ownsRow base e 1 v' (n + m) (xs ++ news) → w.grownBy w' v.ownBlock → (v'.ownBlock = v.ownBlock ∨ v'.ownBlock = some w.heap.size) → K (a.put o.dst v') w') : o.wp P a w K Q := by
  obtain ⟨v', w', hr, h2, h3, h4⟩ := run_app (P := P) E w o.type base v n xs hown aa m c news hsl h1 h63 hbytes hbase
  unfold Oper.wp execOp
  simp only [ho, resolve, invoke, builtin, Sem.run_bind, Sem.run_pure, Result.andThen_ok, List.map_toArray, List.map_cons, List.map_nil, hs, hx, hr]
  exact h v' w' h2 h3 h4

theorem wpList_w {ops : Array Oper} {rest : List Oper} {o : Oper} {a : Act} {Q : Exit → Act → World → Prop} {w : World} (hw : Region.wanted o (yielded ops a.tmps) = true)
    (h : ∀ K : Act → World → Prop, (∀ a w, wpList P ops Q rest a w → K a w) → o.wp P a w K Q) : wpList P ops Q (o :: rest) a w :=
  wpList_step fun K hK => by rw [if_pos hw]; exact h K hK

theorem wpList_app (E : Elt P t e z bytes) {ops : Array Oper} {rest : List Oper} {o : Oper} {a : Act} {Q : Exit → Act → World → Prop} {w : World} (hw : Region.wanted o (yielded ops a.tmps) = true) (s x : Operand)
    (ho : o.op = .call { callee := .builtin .append, args := #[s, x], argTypes := #[t, t] }) (base : Nat) (v : Value) (n : Nat) (xs : List Value) (hs : a.eval s = v) (hown : w.ownsRow base e 1 v n xs)
    (aa : Option Addr) (m c : Nat) (news : List Value) (hx : a.eval x = .slice aa m c) (hsl : Sl id w aa m c news) (h1 : ∀ u ∈ news, u.oneCell' = true)
    (h63 : n + m ≤ maxLen) (hbytes : (n + m) * bytes ≤ 140737488355328) (hbase : base ≤ w.heap.size)
    (r : Nat) (hr : n + m = r) (ys : List Value) (hy : xs ++ news = ys)
    (h : ∀ v' w', w'.ownsRow base e 1 v' r ys → w.grownBy w' v.ownBlock → (v'.ownBlock = v.ownBlock ∨ v'.ownBlock = some w.heap.size) → Below base w w' → wpList P ops Q rest (a.put o.dst v') w') : wpList P ops Q (o :: rest) a w := by
  subst hr hy
  exact wpList_w hw fun _ hK => wp_app E s x ho base v n xs hs hown aa m c news hx hsl h1 h63 hbytes hbase fun v' w' h2 h3 h4 =>
    hK _ _ (h v' w' h2 h3 h4 ((Below.refl _ _).grown h3 hbase (fun k hk => (hown.lt k hk).1)))

/-- at a step of a region that draws its order -/
theorem step_app (E : Elt P t e z bytes) {ops : Array Oper} {o : Oper} {a : Act} {K : Act → World → Prop} {Q : Exit → Act → World → Prop} {F : Prop} {w : World} (hw : Region.wanted o (yielded ops a.tmps) = true) (s x : Operand)
    (ho : o.op = .call { callee := .builtin .append, args := #[s, x], argTypes := #[t, t] }) (base : Nat) (v : Value) (n : Nat) (xs : List Value) (hs : a.eval s = v) (hown : w.ownsRow base e 1 v n xs)
    (aa : Option Addr) (m c : Nat) (news : List Value) (hx : a.eval x = .slice aa m c) (hsl : Sl id w aa m c news) (h1 : ∀ u ∈ news, u.oneCell' = true)
    (h63 : n + m ≤ maxLen) (hbytes : (n + m) * bytes ≤ 140737488355328) (hbase : base ≤ w.heap.size)
    (r : Nat) (hr : n + m = r) (ys : List Value) (hy : xs ++ news = ys)
    (h : ∀ v' w', w'.ownsRow base e 1 v' r ys → w.grownBy w' v.ownBlock → (v'.ownBlock = v.ownBlock ∨ v'.ownBlock = some w.heap.size) → Below base w w' → K (a.put o.dst v') w') :
    if Region.wanted o (yielded ops a.tmps) = true then Oper.wp P o a w K Q else F := by
  subst hr hy
  rw [if_pos hw]
  exact wp_app E s x ho base v n xs hs hown aa m c news hx hsl h1 h63 hbytes hbase fun v' w' h2 h3 h4 =>
    h v' w' h2 h3 h4 ((Below.refl _ _).grown h3 hbase (fun k hk => (hown.lt k hk).1))

/-- make([]T, 0, n) -/
theorem wpList_mk0 (E : Elt P t e z bytes) {ops : Array Oper} {rest : List Oper} {o : Oper} {a : Act} {Q : Exit → Act → World → Prop} {w : World} (hw : Region.wanted o (yielded ops a.tmps) = true) (l c : Operand)
    (ho : o.op = Op.makeSlice t l c) (base n : Nat) {kl kc : IntKind} {C : Int} (hl : a.eval l = .int kl 0) (hc : a.eval c = .int kc C) (hC : C = (n : Int)) (hb : bytes * n ≤ 281474976710656) (hm : n ≤ maxLen) (hbase : base ≤ w.heap.size)
    (h : ∀ w', w'.ownsRow base e 1 (.slice (some ⟨w.heap.size, 0, none⟩) 0 n) 0 [] → Below w.heap.size w w' → wpList P ops Q rest (a.put o.dst (.slice (some ⟨w.heap.size, 0, none⟩) 0 n)) w') : wpList P ops Q (o :: rest) a w := by
  obtain ⟨ht, hi, hz⟩ := E
  obtain ⟨i, hi1, hi2, hi3, hi4⟩ := info_parts hi
  refine wpList_w hw fun K hK => ?_
  obtain ⟨w', hrun, r1, r2⟩ := run_make_own (P := P) w base t e i z 1 ht hi1 hi2 hi3 kl kc n (by rw [hi4]; exact hb) hm hbase
  subst hC
  unfold Oper.wp
  simp [execOp, ho, hl, hc, hrun, Result.andThen]
  exact hK _ _ (h w' r1 ((Below.refl _ _).grown r2 (Nat.le_refl _) (by simp)))

/-- make([]T, n) -/
theorem wpList_mkn (E : Elt P t e z bytes) {ops : Array Oper} {rest : List Oper} {o : Oper} {a : Act} {Q : Exit → Act → World → Prop} {w : World} (hw : Region.wanted o (yielded ops a.tmps) = true) (l c : Operand)
    (ho : o.op = Op.makeSlice t l c) (base n : Nat) {kl kc : IntKind} {L C : Int} (hl : a.eval l = .int kl L) (hc : a.eval c = .int kc C) (hL : L = (n : Int)) (hC : C = (n : Int)) (hb : bytes * n ≤ 281474976710656) (hm : n ≤ maxLen) (hbase : base ≤ w.heap.size)
    (h : ∀ w', w'.ownsRow base e 1 (.slice (some ⟨w.heap.size, 0, none⟩) n n) n (madeCells z.cells (n * 1)).toList → Below w.heap.size w w' → wpList P ops Q rest (a.put o.dst (.slice (some ⟨w.heap.size, 0, none⟩) n n)) w') : wpList P ops Q (o :: rest) a w := by
  obtain ⟨ht, hi, hz⟩ := E
  obtain ⟨i, hi1, hi2, hi3, hi4⟩ := info_parts hi
  refine wpList_w hw fun K hK => ?_
  obtain ⟨w', hrun, r1, r2⟩ := run_make_full (P := P) w base t e i z 1 ht hi1 hi2 hi3 kl kc n (by rw [hi4]; exact hb) hm hbase
  subst hL
  subst hC
  unfold Oper.wp
  simp [execOp, ho, hl, hc, hrun, Result.andThen]
  exact hK _ _ (h w' r1 ((Below.refl _ _).grown r2 (Nat.le_refl _) (by simp)))

/-- append within the capacity -/
theorem wpList_fit (E : Elt P t e z bytes) {α : Type} {f : α → Value} {ops : Array Oper} {rest : List Oper} {o : Oper} {a : Act} {Q : Exit → Act → World → Prop} {w : World} (hw : Region.wanted o (yielded ops a.tmps) = true) (s x : Operand)
    (ho : o.op = .call { callee := .builtin .append, args := #[s, x], argTypes := #[t, t] }) (base g k cap : Nat) (xs : List Value) (hs : a.eval s = .slice (some ⟨g, 0, none⟩) k cap)
    (hown : w.ownsRow base e 1 (.slice (some ⟨g, 0, none⟩) k cap) k xs) (aa : Option Addr) (m c : Nat) (news : List α) (hx : a.eval x = .slice aa m c) (hsl : Sl f w aa m c news) (h1 : ∀ u ∈ news.map f, u.oneCell' = true) (r : Nat) (hr : k + m = r) (hrc : r ≤ cap) (hbase : base ≤ w.heap.size) (ys : List Value) (hy : xs ++ news.map f = ys)
    (h : ∀ w', w'.ownsRow base e 1 (.slice (some ⟨g, 0, none⟩) r cap) r ys → w.grownBy w' (some g) → Below base w w' → wpList P ops Q rest (a.put o.dst (.slice (some ⟨g, 0, none⟩) r cap)) w') : wpList P ops Q (o :: rest) a w := by
  obtain ⟨ht, hi, hz⟩ := E
  obtain ⟨i, hi1, hi2, hi3, hi4⟩ := info_parts hi
  have hsrc := src_of hsl
  subst hr hy
  refine wpList_w hw fun K hK => ?_
  unfold Oper.wp
  cases aa with
  | none =>
    obtain ⟨rfl, rfl⟩ := hsrc.1 rfl
    have hnews : news = [] := List.eq_nil_of_length_eq_zero hsl.1
    subst hnews
    have hrun := run_append_owned_none (P := P) (w := w) base t o.type e i 1 ht hi1 _ k xs hown
    simp [execOp, ho, resolve, invoke, builtin, hs, hx, hrun, Result.andThen]
    exact hK _ _ (by simpa using h w (by simpa using hown) (World.grownBy.refl _ _) (Below.refl _ _))
  | some ad =>
    obtain ⟨w', hrun, r1, r2⟩ := run_append_fits (P := P) w base t o.type e i 1 ht hi1 hi3 g k cap xs hown ad m c (news.map f) (by rw [List.length_map, hsl.1]; omega) (hsrc.2 ad rfl) h1 hrc
    simp [execOp, ho, resolve, invoke, builtin, hs, hx, hrun, Result.andThen]
    exact hK _ _ (h w' r1 r2 ((Below.refl _ _).grown r2 hbase (fun k hk => (hown.lt k hk).1)))

/-- the run of s[l:h] -/
theorem run_cut (E : Elt P t e z bytes) (w : World) (aa : Option Addr) (n c : Nat) (k1 k2 : IntKind) (l r : Nat) (hlr : l ≤ r) (hr : r ≤ c) :
    (Instr.slice t (.slice aa n c) (some (.int k1 l)) (some (.int k2 r)) none).run P w = .ok (.slice (adv aa c l) (r - l) (c - l)) w := by
  obtain ⟨ht, hi, hz⟩ := E
  obtain ⟨i, hi1, hi2, hi3, hi4⟩ := info_parts hi
  simp [Instr.slice, run_underlying ht, Instr.sliceBounds, Instr.sliceBound, asIntOf, sizeOf, typeInfo, hi1, hi3, hlr, hr, adv]
theorem run_cutfrom (E : Elt P t e z bytes) (w : World) (aa : Option Addr) (n c : Nat) (k1 : IntKind) (l : Nat) (hl : l ≤ n) :
    (Instr.slice t (.slice aa n c) (some (.int k1 l)) none none).run P w = .ok (.slice (adv aa c l) (n - l) (c - l)) w := by
  obtain ⟨ht, hi, hz⟩ := E
  obtain ⟨i, hi1, hi2, hi3, hi4⟩ := info_parts hi
  simp [Instr.slice, run_underlying ht, Instr.sliceBounds, Instr.sliceBound, asIntOf, sizeOf, typeInfo, hi1, hi3, hl, adv]
theorem run_cutto (E : Elt P t e z bytes) (w : World) (aa : Option Addr) (n c : Nat) (k2 : IntKind) (r : Nat) (hr : r ≤ c) :
    (Instr.slice t (.slice aa n c) none (some (.int k2 r)) none).run P w = .ok (.slice aa r c) w := by
  obtain ⟨ht, hi, hz⟩ := E
  obtain ⟨i, hi1, hi2, hi3, hi4⟩ := info_parts hi
  cases aa <;> simp [Instr.slice, run_underlying ht, Instr.sliceBounds, Instr.sliceBound, asIntOf, sizeOf, typeInfo, hi1, hr, Addr.add]
end

theorem keep_drewN {b : Nat} {w w1 : World} (h : Below b w w1) (n : Nat) : Below b w (w1.drewN n) := ⟨h.os, h.tape, h.output, h.size, h.block⟩

/-- nothing has turned but the count of answers -/
def Drw (w w' : World) : Prop := ∃ m, w' = w.drewN m
theorem Drw.refl (w : World) : Drw w w := ⟨0, rfl⟩
theorem Drw.more {w w1 : World} (h : Drw w w1) (n : Nat) : Drw w (w1.drewN n) := by obtain ⟨m, rfl⟩ := h; exact ⟨m + n, by rw [World.drewN_drewN]⟩
theorem Drw.below {w w1 : World} (h : Drw w w1) : Below w.heap.size w w1 := by obtain ⟨m, rfl⟩ := h; exact keep_drewN (Below.refl _ _) m
theorem Drw.trans {w w1 w2 : World} (h : Drw w w1) (k : Drw w1 w2) : Drw w w2 := by obtain ⟨m, rfl⟩ := k; exact h.more m
theorem Calls.quiet_of_drw {P : Program} {f : FuncId} {args : Array Value} {w : World} {n : Nat} {v : Value}
    (h : Calls P f args (w.drewN n) fun e w' => e = .returned v ∧ Drw (w.drewN n) w') : Calls P f args (w.drewN n) fun e w'' => e = .returned v ∧ ∃ m, w'' = w.drewN m :=
  Calls.quiet_of (h.mono fun _ _ ⟨he, hm⟩ => ⟨he, hm⟩)

/-- what was there is there: nothing of it has turned -/
theorem keep_trans {w w1 w2 : World} (h : Below w.heap.size w w1) (k : Below w1.heap.size w1 w2) : Below w.heap.size w w2 := h.trans (k.mono h.size)

end Go.Proofs.Ytpenbaafhbbmhaa
