/- What a taker of bytes answers, as one function of how it stands; both takers' contracts in its words; what stands in memory while VintTakes goes. Conditions as in the contracts of Take. -/
import Derived.Test.YthiebpiohkfjgaaVintRTake2
namespace Go.Proofs.Ythiebpiohkfjgaa
open Go.RowKit

/-- how a taker stands that has taken bs: it goes on, holding n; it is whole and n is the number; it has refused -/
def Inv (bs : List UInt8) (n s : Nat) : Prop :=
  (s = 0 ∧ bs.length ≤ 9 ∧ n < 128 ^ bs.length ∧ ∀ r, rd (bs ++ r) 0 0 = rd r bs.length n) ∨ (s = 1 ∧ bs.length ≤ 10 ∧ rd bs 0 0 = (n, bs.length, 0)) ∨ (s = 2 ∧ bs.length ≤ 10)
/-- Take: whether the number is whole, the error; the number, the state, the bytes behind it -/
def tq (s n : Nat) (bs : List UInt8) (c : UInt8) : Bool × Nat × Nat × Nat × List UInt8 :=
  if s ≠ 0 then (false, 1, n, s, bs) else if bs.length = 9 ∧ 1 < c.toNat then (false, 12, n, 2, bs ++ [c]) else if 0 < bs.length ∧ c.toNat = 0 then (false, 13, n, 2, bs ++ [c])
  else (decide (c.toNat < 128), 0, n + c.toNat % 128 * 128 ^ bs.length, (if c.toNat < 128 then 1 else 0), bs ++ [c])

theorem Inv.start : Inv [] 0 0 := .inl ⟨rfl, by simp, by decide, fun r => rfl⟩
theorem Inv.len {bs : List UInt8} {n s : Nat} (h : Inv bs n s) : bs.length ≤ 10 := by rcases h with h | h | h <;> omega
theorem Inv.small {bs : List UInt8} {n s : Nat} (h : Inv bs n s) (hs : s = 1) : (rd bs 0 0).1 = n := by
  rcases h with h | h | h
  · omega
  · rw [h.2.2]
  · omega
theorem Inv.step {bs : List UInt8} {n s : Nat} (h : Inv bs n s) (c : UInt8) {d : Bool} {er n2 s2 : Nat} {b2 : List UInt8} (hq : tq s n bs c = (d, er, n2, s2, b2)) : Inv b2 n2 s2 := by
  unfold tq at hq
  by_cases hs : s ≠ 0
  · rw [if_pos hs] at hq; cases hq; exact h
  · rw [if_neg hs] at hq
    have hs : s = 0 := by omega
    obtain ⟨_, h9, hn, hr⟩ : s = 0 ∧ bs.length ≤ 9 ∧ n < 128 ^ bs.length ∧ ∀ r, rd (bs ++ r) 0 0 = rd r bs.length n := by
      rcases h with h | h | h
      · exact h
      · omega
      · omega
    have hl : (bs ++ [c]).length = bs.length + 1 := by simp
    by_cases c1 : bs.length = 9 ∧ 1 < c.toNat
    · rw [if_pos c1] at hq; cases hq; exact .inr (.inr ⟨rfl, by omega⟩)
    · rw [if_neg c1] at hq
      by_cases c2 : 0 < bs.length ∧ c.toNat = 0
      · rw [if_pos c2] at hq; cases hq; exact .inr (.inr ⟨rfl, by omega⟩)
      · rw [if_neg c2] at hq
        by_cases c3 : c.toNat < 128
        · rw [if_pos c3] at hq; cases hq
          refine .inr (.inl ⟨rfl, by omega, ?_⟩)
          rw [hr, rd_last c1 c2 c3, hl]
        · rw [if_neg c3] at hq; cases hq
          refine .inl ⟨rfl, ?_, ?_, fun r => ?_⟩
          · rw [hl]; have : bs.length ≠ 9 := fun e => c1 ⟨e, by omega⟩; omega
          · rw [hl]; exact go_small hn
          · rw [List.append_assoc, hr]
            show rd (c :: r) _ _ = _
            rw [rd_go c1 c2 c3, hl]

theorem ptake_any (g n s : Nat) (bs : List UInt8) (c : UInt8) (w : World) (d : Bool) (er n2 s2 : Nat) (b2 : List UInt8) (hq : tq s n bs c = (d, er, n2, s2, b2)) (hi : Inv bs n s) (h : Tk w g n bs.length s) :
    Calls Try.prog 19 #[.pointer (some ⟨g, 0, none⟩), .int .u8 (B c)] w fun e w' => e = .returned (.tuple #[.bool d, .int .i64 er]) ∧ Tk w' g n2 b2.length s2 ∧ w.grownBy w' (some g) := by
  unfold tq at hq
  by_cases hs : s ≠ 0
  · rw [if_pos hs] at hq; cases hq
    refine (take_no g _ _ _ c w hs h).mono ?_
    rintro e w' ⟨rfl, rfl⟩
    exact ⟨rfl, h, World.grownBy.refl _ _⟩
  · rw [if_neg hs] at hq
    obtain rfl : s = 0 := by omega
    obtain ⟨_, h9, hn, hr⟩ : 0 = 0 ∧ bs.length ≤ 9 ∧ n < 128 ^ bs.length ∧ ∀ r, rd (bs ++ r) 0 0 = rd r bs.length n := by
      rcases hi with h | h | h
      · exact h
      · omega
      · omega
    have hl : (bs ++ [c]).length = bs.length + 1 := by simp
    by_cases c1 : bs.length = 9 ∧ 1 < c.toNat
    · rw [if_pos c1] at hq; cases hq
      rw [hl]; rw [c1.1] at h ⊢
      refine (take_long g _ c w c1.2 h).mono ?_
      rintro e w' ⟨rfl, h2, h3⟩
      exact ⟨rfl, h2, h3⟩
    · rw [if_neg c1] at hq
      by_cases c2 : 0 < bs.length ∧ c.toNat = 0
      · rw [if_pos c2] at hq; cases hq
        rw [hl]
        refine (take_form g _ _ c w c2.1 h9 c2.2 h).mono ?_
        rintro e w' ⟨rfl, h2, h3⟩
        exact ⟨rfl, h2, h3⟩
      · rw [if_neg c2] at hq; cases hq
        rw [hl]
        refine (take_go g _ _ c w h9 c1 c2 hn h).mono ?_
        rintro e w' ⟨rfl, h2, h3⟩
        exact ⟨rfl, h2, h3⟩

theorem fun_self {α : Type} (v : Nat → α) (k : Nat) (x : α) (h : v k = x) : (fun i => if i = k then x else v i) = v := by
  funext i
  split
  · rename_i e; subst e; exact h.symm
  · rfl

theorem qtake_any (g k base : Nat) (s : Nat → Nat) (v : Nat → Value) (n : Nat) (bs : List UInt8) (c : UInt8) (w : World) (d : Bool) (er n2 s2 : Nat) (b2 : List UInt8) (hk : k < 2) (hq : tq (s k) n bs c = (d, er, n2, s2, b2)) (hi : Inv bs n (s k)) (hgb : g < base) (hbw : base ≤ w.heap.size)
    (h : Rt w g v s) (ho : OwT fB w base 5 (v k) bs) :
    Calls Try.prog 20 #[.pointer (some ⟨g, 2 * k, none⟩), .int .u8 (B c)] w fun e w' => e = .returned (.tuple #[.bool d, .int .i64 er]) ∧ ∃ x, OwT fB w' base 5 x b2 ∧ Rt w' g (fun i => if i = k then x else v i) (fun i => if i = k then s2 else s i) ∧
      Tch w w' g (v k).ownBlock ∧ ∀ j, x.ownBlock = some j → (v k).ownBlock = some j ∨ w.heap.size ≤ j := by
  unfold tq at hq
  by_cases hs : s k ≠ 0
  · rw [if_pos hs] at hq; cases hq
    refine (rtake_no g k v s c w hk hs h).mono ?_
    rintro e w' ⟨rfl, rfl⟩
    refine ⟨rfl, v k, ho, ?_, Tch.of (World.grownBy.refl _ _), fun j hj => .inl hj⟩
    rw [fun_self v k _ rfl, fun_self s k _ rfl]; exact h
  · rw [if_neg hs] at hq
    have hs : s k = 0 := by omega
    obtain ⟨_, h9, hn, hr⟩ : s k = 0 ∧ bs.length ≤ 9 ∧ n < 128 ^ bs.length ∧ ∀ r, rd (bs ++ r) 0 0 = rd r bs.length n := by
      rcases hi with h | h | h
      · exact h
      · omega
      · omega
    obtain ⟨a, n1, cp, hv, z⟩ := ho.slN
    have hl := z.len
    have ho' : OwT fB w base 5 (.slice a n1 cp) bs := hv ▸ ho
    rw [hv]
    by_cases c1 : bs.length = 9 ∧ 1 < c.toNat
    · rw [if_pos c1] at hq; cases hq
      refine (rtake_long g k base s v a n1 cp bs c w hk hs hv hgb hbw hl (by omega) (by omega) c1.2 h ho').mono ?_
      rintro e w' ⟨rfl, h2⟩
      exact ⟨rfl, h2⟩
    · rw [if_neg c1] at hq
      by_cases c2 : 0 < bs.length ∧ c.toNat = 0
      · rw [if_pos c2] at hq; cases hq
        refine (rtake_form g k base s v a n1 cp bs c w hk hs hv hgb hbw hl (by omega) (by omega) c2.2 h ho').mono ?_
        rintro e w' ⟨rfl, h2⟩
        exact ⟨rfl, h2⟩
      · rw [if_neg c2] at hq
        by_cases c3 : c.toNat < 128
        · rw [if_pos c3, decide_eq_true c3] at hq; cases hq
          refine (rtake_last g k base s v a n1 cp bs c w hk hs hv hgb hbw hl (by omega) (by omega) (by omega) c3 h ho').mono ?_
          rintro e w' ⟨rfl, h2⟩
          exact ⟨rfl, h2⟩
        · rw [if_neg c3, decide_eq_false c3] at hq; cases hq
          refine (rtake_go g k base s v a n1 cp bs c w hk hs hv hgb hbw hl (by omega) (by omega) (by omega) c3 h ho').mono ?_
          rintro e w' ⟨rfl, x, h2, h3, h4⟩
          refine ⟨rfl, x, h2, ?_, h4⟩
          rw [fun_self s k _ hs]; exact h3

/-- Number: what it says -/
def nv (s n : Nat) : Nat := if s = 1 then n else 0
theorem pnumber_any (g n t s : Nat) (w : World) (h : Tk w g n t s) :
    Calls Try.prog 21 #[.pointer (some ⟨g, 0, none⟩)] w fun e w' => e = .returned (.tuple #[.int .u64 (nv s n : Nat), .bool (decide (s = 1))]) ∧ w = w' := by
  unfold nv
  by_cases hs : s = 1
  · subst hs; exact number_yes g n t w h
  · rw [if_neg hs, decide_eq_false hs]; exact number_no g n t s w hs h
theorem qnumber_any (g k base : Nat) (s : Nat → Nat) (v : Nat → Value) (n : Nat) (bs : List UInt8) (w : World) (hk : k < 2) (hi : Inv bs n (s k)) (h : Rt w g v s) (ho : OwT fB w base 5 (v k) bs) :
    Calls Try.prog 22 #[.pointer (some ⟨g, 2 * k, none⟩)] w fun e w' => e = .returned (.tuple #[.int .u64 (nv (s k) n : Nat), .bool (decide (s k = 1))]) ∧ w = w' := by
  unfold nv
  obtain ⟨a, n1, cp, hv, z⟩ := ho.slN
  by_cases hs : s k = 1
  · rw [if_pos hs, decide_eq_true hs, ← hi.small hs]
    exact rnumber_yes g k v s a n1 cp bs w hk hs (by have := z.len; have := hi.len; omega) hv h z
  · rw [if_neg hs, decide_eq_false hs]; exact rnumber_no g k v s w hk hs h

/-- two values side by side in a block -/
def Two2 (w : World) (g : Nat) (t : TypeId) (v : Nat → Value) : Prop := w.heap[g]? = some (.cells #[v 0, v 1] t (0, 0))
theorem Two2.lt {w : World} {g : Nat} {t : TypeId} {v : Nat → Value} (h : Two2 w g t v) : g < w.heap.size := (Array.getElem?_eq_some_iff.1 h).1
theorem Two2.cell {w : World} {g : Nat} {t : TypeId} {v : Nat → Value} (h : Two2 w g t v) (k : Nat) (hk : k < 2) : w.cell? ⟨g, k, none⟩ = some (v k) := by
  unfold Two2 at h
  rcases (by omega : k = 0 ∨ k = 1) with e | e <;> subst e <;> simp [World.cell?, h]

/-- the program's two takers behind a row of pointers, the reference's two in an array -/
structure TS (w : World) (G : Nat → Nat) (gx gy : Nat) (bs : Nat → List UInt8) (n s : Nat → Nat) (v : Nat → Value) : Prop where
  tk : ∀ k, k < 2 → Tk w (G k) (n k) (bs k).length (s k)
  ptr : Two2 w gx 35 (fun k => .pointer (some ⟨G k, 0, none⟩))
  rt : Rt w gy v s
  row : ∀ k, k < 2 → OwT fB w (gy + 1) 5 (v k) (bs k)
  two : ∀ j, (v 0).ownBlock = some j → (v 1).ownBlock ≠ some j
  inv : ∀ k, k < 2 → Inv (bs k) (n k) (s k)
  gs : ∀ k, k < 2 → G k < gx
  xy : gx < gy
  ne : G 0 ≠ G 1
theorem TS.same {w w' : World} {G : Nat → Nat} {gx gy : Nat} {bs : Nat → List UInt8} {n s : Nat → Nat} {v : Nat → Value} (h : TS w G gx gy bs n s v) (hs : ∀ b, b < w.heap.size → w'.heap[b]? = w.heap[b]?) : TS w' G gx gy bs n s v :=
  ⟨fun k hk => (hs _ (h.tk k hk).lt).trans (h.tk k hk), (hs _ h.ptr.lt).trans h.ptr, (hs _ h.rt.lt).trans h.rt, fun k hk => (h.row k hk).of_block fun j hj => hs j ((h.row k hk).lt j hj).2, h.two, h.inv, h.gs, h.xy, h.ne⟩
theorem TS.keep {w w' : World} {G : Nat → Nat} {gx gy : Nat} {bs : Nat → List UInt8} {n s : Nat → Nat} {v : Nat → Value} (h : TS w G gx gy bs n s v) (hb : Below w.heap.size w w') : TS w' G gx gy bs n s v := h.same fun b hb2 => hb.block b hb2
theorem two_ne {j k : Nat} (hj : j < 2) (hk : k < 2) (h : j ≠ k) {P : Nat → Nat → Prop} (h1 : P 0 1) (h2 : P 1 0) : P j k := by
  rcases (by omega : j = 0 ∨ j = 1) with e1 | e1 <;> rcases (by omega : k = 0 ∨ k = 1) with e2 | e2 <;> subst e1 <;> subst e2
  · exact absurd rfl h
  · exact h1
  · exact h2
  · exact absurd rfl h
/-- behind a step of one of each -/
theorem TS.step {w w1 w2 : World} {G : Nat → Nat} {gx gy : Nat} {bs : Nat → List UInt8} {n s : Nat → Nat} {v : Nat → Value} (h : TS w G gx gy bs n s v) (k : Nat) (hk : k < 2) {c : UInt8} {d : Bool} {er n2 s2 : Nat} {b2 : List UInt8} (hq : tq (s k) (n k) (bs k) c = (d, er, n2, s2, b2))
    (hg : w.grownBy w1 (some (G k))) (ht : Tk w1 (G k) n2 b2.length s2) (x : Value) (ho : OwT fB w2 (gy + 1) 5 x b2) (hr : Rt w2 gy (fun i => if i = k then x else v i) (fun i => if i = k then s2 else s i))
    (hc : Tch w1 w2 gy (v k).ownBlock) (hx : ∀ j, x.ownBlock = some j → (v k).ownBlock = some j ∨ w1.heap.size ≤ j) :
    TS w2 G gx gy (fun i => if i = k then b2 else bs i) (fun i => if i = k then n2 else n i) (fun i => if i = k then s2 else s i) (fun i => if i = k then x else v i) := by
  have gk := h.gs k hk
  have hxy := h.xy
  have hyl := h.rt.lt
  have s1 := hg.size
  have hob : ∀ i, i < 2 → ∀ j, (v i).ownBlock = some j → gy + 1 ≤ j ∧ j < w.heap.size := fun i hi j hj => (h.row i hi).lt j hj
  have low : ∀ b, b < gy → b ≠ G k → w2.heap[b]? = w.heap[b]? := fun b hb hne =>
    (hc.2.2.2.2 b (by omega) (by omega) (fun e => by have := hob k hk b e.symm; omega)).trans (hg.block b (by omega) (by intro e; injection e with e; exact hne e))
  refine ⟨fun j hj => ?_, (low gx hxy (by omega)).trans h.ptr, hr, fun j hj => ?_, ?_, fun j hj => ?_, h.gs, h.xy, h.ne⟩
  · by_cases e : j = k
    · subst e; simp only [if_pos rfl]
      exact (hc.2.2.2.2 _ ht.lt (by omega) (fun e => by have := hob j hj _ e.symm; omega)).trans ht
    · simp only [if_neg e]
      have hne : G j ≠ G k := two_ne hj hk e (P := fun a b => G a ≠ G b) h.ne (fun e3 => h.ne e3.symm)
      exact (low _ (by have := h.gs j hj; omega) hne).trans (h.tk j hj)
  · by_cases e : j = k
    · subst e; simp only; exact ho
    · simp only [if_neg e]
      refine (h.row j hj).of_block fun b hb => ?_
      have hl := hob j hj b hb
      have hne : (v j).ownBlock = some b → (v k).ownBlock ≠ some b := two_ne hj hk e (P := fun a c => (v a).ownBlock = some b → (v c).ownBlock ≠ some b) (h.two b) (fun h1 h2 => h.two b h2 h1)
      exact (hc.2.2.2.2 b (by omega) (by omega) (fun e => hne hb e.symm)).trans (hg.block b hl.2 (by intro e; injection e with e; omega))
  · intro b h0 h1
    have hv : ∀ j, j < 2 → j ≠ k → (v j).ownBlock = some b → x.ownBlock = some b → False := by
      intro j hj e hvb hxb
      have hl := hob j hj b hvb
      rcases hx b hxb with h2 | h2
      · exact two_ne hj hk e (P := fun a c => (v a).ownBlock = some b → (v c).ownBlock ≠ some b) (h.two b) (fun h1 h2 => h.two b h2 h1) hvb h2
      · omega
    rcases (by omega : k = 0 ∨ k = 1) with e3 | e3 <;> subst e3
    · rw [if_pos rfl] at h0; rw [if_neg (by omega)] at h1; exact hv 1 (by omega) (by omega) h1 h0
    · rw [if_neg (by omega)] at h0; rw [if_pos rfl] at h1; exact hv 0 (by omega) (by omega) h0 h1
  · by_cases e : j = k
    · subst e; simp only; exact (h.inv j hj).step c hq
    · simp only [if_neg e]; exact h.inv j hj
end Go.Proofs.Ythiebpiohkfjgaa
