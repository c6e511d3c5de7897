/- The reference's taker: contract of Take where it goes on. Conditions: the taker's two cells lie in a block of which they are known; its bytes are a row of the call's own behind that block. Written by a program of this place (gen_VintRTake2.py). -/
import Derived.Test.YthiebpiohkfjgaaVintRTake
namespace Go.Proofs.Ythiebpiohkfjgaa
open Go.RowKit

/-- what was there stays but one block and one row -/
def Tch (w w' : World) (g : Nat) (row : Option Nat) : Prop := w'.os = w.os ∧ w'.tape = w.tape ∧ w'.output = w.output ∧ w.heap.size ≤ w'.heap.size ∧ ∀ j, j < w.heap.size → j ≠ g → some j ≠ row → w'.heap[j]? = w.heap[j]?
theorem Tch.of {w w' : World} {g : Nat} {row : Option Nat} (h : w.grownBy w' row) : Tch w w' g row := ⟨h.os, h.tape, h.output, h.size, fun j hj _ hr => h.block j hj hr⟩
theorem Tch.set {w w' : World} {g : Nat} {row : Option Nat} (h : Tch w w' g row) (i : Nat) (v : Value) : Tch w (w'.setCell ⟨g, i, none⟩ v) g row := by
  obtain ⟨h1, h2, h3, h4, h5⟩ := h
  refine ⟨h1, h2, h3, by simpa using h4, fun j hj hg hr => ?_⟩
  rw [Below.heap_setCell _ _ _ _ hg]
  exact h5 j hj hg hr
theorem grown_alloc {w w' : World} {o : Obj} {row : Option Nat} (h : (w.alloc o).grownBy w' row) : w.grownBy w' row := by
  refine ⟨h.os, h.tape, h.output, Nat.le_trans (by simp) h.size, fun j hj hr => ?_⟩
  rw [h.block j (by simp; omega) hr]
  exact ((Below.refl w.heap.size w).alloc (Nat.le_refl _) o).block j hj
theorem len_snoc {bs : List UInt8} {n : Nat} {c : UInt8} (h : bs.length = n) : (bs ++ [c]).length = n + 1 := by rw [List.length_append, h]; rfl
theorem Rt.below {w w' : World} {g base : Nat} {v : Nat → Value} {s : Nat → Nat} (h : Rt w g v s) (hg : g < base) (hb : Below base w w') : Rt w' g v s := (hb.block g hg).trans h
theorem OwT.set_away {w : World} {base g : Nat} {e : TypeId} {x : Value} {xs : List UInt8} (h : OwT fB w base e x xs) (i : Nat) (v : Value) (hg : g < base) : OwT fB (w.setCell ⟨g, i, none⟩ v) base e x xs :=
  h.of_block fun j hj => Below.heap_setCell _ _ _ _ (by have := (h.lt j hj).1; intro e; have e : j = g := e; omega)
theorem own_step {x y : Option Nat} {m m' : Nat} (h : x = y ∨ x = some m') (hm : m ≤ m') : ∀ j, x = some j → y = some j ∨ m ≤ j := by
  intro j hj
  rcases h with h | h
  · exact .inl (h ▸ hj)
  · rw [h] at hj; injection hj with hj; exact .inr (by omega)

set_option maxHeartbeats 1000000 in
set_option maxRecDepth 100000 in
theorem rtake_long (g k base : Nat) (s : Nat → Nat) (v : Nat → Value) (a : Option Addr) (n cp : Nat) (bs : List UInt8) (c : UInt8) (w : World) (hk : k < 2) (hs : s k = 0) (hv : v k = .slice a n cp) (hgb : g < base) (hbw : base ≤ w.heap.size) (hl : bs.length = n) (hn : n ≤ 9) (h9 : n = 9) (hc : 1 < c.toNat)
    (h : Rt w g v s) (ho : OwT fB w base 5 (.slice a n cp) bs) :
    Calls Try.prog 20 #[.pointer (some ⟨g, 2 * k, none⟩), .int .u8 (B c)] w fun e w' => e = .returned (.tuple #[.bool false, .int .i64 12]) ∧ ∃ x, OwT fB w' base 5 x (bs ++ [c]) ∧ Rt w' g (fun i => if i = k then x else v i) (fun i => if i = k then 2 else s i) ∧ Tch w w' g (Value.ownBlock (.slice a n cp)) ∧ ∀ j, x.ownBlock = some j → Value.ownBlock (.slice a n cp) = some j ∨ w.heap.size ≤ j := by
  have c1 := h.c1 k hk
  rw [hs] at c1
  have c1 : w.cell? ⟨g, 2 * k + 1, none⟩ = some (.int .i64 0) := c1
  have c0 := h.c0 k hk
  rw [hv] at c0
  have RA := Lib.hid (h.keep ((Below.refl _ _).alloc (Nat.le_refl _) (.cells #[.int .u8 (B c)] 5)))
  have O := Lib.hid ho; clear ho
  have HS := Lib.hid hs; clear hs
  have LB := Lib.hid hl
  clear h hv
  have hcc : 1 < B c := by unfold B; omega
  have f10 : ((n : Int) + 1 == 10) = true := by rw [beq_iff_eq]; omega
  clear h9 hc
  go_enter Try.func20, Try.ntmps20
  go_wp2_with (at_builtin; refine wpList_appT eltTB rfl _ _ rfl base (.slice a n cp) bs (by rfl) (O.out.alloc _) _ 1 1 [c] (by rfl) (Sl.lit _ _ _ _ _ rfl rfl).toT (by unfold maxLen; omega) (by omega) (Nat.le_trans hbw (by simp)) _ rfl ?_; intro v' w1 h1 hg1 hv1 hb1; obtain ⟨a1, n1, cp1, rfl, z1⟩ := h1.slN; obtain rfl : n1 = n + 1 := z1.len.symm.trans (len_snoc LB.out); have R1 := Rt.below (RA.out) hgb hb1; have c0' := R1.c0 k hk; have f0' := R1.free (2 * k); have R2 := R1.set0 k hk (.slice a1 (n + 1) cp1); have c0s := R2.c0 k hk; rw [if_pos rfl] at c0s; have c1s := R2.c1 k hk; rw [HS.out] at c1s; have c1s : (w1.setCell ⟨g, 2 * k, none⟩ (.slice a1 (n + 1) cp1)).cell? ⟨g, 2 * k + 1, none⟩ = some (.int .i64 0) := c1s; have f1s := R2.free (2 * k + 1); have O1 := Lib.hid h1; have HG1 := Lib.hid hg1; have HR2 := Lib.hid R2; have HV1 := Lib.hid (own_step hv1 (Nat.le_of_lt (by simp : w.heap.size < (w.alloc (.cells #[.int .u8 (B c)] 5)).heap.size))); clear h1 hg1 hv1 hb1 z1 R1 R2)
  go_ret2
  exact ⟨rfl, _, (O1.out.set_away _ _ hgb).set_away _ _ hgb, HR2.out.set1 k hk 2, Tch.set (Tch.set (Tch.of (grown_alloc HG1.out)) _ _) _ _, HV1.out⟩

set_option maxHeartbeats 1000000 in
set_option maxRecDepth 100000 in
theorem rtake_form (g k base : Nat) (s : Nat → Nat) (v : Nat → Value) (a : Option Addr) (n cp : Nat) (bs : List UInt8) (c : UInt8) (w : World) (hk : k < 2) (hs : s k = 0) (hv : v k = .slice a n cp) (hgb : g < base) (hbw : base ≤ w.heap.size) (hl : bs.length = n) (hn : n ≤ 9) (h0 : 0 < n) (hc : c.toNat = 0)
    (h : Rt w g v s) (ho : OwT fB w base 5 (.slice a n cp) bs) :
    Calls Try.prog 20 #[.pointer (some ⟨g, 2 * k, none⟩), .int .u8 (B c)] w fun e w' => e = .returned (.tuple #[.bool false, .int .i64 13]) ∧ ∃ x, OwT fB w' base 5 x (bs ++ [c]) ∧ Rt w' g (fun i => if i = k then x else v i) (fun i => if i = k then 2 else s i) ∧ Tch w w' g (Value.ownBlock (.slice a n cp)) ∧ ∀ j, x.ownBlock = some j → Value.ownBlock (.slice a n cp) = some j ∨ w.heap.size ≤ j := by
  have c1 := h.c1 k hk
  rw [hs] at c1
  have c1 : w.cell? ⟨g, 2 * k + 1, none⟩ = some (.int .i64 0) := c1
  have c0 := h.c0 k hk
  rw [hv] at c0
  have RA := Lib.hid (h.keep ((Below.refl _ _).alloc (Nat.le_refl _) (.cells #[.int .u8 (B c)] 5)))
  have O := Lib.hid ho; clear ho
  have HS := Lib.hid hs; clear hs
  have LB := Lib.hid hl
  clear h hv
  have hcc : ¬ 1 < B c := by unfold B; omega
  have hz : (B c == 0) = true := by rw [beq_iff_eq]; unfold B; omega
  have hn1 : (1 : Int) < (n : Int) + 1 := by omega
  clear hc
  by_cases h9 : n = 9
  · have f10 : ((n : Int) + 1 == 10) = true := by rw [beq_iff_eq]; omega
    clear h9
    go_enter Try.func20, Try.ntmps20
    go_wp2_with (at_builtin; refine wpList_appT eltTB rfl _ _ rfl base (.slice a n cp) bs (by rfl) (O.out.alloc _) _ 1 1 [c] (by rfl) (Sl.lit _ _ _ _ _ rfl rfl).toT (by unfold maxLen; omega) (by omega) (Nat.le_trans hbw (by simp)) _ rfl ?_; intro v' w1 h1 hg1 hv1 hb1; obtain ⟨a1, n1, cp1, rfl, z1⟩ := h1.slN; obtain rfl : n1 = n + 1 := z1.len.symm.trans (len_snoc LB.out); have R1 := Rt.below (RA.out) hgb hb1; have c0' := R1.c0 k hk; have f0' := R1.free (2 * k); have R2 := R1.set0 k hk (.slice a1 (n + 1) cp1); have c0s := R2.c0 k hk; rw [if_pos rfl] at c0s; have c1s := R2.c1 k hk; rw [HS.out] at c1s; have c1s : (w1.setCell ⟨g, 2 * k, none⟩ (.slice a1 (n + 1) cp1)).cell? ⟨g, 2 * k + 1, none⟩ = some (.int .i64 0) := c1s; have f1s := R2.free (2 * k + 1); have O1 := Lib.hid h1; have HG1 := Lib.hid hg1; have HR2 := Lib.hid R2; have HV1 := Lib.hid (own_step hv1 (Nat.le_of_lt (by simp : w.heap.size < (w.alloc (.cells #[.int .u8 (B c)] 5)).heap.size))); clear h1 hg1 hv1 hb1 z1 R1 R2)
    go_ret2
    exact ⟨rfl, _, (O1.out.set_away _ _ hgb).set_away _ _ hgb, HR2.out.set1 k hk 2, Tch.set (Tch.set (Tch.of (grown_alloc HG1.out)) _ _) _ _, HV1.out⟩
  · have f10 : ((n : Int) + 1 == 10) = false := by rw [beq_eq_false_iff_ne]; omega
    clear h9
    go_enter Try.func20, Try.ntmps20
    go_wp2_with (at_builtin; refine wpList_appT eltTB rfl _ _ rfl base (.slice a n cp) bs (by rfl) (O.out.alloc _) _ 1 1 [c] (by rfl) (Sl.lit _ _ _ _ _ rfl rfl).toT (by unfold maxLen; omega) (by omega) (Nat.le_trans hbw (by simp)) _ rfl ?_; intro v' w1 h1 hg1 hv1 hb1; obtain ⟨a1, n1, cp1, rfl, z1⟩ := h1.slN; obtain rfl : n1 = n + 1 := z1.len.symm.trans (len_snoc LB.out); have R1 := Rt.below (RA.out) hgb hb1; have c0' := R1.c0 k hk; have f0' := R1.free (2 * k); have R2 := R1.set0 k hk (.slice a1 (n + 1) cp1); have c0s := R2.c0 k hk; rw [if_pos rfl] at c0s; have c1s := R2.c1 k hk; rw [HS.out] at c1s; have c1s : (w1.setCell ⟨g, 2 * k, none⟩ (.slice a1 (n + 1) cp1)).cell? ⟨g, 2 * k + 1, none⟩ = some (.int .i64 0) := c1s; have f1s := R2.free (2 * k + 1); have O1 := Lib.hid h1; have HG1 := Lib.hid hg1; have HR2 := Lib.hid R2; have HV1 := Lib.hid (own_step hv1 (Nat.le_of_lt (by simp : w.heap.size < (w.alloc (.cells #[.int .u8 (B c)] 5)).heap.size))); clear h1 hg1 hv1 hb1 z1 R1 R2)
    go_ret2
    exact ⟨rfl, _, (O1.out.set_away _ _ hgb).set_away _ _ hgb, HR2.out.set1 k hk 2, Tch.set (Tch.set (Tch.of (grown_alloc HG1.out)) _ _) _ _, HV1.out⟩

set_option maxHeartbeats 1000000 in
set_option maxRecDepth 100000 in
theorem rtake_last (g k base : Nat) (s : Nat → Nat) (v : Nat → Value) (a : Option Addr) (n cp : Nat) (bs : List UInt8) (c : UInt8) (w : World) (hk : k < 2) (hs : s k = 0) (hv : v k = .slice a n cp) (hgb : g < base) (hbw : base ≤ w.heap.size) (hl : bs.length = n) (hn : n ≤ 9) (hc1 : ¬ (n = 9 ∧ 1 < c.toNat)) (hc2 : ¬ (0 < n ∧ c.toNat = 0)) (hc3 : c.toNat < 128)
    (h : Rt w g v s) (ho : OwT fB w base 5 (.slice a n cp) bs) :
    Calls Try.prog 20 #[.pointer (some ⟨g, 2 * k, none⟩), .int .u8 (B c)] w fun e w' => e = .returned (.tuple #[.bool true, .int .i64 0]) ∧ ∃ x, OwT fB w' base 5 x (bs ++ [c]) ∧ Rt w' g (fun i => if i = k then x else v i) (fun i => if i = k then 1 else s i) ∧ Tch w w' g (Value.ownBlock (.slice a n cp)) ∧ ∀ j, x.ownBlock = some j → Value.ownBlock (.slice a n cp) = some j ∨ w.heap.size ≤ j := by
  have c1 := h.c1 k hk
  rw [hs] at c1
  have c1 : w.cell? ⟨g, 2 * k + 1, none⟩ = some (.int .i64 0) := c1
  have c0 := h.c0 k hk
  rw [hv] at c0
  have RA := Lib.hid (h.keep ((Below.refl _ _).alloc (Nat.le_refl _) (.cells #[.int .u8 (B c)] 5)))
  have O := Lib.hid ho; clear ho
  have HS := Lib.hid hs; clear hs
  have LB := Lib.hid hl
  clear h hv
  have hlt : B c < 128 := by unfold B; omega
  by_cases h9 : n = 9
  · have f10 : ((n : Int) + 1 == 10) = true := by rw [beq_iff_eq]; omega
    have hcc : ¬ 1 < B c := by unfold B; omega
    have hz : (B c == 0) = false := by rw [beq_eq_false_iff_ne]; unfold B; omega
    have hn1 : (1 : Int) < (n : Int) + 1 := by omega
    clear h9 hc1 hc2 hc3
    go_enter Try.func20, Try.ntmps20
    go_wp2_with (at_builtin; refine wpList_appT eltTB rfl _ _ rfl base (.slice a n cp) bs (by rfl) (O.out.alloc _) _ 1 1 [c] (by rfl) (Sl.lit _ _ _ _ _ rfl rfl).toT (by unfold maxLen; omega) (by omega) (Nat.le_trans hbw (by simp)) _ rfl ?_; intro v' w1 h1 hg1 hv1 hb1; obtain ⟨a1, n1, cp1, rfl, z1⟩ := h1.slN; obtain rfl : n1 = n + 1 := z1.len.symm.trans (len_snoc LB.out); have R1 := Rt.below (RA.out) hgb hb1; have c0' := R1.c0 k hk; have f0' := R1.free (2 * k); have R2 := R1.set0 k hk (.slice a1 (n + 1) cp1); have c0s := R2.c0 k hk; rw [if_pos rfl] at c0s; have c1s := R2.c1 k hk; rw [HS.out] at c1s; have c1s : (w1.setCell ⟨g, 2 * k, none⟩ (.slice a1 (n + 1) cp1)).cell? ⟨g, 2 * k + 1, none⟩ = some (.int .i64 0) := c1s; have f1s := R2.free (2 * k + 1); have O1 := Lib.hid h1; have HG1 := Lib.hid hg1; have HR2 := Lib.hid R2; have HV1 := Lib.hid (own_step hv1 (Nat.le_of_lt (by simp : w.heap.size < (w.alloc (.cells #[.int .u8 (B c)] 5)).heap.size))); clear h1 hg1 hv1 hb1 z1 R1 R2)
    go_ret2
    exact ⟨rfl, _, (O1.out.set_away _ _ hgb).set_away _ _ hgb, HR2.out.set1 k hk 1, Tch.set (Tch.set (Tch.of (grown_alloc HG1.out)) _ _) _ _, HV1.out⟩
  · have f10 : ((n : Int) + 1 == 10) = false := by rw [beq_eq_false_iff_ne]; omega
    by_cases h0 : n = 0
    · have hn1 : ¬ (1 : Int) < (n : Int) + 1 := by omega
      clear h9 h0 hc1 hc2 hc3
      go_enter Try.func20, Try.ntmps20
      go_wp2_with (at_builtin; refine wpList_appT eltTB rfl _ _ rfl base (.slice a n cp) bs (by rfl) (O.out.alloc _) _ 1 1 [c] (by rfl) (Sl.lit _ _ _ _ _ rfl rfl).toT (by unfold maxLen; omega) (by omega) (Nat.le_trans hbw (by simp)) _ rfl ?_; intro v' w1 h1 hg1 hv1 hb1; obtain ⟨a1, n1, cp1, rfl, z1⟩ := h1.slN; obtain rfl : n1 = n + 1 := z1.len.symm.trans (len_snoc LB.out); have R1 := Rt.below (RA.out) hgb hb1; have c0' := R1.c0 k hk; have f0' := R1.free (2 * k); have R2 := R1.set0 k hk (.slice a1 (n + 1) cp1); have c0s := R2.c0 k hk; rw [if_pos rfl] at c0s; have c1s := R2.c1 k hk; rw [HS.out] at c1s; have c1s : (w1.setCell ⟨g, 2 * k, none⟩ (.slice a1 (n + 1) cp1)).cell? ⟨g, 2 * k + 1, none⟩ = some (.int .i64 0) := c1s; have f1s := R2.free (2 * k + 1); have O1 := Lib.hid h1; have HG1 := Lib.hid hg1; have HR2 := Lib.hid R2; have HV1 := Lib.hid (own_step hv1 (Nat.le_of_lt (by simp : w.heap.size < (w.alloc (.cells #[.int .u8 (B c)] 5)).heap.size))); clear h1 hg1 hv1 hb1 z1 R1 R2)
      go_ret2
      exact ⟨rfl, _, (O1.out.set_away _ _ hgb).set_away _ _ hgb, HR2.out.set1 k hk 1, Tch.set (Tch.set (Tch.of (grown_alloc HG1.out)) _ _) _ _, HV1.out⟩
    · have hn1 : (1 : Int) < (n : Int) + 1 := by omega
      have hz : (B c == 0) = false := by rw [beq_eq_false_iff_ne]; unfold B; omega
      clear h9 h0 hc1 hc2 hc3
      go_enter Try.func20, Try.ntmps20
      go_wp2_with (at_builtin; refine wpList_appT eltTB rfl _ _ rfl base (.slice a n cp) bs (by rfl) (O.out.alloc _) _ 1 1 [c] (by rfl) (Sl.lit _ _ _ _ _ rfl rfl).toT (by unfold maxLen; omega) (by omega) (Nat.le_trans hbw (by simp)) _ rfl ?_; intro v' w1 h1 hg1 hv1 hb1; obtain ⟨a1, n1, cp1, rfl, z1⟩ := h1.slN; obtain rfl : n1 = n + 1 := z1.len.symm.trans (len_snoc LB.out); have R1 := Rt.below (RA.out) hgb hb1; have c0' := R1.c0 k hk; have f0' := R1.free (2 * k); have R2 := R1.set0 k hk (.slice a1 (n + 1) cp1); have c0s := R2.c0 k hk; rw [if_pos rfl] at c0s; have c1s := R2.c1 k hk; rw [HS.out] at c1s; have c1s : (w1.setCell ⟨g, 2 * k, none⟩ (.slice a1 (n + 1) cp1)).cell? ⟨g, 2 * k + 1, none⟩ = some (.int .i64 0) := c1s; have f1s := R2.free (2 * k + 1); have O1 := Lib.hid h1; have HG1 := Lib.hid hg1; have HR2 := Lib.hid R2; have HV1 := Lib.hid (own_step hv1 (Nat.le_of_lt (by simp : w.heap.size < (w.alloc (.cells #[.int .u8 (B c)] 5)).heap.size))); clear h1 hg1 hv1 hb1 z1 R1 R2)
      go_ret2
      exact ⟨rfl, _, (O1.out.set_away _ _ hgb).set_away _ _ hgb, HR2.out.set1 k hk 1, Tch.set (Tch.set (Tch.of (grown_alloc HG1.out)) _ _) _ _, HV1.out⟩

set_option maxHeartbeats 1000000 in
set_option maxRecDepth 100000 in
theorem rtake_go (g k base : Nat) (s : Nat → Nat) (v : Nat → Value) (a : Option Addr) (n cp : Nat) (bs : List UInt8) (c : UInt8) (w : World) (hk : k < 2) (hs : s k = 0) (hv : v k = .slice a n cp) (hgb : g < base) (hbw : base ≤ w.heap.size) (hl : bs.length = n) (hn : n ≤ 9) (hc1 : ¬ (n = 9 ∧ 1 < c.toNat)) (hc2 : ¬ (0 < n ∧ c.toNat = 0)) (hc3 : ¬ c.toNat < 128)
    (h : Rt w g v s) (ho : OwT fB w base 5 (.slice a n cp) bs) :
    Calls Try.prog 20 #[.pointer (some ⟨g, 2 * k, none⟩), .int .u8 (B c)] w fun e w' => e = .returned (.tuple #[.bool false, .int .i64 0]) ∧ ∃ x, OwT fB w' base 5 x (bs ++ [c]) ∧ Rt w' g (fun i => if i = k then x else v i) s ∧ Tch w w' g (Value.ownBlock (.slice a n cp)) ∧ ∀ j, x.ownBlock = some j → Value.ownBlock (.slice a n cp) = some j ∨ w.heap.size ≤ j := by
  have c1 := h.c1 k hk
  rw [hs] at c1
  have c1 : w.cell? ⟨g, 2 * k + 1, none⟩ = some (.int .i64 0) := c1
  have c0 := h.c0 k hk
  rw [hv] at c0
  have RA := Lib.hid (h.keep ((Below.refl _ _).alloc (Nat.le_refl _) (.cells #[.int .u8 (B c)] 5)))
  have O := Lib.hid ho; clear ho
  have HS := Lib.hid hs; clear hs
  have LB := Lib.hid hl
  clear h hv
  have hlt : ¬ B c < 128 := by unfold B; omega
  have h9 : n ≠ 9 := fun e => hc1 ⟨e, by omega⟩
  · have f10 : ((n : Int) + 1 == 10) = false := by rw [beq_eq_false_iff_ne]; omega
    by_cases h0 : n = 0
    · have hn1 : ¬ (1 : Int) < (n : Int) + 1 := by omega
      clear h9 h0 hc1 hc2 hc3
      go_enter Try.func20, Try.ntmps20
      go_wp2_with (at_builtin; refine wpList_appT eltTB rfl _ _ rfl base (.slice a n cp) bs (by rfl) (O.out.alloc _) _ 1 1 [c] (by rfl) (Sl.lit _ _ _ _ _ rfl rfl).toT (by unfold maxLen; omega) (by omega) (Nat.le_trans hbw (by simp)) _ rfl ?_; intro v' w1 h1 hg1 hv1 hb1; obtain ⟨a1, n1, cp1, rfl, z1⟩ := h1.slN; obtain rfl : n1 = n + 1 := z1.len.symm.trans (len_snoc LB.out); have R1 := Rt.below (RA.out) hgb hb1; have c0' := R1.c0 k hk; have f0' := R1.free (2 * k); have R2 := R1.set0 k hk (.slice a1 (n + 1) cp1); have c0s := R2.c0 k hk; rw [if_pos rfl] at c0s; have c1s := R2.c1 k hk; rw [HS.out] at c1s; have c1s : (w1.setCell ⟨g, 2 * k, none⟩ (.slice a1 (n + 1) cp1)).cell? ⟨g, 2 * k + 1, none⟩ = some (.int .i64 0) := c1s; have f1s := R2.free (2 * k + 1); have O1 := Lib.hid h1; have HG1 := Lib.hid hg1; have HR2 := Lib.hid R2; have HV1 := Lib.hid (own_step hv1 (Nat.le_of_lt (by simp : w.heap.size < (w.alloc (.cells #[.int .u8 (B c)] 5)).heap.size))); clear h1 hg1 hv1 hb1 z1 R1 R2)
      go_ret2
      exact ⟨rfl, _, O1.out.set_away _ _ hgb, HR2.out, Tch.set (Tch.of (grown_alloc HG1.out)) _ _, HV1.out⟩
    · have hn1 : (1 : Int) < (n : Int) + 1 := by omega
      have hz : (B c == 0) = false := by rw [beq_eq_false_iff_ne]; unfold B; omega
      clear h9 h0 hc1 hc2 hc3
      go_enter Try.func20, Try.ntmps20
      go_wp2_with (at_builtin; refine wpList_appT eltTB rfl _ _ rfl base (.slice a n cp) bs (by rfl) (O.out.alloc _) _ 1 1 [c] (by rfl) (Sl.lit _ _ _ _ _ rfl rfl).toT (by unfold maxLen; omega) (by omega) (Nat.le_trans hbw (by simp)) _ rfl ?_; intro v' w1 h1 hg1 hv1 hb1; obtain ⟨a1, n1, cp1, rfl, z1⟩ := h1.slN; obtain rfl : n1 = n + 1 := z1.len.symm.trans (len_snoc LB.out); have R1 := Rt.below (RA.out) hgb hb1; have c0' := R1.c0 k hk; have f0' := R1.free (2 * k); have R2 := R1.set0 k hk (.slice a1 (n + 1) cp1); have c0s := R2.c0 k hk; rw [if_pos rfl] at c0s; have c1s := R2.c1 k hk; rw [HS.out] at c1s; have c1s : (w1.setCell ⟨g, 2 * k, none⟩ (.slice a1 (n + 1) cp1)).cell? ⟨g, 2 * k + 1, none⟩ = some (.int .i64 0) := c1s; have f1s := R2.free (2 * k + 1); have O1 := Lib.hid h1; have HG1 := Lib.hid hg1; have HR2 := Lib.hid R2; have HV1 := Lib.hid (own_step hv1 (Nat.le_of_lt (by simp : w.heap.size < (w.alloc (.cells #[.int .u8 (B c)] 5)).heap.size))); clear h1 hg1 hv1 hb1 z1 R1 R2)
      go_ret2
      exact ⟨rfl, _, O1.out.set_away _ _ hgb, HR2.out, Tch.set (Tch.of (grown_alloc HG1.out)) _ _, HV1.out⟩
end Go.Proofs.Ythiebpiohkfjgaa
