/- The reference's taker, one of it in a block: contracts of Take and Number. Conditions: the taker's two cells lie in a block of which they are known; its bytes are a row of the call's own. -/
import Derived.Test.YtpenbaafhbbmhaaVintRRead
import Derived.Test.YtpenbaafhbbmhaaCurTk
namespace Go.Proofs.Ytpenbaafhbbmhaa
open Go.RowKit
set_option maxRecDepth 100000
set_option linter.unusedVariables false

/-- a taker of the reference's in a block -/
def Rt (w : World) (g : Nat) (v : Nat → Value) (s : Nat → Nat) : Prop := w.heap[g]? = some (.cells #[v 0, .int .i64 (s 0)] 118 (0, 0))
theorem Rt.lt {w : World} {g : Nat} {v : Nat → Value} {s : Nat → Nat} (h : Rt w g v s) : g < w.heap.size := (Array.getElem?_eq_some_iff.1 h).1
theorem Rt.keep {w w' : World} {g : Nat} {v : Nat → Value} {s : Nat → Nat} (h : Rt w g v s) (hb : Below w.heap.size w w') : Rt w' g v s := (hb.block g h.lt).trans h
theorem Rt.grown {w w' : World} {g : Nat} {v : Nat → Value} {s : Nat → Nat} {row : Option Nat} (h : Rt w g v s) (hb : w.grownBy w' row) (hne : row ≠ some g) : Rt w' g v s := (hb.block g h.lt hne.symm).trans h
theorem Rt.c0 {w : World} {g : Nat} {v : Nat → Value} {s : Nat → Nat} (h : Rt w g v s) (k : Nat) (hk : k < 1) : w.cell? ⟨g, 2 * k, none⟩ = some (v k) := by
  unfold Rt at h
  obtain rfl : k = 0 := by omega
  simp [World.cell?, h]
theorem Rt.c1 {w : World} {g : Nat} {v : Nat → Value} {s : Nat → Nat} (h : Rt w g v s) (k : Nat) (hk : k < 1) : w.cell? ⟨g, 2 * k + 1, none⟩ = some (.int .i64 (s k)) := by
  unfold Rt at h
  obtain rfl : k = 0 := by omega
  simp [World.cell?, h]
theorem Rt.free {w : World} {g : Nat} {v : Nat → Value} {s : Nat → Nat} (h : Rt w g v s) (i : Nat) : w.frozen? ⟨g, i, none⟩ = false := by
  unfold Rt at h; simp [World.frozen?, h]
theorem Rt.set0 {w : World} {g : Nat} {v : Nat → Value} {s : Nat → Nat} (h : Rt w g v s) (k : Nat) (hk : k < 1) (x : Value) : Rt (w.setCell ⟨g, 2 * k, none⟩ x) g (fun i => if i = k then x else v i) s := by
  unfold Rt at h ⊢
  simp only [World.setCell, Array.getElem?_modify, if_true]
  rw [h]
  obtain rfl : k = 0 := by omega
  rfl
theorem Rt.set1 {w : World} {g : Nat} {v : Nat → Value} {s : Nat → Nat} (h : Rt w g v s) (k : Nat) (hk : k < 1) (x : Nat) : Rt (w.setCell ⟨g, 2 * k + 1, none⟩ (.int .i64 x)) g v (fun i => if i = k then x else s i) := by
  unfold Rt at h ⊢
  simp only [World.setCell, Array.getElem?_modify, if_true]
  rw [h]
  obtain rfl : k = 0 := by omega
  rfl

theorem rtake_no (g k : Nat) (v : Nat → Value) (s : Nat → Nat) (c : UInt8) (w : World) (hk : k < 1) (hs : s k ≠ 0) (h : Rt w g v s) :
    Calls Try.prog 50 #[.pointer (some ⟨g, 2 * k, none⟩), .int .u8 (B c)] w fun e w' => e = .returned (.tuple #[.bool false, .int .i64 1]) ∧ w = w' := by
  have c1 := h.c1 k hk
  have f1 : ((s k : Int) != 0) = true := by rw [bne_iff_ne]; omega
  have HH := Lib.hid h; clear h
  go_enter Try.func50, Try.ntmps50
  go_wp2_with fail
  go_ret2
  exact ⟨rfl, rfl⟩
theorem rnumber_no (g k : Nat) (v : Nat → Value) (s : Nat → Nat) (w : World) (hk : k < 1) (hs : s k ≠ 1) (h : Rt w g v s) :
    Calls Try.prog 51 #[.pointer (some ⟨g, 2 * k, none⟩)] w fun e w' => e = .returned (.tuple #[.int .u64 0, .bool false]) ∧ w = w' := by
  have c1 := h.c1 k hk
  have f1 : ((s k : Int) != 1) = true := by rw [bne_iff_ne]; omega
  have HH := Lib.hid h; clear h
  go_enter Try.func51, Try.ntmps51
  go_wp2_with fail
  go_ret2
  exact ⟨rfl, rfl⟩
theorem rnumber_yes (g k : Nat) (v : Nat → Value) (s : Nat → Nat) (a : Option Addr) (n c : Nat) (bs : List UInt8) (w : World) (hk : k < 1) (hs : s k = 1) (hn : n ≤ 140737488351232) (hv : v k = .slice a n c) (h : Rt w g v s) (hb : Sl Bf w a n c bs) :
    Calls Try.prog 51 #[.pointer (some ⟨g, 2 * k, none⟩)] w fun e w' => e = .returned (.tuple #[.int .u64 (((rd bs 0 0).1 : Nat) : Int), .bool true]) ∧ w = w' := by
  have c1 := h.c1 k hk
  rw [hs] at c1
  have c1 : w.cell? ⟨g, 2 * k + 1, none⟩ = some (.int .i64 1) := c1
  have c0 := h.c0 k hk
  rw [hv] at c0
  have hr := rread_any _ _ _ bs 0 _ (by omega) (Nat.zero_le _) hb
  rw [List.drop_zero] at hr
  have HR := Lib.hid hr; clear hr
  have HH := Lib.hid h; clear h hs hv
  have HB := Lib.hid hb; clear hb
  go_enter Try.func51, Try.ntmps51
  go_wp2_with fail
  refine HR.out.mono ?_
  rintro e w' ⟨rfl, rfl⟩
  go_wp2_with fail
  go_ret2
  exact ⟨rfl, rfl⟩


/-- what was there stays but one block and one row -/
def Tch (w w' : World) (g : Nat) (row : Option Nat) : Prop := w'.os = w.os ∧ w'.tape = w.tape ∧ w'.output = w.output ∧ w.heap.size ≤ w'.heap.size ∧ ∀ j, j < w.heap.size → j ≠ g → some j ≠ row → w'.heap[j]? = w.heap[j]?
theorem Tch.of {w w' : World} {g : Nat} {row : Option Nat} (h : w.grownBy w' row) : Tch w w' g row := ⟨h.os, h.tape, h.output, h.size, fun j hj _ hr => h.block j hj hr⟩
theorem Tch.set {w w' : World} {g : Nat} {row : Option Nat} (h : Tch w w' g row) (i : Nat) (v : Value) : Tch w (w'.setCell ⟨g, i, none⟩ v) g row := by
  obtain ⟨h1, h2, h3, h4, h5⟩ := h
  refine ⟨h1, h2, h3, by simpa using h4, fun j hj hg hr => ?_⟩
  rw [Below.heap_setCell _ _ _ _ hg]
  exact h5 j hj hg hr
theorem grown_alloc {w w' : World} {o : Obj} {row : Option Nat} (h : (w.alloc o).grownBy w' row) : w.grownBy w' row := by
  refine ⟨h.os, h.tape, h.output, Nat.le_trans (by simp) h.size, fun j hj hr => ?_⟩
  rw [h.block j (by simp; omega) hr]
  exact ((Below.refl w.heap.size w).alloc (Nat.le_refl _) o).block j hj
theorem len_snoc {bs : List UInt8} {n : Nat} {c : UInt8} (h : bs.length = n) : (bs ++ [c]).length = n + 1 := by rw [List.length_append, h]; rfl
theorem Rt.below {w w' : World} {g base : Nat} {v : Nat → Value} {s : Nat → Nat} (h : Rt w g v s) (hg : g < base) (hb : Below base w w') : Rt w' g v s := (hb.block g hg).trans h
theorem OwT.set_away {w : World} {base g : Nat} {e : TypeId} {x : Value} {xs : List UInt8} (h : OwT fB w base e x xs) (i : Nat) (v : Value) (hg : g < base) : OwT fB (w.setCell ⟨g, i, none⟩ v) base e x xs :=
  h.of_block fun j hj => Below.heap_setCell _ _ _ _ (by have := (h.lt j hj).1; intro e; have e : j = g := e; omega)
theorem own_step {x y : Option Nat} {m m' : Nat} (h : x = y ∨ x = some m') (hm : m ≤ m') : ∀ j, x = some j → y = some j ∨ m ≤ j := by
  intro j hj
  rcases h with h | h
  · exact .inl (h ▸ hj)
  · rw [h] at hj; injection hj with hj; exact .inr (by omega)

set_option maxHeartbeats 1000000 in
set_option maxRecDepth 100000 in
theorem rtake_long (g k base : Nat) (s : Nat → Nat) (v : Nat → Value) (a : Option Addr) (n cp : Nat) (bs : List UInt8) (c : UInt8) (w : World) (hk : k < 1) (hs : s k = 0) (hv : v k = .slice a n cp) (hgb : g < base) (hbw : base ≤ w.heap.size) (hl : bs.length = n) (hn : n ≤ 9) (h9 : n = 9) (hc : 1 < c.toNat)
    (h : Rt w g v s) (ho : OwT fB w base 5 (.slice a n cp) bs) :
    Calls Try.prog 50 #[.pointer (some ⟨g, 2 * k, none⟩), .int .u8 (B c)] w fun e w' => e = .returned (.tuple #[.bool false, .int .i64 12]) ∧ ∃ x, OwT fB w' base 5 x (bs ++ [c]) ∧ Rt w' g (fun i => if i = k then x else v i) (fun i => if i = k then 2 else s i) ∧ Tch w w' g (Value.ownBlock (.slice a n cp)) ∧ ∀ j, x.ownBlock = some j → Value.ownBlock (.slice a n cp) = some j ∨ w.heap.size ≤ j := by
  have c1 := h.c1 k hk
  rw [hs] at c1
  have c1 : w.cell? ⟨g, 2 * k + 1, none⟩ = some (.int .i64 0) := c1
  have c0 := h.c0 k hk
  rw [hv] at c0
  have RA := Lib.hid (h.keep ((Below.refl _ _).alloc (Nat.le_refl _) (.cells #[.int .u8 (B c)] 5)))
  have O := Lib.hid ho; clear ho
  have HS := Lib.hid hs; clear hs
  have LB := Lib.hid hl
  clear h hv
  have hcc : 1 < B c := by unfold B; omega
  have f10 : ((n : Int) + 1 == 10) = true := by rw [beq_iff_eq]; omega
  clear h9 hc
  go_enter Try.func50, Try.ntmps50
  go_wp2_with (at_builtin; refine wpList_appT eltTB rfl _ _ rfl base (.slice a n cp) bs (by rfl) (O.out.alloc _) _ 1 1 [c] (by rfl) (Sl.lit _ _ _ _ _ rfl rfl).toT (by unfold maxLen; omega) (by omega) (Nat.le_trans hbw (by simp)) _ rfl ?_; intro v' w1 h1 hg1 hv1 hb1; obtain ⟨a1, n1, cp1, rfl, z1⟩ := h1.slN; obtain rfl : n1 = n + 1 := z1.len.symm.trans (len_snoc LB.out); have R1 := Rt.below (RA.out) hgb hb1; have c0' := R1.c0 k hk; have f0' := R1.free (2 * k); have R2 := R1.set0 k hk (.slice a1 (n + 1) cp1); have c0s := R2.c0 k hk; rw [if_pos rfl] at c0s; have c1s := R2.c1 k hk; rw [HS.out] at c1s; have c1s : (w1.setCell ⟨g, 2 * k, none⟩ (.slice a1 (n + 1) cp1)).cell? ⟨g, 2 * k + 1, none⟩ = some (.int .i64 0) := c1s; have f1s := R2.free (2 * k + 1); have O1 := Lib.hid h1; have HG1 := Lib.hid hg1; have HR2 := Lib.hid R2; have HV1 := Lib.hid (own_step hv1 (Nat.le_of_lt (by simp : w.heap.size < (w.alloc (.cells #[.int .u8 (B c)] 5)).heap.size))); clear h1 hg1 hv1 hb1 z1 R1 R2)
  go_ret2
  exact ⟨rfl, _, (O1.out.set_away _ _ hgb).set_away _ _ hgb, HR2.out.set1 k hk 2, Tch.set (Tch.set (Tch.of (grown_alloc HG1.out)) _ _) _ _, HV1.out⟩

set_option maxHeartbeats 1000000 in
set_option maxRecDepth 100000 in
theorem rtake_form (g k base : Nat) (s : Nat → Nat) (v : Nat → Value) (a : Option Addr) (n cp : Nat) (bs : List UInt8) (c : UInt8) (w : World) (hk : k < 1) (hs : s k = 0) (hv : v k = .slice a n cp) (hgb : g < base) (hbw : base ≤ w.heap.size) (hl : bs.length = n) (hn : n ≤ 9) (h0 : 0 < n) (hc : c.toNat = 0)
    (h : Rt w g v s) (ho : OwT fB w base 5 (.slice a n cp) bs) :
    Calls Try.prog 50 #[.pointer (some ⟨g, 2 * k, none⟩), .int .u8 (B c)] w fun e w' => e = .returned (.tuple #[.bool false, .int .i64 13]) ∧ ∃ x, OwT fB w' base 5 x (bs ++ [c]) ∧ Rt w' g (fun i => if i = k then x else v i) (fun i => if i = k then 2 else s i) ∧ Tch w w' g (Value.ownBlock (.slice a n cp)) ∧ ∀ j, x.ownBlock = some j → Value.ownBlock (.slice a n cp) = some j ∨ w.heap.size ≤ j := by
  have c1 := h.c1 k hk
  rw [hs] at c1
  have c1 : w.cell? ⟨g, 2 * k + 1, none⟩ = some (.int .i64 0) := c1
  have c0 := h.c0 k hk
  rw [hv] at c0
  have RA := Lib.hid (h.keep ((Below.refl _ _).alloc (Nat.le_refl _) (.cells #[.int .u8 (B c)] 5)))
  have O := Lib.hid ho; clear ho
  have HS := Lib.hid hs; clear hs
  have LB := Lib.hid hl
  clear h hv
  have hcc : ¬ 1 < B c := by unfold B; omega
  have hz : (B c == 0) = true := by rw [beq_iff_eq]; unfold B; omega
  have hn1 : (1 : Int) < (n : Int) + 1 := by omega
  clear hc
  by_cases h9 : n = 9
  · have f10 : ((n : Int) + 1 == 10) = true := by rw [beq_iff_eq]; omega
    clear h9
    go_enter Try.func50, Try.ntmps50
    go_wp2_with (at_builtin; refine wpList_appT eltTB rfl _ _ rfl base (.slice a n cp) bs (by rfl) (O.out.alloc _) _ 1 1 [c] (by rfl) (Sl.lit _ _ _ _ _ rfl rfl).toT (by unfold maxLen; omega) (by omega) (Nat.le_trans hbw (by simp)) _ rfl ?_; intro v' w1 h1 hg1 hv1 hb1; obtain ⟨a1, n1, cp1, rfl, z1⟩ := h1.slN; obtain rfl : n1 = n + 1 := z1.len.symm.trans (len_snoc LB.out); have R1 := Rt.below (RA.out) hgb hb1; have c0' := R1.c0 k hk; have f0' := R1.free (2 * k); have R2 := R1.set0 k hk (.slice a1 (n + 1) cp1); have c0s := R2.c0 k hk; rw [if_pos rfl] at c0s; have c1s := R2.c1 k hk; rw [HS.out] at c1s; have c1s : (w1.setCell ⟨g, 2 * k, none⟩ (.slice a1 (n + 1) cp1)).cell? ⟨g, 2 * k + 1, none⟩ = some (.int .i64 0) := c1s; have f1s := R2.free (2 * k + 1); have O1 := Lib.hid h1; have HG1 := Lib.hid hg1; have HR2 := Lib.hid R2; have HV1 := Lib.hid (own_step hv1 (Nat.le_of_lt (by simp : w.heap.size < (w.alloc (.cells #[.int .u8 (B c)] 5)).heap.size))); clear h1 hg1 hv1 hb1 z1 R1 R2)
    go_ret2
    exact ⟨rfl, _, (O1.out.set_away _ _ hgb).set_away _ _ hgb, HR2.out.set1 k hk 2, Tch.set (Tch.set (Tch.of (grown_alloc HG1.out)) _ _) _ _, HV1.out⟩
  · have f10 : ((n : Int) + 1 == 10) = false := by rw [beq_eq_false_iff_ne]; omega
    clear h9
    go_enter Try.func50, Try.ntmps50
    go_wp2_with (at_builtin; refine wpList_appT eltTB rfl _ _ rfl base (.slice a n cp) bs (by rfl) (O.out.alloc _) _ 1 1 [c] (by rfl) (Sl.lit _ _ _ _ _ rfl rfl).toT (by unfold maxLen; omega) (by omega) (Nat.le_trans hbw (by simp)) _ rfl ?_; intro v' w1 h1 hg1 hv1 hb1; obtain ⟨a1, n1, cp1, rfl, z1⟩ := h1.slN; obtain rfl : n1 = n + 1 := z1.len.symm.trans (len_snoc LB.out); have R1 := Rt.below (RA.out) hgb hb1; have c0' := R1.c0 k hk; have f0' := R1.free (2 * k); have R2 := R1.set0 k hk (.slice a1 (n + 1) cp1); have c0s := R2.c0 k hk; rw [if_pos rfl] at c0s; have c1s := R2.c1 k hk; rw [HS.out] at c1s; have c1s : (w1.setCell ⟨g, 2 * k, none⟩ (.slice a1 (n + 1) cp1)).cell? ⟨g, 2 * k + 1, none⟩ = some (.int .i64 0) := c1s; have f1s := R2.free (2 * k + 1); have O1 := Lib.hid h1; have HG1 := Lib.hid hg1; have HR2 := Lib.hid R2; have HV1 := Lib.hid (own_step hv1 (Nat.le_of_lt (by simp : w.heap.size < (w.alloc (.cells #[.int .u8 (B c)] 5)).heap.size))); clear h1 hg1 hv1 hb1 z1 R1 R2)
    go_ret2
    exact ⟨rfl, _, (O1.out.set_away _ _ hgb).set_away _ _ hgb, HR2.out.set1 k hk 2, Tch.set (Tch.set (Tch.of (grown_alloc HG1.out)) _ _) _ _, HV1.out⟩

set_option maxHeartbeats 1000000 in
set_option maxRecDepth 100000 in
theorem rtake_last (g k base : Nat) (s : Nat → Nat) (v : Nat → Value) (a : Option Addr) (n cp : Nat) (bs : List UInt8) (c : UInt8) (w : World) (hk : k < 1) (hs : s k = 0) (hv : v k = .slice a n cp) (hgb : g < base) (hbw : base ≤ w.heap.size) (hl : bs.length = n) (hn : n ≤ 9) (hc1 : ¬ (n = 9 ∧ 1 < c.toNat)) (hc2 : ¬ (0 < n ∧ c.toNat = 0)) (hc3 : c.toNat < 128)
    (h : Rt w g v s) (ho : OwT fB w base 5 (.slice a n cp) bs) :
    Calls Try.prog 50 #[.pointer (some ⟨g, 2 * k, none⟩), .int .u8 (B c)] w fun e w' => e = .returned (.tuple #[.bool true, .int .i64 0]) ∧ ∃ x, OwT fB w' base 5 x (bs ++ [c]) ∧ Rt w' g (fun i => if i = k then x else v i) (fun i => if i = k then 1 else s i) ∧ Tch w w' g (Value.ownBlock (.slice a n cp)) ∧ ∀ j, x.ownBlock = some j → Value.ownBlock (.slice a n cp) = some j ∨ w.heap.size ≤ j := by
  have c1 := h.c1 k hk
  rw [hs] at c1
  have c1 : w.cell? ⟨g, 2 * k + 1, none⟩ = some (.int .i64 0) := c1
  have c0 := h.c0 k hk
  rw [hv] at c0
  have RA := Lib.hid (h.keep ((Below.refl _ _).alloc (Nat.le_refl _) (.cells #[.int .u8 (B c)] 5)))
  have O := Lib.hid ho; clear ho
  have HS := Lib.hid hs; clear hs
  have LB := Lib.hid hl
  clear h hv
  have hlt : B c < 128 := by unfold B; omega
  by_cases h9 : n = 9
  · have f10 : ((n : Int) + 1 == 10) = true := by rw [beq_iff_eq]; omega
    have hcc : ¬ 1 < B c := by unfold B; omega
    have hz : (B c == 0) = false := by rw [beq_eq_false_iff_ne]; unfold B; omega
    have hn1 : (1 : Int) < (n : Int) + 1 := by omega
    clear h9 hc1 hc2 hc3
    go_enter Try.func50, Try.ntmps50
    go_wp2_with (at_builtin; refine wpList_appT eltTB rfl _ _ rfl base (.slice a n cp) bs (by rfl) (O.out.alloc _) _ 1 1 [c] (by rfl) (Sl.lit _ _ _ _ _ rfl rfl).toT (by unfold maxLen; omega) (by omega) (Nat.le_trans hbw (by simp)) _ rfl ?_; intro v' w1 h1 hg1 hv1 hb1; obtain ⟨a1, n1, cp1, rfl, z1⟩ := h1.slN; obtain rfl : n1 = n + 1 := z1.len.symm.trans (len_snoc LB.out); have R1 := Rt.below (RA.out) hgb hb1; have c0' := R1.c0 k hk; have f0' := R1.free (2 * k); have R2 := R1.set0 k hk (.slice a1 (n + 1) cp1); have c0s := R2.c0 k hk; rw [if_pos rfl] at c0s; have c1s := R2.c1 k hk; rw [HS.out] at c1s; have c1s : (w1.setCell ⟨g, 2 * k, none⟩ (.slice a1 (n + 1) cp1)).cell? ⟨g, 2 * k + 1, none⟩ = some (.int .i64 0) := c1s; have f1s := R2.free (2 * k + 1); have O1 := Lib.hid h1; have HG1 := Lib.hid hg1; have HR2 := Lib.hid R2; have HV1 := Lib.hid (own_step hv1 (Nat.le_of_lt (by simp : w.heap.size < (w.alloc (.cells #[.int .u8 (B c)] 5)).heap.size))); clear h1 hg1 hv1 hb1 z1 R1 R2)
    go_ret2
    exact ⟨rfl, _, (O1.out.set_away _ _ hgb).set_away _ _ hgb, HR2.out.set1 k hk 1, Tch.set (Tch.set (Tch.of (grown_alloc HG1.out)) _ _) _ _, HV1.out⟩
  · have f10 : ((n : Int) + 1 == 10) = false := by rw [beq_eq_false_iff_ne]; omega
    by_cases h0 : n = 0
    · have hn1 : ¬ (1 : Int) < (n : Int) + 1 := by omega
      clear h9 h0 hc1 hc2 hc3
      go_enter Try.func50, Try.ntmps50
      go_wp2_with (at_builtin; refine wpList_appT eltTB rfl _ _ rfl base (.slice a n cp) bs (by rfl) (O.out.alloc _) _ 1 1 [c] (by rfl) (Sl.lit _ _ _ _ _ rfl rfl).toT (by unfold maxLen; omega) (by omega) (Nat.le_trans hbw (by simp)) _ rfl ?_; intro v' w1 h1 hg1 hv1 hb1; obtain ⟨a1, n1, cp1, rfl, z1⟩ := h1.slN; obtain rfl : n1 = n + 1 := z1.len.symm.trans (len_snoc LB.out); have R1 := Rt.below (RA.out) hgb hb1; have c0' := R1.c0 k hk; have f0' := R1.free (2 * k); have R2 := R1.set0 k hk (.slice a1 (n + 1) cp1); have c0s := R2.c0 k hk; rw [if_pos rfl] at c0s; have c1s := R2.c1 k hk; rw [HS.out] at c1s; have c1s : (w1.setCell ⟨g, 2 * k, none⟩ (.slice a1 (n + 1) cp1)).cell? ⟨g, 2 * k + 1, none⟩ = some (.int .i64 0) := c1s; have f1s := R2.free (2 * k + 1); have O1 := Lib.hid h1; have HG1 := Lib.hid hg1; have HR2 := Lib.hid R2; have HV1 := Lib.hid (own_step hv1 (Nat.le_of_lt (by simp : w.heap.size < (w.alloc (.cells #[.int .u8 (B c)] 5)).heap.size))); clear h1 hg1 hv1 hb1 z1 R1 R2)
      go_ret2
      exact ⟨rfl, _, (O1.out.set_away _ _ hgb).set_away _ _ hgb, HR2.out.set1 k hk 1, Tch.set (Tch.set (Tch.of (grown_alloc HG1.out)) _ _) _ _, HV1.out⟩
    · have hn1 : (1 : Int) < (n : Int) + 1 := by omega
      have hz : (B c == 0) = false := by rw [beq_eq_false_iff_ne]; unfold B; omega
      clear h9 h0 hc1 hc2 hc3
      go_enter Try.func50, Try.ntmps50
      go_wp2_with (at_builtin; refine wpList_appT eltTB rfl _ _ rfl base (.slice a n cp) bs (by rfl) (O.out.alloc _) _ 1 1 [c] (by rfl) (Sl.lit _ _ _ _ _ rfl rfl).toT (by unfold maxLen; omega) (by omega) (Nat.le_trans hbw (by simp)) _ rfl ?_; intro v' w1 h1 hg1 hv1 hb1; obtain ⟨a1, n1, cp1, rfl, z1⟩ := h1.slN; obtain rfl : n1 = n + 1 := z1.len.symm.trans (len_snoc LB.out); have R1 := Rt.below (RA.out) hgb hb1; have c0' := R1.c0 k hk; have f0' := R1.free (2 * k); have R2 := R1.set0 k hk (.slice a1 (n + 1) cp1); have c0s := R2.c0 k hk; rw [if_pos rfl] at c0s; have c1s := R2.c1 k hk; rw [HS.out] at c1s; have c1s : (w1.setCell ⟨g, 2 * k, none⟩ (.slice a1 (n + 1) cp1)).cell? ⟨g, 2 * k + 1, none⟩ = some (.int .i64 0) := c1s; have f1s := R2.free (2 * k + 1); have O1 := Lib.hid h1; have HG1 := Lib.hid hg1; have HR2 := Lib.hid R2; have HV1 := Lib.hid (own_step hv1 (Nat.le_of_lt (by simp : w.heap.size < (w.alloc (.cells #[.int .u8 (B c)] 5)).heap.size))); clear h1 hg1 hv1 hb1 z1 R1 R2)
      go_ret2
      exact ⟨rfl, _, (O1.out.set_away _ _ hgb).set_away _ _ hgb, HR2.out.set1 k hk 1, Tch.set (Tch.set (Tch.of (grown_alloc HG1.out)) _ _) _ _, HV1.out⟩

set_option maxHeartbeats 1000000 in
set_option maxRecDepth 100000 in
theorem rtake_go (g k base : Nat) (s : Nat → Nat) (v : Nat → Value) (a : Option Addr) (n cp : Nat) (bs : List UInt8) (c : UInt8) (w : World) (hk : k < 1) (hs : s k = 0) (hv : v k = .slice a n cp) (hgb : g < base) (hbw : base ≤ w.heap.size) (hl : bs.length = n) (hn : n ≤ 9) (hc1 : ¬ (n = 9 ∧ 1 < c.toNat)) (hc2 : ¬ (0 < n ∧ c.toNat = 0)) (hc3 : ¬ c.toNat < 128)
    (h : Rt w g v s) (ho : OwT fB w base 5 (.slice a n cp) bs) :
    Calls Try.prog 50 #[.pointer (some ⟨g, 2 * k, none⟩), .int .u8 (B c)] w fun e w' => e = .returned (.tuple #[.bool false, .int .i64 0]) ∧ ∃ x, OwT fB w' base 5 x (bs ++ [c]) ∧ Rt w' g (fun i => if i = k then x else v i) s ∧ Tch w w' g (Value.ownBlock (.slice a n cp)) ∧ ∀ j, x.ownBlock = some j → Value.ownBlock (.slice a n cp) = some j ∨ w.heap.size ≤ j := by
  have c1 := h.c1 k hk
  rw [hs] at c1
  have c1 : w.cell? ⟨g, 2 * k + 1, none⟩ = some (.int .i64 0) := c1
  have c0 := h.c0 k hk
  rw [hv] at c0
  have RA := Lib.hid (h.keep ((Below.refl _ _).alloc (Nat.le_refl _) (.cells #[.int .u8 (B c)] 5)))
  have O := Lib.hid ho; clear ho
  have HS := Lib.hid hs; clear hs
  have LB := Lib.hid hl
  clear h hv
  have hlt : ¬ B c < 128 := by unfold B; omega
  have h9 : n ≠ 9 := fun e => hc1 ⟨e, by omega⟩
  · have f10 : ((n : Int) + 1 == 10) = false := by rw [beq_eq_false_iff_ne]; omega
    by_cases h0 : n = 0
    · have hn1 : ¬ (1 : Int) < (n : Int) + 1 := by omega
      clear h9 h0 hc1 hc2 hc3
      go_enter Try.func50, Try.ntmps50
      go_wp2_with (at_builtin; refine wpList_appT eltTB rfl _ _ rfl base (.slice a n cp) bs (by rfl) (O.out.alloc _) _ 1 1 [c] (by rfl) (Sl.lit _ _ _ _ _ rfl rfl).toT (by unfold maxLen; omega) (by omega) (Nat.le_trans hbw (by simp)) _ rfl ?_; intro v' w1 h1 hg1 hv1 hb1; obtain ⟨a1, n1, cp1, rfl, z1⟩ := h1.slN; obtain rfl : n1 = n + 1 := z1.len.symm.trans (len_snoc LB.out); have R1 := Rt.below (RA.out) hgb hb1; have c0' := R1.c0 k hk; have f0' := R1.free (2 * k); have R2 := R1.set0 k hk (.slice a1 (n + 1) cp1); have c0s := R2.c0 k hk; rw [if_pos rfl] at c0s; have c1s := R2.c1 k hk; rw [HS.out] at c1s; have c1s : (w1.setCell ⟨g, 2 * k, none⟩ (.slice a1 (n + 1) cp1)).cell? ⟨g, 2 * k + 1, none⟩ = some (.int .i64 0) := c1s; have f1s := R2.free (2 * k + 1); have O1 := Lib.hid h1; have HG1 := Lib.hid hg1; have HR2 := Lib.hid R2; have HV1 := Lib.hid (own_step hv1 (Nat.le_of_lt (by simp : w.heap.size < (w.alloc (.cells #[.int .u8 (B c)] 5)).heap.size))); clear h1 hg1 hv1 hb1 z1 R1 R2)
      go_ret2
      exact ⟨rfl, _, O1.out.set_away _ _ hgb, HR2.out, Tch.set (Tch.of (grown_alloc HG1.out)) _ _, HV1.out⟩
    · have hn1 : (1 : Int) < (n : Int) + 1 := by omega
      have hz : (B c == 0) = false := by rw [beq_eq_false_iff_ne]; unfold B; omega
      clear h9 h0 hc1 hc2 hc3
      go_enter Try.func50, Try.ntmps50
      go_wp2_with (at_builtin; refine wpList_appT eltTB rfl _ _ rfl base (.slice a n cp) bs (by rfl) (O.out.alloc _) _ 1 1 [c] (by rfl) (Sl.lit _ _ _ _ _ rfl rfl).toT (by unfold maxLen; omega) (by omega) (Nat.le_trans hbw (by simp)) _ rfl ?_; intro v' w1 h1 hg1 hv1 hb1; obtain ⟨a1, n1, cp1, rfl, z1⟩ := h1.slN; obtain rfl : n1 = n + 1 := z1.len.symm.trans (len_snoc LB.out); have R1 := Rt.below (RA.out) hgb hb1; have c0' := R1.c0 k hk; have f0' := R1.free (2 * k); have R2 := R1.set0 k hk (.slice a1 (n + 1) cp1); have c0s := R2.c0 k hk; rw [if_pos rfl] at c0s; have c1s := R2.c1 k hk; rw [HS.out] at c1s; have c1s : (w1.setCell ⟨g, 2 * k, none⟩ (.slice a1 (n + 1) cp1)).cell? ⟨g, 2 * k + 1, none⟩ = some (.int .i64 0) := c1s; have f1s := R2.free (2 * k + 1); have O1 := Lib.hid h1; have HG1 := Lib.hid hg1; have HR2 := Lib.hid R2; have HV1 := Lib.hid (own_step hv1 (Nat.le_of_lt (by simp : w.heap.size < (w.alloc (.cells #[.int .u8 (B c)] 5)).heap.size))); clear h1 hg1 hv1 hb1 z1 R1 R2)
      go_ret2
      exact ⟨rfl, _, O1.out.set_away _ _ hgb, HR2.out, Tch.set (Tch.of (grown_alloc HG1.out)) _ _, HV1.out⟩
theorem fun_self {α : Type} (v : Nat → α) (k : Nat) (x : α) (h : v k = x) : (fun i => if i = k then x else v i) = v := by
  funext i
  split
  · rename_i e; subst e; exact h.symm
  · rfl
theorem qtake_any (g k base : Nat) (s : Nat → Nat) (v : Nat → Value) (n : Nat) (bs : List UInt8) (c : UInt8) (w : World) (d : Bool) (er n2 s2 : Nat) (b2 : List UInt8) (hk : k < 1) (hq : tq (s k) n bs c = (d, er, n2, s2, b2)) (hi : Inv bs n (s k)) (hgb : g < base) (hbw : base ≤ w.heap.size)
    (h : Rt w g v s) (ho : OwT fB w base 5 (v k) bs) :
    Calls Try.prog 50 #[.pointer (some ⟨g, 2 * k, none⟩), .int .u8 (B c)] w fun e w' => e = .returned (.tuple #[.bool d, .int .i64 er]) ∧ ∃ x, OwT fB w' base 5 x b2 ∧ Rt w' g (fun i => if i = k then x else v i) (fun i => if i = k then s2 else s i) ∧
      Tch w w' g (v k).ownBlock ∧ ∀ j, x.ownBlock = some j → (v k).ownBlock = some j ∨ w.heap.size ≤ j := by
  unfold tq at hq
  by_cases hs : s k ≠ 0
  · rw [if_pos hs] at hq; cases hq
    refine (rtake_no g k v s c w hk hs h).mono ?_
    rintro e w' ⟨rfl, rfl⟩
    refine ⟨rfl, v k, ho, ?_, Tch.of (World.grownBy.refl _ _), fun j hj => .inl hj⟩
    rw [fun_self v k _ rfl, fun_self s k _ rfl]; exact h
  · rw [if_neg hs] at hq
    have hs : s k = 0 := by omega
    obtain ⟨_, h9, hn, hr⟩ : s k = 0 ∧ bs.length ≤ 9 ∧ n < 128 ^ bs.length ∧ ∀ r, rd (bs ++ r) 0 0 = rd r bs.length n := by
      rcases hi with h | h | h
      · exact h
      · omega
      · omega
    obtain ⟨a, n1, cp, hv, z⟩ := ho.slN
    have hl := z.len
    have ho' : OwT fB w base 5 (.slice a n1 cp) bs := hv ▸ ho
    rw [hv]
    by_cases c1 : bs.length = 9 ∧ 1 < c.toNat
    · rw [if_pos c1] at hq; cases hq
      refine (rtake_long g k base s v a n1 cp bs c w hk hs hv hgb hbw hl (by omega) (by omega) c1.2 h ho').mono ?_
      rintro e w' ⟨rfl, h2⟩
      exact ⟨rfl, h2⟩
    · rw [if_neg c1] at hq
      by_cases c2 : 0 < bs.length ∧ c.toNat = 0
      · rw [if_pos c2] at hq; cases hq
        refine (rtake_form g k base s v a n1 cp bs c w hk hs hv hgb hbw hl (by omega) (by omega) c2.2 h ho').mono ?_
        rintro e w' ⟨rfl, h2⟩
        exact ⟨rfl, h2⟩
      · rw [if_neg c2] at hq
        by_cases c3 : c.toNat < 128
        · rw [if_pos c3, decide_eq_true c3] at hq; cases hq
          refine (rtake_last g k base s v a n1 cp bs c w hk hs hv hgb hbw hl (by omega) (by omega) (by omega) c3 h ho').mono ?_
          rintro e w' ⟨rfl, h2⟩
          exact ⟨rfl, h2⟩
        · rw [if_neg c3, decide_eq_false c3] at hq; cases hq
          refine (rtake_go g k base s v a n1 cp bs c w hk hs hv hgb hbw hl (by omega) (by omega) (by omega) c3 h ho').mono ?_
          rintro e w' ⟨rfl, x, h2, h3, h4⟩
          refine ⟨rfl, x, h2, ?_, h4⟩
          rw [fun_self s k _ hs]; exact h3
theorem qnumber_any (g k base : Nat) (s : Nat → Nat) (v : Nat → Value) (n : Nat) (bs : List UInt8) (w : World) (hk : k < 1) (hi : Inv bs n (s k)) (h : Rt w g v s) (ho : OwT fB w base 5 (v k) bs) :
    Calls Try.prog 51 #[.pointer (some ⟨g, 2 * k, none⟩)] w fun e w' => e = .returned (.tuple #[.int .u64 (nv (s k) n : Nat), .bool (decide (s k = 1))]) ∧ w = w' := by
  unfold nv
  obtain ⟨a, n1, cp, hv, z⟩ := ho.slN
  by_cases hs : s k = 1
  · rw [if_pos hs, decide_eq_true hs, ← hi.small hs]
    exact rnumber_yes g k v s a n1 cp bs w hk hs (by have := z.len; have := hi.len; omega) hv h z
  · rw [if_neg hs, decide_eq_false hs]; exact rnumber_no g k v s w hk hs h
end Go.Proofs.Ytpenbaafhbbmhaa
