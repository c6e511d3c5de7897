/- Several texts in one: VintTake, CurTk, CurM, CurM2, PairReadM, VintNumsM, BlockRM, RdM, PipeMeth. Each has its own sentence and conditions below. -/
import Derived.Test.YtljcogimeimknaaK8c
import Derived.Test.YtljcogimeimknaaK8a
import Derived.Deep.DeepCutAuto
import Derived.BigRegion
import Derived.Test.YtljcogimeimknaaK8p
import Derived.Test.YtljcogimeimknaaK8b
import Derived.Test.YtljcogimeimknaaK8f
import Derived.Test.YtljcogimeimknaaK8e
/- A taker of bytes: contracts of Take. Conditions: the taker lies in one block; it holds a number of as many sevens as it took. -/
namespace Go.Proofs.Ytljcogimeimknaa
set_option linter.unusedVariables false
open Go.RowKit

/-- a taker in a block of its own -/
def Tk (w : World) (g n t s : Nat) : Prop := w.heap[g]? = some (.cells #[.int .u64 n, .int .i64 t, .int .i64 s] 172 (0, 0))
theorem Tk.lt {w : World} {g n t s : Nat} (h : Tk w g n t s) : g < w.heap.size := (Array.getElem?_eq_some_iff.1 h).1
theorem Tk.keep {w w' : World} {g n t s : Nat} (h : Tk w g n t s) (hb : Below w.heap.size w w') : Tk w' g n t s := (hb.block g h.lt).trans h
theorem Tk.grown {w w' : World} {g n t s : Nat} {row : Option Nat} (h : Tk w g n t s) (hb : w.grownBy w' row) (hne : row ≠ some g) : Tk w' g n t s := (hb.block g h.lt hne.symm).trans h
theorem Tk.c0 {w : World} {g n t s : Nat} (h : Tk w g n t s) : w.cell? ⟨g, 0, none⟩ = some (.int .u64 n) := by
  unfold Tk at h; simp [World.cell?, h]
theorem Tk.c1 {w : World} {g n t s : Nat} (h : Tk w g n t s) : w.cell? ⟨g, 1, none⟩ = some (.int .i64 t) := by
  unfold Tk at h; simp [World.cell?, h]
theorem Tk.c2 {w : World} {g n t s : Nat} (h : Tk w g n t s) : w.cell? ⟨g, 2, none⟩ = some (.int .i64 s) := by
  unfold Tk at h; simp [World.cell?, h]
theorem Tk.free {w : World} {g n t s : Nat} (h : Tk w g n t s) (i : Nat) : w.frozen? ⟨g, i, none⟩ = false := by
  unfold Tk at h; simp [World.frozen?, h]
theorem Tk.set0 {w : World} {g n t s : Nat} (h : Tk w g n t s) (m : Nat) : Tk (w.setCell ⟨g, 0, none⟩ (.int .u64 m)) g m t s := by
  unfold Tk at h ⊢
  simp only [World.setCell, Array.getElem?_modify, if_true]
  rw [h]; rfl
theorem Tk.set1 {w : World} {g n t s : Nat} (h : Tk w g n t s) (m : Nat) : Tk (w.setCell ⟨g, 1, none⟩ (.int .i64 m)) g n m s := by
  unfold Tk at h ⊢
  simp only [World.setCell, Array.getElem?_modify, if_true]
  rw [h]; rfl
theorem Tk.set2 {w : World} {g n t s : Nat} (h : Tk w g n t s) (m : Nat) : Tk (w.setCell ⟨g, 2, none⟩ (.int .i64 m)) g n t m := by
  unfold Tk at h ⊢
  simp only [World.setCell, Array.getElem?_modify, if_true]
  rw [h]; rfl
theorem Tk.drew {w : World} {g n t s : Nat} (h : Tk w g n t s) : Tk w.drew g n t s := h
theorem grown_setc {w w1 : World} {row : Option Nat} (h : w.grownBy w1 row) (p : Addr) (hp : row = some p.block) (v : Value) : w.grownBy (w1.setCell p v) row := by
  obtain ⟨h1, h2, h3, h4, h5⟩ := h
  refine ⟨h1, h2, h3, by simpa using h4, fun k hk hne => ?_⟩
  rw [Below.heap_setCell _ _ _ _ (fun e => hne (by rw [hp, e]))]
  exact h5 k hk hne

theorem grown_drw {w w' : World} {row : Option Nat} (h : w.grownBy w' row) : w.grownBy w'.drew row := ⟨h.os, h.tape, h.output, h.size, h.block⟩

theorem take_no (g n t s : Nat) (c : UInt8) (w : World) (hs : s ≠ 0) (h : Tk w g n t s) :
    Calls Try.prog 120 #[.pointer (some ⟨g, 0, none⟩), .int .u8 (B c)] w fun e w' => e = .returned (.tuple #[.bool false, .int .i64 1]) ∧ w = w' := by
  have c2 := h.c2
  have f1 : ((s : Int) != 0) = true := by rw [bne_iff_ne]; omega
  have HH := Lib.hid h; clear h
  go_enter Try.func120, Try.ntmps120
  go_wp2_with fail
  go_ret2
  exact ⟨rfl, rfl⟩
theorem take_long (g n : Nat) (c : UInt8) (w : World) (hc : 1 < c.toNat) (h : Tk w g n 9 0) :
    Calls Try.prog 120 #[.pointer (some ⟨g, 0, none⟩), .int .u8 (B c)] w fun e w' => e = .returned (.tuple #[.bool false, .int .i64 12]) ∧ Tk w' g n 10 2 ∧ w.grownBy w' (some g) := by
  have c2 : w.cell? ⟨g, 2, none⟩ = some (.int .i64 0) := h.c2
  have c1 : w.cell? ⟨g, 1, none⟩ = some (.int .i64 9) := h.c1
  have f1 := h.free 1
  have hcc : 1 < B c := by unfold B; omega
  have h1 := h.set1 10
  have c1' : (w.setCell ⟨g, 1, none⟩ (.int .i64 10)).cell? ⟨g, 1, none⟩ = some (.int .i64 10) := h1.c1
  have f2 : (w.setCell ⟨g, 1, none⟩ (.int .i64 10)).frozen? ⟨g, 2, none⟩ = false := h1.free 2
  have c2' : (w.setCell ⟨g, 1, none⟩ (.int .i64 10)).cell? ⟨g, 2, none⟩ = some (.int .i64 0) := h1.c2
  have H1 := Lib.hid h1; clear h1 h hc
  go_enter Try.func120, Try.ntmps120
  go_wp2_with fail
  go_ret2
  exact ⟨rfl, H1.out.set2 2, grown_setc (grown_setc (World.grownBy.refl _ _) ⟨g, 1, none⟩ rfl _) ⟨g, 2, none⟩ rfl _⟩
theorem take_form (g n t : Nat) (c : UInt8) (w : World) (ht0 : 0 < t) (ht : t ≤ 9) (hc : c.toNat = 0) (h : Tk w g n t 0) :
    Calls Try.prog 120 #[.pointer (some ⟨g, 0, none⟩), .int .u8 (B c)] w fun e w' => e = .returned (.tuple #[.bool false, .int .i64 13]) ∧ Tk w' g n (t + 1) 2 ∧ w.grownBy w' (some g) := by
  have c2 : w.cell? ⟨g, 2, none⟩ = some (.int .i64 0) := h.c2
  have c1 := h.c1
  have f1 := h.free 1
  have hcc : (B c == 0) = true := by rw [beq_iff_eq]; unfold B; omega
  have hc1 : ¬ 1 < B c := by unfold B; omega
  have h1 := h.set1 (t + 1)
  have c1' : (w.setCell ⟨g, 1, none⟩ (.int .i64 ((t : Int) + 1))).cell? ⟨g, 1, none⟩ = some (.int .i64 ((t : Int) + 1)) := h1.c1
  have f2 : (w.setCell ⟨g, 1, none⟩ (.int .i64 ((t : Int) + 1))).frozen? ⟨g, 2, none⟩ = false := h1.free 2
  have c2' : (w.setCell ⟨g, 1, none⟩ (.int .i64 ((t : Int) + 1))).cell? ⟨g, 2, none⟩ = some (.int .i64 0) := h1.c2
  have H1 := Lib.hid h1; clear h1 h hc
  by_cases h9 : t = 9
  · have f10 : ((t : Int) + 1 == 10) = true := by rw [beq_iff_eq]; omega
    clear h9
    go_enter Try.func120, Try.ntmps120
    go_wp2_with fail
    go_ret2
    exact ⟨rfl, H1.out.set2 2, grown_setc (grown_setc (World.grownBy.refl _ _) ⟨g, 1, none⟩ rfl _) ⟨g, 2, none⟩ rfl _⟩
  · have f10 : ((t : Int) + 1 == 10) = false := by rw [beq_eq_false_iff_ne]; omega
    clear h9
    go_enter Try.func120, Try.ntmps120
    go_wp2_with fail
    go_ret2
    exact ⟨rfl, H1.out.set2 2, grown_setc (grown_setc (World.grownBy.refl _ _) ⟨g, 1, none⟩ rfl _) ⟨g, 2, none⟩ rfl _⟩

/-- the sevens of a byte -/
theorem and127 (c : UInt8) : bits .and .u8 (B c) 127 = ((c.toNat % 128 : Nat) : Int) := by
  have : ∀ k : Fin 256, bits .and .u8 ((k.val : Nat) : Int) 127 = ((k.val % 128 : Nat) : Int) := by decide +kernel
  exact this ⟨c.toNat, c.toNat_lt⟩
theorem or64 (a b : Nat) (ha : a < 2 ^ 64) (hb : b < 2 ^ 64) : bits .or .u64 (a : Int) (b : Int) = ((a ||| b : Nat) : Int) := by
  show IntKind.u64.wrap ((BitVec.ofInt 64 (a : Int) ||| BitVec.ofInt 64 (b : Int)).toNat : Int) = _
  rw [BitVec.ofInt_natCast, BitVec.ofInt_natCast, BitVec.toNat_or, BitVec.toNat_ofNat, BitVec.toNat_ofNat, Nat.mod_eq_of_lt ha, Nat.mod_eq_of_lt hb]
  have := Nat.or_lt_two_pow ha hb
  generalize a ||| b = z at *
  rw [IntKind.wrap_u64]; omega

theorem put_seven (n t : Nat) (c : UInt8) (ht : t ≤ 9) (hc1 : ¬ (t = 9 ∧ 1 < c.toNat)) (hn : n < 128 ^ t) : bits .or .u64 (n : Int) (IntKind.u64.wrap ((c.toNat : Int) % 128 * 2 ^ (7 * t))) = ((n + c.toNat % 128 * 128 ^ t : Nat) : Int) := by
  have hb : c.toNat % 128 * 128 ^ t < 18446744073709551616 := by
    have e9 : (128 : Nat) ^ 9 = 9223372036854775808 := by decide
    by_cases h9 : t = 9
    · subst h9
      have : c.toNat % 128 ≤ 1 := by omega
      have h4 : c.toNat % 128 * 128 ^ 9 ≤ 1 * 128 ^ 9 := Nat.mul_le_mul_right _ this
      omega
    · have h5 := go_small (c := c) hn
      have h6 : 128 ^ (t + 1) ≤ 128 ^ 9 := Nat.pow_le_pow_right (by decide) (by omega)
      omega
  have hn2 : n < 18446744073709551616 := by
    have e9 : (128 : Nat) ^ 9 = 9223372036854775808 := by decide
    have h6 : 128 ^ t ≤ 128 ^ 9 := Nat.pow_le_pow_right (by decide) ht
    omega
  have e1 : ((c.toNat : Int) % 128 * 2 ^ (7 * t)) = ((c.toNat % 128 * 128 ^ t : Nat) : Int) := by rw [pow128]; simp
  have e2 : IntKind.u64.wrap ((c.toNat % 128 * 128 ^ t : Nat) : Int) = ((c.toNat % 128 * 128 ^ t : Nat) : Int) := by
    generalize c.toNat % 128 * 128 ^ t = z at *
    rw [IntKind.wrap_u64]; omega
  rw [e1, e2, or64 _ _ hn2 hb]
  congr 1
  rw [pow128] at hn ⊢
  exact or_add hn

set_option maxRecDepth 100000 in
set_option maxHeartbeats 1000000 in
theorem take_go (g n t : Nat) (c : UInt8) (w : World) (ht : t ≤ 9) (hc1 : ¬ (t = 9 ∧ 1 < c.toNat)) (hc2 : ¬ (0 < t ∧ c.toNat = 0)) (hn : n < 128 ^ t) (h : Tk w g n t 0) :
    Calls Try.prog 120 #[.pointer (some ⟨g, 0, none⟩), .int .u8 (B c)] w fun e w' => e = .returned (.tuple #[.bool (decide (c.toNat < 128)), .int .i64 0]) ∧
      Tk w' g (n + c.toNat % 128 * 128 ^ t) (t + 1) (if c.toNat < 128 then 1 else 0) ∧ w.grownBy w' (some g) := by
  have c2 : w.cell? ⟨g, 2, none⟩ = some (.int .i64 0) := h.c2
  have c1 := h.c1
  have f1 := h.free 1
  have h1 := h.set1 (t + 1)
  have c1' : (w.setCell ⟨g, 1, none⟩ (.int .i64 ((t : Int) + 1))).cell? ⟨g, 1, none⟩ = some (.int .i64 ((t : Int) + 1)) := h1.c1
  have c0' : (w.setCell ⟨g, 1, none⟩ (.int .i64 ((t : Int) + 1))).cell? ⟨g, 0, none⟩ = some (.int .u64 n) := h1.c0
  have f0' : (w.setCell ⟨g, 1, none⟩ (.int .i64 ((t : Int) + 1))).frozen? ⟨g, 0, none⟩ = false := h1.free 0
  have h2 : Tk ((w.setCell ⟨g, 1, none⟩ (.int .i64 ((t : Int) + 1))).setCell ⟨g, 0, none⟩ (.int .u64 ((n + c.toNat % 128 * 128 ^ t : Nat) : Int))).drew g (n + c.toNat % 128 * 128 ^ t) (t + 1) 0 := (h1.set0 (n + c.toNat % 128 * 128 ^ t)).drew
  have g2 : w.grownBy ((w.setCell ⟨g, 1, none⟩ (.int .i64 ((t : Int) + 1))).setCell ⟨g, 0, none⟩ (.int .u64 ((n + c.toNat % 128 * 128 ^ t : Nat) : Int))).drew (some g) :=
    grown_drw (grown_setc (grown_setc (World.grownBy.refl _ _) ⟨g, 1, none⟩ rfl _) ⟨g, 0, none⟩ rfl _)
  have hv := put_seven n t c ht hc1 hn
  have H2 := Lib.hid h2; clear h2 h1 h
  have G2 := Lib.hid g2; clear g2
  have HV := Lib.hid hv; clear hv hn
  have r1 := and127 c
  by_cases hln : c.toNat < 128
  · rw [decide_eq_true hln, if_pos hln]
    have hlt : B c < 128 := by unfold B; omega
    have HLN := Lib.hid hln; clear hln
    by_cases h9 : t = 9
    · have f10 : ((t : Int) + 1 == 10) = true := by rw [beq_iff_eq]; omega
      have hle : ¬ 1 < B c := by unfold B; omega
      have ht0 : (1 : Int) < t + 1 := by omega
      have hcc : (B c == 0) = false := by rw [beq_eq_false_iff_ne]; unfold B; omega
      clear h9 hc1 hc2
      go_enter Try.func120, Try.ntmps120
      go_upto_region 10 with (fail)
      go_region
      rw [HV.out]
      generalize ((w.setCell ⟨g, 1, none⟩ (.int .i64 ((t : Int) + 1))).setCell ⟨g, 0, none⟩ (.int .u64 ((n + c.toNat % 128 * 128 ^ t : Nat) : Int))).drew = w2 at *
      have e2 : w2.cell? ⟨g, 2, none⟩ = some (.int .i64 0) := H2.out.c2
      have e3 := H2.out.free 2
      have e4 : (w2.setCell ⟨g, 2, none⟩ (.int .i64 1)).cell? ⟨g, 2, none⟩ = some (.int .i64 1) := (H2.out.set2 1).c2
      go_wp2_with fail
      go_ret2
      exact ⟨rfl, H2.out.set2 1, grown_setc G2.out ⟨g, 2, none⟩ rfl _⟩
    · have f10 : ((t : Int) + 1 == 10) = false := by rw [beq_eq_false_iff_ne]; omega
      by_cases h0 : t = 0
      · have ht0 : ¬ (1 : Int) < t + 1 := by omega
        clear h9 h0 hc1 hc2
        go_enter Try.func120, Try.ntmps120
        go_upto_region 10 with (fail)
        go_region
        rw [HV.out]
        generalize ((w.setCell ⟨g, 1, none⟩ (.int .i64 ((t : Int) + 1))).setCell ⟨g, 0, none⟩ (.int .u64 ((n + c.toNat % 128 * 128 ^ t : Nat) : Int))).drew = w2 at *
        have e2 : w2.cell? ⟨g, 2, none⟩ = some (.int .i64 0) := H2.out.c2
        have e3 := H2.out.free 2
        have e4 : (w2.setCell ⟨g, 2, none⟩ (.int .i64 1)).cell? ⟨g, 2, none⟩ = some (.int .i64 1) := (H2.out.set2 1).c2
        go_wp2_with fail
        go_ret2
        exact ⟨rfl, H2.out.set2 1, grown_setc G2.out ⟨g, 2, none⟩ rfl _⟩
      · have ht0 : (1 : Int) < t + 1 := by omega
        have hcc : (B c == 0) = false := by rw [beq_eq_false_iff_ne]; unfold B; omega
        clear h9 h0 hc1 hc2
        go_enter Try.func120, Try.ntmps120
        go_upto_region 10 with (fail)
        go_region
        rw [HV.out]
        generalize ((w.setCell ⟨g, 1, none⟩ (.int .i64 ((t : Int) + 1))).setCell ⟨g, 0, none⟩ (.int .u64 ((n + c.toNat % 128 * 128 ^ t : Nat) : Int))).drew = w2 at *
        have e2 : w2.cell? ⟨g, 2, none⟩ = some (.int .i64 0) := H2.out.c2
        have e3 := H2.out.free 2
        have e4 : (w2.setCell ⟨g, 2, none⟩ (.int .i64 1)).cell? ⟨g, 2, none⟩ = some (.int .i64 1) := (H2.out.set2 1).c2
        go_wp2_with fail
        go_ret2
        exact ⟨rfl, H2.out.set2 1, grown_setc G2.out ⟨g, 2, none⟩ rfl _⟩
  · rw [decide_eq_false hln, if_neg hln]
    have hlt : ¬ B c < 128 := by unfold B; omega
    have HLN := Lib.hid hln; clear hln
    by_cases h9 : t = 9
    · exfalso; have := HLN.out; omega
    · have f10 : ((t : Int) + 1 == 10) = false := by rw [beq_eq_false_iff_ne]; omega
      by_cases h0 : t = 0
      · have ht0 : ¬ (1 : Int) < t + 1 := by omega
        clear h9 h0 hc1 hc2
        go_enter Try.func120, Try.ntmps120
        go_upto_region 10 with (fail)
        go_region
        rw [HV.out]
        generalize ((w.setCell ⟨g, 1, none⟩ (.int .i64 ((t : Int) + 1))).setCell ⟨g, 0, none⟩ (.int .u64 ((n + c.toNat % 128 * 128 ^ t : Nat) : Int))).drew = w2 at *
        have e2 : w2.cell? ⟨g, 2, none⟩ = some (.int .i64 0) := H2.out.c2
        have e3 := H2.out.free 2
        have e4 : (w2.setCell ⟨g, 2, none⟩ (.int .i64 1)).cell? ⟨g, 2, none⟩ = some (.int .i64 1) := (H2.out.set2 1).c2
        go_wp2_with fail
        go_ret2
        exact ⟨rfl, H2.out, G2.out⟩
      · have ht0 : (1 : Int) < t + 1 := by omega
        have hcc : (B c == 0) = false := by rw [beq_eq_false_iff_ne]; unfold B; omega
        clear h9 h0 hc1 hc2
        go_enter Try.func120, Try.ntmps120
        go_upto_region 10 with (fail)
        go_region
        rw [HV.out]
        generalize ((w.setCell ⟨g, 1, none⟩ (.int .i64 ((t : Int) + 1))).setCell ⟨g, 0, none⟩ (.int .u64 ((n + c.toNat % 128 * 128 ^ t : Nat) : Int))).drew = w2 at *
        have e2 : w2.cell? ⟨g, 2, none⟩ = some (.int .i64 0) := H2.out.c2
        have e3 := H2.out.free 2
        have e4 : (w2.setCell ⟨g, 2, none⟩ (.int .i64 1)).cell? ⟨g, 2, none⟩ = some (.int .i64 1) := (H2.out.set2 1).c2
        go_wp2_with fail
        go_ret2
        exact ⟨rfl, H2.out, G2.out⟩
end Go.Proofs.Ytljcogimeimknaa
/- The program's taker of numbers: what it answers, as one function of how it stands: contracts of Take and Number. Conditions as in the contracts of Take. -/
namespace Go.Proofs.Ytljcogimeimknaa
open Go.RowKit
set_option maxRecDepth 100000
set_option linter.unusedVariables false

theorem new_any (w : World) :
    Calls Try.prog 119 #[] w fun e w' => e = .returned (.pointer (some ⟨w.heap.size, 0, none⟩)) ∧ Tk w' w.heap.size 0 0 0 ∧ Below w.heap.size w w' := by
  go_enter Try.func119, Try.ntmps119
  go_wp2_with fail
  go_ret
  exact ⟨rfl, heap_new w _, (Below.refl _ _).alloc (Nat.le_refl _) _⟩
theorem number_no (g n t s : Nat) (w : World) (hs : s ≠ 1) (h : Tk w g n t s) :
    Calls Try.prog 121 #[.pointer (some ⟨g, 0, none⟩)] w fun e w' => e = .returned (.tuple #[.int .u64 0, .bool false]) ∧ w = w' := by
  have c2 := h.c2
  have f1 : ((s : Int) != 1) = true := by rw [bne_iff_ne]; omega
  have HH := Lib.hid h; clear h
  go_enter Try.func121, Try.ntmps121
  go_wp2_with fail
  go_ret2
  exact ⟨rfl, rfl⟩
theorem number_yes (g n t : Nat) (w : World) (h : Tk w g n t 1) :
    Calls Try.prog 121 #[.pointer (some ⟨g, 0, none⟩)] w fun e w' => e = .returned (.tuple #[.int .u64 n, .bool true]) ∧ w = w' := by
  have c2 : w.cell? ⟨g, 2, none⟩ = some (.int .i64 1) := h.c2
  have c0 := h.c0
  have HH := Lib.hid h; clear h
  go_enter Try.func121, Try.ntmps121
  go_wp2_with fail
  go_ret2
  exact ⟨rfl, rfl⟩
/-- how a taker stands that has taken bs: it goes on, holding n; it is whole and n is the number; it has refused -/
def Inv (bs : List UInt8) (n s : Nat) : Prop :=
  (s = 0 ∧ bs.length ≤ 9 ∧ n < 128 ^ bs.length ∧ ∀ r, rd (bs ++ r) 0 0 = rd r bs.length n) ∨ (s = 1 ∧ bs.length ≤ 10 ∧ rd bs 0 0 = (n, bs.length, 0)) ∨ (s = 2 ∧ bs.length ≤ 10)
/-- Take: whether the number is whole, the error; the number, the state, the bytes behind it -/
def tq (s n : Nat) (bs : List UInt8) (c : UInt8) : Bool × Nat × Nat × Nat × List UInt8 :=
  if s ≠ 0 then (false, 1, n, s, bs) else if bs.length = 9 ∧ 1 < c.toNat then (false, 12, n, 2, bs ++ [c]) else if 0 < bs.length ∧ c.toNat = 0 then (false, 13, n, 2, bs ++ [c])
  else (decide (c.toNat < 128), 0, n + c.toNat % 128 * 128 ^ bs.length, (if c.toNat < 128 then 1 else 0), bs ++ [c])
theorem Inv.start : Inv [] 0 0 := .inl ⟨rfl, by simp, by decide, fun r => rfl⟩
theorem Inv.len {bs : List UInt8} {n s : Nat} (h : Inv bs n s) : bs.length ≤ 10 := by rcases h with h | h | h <;> omega
theorem Inv.small {bs : List UInt8} {n s : Nat} (h : Inv bs n s) (hs : s = 1) : (rd bs 0 0).1 = n := by
  rcases h with h | h | h
  · omega
  · rw [h.2.2]
  · omega
theorem Inv.step {bs : List UInt8} {n s : Nat} (h : Inv bs n s) (c : UInt8) {d : Bool} {er n2 s2 : Nat} {b2 : List UInt8} (hq : tq s n bs c = (d, er, n2, s2, b2)) : Inv b2 n2 s2 := by
  unfold tq at hq
  by_cases hs : s ≠ 0
  · rw [if_pos hs] at hq; cases hq; exact h
  · rw [if_neg hs] at hq
    have hs : s = 0 := by omega
    obtain ⟨_, h9, hn, hr⟩ : s = 0 ∧ bs.length ≤ 9 ∧ n < 128 ^ bs.length ∧ ∀ r, rd (bs ++ r) 0 0 = rd r bs.length n := by
      rcases h with h | h | h
      · exact h
      · omega
      · omega
    have hl : (bs ++ [c]).length = bs.length + 1 := by simp
    by_cases c1 : bs.length = 9 ∧ 1 < c.toNat
    · rw [if_pos c1] at hq; cases hq; exact .inr (.inr ⟨rfl, by omega⟩)
    · rw [if_neg c1] at hq
      by_cases c2 : 0 < bs.length ∧ c.toNat = 0
      · rw [if_pos c2] at hq; cases hq; exact .inr (.inr ⟨rfl, by omega⟩)
      · rw [if_neg c2] at hq
        by_cases c3 : c.toNat < 128
        · rw [if_pos c3] at hq; cases hq
          refine .inr (.inl ⟨rfl, by omega, ?_⟩)
          rw [hr, rd_last c1 c2 c3, hl]
        · rw [if_neg c3] at hq; cases hq
          refine .inl ⟨rfl, ?_, ?_, fun r => ?_⟩
          · rw [hl]; have : bs.length ≠ 9 := fun e => c1 ⟨e, by omega⟩; omega
          · rw [hl]; exact go_small hn
          · rw [List.append_assoc, hr]
            show rd (c :: r) _ _ = _
            rw [rd_go c1 c2 c3, hl]
theorem ptake_any (g n s : Nat) (bs : List UInt8) (c : UInt8) (w : World) (d : Bool) (er n2 s2 : Nat) (b2 : List UInt8) (hq : tq s n bs c = (d, er, n2, s2, b2)) (hi : Inv bs n s) (h : Tk w g n bs.length s) :
    Calls Try.prog 120 #[.pointer (some ⟨g, 0, none⟩), .int .u8 (B c)] w fun e w' => e = .returned (.tuple #[.bool d, .int .i64 er]) ∧ Tk w' g n2 b2.length s2 ∧ w.grownBy w' (some g) := by
  unfold tq at hq
  by_cases hs : s ≠ 0
  · rw [if_pos hs] at hq; cases hq
    refine (take_no g _ _ _ c w hs h).mono ?_
    rintro e w' ⟨rfl, rfl⟩
    exact ⟨rfl, h, World.grownBy.refl _ _⟩
  · rw [if_neg hs] at hq
    obtain rfl : s = 0 := by omega
    obtain ⟨_, h9, hn, hr⟩ : 0 = 0 ∧ bs.length ≤ 9 ∧ n < 128 ^ bs.length ∧ ∀ r, rd (bs ++ r) 0 0 = rd r bs.length n := by
      rcases hi with h | h | h
      · exact h
      · omega
      · omega
    have hl : (bs ++ [c]).length = bs.length + 1 := by simp
    by_cases c1 : bs.length = 9 ∧ 1 < c.toNat
    · rw [if_pos c1] at hq; cases hq
      rw [hl]; rw [c1.1] at h ⊢
      refine (take_long g _ c w c1.2 h).mono ?_
      rintro e w' ⟨rfl, h2, h3⟩
      exact ⟨rfl, h2, h3⟩
    · rw [if_neg c1] at hq
      by_cases c2 : 0 < bs.length ∧ c.toNat = 0
      · rw [if_pos c2] at hq; cases hq
        rw [hl]
        refine (take_form g _ _ c w c2.1 h9 c2.2 h).mono ?_
        rintro e w' ⟨rfl, h2, h3⟩
        exact ⟨rfl, h2, h3⟩
      · rw [if_neg c2] at hq; cases hq
        rw [hl]
        refine (take_go g _ _ c w h9 c1 c2 hn h).mono ?_
        rintro e w' ⟨rfl, h2, h3⟩
        exact ⟨rfl, h2, h3⟩
/-- Number: what it says -/
def nv (s n : Nat) : Nat := if s = 1 then n else 0
theorem pnumber_any (g n t s : Nat) (w : World) (h : Tk w g n t s) :
    Calls Try.prog 121 #[.pointer (some ⟨g, 0, none⟩)] w fun e w' => e = .returned (.tuple #[.int .u64 (nv s n : Nat), .bool (decide (s = 1))]) ∧ w = w' := by
  unfold nv
  by_cases hs : s = 1
  · subst hs; exact number_yes g n t w h
  · rw [if_neg hs, decide_eq_false hs]; exact number_no g n t s w hs h
end Go.Proofs.Ytljcogimeimknaa
/- An In and an Out, over readers and writers of any make: plain words. No condition. -/
namespace Go.Proofs.Ytljcogimeimknaa
set_option linter.unusedVariables false

/-- an In: its reader, how many bytes were moved, the error, the idle calls, the byte held -/
structure CIn (σ : Type) where
  s : σ
  pl : Nat
  er : Int
  idle : Nat
  held : List UInt8
/-- how many are asked for in one call -/
def askN (n k : Nat) : Nat := min (n - k) 4096
section
variable {σ : Type} (R : Rm σ)
/-- the bytes behind a call -/
def tkB (s : σ) (b : List UInt8) (n : Nat) : List UInt8 := b ++ (R.lay s (askN n b.length)).take (R.num s (askN n b.length)).toNat
/-- the idle calls behind a call -/
def tkI (s : σ) (i m : Nat) : Nat := waitN i (decide (0 < R.num s m) || decide (R.er s m ≠ 0))
/-- n bytes are taken: what came, the error, the reader, the idle calls -/
def tk : Nat → σ → Nat → List UInt8 → Nat → List UInt8 × Int × σ × Nat
  | 0, s, i, b, n => (b, 0, s, i)
  | F + 1, s, i, b, n =>
    if n ≤ b.length then (b, 0, s, i)
    else if R.num s (askN n b.length) < 0 ∨ (askN n b.length : Int) < R.num s (askN n b.length) then ([], 34, R.nxt s (askN n b.length), i)
    else if (tkB R s b n).length = n then (tkB R s b n, 0, R.nxt s (askN n b.length), tkI R s i (askN n b.length))
    else if R.er s (askN n b.length) = 31 then ([], 41, R.nxt s (askN n b.length), tkI R s i (askN n b.length))
    else if R.er s (askN n b.length) ≠ 0 then ([], R.er s (askN n b.length), R.nxt s (askN n b.length), tkI R s i (askN n b.length))
    else if tkI R s i (askN n b.length) = 16 then ([], 33, R.nxt s (askN n b.length), 16)
    else tk F (R.nxt s (askN n b.length)) (tkI R s i (askN n b.length)) (tkB R s b n) n
section
variable {R} {F n i m : Nat} {s : σ} {b : List UInt8}
theorem tk_has (h : n ≤ b.length) : tk R F s i b n = (b, 0, s, i) := by
  cases F with
  | zero => rfl
  | succ F => unfold tk; rw [if_pos h]
theorem tk_bad (h : ¬ n ≤ b.length) (hm : askN n b.length = m) (hb : R.num s m < 0 ∨ (m : Int) < R.num s m) : tk R (F + 1) s i b n = ([], 34, R.nxt s m, i) := by
  subst hm; unfold tk; rw [if_neg h, if_pos hb]
theorem tk_full (h : ¬ n ≤ b.length) (hm : askN n b.length = m) (hb : ¬ (R.num s m < 0 ∨ (m : Int) < R.num s m)) (hl : (tkB R s b n).length = n) : tk R (F + 1) s i b n = (tkB R s b n, 0, R.nxt s m, tkI R s i m) := by
  subst hm; unfold tk; rw [if_neg h, if_neg hb, if_pos hl]
theorem tk_end (h : ¬ n ≤ b.length) (hm : askN n b.length = m) (hb : ¬ (R.num s m < 0 ∨ (m : Int) < R.num s m)) (hl : (tkB R s b n).length ≠ n) (he : R.er s m = 31) : tk R (F + 1) s i b n = ([], 41, R.nxt s m, tkI R s i m) := by
  subst hm; unfold tk; rw [if_neg h, if_neg hb, if_neg hl, if_pos he]
theorem tk_err (h : ¬ n ≤ b.length) (hm : askN n b.length = m) (hb : ¬ (R.num s m < 0 ∨ (m : Int) < R.num s m)) (hl : (tkB R s b n).length ≠ n) (he : R.er s m ≠ 31) (h0 : R.er s m ≠ 0) : tk R (F + 1) s i b n = ([], R.er s m, R.nxt s m, tkI R s i m) := by
  subst hm; unfold tk; rw [if_neg h, if_neg hb, if_neg hl, if_neg he, if_pos h0]
theorem tk_idle (h : ¬ n ≤ b.length) (hm : askN n b.length = m) (hb : ¬ (R.num s m < 0 ∨ (m : Int) < R.num s m)) (hl : (tkB R s b n).length ≠ n) (h0 : R.er s m = 0) (hi : tkI R s i m = 16) : tk R (F + 1) s i b n = ([], 33, R.nxt s m, 16) := by
  subst hm; unfold tk; rw [if_neg h, if_neg hb, if_neg hl, if_neg (by rw [h0]; decide), if_neg (by simpa using h0), if_pos hi]
theorem tk_go (h : ¬ n ≤ b.length) (hm : askN n b.length = m) (hb : ¬ (R.num s m < 0 ∨ (m : Int) < R.num s m)) (hl : (tkB R s b n).length ≠ n) (h0 : R.er s m = 0) (hi : tkI R s i m ≠ 16) : tk R (F + 1) s i b n = tk R F (R.nxt s m) (tkI R s i m) (tkB R s b n) n := by
  subst hm
  conv => lhs; unfold tk
  rw [if_neg h, if_neg hb, if_neg hl, if_neg (by rw [h0]; decide), if_neg (by simpa using h0), if_neg hi]
theorem tkB_len (hm : askN n b.length = m) (hb : ¬ (R.num s m < 0 ∨ (m : Int) < R.num s m)) : (tkB R s b n).length = b.length + (R.num s m).toNat := by
  subst hm
  unfold tkB
  rw [List.length_append, List.length_take]
  have := R.layE s (askN n b.length) (by omega) (by omega)
  omega
theorem tkI_le (hi : i ≤ 15) : tkI R s i m ≤ 16 := by
  unfold tkI waitN; split <;> omega
end
/-- n bytes are asked for -/
def bytesM (most n : Int) (c : CIn σ) : List UInt8 × Int × CIn σ :=
  if c.er ≠ 0 then ([], c.er, c)
  else if n < 0 then ([], 1, c)
  else if most - c.pl < n then ([], 42, { c with er := 42 })
  else if n = 0 then ([], 0, c)
  else if (tk R (R.mu c.s * 17 + 17) c.s c.idle c.held n.toNat).2.1 = 0 then
    ((tk R (R.mu c.s * 17 + 17) c.s c.idle c.held n.toNat).1, 0, ⟨(tk R (R.mu c.s * 17 + 17) c.s c.idle c.held n.toNat).2.2.1, c.pl + n.toNat, 0, (tk R (R.mu c.s * 17 + 17) c.s c.idle c.held n.toNat).2.2.2, []⟩)
  else ([], (tk R (R.mu c.s * 17 + 17) c.s c.idle c.held n.toNat).2.1, ⟨(tk R (R.mu c.s * 17 + 17) c.s c.idle c.held n.toNat).2.2.1, c.pl, (tk R (R.mu c.s * 17 + 17) c.s c.idle c.held n.toNat).2.1, (tk R (R.mu c.s * 17 + 17) c.s c.idle c.held n.toNat).2.2.2, []⟩)
def byteM (most : Int) (c : CIn σ) : UInt8 × Int × CIn σ := ((bytesM R most 1 c).1.headD 0, (bytesM R most 1 c).2.1, (bytesM R most 1 c).2.2)
/-- a number: the taker stands at (n, s), having taken bs; at0: where it began -/
def numG (most : Int) (at0 : Nat) : Nat → CIn σ → Nat → Nat → List UInt8 → Nat × Int × CIn σ
  | 0, c, n, s, bs => (0, 0, c)
  | F + 1, c, n, s, bs =>
    if (byteM R most c).2.1 ≠ 0 then (0, (byteM R most c).2.1, { (byteM R most c).2.2 with pl := at0 })
    else if (tq s n bs (byteM R most c).1).2.1 ≠ 0 then (0, (tq s n bs (byteM R most c).1).2.1, { (byteM R most c).2.2 with pl := at0, er := (tq s n bs (byteM R most c).1).2.1 })
    else if (tq s n bs (byteM R most c).1).1 then ((tq s n bs (byteM R most c).1).2.2.1, 0, (byteM R most c).2.2)
    else numG most at0 F (byteM R most c).2.2 (tq s n bs (byteM R most c).1).2.2.1 (tq s n bs (byteM R most c).1).2.2.2.1 (tq s n bs (byteM R most c).1).2.2.2.2
def numM (most : Int) (c : CIn σ) : Nat × Int × CIn σ := numG R most c.pl 11 c 0 0 []
def endM (c : CIn σ) : Bool × Int × CIn σ :=
  if c.er ≠ 0 then (false, c.er, c)
  else if c.held ≠ [] then (false, 0, c)
  else if (tk R (R.mu c.s * 17 + 17) c.s c.idle [] 1).2.1 = 0 then (false, 0, ⟨(tk R (R.mu c.s * 17 + 17) c.s c.idle [] 1).2.2.1, c.pl, 0, (tk R (R.mu c.s * 17 + 17) c.s c.idle [] 1).2.2.2, (tk R (R.mu c.s * 17 + 17) c.s c.idle [] 1).1⟩)
  else if (tk R (R.mu c.s * 17 + 17) c.s c.idle [] 1).2.1 = 41 then (true, 0, ⟨(tk R (R.mu c.s * 17 + 17) c.s c.idle [] 1).2.2.1, c.pl, 0, (tk R (R.mu c.s * 17 + 17) c.s c.idle [] 1).2.2.2, []⟩)
  else (false, (tk R (R.mu c.s * 17 + 17) c.s c.idle [] 1).2.1, ⟨(tk R (R.mu c.s * 17 + 17) c.s c.idle [] 1).2.2.1, c.pl, (tk R (R.mu c.s * 17 + 17) c.s c.idle [] 1).2.1, (tk R (R.mu c.s * 17 + 17) c.s c.idle [] 1).2.2.2, []⟩)
end
section
variable {τ : Type} (V : Wm τ)
end
end Go.Proofs.Ytljcogimeimknaa
/- An In over a reader of any make: what its answers leave: plain laws. No condition. -/
namespace Go.Proofs.Ytljcogimeimknaa
set_option linter.unusedVariables false

section
variable {σ : Type} {R : Rm σ}
theorem tkI_er {s : σ} {i m : Nat} (h : R.er s m ≠ 0) : tkI R s i m = 0 := by unfold tkI; simp [h, waitN]
theorem tkI_mv {s : σ} {i m : Nat} (h : 0 < R.num s m) : tkI R s i m = 0 := by unfold tkI; simp [h, waitN]
theorem tkI_no {s : σ} {i m : Nat} (h : ¬ 0 < R.num s m) (he : R.er s m = 0) : tkI R s i m = i + 1 := by unfold tkI; simp [h, he, waitN]
/-- what taking leaves -/
theorem tk_sum (hmu : ∀ s n, R.mu (R.nxt s n) ≤ R.mu s) : ∀ (F : Nat) (s : σ) (i : Nat) (b : List UInt8) (n : Nat), i ≤ 15 → b.length ≤ n → (n ≤ b.length ∨ R.mu s * 17 + 16 - i < F) →
    ((tk R F s i b n).2.1 = 0 → (tk R F s i b n).1.length = n ∧ (tk R F s i b n).2.2.2 ≤ 15) ∧ ((tk R F s i b n).2.1 ≠ 0 → (tk R F s i b n).1 = []) ∧ ((tk R F s i b n).2.1 = 41 → (tk R F s i b n).2.2.2 ≤ 15) ∧
      R.cnt (tk R F s i b n).2.2.1 + R.mu (tk R F s i b n).2.2.1 * 17 + i ≤ R.cnt s + R.mu s * 17 + (tk R F s i b n).2.2.2 + 16 ∧ (tk R F s i b n).2.2.2 ≤ 16
  | 0, s, i, b, n, hi, hb, hf => by
    have hn : n ≤ b.length := by omega
    rw [tk_has hn]
    dsimp only
    exact ⟨fun _ => ⟨by show b.length = n; omega, hi⟩, fun h => absurd rfl h, fun h => absurd h (by decide), by show _ ≤ R.cnt s + R.mu s * 17 + i + 16; omega, by show i ≤ 16; omega⟩
  | F + 1, s, i, b, n, hi, hb, hf => by
    by_cases hn : n ≤ b.length
    · rw [tk_has hn]
      dsimp only
      exact ⟨fun _ => ⟨by show b.length = n; omega, hi⟩, fun h => absurd rfl h, fun h => absurd h (by decide), by show _ ≤ R.cnt s + R.mu s * 17 + i + 16; omega, by show i ≤ 16; omega⟩
    obtain ⟨m, hm⟩ : ∃ m, askN n b.length = m := ⟨_, rfl⟩
    have hmu' := hmu s m
    have hc := R.cntS s m
    by_cases hbad : R.num s m < 0 ∨ (m : Int) < R.num s m
    · rw [tk_bad hn hm hbad]
      dsimp only
      exact ⟨fun h => absurd h (by decide), fun _ => rfl, fun h => absurd h (by decide), by show R.cnt (R.nxt s m) + R.mu (R.nxt s m) * 17 + i ≤ R.cnt s + R.mu s * 17 + i + 16; omega, by show i ≤ 16; omega⟩
    have hl := tkB_len (n := n) hm hbad
    have hmn : m ≤ n - b.length := by rw [← hm]; unfold askN; omega
    by_cases hfull : (tkB R s b n).length = n
    · have hk : 0 < R.num s m := by omega
      rw [tk_full hn hm hbad hfull, tkI_mv hk]
      dsimp only
      exact ⟨fun _ => ⟨hfull, Nat.zero_le _⟩, fun h => absurd rfl h, fun h => absurd h (by decide), by show R.cnt (R.nxt s m) + R.mu (R.nxt s m) * 17 + i ≤ R.cnt s + R.mu s * 17 + 0 + 16; omega, Nat.zero_le _⟩
    by_cases h31 : R.er s m = 31
    · have h0 : R.er s m ≠ 0 := by omega
      rw [tk_end hn hm hbad hfull h31, tkI_er h0]
      dsimp only
      exact ⟨fun h => absurd h (by decide), fun _ => rfl, fun _ => Nat.zero_le _, by show R.cnt (R.nxt s m) + R.mu (R.nxt s m) * 17 + i ≤ R.cnt s + R.mu s * 17 + 0 + 16; omega, Nat.zero_le _⟩
    by_cases h0 : R.er s m = 0
    · by_cases h16 : tkI R s i m = 16
      · rw [tk_idle hn hm hbad hfull h0 h16]
        dsimp only
        exact ⟨fun h => absurd h (by decide), fun _ => rfl, fun h => absurd h (by decide), by show R.cnt (R.nxt s m) + R.mu (R.nxt s m) * 17 + i ≤ R.cnt s + R.mu s * 17 + 16 + 16; omega, Nat.le_refl _⟩
      · rw [tk_go hn hm hbad hfull h0 h16]
        have hle := tkI_le (R := R) (s := s) (m := m) hi
        by_cases hk : 0 < R.num s m
        · have hs := R.muL s m h0 hk (by omega)
          have hz := tkI_mv (i := i) hk
          obtain ⟨q1, q2, q3, q4, q5⟩ := tk_sum hmu F (R.nxt s m) (tkI R s i m) (tkB R s b n) n (by omega) (by omega) (.inr (by omega))
          exact ⟨q1, q2, q3, by omega, q5⟩
        · have hs := R.muE s m h0
          have hz := tkI_no (i := i) hk h0
          obtain ⟨q1, q2, q3, q4, q5⟩ := tk_sum hmu F (R.nxt s m) (tkI R s i m) (tkB R s b n) n (by omega) (by omega) (.inr (by omega))
          exact ⟨q1, q2, q3, by omega, q5⟩
    · rw [tk_err hn hm hbad hfull h31 h0, tkI_er h0]
      dsimp only
      exact ⟨fun h => absurd h h0, fun _ => rfl, fun _ => Nat.zero_le _, by show R.cnt (R.nxt s m) + R.mu (R.nxt s m) * 17 + i ≤ R.cnt s + R.mu s * 17 + 0 + 16; omega, Nat.zero_le _⟩
/-- what a reader's calls keep, taking keeps -/
theorem tk_inv {P : σ → Prop} (hP : ∀ s n, P s → P (R.nxt s n)) : ∀ (F : Nat) (s : σ) (i : Nat) (b : List UInt8) (n : Nat), P s → P (tk R F s i b n).2.2.1
  | 0, s, i, b, n, h => h
  | F + 1, s, i, b, n, h => by
    unfold tk
    split
    · exact h
    split
    · exact hP _ _ h
    split
    · exact hP _ _ h
    split
    · exact hP _ _ h
    split
    · exact hP _ _ h
    split
    · exact hP _ _ h
    · exact tk_inv hP F _ _ _ _ (hP _ _ h)
/-- an In that stands rightly: its budget of calls is Bd -/
structure OkayC (R : Rm σ) (P : σ → Prop) (most : Int) (Bd : Nat) (c : CIn σ) : Prop where
  idle : c.er = 0 → c.idle ≤ 15
  id2 : c.idle ≤ 16
  pl : (c.pl : Int) ≤ most
  held : c.held.length ≤ 1
  p : P c.s
  bud : R.cnt c.s + R.mu c.s * 17 ≤ Bd
theorem OkayC.mono {P : σ → Prop} {most : Int} {Bd Bd' : Nat} {c : CIn σ} (h : OkayC R P most Bd c) (hb : Bd ≤ Bd') : OkayC R P most Bd' c := { h with bud := Nat.le_trans h.bud hb }
/-- taking, a byte held or none -/
def tkH (R : Rm σ) (s : σ) (i : Nat) (held : List UInt8) (n : Nat) : List UInt8 × Int × σ × Nat × List UInt8 :=
  if n = 0 then ([], 0, s, i, held)
  else ((tk R (R.mu s * 17 + 17) s i held n).1, (tk R (R.mu s * 17 + 17) s i held n).2.1, (tk R (R.mu s * 17 + 17) s i held n).2.2.1, (tk R (R.mu s * 17 + 17) s i held n).2.2.2, [])
theorem tkH_sum (hmu : ∀ s n, R.mu (R.nxt s n) ≤ R.mu s) {P : σ → Prop} (hP : ∀ s n, P s → P (R.nxt s n)) {s : σ} {i : Nat} {held : List UInt8} {n : Nat} (hi : i ≤ 15) (hh : held.length ≤ 1) (hp : P s) {b : List UInt8} {e : Int} {s' : σ} {i' : Nat} {hd : List UInt8} (hX : tkH R s i held n = (b, e, s', i', hd)) :
    (e = 0 → b.length = n ∧ i' ≤ 15) ∧ (e ≠ 0 → b = []) ∧ (e = 41 → i' ≤ 15) ∧ R.cnt s' + R.mu s' * 17 ≤ R.cnt s + R.mu s * 17 + 32 ∧ i' ≤ 16 ∧ hd.length ≤ 1 ∧ P s' := by
  unfold tkH at hX
  by_cases hn : n = 0
  · subst hn
    rw [if_pos rfl] at hX
    simp only [Prod.mk.injEq] at hX
    obtain ⟨rfl, rfl, rfl, rfl, rfl⟩ := hX
    exact ⟨fun _ => ⟨rfl, hi⟩, fun h => absurd rfl h, fun _ => hi, by omega, by omega, hh, hp⟩
  · rw [if_neg hn] at hX
    simp only [Prod.mk.injEq] at hX
    obtain ⟨rfl, rfl, rfl, rfl, rfl⟩ := hX
    obtain ⟨q1, q2, q3, q4, q5⟩ := tk_sum hmu (R.mu s * 17 + 17) s i held n hi (by omega) (.inr (by omega))
    exact ⟨q1, q2, q3, by omega, q5, Nat.zero_le _, tk_inv hP _ _ _ _ _ hp⟩
section
variable {most n : Int} {c : CIn σ}
theorem bytes_er (h : c.er ≠ 0) : bytesM R most n c = ([], c.er, c) := by unfold bytesM; rw [if_pos h]
theorem bytes_neg (h : c.er = 0) (hn : n < 0) : bytesM R most n c = ([], 1, c) := by unfold bytesM; rw [if_neg (by simpa using h), if_pos hn]
theorem bytes_most (h : c.er = 0) (hn : ¬ n < 0) (hm : most - c.pl < n) : bytesM R most n c = ([], 42, { c with er := 42 }) := by unfold bytesM; rw [if_neg (by simpa using h), if_neg hn, if_pos hm]
theorem bytes_take (h : c.er = 0) (hn : ¬ n < 0) (hm : ¬ most - c.pl < n) {b : List UInt8} {e : Int} {s' : σ} {i' : Nat} {hd : List UInt8} (hX : tkH R c.s c.idle c.held n.toNat = (b, e, s', i', hd)) :
    bytesM R most n c = if e = 0 then (b, 0, ⟨s', c.pl + n.toNat, 0, i', hd⟩) else ([], e, ⟨s', c.pl, e, i', hd⟩) := by
  unfold bytesM
  rw [if_neg (by simpa using h), if_neg hn, if_neg hm]
  unfold tkH at hX
  by_cases h0 : n = 0
  · subst h0
    rw [if_pos (by rfl)] at hX
    simp only [Prod.mk.injEq] at hX
    obtain ⟨rfl, rfl, rfl, rfl, rfl⟩ := hX
    rw [if_pos rfl, if_pos rfl]
    obtain ⟨s, pl, er, idle, held⟩ := c
    simp only at h
    subst h
    rfl
  · rw [if_neg (by omega)] at hX
    simp only [Prod.mk.injEq] at hX
    obtain ⟨rfl, rfl, rfl, rfl, rfl⟩ := hX
    rw [if_neg h0]
variable {P : σ → Prop} {Bd : Nat}
theorem OkayC.bytes (hmu : ∀ s n, R.mu (R.nxt s n) ≤ R.mu s) (hP : ∀ s n, P s → P (R.nxt s n)) (h : OkayC R P most Bd c) : OkayC R P most (Bd + 32) (bytesM R most n c).2.2 ∧ ((bytesM R most n c).2.1 = 0 → 0 ≤ n ∧ (bytesM R most n c).1.length = n.toNat) ∧ ((bytesM R most n c).2.1 ≠ 0 → (bytesM R most n c).1 = []) := by
  by_cases he : c.er ≠ 0
  · rw [bytes_er he]; exact ⟨h.mono (by omega), fun e => absurd e he, fun _ => rfl⟩
  have he : c.er = 0 := by simpa using he
  by_cases hn : n < 0
  · rw [bytes_neg he hn]; dsimp only; exact ⟨h.mono (by omega), fun e => absurd e (by decide), fun _ => rfl⟩
  by_cases hm : most - c.pl < n
  · rw [bytes_most he hn hm]
    dsimp only
    exact ⟨{ idle := fun (e : (42 : Int) = 0) => absurd e (by decide), id2 := h.id2, pl := h.pl, held := h.held, p := h.p, bud := by have := h.bud; show R.cnt c.s + R.mu c.s * 17 ≤ _; omega }, fun e => absurd e (by decide), fun _ => rfl⟩
  obtain ⟨⟨b, e, s', i', hd⟩, hX⟩ : ∃ X, tkH R c.s c.idle c.held n.toNat = X := ⟨_, rfl⟩
  obtain ⟨q1, q2, q3, q4, q5, q6, q7⟩ := tkH_sum hmu hP (h.idle he) h.held h.p hX
  rw [bytes_take he hn hm hX]
  have hb := h.bud
  have hpl := h.pl
  by_cases h0 : e = 0
  · rw [if_pos h0]
    exact ⟨{ idle := fun _ => (q1 h0).2, id2 := q5, pl := by show ((c.pl + n.toNat : Nat) : Int) ≤ most; omega, held := q6, p := q7, bud := by show R.cnt s' + R.mu s' * 17 ≤ _; omega }, fun _ => ⟨by omega, (q1 h0).1⟩, fun e => absurd rfl e⟩
  · rw [if_neg h0]
    exact ⟨{ idle := fun x => absurd x h0, id2 := q5, pl := h.pl, held := q6, p := q7, bud := by show R.cnt s' + R.mu s' * 17 ≤ _; omega }, fun x => absurd x h0, fun _ => rfl⟩
theorem OkayC.byte (hmu : ∀ s n, R.mu (R.nxt s n) ≤ R.mu s) (hP : ∀ s n, P s → P (R.nxt s n)) (h : OkayC R P most Bd c) : OkayC R P most (Bd + 32) (byteM R most c).2.2 := (h.bytes (n := 1) hmu hP).1
theorem OkayC.numG (hmu : ∀ s n, R.mu (R.nxt s n) ≤ R.mu s) (hP : ∀ s n, P s → P (R.nxt s n)) {at0 : Nat} (ha : (at0 : Int) ≤ most) : ∀ (F : Nat) (Bd : Nat) (c : CIn σ) (v s : Nat) (bs : List UInt8), OkayC R P most Bd c → OkayC R P most (Bd + 32 * F) (numG R most at0 F c v s bs).2.2
  | 0, Bd, c, v, s, bs, h => h.mono (by omega)
  | F + 1, Bd, c, v, s, bs, h => by
    have hb := h.byte hmu hP
    unfold Go.Proofs.Ytljcogimeimknaa.numG
    split
    · exact { idle := hb.idle, id2 := hb.id2, pl := ha, held := hb.held, p := hb.p, bud := by have := hb.bud; show R.cnt (byteM R most c).2.2.s + R.mu (byteM R most c).2.2.s * 17 ≤ _; omega }
    split
    · rename_i h2
      exact { idle := fun e => absurd e (by simpa using h2), id2 := hb.id2, pl := ha, held := hb.held, p := hb.p, bud := by have := hb.bud; show R.cnt (byteM R most c).2.2.s + R.mu (byteM R most c).2.2.s * 17 ≤ _; omega }
    split
    · exact hb.mono (by omega)
    · exact (OkayC.numG hmu hP ha F (Bd + 32) _ _ _ _ hb).mono (by omega)
theorem OkayC.num (hmu : ∀ s n, R.mu (R.nxt s n) ≤ R.mu s) (hP : ∀ s n, P s → P (R.nxt s n)) (h : OkayC R P most Bd c) : OkayC R P most (Bd + 352) (numM R most c).2.2 := OkayC.numG hmu hP h.pl 11 Bd c 0 0 [] h
theorem end_er (h : c.er ≠ 0) : endM R c = (false, c.er, c) := by unfold endM; rw [if_pos h]
theorem end_held (h : c.er = 0) (hh : c.held ≠ []) : endM R c = (false, 0, c) := by unfold endM; rw [if_neg (by simpa using h), if_pos hh]
theorem end_take (h : c.er = 0) (hh : c.held = []) {b : List UInt8} {e : Int} {s' : σ} {i' : Nat} (hX : tk R (R.mu c.s * 17 + 17) c.s c.idle [] 1 = (b, e, s', i')) :
    endM R c = if e = 0 then (false, 0, ⟨s', c.pl, 0, i', b⟩) else if e = 41 then (true, 0, ⟨s', c.pl, 0, i', []⟩) else (false, e, ⟨s', c.pl, e, i', []⟩) := by
  unfold endM; rw [if_neg (by simpa using h), if_neg (by simpa using hh), hX]
theorem OkayC.end' (hmu : ∀ s n, R.mu (R.nxt s n) ≤ R.mu s) (hP : ∀ s n, P s → P (R.nxt s n)) (h : OkayC R P most Bd c) : OkayC R P most (Bd + 32) (endM R c).2.2 := by
  by_cases he : c.er ≠ 0
  · rw [end_er he]; exact h.mono (by omega)
  have he : c.er = 0 := by simpa using he
  by_cases hh : c.held ≠ []
  · rw [end_held he hh]; exact h.mono (by omega)
  have hh : c.held = [] := by simpa using hh
  obtain ⟨⟨b, e, s', i'⟩, hX⟩ : ∃ X, tk R (R.mu c.s * 17 + 17) c.s c.idle [] 1 = X := ⟨_, rfl⟩
  have hs := tk_sum hmu (R.mu c.s * 17 + 17) c.s c.idle [] 1 (h.idle he) (by simp) (.inr (by omega))
  have hp := tk_inv hP (R.mu c.s * 17 + 17) c.s c.idle [] 1 h.p
  rw [hX] at hs hp
  obtain ⟨q1, q2, q3, q4, q5⟩ := hs
  dsimp only at q1 q2 q3 q4 q5 hp
  rw [end_take he hh hX]
  have hb := h.bud
  have hid := h.idle he
  by_cases h0 : e = 0
  · rw [if_pos h0]
    exact { idle := fun _ => (q1 h0).2, id2 := q5, pl := h.pl, held := by show b.length ≤ 1; rw [(q1 h0).1]; exact Nat.le_refl _, p := hp, bud := by show R.cnt s' + R.mu s' * 17 ≤ _; omega }
  · rw [if_neg h0]
    by_cases h41 : e = 41
    · rw [if_pos h41]
      exact { idle := fun _ => q3 h41, id2 := q5, pl := h.pl, held := Nat.zero_le _, p := hp, bud := by show R.cnt s' + R.mu s' * 17 ≤ _; omega }
    · rw [if_neg h41]
      exact { idle := fun x => absurd x h0, id2 := q5, pl := h.pl, held := Nat.zero_le _, p := hp, bud := by show R.cnt s' + R.mu s' * 17 ≤ _; omega }
end
end
end Go.Proofs.Ytljcogimeimknaa
/- What is read of bytes behind a text: plain words, no program. No condition. -/
namespace Go.Proofs.Ytljcogimeimknaa
set_option linter.unusedVariables false

/-- j numbers more behind l, from a place on: the numbers, where they end, the error -/
def pr3 (b : List UInt8) : Nat → List Nat → Nat → List Nat × Nat × Int
  | 0, l, a => (l, a, 0)
  | j + 1, l, a => if (rd (b.drop a) 0 0).2.2 = 0 then pr3 b j (l ++ [(rd (b.drop a) 0 0).1]) (a + (rd (b.drop a) 0 0).2.1) else ([], a + (rd (b.drop a) 0 0).2.1, (rd (b.drop a) 0 0).2.2)
theorem pr3_go {b : List UInt8} {j : Nat} {l : List Nat} {a v k : Nat} (h : rd (b.drop a) 0 0 = (v, k, 0)) : pr3 b (j + 1) l a = pr3 b j (l ++ [v]) (a + k) := by
  conv => lhs; unfold pr3
  rw [h]; rfl
theorem pr3_no {b : List UInt8} {j : Nat} {l : List Nat} {a v k : Nat} {e : Int} (h : rd (b.drop a) 0 0 = (v, k, e)) (he : e ≠ 0) : pr3 b (j + 1) l a = ([], a + k, e) := by
  conv => lhs; unfold pr3
  rw [h]; rw [if_neg he]
/-- the numbers being known -/
def pend (p b : List UInt8) (a s m l a3 : Nat) : Ent × Nat × Int :=
  if p.length < s then (([], []), a, 52) else if 64 < m ∨ 256 < l ∨ s + m = 0 ∨ 64 < s + m then (([], []), a, 3) else if b.length - a3 < m + l then (([], []), b.length, 53)
  else if com p (p.take s ++ (b.drop a3).take m) ≠ s then (([], []), a, 52) else if 0 < p.length ∧ 0 ≤ cmp p (p.take s ++ (b.drop a3).take m) then (([], []), a, 51)
  else ((p.take s ++ (b.drop a3).take m, (b.drop (a3 + m)).take l), a3 + m + l, 0)
/-- the entry, where it ends, the error -/
def pread (p b : List UInt8) (a : Nat) : Ent × Nat × Int :=
  if (pr3 b 3 [] a).2.2 = 0 then pend p b a ((pr3 b 3 [] a).1.getD 0 0) ((pr3 b 3 [] a).1.getD 1 0) ((pr3 b 3 [] a).1.getD 2 0) (pr3 b 3 [] a).2.1 else (([], []), (pr3 b 3 [] a).2.1, (pr3 b 3 [] a).2.2)
theorem pread_ok {p b : List UInt8} {a s m l a3 : Nat} (h : pr3 b 3 [] a = ([s, m, l], a3, 0)) : pread p b a = pend p b a s m l a3 := by unfold pread; rw [h]; rfl
theorem pread_no {p b : List UInt8} {a q : Nat} {e : Int} {x : List Nat} (h : pr3 b 3 [] a = (x, q, e)) (he : e ≠ 0) : pread p b a = (([], []), q, e) := by unfold pread; rw [h, if_neg he]
theorem pr3_ok {b : List UInt8} {a s j m k n i : Nat} (h0 : rd (b.drop a) 0 0 = (s, j, 0)) (h1 : rd (b.drop (a + j)) 0 0 = (m, k, 0)) (h2 : rd (b.drop (a + j + k)) 0 0 = (n, i, 0)) : pr3 b 3 [] a = ([s, m, n], a + j + k + i, 0) := by
  rw [pr3_go h0, pr3_go h1, pr3_go h2]; rfl
section
variable {p b : List UInt8} {a s m l a3 : Nat}
theorem pend_s (h : p.length < s) : pend p b a s m l a3 = (([], []), a, 52) := by unfold pend; rw [if_pos h]
theorem pend_long (h : ¬ p.length < s) (h2 : 64 < m ∨ 256 < l ∨ s + m = 0 ∨ 64 < s + m) : pend p b a s m l a3 = (([], []), a, 3) := by unfold pend; rw [if_neg h, if_pos h2]
theorem pend_short (h : ¬ p.length < s) (h2 : ¬ (64 < m ∨ 256 < l ∨ s + m = 0 ∨ 64 < s + m)) (h3 : b.length - a3 < m + l) : pend p b a s m l a3 = (([], []), b.length, 53) := by unfold pend; rw [if_neg h, if_neg h2, if_pos h3]
theorem pend_com (h : ¬ p.length < s) (h2 : ¬ (64 < m ∨ 256 < l ∨ s + m = 0 ∨ 64 < s + m)) (h3 : ¬ b.length - a3 < m + l) (h4 : com p (p.take s ++ (b.drop a3).take m) ≠ s) : pend p b a s m l a3 = (([], []), a, 52) := by
  unfold pend; rw [if_neg h, if_neg h2, if_neg h3, if_pos h4]
theorem pend_cmp (h : ¬ p.length < s) (h2 : ¬ (64 < m ∨ 256 < l ∨ s + m = 0 ∨ 64 < s + m)) (h3 : ¬ b.length - a3 < m + l) (h4 : com p (p.take s ++ (b.drop a3).take m) = s) (h5 : 0 < p.length ∧ 0 ≤ cmp p (p.take s ++ (b.drop a3).take m)) : pend p b a s m l a3 = (([], []), a, 51) := by
  unfold pend; rw [if_neg h, if_neg h2, if_neg h3, if_neg (fun e => e h4), if_pos h5]
theorem pend_ok (h : ¬ p.length < s) (h2 : ¬ (64 < m ∨ 256 < l ∨ s + m = 0 ∨ 64 < s + m)) (h3 : ¬ b.length - a3 < m + l) (h4 : com p (p.take s ++ (b.drop a3).take m) = s) (h5 : ¬ (0 < p.length ∧ 0 ≤ cmp p (p.take s ++ (b.drop a3).take m))) :
    pend p b a s m l a3 = ((p.take s ++ (b.drop a3).take m, (b.drop (a3 + m)).take l), a3 + m + l, 0) := by
  unfold pend; rw [if_neg h, if_neg h2, if_neg h3, if_neg (fun e => e h4), if_neg h5]
end
end Go.Proofs.Ytljcogimeimknaa
/- The numbers of bytes, one behind the other: plain words, no program. No condition. -/
namespace Go.Proofs.Ytljcogimeimknaa
set_option linter.unusedVariables false

/-- what is read is written just so -/
theorem rd_take : ∀ (l : List UInt8) (k v n j : Nat), rd l k v = (n, j, 0) → ∃ m i, n = v + m * 128 ^ k ∧ j = k + i ∧ i ≤ l.length ∧ l.take i = vb m ∧ (0 < k → 0 < m)
  | [], k, v, n, j, h => by simp [rd] at h
  | c :: r, k, v, n, j, h => by
    by_cases h1 : k = 9 ∧ 1 < c.toNat
    · rw [rd_long h1] at h; simp at h
    by_cases h2 : 0 < k ∧ c.toNat = 0
    · rw [rd_form h2] at h; simp at h
    have hc := c.toNat_lt
    by_cases h3 : c.toNat < 128
    · rw [rd_last h1 h2 h3] at h
      simp only [Prod.mk.injEq] at h
      obtain ⟨rfl, rfl, _⟩ := h
      refine ⟨c.toNat, 1, by rw [Nat.mod_eq_of_lt h3], rfl, by simp, ?_, by omega⟩
      rw [vb_lt h3]
      show [c] = [UInt8.ofNat c.toNat]
      rw [UInt8.ofNat_toNat]
    · rw [rd_go h1 h2 h3] at h
      obtain ⟨m, i, e1, e2, e3, e4, e5⟩ := rd_take r (k + 1) _ n j h
      have hm := e5 (by omega)
      have hd : (c.toNat % 128 + 128 * m) / 128 = m := by omega
      have hmod : (c.toNat % 128 + 128 * m) % 128 = c.toNat % 128 := by omega
      refine ⟨c.toNat % 128 + 128 * m, i + 1, ?_, by omega, by simp; omega, ?_, by omega⟩
      · rw [e1, Nat.pow_succ, Nat.add_mul, Nat.mul_comm 128 m, Nat.mul_assoc, Nat.mul_comm 128 (128 ^ k)]; omega
      · rw [vb_ge (by omega), hd, List.take_succ_cons, e4]
        congr 1
        unfold hi8
        rw [hmod, show c.toNat % 128 + 128 = c.toNat by omega, UInt8.ofNat_toNat]
theorem rd_vbs {l : List UInt8} {n j : Nat} (h : rd l 0 0 = (n, j, 0)) : j ≤ l.length ∧ l.take j = vb n ∧ j = (vb n).length := by
  obtain ⟨m, i, e1, e2, e3, e4, _⟩ := rd_take l 0 0 n j h
  obtain rfl : n = m := by rw [e1]; simp
  obtain rfl : j = i := by omega
  refine ⟨e3, e4, ?_⟩
  rw [← e4, List.length_take]; omega

/-- the places and the numbers from a place on, f at most -/
def numsF (b : List UInt8) : Nat → Nat → List (Nat × Nat)
  | 0, _ => []
  | f + 1, a => if a < b.length ∧ (rd (b.drop a) 0 0).2.2 = 0 then (a, (rd (b.drop a) 0 0).1) :: numsF b f (a + (rd (b.drop a) 0 0).2.1) else []
def nums (b : List UInt8) : List (Nat × Nat) := numsF b b.length 0
theorem numsF_go {b : List UInt8} {f a n j : Nat} (ha : a < b.length) (h : rd (b.drop a) 0 0 = (n, j, 0)) : numsF b (f + 1) a = (a, n) :: numsF b f (a + j) := by
  conv => lhs; unfold numsF
  rw [h, if_pos ⟨ha, rfl⟩]
/-- where the bytes of such a list end -/
def aft (l : List (Nat × Nat)) : Nat := match l.getLast? with
  | none => 0
  | some x => x.1 + (vb x.2).length
theorem aft_snoc (l : List (Nat × Nat)) (x : Nat × Nat) : aft (l ++ [x]) = x.1 + (vb x.2).length := by unfold aft; simp
/-- what is left stands where what has come ends -/
structure Left (b : List UInt8) (pre : List (Nat × Nat)) (a f : Nat) : Prop where
  all : nums b = pre ++ numsF b f a
  fuel : b.length ≤ f + a
  at_ : a = aft pre
  le : a ≤ b.length
theorem Left.start (b : List UInt8) : Left b [] 0 b.length := ⟨rfl, by omega, rfl, Nat.zero_le _⟩
theorem Left.go {b : List UInt8} {pre : List (Nat × Nat)} {a f n j : Nat} (h : Left b pre a f) (ha : a < b.length) (hr : rd (b.drop a) 0 0 = (n, j, 0)) : ∃ f', f = f' + 1 ∧ Left b (pre ++ [(a, n)]) (a + j) f' := by
  obtain ⟨h1, h2, h3, h4⟩ := h
  obtain ⟨f', rfl⟩ : ∃ f', f = f' + 1 := ⟨f - 1, by omega⟩
  have hv := rd_vbs hr
  have hp := vb_pos n
  rw [List.length_drop] at hv
  refine ⟨f', rfl, ?_, by omega, ?_, by omega⟩
  · rw [h1, numsF_go ha hr, List.append_assoc]; rfl
  · rw [aft_snoc, hv.2.2]
theorem Left.done {b : List UInt8} {pre : List (Nat × Nat)} {a f : Nat} (h : Left b pre a f) (hn : numsF b f a = []) : pre = nums b := by rw [h.all, hn, List.append_nil]
theorem Left.pre {b : List UInt8} {pre : List (Nat × Nat)} {a f : Nat} (h : Left b pre a f) : pre <+: nums b := ⟨_, h.all.symm⟩
end Go.Proofs.Ytljcogimeimknaa
/- What is read of a block: plain words. No condition. -/
namespace Go.Proofs.Ytljcogimeimknaa
set_option linter.unusedVariables false

/-- j entries more behind l, from a place on: the entries, their places, where they end, the error, its place -/
def bents (b : List UInt8) : Nat → List Ent → List Nat → Nat → List Ent × List Nat × Nat × Int × Nat
  | 0, l, ps, p => (l, ps, p, 0, 0)
  | j + 1, l, ps, p =>
    if (pread (bP l.length (bst l).last) b p).2.2 ≠ 0 then (l, ps, p, (pread (bP l.length (bst l).last) b p).2.2, (pread (bP l.length (bst l).last) b p).2.1)
    else if 0 < l.length ∧ 0 ≤ cmp (bst l).last (pread (bP l.length (bst l).last) b p).1.1 then (l, ps, p, 51, p)
    else bents b j (l ++ [(pread (bP l.length (bst l).last) b p).1]) (ps ++ [p]) (pread (bP l.length (bst l).last) b p).2.1
def bentries (b : List UInt8) : List Ent × List Nat × Nat × Int × Nat :=
  if (rd b 0 0).2.2 ≠ 0 then ([], [], 0, (rd b 0 0).2.2, (rd b 0 0).2.1) else if (rd b 0 0).1 < 1 ∨ 64 < (rd b 0 0).1 then ([], [], 0, 61, 0)
  else bents b (rd b 0 0).1 [] [] (rd b 0 0).2.1
section
variable {b : List UInt8} {l : List Ent} {ps : List Nat} {j p q : Nat} {x : Ent} {e : Int}
theorem bents_no (h : pread (bP l.length (bst l).last) b p = (x, q, e)) (he : e ≠ 0) : bents b (j + 1) l ps p = (l, ps, p, e, q) := by
  conv => lhs; unfold bents
  rw [h]; exact if_pos he
theorem bents_low (h : pread (bP l.length (bst l).last) b p = (x, q, 0)) (h2 : 0 < l.length ∧ 0 ≤ cmp (bst l).last x.1) : bents b (j + 1) l ps p = (l, ps, p, 51, p) := by
  conv => lhs; unfold bents
  rw [h]; exact (if_neg (fun e => e rfl)).trans (if_pos h2)
theorem bents_go (h : pread (bP l.length (bst l).last) b p = (x, q, 0)) (h2 : ¬ (0 < l.length ∧ 0 ≤ cmp (bst l).last x.1)) : bents b (j + 1) l ps p = bents b j (l ++ [x]) (ps ++ [p]) q := by
  conv => lhs; unfold bents
  rw [h]; exact (if_neg (fun e => e rfl)).trans (if_neg h2)
theorem bentries_no {n : Nat} (h : rd b 0 0 = (n, q, e)) (he : e ≠ 0) : bentries b = ([], [], 0, e, q) := by unfold bentries; rw [h]; exact if_pos he
theorem bentries_bad {n : Nat} (h : rd b 0 0 = (n, q, 0)) (h2 : n < 1 ∨ 64 < n) : bentries b = ([], [], 0, 61, 0) := by unfold bentries; rw [h]; exact (if_neg (fun e => e rfl)).trans (if_pos h2)
theorem bentries_go {n : Nat} (h : rd b 0 0 = (n, q, 0)) (h2 : ¬ (n < 1 ∨ 64 < n)) : bentries b = bents b n [] [] q := by unfold bentries; rw [h]; exact (if_neg (fun e => e rfl)).trans (if_neg h2)
end
/-- the places of the restarts; what the table is -/
def bruns : Nat → List Nat → List Nat
  | _, [] => []
  | i, a :: r => if i % 8 = 0 then a :: bruns (i + 1) r else bruns (i + 1) r
def bmark2 (a : Nat) : List UInt8 := [UInt8.ofNat a, UInt8.ofNat (a / 256)]
def bwant (l : List Nat) : List UInt8 := l.flatMap bmark2
theorem bruns_snoc : ∀ (l : List Nat) (i a : Nat), bruns i (l ++ [a]) = bruns i l ++ (if (i + l.length) % 8 = 0 then [a] else [])
  | [], i, a => by
    show (if i % 8 = 0 then a :: bruns (i + 1) [] else bruns (i + 1) []) = _
    show (if i % 8 = 0 then [a] else []) = [] ++ _
    simp
  | x :: r, i, a => by
    have := bruns_snoc r (i + 1) a
    have e : i + (x :: r).length = i + 1 + r.length := by rw [List.length_cons]; omega
    rw [e]
    show (if i % 8 = 0 then x :: bruns (i + 1) (r ++ [a]) else bruns (i + 1) (r ++ [a])) = (if i % 8 = 0 then x :: bruns (i + 1) r else bruns (i + 1) r) ++ _
    split <;> simp [this]
/-- the table, and that nothing stands behind: the place, the error -/
def btable (b : List UInt8) : List UInt8 → Nat → Nat × Int
  | [], p => if p < b.length then (p, 63) else (0, 0)
  | c :: r, p => if b[p]? = some c then btable b r (p + 1) else (p, 62)
theorem btable_end {b : List UInt8} {p : Nat} (h : p < b.length) : btable b [] p = (p, 63) := if_pos h
theorem btable_ok {b : List UInt8} {p : Nat} (h : ¬ p < b.length) : btable b [] p = (0, 0) := if_neg h
theorem btable_go {b r : List UInt8} {c : UInt8} {p : Nat} (h : b[p]? = some c) : btable b (c :: r) p = btable b r (p + 1) := by
  conv => lhs; unfold btable
  exact if_pos h
theorem btable_no {b r : List UInt8} {c : UInt8} {p : Nat} (h : b[p]? ≠ some c) : btable b (c :: r) p = (p, 62) := by
  conv => lhs; unfold btable
  exact if_neg h
/-- a block: the entries, the error's place, the error -/
def bread (b : List UInt8) : List Ent × Nat × Int :=
  if (bentries b).2.2.2.1 ≠ 0 then ([], (bentries b).2.2.2.2, (bentries b).2.2.2.1)
  else if (btable b (bwant (bruns 0 (bentries b).2.1)) (bentries b).2.2.1).2 ≠ 0 then ([], (btable b (bwant (bruns 0 (bentries b).2.1)) (bentries b).2.2.1).1, (btable b (bwant (bruns 0 (bentries b).2.1)) (bentries b).2.2.1).2)
  else ((bentries b).1, 0, 0)
section
variable {b : List UInt8} {l : List Ent} {ps : List Nat} {p q : Nat} {e : Int}
theorem bread_no (h : bentries b = (l, ps, p, e, q)) (he : e ≠ 0) : bread b = ([], q, e) := by unfold bread; rw [h]; exact if_pos he
theorem bread_tab {p' q' : Nat} (h : bentries b = (l, ps, p, 0, q)) (h2 : btable b (bwant (bruns 0 ps)) p = (q', e)) (he : e ≠ 0) : bread b = ([], q', e) := by
  unfold bread; rw [h]; dsimp only; rw [h2]; exact (if_neg (fun e => e rfl)).trans (if_pos he)
theorem bread_ok {q' : Nat} (h : bentries b = (l, ps, p, 0, q)) (h2 : btable b (bwant (bruns 0 ps)) p = (q', 0)) : bread b = (l, 0, 0) := by
  unfold bread; rw [h]; dsimp only; rw [h2]; exact (if_neg (fun e => e rfl)).trans (if_neg (fun e => e rfl))
end
/-- of what was read: entries that may be, each behind its forerunners; places within the bytes -/
theorem pread_in {p b : List UInt8} {a : Nat} {x : Ent} {q : Nat} (h : pread p b a = (x, q, 0)) (ha : a ≤ b.length) : chk x = 0 ∧ a < q ∧ q ≤ b.length ∧ (p.length = 0 ∨ cmp p x.1 < 0) := by
  obtain ⟨⟨ns, a3, e⟩, hr⟩ : ∃ R, pr3 b 3 [] a = R := ⟨_, rfl⟩
  by_cases he : e = 0
  · subst he
    obtain ⟨⟨s, i, e1⟩, h0⟩ : ∃ R, rd (b.drop a) 0 0 = R := ⟨_, rfl⟩
    by_cases f1 : e1 = 0
    · subst f1
      obtain ⟨⟨m, j, e2⟩, h1⟩ : ∃ R, rd (b.drop (a + i)) 0 0 = R := ⟨_, rfl⟩
      by_cases f2 : e2 = 0
      · subst f2
        obtain ⟨⟨l, t, e3⟩, h2⟩ : ∃ R, rd (b.drop (a + i + j)) 0 0 = R := ⟨_, rfl⟩
        by_cases f3 : e3 = 0
        · subst f3
          have h3 := pr3_ok h0 h1 h2
          rw [pread_ok h3] at h
          obtain ⟨l0, t0, n0⟩ := rd_vbs h0
          obtain ⟨l1, t1, n1⟩ := rd_vbs h1
          obtain ⟨l2, t2, n2⟩ := rd_vbs h2
          simp only [List.length_drop] at l0 l1 l2
          have p0 := vb_pos s
          obtain ⟨z, hz⟩ : ∃ z, a + i + j + t = z := ⟨_, rfl⟩
          rw [hz] at h
          by_cases c1 : p.length < s
          · rw [pend_s c1] at h; simp at h
          by_cases c2 : 64 < m ∨ 256 < l ∨ s + m = 0 ∨ 64 < s + m
          · rw [pend_long c1 c2] at h; simp at h
          by_cases c3 : b.length - z < m + l
          · rw [pend_short c1 c2 c3] at h; simp at h
          by_cases c4 : com p (p.take s ++ (b.drop z).take m) = s
          · by_cases c5 : 0 < p.length ∧ 0 ≤ cmp p (p.take s ++ (b.drop z).take m)
            · rw [pend_cmp c1 c2 c3 c4 c5] at h; simp at h
            · rw [pend_ok c1 c2 c3 c4 c5] at h
              simp only [Prod.mk.injEq] at h
              obtain ⟨rfl, rfl, _⟩ := h
              refine ⟨?_, by omega, by omega, ?_⟩
              · unfold chk chkN keyN valN
                simp only [List.length_append, List.length_take, List.length_drop]
                rw [if_neg (by omega), if_neg (by omega)]; rfl
              · dsimp only
                by_cases hp : p.length = 0
                · exact .inl hp
                · right
                  have : ¬ (0 ≤ cmp p (p.take s ++ (b.drop z).take m)) := fun h => c5 ⟨by omega, h⟩
                  omega
          · rw [pend_com c1 c2 c3 c4] at h; simp at h
        · have h3 : pr3 b 3 [] a = ([], a + i + j + t, e3) := by rw [pr3_go h0, pr3_go h1, pr3_no h2 f3]
          rw [h3] at hr; simp only [Prod.mk.injEq] at hr; exact absurd hr.2.2 f3
      · have h3 : pr3 b 3 [] a = ([], a + i + j, e2) := by rw [pr3_go h0, pr3_no h1 f2]
        rw [h3] at hr; simp only [Prod.mk.injEq] at hr; exact absurd hr.2.2 f2
    · have h3 : pr3 b 3 [] a = ([], a + i, e1) := by rw [pr3_no h0 f1]
      rw [h3] at hr; simp only [Prod.mk.injEq] at hr; exact absurd hr.2.2 f1
  · rw [pread_no hr he] at h
    simp only [Prod.mk.injEq] at h; exact absurd h.2.2 he
end Go.Proofs.Ytljcogimeimknaa
/- A reader of streams: plain words. No condition. -/
namespace Go.Proofs.Ytljcogimeimknaa
open Go.RowKit
set_option linter.unusedVariables false

/-- a reader: its In, what it does next (0: the head, 1: a frame, 2: nothing), its rows, the error and its place -/
structure RS where
  c : CIn Src
  ph : Nat
  rows : List Row
  er : Int
  pt : Nat
abbrev RX := (List Ent × Bool) × RS
def RS.fail (s : RS) (c : CIn Src) (e : Int) (p : Nat) : RX := (([], false), ⟨c, 2, s.rows, e, p⟩)
/-- where two texts part -/
def dif : List UInt8 → List UInt8 → Option Nat
  | [], _ => none
  | _ :: _, [] => none
  | x :: r, y :: t => if x ≠ y then some 0 else (dif r t).map (· + 1)

/-- a body and its sum -/
def bdS (B : List UInt8) (p : Nat) (X : List UInt8 × Int × CIn Src) : List UInt8 × Int × Nat × CIn Src :=
  if X.2.1 ≠ 0 then ([], X.2.1, p, X.2.2) else if openE (B ++ X.1) ≠ 0 then ([], openE (B ++ X.1), p, X.2.2) else (B, 0, 0, X.2.2)
def bdB (M : Int) (p : Nat) (X : List UInt8 × Int × CIn Src) : List UInt8 × Int × Nat × CIn Src :=
  if X.2.1 ≠ 0 then ([], X.2.1, p, X.2.2) else bdS X.1 X.2.2.pl (bytesM srcM M 4 X.2.2)
def bodyM (M : Int) (c : CIn Src) (n : Nat) : List UInt8 × Int × Nat × CIn Src := bdB M c.pl (bytesM srcM M (n : Int) c)

/-- the foot -/
def ftE (s : RS) (p : Nat) (X : Bool × Int × CIn Src) : RX :=
  if X.2.1 ≠ 0 then s.fail X.2.2 X.2.1 p else if X.1 = false then s.fail X.2.2 86 p else (([], false), ⟨X.2.2, 2, s.rows, s.er, s.pt⟩)
def ftT (s : RS) (b p : Nat) (X : List UInt8 × Int × CIn Src) : RX :=
  if X.2.1 ≠ 0 then s.fail X.2.2 X.2.1 p else if X.1 ≠ tailB b then s.fail X.2.2 85 p else ftE s X.2.2.pl (endM srcM X.2.2)
def ftD (M : Int) (s : RS) (b p : Nat) (X : List UInt8 × Int × Nat × CIn Src) : RX :=
  if X.2.1 ≠ 0 then s.fail X.2.2.2 X.2.1 X.2.2.1 else
  match dif X.1 (fbs s.rows) with
  | some i => s.fail X.2.2.2 84 (p + i)
  | none => ftT s b X.2.2.2.pl (bytesM srcM M 12 X.2.2.2)
def ftN (M : Int) (s : RS) (b p : Nat) (X : Nat × Int × CIn Src) : RX :=
  if X.2.1 ≠ 0 then s.fail X.2.2 X.2.1 p else if X.1 ≠ (fbs s.rows).length then s.fail X.2.2 84 p else ftD M s b X.2.2.pl (bodyM M X.2.2 (fbs s.rows).length)

/-- a block's frame -/
def lastR (l : List Row) : List UInt8 := match l.getLast? with | none => [] | some r => r.1
def frst (l : List Ent) : List UInt8 := match l with | [] => [] | e :: _ => e.1
def frL (s : RS) (b p : Nat) (c : CIn Src) (X : List Ent × Nat × Int) : RX :=
  if X.2.2 ≠ 0 then s.fail c X.2.2 (p + X.2.1) else if 0 < s.rows.length ∧ 0 ≤ cmp (lastR s.rows) (frst X.1) then s.fail c 51 p
  else ((X.1, true), ⟨c, 1, s.rows ++ [(lastK X.1, (b : Int), (c.pl : Int) - (b : Int), (X.1.length : Int))], s.er, s.pt⟩)
def frD (s : RS) (b p : Nat) (X : List UInt8 × Int × Nat × CIn Src) : RX :=
  if X.2.1 ≠ 0 then s.fail X.2.2.2 X.2.1 X.2.2.1 else frL s b p X.2.2.2 (bread X.1)
def frN (M : Int) (s : RS) (b p : Nat) (X : Nat × Int × CIn Src) : RX :=
  if X.2.1 ≠ 0 then s.fail X.2.2 X.2.1 p else if X.1 < 1 ∨ 65535 < X.1 then s.fail X.2.2 83 p else frD s b X.2.2.pl (bodyM M X.2.2 X.1)
def frK (M : Int) (s : RS) (b : Nat) (X : UInt8 × Int × CIn Src) : RX :=
  if X.2.1 ≠ 0 then s.fail X.2.2 X.2.1 b else if X.1 = 70 then ftN M s b X.2.2.pl (numM srcM M X.2.2) else if X.1 ≠ 66 then s.fail X.2.2 82 b
  else if s.rows.length = 8388608 then s.fail X.2.2 71 b else frN M s b X.2.2.pl (numM srcM M X.2.2)
def frM (M : Int) (s : RS) : RX := frK M s s.c.pl (byteM srcM M s.c)
def hdH (M : Int) (s : RS) (X : List UInt8 × Int × CIn Src) : RX :=
  if X.2.1 ≠ 0 then s.fail X.2.2 X.2.1 0 else if X.1 ≠ headB then s.fail X.2.2 81 0 else frM M { s with c := X.2.2, ph := 1 }
def hdM (M : Int) (s : RS) : RX := hdH M s (bytesM srcM M 8 s.c)
def nxM (M : Int) (s : RS) : RX := if s.ph = 0 then hdM M s else if s.ph = 1 then frM M s else (([], false), s)
def RS0 (x : Src) : RS := ⟨⟨x, 0, 0, 0, []⟩, 0, [], 0, 0⟩

/-! ### what it leaves -/
theorem src_muR : ∀ (s : Src) (n : Nat), srcM.mu (srcM.nxt s n) ≤ srcM.mu s := by
  intro s n
  have := congrArg List.length (s.parts n)
  rw [List.length_append] at this
  show (s.rest n).length ≤ s.left.length
  omega
def SrcR (L : Nat) (s : Src) : Prop := s.left.length ≤ L
theorem src_leR (L : Nat) : ∀ (s : Src) (n : Nat), SrcR L s → SrcR L (srcM.nxt s n) := fun s n h => by
  have := src_muR s n
  show (s.rest n).length ≤ L
  have h1 : (s.rest n).length ≤ s.left.length := this
  unfold SrcR at h; omega
theorem bytesM_pl {M n : Int} {c : CIn Src} : (bytesM srcM M n c).2.2.pl ≤ c.pl + n.toNat := by
  unfold bytesM
  split
  · exact Nat.le_add_right _ _
  split
  · exact Nat.le_add_right _ _
  split
  · exact Nat.le_add_right _ _
  split
  · exact Nat.le_add_right _ _
  split
  · exact Nat.le_refl _
  · exact Nat.le_add_right _ _
theorem bytesM_mx {M M' n : Int} {c : CIn Src} (h : c.pl + n ≤ M) (h' : c.pl + n ≤ M') : bytesM srcM M n c = bytesM srcM M' n c := by
  unfold bytesM
  have e : (M - (c.pl : Int) < n) = (M' - (c.pl : Int) < n) := by
    rw [eq_false (show ¬ (M - (c.pl : Int) < n) by omega), eq_false (show ¬ (M' - (c.pl : Int) < n) by omega)]
  simp only [e]
theorem bytesM_er {M n : Int} {c : CIn Src} (hn : 0 ≤ n) : (bytesM srcM M n c).2.1 = 0 → (bytesM srcM M n c).2.2.er = 0 := by
  unfold bytesM
  split
  · rename_i h; intro e; exact absurd e h
  split
  · omega
  split
  · intro e; cases e
  split
  · rename_i h _ _ _; intro _; exact Classical.not_not.1 h
  split
  · intro _; rfl
  · rename_i h; intro e; exact absurd e h
theorem byteM_pl {M : Int} {c : CIn Src} : (byteM srcM M c).2.2.pl ≤ c.pl + 1 := bytesM_pl
theorem byteM_mx {M M' : Int} {c : CIn Src} (h : (c.pl : Int) + 1 ≤ M) (h' : (c.pl : Int) + 1 ≤ M') : byteM srcM M c = byteM srcM M' c := by
  unfold byteM; rw [bytesM_mx h h']
theorem byteM_er {M : Int} {c : CIn Src} : (byteM srcM M c).2.1 = 0 → (byteM srcM M c).2.2.er = 0 := bytesM_er (by decide)
theorem bytesM_ge {M n : Int} {c : CIn Src} : c.pl ≤ (bytesM srcM M n c).2.2.pl := by
  unfold bytesM
  split
  · exact Nat.le_refl _
  split
  · exact Nat.le_refl _
  split
  · exact Nat.le_refl _
  split
  · exact Nat.le_refl _
  split
  · exact Nat.le_add_right _ _
  · exact Nat.le_refl _
theorem numG_all {M : Int} {a : Nat} : ∀ (F : Nat) (c : CIn Src) (n s : Nat) (bs : List UInt8), a ≤ c.pl → c.er = 0 → (numG srcM M a F c n s bs).2.2.pl ≤ c.pl + F ∧ a ≤ (numG srcM M a F c n s bs).2.2.pl ∧ ((numG srcM M a F c n s bs).2.1 = 0 → (numG srcM M a F c n s bs).2.2.er = 0) := by
  intro F
  induction F with
  | zero => intro c n s bs h he; exact ⟨Nat.le_refl _, h, fun _ => he⟩
  | succ F ih =>
    intro c n s bs h he
    have hp := byteM_pl (M := M) (c := c)
    have hg : c.pl ≤ (byteM srcM M c).2.2.pl := bytesM_ge
    have hr := byteM_er (M := M) (c := c)
    unfold numG
    split
    · rename_i h1; exact ⟨by show a ≤ _; omega, Nat.le_refl _, fun e => absurd e h1⟩
    rename_i h1
    have h1 : (byteM srcM M c).2.1 = 0 := Classical.not_not.1 h1
    split
    · rename_i h2; exact ⟨by show a ≤ _; omega, Nat.le_refl _, fun e => by exfalso; have e : ((tq s n bs (byteM srcM M c).1).2.1 : Int) = 0 := e; omega⟩
    split
    · exact ⟨by show (byteM srcM M c).2.2.pl ≤ _; omega, by show a ≤ (byteM srcM M c).2.2.pl; omega, fun _ => hr h1⟩
    · have := ih (byteM srcM M c).2.2 (tq s n bs (byteM srcM M c).1).2.2.1 (tq s n bs (byteM srcM M c).1).2.2.2.1 (tq s n bs (byteM srcM M c).1).2.2.2.2 (by omega) (hr h1)
      exact ⟨by omega, this.2.1, this.2.2⟩
theorem numG_mx {M M' : Int} {a : Nat} : ∀ (F : Nat) (c : CIn Src) (n s : Nat) (bs : List UInt8), (c.pl : Int) + F ≤ M → (c.pl : Int) + F ≤ M' → numG srcM M a F c n s bs = numG srcM M' a F c n s bs := by
  intro F
  induction F with
  | zero => intro c n s bs _ _; rfl
  | succ F ih =>
    intro c n s bs h h'
    have hp := byteM_pl (M := M') (c := c)
    have e := byteM_mx (c := c) (M := M) (M' := M') (by omega) (by omega)
    unfold numG
    rw [e, ih _ _ _ _ (by omega) (by omega)]
theorem numM_pl {M : Int} {c : CIn Src} (he : c.er = 0) : (numM srcM M c).2.2.pl ≤ c.pl + 11 := (numG_all 11 c 0 0 [] (Nat.le_refl _) he).1
theorem numM_mx {M M' : Int} {c : CIn Src} (h : (c.pl : Int) + 11 ≤ M) (h' : (c.pl : Int) + 11 ≤ M') : numM srcM M c = numM srcM M' c := numG_mx 11 c 0 0 [] h h'
theorem endM_pl {c : CIn Src} : (endM srcM c).2.2.pl = c.pl := by
  unfold endM
  split
  · rfl
  split
  · rfl
  split
  · rfl
  split <;> rfl

/-! ### either bound -/
theorem bodyM_mx {M M' : Int} {c : CIn Src} {n : Nat} (h : (c.pl : Int) + n + 4 ≤ M) (h' : (c.pl : Int) + n + 4 ≤ M') : bodyM M c n = bodyM M' c n := by
  unfold bodyM
  rw [bytesM_mx (M := M) (M' := M') (c := c) (n := (n : Int)) (by omega) (by omega)]
  unfold bdB
  have hp := bytesM_pl (M := M') (n := (n : Int)) (c := c)
  rw [bytesM_mx (M := M) (M' := M') (c := (bytesM srcM M' (n : Int) c).2.2) (n := 4) (by omega) (by omega)]
theorem frM_mx {M M' : Int} {s : RS} (he : s.c.er = 0) (h : (s.c.pl : Int) + 1000000000 ≤ M) (h' : (s.c.pl : Int) + 1000000000 ≤ M') : frM M s = frM M' s := by
  unfold frM
  rw [byteM_mx (M := M) (M' := M') (c := s.c) (by omega) (by omega)]
  obtain ⟨⟨k, e, c1⟩, hX⟩ : ∃ X, byteM srcM M' s.c = X := ⟨_, rfl⟩
  have p1 := byteM_pl (M := M') (c := s.c)
  have r1 := byteM_er (M := M') (c := s.c)
  rw [hX] at p1 r1 ⊢
  replace p1 : c1.pl ≤ s.c.pl + 1 := p1
  unfold frK
  split
  · rfl
  rename_i h1
  have e1 : c1.er = 0 := r1 (Classical.not_not.1 h1)
  dsimp only
  rw [numM_mx (M := M) (M' := M') (c := c1) (by omega) (by omega)]
  obtain ⟨⟨n, e2, c2⟩, hN⟩ : ∃ X, numM srcM M' c1 = X := ⟨_, rfl⟩
  have p2 := numM_pl (M := M') e1
  rw [hN] at p2 ⊢
  replace p2 : c2.pl ≤ c1.pl + 11 := p2
  split
  · unfold ftN
    split
    · rfl
    split
    · rfl
    dsimp only
    have hw := fbs_le s.rows
    rw [bodyM_mx (M := M) (M' := M') (c := c2) (n := (fbs s.rows).length) (by omega) (by omega)]
    unfold ftD
    split
    · rfl
    split
    · rfl
    rw [bytesM_mx (M := M) (M' := M') (n := 12) (by
      have : (bodyM M' c2 (fbs s.rows).length).2.2.2.pl ≤ c2.pl + (fbs s.rows).length + 4 := by
        unfold bodyM bdB
        have q1 := bytesM_pl (M := M') (n := ((fbs s.rows).length : Int)) (c := c2)
        split
        · show (bytesM srcM M' _ c2).2.2.pl ≤ _; omega
        · have q2 := bytesM_pl (M := M') (n := 4) (c := (bytesM srcM M' ((fbs s.rows).length : Int) c2).2.2)
          unfold bdS
          split
          · dsimp only; omega
          split
          · dsimp only; omega
          · dsimp only; omega
      omega) (by
      have : (bodyM M' c2 (fbs s.rows).length).2.2.2.pl ≤ c2.pl + (fbs s.rows).length + 4 := by
        unfold bodyM bdB
        have q1 := bytesM_pl (M := M') (n := ((fbs s.rows).length : Int)) (c := c2)
        split
        · show (bytesM srcM M' _ c2).2.2.pl ≤ _; omega
        · have q2 := bytesM_pl (M := M') (n := 4) (c := (bytesM srcM M' ((fbs s.rows).length : Int) c2).2.2)
          unfold bdS
          split
          · dsimp only; omega
          split
          · dsimp only; omega
          · dsimp only; omega
      omega)]
  split
  · rfl
  split
  · rfl
  · unfold frN
    split
    · rfl
    split
    · rfl
    rename_i h4
    dsimp only at h4 ⊢
    rw [bodyM_mx (M := M) (M' := M') (c := c2) (n := n) (by omega) (by omega)]
theorem hdM_mx {M M' : Int} {s : RS} (he : s.c.er = 0) (h : (s.c.pl : Int) + 1000000010 ≤ M) (h' : (s.c.pl : Int) + 1000000010 ≤ M') : hdM M s = hdM M' s := by
  unfold hdM
  rw [bytesM_mx (M := M) (M' := M') (c := s.c) (n := 8) (by omega) (by omega)]
  have p1 := bytesM_pl (M := M') (n := 8) (c := s.c)
  have r1 := bytesM_er (M := M') (n := 8) (c := s.c) (by decide)
  unfold hdH
  split
  · rfl
  split
  · rfl
  · rename_i h1 h2
    exact frM_mx (r1 (Classical.not_not.1 h1)) (by show ((bytesM srcM M' 8 s.c).2.2.pl : Int) + _ ≤ _; omega) (by show ((bytesM srcM M' 8 s.c).2.2.pl : Int) + _ ≤ _; omega)
theorem nxM_mx {M M' : Int} {s : RS} (he : s.ph ≠ 2 → s.c.er = 0) (hp : s.ph < 3) (h : s.ph ≠ 2 → (s.c.pl : Int) + 1000000010 ≤ M) (h' : s.ph ≠ 2 → (s.c.pl : Int) + 1000000010 ≤ M') : nxM M s = nxM M' s := by
  unfold nxM
  by_cases h0 : s.ph = 0
  · rw [if_pos h0, if_pos h0]; exact hdM_mx (he (by omega)) (h (by omega)) (h' (by omega))
  · rw [if_neg h0, if_neg h0]
    by_cases h1 : s.ph = 1
    · rw [if_pos h1, if_pos h1]; exact frM_mx (he (by omega)) (by have := h (by omega); omega) (by have := h' (by omega); omega)
    · rw [if_neg h1, if_neg h1]
end Go.Proofs.Ytljcogimeimknaa
/- The methods of the program's source and sink. No condition. -/
namespace Go.Proofs.Ytljcogimeimknaa
open Go.RowKit Go.Shelf
set_option linter.unusedVariables false

theorem methR (g : Nat) (w : World) : (method 296 59 (.pointer (some ⟨g, 0, none⟩)) "Read").run Try.prog w = .ok (151, .pointer (some ⟨g, 0, none⟩)) w := by kernel_rfl
end Go.Proofs.Ytljcogimeimknaa
