/- A taker of bytes: contracts of Take. Conditions: the taker lies in one block; it holds a number of as many sevens as it took. -/
import Derived.Test.YtpenbaafhbbmhaaVintM
import Derived.Test.YtpenbaafhbbmhaaRow
import Derived.Test.YtpenbaafhbbmhaaByte
import Derived.Deep.DeepCutAuto
import Derived.BigRegion
namespace Go.Proofs.Ytpenbaafhbbmhaa
open Go.RowKit

/-- a taker in a block of its own -/
def Tk (w : World) (g n t s : Nat) : Prop := w.heap[g]? = some (.cells #[.int .u64 n, .int .i64 t, .int .i64 s] 123 (0, 0))
theorem Tk.lt {w : World} {g n t s : Nat} (h : Tk w g n t s) : g < w.heap.size := (Array.getElem?_eq_some_iff.1 h).1
theorem Tk.keep {w w' : World} {g n t s : Nat} (h : Tk w g n t s) (hb : Below w.heap.size w w') : Tk w' g n t s := (hb.block g h.lt).trans h
theorem Tk.grown {w w' : World} {g n t s : Nat} {row : Option Nat} (h : Tk w g n t s) (hb : w.grownBy w' row) (hne : row ≠ some g) : Tk w' g n t s := (hb.block g h.lt hne.symm).trans h
theorem Tk.c0 {w : World} {g n t s : Nat} (h : Tk w g n t s) : w.cell? ⟨g, 0, none⟩ = some (.int .u64 n) := by
  unfold Tk at h; simp [World.cell?, h]
theorem Tk.c1 {w : World} {g n t s : Nat} (h : Tk w g n t s) : w.cell? ⟨g, 1, none⟩ = some (.int .i64 t) := by
  unfold Tk at h; simp [World.cell?, h]
theorem Tk.c2 {w : World} {g n t s : Nat} (h : Tk w g n t s) : w.cell? ⟨g, 2, none⟩ = some (.int .i64 s) := by
  unfold Tk at h; simp [World.cell?, h]
theorem Tk.free {w : World} {g n t s : Nat} (h : Tk w g n t s) (i : Nat) : w.frozen? ⟨g, i, none⟩ = false := by
  unfold Tk at h; simp [World.frozen?, h]
theorem Tk.set0 {w : World} {g n t s : Nat} (h : Tk w g n t s) (m : Nat) : Tk (w.setCell ⟨g, 0, none⟩ (.int .u64 m)) g m t s := by
  unfold Tk at h ⊢
  simp only [World.setCell, Array.getElem?_modify, if_true]
  rw [h]; rfl
theorem Tk.set1 {w : World} {g n t s : Nat} (h : Tk w g n t s) (m : Nat) : Tk (w.setCell ⟨g, 1, none⟩ (.int .i64 m)) g n m s := by
  unfold Tk at h ⊢
  simp only [World.setCell, Array.getElem?_modify, if_true]
  rw [h]; rfl
theorem Tk.set2 {w : World} {g n t s : Nat} (h : Tk w g n t s) (m : Nat) : Tk (w.setCell ⟨g, 2, none⟩ (.int .i64 m)) g n t m := by
  unfold Tk at h ⊢
  simp only [World.setCell, Array.getElem?_modify, if_true]
  rw [h]; rfl
theorem Tk.drew {w : World} {g n t s : Nat} (h : Tk w g n t s) : Tk w.drew g n t s := h
theorem grown_setc {w w1 : World} {row : Option Nat} (h : w.grownBy w1 row) (p : Addr) (hp : row = some p.block) (v : Value) : w.grownBy (w1.setCell p v) row := by
  obtain ⟨h1, h2, h3, h4, h5⟩ := h
  refine ⟨h1, h2, h3, by simpa using h4, fun k hk hne => ?_⟩
  rw [Below.heap_setCell _ _ _ _ (fun e => hne (by rw [hp, e]))]
  exact h5 k hk hne

theorem grown_drw {w w' : World} {row : Option Nat} (h : w.grownBy w' row) : w.grownBy w'.drew row := ⟨h.os, h.tape, h.output, h.size, h.block⟩

theorem take_no (g n t s : Nat) (c : UInt8) (w : World) (hs : s ≠ 0) (h : Tk w g n t s) :
    Calls Try.prog 42 #[.pointer (some ⟨g, 0, none⟩), .int .u8 (B c)] w fun e w' => e = .returned (.tuple #[.bool false, .int .i64 1]) ∧ w = w' := by
  have c2 := h.c2
  have f1 : ((s : Int) != 0) = true := by rw [bne_iff_ne]; omega
  have HH := Lib.hid h; clear h
  go_enter Try.func42, Try.ntmps42
  go_wp2_with fail
  go_ret2
  exact ⟨rfl, rfl⟩
theorem take_long (g n : Nat) (c : UInt8) (w : World) (hc : 1 < c.toNat) (h : Tk w g n 9 0) :
    Calls Try.prog 42 #[.pointer (some ⟨g, 0, none⟩), .int .u8 (B c)] w fun e w' => e = .returned (.tuple #[.bool false, .int .i64 12]) ∧ Tk w' g n 10 2 ∧ w.grownBy w' (some g) := by
  have c2 : w.cell? ⟨g, 2, none⟩ = some (.int .i64 0) := h.c2
  have c1 : w.cell? ⟨g, 1, none⟩ = some (.int .i64 9) := h.c1
  have f1 := h.free 1
  have hcc : 1 < B c := by unfold B; omega
  have h1 := h.set1 10
  have c1' : (w.setCell ⟨g, 1, none⟩ (.int .i64 10)).cell? ⟨g, 1, none⟩ = some (.int .i64 10) := h1.c1
  have f2 : (w.setCell ⟨g, 1, none⟩ (.int .i64 10)).frozen? ⟨g, 2, none⟩ = false := h1.free 2
  have c2' : (w.setCell ⟨g, 1, none⟩ (.int .i64 10)).cell? ⟨g, 2, none⟩ = some (.int .i64 0) := h1.c2
  have H1 := Lib.hid h1; clear h1 h hc
  go_enter Try.func42, Try.ntmps42
  go_wp2_with fail
  go_ret2
  exact ⟨rfl, H1.out.set2 2, grown_setc (grown_setc (World.grownBy.refl _ _) ⟨g, 1, none⟩ rfl _) ⟨g, 2, none⟩ rfl _⟩
theorem take_form (g n t : Nat) (c : UInt8) (w : World) (ht0 : 0 < t) (ht : t ≤ 9) (hc : c.toNat = 0) (h : Tk w g n t 0) :
    Calls Try.prog 42 #[.pointer (some ⟨g, 0, none⟩), .int .u8 (B c)] w fun e w' => e = .returned (.tuple #[.bool false, .int .i64 13]) ∧ Tk w' g n (t + 1) 2 ∧ w.grownBy w' (some g) := by
  have c2 : w.cell? ⟨g, 2, none⟩ = some (.int .i64 0) := h.c2
  have c1 := h.c1
  have f1 := h.free 1
  have hcc : (B c == 0) = true := by rw [beq_iff_eq]; unfold B; omega
  have hc1 : ¬ 1 < B c := by unfold B; omega
  have h1 := h.set1 (t + 1)
  have c1' : (w.setCell ⟨g, 1, none⟩ (.int .i64 ((t : Int) + 1))).cell? ⟨g, 1, none⟩ = some (.int .i64 ((t : Int) + 1)) := h1.c1
  have f2 : (w.setCell ⟨g, 1, none⟩ (.int .i64 ((t : Int) + 1))).frozen? ⟨g, 2, none⟩ = false := h1.free 2
  have c2' : (w.setCell ⟨g, 1, none⟩ (.int .i64 ((t : Int) + 1))).cell? ⟨g, 2, none⟩ = some (.int .i64 0) := h1.c2
  have H1 := Lib.hid h1; clear h1 h hc
  by_cases h9 : t = 9
  · have f10 : ((t : Int) + 1 == 10) = true := by rw [beq_iff_eq]; omega
    clear h9
    go_enter Try.func42, Try.ntmps42
    go_wp2_with fail
    go_ret2
    exact ⟨rfl, H1.out.set2 2, grown_setc (grown_setc (World.grownBy.refl _ _) ⟨g, 1, none⟩ rfl _) ⟨g, 2, none⟩ rfl _⟩
  · have f10 : ((t : Int) + 1 == 10) = false := by rw [beq_eq_false_iff_ne]; omega
    clear h9
    go_enter Try.func42, Try.ntmps42
    go_wp2_with fail
    go_ret2
    exact ⟨rfl, H1.out.set2 2, grown_setc (grown_setc (World.grownBy.refl _ _) ⟨g, 1, none⟩ rfl _) ⟨g, 2, none⟩ rfl _⟩

/-- the sevens of a byte -/
theorem and127 (c : UInt8) : bits .and .u8 (B c) 127 = ((c.toNat % 128 : Nat) : Int) := by
  have : ∀ k : Fin 256, bits .and .u8 ((k.val : Nat) : Int) 127 = ((k.val % 128 : Nat) : Int) := by decide +kernel
  exact this ⟨c.toNat, c.toNat_lt⟩
theorem or64 (a b : Nat) (ha : a < 2 ^ 64) (hb : b < 2 ^ 64) : bits .or .u64 (a : Int) (b : Int) = ((a ||| b : Nat) : Int) := by
  show IntKind.u64.wrap ((BitVec.ofInt 64 (a : Int) ||| BitVec.ofInt 64 (b : Int)).toNat : Int) = _
  rw [BitVec.ofInt_natCast, BitVec.ofInt_natCast, BitVec.toNat_or, BitVec.toNat_ofNat, BitVec.toNat_ofNat, Nat.mod_eq_of_lt ha, Nat.mod_eq_of_lt hb]
  have := Nat.or_lt_two_pow ha hb
  generalize a ||| b = z at *
  rw [IntKind.wrap_u64]; omega

theorem put_seven (n t : Nat) (c : UInt8) (ht : t ≤ 9) (hc1 : ¬ (t = 9 ∧ 1 < c.toNat)) (hn : n < 128 ^ t) : bits .or .u64 (n : Int) (IntKind.u64.wrap ((c.toNat : Int) % 128 * 2 ^ (7 * t))) = ((n + c.toNat % 128 * 128 ^ t : Nat) : Int) := by
  have hb : c.toNat % 128 * 128 ^ t < 18446744073709551616 := by
    have e9 : (128 : Nat) ^ 9 = 9223372036854775808 := by decide
    by_cases h9 : t = 9
    · subst h9
      have : c.toNat % 128 ≤ 1 := by omega
      have h4 : c.toNat % 128 * 128 ^ 9 ≤ 1 * 128 ^ 9 := Nat.mul_le_mul_right _ this
      omega
    · have h5 := go_small (c := c) hn
      have h6 : 128 ^ (t + 1) ≤ 128 ^ 9 := Nat.pow_le_pow_right (by decide) (by omega)
      omega
  have hn2 : n < 18446744073709551616 := by
    have e9 : (128 : Nat) ^ 9 = 9223372036854775808 := by decide
    have h6 : 128 ^ t ≤ 128 ^ 9 := Nat.pow_le_pow_right (by decide) ht
    omega
  have e1 : ((c.toNat : Int) % 128 * 2 ^ (7 * t)) = ((c.toNat % 128 * 128 ^ t : Nat) : Int) := by rw [pow128]; simp
  have e2 : IntKind.u64.wrap ((c.toNat % 128 * 128 ^ t : Nat) : Int) = ((c.toNat % 128 * 128 ^ t : Nat) : Int) := by
    generalize c.toNat % 128 * 128 ^ t = z at *
    rw [IntKind.wrap_u64]; omega
  rw [e1, e2, or64 _ _ hn2 hb]
  congr 1
  rw [pow128] at hn ⊢
  exact or_add hn

set_option maxRecDepth 100000 in
set_option maxHeartbeats 1000000 in
theorem take_go (g n t : Nat) (c : UInt8) (w : World) (ht : t ≤ 9) (hc1 : ¬ (t = 9 ∧ 1 < c.toNat)) (hc2 : ¬ (0 < t ∧ c.toNat = 0)) (hn : n < 128 ^ t) (h : Tk w g n t 0) :
    Calls Try.prog 42 #[.pointer (some ⟨g, 0, none⟩), .int .u8 (B c)] w fun e w' => e = .returned (.tuple #[.bool (decide (c.toNat < 128)), .int .i64 0]) ∧
      Tk w' g (n + c.toNat % 128 * 128 ^ t) (t + 1) (if c.toNat < 128 then 1 else 0) ∧ w.grownBy w' (some g) := by
  have c2 : w.cell? ⟨g, 2, none⟩ = some (.int .i64 0) := h.c2
  have c1 := h.c1
  have f1 := h.free 1
  have h1 := h.set1 (t + 1)
  have c1' : (w.setCell ⟨g, 1, none⟩ (.int .i64 ((t : Int) + 1))).cell? ⟨g, 1, none⟩ = some (.int .i64 ((t : Int) + 1)) := h1.c1
  have c0' : (w.setCell ⟨g, 1, none⟩ (.int .i64 ((t : Int) + 1))).cell? ⟨g, 0, none⟩ = some (.int .u64 n) := h1.c0
  have f0' : (w.setCell ⟨g, 1, none⟩ (.int .i64 ((t : Int) + 1))).frozen? ⟨g, 0, none⟩ = false := h1.free 0
  have h2 : Tk ((w.setCell ⟨g, 1, none⟩ (.int .i64 ((t : Int) + 1))).setCell ⟨g, 0, none⟩ (.int .u64 ((n + c.toNat % 128 * 128 ^ t : Nat) : Int))).drew g (n + c.toNat % 128 * 128 ^ t) (t + 1) 0 := (h1.set0 (n + c.toNat % 128 * 128 ^ t)).drew
  have g2 : w.grownBy ((w.setCell ⟨g, 1, none⟩ (.int .i64 ((t : Int) + 1))).setCell ⟨g, 0, none⟩ (.int .u64 ((n + c.toNat % 128 * 128 ^ t : Nat) : Int))).drew (some g) :=
    grown_drw (grown_setc (grown_setc (World.grownBy.refl _ _) ⟨g, 1, none⟩ rfl _) ⟨g, 0, none⟩ rfl _)
  have hv := put_seven n t c ht hc1 hn
  have H2 := Lib.hid h2; clear h2 h1 h
  have G2 := Lib.hid g2; clear g2
  have HV := Lib.hid hv; clear hv hn
  have r1 := and127 c
  by_cases hln : c.toNat < 128
  · rw [decide_eq_true hln, if_pos hln]
    have hlt : B c < 128 := by unfold B; omega
    have HLN := Lib.hid hln; clear hln
    by_cases h9 : t = 9
    · have f10 : ((t : Int) + 1 == 10) = true := by rw [beq_iff_eq]; omega
      have hle : ¬ 1 < B c := by unfold B; omega
      have ht0 : (1 : Int) < t + 1 := by omega
      have hcc : (B c == 0) = false := by rw [beq_eq_false_iff_ne]; unfold B; omega
      clear h9 hc1 hc2
      go_enter Try.func42, Try.ntmps42
      go_upto_region 10 with (fail)
      go_region
      rw [HV.out]
      generalize ((w.setCell ⟨g, 1, none⟩ (.int .i64 ((t : Int) + 1))).setCell ⟨g, 0, none⟩ (.int .u64 ((n + c.toNat % 128 * 128 ^ t : Nat) : Int))).drew = w2 at *
      have e2 : w2.cell? ⟨g, 2, none⟩ = some (.int .i64 0) := H2.out.c2
      have e3 := H2.out.free 2
      have e4 : (w2.setCell ⟨g, 2, none⟩ (.int .i64 1)).cell? ⟨g, 2, none⟩ = some (.int .i64 1) := (H2.out.set2 1).c2
      go_wp2_with fail
      go_ret2
      exact ⟨rfl, H2.out.set2 1, grown_setc G2.out ⟨g, 2, none⟩ rfl _⟩
    · have f10 : ((t : Int) + 1 == 10) = false := by rw [beq_eq_false_iff_ne]; omega
      by_cases h0 : t = 0
      · have ht0 : ¬ (1 : Int) < t + 1 := by omega
        clear h9 h0 hc1 hc2
        go_enter Try.func42, Try.ntmps42
        go_upto_region 10 with (fail)
        go_region
        rw [HV.out]
        generalize ((w.setCell ⟨g, 1, none⟩ (.int .i64 ((t : Int) + 1))).setCell ⟨g, 0, none⟩ (.int .u64 ((n + c.toNat % 128 * 128 ^ t : Nat) : Int))).drew = w2 at *
        have e2 : w2.cell? ⟨g, 2, none⟩ = some (.int .i64 0) := H2.out.c2
        have e3 := H2.out.free 2
        have e4 : (w2.setCell ⟨g, 2, none⟩ (.int .i64 1)).cell? ⟨g, 2, none⟩ = some (.int .i64 1) := (H2.out.set2 1).c2
        go_wp2_with fail
        go_ret2
        exact ⟨rfl, H2.out.set2 1, grown_setc G2.out ⟨g, 2, none⟩ rfl _⟩
      · have ht0 : (1 : Int) < t + 1 := by omega
        have hcc : (B c == 0) = false := by rw [beq_eq_false_iff_ne]; unfold B; omega
        clear h9 h0 hc1 hc2
        go_enter Try.func42, Try.ntmps42
        go_upto_region 10 with (fail)
        go_region
        rw [HV.out]
        generalize ((w.setCell ⟨g, 1, none⟩ (.int .i64 ((t : Int) + 1))).setCell ⟨g, 0, none⟩ (.int .u64 ((n + c.toNat % 128 * 128 ^ t : Nat) : Int))).drew = w2 at *
        have e2 : w2.cell? ⟨g, 2, none⟩ = some (.int .i64 0) := H2.out.c2
        have e3 := H2.out.free 2
        have e4 : (w2.setCell ⟨g, 2, none⟩ (.int .i64 1)).cell? ⟨g, 2, none⟩ = some (.int .i64 1) := (H2.out.set2 1).c2
        go_wp2_with fail
        go_ret2
        exact ⟨rfl, H2.out.set2 1, grown_setc G2.out ⟨g, 2, none⟩ rfl _⟩
  · rw [decide_eq_false hln, if_neg hln]
    have hlt : ¬ B c < 128 := by unfold B; omega
    have HLN := Lib.hid hln; clear hln
    by_cases h9 : t = 9
    · exfalso; have := HLN.out; omega
    · have f10 : ((t : Int) + 1 == 10) = false := by rw [beq_eq_false_iff_ne]; omega
      by_cases h0 : t = 0
      · have ht0 : ¬ (1 : Int) < t + 1 := by omega
        clear h9 h0 hc1 hc2
        go_enter Try.func42, Try.ntmps42
        go_upto_region 10 with (fail)
        go_region
        rw [HV.out]
        generalize ((w.setCell ⟨g, 1, none⟩ (.int .i64 ((t : Int) + 1))).setCell ⟨g, 0, none⟩ (.int .u64 ((n + c.toNat % 128 * 128 ^ t : Nat) : Int))).drew = w2 at *
        have e2 : w2.cell? ⟨g, 2, none⟩ = some (.int .i64 0) := H2.out.c2
        have e3 := H2.out.free 2
        have e4 : (w2.setCell ⟨g, 2, none⟩ (.int .i64 1)).cell? ⟨g, 2, none⟩ = some (.int .i64 1) := (H2.out.set2 1).c2
        go_wp2_with fail
        go_ret2
        exact ⟨rfl, H2.out, G2.out⟩
      · have ht0 : (1 : Int) < t + 1 := by omega
        have hcc : (B c == 0) = false := by rw [beq_eq_false_iff_ne]; unfold B; omega
        clear h9 h0 hc1 hc2
        go_enter Try.func42, Try.ntmps42
        go_upto_region 10 with (fail)
        go_region
        rw [HV.out]
        generalize ((w.setCell ⟨g, 1, none⟩ (.int .i64 ((t : Int) + 1))).setCell ⟨g, 0, none⟩ (.int .u64 ((n + c.toNat % 128 * 128 ^ t : Nat) : Int))).drew = w2 at *
        have e2 : w2.cell? ⟨g, 2, none⟩ = some (.int .i64 0) := H2.out.c2
        have e3 := H2.out.free 2
        have e4 : (w2.setCell ⟨g, 2, none⟩ (.int .i64 1)).cell? ⟨g, 2, none⟩ = some (.int .i64 1) := (H2.out.set2 1).c2
        go_wp2_with fail
        go_ret2
        exact ⟨rfl, H2.out, G2.out⟩
end Go.Proofs.Ytpenbaafhbbmhaa
