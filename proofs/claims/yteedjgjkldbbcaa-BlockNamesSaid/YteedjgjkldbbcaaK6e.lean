/- Several texts in one: VintTake, VintRdM, VintRead, EntSpoil, EntCopyZ. Each has its own sentence and conditions below. -/
import Derived.Test.YteedjgjkldbbcaaK6c
import Derived.Test.YteedjgjkldbbcaaK6a
import Derived.Deep.DeepCutAuto
import Derived.BigRegion
import Derived.WalkMore
import Derived.Test.YteedjgjkldbbcaaK6b
import Derived.BigQuiet
import Derived.Deep.QuietTactic
import Derived.Deep.Cut
/- A taker of bytes: contracts of Take. Conditions: the taker lies in one block; it holds a number of as many sevens as it took. -/
namespace Go.Proofs.Yteedjgjkldbbcaa
set_option linter.unusedVariables false
open Go.RowKit

/-- a taker in a block of its own -/
def Tk (w : World) (g n t s : Nat) : Prop := w.heap[g]? = some (.cells #[.int .u64 n, .int .i64 t, .int .i64 s] 105 (0, 0))
theorem Tk.lt {w : World} {g n t s : Nat} (h : Tk w g n t s) : g < w.heap.size := (Array.getElem?_eq_some_iff.1 h).1
theorem Tk.keep {w w' : World} {g n t s : Nat} (h : Tk w g n t s) (hb : Below w.heap.size w w') : Tk w' g n t s := (hb.block g h.lt).trans h
theorem Tk.grown {w w' : World} {g n t s : Nat} {row : Option Nat} (h : Tk w g n t s) (hb : w.grownBy w' row) (hne : row ≠ some g) : Tk w' g n t s := (hb.block g h.lt hne.symm).trans h
theorem Tk.c0 {w : World} {g n t s : Nat} (h : Tk w g n t s) : w.cell? ⟨g, 0, none⟩ = some (.int .u64 n) := by
  unfold Tk at h; simp [World.cell?, h]
theorem Tk.c1 {w : World} {g n t s : Nat} (h : Tk w g n t s) : w.cell? ⟨g, 1, none⟩ = some (.int .i64 t) := by
  unfold Tk at h; simp [World.cell?, h]
theorem Tk.c2 {w : World} {g n t s : Nat} (h : Tk w g n t s) : w.cell? ⟨g, 2, none⟩ = some (.int .i64 s) := by
  unfold Tk at h; simp [World.cell?, h]
theorem Tk.free {w : World} {g n t s : Nat} (h : Tk w g n t s) (i : Nat) : w.frozen? ⟨g, i, none⟩ = false := by
  unfold Tk at h; simp [World.frozen?, h]
theorem Tk.set0 {w : World} {g n t s : Nat} (h : Tk w g n t s) (m : Nat) : Tk (w.setCell ⟨g, 0, none⟩ (.int .u64 m)) g m t s := by
  unfold Tk at h ⊢
  simp only [World.setCell, Array.getElem?_modify, if_true]
  rw [h]; rfl
theorem Tk.set1 {w : World} {g n t s : Nat} (h : Tk w g n t s) (m : Nat) : Tk (w.setCell ⟨g, 1, none⟩ (.int .i64 m)) g n m s := by
  unfold Tk at h ⊢
  simp only [World.setCell, Array.getElem?_modify, if_true]
  rw [h]; rfl
theorem Tk.set2 {w : World} {g n t s : Nat} (h : Tk w g n t s) (m : Nat) : Tk (w.setCell ⟨g, 2, none⟩ (.int .i64 m)) g n t m := by
  unfold Tk at h ⊢
  simp only [World.setCell, Array.getElem?_modify, if_true]
  rw [h]; rfl
theorem Tk.drew {w : World} {g n t s : Nat} (h : Tk w g n t s) : Tk w.drew g n t s := h
theorem grown_setc {w w1 : World} {row : Option Nat} (h : w.grownBy w1 row) (p : Addr) (hp : row = some p.block) (v : Value) : w.grownBy (w1.setCell p v) row := by
  obtain ⟨h1, h2, h3, h4, h5⟩ := h
  refine ⟨h1, h2, h3, by simpa using h4, fun k hk hne => ?_⟩
  rw [Below.heap_setCell _ _ _ _ (fun e => hne (by rw [hp, e]))]
  exact h5 k hk hne

theorem grown_drw {w w' : World} {row : Option Nat} (h : w.grownBy w' row) : w.grownBy w'.drew row := ⟨h.os, h.tape, h.output, h.size, h.block⟩

theorem take_no (g n t s : Nat) (c : UInt8) (w : World) (hs : s ≠ 0) (h : Tk w g n t s) :
    Calls Try.prog 80 #[.pointer (some ⟨g, 0, none⟩), .int .u8 (B c)] w fun e w' => e = .returned (.tuple #[.bool false, .int .i64 1]) ∧ w = w' := by
  have c2 := h.c2
  have f1 : ((s : Int) != 0) = true := by rw [bne_iff_ne]; omega
  have HH := Lib.hid h; clear h
  go_enter Try.func80, Try.ntmps80
  go_wp2_with fail
  go_ret2
  exact ⟨rfl, rfl⟩
theorem take_long (g n : Nat) (c : UInt8) (w : World) (hc : 1 < c.toNat) (h : Tk w g n 9 0) :
    Calls Try.prog 80 #[.pointer (some ⟨g, 0, none⟩), .int .u8 (B c)] w fun e w' => e = .returned (.tuple #[.bool false, .int .i64 12]) ∧ Tk w' g n 10 2 ∧ w.grownBy w' (some g) := by
  have c2 : w.cell? ⟨g, 2, none⟩ = some (.int .i64 0) := h.c2
  have c1 : w.cell? ⟨g, 1, none⟩ = some (.int .i64 9) := h.c1
  have f1 := h.free 1
  have hcc : 1 < B c := by unfold B; omega
  have h1 := h.set1 10
  have c1' : (w.setCell ⟨g, 1, none⟩ (.int .i64 10)).cell? ⟨g, 1, none⟩ = some (.int .i64 10) := h1.c1
  have f2 : (w.setCell ⟨g, 1, none⟩ (.int .i64 10)).frozen? ⟨g, 2, none⟩ = false := h1.free 2
  have c2' : (w.setCell ⟨g, 1, none⟩ (.int .i64 10)).cell? ⟨g, 2, none⟩ = some (.int .i64 0) := h1.c2
  have H1 := Lib.hid h1; clear h1 h hc
  go_enter Try.func80, Try.ntmps80
  go_wp2_with fail
  go_ret2
  exact ⟨rfl, H1.out.set2 2, grown_setc (grown_setc (World.grownBy.refl _ _) ⟨g, 1, none⟩ rfl _) ⟨g, 2, none⟩ rfl _⟩
theorem take_form (g n t : Nat) (c : UInt8) (w : World) (ht0 : 0 < t) (ht : t ≤ 9) (hc : c.toNat = 0) (h : Tk w g n t 0) :
    Calls Try.prog 80 #[.pointer (some ⟨g, 0, none⟩), .int .u8 (B c)] w fun e w' => e = .returned (.tuple #[.bool false, .int .i64 13]) ∧ Tk w' g n (t + 1) 2 ∧ w.grownBy w' (some g) := by
  have c2 : w.cell? ⟨g, 2, none⟩ = some (.int .i64 0) := h.c2
  have c1 := h.c1
  have f1 := h.free 1
  have hcc : (B c == 0) = true := by rw [beq_iff_eq]; unfold B; omega
  have hc1 : ¬ 1 < B c := by unfold B; omega
  have h1 := h.set1 (t + 1)
  have c1' : (w.setCell ⟨g, 1, none⟩ (.int .i64 ((t : Int) + 1))).cell? ⟨g, 1, none⟩ = some (.int .i64 ((t : Int) + 1)) := h1.c1
  have f2 : (w.setCell ⟨g, 1, none⟩ (.int .i64 ((t : Int) + 1))).frozen? ⟨g, 2, none⟩ = false := h1.free 2
  have c2' : (w.setCell ⟨g, 1, none⟩ (.int .i64 ((t : Int) + 1))).cell? ⟨g, 2, none⟩ = some (.int .i64 0) := h1.c2
  have H1 := Lib.hid h1; clear h1 h hc
  by_cases h9 : t = 9
  · have f10 : ((t : Int) + 1 == 10) = true := by rw [beq_iff_eq]; omega
    clear h9
    go_enter Try.func80, Try.ntmps80
    go_wp2_with fail
    go_ret2
    exact ⟨rfl, H1.out.set2 2, grown_setc (grown_setc (World.grownBy.refl _ _) ⟨g, 1, none⟩ rfl _) ⟨g, 2, none⟩ rfl _⟩
  · have f10 : ((t : Int) + 1 == 10) = false := by rw [beq_eq_false_iff_ne]; omega
    clear h9
    go_enter Try.func80, Try.ntmps80
    go_wp2_with fail
    go_ret2
    exact ⟨rfl, H1.out.set2 2, grown_setc (grown_setc (World.grownBy.refl _ _) ⟨g, 1, none⟩ rfl _) ⟨g, 2, none⟩ rfl _⟩

/-- the sevens of a byte -/
theorem and127 (c : UInt8) : bits .and .u8 (B c) 127 = ((c.toNat % 128 : Nat) : Int) := by
  have : ∀ k : Fin 256, bits .and .u8 ((k.val : Nat) : Int) 127 = ((k.val % 128 : Nat) : Int) := by decide +kernel
  exact this ⟨c.toNat, c.toNat_lt⟩
theorem or64 (a b : Nat) (ha : a < 2 ^ 64) (hb : b < 2 ^ 64) : bits .or .u64 (a : Int) (b : Int) = ((a ||| b : Nat) : Int) := by
  show IntKind.u64.wrap ((BitVec.ofInt 64 (a : Int) ||| BitVec.ofInt 64 (b : Int)).toNat : Int) = _
  rw [BitVec.ofInt_natCast, BitVec.ofInt_natCast, BitVec.toNat_or, BitVec.toNat_ofNat, BitVec.toNat_ofNat, Nat.mod_eq_of_lt ha, Nat.mod_eq_of_lt hb]
  have := Nat.or_lt_two_pow ha hb
  generalize a ||| b = z at *
  rw [IntKind.wrap_u64]; omega

theorem put_seven (n t : Nat) (c : UInt8) (ht : t ≤ 9) (hc1 : ¬ (t = 9 ∧ 1 < c.toNat)) (hn : n < 128 ^ t) : bits .or .u64 (n : Int) (IntKind.u64.wrap ((c.toNat : Int) % 128 * 2 ^ (7 * t))) = ((n + c.toNat % 128 * 128 ^ t : Nat) : Int) := by
  have hb : c.toNat % 128 * 128 ^ t < 18446744073709551616 := by
    have e9 : (128 : Nat) ^ 9 = 9223372036854775808 := by decide
    by_cases h9 : t = 9
    · subst h9
      have : c.toNat % 128 ≤ 1 := by omega
      have h4 : c.toNat % 128 * 128 ^ 9 ≤ 1 * 128 ^ 9 := Nat.mul_le_mul_right _ this
      omega
    · have h5 := go_small (c := c) hn
      have h6 : 128 ^ (t + 1) ≤ 128 ^ 9 := Nat.pow_le_pow_right (by decide) (by omega)
      omega
  have hn2 : n < 18446744073709551616 := by
    have e9 : (128 : Nat) ^ 9 = 9223372036854775808 := by decide
    have h6 : 128 ^ t ≤ 128 ^ 9 := Nat.pow_le_pow_right (by decide) ht
    omega
  have e1 : ((c.toNat : Int) % 128 * 2 ^ (7 * t)) = ((c.toNat % 128 * 128 ^ t : Nat) : Int) := by rw [pow128]; simp
  have e2 : IntKind.u64.wrap ((c.toNat % 128 * 128 ^ t : Nat) : Int) = ((c.toNat % 128 * 128 ^ t : Nat) : Int) := by
    generalize c.toNat % 128 * 128 ^ t = z at *
    rw [IntKind.wrap_u64]; omega
  rw [e1, e2, or64 _ _ hn2 hb]
  congr 1
  rw [pow128] at hn ⊢
  exact or_add hn

set_option maxRecDepth 100000 in
set_option maxHeartbeats 1000000 in
theorem take_go (g n t : Nat) (c : UInt8) (w : World) (ht : t ≤ 9) (hc1 : ¬ (t = 9 ∧ 1 < c.toNat)) (hc2 : ¬ (0 < t ∧ c.toNat = 0)) (hn : n < 128 ^ t) (h : Tk w g n t 0) :
    Calls Try.prog 80 #[.pointer (some ⟨g, 0, none⟩), .int .u8 (B c)] w fun e w' => e = .returned (.tuple #[.bool (decide (c.toNat < 128)), .int .i64 0]) ∧
      Tk w' g (n + c.toNat % 128 * 128 ^ t) (t + 1) (if c.toNat < 128 then 1 else 0) ∧ w.grownBy w' (some g) := by
  have c2 : w.cell? ⟨g, 2, none⟩ = some (.int .i64 0) := h.c2
  have c1 := h.c1
  have f1 := h.free 1
  have h1 := h.set1 (t + 1)
  have c1' : (w.setCell ⟨g, 1, none⟩ (.int .i64 ((t : Int) + 1))).cell? ⟨g, 1, none⟩ = some (.int .i64 ((t : Int) + 1)) := h1.c1
  have c0' : (w.setCell ⟨g, 1, none⟩ (.int .i64 ((t : Int) + 1))).cell? ⟨g, 0, none⟩ = some (.int .u64 n) := h1.c0
  have f0' : (w.setCell ⟨g, 1, none⟩ (.int .i64 ((t : Int) + 1))).frozen? ⟨g, 0, none⟩ = false := h1.free 0
  have h2 : Tk ((w.setCell ⟨g, 1, none⟩ (.int .i64 ((t : Int) + 1))).setCell ⟨g, 0, none⟩ (.int .u64 ((n + c.toNat % 128 * 128 ^ t : Nat) : Int))).drew g (n + c.toNat % 128 * 128 ^ t) (t + 1) 0 := (h1.set0 (n + c.toNat % 128 * 128 ^ t)).drew
  have g2 : w.grownBy ((w.setCell ⟨g, 1, none⟩ (.int .i64 ((t : Int) + 1))).setCell ⟨g, 0, none⟩ (.int .u64 ((n + c.toNat % 128 * 128 ^ t : Nat) : Int))).drew (some g) :=
    grown_drw (grown_setc (grown_setc (World.grownBy.refl _ _) ⟨g, 1, none⟩ rfl _) ⟨g, 0, none⟩ rfl _)
  have hv := put_seven n t c ht hc1 hn
  have H2 := Lib.hid h2; clear h2 h1 h
  have G2 := Lib.hid g2; clear g2
  have HV := Lib.hid hv; clear hv hn
  have r1 := and127 c
  by_cases hln : c.toNat < 128
  · rw [decide_eq_true hln, if_pos hln]
    have hlt : B c < 128 := by unfold B; omega
    have HLN := Lib.hid hln; clear hln
    by_cases h9 : t = 9
    · have f10 : ((t : Int) + 1 == 10) = true := by rw [beq_iff_eq]; omega
      have hle : ¬ 1 < B c := by unfold B; omega
      have ht0 : (1 : Int) < t + 1 := by omega
      have hcc : (B c == 0) = false := by rw [beq_eq_false_iff_ne]; unfold B; omega
      clear h9 hc1 hc2
      go_enter Try.func80, Try.ntmps80
      go_upto_region 10 with (fail)
      go_region
      rw [HV.out]
      generalize ((w.setCell ⟨g, 1, none⟩ (.int .i64 ((t : Int) + 1))).setCell ⟨g, 0, none⟩ (.int .u64 ((n + c.toNat % 128 * 128 ^ t : Nat) : Int))).drew = w2 at *
      have e2 : w2.cell? ⟨g, 2, none⟩ = some (.int .i64 0) := H2.out.c2
      have e3 := H2.out.free 2
      have e4 : (w2.setCell ⟨g, 2, none⟩ (.int .i64 1)).cell? ⟨g, 2, none⟩ = some (.int .i64 1) := (H2.out.set2 1).c2
      go_wp2_with fail
      go_ret2
      exact ⟨rfl, H2.out.set2 1, grown_setc G2.out ⟨g, 2, none⟩ rfl _⟩
    · have f10 : ((t : Int) + 1 == 10) = false := by rw [beq_eq_false_iff_ne]; omega
      by_cases h0 : t = 0
      · have ht0 : ¬ (1 : Int) < t + 1 := by omega
        clear h9 h0 hc1 hc2
        go_enter Try.func80, Try.ntmps80
        go_upto_region 10 with (fail)
        go_region
        rw [HV.out]
        generalize ((w.setCell ⟨g, 1, none⟩ (.int .i64 ((t : Int) + 1))).setCell ⟨g, 0, none⟩ (.int .u64 ((n + c.toNat % 128 * 128 ^ t : Nat) : Int))).drew = w2 at *
        have e2 : w2.cell? ⟨g, 2, none⟩ = some (.int .i64 0) := H2.out.c2
        have e3 := H2.out.free 2
        have e4 : (w2.setCell ⟨g, 2, none⟩ (.int .i64 1)).cell? ⟨g, 2, none⟩ = some (.int .i64 1) := (H2.out.set2 1).c2
        go_wp2_with fail
        go_ret2
        exact ⟨rfl, H2.out.set2 1, grown_setc G2.out ⟨g, 2, none⟩ rfl _⟩
      · have ht0 : (1 : Int) < t + 1 := by omega
        have hcc : (B c == 0) = false := by rw [beq_eq_false_iff_ne]; unfold B; omega
        clear h9 h0 hc1 hc2
        go_enter Try.func80, Try.ntmps80
        go_upto_region 10 with (fail)
        go_region
        rw [HV.out]
        generalize ((w.setCell ⟨g, 1, none⟩ (.int .i64 ((t : Int) + 1))).setCell ⟨g, 0, none⟩ (.int .u64 ((n + c.toNat % 128 * 128 ^ t : Nat) : Int))).drew = w2 at *
        have e2 : w2.cell? ⟨g, 2, none⟩ = some (.int .i64 0) := H2.out.c2
        have e3 := H2.out.free 2
        have e4 : (w2.setCell ⟨g, 2, none⟩ (.int .i64 1)).cell? ⟨g, 2, none⟩ = some (.int .i64 1) := (H2.out.set2 1).c2
        go_wp2_with fail
        go_ret2
        exact ⟨rfl, H2.out.set2 1, grown_setc G2.out ⟨g, 2, none⟩ rfl _⟩
  · rw [decide_eq_false hln, if_neg hln]
    have hlt : ¬ B c < 128 := by unfold B; omega
    have HLN := Lib.hid hln; clear hln
    by_cases h9 : t = 9
    · exfalso; have := HLN.out; omega
    · have f10 : ((t : Int) + 1 == 10) = false := by rw [beq_eq_false_iff_ne]; omega
      by_cases h0 : t = 0
      · have ht0 : ¬ (1 : Int) < t + 1 := by omega
        clear h9 h0 hc1 hc2
        go_enter Try.func80, Try.ntmps80
        go_upto_region 10 with (fail)
        go_region
        rw [HV.out]
        generalize ((w.setCell ⟨g, 1, none⟩ (.int .i64 ((t : Int) + 1))).setCell ⟨g, 0, none⟩ (.int .u64 ((n + c.toNat % 128 * 128 ^ t : Nat) : Int))).drew = w2 at *
        have e2 : w2.cell? ⟨g, 2, none⟩ = some (.int .i64 0) := H2.out.c2
        have e3 := H2.out.free 2
        have e4 : (w2.setCell ⟨g, 2, none⟩ (.int .i64 1)).cell? ⟨g, 2, none⟩ = some (.int .i64 1) := (H2.out.set2 1).c2
        go_wp2_with fail
        go_ret2
        exact ⟨rfl, H2.out, G2.out⟩
      · have ht0 : (1 : Int) < t + 1 := by omega
        have hcc : (B c == 0) = false := by rw [beq_eq_false_iff_ne]; unfold B; omega
        clear h9 h0 hc1 hc2
        go_enter Try.func80, Try.ntmps80
        go_upto_region 10 with (fail)
        go_region
        rw [HV.out]
        generalize ((w.setCell ⟨g, 1, none⟩ (.int .i64 ((t : Int) + 1))).setCell ⟨g, 0, none⟩ (.int .u64 ((n + c.toNat % 128 * 128 ^ t : Nat) : Int))).drew = w2 at *
        have e2 : w2.cell? ⟨g, 2, none⟩ = some (.int .i64 0) := H2.out.c2
        have e3 := H2.out.free 2
        have e4 : (w2.setCell ⟨g, 2, none⟩ (.int .i64 1)).cell? ⟨g, 2, none⟩ = some (.int .i64 1) := (H2.out.set2 1).c2
        go_wp2_with fail
        go_ret2
        exact ⟨rfl, H2.out, G2.out⟩
end Go.Proofs.Yteedjgjkldbbcaa
/- What a list shows at a place. No condition. -/
namespace Go.Proofs.Yteedjgjkldbbcaa
set_option linter.unusedVariables false
open Go.RowKit

theorem vdrop_cons {xs : List UInt8} {k : Nat} {x : UInt8} (h : xs[k]? = some x) : xs.drop k = x :: xs.drop (k + 1) := by
  obtain ⟨hk, e⟩ := List.getElem?_eq_some_iff.1 h
  rw [List.drop_eq_getElem_cons hk, e]
end Go.Proofs.Yteedjgjkldbbcaa
/- Read, the program's and the reference's: contracts. Conditions: the slice within reach. -/
namespace Go.Proofs.Yteedjgjkldbbcaa
set_option linter.unusedVariables false
open Go.RowKit

theorem vread_bad (a : Option Addr) (n c : Nat) (x : Int) (w : World) (hn : n ≤ 140737488351232) (hx : x < 0 ∨ (n : Int) < x) :
    Calls Try.prog 75 #[.slice a n c, .int .i64 x] w fun e w' => e = .returned (.tuple #[.int .u64 0, .int .i64 0, .int .i64 1]) ∧ w = w' := by
  by_cases h1 : x < 0
  · go_enter Try.func75, Try.ntmps75
    go_wp2_with fail
    go_step3
    go_wp2_with fail
    try rw [Exit.noGoto_ret]
    go_ret3
    exact ⟨rfl, rfl⟩
  · have h2 : (n : Int) < x := by omega
    clear hx
    go_enter Try.func75, Try.ntmps75
    go_wp2_with fail
    go_step3
    go_wp2_with fail
    try rw [Exit.noGoto_ret]
    go_ret3
    exact ⟨rfl, rfl⟩

set_option maxRecDepth 100000 in
set_option maxHeartbeats 1000000 in
theorem vread_any (a : Option Addr) (n c : Nat) (xs : List UInt8) (m : Nat) (w : World) (hn : n ≤ 1000000000000000) (hm : m ≤ n) (h : Sl Bf w a n c xs) :
    Calls Try.prog 75 #[.slice a n c, .int .i64 m] w fun e w' => e = .returned (.tuple #[.int .u64 (((rd (xs.drop m) 0 0).1 : Nat) : Int), .int .i64 ((m + (rd (xs.drop m) 0 0).2.1 : Nat) : Int), .int .i64 (rd (xs.drop m) 0 0).2.2]) ∧ Below w.heap.size w w' := by
  obtain rfl : n = xs.length := h.len.symm
  have H := Lib.hid h; clear h
  obtain ⟨R, hR⟩ : ∃ R, rd (xs.drop m) 0 0 = R := ⟨_, rfl⟩
  rw [hR]
  have g1 : ¬ ((m : Int) < 0) := by omega
  have g2 : ¬ ((xs.length : Int) < m) := by omega
  have g3 : decide ((m : Int) < 0) = false := decide_eq_false (by omega)
  have g4 : decide (xs.length < m) = false := decide_eq_false (by omega)
  have HR0 := Lib.hid hR; clear hR
  have t0 : Tk (w.alloc (.cells #[.int .u64 0, .int .i64 0, .int .i64 0] 105)) w.heap.size 0 0 0 := heap_new w _
  have b0 : Below w.heap.size w (w.alloc (.cells #[.int .u64 0, .int .i64 0, .int .i64 0] 105)) := (Below.refl _ _).alloc (Nat.le_refl _) _
  have T0 := Lib.hid t0; clear t0
  have B0 := Lib.hid b0; clear b0
  go_enter Try.func75, Try.ntmps75
  go_wp2_with fail
  go_step3
  go_wp2_with fail
  go_step3
  go_wp2_with fail
  go_loopw [8] (fun i wr => ∃ p k v : Nat, p = m + k ∧ p ≤ xs.length ∧ k ≤ 9 ∧ i = .int .i64 p ∧ Tk wr w.heap.size v k 0 ∧ v < 128 ^ k ∧ rd (xs.drop p) k v = R ∧ Below w.heap.size w wr) (fun i _ => xs.length - (intOf i).toNat)
  case atStart => exact ⟨m, 0, 0, rfl, hm, by omega, rfl, T0.out, by decide, HR0.out, B0.out⟩
  case round =>
    obtain ⟨p, k, v, hp, hpl, hk, rfl, ht, hv, hr, hb⟩ := hrel
    have HP := Lib.hid hp; clear hp
    have HT := Lib.hid ht; clear ht
    have HB := Lib.hid hb; clear hb
    clear HR0 T0 B0
    by_cases hlt : p < xs.length
    · obtain ⟨x, b, o, hx, rfl, hc⟩ := (H.out.keep HB.out).at p hlt
      have hc : wr.cell? ⟨b, o + p, none⟩ = some (.int .u8 (B x)) := hc
      rw [vdrop_cons hx] at hr
      clear hx
      by_cases c1 : k = 9 ∧ 1 < x.toNat
      · obtain ⟨rfl, c1⟩ := c1
        rw [rd_long ⟨rfl, c1⟩] at hr
        have HRR := Lib.hid hr; clear hr
        go_wp2_with fail
        refine (take_long _ _ x _ c1 HT.out).mono ?_
        rintro e w2 ⟨rfl, _, hg⟩
        have G := Lib.hid (HB.out.grown hg HB.out.size (fun j hj => by cases hj; exact Nat.le_refl _)); clear hg
        go_wp2_with fail
        try rw [Exit.noGoto_ret]
        go_ret3
        refine ⟨?_, G.out⟩
        rw [← HRR.out, ← HP.out]; rfl
      · by_cases c2 : 0 < k ∧ x.toNat = 0
        · rw [rd_form c2] at hr
          have HRR := Lib.hid hr; clear hr
          go_wp2_with fail
          refine (take_form _ _ k x _ c2.1 hk c2.2 HT.out).mono ?_
          rintro e w2 ⟨rfl, _, hg⟩
          have G := Lib.hid (HB.out.grown hg HB.out.size (fun j hj => by cases hj; exact Nat.le_refl _)); clear hg
          go_wp2_with fail
          try rw [Exit.noGoto_ret]
          go_ret3
          refine ⟨?_, G.out⟩
          rw [← HRR.out, ← HP.out]; rfl
        · by_cases c3 : x.toNat < 128
          · rw [rd_last c1 c2 c3] at hr
            have HRR := Lib.hid hr; clear hr
            have hgo := take_go w.heap.size v k x wr hk c1 c2 hv HT.out
            rw [if_pos c3, decide_eq_true c3] at hgo
            have HGO := Lib.hid hgo; clear hgo c1 c2 c3
            go_wp2_with fail
            refine HGO.out.mono ?_
            rintro e w2 ⟨rfl, ht2, hg⟩
            have G := Lib.hid (HB.out.grown hg HB.out.size (fun j hj => by cases hj; exact Nat.le_refl _)); clear hg
            have c0 := ht2.c0
            clear ht2
            go_wp2_with fail
            try rw [Exit.noGoto_ret]
            go_ret3
            refine ⟨?_, G.out⟩
            rw [← HRR.out]
            show _ = Ending.returned (.tuple #[_, .int .i64 ((m + (k + 1) : Nat) : Int), _])
            rw [← Nat.add_assoc, ← HP.out]; rfl
          · rw [rd_go c1 c2 c3] at hr
            have hv2 := go_small (c := x) hv
            have hk9 : k ≠ 9 := fun e => c1 ⟨e, by omega⟩
            have HRR := Lib.hid hr; clear hr
            have HV2 := Lib.hid hv2; clear hv2
            have hgo := take_go w.heap.size v k x wr hk c1 c2 hv HT.out
            rw [if_neg c3, decide_eq_false c3] at hgo
            have HGO := Lib.hid hgo; clear hgo c1 c2 c3
            go_wp2_with fail
            refine HGO.out.mono ?_
            rintro e w2 ⟨rfl, ht2, hg⟩
            have G := Lib.hid (HB.out.grown hg HB.out.size (fun j hj => by cases hj; exact Nat.le_refl _)); clear hg
            have HT2 := Lib.hid ht2; clear ht2
            go_wp2_with fail
            go_roundw
            case rel => exact ⟨p + 1, k + 1, _, by have := HP.out; omega, by omega, by omega, by go_num, HT2.out, HV2.out, HRR.out, G.out⟩
            case measure => simp [intOf]; omega
    · have hpe : xs.drop p = [] := List.drop_of_length_le (by omega)
      rw [hpe, rd_nil] at hr
      have HRR := Lib.hid hr; clear hr hpe
      have f1 : ((p : Int) == (xs.length : Int)) = true := by rw [beq_iff_eq]; omega
      have f2 : (p == xs.length) = true := by rw [beq_iff_eq]; omega
      go_wp2_with fail
      try rw [Exit.noGoto_ret]
      go_ret3
      refine ⟨?_, HB.out⟩
      rw [← HRR.out, ← HP.out]; rfl
end Go.Proofs.Yteedjgjkldbbcaa
/- Whoever has entries writes over them: contract of the reference's Spoil. Conditions: the entries lie in memory of their own. Written by a program of this place (gen_EntSpoil.py). -/
namespace Go.Proofs.Yteedjgjkldbbcaa
open Go.RowKit
set_option linter.unusedVariables false

/-- a text's block holds bytes -/
def KbE (w : World) (gl lo hi : Nat) (s : Sv) : Prop :=
  (s.1 = none ∧ s.2.2 = 0) ∨ ∃ (g : Nat) (bs : List UInt8), s.1 = some ⟨g, 0, none⟩ ∧ w.heap[g]? = some (.cells (bs.map Bf).toArray 5 (0, 0)) ∧ bs.length = s.2.2 ∧ g ≠ gl ∧ lo ≤ g ∧ g < hi ∧ s.2.2 ≤ 9223372036854775807
theorem KbE.setB {w : World} {gl lo hi g i : Nat} {s : Sv} (h : KbE w gl lo hi s) {y : UInt8} : KbE (w.setCell ⟨g, i, none⟩ (.int .u8 (B y))) gl lo hi s := by
  rcases h with h | ⟨g', bs, h1, h2, h3, h4⟩
  · exact .inl h
  · by_cases e : g' = g
    · subst e
      refine .inr ⟨g', bs.set i y, h1, ?_, by rw [List.length_set]; exact h3, h4⟩
      rw [set_block h2]
      congr 2
      apply Array.ext'
      rw [Array.toList_setIfInBounds]
      simp only [List.map_set]
    · exact .inr ⟨g', bs, h1, (Below.heap_setCell w ⟨g, i, none⟩ _ g' (by exact e)).trans h2, h3, h4⟩
theorem KbE.setL {w : World} {gl lo hi i : Nat} {s : Sv} (h : KbE w gl lo hi s) {v : Value} : KbE (w.setCell ⟨gl, i, none⟩ v) gl lo hi s := by
  rcases h with h | ⟨g', bs, h1, h2, h3, h4, h5⟩
  · exact .inl h
  · exact .inr ⟨g', bs, h1, (Below.heap_setCell w ⟨gl, i, none⟩ _ g' h4).trans h2, h3, h4, h5⟩
theorem KbE.cap {w : World} {gl lo hi : Nat} {s : Sv} (h : KbE w gl lo hi s) : s.2.2 ≤ 9223372036854775807 := by
  rcases h with ⟨_, h⟩ | ⟨_, _, _, _, _, _, _, _, h⟩
  · omega
  · exact h
theorem KbE.of_own {w : World} {lo hi gl : Nat} {s : Sv} {e : TypeId} {xs : List UInt8} {n : Nat} (he : e = 5) (h : OwT fB w lo e (.slice s.1 n s.2.2) xs) (hb : ∀ j, Value.ownBlock (.slice s.1 n s.2.2) = some j → lo ≤ j ∧ j < hi) (hf : Off (.slice s.1 n s.2.2) gl) : KbE w gl lo hi s := by
  subst he
  rcases h with ⟨e, _⟩ | ⟨g, cap, ys, e, hg, hh, hl, hn, hc, ht⟩
  · left
    injection e with e1 e2 e3
    exact ⟨e1, e3⟩
  · right
    injection e with e1 e2 e3
    have hob : Value.ownBlock (.slice s.1 n s.2.2) = some g := by rw [e1]; rfl
    refine ⟨g, ys, e1, by rw [hh, flat_fB], by rw [hl, e3], hf g hob, (hb g hob).1, (hb g hob).2, ?_⟩
    rw [e3]; unfold maxLen at hc; omega
/-- a list of entries that may be written over -/
def SpE (w : World) (lo hi : Nat) (a : Option Addr) (n c : Nat) : Prop :=
  (a = none ∧ n = 0 ∧ c = 0) ∨ ∃ (gl : Nat) (ys : List (Sv × Sv)), a = some ⟨gl, 0, none⟩ ∧ w.heap[gl]? = some (.cells (ys.flatMap fE).toArray 41 (0, 0)) ∧ ys.length = c ∧ n ≤ c ∧ c ≤ 9223372036854775807 ∧ lo ≤ gl ∧ gl < hi ∧ ∀ x, x ∈ ys → KbE w gl lo hi x.1 ∧ KbE w gl lo hi x.2
theorem eflat_at {ys : List (Sv × Sv)} {k : Nat} {x : Sv × Sv} (h : ys[k]? = some x) (j : Nat) (hj : j < 2) : (ys.flatMap fE)[k * 2 + j]? = (fE x)[j]? := by
  have := flat_get fE_len ys k x j ((fE x)[j]'(by rw [fE_len]; exact hj)) h (List.getElem?_eq_getElem _)
  rw [this]; exact (List.getElem?_eq_getElem _).symm
theorem eflat_set2 {ys : List (Sv × Sv)} {k : Nat} {x : Sv × Sv} (hk : k < ys.length) (a b : Value) (hx : fE x = [a, b]) : (((ys.flatMap fE).set (k * 2) a).set (k * 2 + 1) b) = (ys.set k x).flatMap fE := by
  induction ys generalizing k with
  | nil => simp at hk
  | cons y r ih =>
    cases k with
    | zero => rw [List.set_cons_zero, List.flatMap_cons, List.flatMap_cons, hx]; rfl
    | succ k =>
      have e := ih (k := k) (by simpa using hk)
      rw [List.set_cons_succ, List.flatMap_cons, List.flatMap_cons, ← e]
      have s : ∀ (l : List Value) (i : Nat) (v : Value), (fE y ++ l).set (i + 2) v = fE y ++ l.set i v := by
        intro l i v
        rw [List.set_append_right _ _ (by rw [fE_len]; omega), fE_len]
        rfl
      rw [show (k + 1) * 2 = k * 2 + 2 by omega, show k * 2 + 2 + 1 = k * 2 + 1 + 2 by omega, s, s]
theorem erow_cells {w : World} {gl : Nat} {t : TypeId} {cs : Array Value} (h : w.heap[gl]? = some (.cells cs t (0, 0))) (i : Nat) (hi : i < cs.size) (v : Value) :
    (∃ u, w.cell? ⟨gl, i, none⟩ = some u ∧ w.frozen? ⟨gl, i, none⟩ = false) ∧ (w.setCell ⟨gl, i, none⟩ v).heap[gl]? = some (.cells (cs.setIfInBounds i v) t (0, 0)) :=
  ⟨⟨cs[i], cell_of h i (Array.getElem?_eq_getElem hi), free_block h i⟩, set_block (i := i) h v⟩
theorem erow_set2 {w : World} {gl : Nat} {ys : List (Sv × Sv)} {t : TypeId} (h : w.heap[gl]? = some (.cells (ys.flatMap fE).toArray t (0, 0))) {k : Nat} (hk : k < ys.length) (x : Sv × Sv) {s1 s2 : Value} (hx : fE x = [s1, s2]) :
    ∃ v0 v1, (w.cell? ⟨gl, k * 2, none⟩ = some v0 ∧ w.frozen? ⟨gl, k * 2, none⟩ = false) ∧ ((w.setCell ⟨gl, k * 2, none⟩ s1).cell? ⟨gl, k * 2 + 1, none⟩ = some v1 ∧ (w.setCell ⟨gl, k * 2, none⟩ s1).frozen? ⟨gl, k * 2 + 1, none⟩ = false) ∧
      ((w.setCell ⟨gl, k * 2, none⟩ s1).setCell ⟨gl, k * 2 + 1, none⟩ s2).heap[gl]? = some (.cells ((ys.set k x).flatMap fE).toArray t (0, 0)) := by
  have hl : (ys.flatMap fE).length = ys.length * 2 := flat_length fE_len ys
  obtain ⟨cs, hcs⟩ : ∃ cs, (ys.flatMap fE).toArray = cs := ⟨_, rfl⟩
  have hsz : cs.size = ys.length * 2 := by rw [← hcs, List.size_toArray, hl]
  rw [hcs] at h
  obtain ⟨⟨v0, c0⟩, h1⟩ := erow_cells h (k * 2) (by omega) s1
  obtain ⟨⟨v1, c1⟩, h2⟩ := erow_cells h1 (k * 2 + 1) (by rw [Array.size_setIfInBounds]; omega) s2
  refine ⟨v0, v1, c0, c1, ?_⟩
  rw [h2, ← hcs]
  congr 2
  apply Array.ext'
  simp only [Array.toList_setIfInBounds]
  exact eflat_set2 hk _ _ hx
set_option maxHeartbeats 4000000 in
set_option maxRecDepth 100000 in
theorem espoil_any (a : Option Addr) (n c : Nat) (lo hi : Nat) (w : World) (h : SpE w lo hi a n c) :
    Calls Try.prog 20 #[.slice a n c] w fun e w' => e = .returned (.tuple #[]) ∧ Turns (fun j => lo ≤ j ∧ j < hi) w w' := by
  rcases h with ⟨rfl, rfl, rfl⟩ | ⟨gl, ys, rfl, hb, hyl, hnc, hcm2, hl1, hl2, hkb⟩
  · have hcut := fun W : World => run_cutE W none 0 0 .i64 0 (Nat.le_refl _)
    have hcap : ∀ W : World, (Builtin.cap_ #[22] 3 #[.slice none 0 0]).run Try.prog W = .ok (goInt 0) W := fun W => run_cap_slice W _ _ _ _ _ Try.underlying22
    go_enter Try.func20, Try.ntmps20
    go_wp2_with fail
    go_loopw [2] (fun i wr => i = .int .i64 0 ∧ Turns (fun j => lo ≤ j ∧ j < hi) w wr) (fun _ _ => 0)
    case atStart => exact ⟨rfl, Turns.refl _ _⟩
    case round =>
      obtain ⟨rfl, hc⟩ := hrel
      have C := Lib.hid hc; clear hc
      go_wp2_with fail
      go_end0
      exact ⟨rfl, C.out⟩
  · have HB := Lib.hid hb
    have HKB := Lib.hid hkb
    have HYL := Lib.hid hyl
    have hcut := fun W : World => run_cutE W (some ⟨gl, 0, none⟩) n c .i64 c (Nat.le_refl _)
    have hcap : ∀ W : World, (Builtin.cap_ #[22] 3 #[.slice (some ⟨gl, 0, none⟩) n c]).run Try.prog W = .ok (goInt c) W := fun W => run_cap_slice W _ _ _ _ _ Try.underlying22
    clear hb hkb hyl
    go_enter Try.func20, Try.ntmps20
    go_wp2_with fail
    go_loopw [2] (fun i wr => ∃ (k : Nat) (ys : List (Sv × Sv)), k ≤ c ∧ i = .int .i64 (k : Nat) ∧ ys.length = c ∧ wr.heap[gl]? = some (.cells (ys.flatMap fE).toArray 41 (0, 0)) ∧ (∀ x, x ∈ ys → KbE wr gl lo hi x.1 ∧ KbE wr gl lo hi x.2) ∧ Turns (fun j => lo ≤ j ∧ j < hi) w wr) (fun i _ => c - (intOf i).toNat)
    case atStart => exact ⟨0, ys, Nat.zero_le _, rfl, HYL.out, HB.out, HKB.out, Turns.refl _ _⟩
    case round =>
      clear HB HKB HYL
      obtain ⟨k, zs, hk, rfl, hzl, hb, hkb, hc⟩ := hrel
      have C := Lib.hid hc
      have L := Lib.hid hb
      have KB := Lib.hid hkb
      have HZL := Lib.hid hzl
      clear hc hkb
      by_cases hlt : k < c
      · obtain ⟨⟨⟨ax, nx, cx⟩, ⟨ay, ny, cy⟩⟩, hx⟩ : ∃ e, zs[k]? = some e := ⟨_, List.getElem?_eq_getElem (by rw [hzl]; exact hlt)⟩
        obtain ⟨hkx, hky⟩ := KB.out _ (List.mem_of_getElem? hx)
        dsimp only at hkx hky
        have hcx : cx ≤ 9223372036854775807 := hkx.cap
        have hcy : cy ≤ 9223372036854775807 := hky.cap
        have HX := Lib.hid hkx
        have HY := Lib.hid hky
        have HXX := Lib.hid hx
        have hcut2 := fun W : World => run_cutto eltB W ax nx cx .i64 cx (Nat.le_refl _)
        have hcap2 : ∀ W : World, (Builtin.cap_ #[25] 3 #[.slice ax nx cx]).run Try.prog W = .ok (goInt cx) W := fun W => run_cap_slice W _ _ _ _ _ Try.underlying25
        have c0 : wr.cell? ⟨gl, k * 2, none⟩ = some (.slice ax nx cx) := by
          have := eflat_at hx 0 (by omega)
          exact cell_of hb (k * 2) (by simpa [sv] using this)
        clear hb hx hkx hky hzl hcut hcap
        go_wp2_with fail
        go_quiet (fail)
        go_wp2_with fail
        replace C := Lib.hid (C.out.drewN nq)
        replace L : Hid ((wr.drewN nq).heap[gl]? = some (.cells (zs.flatMap fE).toArray 41 (0, 0))) := L
        replace KB : Hid (∀ x, x ∈ zs → KbE (wr.drewN nq) gl lo hi x.1 ∧ KbE (wr.drewN nq) gl lo hi x.2) := KB
        replace HX : Hid (KbE (wr.drewN nq) gl lo hi (ax, nx, cx)) := HX
        replace HY : Hid (KbE (wr.drewN nq) gl lo hi (ay, ny, cy)) := HY
        clear c0 hcut2 hcap2
        generalize wr.drewN nq = w2 at *
        go_loopw [4] (fun i wr => ∃ m : Nat, m ≤ cx ∧ i = .int .i64 (m : Nat) ∧ wr.heap[gl]? = some (.cells (zs.flatMap fE).toArray 41 (0, 0)) ∧ ((∀ x, x ∈ zs → KbE wr gl lo hi x.1 ∧ KbE wr gl lo hi x.2) ∧ KbE wr gl lo hi (ax, nx, cx) ∧ KbE wr gl lo hi (ay, ny, cy)) ∧ Turns (fun j => lo ≤ j ∧ j < hi) w wr) (fun i _ => cx - (intOf i).toNat)
        case atStart => exact ⟨0, Nat.zero_le _, rfl, L.out, ⟨KB.out, HX.out, HY.out⟩, C.out⟩
        case round =>
          clear L KB HX HY C
          obtain ⟨m, hm, rfl, hb, ⟨hkb, hkx, hky⟩, hc⟩ := hrel
          have C := Lib.hid hc
          have L := Lib.hid hb
          have KB := Lib.hid hkb
          have HX := Lib.hid hkx
          have HY := Lib.hid hky
          clear hc hkb
          by_cases hlt2 : m < cx
          · rcases hkx with ⟨_, h⟩ | ⟨g, bs, e1, hg, hbl, hne, hg1, hg2, _⟩
            · have h : cx = 0 := h; omega
            · have e1 : ax = some ⟨g, 0, none⟩ := e1
              subst e1
              have hbl : bs.length = cx := hbl
              obtain ⟨y, hy⟩ : ∃ e, bs[m]? = some e := ⟨_, List.getElem?_eq_getElem (by omega)⟩
              have c0 : wr.cell? ⟨g, m, none⟩ = some (.int .u8 (B y)) := cell_of hg m (by simp [hy])
              have f0 := free_block hg m
              have hyx : bits .xor .u8 (B y) 255 = B (y ^^^ 255) := B_xor y 255
              have L2 := Lib.hid ((Below.heap_setCell wr ⟨g, m, none⟩ (.int .u8 (B (y ^^^ 255))) gl (fun e => hne e.symm)).trans L.out)
              have KB2 := Lib.hid (show ∀ x, x ∈ zs → KbE (wr.setCell ⟨g, m, none⟩ (.int .u8 (B (y ^^^ 255)))) gl lo hi x.1 ∧ KbE (wr.setCell ⟨g, m, none⟩ (.int .u8 (B (y ^^^ 255)))) gl lo hi x.2 from fun x hx => ⟨(KB.out x hx).1.setB, (KB.out x hx).2.setB⟩)
              have HX2 := Lib.hid (HX.out.setB (g := g) (i := m) (y := y ^^^ 255))
              have HY2 := Lib.hid (HY.out.setB (g := g) (i := m) (y := y ^^^ 255))
              have C2 := Lib.hid (C.out.trans (Turns.set (S := fun j => lo ≤ j ∧ j < hi) wr (b := g) (i := m) ⟨hg1, hg2⟩ (.int .u8 (B (y ^^^ 255)))) fun _ _ e => e)
              clear hb hg hbl hy HX HY KB hky
              go_wp2_with fail
              go_roundw
              case rel => exact ⟨m + 1, by omega, by go_num, L2.out, ⟨KB2.out, HX2.out, HY2.out⟩, C2.out⟩
              case measure => simp [intOf]; omega
          · have c0 : wr.cell? ⟨gl, k * 2 + 1, none⟩ = some (.slice ay ny cy) := by
              have := eflat_at HXX.out 1 (by omega)
              exact cell_of hb (k * 2 + 1) (by simpa [sv] using this)
            have hcut2 := fun W : World => run_cutto eltB W ay ny cy .i64 cy (Nat.le_refl _)
            have hcap2 : ∀ W : World, (Builtin.cap_ #[25] 3 #[.slice ay ny cy]).run Try.prog W = .ok (goInt cy) W := fun W => run_cap_slice W _ _ _ _ _ Try.underlying25
            obtain ⟨wo, rfl⟩ : ∃ wo : World, wo = wr := ⟨_, rfl⟩
            clear hb hkx hky
            go_wp2_with fail
            go_quiet (fail)
            go_wp2_with fail
            replace C := Lib.hid (C.out.drewN nq)
            replace L : Hid ((wo.drewN nq).heap[gl]? = some (.cells (zs.flatMap fE).toArray 41 (0, 0))) := L
            replace KB : Hid (∀ x, x ∈ zs → KbE (wo.drewN nq) gl lo hi x.1 ∧ KbE (wo.drewN nq) gl lo hi x.2) := KB
            replace HX : Hid (KbE (wo.drewN nq) gl lo hi (ax, nx, cx)) := HX
            replace HY : Hid (KbE (wo.drewN nq) gl lo hi (ay, ny, cy)) := HY
            clear c0 hcut2 hcap2
            generalize wo.drewN nq = w3 at *
            go_loopw [6] (fun i wr => ∃ m : Nat, m ≤ cy ∧ i = .int .i64 (m : Nat) ∧ wr.heap[gl]? = some (.cells (zs.flatMap fE).toArray 41 (0, 0)) ∧ ((∀ x, x ∈ zs → KbE wr gl lo hi x.1 ∧ KbE wr gl lo hi x.2) ∧ KbE wr gl lo hi (ax, nx, cx) ∧ KbE wr gl lo hi (ay, ny, cy)) ∧ Turns (fun j => lo ≤ j ∧ j < hi) w wr) (fun i _ => cy - (intOf i).toNat)
            case atStart => exact ⟨0, Nat.zero_le _, rfl, L.out, ⟨KB.out, HX.out, HY.out⟩, C.out⟩
            case round =>
              clear L KB HX HY C
              obtain ⟨m, hm, rfl, hb, ⟨hkb, hkx, hky⟩, hc⟩ := hrel
              have C := Lib.hid hc
              have L := Lib.hid hb
              have KB := Lib.hid hkb
              have HX := Lib.hid hkx
              have HY := Lib.hid hky
              clear hc hkb
              by_cases hlt2 : m < cy
              · rcases hky with ⟨_, h⟩ | ⟨g, bs, e1, hg, hbl, hne, hg1, hg2, _⟩
                · have h : cy = 0 := h; omega
                · have e1 : ay = some ⟨g, 0, none⟩ := e1
                  subst e1
                  have hbl : bs.length = cy := hbl
                  obtain ⟨y, hy⟩ : ∃ e, bs[m]? = some e := ⟨_, List.getElem?_eq_getElem (by omega)⟩
                  have c0 : wr.cell? ⟨g, m, none⟩ = some (.int .u8 (B y)) := cell_of hg m (by simp [hy])
                  have f0 := free_block hg m
                  have hyx : bits .xor .u8 (B y) 255 = B (y ^^^ 255) := B_xor y 255
                  have L2 := Lib.hid ((Below.heap_setCell wr ⟨g, m, none⟩ (.int .u8 (B (y ^^^ 255))) gl (fun e => hne e.symm)).trans L.out)
                  have KB2 := Lib.hid (show ∀ x, x ∈ zs → KbE (wr.setCell ⟨g, m, none⟩ (.int .u8 (B (y ^^^ 255)))) gl lo hi x.1 ∧ KbE (wr.setCell ⟨g, m, none⟩ (.int .u8 (B (y ^^^ 255)))) gl lo hi x.2 from fun x hx => ⟨(KB.out x hx).1.setB, (KB.out x hx).2.setB⟩)
                  have HX2 := Lib.hid (HX.out.setB (g := g) (i := m) (y := y ^^^ 255))
                  have HY2 := Lib.hid (HY.out.setB (g := g) (i := m) (y := y ^^^ 255))
                  have C2 := Lib.hid (C.out.trans (Turns.set (S := fun j => lo ≤ j ∧ j < hi) wr (b := g) (i := m) ⟨hg1, hg2⟩ (.int .u8 (B (y ^^^ 255)))) fun _ _ e => e)
                  clear hb hg hbl hy HX HY KB hkx
                  go_wp2_with fail
                  go_roundw
                  case rel => exact ⟨m + 1, by omega, by go_num, L2.out, ⟨KB2.out, HX2.out, HY2.out⟩, C2.out⟩
                  case measure => simp [intOf]; omega
              · obtain ⟨v0, v1, ⟨c0, f0⟩, ⟨c1, f1⟩, hF⟩ := erow_set2 L.out (k := k) (by rw [HZL.out]; exact hlt) ((none, 0, 0), (none, 0, 0)) (s1 := .slice none 0 0) (s2 := .slice none 0 0) rfl
                have HF := Lib.hid hF
                have KF := Lib.hid (show ∀ x, x ∈ zs.set k ((none, 0, 0), (none, 0, 0)) → KbE ((wr.setCell ⟨gl, k * 2, none⟩ (.slice none 0 0)).setCell ⟨gl, k * 2 + 1, none⟩ (.slice none 0 0)) gl lo hi x.1 ∧ KbE ((wr.setCell ⟨gl, k * 2, none⟩ (.slice none 0 0)).setCell ⟨gl, k * 2 + 1, none⟩ (.slice none 0 0)) gl lo hi x.2 from fun x hx => by
                  rcases List.mem_or_eq_of_mem_set hx with h | h
                  · exact ⟨((KB.out x h).1.setL).setL, ((KB.out x h).2.setL).setL⟩
                  · subst h; exact ⟨.inl ⟨rfl, rfl⟩, .inl ⟨rfl, rfl⟩⟩)
                have CF := Lib.hid ((C.out.trans (Turns.set (S := fun j => lo ≤ j ∧ j < hi) wr (b := gl) (i := k * 2) ⟨hl1, hl2⟩ (.slice none 0 0)) fun _ _ e => e).trans (Turns.set (S := fun j => lo ≤ j ∧ j < hi) _ (b := gl) (i := k * 2 + 1) ⟨hl1, hl2⟩ (.slice none 0 0)) fun _ _ e => e)
                clear hF hb hkx hky HX HY KB
                go_wp2_with fail
                go_roundw
                case rel => exact ⟨k + 1, _, by omega, by go_num, by rw [List.length_set]; exact HZL.out, HF.out, KF.out, CF.out⟩
                case measure => simp [intOf]; omega
      · go_wp2_with fail
        go_end0
        exact ⟨rfl, C.out⟩
end Go.Proofs.Yteedjgjkldbbcaa
/- Copy of entries, its memory told whole: contract. Conditions: the entries within reach. -/
namespace Go.Proofs.Yteedjgjkldbbcaa
open Go.RowKit
set_option linter.unusedVariables false

abbrev zE : Sv × Sv := ((none, 0, 0), (none, 0, 0))
theorem zE_ok : ∃ i z, Try.prog.info? 41 = some i ∧ i.zero = some z ∧ z.cells.toList = fE zE := by
  have hi : (Try.prog.info? 41).map (fun i => (i.zero, i.size, i.bytes)) = some (some (.agg #[.slice none 0 0, .slice none 0 0]), 2, 48) := by kernel_rfl
  obtain ⟨i, hi1, hi2, hi3, hi4⟩ := info_parts hi
  exact ⟨i, _, hi1, hi2, rfl⟩
theorem OwZ.made {w1 : World} {g m : Nat} {x0 : Sv × Sv} (hh : w1.heap[g]? = some (.cells ((List.replicate m x0).flatMap fE).toArray 41 (0, 0))) (hz : ∃ i z, Try.prog.info? 41 = some i ∧ i.zero = some z ∧ z.cells.toList = fE x0) (hm : m ≤ maxLen) :
    OwZ fE zE w1 g 41 (.slice (some ⟨g, 0, none⟩) 0 m) [] := by
  obtain ⟨i, z, e1, e2, e3⟩ := hz
  obtain ⟨i', z', f1, f2, f3⟩ := zE_ok
  rw [e1] at f1; cases f1
  rw [e2] at f2; cases f2
  have e : fE x0 = fE zE := e3.symm.trans f3
  have er : (List.replicate m x0).flatMap fE = (List.replicate m zE).flatMap fE := by
    clear hh hm
    induction m with
    | zero => rfl
    | succ m ih => rw [List.replicate_succ, List.replicate_succ, List.flatMap_cons, List.flatMap_cons, ih, e]
  exact .inr ⟨g, m, rfl, Nat.le_refl _, by rw [hh, er]; simp, Nat.zero_le _, hm⟩
set_option maxHeartbeats 1000000 in
set_option maxRecDepth 100000 in
theorem copyZ_any (a : Option Addr) (n c : Nat) (es : List Ent) (w : World) (hn : n ≤ 2932031007317) (hf : Fit 140737488351232 es) (h : Ents w a n c es) :
    Calls Try.prog 12 #[.slice a n c] w fun e w' => ∃ a2 c2, e = .returned (.slice a2 n c2) ∧ (Cpy w' w.heap.size w'.heap.size (a2, n, c2) es ∧ SpE w' w.heap.size w'.heap.size a2 n c2) ∧ Below w.heap.size w w' := by
  obtain rfl : n = es.length := h.1.symm
  have H := Lib.hid h; clear h
  have HF := Lib.hid hf; clear hf
  obtain ⟨m, hm⟩ : ∃ m, es.length + 1 = m := ⟨_, rfl⟩
  have hm1 : ((es.length : Int) + 1) = (m : Int) := by omega
  have HM1 := Lib.hid hm1; clear hm1
  have hm2 : m ≤ 2932031007318 := by omega
  have hm3 : es.length ≤ m := by omega
  have HM := Lib.hid hm; clear hm
  go_enter Try.func12, Try.ntmps12
  go_wp2_with (at_make; refine wpList_mkT eltTE rfl _ _ rfl w.heap.size 0 m (Nat.zero_le _) rfl rfl rfl HM1.out (by omega) (by unfold maxLen; omega) (Nat.le_refl _) ?_; intro x0 w1 hh1 _ hz1 hb1; have HH1 := Lib.hid hh1; have HZ1 := Lib.hid hz1; have B1 := Lib.hid hb1; clear hh1 hz1 hb1)
  have O1 := Lib.hid (OwZ.made HH1.out HZ1.out (by unfold maxLen; omega))
  clear HH1 HZ1
  go_loopw [3, 4] (fun s i wr => ∃ (k : Nat) (vs : List (Sv × Sv)), k ≤ es.length ∧ i = .int .i64 k ∧ vs.length = k ∧ OwZ fE zE wr w.heap.size 41 s vs ∧ Txts wr w.heap.size wr.heap.size s vs es ∧ Below w.heap.size w wr) (fun _ i _ => es.length - (intOf i).toNat)
  case atStart => exact ⟨0, [], Nat.zero_le _, rfl, rfl, O1.out, Txts.nil _ _ _ _ _, B1.out⟩
  case round =>
    obtain ⟨k, vs, hk, rfl, hvk, ho, ht, hb⟩ := hrel
    have B := Lib.hid hb; clear hb B1 O1
    have T := Lib.hid ht; clear ht
    have hlo := B.out.size
    obtain ⟨a1, n1, c1, rfl, hn1, hc1⟩ := ho.t.slE
    obtain rfl : k = n1 := by omega
    have HVK := Lib.hid hvk; clear hvk hn1
    have O := Lib.hid ho; clear ho
    by_cases hlt : k < es.length
    · obtain ⟨⟨kk, vv⟩, he⟩ : ∃ e, es[k]? = some e := ⟨_, List.getElem?_eq_getElem hlt⟩
      obtain ⟨b, o, ak, nk, ck, av, nv, cv, rfl, c0, c1', s0, s1⟩ := (H.out.keep B.out).2.2.2 k kk vv he
      obtain ⟨fk, fv⟩ := HF.out _ (List.mem_of_getElem? he)
      have l0 := s0.len; have l1 := s1.len
      have hbl : b < wr.heap.size := cell_lt c0
      have HE := Lib.hid he; clear he
      have S0 := Lib.hid s0; clear s0
      have S1 := Lib.hid s1; clear s1
      dsimp only at fk fv
      rw [l0] at fk; rw [l1] at fv
      clear l0 l1
      go_upto_region 5 with (fail)
      go_region_law (first
        | (refine step_appZ eltTE zE_ok rfl (.tmp 15) (.tmp 29) rfl w.heap.size (.slice a1 k c1) vs (by simp [Act.eval]) (O2.out.keep ((Below.refl _ _).alloc (Nat.le_refl _) _)) (some ⟨w6.heap.size, 0, none⟩) 1 1 [((a5, nk, c5), (a6, nv, c6))] (by simp [Act.eval]) (SlT.lit1 _ _ _ _ rfl) (by rw [HVK.out]; unfold maxLen; omega) (by rw [HVK.out]; omega) (by simp; omega) (vs ++ [((a5, nk, c5), (a6, nv, c6))]) rfl ?_; intro v7 w7 h7 hg7 hv7 hb7)
        | (go_simp; go_at_call_of 36 (Value.slice ak nk ck); refine (marked_any ak nk ck kk _ fk S0.out.drew).mono ?_; rintro e w5 ⟨a5, c5, rfl, hm5, hb5⟩; have c1' : w5.cell? ⟨b, o + k * 2 + 1, none⟩ = some (.slice av nv cv) := (World.cell?_of_block (hb5.block b hbl)).trans c1'; have M5 := Lib.hid hm5; have B5 := Lib.hid hb5; clear hm5 hb5)
        | (go_simp; go_at_call_of 36 (Value.slice av nv cv); refine (marked_any av nv cv vv _ fv (S1.out.drew.keep B5.out)).mono ?_; rintro e w6 ⟨a6, c6, rfl, hm6, hb6⟩; have s56 : w5.heap.size ≤ w6.heap.size := hb6.size; have s5 : wr.heap.size ≤ w5.heap.size := B5.out.size; have M6 := Lib.hid hm6; have B2 := Lib.hid (B5.out.trans (hb6.mono B5.out.size)); have M5' := Lib.hid (M5.out.same (fun j _ h2 => hb6.block j h2)); have O2 := Lib.hid (OwZ.keep (w := wr.drew) O.out B2.out); have hz6 : wr.heap.size ≤ w6.heap.size := B2.out.size; clear hm6 hb6))
      all_goals
        have HT := Lib.hid (T.out.step (lo := w.heap.size) (v := .slice a1 k c1) (v' := v7) (w2 := w6.alloc (.cells #[sv (a5, nk, c5), sv (a6, nv, c6)] 41)) (w3 := w7) (s1 := (a5, nk, c5)) (s2 := (a6, nv, c6)) hlo (by rw [HVK.out]; exact HE.out)
          (fun j hj => ((Below.refl w6.heap.size w6).alloc (Nat.le_refl _) _).block j (by omega) |>.trans (B2.out.block j hj)) (Nat.le_trans hz6 (le_alloc _ _))
          ((M5'.out.same (fun j _ hj => ((Below.refl w6.heap.size w6).alloc (Nat.le_refl _) _).block j (by have : j < w5.heap.size := hj; have := s56; omega))).widen (Nat.le_refl _) (Nat.le_trans s56 (le_alloc _ _)))
          ((M6.out.same (fun j _ hj => ((Below.refl w6.heap.size w6).alloc (Nat.le_refl _) _).block j hj)).widen s5 (le_alloc _ _))
          (fun j hj => (O.out.t.lt j hj).2) hg7 hv7)
        have B7 := Lib.hid ((B.out.drew.trans (B2.out.mono hlo)).trans (((Below.refl w.heap.size w6).alloc (by omega) (.cells #[sv (a5, nk, c5), sv (a6, nv, c6)] 41)).trans hb7))
        have O7 := Lib.hid h7
        clear hg7 hv7 hb7 h7
        go_wp2_with fail
        go_roundw
        case rel => exact ⟨k + 1, _, by omega, by go_num, by rw [List.length_append, HVK.out]; rfl, O7.out, HT.out, B7.out⟩
        case measure => simp [intOf]; omega
    · obtain rfl : k = es.length := by omega
      have hmc : m ≤ 140737488351233 := by omega
      go_wp2_with (at_builtin; refine wpList_appZ eltTE zE_ok rfl (.tmp 31) (.tmp 34) rfl w.heap.size (.slice a1 es.length c1) vs (by rfl) ((O.out.keep ((Below.refl _ _).alloc (Nat.le_refl _) (.cells #[.int .u8 77] 5))).keep ((Below.refl _ _).alloc (Nat.le_refl _) (.cells #[sv (some ⟨wr.heap.size, 0, none⟩, 1, 1), sv (none, 0, 0)] 41))) (some ⟨wr.heap.size + 1, 0, none⟩) 1 1 [((some ⟨wr.heap.size, 0, none⟩, 1, 1), (none, 0, 0))] (by rfl) (SlT.lit1 _ _ _ _ (by simp)) (by rw [HVK.out]; unfold maxLen; omega) (by rw [HVK.out]; omega) (by simp; omega) _ rfl ?_; intro v7 w7 h7 hg7 hv7 hb7; obtain ⟨a7, n7, c7, rfl, hn7, hc7⟩ := h7.t.slE; obtain rfl : m = n7 := (by rw [hn7, List.length_append, HVK.out, ← HM.out]; rfl); have O7 := Lib.hid h7; have HG7 := Lib.hid hg7; have HV7 := Lib.hid hv7; have B7 := Lib.hid hb7; have hcut := fun (W : World) => run_cutE W a7 m c7 .i64 es.length (by omega); clear h7 hg7 hv7 hb7 hn7)
      go_ret
      have hal : Below wr.heap.size wr ((wr.alloc (.cells #[.int .u8 77] 5)).alloc (.cells #[sv (some ⟨wr.heap.size, 0, none⟩, 1, 1), sv (none, 0, 0)] 41)) := ((Below.refl _ _).alloc (Nat.le_refl _) _).alloc (by simp) _
      have hsz : wr.heap.size ≤ w7.heap.size := Nat.le_trans hal.size HG7.out.size
      have ho7 := O7.out
      have hlv : (vs ++ [((some ⟨wr.heap.size, 0, none⟩, 1, 1), (none, 0, 0))] : List (Sv × Sv)).length = m := by rw [List.length_append, HVK.out, ← HM.out]; rfl
      have go : ∀ (s : Sv) (xs : List UInt8), Mkd wr w.heap.size wr.heap.size s xs → (∀ j, Value.ownBlock (.slice a1 es.length c1) = some j → s.1.map (·.block) ≠ some j) → Mkd w7 w.heap.size w7.heap.size s xs := by
        intro s xs hm hn
        refine (hm.off fun j hj => ?_).widen (Nat.le_refl _) hsz
        have hb := hm.blk j hj
        exact (HG7.out.block j (Nat.lt_of_lt_of_le hb.2 hal.size) (fun e => hn j e.symm hj)).trans (hal.block j hb.2)
      refine ⟨a7, c7, rfl, ⟨⟨rfl, vs, ((some ⟨wr.heap.size, 0, none⟩, 1, 1), (none, 0, 0)), HVK.out, ?_, rfl, ?_, fun i x e hx he => ?_⟩, ?_⟩, (B.out.trans (hal.mono hlo)).trans B7.out⟩
      · have := ho7.t; rw [← HM.out] at this; exact this
      · intro j hj; exact ho7.t.lt j (by rw [own_map] at hj ⊢; exact hj)
      · obtain ⟨⟨m1, m2⟩, hne⟩ := T.out i x e hx he
        exact ⟨go _ _ m1 (fun j hj => (hne j hj).1), go _ _ m2 (fun j hj => (hne j hj).2)⟩
      · rcases ho7 with ⟨hv, hnil⟩ | ⟨gl, cap, hv, hg, hh, hn, hcm⟩
        · rw [hnil] at hlv; simp at hlv; have := HM.out; omega
        · injection hv with e1 e2 e3
          subst e3
          rw [hlv] at hn hh
          have hglw : gl ≠ wr.heap.size ∧ (gl < wr.heap.size → Value.ownBlock (.slice a1 es.length c1) = some gl) := by
            have hob : Value.ownBlock (.slice a7 m c7) = some gl := by rw [e1]; rfl
            rcases HV7.out with e | e
            · have h1 : Value.ownBlock (.slice a1 es.length c1) = some gl := e.symm.trans hob
              have := (O.out.t.lt gl h1).2
              exact ⟨by omega, fun _ => h1⟩
            · rw [hob] at e; injection e with e
              rw [World.size_alloc, World.size_alloc] at e
              exact ⟨by omega, fun h => by omega⟩
          refine .inr ⟨gl, _, e1, hh, ?_, by omega, by unfold maxLen at hcm; omega, hg, (Array.getElem?_eq_some_iff.1 hh).1, fun x hx => ?_⟩
          · rw [List.length_append, hlv, List.length_replicate]; omega
          · rcases List.mem_append.1 hx with hx | hx
            · rcases List.mem_append.1 hx with hx | hx
              · obtain ⟨i, hi, e⟩ := List.mem_iff_getElem.1 hx
                have hxi : vs[i]? = some x := by rw [← e]; exact List.getElem?_eq_getElem hi
                have hvl := HVK.out
                obtain ⟨en, he⟩ : ∃ en, es[i]? = some en := ⟨_, List.getElem?_eq_getElem (by omega)⟩
                obtain ⟨⟨m1, m2⟩, hne⟩ := T.out i x en hxi he
                have kb : ∀ (s : Sv) (xs : List UInt8), Mkd wr w.heap.size wr.heap.size s xs → (∀ j, Value.ownBlock (.slice a1 es.length c1) = some j → s.1.map (·.block) ≠ some j) → KbE w7 gl w.heap.size w7.heap.size s := fun s xs hm hne2 => by
                  have hm7 := go s xs hm hne2
                  refine KbE.of_own rfl hm7.2.1 hm7.2.2 (fun j hj e => ?_)
                  subst e
                  have hlt := (hm.blk j (by rw [own_map] at hj; exact hj)).2
                  exact hne2 j (hglw.2 hlt) (by rw [own_map] at hj; exact hj)
                exact ⟨kb _ _ m1 (fun j hj => (hne j hj).1), kb _ _ m2 (fun j hj => (hne j hj).2)⟩
              · obtain rfl := List.mem_singleton.1 hx
                have h77 : w7.heap[wr.heap.size]? = some (.cells #[.int .u8 77] 5 (0, 0)) := by
                  refine (HG7.out.block _ (by simp; omega) (fun e => ?_)).trans (((Below.heap_alloc _ _ _ (by simp)).trans (heap_new wr _)))
                  have := (O.out.t.lt _ e.symm).2; omega
                refine ⟨.inr ⟨wr.heap.size, [77], rfl, h77, rfl, fun e => hglw.1 e.symm, hlo, by have := (Array.getElem?_eq_some_iff.1 h77).1; exact this, by show 1 ≤ _; omega⟩, .inl ⟨rfl, rfl⟩⟩
            · obtain ⟨_, rfl⟩ := List.mem_replicate.1 hx
              exact ⟨.inl ⟨rfl, rfl⟩, .inl ⟨rfl, rfl⟩⟩
end Go.Proofs.Yteedjgjkldbbcaa
