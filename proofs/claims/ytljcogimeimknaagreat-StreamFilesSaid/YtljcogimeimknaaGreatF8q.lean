/- Several texts in one: VintTake, VintRdM, VintRead, PairReadM, VintNumsM, BlockRM, PairRdDef, BlockRdr, EntSpoil, EntCopyZ, BEq. Each has its own sentence and conditions below. -/
import Derived.Test.YtljcogimeimknaaGreatK8c
import Derived.Test.YtljcogimeimknaaGreatK8a
import Derived.Deep.DeepCutAuto
import Derived.BigRegion
import Derived.WalkMore
import Derived.Test.YtljcogimeimknaaGreatK8b
import Derived.Defers
import Derived.Recover
import Derived.WalkLawsBesides
import Derived.WalkSpells
import Derived.BigQuiet
import Derived.Deep.QuietTactic
import Derived.Deep.Cut
/- A taker of bytes: contracts of Take. Conditions: the taker lies in one block; it holds a number of as many sevens as it took. -/
namespace Go.Proofs.YtljcogimeimknaaGreat
set_option linter.unusedVariables false
open Go.RowKit

/-- a taker in a block of its own -/
def Tk (w : World) (g n t s : Nat) : Prop := w.heap[g]? = some (.cells #[.int .u64 n, .int .i64 t, .int .i64 s] 192 (0, 0))
theorem Tk.lt {w : World} {g n t s : Nat} (h : Tk w g n t s) : g < w.heap.size := (Array.getElem?_eq_some_iff.1 h).1
theorem Tk.keep {w w' : World} {g n t s : Nat} (h : Tk w g n t s) (hb : Below w.heap.size w w') : Tk w' g n t s := (hb.block g h.lt).trans h
theorem Tk.grown {w w' : World} {g n t s : Nat} {row : Option Nat} (h : Tk w g n t s) (hb : w.grownBy w' row) (hne : row ≠ some g) : Tk w' g n t s := (hb.block g h.lt hne.symm).trans h
theorem Tk.c0 {w : World} {g n t s : Nat} (h : Tk w g n t s) : w.cell? ⟨g, 0, none⟩ = some (.int .u64 n) := by
  unfold Tk at h; simp [World.cell?, h]
theorem Tk.c1 {w : World} {g n t s : Nat} (h : Tk w g n t s) : w.cell? ⟨g, 1, none⟩ = some (.int .i64 t) := by
  unfold Tk at h; simp [World.cell?, h]
theorem Tk.c2 {w : World} {g n t s : Nat} (h : Tk w g n t s) : w.cell? ⟨g, 2, none⟩ = some (.int .i64 s) := by
  unfold Tk at h; simp [World.cell?, h]
theorem Tk.free {w : World} {g n t s : Nat} (h : Tk w g n t s) (i : Nat) : w.frozen? ⟨g, i, none⟩ = false := by
  unfold Tk at h; simp [World.frozen?, h]
theorem Tk.set0 {w : World} {g n t s : Nat} (h : Tk w g n t s) (m : Nat) : Tk (w.setCell ⟨g, 0, none⟩ (.int .u64 m)) g m t s := by
  unfold Tk at h ⊢
  simp only [World.setCell, Array.getElem?_modify, if_true]
  rw [h]; rfl
theorem Tk.set1 {w : World} {g n t s : Nat} (h : Tk w g n t s) (m : Nat) : Tk (w.setCell ⟨g, 1, none⟩ (.int .i64 m)) g n m s := by
  unfold Tk at h ⊢
  simp only [World.setCell, Array.getElem?_modify, if_true]
  rw [h]; rfl
theorem Tk.set2 {w : World} {g n t s : Nat} (h : Tk w g n t s) (m : Nat) : Tk (w.setCell ⟨g, 2, none⟩ (.int .i64 m)) g n t m := by
  unfold Tk at h ⊢
  simp only [World.setCell, Array.getElem?_modify, if_true]
  rw [h]; rfl
theorem Tk.drew {w : World} {g n t s : Nat} (h : Tk w g n t s) : Tk w.drew g n t s := h
theorem grown_setc {w w1 : World} {row : Option Nat} (h : w.grownBy w1 row) (p : Addr) (hp : row = some p.block) (v : Value) : w.grownBy (w1.setCell p v) row := by
  obtain ⟨h1, h2, h3, h4, h5⟩ := h
  refine ⟨h1, h2, h3, by simpa using h4, fun k hk hne => ?_⟩
  rw [Below.heap_setCell _ _ _ _ (fun e => hne (by rw [hp, e]))]
  exact h5 k hk hne

theorem grown_drw {w w' : World} {row : Option Nat} (h : w.grownBy w' row) : w.grownBy w'.drew row := ⟨h.os, h.tape, h.output, h.size, h.block⟩

theorem take_long (g n : Nat) (c : UInt8) (w : World) (hc : 1 < c.toNat) (h : Tk w g n 9 0) :
    Calls Tryz.prog 118 #[.pointer (some ⟨g, 0, none⟩), .int .u8 (B c)] w fun e w' => e = .returned (.tuple #[.bool false, .int .i64 12]) ∧ Tk w' g n 10 2 ∧ w.grownBy w' (some g) := by
  have c2 : w.cell? ⟨g, 2, none⟩ = some (.int .i64 0) := h.c2
  have c1 : w.cell? ⟨g, 1, none⟩ = some (.int .i64 9) := h.c1
  have f1 := h.free 1
  have hcc : 1 < B c := by unfold B; omega
  have h1 := h.set1 10
  have c1' : (w.setCell ⟨g, 1, none⟩ (.int .i64 10)).cell? ⟨g, 1, none⟩ = some (.int .i64 10) := h1.c1
  have f2 : (w.setCell ⟨g, 1, none⟩ (.int .i64 10)).frozen? ⟨g, 2, none⟩ = false := h1.free 2
  have c2' : (w.setCell ⟨g, 1, none⟩ (.int .i64 10)).cell? ⟨g, 2, none⟩ = some (.int .i64 0) := h1.c2
  have H1 := Lib.hid h1; clear h1 h hc
  go_enter Tryz.func118, Tryz.ntmps118
  go_wp2_with fail
  go_ret2
  exact ⟨rfl, H1.out.set2 2, grown_setc (grown_setc (World.grownBy.refl _ _) ⟨g, 1, none⟩ rfl _) ⟨g, 2, none⟩ rfl _⟩
theorem take_form (g n t : Nat) (c : UInt8) (w : World) (ht0 : 0 < t) (ht : t ≤ 9) (hc : c.toNat = 0) (h : Tk w g n t 0) :
    Calls Tryz.prog 118 #[.pointer (some ⟨g, 0, none⟩), .int .u8 (B c)] w fun e w' => e = .returned (.tuple #[.bool false, .int .i64 13]) ∧ Tk w' g n (t + 1) 2 ∧ w.grownBy w' (some g) := by
  have c2 : w.cell? ⟨g, 2, none⟩ = some (.int .i64 0) := h.c2
  have c1 := h.c1
  have f1 := h.free 1
  have hcc : (B c == 0) = true := by rw [beq_iff_eq]; unfold B; omega
  have hc1 : ¬ 1 < B c := by unfold B; omega
  have h1 := h.set1 (t + 1)
  have c1' : (w.setCell ⟨g, 1, none⟩ (.int .i64 ((t : Int) + 1))).cell? ⟨g, 1, none⟩ = some (.int .i64 ((t : Int) + 1)) := h1.c1
  have f2 : (w.setCell ⟨g, 1, none⟩ (.int .i64 ((t : Int) + 1))).frozen? ⟨g, 2, none⟩ = false := h1.free 2
  have c2' : (w.setCell ⟨g, 1, none⟩ (.int .i64 ((t : Int) + 1))).cell? ⟨g, 2, none⟩ = some (.int .i64 0) := h1.c2
  have H1 := Lib.hid h1; clear h1 h hc
  by_cases h9 : t = 9
  · have f10 : ((t : Int) + 1 == 10) = true := by rw [beq_iff_eq]; omega
    clear h9
    go_enter Tryz.func118, Tryz.ntmps118
    go_wp2_with fail
    go_ret2
    exact ⟨rfl, H1.out.set2 2, grown_setc (grown_setc (World.grownBy.refl _ _) ⟨g, 1, none⟩ rfl _) ⟨g, 2, none⟩ rfl _⟩
  · have f10 : ((t : Int) + 1 == 10) = false := by rw [beq_eq_false_iff_ne]; omega
    clear h9
    go_enter Tryz.func118, Tryz.ntmps118
    go_wp2_with fail
    go_ret2
    exact ⟨rfl, H1.out.set2 2, grown_setc (grown_setc (World.grownBy.refl _ _) ⟨g, 1, none⟩ rfl _) ⟨g, 2, none⟩ rfl _⟩

/-- the sevens of a byte -/
theorem and127 (c : UInt8) : bits .and .u8 (B c) 127 = ((c.toNat % 128 : Nat) : Int) := by
  have : ∀ k : Fin 256, bits .and .u8 ((k.val : Nat) : Int) 127 = ((k.val % 128 : Nat) : Int) := by decide +kernel
  exact this ⟨c.toNat, c.toNat_lt⟩
theorem or64 (a b : Nat) (ha : a < 2 ^ 64) (hb : b < 2 ^ 64) : bits .or .u64 (a : Int) (b : Int) = ((a ||| b : Nat) : Int) := by
  show IntKind.u64.wrap ((BitVec.ofInt 64 (a : Int) ||| BitVec.ofInt 64 (b : Int)).toNat : Int) = _
  rw [BitVec.ofInt_natCast, BitVec.ofInt_natCast, BitVec.toNat_or, BitVec.toNat_ofNat, BitVec.toNat_ofNat, Nat.mod_eq_of_lt ha, Nat.mod_eq_of_lt hb]
  have := Nat.or_lt_two_pow ha hb
  generalize a ||| b = z at *
  rw [IntKind.wrap_u64]; omega

theorem put_seven (n t : Nat) (c : UInt8) (ht : t ≤ 9) (hc1 : ¬ (t = 9 ∧ 1 < c.toNat)) (hn : n < 128 ^ t) : bits .or .u64 (n : Int) (IntKind.u64.wrap ((c.toNat : Int) % 128 * 2 ^ (7 * t))) = ((n + c.toNat % 128 * 128 ^ t : Nat) : Int) := by
  have hb : c.toNat % 128 * 128 ^ t < 18446744073709551616 := by
    have e9 : (128 : Nat) ^ 9 = 9223372036854775808 := by decide
    by_cases h9 : t = 9
    · subst h9
      have : c.toNat % 128 ≤ 1 := by omega
      have h4 : c.toNat % 128 * 128 ^ 9 ≤ 1 * 128 ^ 9 := Nat.mul_le_mul_right _ this
      omega
    · have h5 := go_small (c := c) hn
      have h6 : 128 ^ (t + 1) ≤ 128 ^ 9 := Nat.pow_le_pow_right (by decide) (by omega)
      omega
  have hn2 : n < 18446744073709551616 := by
    have e9 : (128 : Nat) ^ 9 = 9223372036854775808 := by decide
    have h6 : 128 ^ t ≤ 128 ^ 9 := Nat.pow_le_pow_right (by decide) ht
    omega
  have e1 : ((c.toNat : Int) % 128 * 2 ^ (7 * t)) = ((c.toNat % 128 * 128 ^ t : Nat) : Int) := by rw [pow128]; simp
  have e2 : IntKind.u64.wrap ((c.toNat % 128 * 128 ^ t : Nat) : Int) = ((c.toNat % 128 * 128 ^ t : Nat) : Int) := by
    generalize c.toNat % 128 * 128 ^ t = z at *
    rw [IntKind.wrap_u64]; omega
  rw [e1, e2, or64 _ _ hn2 hb]
  congr 1
  rw [pow128] at hn ⊢
  exact or_add hn

set_option maxRecDepth 100000 in
set_option maxHeartbeats 1000000 in
theorem take_go (g n t : Nat) (c : UInt8) (w : World) (ht : t ≤ 9) (hc1 : ¬ (t = 9 ∧ 1 < c.toNat)) (hc2 : ¬ (0 < t ∧ c.toNat = 0)) (hn : n < 128 ^ t) (h : Tk w g n t 0) :
    Calls Tryz.prog 118 #[.pointer (some ⟨g, 0, none⟩), .int .u8 (B c)] w fun e w' => e = .returned (.tuple #[.bool (decide (c.toNat < 128)), .int .i64 0]) ∧
      Tk w' g (n + c.toNat % 128 * 128 ^ t) (t + 1) (if c.toNat < 128 then 1 else 0) ∧ w.grownBy w' (some g) := by
  have c2 : w.cell? ⟨g, 2, none⟩ = some (.int .i64 0) := h.c2
  have c1 := h.c1
  have f1 := h.free 1
  have h1 := h.set1 (t + 1)
  have c1' : (w.setCell ⟨g, 1, none⟩ (.int .i64 ((t : Int) + 1))).cell? ⟨g, 1, none⟩ = some (.int .i64 ((t : Int) + 1)) := h1.c1
  have c0' : (w.setCell ⟨g, 1, none⟩ (.int .i64 ((t : Int) + 1))).cell? ⟨g, 0, none⟩ = some (.int .u64 n) := h1.c0
  have f0' : (w.setCell ⟨g, 1, none⟩ (.int .i64 ((t : Int) + 1))).frozen? ⟨g, 0, none⟩ = false := h1.free 0
  have h2 : Tk ((w.setCell ⟨g, 1, none⟩ (.int .i64 ((t : Int) + 1))).setCell ⟨g, 0, none⟩ (.int .u64 ((n + c.toNat % 128 * 128 ^ t : Nat) : Int))).drew g (n + c.toNat % 128 * 128 ^ t) (t + 1) 0 := (h1.set0 (n + c.toNat % 128 * 128 ^ t)).drew
  have g2 : w.grownBy ((w.setCell ⟨g, 1, none⟩ (.int .i64 ((t : Int) + 1))).setCell ⟨g, 0, none⟩ (.int .u64 ((n + c.toNat % 128 * 128 ^ t : Nat) : Int))).drew (some g) :=
    grown_drw (grown_setc (grown_setc (World.grownBy.refl _ _) ⟨g, 1, none⟩ rfl _) ⟨g, 0, none⟩ rfl _)
  have hv := put_seven n t c ht hc1 hn
  have H2 := Lib.hid h2; clear h2 h1 h
  have G2 := Lib.hid g2; clear g2
  have HV := Lib.hid hv; clear hv hn
  have r1 := and127 c
  by_cases hln : c.toNat < 128
  · rw [decide_eq_true hln, if_pos hln]
    have hlt : B c < 128 := by unfold B; omega
    have HLN := Lib.hid hln; clear hln
    by_cases h9 : t = 9
    · have f10 : ((t : Int) + 1 == 10) = true := by rw [beq_iff_eq]; omega
      have hle : ¬ 1 < B c := by unfold B; omega
      have ht0 : (1 : Int) < t + 1 := by omega
      have hcc : (B c == 0) = false := by rw [beq_eq_false_iff_ne]; unfold B; omega
      clear h9 hc1 hc2
      go_enter Tryz.func118, Tryz.ntmps118
      go_upto_region 10 with (fail)
      go_region
      rw [HV.out]
      generalize ((w.setCell ⟨g, 1, none⟩ (.int .i64 ((t : Int) + 1))).setCell ⟨g, 0, none⟩ (.int .u64 ((n + c.toNat % 128 * 128 ^ t : Nat) : Int))).drew = w2 at *
      have e2 : w2.cell? ⟨g, 2, none⟩ = some (.int .i64 0) := H2.out.c2
      have e3 := H2.out.free 2
      have e4 : (w2.setCell ⟨g, 2, none⟩ (.int .i64 1)).cell? ⟨g, 2, none⟩ = some (.int .i64 1) := (H2.out.set2 1).c2
      go_wp2_with fail
      go_ret2
      exact ⟨rfl, H2.out.set2 1, grown_setc G2.out ⟨g, 2, none⟩ rfl _⟩
    · have f10 : ((t : Int) + 1 == 10) = false := by rw [beq_eq_false_iff_ne]; omega
      by_cases h0 : t = 0
      · have ht0 : ¬ (1 : Int) < t + 1 := by omega
        clear h9 h0 hc1 hc2
        go_enter Tryz.func118, Tryz.ntmps118
        go_upto_region 10 with (fail)
        go_region
        rw [HV.out]
        generalize ((w.setCell ⟨g, 1, none⟩ (.int .i64 ((t : Int) + 1))).setCell ⟨g, 0, none⟩ (.int .u64 ((n + c.toNat % 128 * 128 ^ t : Nat) : Int))).drew = w2 at *
        have e2 : w2.cell? ⟨g, 2, none⟩ = some (.int .i64 0) := H2.out.c2
        have e3 := H2.out.free 2
        have e4 : (w2.setCell ⟨g, 2, none⟩ (.int .i64 1)).cell? ⟨g, 2, none⟩ = some (.int .i64 1) := (H2.out.set2 1).c2
        go_wp2_with fail
        go_ret2
        exact ⟨rfl, H2.out.set2 1, grown_setc G2.out ⟨g, 2, none⟩ rfl _⟩
      · have ht0 : (1 : Int) < t + 1 := by omega
        have hcc : (B c == 0) = false := by rw [beq_eq_false_iff_ne]; unfold B; omega
        clear h9 h0 hc1 hc2
        go_enter Tryz.func118, Tryz.ntmps118
        go_upto_region 10 with (fail)
        go_region
        rw [HV.out]
        generalize ((w.setCell ⟨g, 1, none⟩ (.int .i64 ((t : Int) + 1))).setCell ⟨g, 0, none⟩ (.int .u64 ((n + c.toNat % 128 * 128 ^ t : Nat) : Int))).drew = w2 at *
        have e2 : w2.cell? ⟨g, 2, none⟩ = some (.int .i64 0) := H2.out.c2
        have e3 := H2.out.free 2
        have e4 : (w2.setCell ⟨g, 2, none⟩ (.int .i64 1)).cell? ⟨g, 2, none⟩ = some (.int .i64 1) := (H2.out.set2 1).c2
        go_wp2_with fail
        go_ret2
        exact ⟨rfl, H2.out.set2 1, grown_setc G2.out ⟨g, 2, none⟩ rfl _⟩
  · rw [decide_eq_false hln, if_neg hln]
    have hlt : ¬ B c < 128 := by unfold B; omega
    have HLN := Lib.hid hln; clear hln
    by_cases h9 : t = 9
    · exfalso; have := HLN.out; omega
    · have f10 : ((t : Int) + 1 == 10) = false := by rw [beq_eq_false_iff_ne]; omega
      by_cases h0 : t = 0
      · have ht0 : ¬ (1 : Int) < t + 1 := by omega
        clear h9 h0 hc1 hc2
        go_enter Tryz.func118, Tryz.ntmps118
        go_upto_region 10 with (fail)
        go_region
        rw [HV.out]
        generalize ((w.setCell ⟨g, 1, none⟩ (.int .i64 ((t : Int) + 1))).setCell ⟨g, 0, none⟩ (.int .u64 ((n + c.toNat % 128 * 128 ^ t : Nat) : Int))).drew = w2 at *
        have e2 : w2.cell? ⟨g, 2, none⟩ = some (.int .i64 0) := H2.out.c2
        have e3 := H2.out.free 2
        have e4 : (w2.setCell ⟨g, 2, none⟩ (.int .i64 1)).cell? ⟨g, 2, none⟩ = some (.int .i64 1) := (H2.out.set2 1).c2
        go_wp2_with fail
        go_ret2
        exact ⟨rfl, H2.out, G2.out⟩
      · have ht0 : (1 : Int) < t + 1 := by omega
        have hcc : (B c == 0) = false := by rw [beq_eq_false_iff_ne]; unfold B; omega
        clear h9 h0 hc1 hc2
        go_enter Tryz.func118, Tryz.ntmps118
        go_upto_region 10 with (fail)
        go_region
        rw [HV.out]
        generalize ((w.setCell ⟨g, 1, none⟩ (.int .i64 ((t : Int) + 1))).setCell ⟨g, 0, none⟩ (.int .u64 ((n + c.toNat % 128 * 128 ^ t : Nat) : Int))).drew = w2 at *
        have e2 : w2.cell? ⟨g, 2, none⟩ = some (.int .i64 0) := H2.out.c2
        have e3 := H2.out.free 2
        have e4 : (w2.setCell ⟨g, 2, none⟩ (.int .i64 1)).cell? ⟨g, 2, none⟩ = some (.int .i64 1) := (H2.out.set2 1).c2
        go_wp2_with fail
        go_ret2
        exact ⟨rfl, H2.out, G2.out⟩
end Go.Proofs.YtljcogimeimknaaGreat
/- What a list shows at a place. No condition. -/
namespace Go.Proofs.YtljcogimeimknaaGreat
set_option linter.unusedVariables false
open Go.RowKit

theorem vdrop_cons {xs : List UInt8} {k : Nat} {x : UInt8} (h : xs[k]? = some x) : xs.drop k = x :: xs.drop (k + 1) := by
  obtain ⟨hk, e⟩ := List.getElem?_eq_some_iff.1 h
  rw [List.drop_eq_getElem_cons hk, e]
end Go.Proofs.YtljcogimeimknaaGreat
/- Read, the program's and the reference's: contracts. Conditions: the slice within reach. -/
namespace Go.Proofs.YtljcogimeimknaaGreat
set_option linter.unusedVariables false
open Go.RowKit

set_option maxRecDepth 100000 in
set_option maxHeartbeats 1000000 in
theorem vread_any (a : Option Addr) (n c : Nat) (xs : List UInt8) (m : Nat) (w : World) (hn : n ≤ 1000000000000000) (hm : m ≤ n) (h : Sl Bf w a n c xs) :
    Calls Tryz.prog 78 #[.slice a n c, .int .i64 m] w fun e w' => e = .returned (.tuple #[.int .u64 (((rd (xs.drop m) 0 0).1 : Nat) : Int), .int .i64 ((m + (rd (xs.drop m) 0 0).2.1 : Nat) : Int), .int .i64 (rd (xs.drop m) 0 0).2.2]) ∧ Below w.heap.size w w' := by
  obtain rfl : n = xs.length := h.len.symm
  have H := Lib.hid h; clear h
  obtain ⟨R, hR⟩ : ∃ R, rd (xs.drop m) 0 0 = R := ⟨_, rfl⟩
  rw [hR]
  have g1 : ¬ ((m : Int) < 0) := by omega
  have g2 : ¬ ((xs.length : Int) < m) := by omega
  have g3 : decide ((m : Int) < 0) = false := decide_eq_false (by omega)
  have g4 : decide (xs.length < m) = false := decide_eq_false (by omega)
  have HR0 := Lib.hid hR; clear hR
  have t0 : Tk (w.alloc (.cells #[.int .u64 0, .int .i64 0, .int .i64 0] 192)) w.heap.size 0 0 0 := heap_new w _
  have b0 : Below w.heap.size w (w.alloc (.cells #[.int .u64 0, .int .i64 0, .int .i64 0] 192)) := (Below.refl _ _).alloc (Nat.le_refl _) _
  have T0 := Lib.hid t0; clear t0
  have B0 := Lib.hid b0; clear b0
  go_enter Tryz.func78, Tryz.ntmps78
  go_wp2_with fail
  go_step3
  go_wp2_with fail
  go_step3
  go_wp2_with fail
  go_loopw [8] (fun i wr => ∃ p k v : Nat, p = m + k ∧ p ≤ xs.length ∧ k ≤ 9 ∧ i = .int .i64 p ∧ Tk wr w.heap.size v k 0 ∧ v < 128 ^ k ∧ rd (xs.drop p) k v = R ∧ Below w.heap.size w wr) (fun i _ => xs.length - (intOf i).toNat)
  case atStart => exact ⟨m, 0, 0, rfl, hm, by omega, rfl, T0.out, by decide, HR0.out, B0.out⟩
  case round =>
    obtain ⟨p, k, v, hp, hpl, hk, rfl, ht, hv, hr, hb⟩ := hrel
    have HP := Lib.hid hp; clear hp
    have HT := Lib.hid ht; clear ht
    have HB := Lib.hid hb; clear hb
    clear HR0 T0 B0
    by_cases hlt : p < xs.length
    · obtain ⟨x, b, o, hx, rfl, hc⟩ := (H.out.keep HB.out).at p hlt
      have hc : wr.cell? ⟨b, o + p, none⟩ = some (.int .u8 (B x)) := hc
      rw [vdrop_cons hx] at hr
      clear hx
      by_cases c1 : k = 9 ∧ 1 < x.toNat
      · obtain ⟨rfl, c1⟩ := c1
        rw [rd_long ⟨rfl, c1⟩] at hr
        have HRR := Lib.hid hr; clear hr
        go_wp2_with fail
        refine (take_long _ _ x _ c1 HT.out).mono ?_
        rintro e w2 ⟨rfl, _, hg⟩
        have G := Lib.hid (HB.out.grown hg HB.out.size (fun j hj => by cases hj; exact Nat.le_refl _)); clear hg
        go_wp2_with fail
        try rw [Exit.noGoto_ret]
        go_ret3
        refine ⟨?_, G.out⟩
        rw [← HRR.out, ← HP.out]; rfl
      · by_cases c2 : 0 < k ∧ x.toNat = 0
        · rw [rd_form c2] at hr
          have HRR := Lib.hid hr; clear hr
          go_wp2_with fail
          refine (take_form _ _ k x _ c2.1 hk c2.2 HT.out).mono ?_
          rintro e w2 ⟨rfl, _, hg⟩
          have G := Lib.hid (HB.out.grown hg HB.out.size (fun j hj => by cases hj; exact Nat.le_refl _)); clear hg
          go_wp2_with fail
          try rw [Exit.noGoto_ret]
          go_ret3
          refine ⟨?_, G.out⟩
          rw [← HRR.out, ← HP.out]; rfl
        · by_cases c3 : x.toNat < 128
          · rw [rd_last c1 c2 c3] at hr
            have HRR := Lib.hid hr; clear hr
            have hgo := take_go w.heap.size v k x wr hk c1 c2 hv HT.out
            rw [if_pos c3, decide_eq_true c3] at hgo
            have HGO := Lib.hid hgo; clear hgo c1 c2 c3
            go_wp2_with fail
            refine HGO.out.mono ?_
            rintro e w2 ⟨rfl, ht2, hg⟩
            have G := Lib.hid (HB.out.grown hg HB.out.size (fun j hj => by cases hj; exact Nat.le_refl _)); clear hg
            have c0 := ht2.c0
            clear ht2
            go_wp2_with fail
            try rw [Exit.noGoto_ret]
            go_ret3
            refine ⟨?_, G.out⟩
            rw [← HRR.out]
            show _ = Ending.returned (.tuple #[_, .int .i64 ((m + (k + 1) : Nat) : Int), _])
            rw [← Nat.add_assoc, ← HP.out]; rfl
          · rw [rd_go c1 c2 c3] at hr
            have hv2 := go_small (c := x) hv
            have hk9 : k ≠ 9 := fun e => c1 ⟨e, by omega⟩
            have HRR := Lib.hid hr; clear hr
            have HV2 := Lib.hid hv2; clear hv2
            have hgo := take_go w.heap.size v k x wr hk c1 c2 hv HT.out
            rw [if_neg c3, decide_eq_false c3] at hgo
            have HGO := Lib.hid hgo; clear hgo c1 c2 c3
            go_wp2_with fail
            refine HGO.out.mono ?_
            rintro e w2 ⟨rfl, ht2, hg⟩
            have G := Lib.hid (HB.out.grown hg HB.out.size (fun j hj => by cases hj; exact Nat.le_refl _)); clear hg
            have HT2 := Lib.hid ht2; clear ht2
            go_wp2_with fail
            go_roundw
            case rel => exact ⟨p + 1, k + 1, _, by have := HP.out; omega, by omega, by omega, by go_num, HT2.out, HV2.out, HRR.out, G.out⟩
            case measure => simp [intOf]; omega
    · have hpe : xs.drop p = [] := List.drop_of_length_le (by omega)
      rw [hpe, rd_nil] at hr
      have HRR := Lib.hid hr; clear hr hpe
      have f1 : ((p : Int) == (xs.length : Int)) = true := by rw [beq_iff_eq]; omega
      have f2 : (p == xs.length) = true := by rw [beq_iff_eq]; omega
      go_wp2_with fail
      try rw [Exit.noGoto_ret]
      go_ret3
      refine ⟨?_, HB.out⟩
      rw [← HRR.out, ← HP.out]; rfl
end Go.Proofs.YtljcogimeimknaaGreat
/- What is read of bytes behind a text: plain words, no program. No condition. -/
namespace Go.Proofs.YtljcogimeimknaaGreat
set_option linter.unusedVariables false

/-- j numbers more behind l, from a place on: the numbers, where they end, the error -/
def pr3 (b : List UInt8) : Nat → List Nat → Nat → List Nat × Nat × Int
  | 0, l, a => (l, a, 0)
  | j + 1, l, a => if (rd (b.drop a) 0 0).2.2 = 0 then pr3 b j (l ++ [(rd (b.drop a) 0 0).1]) (a + (rd (b.drop a) 0 0).2.1) else ([], a + (rd (b.drop a) 0 0).2.1, (rd (b.drop a) 0 0).2.2)
theorem pr3_go {b : List UInt8} {j : Nat} {l : List Nat} {a v k : Nat} (h : rd (b.drop a) 0 0 = (v, k, 0)) : pr3 b (j + 1) l a = pr3 b j (l ++ [v]) (a + k) := by
  conv => lhs; unfold pr3
  rw [h]; rfl
theorem pr3_no {b : List UInt8} {j : Nat} {l : List Nat} {a v k : Nat} {e : Int} (h : rd (b.drop a) 0 0 = (v, k, e)) (he : e ≠ 0) : pr3 b (j + 1) l a = ([], a + k, e) := by
  conv => lhs; unfold pr3
  rw [h]; rw [if_neg he]
/-- the numbers being known -/
def pend (p b : List UInt8) (a s m l a3 : Nat) : Ent × Nat × Int :=
  if p.length < s then (([], []), a, 52) else if 64 < m ∨ 256 < l ∨ s + m = 0 ∨ 64 < s + m then (([], []), a, 3) else if b.length - a3 < m + l then (([], []), b.length, 53)
  else if com p (p.take s ++ (b.drop a3).take m) ≠ s then (([], []), a, 52) else if 0 < p.length ∧ 0 ≤ cmp p (p.take s ++ (b.drop a3).take m) then (([], []), a, 51)
  else ((p.take s ++ (b.drop a3).take m, (b.drop (a3 + m)).take l), a3 + m + l, 0)
/-- the entry, where it ends, the error -/
def pread (p b : List UInt8) (a : Nat) : Ent × Nat × Int :=
  if (pr3 b 3 [] a).2.2 = 0 then pend p b a ((pr3 b 3 [] a).1.getD 0 0) ((pr3 b 3 [] a).1.getD 1 0) ((pr3 b 3 [] a).1.getD 2 0) (pr3 b 3 [] a).2.1 else (([], []), (pr3 b 3 [] a).2.1, (pr3 b 3 [] a).2.2)
theorem pread_ok {p b : List UInt8} {a s m l a3 : Nat} (h : pr3 b 3 [] a = ([s, m, l], a3, 0)) : pread p b a = pend p b a s m l a3 := by unfold pread; rw [h]; rfl
theorem pread_no {p b : List UInt8} {a q : Nat} {e : Int} {x : List Nat} (h : pr3 b 3 [] a = (x, q, e)) (he : e ≠ 0) : pread p b a = (([], []), q, e) := by unfold pread; rw [h, if_neg he]
theorem pr3_ok {b : List UInt8} {a s j m k n i : Nat} (h0 : rd (b.drop a) 0 0 = (s, j, 0)) (h1 : rd (b.drop (a + j)) 0 0 = (m, k, 0)) (h2 : rd (b.drop (a + j + k)) 0 0 = (n, i, 0)) : pr3 b 3 [] a = ([s, m, n], a + j + k + i, 0) := by
  rw [pr3_go h0, pr3_go h1, pr3_go h2]; rfl
section
variable {p b : List UInt8} {a s m l a3 : Nat}
theorem pend_s (h : p.length < s) : pend p b a s m l a3 = (([], []), a, 52) := by unfold pend; rw [if_pos h]
theorem pend_long (h : ¬ p.length < s) (h2 : 64 < m ∨ 256 < l ∨ s + m = 0 ∨ 64 < s + m) : pend p b a s m l a3 = (([], []), a, 3) := by unfold pend; rw [if_neg h, if_pos h2]
theorem pend_short (h : ¬ p.length < s) (h2 : ¬ (64 < m ∨ 256 < l ∨ s + m = 0 ∨ 64 < s + m)) (h3 : b.length - a3 < m + l) : pend p b a s m l a3 = (([], []), b.length, 53) := by unfold pend; rw [if_neg h, if_neg h2, if_pos h3]
theorem pend_com (h : ¬ p.length < s) (h2 : ¬ (64 < m ∨ 256 < l ∨ s + m = 0 ∨ 64 < s + m)) (h3 : ¬ b.length - a3 < m + l) (h4 : com p (p.take s ++ (b.drop a3).take m) ≠ s) : pend p b a s m l a3 = (([], []), a, 52) := by
  unfold pend; rw [if_neg h, if_neg h2, if_neg h3, if_pos h4]
theorem pend_cmp (h : ¬ p.length < s) (h2 : ¬ (64 < m ∨ 256 < l ∨ s + m = 0 ∨ 64 < s + m)) (h3 : ¬ b.length - a3 < m + l) (h4 : com p (p.take s ++ (b.drop a3).take m) = s) (h5 : 0 < p.length ∧ 0 ≤ cmp p (p.take s ++ (b.drop a3).take m)) : pend p b a s m l a3 = (([], []), a, 51) := by
  unfold pend; rw [if_neg h, if_neg h2, if_neg h3, if_neg (fun e => e h4), if_pos h5]
theorem pend_ok (h : ¬ p.length < s) (h2 : ¬ (64 < m ∨ 256 < l ∨ s + m = 0 ∨ 64 < s + m)) (h3 : ¬ b.length - a3 < m + l) (h4 : com p (p.take s ++ (b.drop a3).take m) = s) (h5 : ¬ (0 < p.length ∧ 0 ≤ cmp p (p.take s ++ (b.drop a3).take m))) :
    pend p b a s m l a3 = ((p.take s ++ (b.drop a3).take m, (b.drop (a3 + m)).take l), a3 + m + l, 0) := by
  unfold pend; rw [if_neg h, if_neg h2, if_neg h3, if_neg (fun e => e h4), if_neg h5]
end
end Go.Proofs.YtljcogimeimknaaGreat
/- The numbers of bytes, one behind the other: plain words, no program. No condition. -/
namespace Go.Proofs.YtljcogimeimknaaGreat
set_option linter.unusedVariables false

/-- what is read is written just so -/
theorem rd_take : ∀ (l : List UInt8) (k v n j : Nat), rd l k v = (n, j, 0) → ∃ m i, n = v + m * 128 ^ k ∧ j = k + i ∧ i ≤ l.length ∧ l.take i = vb m ∧ (0 < k → 0 < m)
  | [], k, v, n, j, h => by simp [rd] at h
  | c :: r, k, v, n, j, h => by
    by_cases h1 : k = 9 ∧ 1 < c.toNat
    · rw [rd_long h1] at h; simp at h
    by_cases h2 : 0 < k ∧ c.toNat = 0
    · rw [rd_form h2] at h; simp at h
    have hc := c.toNat_lt
    by_cases h3 : c.toNat < 128
    · rw [rd_last h1 h2 h3] at h
      simp only [Prod.mk.injEq] at h
      obtain ⟨rfl, rfl, _⟩ := h
      refine ⟨c.toNat, 1, by rw [Nat.mod_eq_of_lt h3], rfl, by simp, ?_, by omega⟩
      rw [vb_lt h3]
      show [c] = [UInt8.ofNat c.toNat]
      rw [UInt8.ofNat_toNat]
    · rw [rd_go h1 h2 h3] at h
      obtain ⟨m, i, e1, e2, e3, e4, e5⟩ := rd_take r (k + 1) _ n j h
      have hm := e5 (by omega)
      have hd : (c.toNat % 128 + 128 * m) / 128 = m := by omega
      have hmod : (c.toNat % 128 + 128 * m) % 128 = c.toNat % 128 := by omega
      refine ⟨c.toNat % 128 + 128 * m, i + 1, ?_, by omega, by simp; omega, ?_, by omega⟩
      · rw [e1, Nat.pow_succ, Nat.add_mul, Nat.mul_comm 128 m, Nat.mul_assoc, Nat.mul_comm 128 (128 ^ k)]; omega
      · rw [vb_ge (by omega), hd, List.take_succ_cons, e4]
        congr 1
        unfold hi8
        rw [hmod, show c.toNat % 128 + 128 = c.toNat by omega, UInt8.ofNat_toNat]
theorem rd_vbs {l : List UInt8} {n j : Nat} (h : rd l 0 0 = (n, j, 0)) : j ≤ l.length ∧ l.take j = vb n ∧ j = (vb n).length := by
  obtain ⟨m, i, e1, e2, e3, e4, _⟩ := rd_take l 0 0 n j h
  obtain rfl : n = m := by rw [e1]; simp
  obtain rfl : j = i := by omega
  refine ⟨e3, e4, ?_⟩
  rw [← e4, List.length_take]; omega

/-- the places and the numbers from a place on, f at most -/
def numsF (b : List UInt8) : Nat → Nat → List (Nat × Nat)
  | 0, _ => []
  | f + 1, a => if a < b.length ∧ (rd (b.drop a) 0 0).2.2 = 0 then (a, (rd (b.drop a) 0 0).1) :: numsF b f (a + (rd (b.drop a) 0 0).2.1) else []
def nums (b : List UInt8) : List (Nat × Nat) := numsF b b.length 0
theorem numsF_go {b : List UInt8} {f a n j : Nat} (ha : a < b.length) (h : rd (b.drop a) 0 0 = (n, j, 0)) : numsF b (f + 1) a = (a, n) :: numsF b f (a + j) := by
  conv => lhs; unfold numsF
  rw [h, if_pos ⟨ha, rfl⟩]
/-- where the bytes of such a list end -/
def aft (l : List (Nat × Nat)) : Nat := match l.getLast? with
  | none => 0
  | some x => x.1 + (vb x.2).length
theorem aft_snoc (l : List (Nat × Nat)) (x : Nat × Nat) : aft (l ++ [x]) = x.1 + (vb x.2).length := by unfold aft; simp
/-- what is left stands where what has come ends -/
structure Left (b : List UInt8) (pre : List (Nat × Nat)) (a f : Nat) : Prop where
  all : nums b = pre ++ numsF b f a
  fuel : b.length ≤ f + a
  at_ : a = aft pre
  le : a ≤ b.length
theorem Left.go {b : List UInt8} {pre : List (Nat × Nat)} {a f n j : Nat} (h : Left b pre a f) (ha : a < b.length) (hr : rd (b.drop a) 0 0 = (n, j, 0)) : ∃ f', f = f' + 1 ∧ Left b (pre ++ [(a, n)]) (a + j) f' := by
  obtain ⟨h1, h2, h3, h4⟩ := h
  obtain ⟨f', rfl⟩ : ∃ f', f = f' + 1 := ⟨f - 1, by omega⟩
  have hv := rd_vbs hr
  have hp := vb_pos n
  rw [List.length_drop] at hv
  refine ⟨f', rfl, ?_, by omega, ?_, by omega⟩
  · rw [h1, numsF_go ha hr, List.append_assoc]; rfl
  · rw [aft_snoc, hv.2.2]
theorem Left.done {b : List UInt8} {pre : List (Nat × Nat)} {a f : Nat} (h : Left b pre a f) (hn : numsF b f a = []) : pre = nums b := by rw [h.all, hn, List.append_nil]
theorem Left.pre {b : List UInt8} {pre : List (Nat × Nat)} {a f : Nat} (h : Left b pre a f) : pre <+: nums b := ⟨_, h.all.symm⟩
end Go.Proofs.YtljcogimeimknaaGreat
/- What is read of a block: plain words. No condition. -/
namespace Go.Proofs.YtljcogimeimknaaGreat
set_option linter.unusedVariables false

/-- j entries more behind l, from a place on: the entries, their places, where they end, the error, its place -/
def bents (b : List UInt8) : Nat → List Ent → List Nat → Nat → List Ent × List Nat × Nat × Int × Nat
  | 0, l, ps, p => (l, ps, p, 0, 0)
  | j + 1, l, ps, p =>
    if (pread (bP l.length (bst l).last) b p).2.2 ≠ 0 then (l, ps, p, (pread (bP l.length (bst l).last) b p).2.2, (pread (bP l.length (bst l).last) b p).2.1)
    else if 0 < l.length ∧ 0 ≤ cmp (bst l).last (pread (bP l.length (bst l).last) b p).1.1 then (l, ps, p, 51, p)
    else bents b j (l ++ [(pread (bP l.length (bst l).last) b p).1]) (ps ++ [p]) (pread (bP l.length (bst l).last) b p).2.1
def bentries (b : List UInt8) : List Ent × List Nat × Nat × Int × Nat :=
  if (rd b 0 0).2.2 ≠ 0 then ([], [], 0, (rd b 0 0).2.2, (rd b 0 0).2.1) else if (rd b 0 0).1 < 1 ∨ 64 < (rd b 0 0).1 then ([], [], 0, 61, 0)
  else bents b (rd b 0 0).1 [] [] (rd b 0 0).2.1
section
variable {b : List UInt8} {l : List Ent} {ps : List Nat} {j p q : Nat} {x : Ent} {e : Int}
theorem bents_no (h : pread (bP l.length (bst l).last) b p = (x, q, e)) (he : e ≠ 0) : bents b (j + 1) l ps p = (l, ps, p, e, q) := by
  conv => lhs; unfold bents
  rw [h]; exact if_pos he
theorem bents_low (h : pread (bP l.length (bst l).last) b p = (x, q, 0)) (h2 : 0 < l.length ∧ 0 ≤ cmp (bst l).last x.1) : bents b (j + 1) l ps p = (l, ps, p, 51, p) := by
  conv => lhs; unfold bents
  rw [h]; exact (if_neg (fun e => e rfl)).trans (if_pos h2)
theorem bents_go (h : pread (bP l.length (bst l).last) b p = (x, q, 0)) (h2 : ¬ (0 < l.length ∧ 0 ≤ cmp (bst l).last x.1)) : bents b (j + 1) l ps p = bents b j (l ++ [x]) (ps ++ [p]) q := by
  conv => lhs; unfold bents
  rw [h]; exact (if_neg (fun e => e rfl)).trans (if_neg h2)
theorem bentries_no {n : Nat} (h : rd b 0 0 = (n, q, e)) (he : e ≠ 0) : bentries b = ([], [], 0, e, q) := by unfold bentries; rw [h]; exact if_pos he
theorem bentries_bad {n : Nat} (h : rd b 0 0 = (n, q, 0)) (h2 : n < 1 ∨ 64 < n) : bentries b = ([], [], 0, 61, 0) := by unfold bentries; rw [h]; exact (if_neg (fun e => e rfl)).trans (if_pos h2)
theorem bentries_go {n : Nat} (h : rd b 0 0 = (n, q, 0)) (h2 : ¬ (n < 1 ∨ 64 < n)) : bentries b = bents b n [] [] q := by unfold bentries; rw [h]; exact (if_neg (fun e => e rfl)).trans (if_neg h2)
end
/-- the places of the restarts; what the table is -/
def bruns : Nat → List Nat → List Nat
  | _, [] => []
  | i, a :: r => if i % 8 = 0 then a :: bruns (i + 1) r else bruns (i + 1) r
def bmark2 (a : Nat) : List UInt8 := [UInt8.ofNat a, UInt8.ofNat (a / 256)]
def bwant (l : List Nat) : List UInt8 := l.flatMap bmark2
theorem bruns_snoc : ∀ (l : List Nat) (i a : Nat), bruns i (l ++ [a]) = bruns i l ++ (if (i + l.length) % 8 = 0 then [a] else [])
  | [], i, a => by
    show (if i % 8 = 0 then a :: bruns (i + 1) [] else bruns (i + 1) []) = _
    show (if i % 8 = 0 then [a] else []) = [] ++ _
    simp
  | x :: r, i, a => by
    have := bruns_snoc r (i + 1) a
    have e : i + (x :: r).length = i + 1 + r.length := by rw [List.length_cons]; omega
    rw [e]
    show (if i % 8 = 0 then x :: bruns (i + 1) (r ++ [a]) else bruns (i + 1) (r ++ [a])) = (if i % 8 = 0 then x :: bruns (i + 1) r else bruns (i + 1) r) ++ _
    split <;> simp [this]
/-- the table, and that nothing stands behind: the place, the error -/
def btable (b : List UInt8) : List UInt8 → Nat → Nat × Int
  | [], p => if p < b.length then (p, 63) else (0, 0)
  | c :: r, p => if b[p]? = some c then btable b r (p + 1) else (p, 62)
theorem btable_end {b : List UInt8} {p : Nat} (h : p < b.length) : btable b [] p = (p, 63) := if_pos h
theorem btable_ok {b : List UInt8} {p : Nat} (h : ¬ p < b.length) : btable b [] p = (0, 0) := if_neg h
theorem btable_go {b r : List UInt8} {c : UInt8} {p : Nat} (h : b[p]? = some c) : btable b (c :: r) p = btable b r (p + 1) := by
  conv => lhs; unfold btable
  exact if_pos h
theorem btable_no {b r : List UInt8} {c : UInt8} {p : Nat} (h : b[p]? ≠ some c) : btable b (c :: r) p = (p, 62) := by
  conv => lhs; unfold btable
  exact if_neg h
/-- a block: the entries, the error's place, the error -/
def bread (b : List UInt8) : List Ent × Nat × Int :=
  if (bentries b).2.2.2.1 ≠ 0 then ([], (bentries b).2.2.2.2, (bentries b).2.2.2.1)
  else if (btable b (bwant (bruns 0 (bentries b).2.1)) (bentries b).2.2.1).2 ≠ 0 then ([], (btable b (bwant (bruns 0 (bentries b).2.1)) (bentries b).2.2.1).1, (btable b (bwant (bruns 0 (bentries b).2.1)) (bentries b).2.2.1).2)
  else ((bentries b).1, 0, 0)
section
variable {b : List UInt8} {l : List Ent} {ps : List Nat} {p q : Nat} {e : Int}
theorem bread_no (h : bentries b = (l, ps, p, e, q)) (he : e ≠ 0) : bread b = ([], q, e) := by unfold bread; rw [h]; exact if_pos he
theorem bread_tab {p' q' : Nat} (h : bentries b = (l, ps, p, 0, q)) (h2 : btable b (bwant (bruns 0 ps)) p = (q', e)) (he : e ≠ 0) : bread b = ([], q', e) := by
  unfold bread; rw [h]; dsimp only; rw [h2]; exact (if_neg (fun e => e rfl)).trans (if_pos he)
theorem bread_ok {q' : Nat} (h : bentries b = (l, ps, p, 0, q)) (h2 : btable b (bwant (bruns 0 ps)) p = (q', 0)) : bread b = (l, 0, 0) := by
  unfold bread; rw [h]; dsimp only; rw [h2]; exact (if_neg (fun e => e rfl)).trans (if_neg (fun e => e rfl))
end
/-- of what was read: entries that may be, each behind its forerunners; places within the bytes -/
theorem pread_in {p b : List UInt8} {a : Nat} {x : Ent} {q : Nat} (h : pread p b a = (x, q, 0)) (ha : a ≤ b.length) : chk x = 0 ∧ a < q ∧ q ≤ b.length ∧ (p.length = 0 ∨ cmp p x.1 < 0) := by
  obtain ⟨⟨ns, a3, e⟩, hr⟩ : ∃ R, pr3 b 3 [] a = R := ⟨_, rfl⟩
  by_cases he : e = 0
  · subst he
    obtain ⟨⟨s, i, e1⟩, h0⟩ : ∃ R, rd (b.drop a) 0 0 = R := ⟨_, rfl⟩
    by_cases f1 : e1 = 0
    · subst f1
      obtain ⟨⟨m, j, e2⟩, h1⟩ : ∃ R, rd (b.drop (a + i)) 0 0 = R := ⟨_, rfl⟩
      by_cases f2 : e2 = 0
      · subst f2
        obtain ⟨⟨l, t, e3⟩, h2⟩ : ∃ R, rd (b.drop (a + i + j)) 0 0 = R := ⟨_, rfl⟩
        by_cases f3 : e3 = 0
        · subst f3
          have h3 := pr3_ok h0 h1 h2
          rw [pread_ok h3] at h
          obtain ⟨l0, t0, n0⟩ := rd_vbs h0
          obtain ⟨l1, t1, n1⟩ := rd_vbs h1
          obtain ⟨l2, t2, n2⟩ := rd_vbs h2
          simp only [List.length_drop] at l0 l1 l2
          have p0 := vb_pos s
          obtain ⟨z, hz⟩ : ∃ z, a + i + j + t = z := ⟨_, rfl⟩
          rw [hz] at h
          by_cases c1 : p.length < s
          · rw [pend_s c1] at h; simp at h
          by_cases c2 : 64 < m ∨ 256 < l ∨ s + m = 0 ∨ 64 < s + m
          · rw [pend_long c1 c2] at h; simp at h
          by_cases c3 : b.length - z < m + l
          · rw [pend_short c1 c2 c3] at h; simp at h
          by_cases c4 : com p (p.take s ++ (b.drop z).take m) = s
          · by_cases c5 : 0 < p.length ∧ 0 ≤ cmp p (p.take s ++ (b.drop z).take m)
            · rw [pend_cmp c1 c2 c3 c4 c5] at h; simp at h
            · rw [pend_ok c1 c2 c3 c4 c5] at h
              simp only [Prod.mk.injEq] at h
              obtain ⟨rfl, rfl, _⟩ := h
              refine ⟨?_, by omega, by omega, ?_⟩
              · unfold chk chkN keyN valN
                simp only [List.length_append, List.length_take, List.length_drop]
                rw [if_neg (by omega), if_neg (by omega)]; rfl
              · dsimp only
                by_cases hp : p.length = 0
                · exact .inl hp
                · right
                  have : ¬ (0 ≤ cmp p (p.take s ++ (b.drop z).take m)) := fun h => c5 ⟨by omega, h⟩
                  omega
          · rw [pend_com c1 c2 c3 c4] at h; simp at h
        · have h3 : pr3 b 3 [] a = ([], a + i + j + t, e3) := by rw [pr3_go h0, pr3_go h1, pr3_no h2 f3]
          rw [h3] at hr; simp only [Prod.mk.injEq] at hr; exact absurd hr.2.2 f3
      · have h3 : pr3 b 3 [] a = ([], a + i + j, e2) := by rw [pr3_go h0, pr3_no h1 f2]
        rw [h3] at hr; simp only [Prod.mk.injEq] at hr; exact absurd hr.2.2 f2
    · have h3 : pr3 b 3 [] a = ([], a + i, e1) := by rw [pr3_no h0 f1]
      rw [h3] at hr; simp only [Prod.mk.injEq] at hr; exact absurd hr.2.2 f1
  · rw [pread_no hr he] at h
    simp only [Prod.mk.injEq] at h; exact absurd h.2.2 he
end Go.Proofs.YtljcogimeimknaaGreat
/- What a reading of an entry answers; an entry's cell. No condition. -/
namespace Go.Proofs.YtljcogimeimknaaGreat
open Go.RowKit
set_option linter.unusedVariables false

/-- an entry of the call's own, a place, an error -/
def RdPost (w : World) (k v : List UInt8) (q : Nat) (er : Int) (e : Ending) (w' : World) : Prop :=
  ∃ vk vv mid, e = .returned (.tuple #[.agg #[vk, vv], .int .i64 q, .int .i64 er]) ∧ OwT fB w' w.heap.size 5 vk k ∧ OwT fB w' mid 5 vv v ∧ (∀ j, vk.ownBlock = some j → j < mid) ∧ w.heap.size ≤ mid ∧ Below w.heap.size w w'
theorem RdPost.no {w w' : World} {q : Nat} {er : Int} (hb : Below w.heap.size w w') : RdPost w [] [] q er (.returned (.tuple #[.agg #[.slice none 0 0, .slice none 0 0], .int .i64 q, .int .i64 er])) w' :=
  ⟨_, _, w.heap.size, rfl, OwT.nil _ _ _ _, OwT.nil _ _ _ _, (fun j hj => by cases hj), Nat.le_refl _, hb⟩
theorem OwT.offB {w : World} {base g : Nat} {e : TypeId} {x : Value} {xs : List UInt8} (h : OwT fB w base e x xs) (hg : g < base) (i : Nat) (v : Value) : OwT fB (w.setCell ⟨g, i, none⟩ v) base e x xs :=
  h.of_block fun j hj => Below.heap_setCell _ _ _ _ (by have := (h.lt j hj).1; intro e; have e : j = g := e; omega)
/-- one cell entry block -/
def Eb (w : World) (g : Nat) (x y : Value) : Prop := w.heap[g]? = some (.cells #[x, y] 51 (0, 0))
theorem Eb.c0 {w : World} {g : Nat} {x y : Value} (h : Eb w g x y) : w.cell? ⟨g, 0, none⟩ = some x := by unfold Eb at h; simp [World.cell?, h]
theorem Eb.c1 {w : World} {g : Nat} {x y : Value} (h : Eb w g x y) : w.cell? ⟨g, 1, none⟩ = some y := by unfold Eb at h; simp [World.cell?, h]
theorem Eb.free {w : World} {g : Nat} {x y : Value} (h : Eb w g x y) (i : Nat) : w.frozen? ⟨g, i, none⟩ = false := by unfold Eb at h; simp [World.frozen?, h]
theorem Eb.lt {w : World} {g : Nat} {x y : Value} (h : Eb w g x y) : g < w.heap.size := (Array.getElem?_eq_some_iff.1 h).1
theorem Eb.keep {w w' : World} {g : Nat} {x y : Value} (h : Eb w g x y) (hb : Below w.heap.size w w') : Eb w' g x y := (hb.block g h.lt).trans h
theorem Eb.off {w : World} {g ga : Nat} {x y : Value} (h : Eb w g x y) (hne : g ≠ ga) (k : Nat) (v : Value) : Eb (w.setCell ⟨ga, k, none⟩ v) g x y := (Below.heap_setCell _ _ _ _ hne).trans h
theorem Eb.set0 {w : World} {g : Nat} {x y : Value} (h : Eb w g x y) (z : Value) : Eb (w.setCell ⟨g, 0, none⟩ z) g z y := by
  unfold Eb at h ⊢
  simp only [World.setCell, Array.getElem?_modify, if_true]
  rw [h]; rfl
theorem Eb.set1 {w : World} {g : Nat} {x y : Value} (h : Eb w g x y) (z : Value) : Eb (w.setCell ⟨g, 1, none⟩ z) g x z := by
  unfold Eb at h ⊢
  simp only [World.setCell, Array.getElem?_modify, if_true]
  rw [h]; rfl
theorem Eb.none2 {w : World} {g : Nat} {x y : Value} (h : Eb w g x y) : Eb ((w.setCell ⟨g, 0, none⟩ (.slice none 0 0)).setCell ⟨g, 1, none⟩ (.slice none 0 0)) g (.slice none 0 0) (.slice none 0 0) := (h.set0 _).set1 _
def erd (p b : List UInt8) (z : Int) : Ent × Nat × Int := if 0 ≤ z ∧ z ≤ b.length then pread p b z.toNat else (([], []), 0, 1)
end Go.Proofs.YtljcogimeimknaaGreat
/- block.tried, and a reader of blocks in memory. Condition: what is done ends, or is given up by a wrong. -/
namespace Go.Proofs.YtljcogimeimknaaGreat
open Go.RowKit
set_option linter.unusedVariables false

/-- what a reader gives up by -/
def wrongBy (e q : Int) : Ending := .panicked [{ v := .iface 158 (.agg #[.int .i64 e, .int .i64 q]), recovered := false }]
/-- the cell of the named result -/
def WB (w : World) (g : Nat) (e q : Int) : Prop := w.heap[g]? = some (.cells #[.int .i64 e, .int .i64 q] 158 (0, 0))
theorem assertW (v : Value) (w : World) : (Instr.typeAssert (.iface 158 v) 20 158 false).run Tryz.prog w = .ok v w := by kernel_rfl
theorem WB.set {w : World} {g : Nat} {x y : Int} (h : WB w g x y) (e q : Int) : WB ((w.setCell ⟨g, 0, none⟩ (.int .i64 e)).setCell ⟨g, 1, none⟩ (.int .i64 q)) g e q := by
  unfold WB at h ⊢
  have h1 := set_block (i := 0) h (.int .i64 e)
  have h2 := set_block (i := 1) h1 (.int .i64 q)
  rw [h2]; rfl
set_option maxRecDepth 100000 in
theorem caught (g : Nat) (x y e q : Int) (w : World) (h : WB w g x y) :
    CallsD Tryz.prog 132 #[.pointer (some ⟨g, 0, none⟩)] (.panicking [{ v := .iface 158 (.agg #[.int .i64 e, .int .i64 q]), recovered := false }]) w fun r u' w' =>
      r = .returned (.tuple #[]) ∧ u' = .panicking [{ v := .iface 158 (.agg #[.int .i64 e, .int .i64 q]), recovered := true }] ∧ WB w' g e q ∧ Turns (fun j => j = g) w w' := by
  have c0 := cell_of h 0 rfl
  have c1 := cell_of h 1 rfl
  have z0 := free_block h 0
  have z1 := free_block h 1
  refine callsD_of_wpS Tryz.func132 rfl fun c₀ cs hu => ?_
  apply wpS_seq
  apply wpS_region
  simp [wpOpsS, go_sem, recoverD, hu, Tryz.ntmps132, Exit.thenS]
  apply wpS_seq
  apply wpS_region
  simp [wpOpsS, go_sem, recoverD, Exit.thenS]
  refine wpS_cond (t := true) (by simp [Act.eval, Array.replicate]) ?_
  simp only [if_true]
  apply wpS_region
  simp [wpOpsS, go_sem, assertW, c0, c1, z0, z1, bodyPostS, results, Tryz.results132]
  exact ⟨h.set e q, (Turns.set (S := fun j => j = g) _ rfl _).trans (T := fun j => j = g) (Turns.set (S := fun j => j = g) _ rfl _) fun _ _ t => t⟩
set_option maxRecDepth 100000 in
theorem idle (g : Nat) (w : World) :
    CallsD Tryz.prog 132 #[.pointer (some ⟨g, 0, none⟩)] .returning w fun e u' w' => e = .returned (.tuple #[]) ∧ u' = .returning ∧ w' = w := by
  refine callsD_of_wpS Tryz.func132 rfl fun c₀ cs hu => ?_
  apply wpS_seq
  apply wpS_region
  simp [wpOpsS, go_sem, recoverD, hu, Tryz.ntmps132, Exit.thenS]
  apply wpS_seq
  apply wpS_region
  simp [wpOpsS, go_sem, recoverD, Exit.thenS]
  refine wpS_cond (t := false) (by simp [Act.eval, Array.replicate]) ?_
  simp only [Bool.false_eq_true, if_false]
  refine wpS_of_wp (wp_skip ?_)
  cases c₀
  simp_all [bodyPostS, results, Tryz.results132]
set_option maxRecDepth 100000 in
theorem tried_any (fn : FuncId) (caps : Array Value) (Q : Int → Int → World → Prop) (w : World) (hr : ∀ (args : Array Value) (W : World), (callFunc fn args).run Tryz.prog W = .ok (.enter fn args) W)
    (h : Calls Tryz.prog fn caps (w.alloc (.cells #[.int .i64 0, .int .i64 0] 158)) fun r w2 => ∃ e q : Int, ((e = 0 ∧ q = 0 ∧ r = .returned (.tuple #[])) ∨ r = wrongBy e q) ∧ Q e q w2 ∧ WB w2 w.heap.size 0 0) :
    Calls Tryz.prog 92 #[.func (.func fn) #[] caps] w fun r w' => ∃ (e q : Int) (w2 : World), r = .returned (.agg #[.int .i64 e, .int .i64 q]) ∧ Q e q w2 ∧ Turns (fun j => j = w.heap.size) w2 w' := by
  have hmf : ∀ (fn : Fn) (first cap : Array Value) (w : World), (Instr.makeFunc fn first cap).run Tryz.prog w = .ok (.func fn first cap) w := fun _ _ _ _ => rfl
  have H := Lib.hid h; clear h
  go_enter_defers Tryz.func92, Tryz.ntmps92
  go_wp2_with fail
  refine H.out.mono ?_
  rintro r w2 ⟨e, q, hr2, hQ, hW⟩
  rcases hr2 with ⟨rfl, rfl, rfl⟩ | rfl
  · go_wp2_with fail
    refine leaves_cons (f := 132) (args := #[.pointer (some ⟨w.heap.size, 0, none⟩)]) (by simp) (by simp [go_sem]) ?_
    refine (idle w.heap.size _).mono ?_
    rintro e u' w'' ⟨rfl, rfl, rfl⟩
    have c0 := cell_of hW 0 rfl
    have c1 := cell_of hW 1 rfl
    simp [Leaves, settle, results, Tryz.results92, go_sem, c0, c1]
    exact ⟨0, 0, ⟨rfl, rfl⟩, w'', hQ, .refl _ _⟩
  · unfold wrongBy
    go_wp2_with fail
    refine leaves_cons (f := 132) (args := #[.pointer (some ⟨w.heap.size, 0, none⟩)]) (by simp) (by simp [go_sem]) ?_
    refine (caught w.heap.size 0 0 e q _ hW).mono ?_
    rintro r u' w'' ⟨rfl, rfl, hw, ht⟩
    have c0 := cell_of hw 0 rfl
    have c1 := cell_of hw 1 rfl
    simp [Leaves, settle, results, Tryz.results92, go_sem, c0, c1]
    exact ⟨e, q, ⟨rfl, rfl⟩, w2, hQ, ht⟩
abbrev fI (a : Nat) : List Value := [.int .i64 (a : Nat)]
theorem fI_len (x : Nat) : (fI x).length = 1 := rfl
theorem eltTI : EltT Tryz.prog 55 3 fI 1 8 := by
  have hi : (Tryz.prog.info? 3).map (fun i => (i.zero, i.size, i.bytes)) = some (some (.int .i64 0), 1, 8) := by kernel_rfl
  obtain ⟨i, hi1, hi2, hi3, hi4⟩ := info_parts hi
  exact ⟨Tryz.underlying55, ⟨i, _, hi1, hi2, hi3, hi4, 0, rfl⟩, fun _ => rfl, by decide, fun x u hu => by simp [fI] at hu; rw [hu]; rfl⟩
theorem OwT.slRI {w : World} {base : Nat} {e : TypeId} {v : Value} {vs : List Nat} (h : OwT fI w base e v vs) : ∃ a n c, v = .slice a n c ∧ n = vs.length ∧ n ≤ c := by
  obtain ⟨a, c, hv, hs⟩ := h.sl fI_len
  exact ⟨a, _, c, hv, rfl, hs.2.1⟩
theorem SlT.litI (w : World) (x g : Nat) (hg : w.heap.size = g) : SlT fI 1 (w.alloc (.cells #[.int .i64 (x : Nat)] 3)) (some ⟨g, 0, none⟩) 1 1 [x] := by
  subst hg
  obtain ⟨a, c, hv, hs⟩ := (OwT.lit fI w w.heap.size 3 #[.int .i64 (x : Nat)] [x] 1 rfl rfl (Nat.le_refl _) (by decide)).sl fI_len
  cases hv; exact hs
/-- a reader: the bytes, how many entries, how many were read, the place, the last key, the restarts -/
structure Rdr (w : World) (lo g : Nat) (ab : Option Addr) (nb cb n d a : Nat) (vl vr : Value) (last : List UInt8) (runs : List Nat) : Prop where
  blk : w.heap[g]? = some (.cells #[.slice ab nb cb, .int .i64 (n : Nat), .int .i64 (d : Nat), .int .i64 (a : Nat), vl, vr] 165 (0, 0))
  rl : OwT fB w lo 5 vl last
  rr : OwT fI w lo 3 vr runs
  ol : Off vl g
  orr : Off vr g
  dis : ∀ b, vl.ownBlock = some b → vr.ownBlock ≠ some b
  low : lo ≤ g
  nil : vl = .slice none 0 0 ∧ last = [] ∨ 0 < last.length
def RdS (g : Nat) (vl vr : Value) (j : Nat) : Prop := j = g ∨ vl.ownBlock = some j ∨ vr.ownBlock = some j
section
variable {w w1 : World} {lo g nb cb n d a : Nat} {ab : Option Addr} {vl vr : Value} {last : List UInt8} {runs : List Nat}
theorem Rdr.lt (h : Rdr w lo g ab nb cb n d a vl vr last runs) : g < w.heap.size := (Array.getElem?_eq_some_iff.1 h.blk).1
theorem Rdr.inS (h : Rdr w lo g ab nb cb n d a vl vr last runs) : ∀ j, RdS g vl vr j → lo ≤ j ∧ j < w.heap.size := fun j hj => by
  rcases hj with rfl | hj | hj
  · exact ⟨h.low, h.lt⟩
  · exact h.rl.lt j hj
  · exact h.rr.lt j hj
theorem Rdr.turns {S : Nat → Prop} (h : Rdr w lo g ab nb cb n d a vl vr last runs) (ht : Turns S w w1) (hs : ∀ j, RdS g vl vr j → ¬ S j) : Rdr w1 lo g ab nb cb n d a vl vr last runs :=
  ⟨ht.heap h.blk (hs g (.inl rfl)), h.rl.turns ht fun j hj => hs j (.inr (.inl hj)), h.rr.turns ht fun j hj => hs j (.inr (.inr hj)), h.ol, h.orr, h.dis, h.low, h.nil⟩
theorem Rdr.keep (h : Rdr w lo g ab nb cb n d a vl vr last runs) (hb : Below w.heap.size w w1) : Rdr w1 lo g ab nb cb n d a vl vr last runs := h.turns (S := fun _ => False) (.of_below hb) fun _ _ e => e
theorem Rdr.drewN (h : Rdr w lo g ab nb cb n d a vl vr last runs) (m : Nat) : Rdr (w.drewN m) lo g ab nb cb n d a vl vr last runs := h.keep (keep_drewN (Below.refl _ _) m)
theorem Rdr.c0 (h : Rdr w lo g ab nb cb n d a vl vr last runs) : w.cell? ⟨g, 0, none⟩ = some (.slice ab nb cb) := cell_of h.blk 0 rfl
theorem Rdr.c1 (h : Rdr w lo g ab nb cb n d a vl vr last runs) : w.cell? ⟨g, 1, none⟩ = some (.int .i64 (n : Nat)) := cell_of h.blk 1 rfl
theorem Rdr.c2 (h : Rdr w lo g ab nb cb n d a vl vr last runs) : w.cell? ⟨g, 2, none⟩ = some (.int .i64 (d : Nat)) := cell_of h.blk 2 rfl
theorem Rdr.c3 (h : Rdr w lo g ab nb cb n d a vl vr last runs) : w.cell? ⟨g, 3, none⟩ = some (.int .i64 (a : Nat)) := cell_of h.blk 3 rfl
theorem Rdr.c4 (h : Rdr w lo g ab nb cb n d a vl vr last runs) : w.cell? ⟨g, 4, none⟩ = some vl := cell_of h.blk 4 rfl
theorem Rdr.c5 (h : Rdr w lo g ab nb cb n d a vl vr last runs) : w.cell? ⟨g, 5, none⟩ = some vr := cell_of h.blk 5 rfl
theorem Rdr.free (h : Rdr w lo g ab nb cb n d a vl vr last runs) (i : Nat) : w.frozen? ⟨g, i, none⟩ = false := free_block h.blk i
theorem Rdr.num (h : Rdr w lo g ab nb cb n d a vl vr last runs) (k : Nat) : Rdr (w.setCell ⟨g, 2, none⟩ (.int .i64 (k : Nat))) lo g ab nb cb n k a vl vr last runs :=
  ⟨set_block (i := 2) h.blk _, h.rl.of_block fun j hj => Below.heap_setCell _ _ _ _ (h.ol j hj), h.rr.of_block fun j hj => Below.heap_setCell _ _ _ _ (h.orr j hj), h.ol, h.orr, h.dis, h.low, h.nil⟩
theorem Rdr.place (h : Rdr w lo g ab nb cb n d a vl vr last runs) (k : Nat) : Rdr (w.setCell ⟨g, 3, none⟩ (.int .i64 (k : Nat))) lo g ab nb cb n d k vl vr last runs :=
  ⟨set_block (i := 3) h.blk _, h.rl.of_block fun j hj => Below.heap_setCell _ _ _ _ (h.ol j hj), h.rr.of_block fun j hj => Below.heap_setCell _ _ _ _ (h.orr j hj), h.ol, h.orr, h.dis, h.low, h.nil⟩
/-- the last key is laid anew -/
theorem Rdr.key {x : Value} {xs : List UInt8} (h : Rdr w lo g ab nb cb n d a vl vr last runs) (ho : OwT fB w lo 5 x xs) (hx : ∀ j, x.ownBlock = some j → ¬ RdS g vl vr j) (hn : 0 < xs.length) : Rdr (w.setCell ⟨g, 4, none⟩ x) lo g ab nb cb n d a x vr xs runs :=
  ⟨set_block (i := 4) h.blk _, ho.of_block fun j hj => Below.heap_setCell _ _ _ _ (fun e => hx j hj (.inl e)), h.rr.of_block fun j hj => Below.heap_setCell _ _ _ _ (h.orr j hj), fun j hj e => hx j hj (.inl e), h.orr, fun b hb hr => hx b hb (.inr (.inr hr)), h.low, .inr hn⟩
/-- a restart more -/
theorem Rdr.app {w0 : World} {x : Value} {ys : List Nat} (h : Rdr w lo g ab nb cb n d a vl vr last runs) (hw : Below w.heap.size w w0) (hg : w0.grownBy w1 vr.ownBlock) (ho : OwT fI w1 lo 3 x ys) (hx : x.ownBlock = vr.ownBlock ∨ x.ownBlock = some w0.heap.size) :
    w1.cell? ⟨g, 5, none⟩ = some vr ∧ w1.frozen? ⟨g, 5, none⟩ = false ∧ Rdr (w1.setCell ⟨g, 5, none⟩ x) lo g ab nb cb n d a vl x last ys ∧ Turns (RdS g vl vr) w w1 ∧ Turns (RdS g vl vr) w (w1.setCell ⟨g, 5, none⟩ x) ∧ ∀ j, RdS g vl x j → RdS g vl vr j ∨ w.heap.size ≤ j := by
  have ht : Turns (fun j => vr.ownBlock = some j) w w1 := (Turns.of_below hw).trans (.of_grown hg fun j e => e) fun _ _ e => e
  have hblk := ht.heap h.blk fun e => h.orr g e rfl
  have hz := hw.size
  have hxn : ∀ j, x.ownBlock = some j → vr.ownBlock = some j ∨ w.heap.size ≤ j := fun j hj => by
    rcases hx with e | e
    · exact .inl (e.symm.trans hj)
    · rw [e] at hj; injection hj with hj; exact .inr (by omega)
  have hxg : Off x g := fun j hj e => by
    rcases hxn j hj with h2 | h2
    · exact h.orr j h2 e
    · have := h.lt; omega
  have hlx : ∀ b, vl.ownBlock = some b → x.ownBlock ≠ some b := fun b hb hxb => by
    rcases hxn b hxb with h2 | h2
    · exact h.dis b hb h2
    · have := (h.rl.lt b hb).2; omega
  refine ⟨cell_of hblk 5 rfl, free_block hblk 5, ⟨set_block (i := 5) hblk _, ?_, ho.of_block fun j hj => Below.heap_setCell _ _ _ _ (hxg j hj), h.ol, hxg, hlx, h.low, h.nil⟩, ht.mono fun j _ hj => .inr (.inr hj), ?_, fun j hj => ?_⟩
  · exact (h.rl.turns ht fun j hj e2 => h.dis j hj e2).of_block fun j hj => Below.heap_setCell _ _ _ _ (h.ol j hj)
  · exact (ht.mono (T := RdS g vl vr) fun j _ hj => .inr (.inr hj)).trans (Turns.set (S := RdS g vl vr) w1 (.inl rfl) x) fun _ _ e => e
  · rcases hj with e | e | e
    · exact .inl (.inl e)
    · exact .inl (.inr (.inl e))
    · exact (hxn j e).imp (fun h => .inr (.inr h)) id
end
/-- behind a step: given up, or an entry of the call's own, the reader gone on -/
def NextPost (w : World) (lo g : Nat) (ab : Option Addr) (nb cb n d a : Nat) (vl vr : Value) (last : List UInt8) (runs : List Nat) (b : List UInt8) (r : Ending) (w' : World) : Prop :=
  ∃ (x : Ent) (q : Nat) (er : Int), erd (if d % 8 = 0 then [] else last) b a = (x, q, er) ∧ Turns (RdS g vl vr) w w' ∧
    (er ≠ 0 → r = wrongBy er q) ∧ (er = 0 → d % 8 = 0 ∧ 0 < last.length ∧ 0 ≤ cmp last x.1 → r = wrongBy 51 a) ∧
    (er = 0 → ¬ (d % 8 = 0 ∧ 0 < last.length ∧ 0 ≤ cmp last x.1) → ∃ vk vv vl' vr' mid, r = .returned (.agg #[vk, vv]) ∧ OwT fB w' w.heap.size 5 vk x.1 ∧ OwT fB w' mid 5 vv x.2 ∧ (∀ j, vk.ownBlock = some j → j < mid) ∧ w.heap.size ≤ mid ∧
      Rdr w' lo g ab nb cb n (d + 1) q vl' vr' x.1 (runs ++ if d % 8 = 0 then [a] else []) ∧ (∀ j, RdS g vl' vr' j → RdS g vl vr j ∨ w.heap.size ≤ j) ∧ ∀ j, RdS g vl' vr' j → vk.ownBlock ≠ some j ∧ vv.ownBlock ≠ some j)
/-- behind the reading of an entry in a step: where it lies -/
def ReadCut (w : World) (x : Ent) (q : Nat) (er : Int) (b5 b6 b7 : Value) (wx : World) : Prop :=
  ∃ gb vk vv mid, b5 = .pointer (some ⟨gb, 0, none⟩) ∧ b6 = .int .i64 q ∧ b7 = .int .i64 er ∧ Eb wx gb vk vv ∧ OwT fB wx w.heap.size 5 vk x.1 ∧ OwT fB wx mid 5 vv x.2 ∧ (∀ j, vk.ownBlock = some j → j < mid) ∧ w.heap.size ≤ mid ∧ w.heap.size ≤ gb ∧ Below w.heap.size w wx
theorem erd_in {p b : List UInt8} {z : Int} {x : Ent} {q : Nat} (h : erd p b z = (x, q, 0)) : 0 < x.1.length ∧ x.1.length ≤ 64 ∧ x.2.length ≤ 256 ∧ q ≤ b.length ∧ z < q ∧ (p.length = 0 ∨ cmp p x.1 < 0) := by
  unfold erd at h
  by_cases hz : 0 ≤ z ∧ z ≤ b.length
  · rw [if_pos hz] at h
    obtain ⟨hc, h1, h2, h3⟩ := pread_in h (by omega)
    refine ⟨?_, ?_, ?_, h2, by omega, h3⟩ <;> (unfold chk chkN keyN valN at hc; split at hc <;> split at hc <;> simp at hc <;> omega)
  · rw [if_neg hz] at h
    simp only [Prod.mk.injEq] at h
    exact absurd h.2.2 (by decide)
end Go.Proofs.YtljcogimeimknaaGreat
/- Whoever has entries writes over them: contract of the reference's Spoil. Conditions: the entries lie in memory of their own. Written by a program of this place (gen_EntSpoil.py). -/
namespace Go.Proofs.YtljcogimeimknaaGreat
open Go.RowKit
set_option linter.unusedVariables false

/-- a text's block holds bytes -/
def KbE (w : World) (gl lo hi : Nat) (s : Sv) : Prop :=
  (s.1 = none ∧ s.2.2 = 0) ∨ ∃ (g : Nat) (bs : List UInt8), s.1 = some ⟨g, 0, none⟩ ∧ w.heap[g]? = some (.cells (bs.map Bf).toArray 5 (0, 0)) ∧ bs.length = s.2.2 ∧ g ≠ gl ∧ lo ≤ g ∧ g < hi ∧ s.2.2 ≤ 9223372036854775807
theorem KbE.setB {w : World} {gl lo hi g i : Nat} {s : Sv} (h : KbE w gl lo hi s) {y : UInt8} : KbE (w.setCell ⟨g, i, none⟩ (.int .u8 (B y))) gl lo hi s := by
  rcases h with h | ⟨g', bs, h1, h2, h3, h4⟩
  · exact .inl h
  · by_cases e : g' = g
    · subst e
      refine .inr ⟨g', bs.set i y, h1, ?_, by rw [List.length_set]; exact h3, h4⟩
      rw [set_block h2]
      congr 2
      apply Array.ext'
      rw [Array.toList_setIfInBounds]
      simp only [List.map_set]
    · exact .inr ⟨g', bs, h1, (Below.heap_setCell w ⟨g, i, none⟩ _ g' (by exact e)).trans h2, h3, h4⟩
theorem KbE.setL {w : World} {gl lo hi i : Nat} {s : Sv} (h : KbE w gl lo hi s) {v : Value} : KbE (w.setCell ⟨gl, i, none⟩ v) gl lo hi s := by
  rcases h with h | ⟨g', bs, h1, h2, h3, h4, h5⟩
  · exact .inl h
  · exact .inr ⟨g', bs, h1, (Below.heap_setCell w ⟨gl, i, none⟩ _ g' h4).trans h2, h3, h4, h5⟩
theorem KbE.cap {w : World} {gl lo hi : Nat} {s : Sv} (h : KbE w gl lo hi s) : s.2.2 ≤ 9223372036854775807 := by
  rcases h with ⟨_, h⟩ | ⟨_, _, _, _, _, _, _, _, h⟩
  · omega
  · exact h
theorem KbE.of_own {w : World} {lo hi gl : Nat} {s : Sv} {e : TypeId} {xs : List UInt8} {n : Nat} (he : e = 5) (h : OwT fB w lo e (.slice s.1 n s.2.2) xs) (hb : ∀ j, Value.ownBlock (.slice s.1 n s.2.2) = some j → lo ≤ j ∧ j < hi) (hf : Off (.slice s.1 n s.2.2) gl) : KbE w gl lo hi s := by
  subst he
  rcases h with ⟨e, _⟩ | ⟨g, cap, ys, e, hg, hh, hl, hn, hc, ht⟩
  · left
    injection e with e1 e2 e3
    exact ⟨e1, e3⟩
  · right
    injection e with e1 e2 e3
    have hob : Value.ownBlock (.slice s.1 n s.2.2) = some g := by rw [e1]; rfl
    refine ⟨g, ys, e1, by rw [hh, flat_fB], by rw [hl, e3], hf g hob, (hb g hob).1, (hb g hob).2, ?_⟩
    rw [e3]; unfold maxLen at hc; omega
/-- a list of entries that may be written over -/
def SpE (w : World) (lo hi : Nat) (a : Option Addr) (n c : Nat) : Prop :=
  (a = none ∧ n = 0 ∧ c = 0) ∨ ∃ (gl : Nat) (ys : List (Sv × Sv)), a = some ⟨gl, 0, none⟩ ∧ w.heap[gl]? = some (.cells (ys.flatMap fE).toArray 51 (0, 0)) ∧ ys.length = c ∧ n ≤ c ∧ c ≤ 9223372036854775807 ∧ lo ≤ gl ∧ gl < hi ∧ ∀ x, x ∈ ys → KbE w gl lo hi x.1 ∧ KbE w gl lo hi x.2
theorem eflat_at {ys : List (Sv × Sv)} {k : Nat} {x : Sv × Sv} (h : ys[k]? = some x) (j : Nat) (hj : j < 2) : (ys.flatMap fE)[k * 2 + j]? = (fE x)[j]? := by
  have := flat_get fE_len ys k x j ((fE x)[j]'(by rw [fE_len]; exact hj)) h (List.getElem?_eq_getElem _)
  rw [this]; exact (List.getElem?_eq_getElem _).symm
theorem eflat_set2 {ys : List (Sv × Sv)} {k : Nat} {x : Sv × Sv} (hk : k < ys.length) (a b : Value) (hx : fE x = [a, b]) : (((ys.flatMap fE).set (k * 2) a).set (k * 2 + 1) b) = (ys.set k x).flatMap fE := by
  induction ys generalizing k with
  | nil => simp at hk
  | cons y r ih =>
    cases k with
    | zero => rw [List.set_cons_zero, List.flatMap_cons, List.flatMap_cons, hx]; rfl
    | succ k =>
      have e := ih (k := k) (by simpa using hk)
      rw [List.set_cons_succ, List.flatMap_cons, List.flatMap_cons, ← e]
      have s : ∀ (l : List Value) (i : Nat) (v : Value), (fE y ++ l).set (i + 2) v = fE y ++ l.set i v := by
        intro l i v
        rw [List.set_append_right _ _ (by rw [fE_len]; omega), fE_len]
        rfl
      rw [show (k + 1) * 2 = k * 2 + 2 by omega, show k * 2 + 2 + 1 = k * 2 + 1 + 2 by omega, s, s]
theorem erow_cells {w : World} {gl : Nat} {t : TypeId} {cs : Array Value} (h : w.heap[gl]? = some (.cells cs t (0, 0))) (i : Nat) (hi : i < cs.size) (v : Value) :
    (∃ u, w.cell? ⟨gl, i, none⟩ = some u ∧ w.frozen? ⟨gl, i, none⟩ = false) ∧ (w.setCell ⟨gl, i, none⟩ v).heap[gl]? = some (.cells (cs.setIfInBounds i v) t (0, 0)) :=
  ⟨⟨cs[i], cell_of h i (Array.getElem?_eq_getElem hi), free_block h i⟩, set_block (i := i) h v⟩
theorem erow_set2 {w : World} {gl : Nat} {ys : List (Sv × Sv)} {t : TypeId} (h : w.heap[gl]? = some (.cells (ys.flatMap fE).toArray t (0, 0))) {k : Nat} (hk : k < ys.length) (x : Sv × Sv) {s1 s2 : Value} (hx : fE x = [s1, s2]) :
    ∃ v0 v1, (w.cell? ⟨gl, k * 2, none⟩ = some v0 ∧ w.frozen? ⟨gl, k * 2, none⟩ = false) ∧ ((w.setCell ⟨gl, k * 2, none⟩ s1).cell? ⟨gl, k * 2 + 1, none⟩ = some v1 ∧ (w.setCell ⟨gl, k * 2, none⟩ s1).frozen? ⟨gl, k * 2 + 1, none⟩ = false) ∧
      ((w.setCell ⟨gl, k * 2, none⟩ s1).setCell ⟨gl, k * 2 + 1, none⟩ s2).heap[gl]? = some (.cells ((ys.set k x).flatMap fE).toArray t (0, 0)) := by
  have hl : (ys.flatMap fE).length = ys.length * 2 := flat_length fE_len ys
  obtain ⟨cs, hcs⟩ : ∃ cs, (ys.flatMap fE).toArray = cs := ⟨_, rfl⟩
  have hsz : cs.size = ys.length * 2 := by rw [← hcs, List.size_toArray, hl]
  rw [hcs] at h
  obtain ⟨⟨v0, c0⟩, h1⟩ := erow_cells h (k * 2) (by omega) s1
  obtain ⟨⟨v1, c1⟩, h2⟩ := erow_cells h1 (k * 2 + 1) (by rw [Array.size_setIfInBounds]; omega) s2
  refine ⟨v0, v1, c0, c1, ?_⟩
  rw [h2, ← hcs]
  congr 2
  apply Array.ext'
  simp only [Array.toList_setIfInBounds]
  exact eflat_set2 hk _ _ hx
end Go.Proofs.YtljcogimeimknaaGreat
/- Copy of entries, its memory told whole: contract. Conditions: the entries within reach. -/
namespace Go.Proofs.YtljcogimeimknaaGreat
open Go.RowKit
set_option linter.unusedVariables false

abbrev zE : Sv × Sv := ((none, 0, 0), (none, 0, 0))
theorem zE_ok : ∃ i z, Tryz.prog.info? 51 = some i ∧ i.zero = some z ∧ z.cells.toList = fE zE := by
  have hi : (Tryz.prog.info? 51).map (fun i => (i.zero, i.size, i.bytes)) = some (some (.agg #[.slice none 0 0, .slice none 0 0]), 2, 48) := by kernel_rfl
  obtain ⟨i, hi1, hi2, hi3, hi4⟩ := info_parts hi
  exact ⟨i, _, hi1, hi2, rfl⟩
end Go.Proofs.YtljcogimeimknaaGreat
/- bytes.Equal: contract. No condition. -/
namespace Go.Proofs.YtljcogimeimknaaGreat
open Go.RowKit
set_option linter.unusedVariables false

theorem strB_eqE (xs ys : List UInt8) : ((strB xs).toList == (strB ys).toList) = decide (xs = ys) := by
  rw [strB_list, strB_list]
  by_cases h : xs = ys
  · subst h; simp
  · rw [decide_eq_false h]; simp [h]
theorem bequal_any (a : Option Addr) (n c : Nat) (xs : List UInt8) (a' : Option Addr) (n' c' : Nat) (ys : List UInt8) (w : World) (h : Sl Bf w a n c xs) (h' : Sl Bf w a' n' c' ys) :
    Calls Tryz.prog 77 #[.slice a n c, .slice a' n' c'] w fun e w' => e = .returned (.bool (decide (xs = ys))) ∧ w = w' := by
  have r1 := run_str (P := Tryz.prog) (dst := 9) Tryz.underlying22 Tryz.underlying5 (by kernel_rfl) _ _ _ _ _ h
  have r2 := run_str (P := Tryz.prog) (dst := 9) Tryz.underlying22 Tryz.underlying5 (by kernel_rfl) _ _ _ _ _ h'
  have hq := strB_eqE xs ys
  clear h h'
  go_enter Tryz.func77, Tryz.ntmps77
  go_wp2_with fail
  go_ret
  exact ⟨rfl, rfl⟩
end Go.Proofs.YtljcogimeimknaaGreat
