/- The program's taker of numbers: what it answers, as one function of how it stands: contracts of Take and Number. Conditions as in the contracts of Take. -/
import Derived.Test.YtpenbaafhbbmhaaVintTake
namespace Go.Proofs.Ytpenbaafhbbmhaa
open Go.RowKit
set_option maxRecDepth 100000
set_option linter.unusedVariables false

theorem new_any (w : World) :
    Calls Try.prog 41 #[] w fun e w' => e = .returned (.pointer (some ⟨w.heap.size, 0, none⟩)) ∧ Tk w' w.heap.size 0 0 0 ∧ Below w.heap.size w w' := by
  go_enter Try.func41, Try.ntmps41
  go_wp2_with fail
  go_ret
  exact ⟨rfl, heap_new w _, (Below.refl _ _).alloc (Nat.le_refl _) _⟩
theorem number_no (g n t s : Nat) (w : World) (hs : s ≠ 1) (h : Tk w g n t s) :
    Calls Try.prog 43 #[.pointer (some ⟨g, 0, none⟩)] w fun e w' => e = .returned (.tuple #[.int .u64 0, .bool false]) ∧ w = w' := by
  have c2 := h.c2
  have f1 : ((s : Int) != 1) = true := by rw [bne_iff_ne]; omega
  have HH := Lib.hid h; clear h
  go_enter Try.func43, Try.ntmps43
  go_wp2_with fail
  go_ret2
  exact ⟨rfl, rfl⟩
theorem number_yes (g n t : Nat) (w : World) (h : Tk w g n t 1) :
    Calls Try.prog 43 #[.pointer (some ⟨g, 0, none⟩)] w fun e w' => e = .returned (.tuple #[.int .u64 n, .bool true]) ∧ w = w' := by
  have c2 : w.cell? ⟨g, 2, none⟩ = some (.int .i64 1) := h.c2
  have c0 := h.c0
  have HH := Lib.hid h; clear h
  go_enter Try.func43, Try.ntmps43
  go_wp2_with fail
  go_ret2
  exact ⟨rfl, rfl⟩
/-- how a taker stands that has taken bs: it goes on, holding n; it is whole and n is the number; it has refused -/
def Inv (bs : List UInt8) (n s : Nat) : Prop :=
  (s = 0 ∧ bs.length ≤ 9 ∧ n < 128 ^ bs.length ∧ ∀ r, rd (bs ++ r) 0 0 = rd r bs.length n) ∨ (s = 1 ∧ bs.length ≤ 10 ∧ rd bs 0 0 = (n, bs.length, 0)) ∨ (s = 2 ∧ bs.length ≤ 10)
/-- Take: whether the number is whole, the error; the number, the state, the bytes behind it -/
def tq (s n : Nat) (bs : List UInt8) (c : UInt8) : Bool × Nat × Nat × Nat × List UInt8 :=
  if s ≠ 0 then (false, 1, n, s, bs) else if bs.length = 9 ∧ 1 < c.toNat then (false, 12, n, 2, bs ++ [c]) else if 0 < bs.length ∧ c.toNat = 0 then (false, 13, n, 2, bs ++ [c])
  else (decide (c.toNat < 128), 0, n + c.toNat % 128 * 128 ^ bs.length, (if c.toNat < 128 then 1 else 0), bs ++ [c])
theorem Inv.start : Inv [] 0 0 := .inl ⟨rfl, by simp, by decide, fun r => rfl⟩
theorem Inv.len {bs : List UInt8} {n s : Nat} (h : Inv bs n s) : bs.length ≤ 10 := by rcases h with h | h | h <;> omega
theorem Inv.small {bs : List UInt8} {n s : Nat} (h : Inv bs n s) (hs : s = 1) : (rd bs 0 0).1 = n := by
  rcases h with h | h | h
  · omega
  · rw [h.2.2]
  · omega
theorem Inv.step {bs : List UInt8} {n s : Nat} (h : Inv bs n s) (c : UInt8) {d : Bool} {er n2 s2 : Nat} {b2 : List UInt8} (hq : tq s n bs c = (d, er, n2, s2, b2)) : Inv b2 n2 s2 := by
  unfold tq at hq
  by_cases hs : s ≠ 0
  · rw [if_pos hs] at hq; cases hq; exact h
  · rw [if_neg hs] at hq
    have hs : s = 0 := by omega
    obtain ⟨_, h9, hn, hr⟩ : s = 0 ∧ bs.length ≤ 9 ∧ n < 128 ^ bs.length ∧ ∀ r, rd (bs ++ r) 0 0 = rd r bs.length n := by
      rcases h with h | h | h
      · exact h
      · omega
      · omega
    have hl : (bs ++ [c]).length = bs.length + 1 := by simp
    by_cases c1 : bs.length = 9 ∧ 1 < c.toNat
    · rw [if_pos c1] at hq; cases hq; exact .inr (.inr ⟨rfl, by omega⟩)
    · rw [if_neg c1] at hq
      by_cases c2 : 0 < bs.length ∧ c.toNat = 0
      · rw [if_pos c2] at hq; cases hq; exact .inr (.inr ⟨rfl, by omega⟩)
      · rw [if_neg c2] at hq
        by_cases c3 : c.toNat < 128
        · rw [if_pos c3] at hq; cases hq
          refine .inr (.inl ⟨rfl, by omega, ?_⟩)
          rw [hr, rd_last c1 c2 c3, hl]
        · rw [if_neg c3] at hq; cases hq
          refine .inl ⟨rfl, ?_, ?_, fun r => ?_⟩
          · rw [hl]; have : bs.length ≠ 9 := fun e => c1 ⟨e, by omega⟩; omega
          · rw [hl]; exact go_small hn
          · rw [List.append_assoc, hr]
            show rd (c :: r) _ _ = _
            rw [rd_go c1 c2 c3, hl]
theorem ptake_any (g n s : Nat) (bs : List UInt8) (c : UInt8) (w : World) (d : Bool) (er n2 s2 : Nat) (b2 : List UInt8) (hq : tq s n bs c = (d, er, n2, s2, b2)) (hi : Inv bs n s) (h : Tk w g n bs.length s) :
    Calls Try.prog 42 #[.pointer (some ⟨g, 0, none⟩), .int .u8 (B c)] w fun e w' => e = .returned (.tuple #[.bool d, .int .i64 er]) ∧ Tk w' g n2 b2.length s2 ∧ w.grownBy w' (some g) := by
  unfold tq at hq
  by_cases hs : s ≠ 0
  · rw [if_pos hs] at hq; cases hq
    refine (take_no g _ _ _ c w hs h).mono ?_
    rintro e w' ⟨rfl, rfl⟩
    exact ⟨rfl, h, World.grownBy.refl _ _⟩
  · rw [if_neg hs] at hq
    obtain rfl : s = 0 := by omega
    obtain ⟨_, h9, hn, hr⟩ : 0 = 0 ∧ bs.length ≤ 9 ∧ n < 128 ^ bs.length ∧ ∀ r, rd (bs ++ r) 0 0 = rd r bs.length n := by
      rcases hi with h | h | h
      · exact h
      · omega
      · omega
    have hl : (bs ++ [c]).length = bs.length + 1 := by simp
    by_cases c1 : bs.length = 9 ∧ 1 < c.toNat
    · rw [if_pos c1] at hq; cases hq
      rw [hl]; rw [c1.1] at h ⊢
      refine (take_long g _ c w c1.2 h).mono ?_
      rintro e w' ⟨rfl, h2, h3⟩
      exact ⟨rfl, h2, h3⟩
    · rw [if_neg c1] at hq
      by_cases c2 : 0 < bs.length ∧ c.toNat = 0
      · rw [if_pos c2] at hq; cases hq
        rw [hl]
        refine (take_form g _ _ c w c2.1 h9 c2.2 h).mono ?_
        rintro e w' ⟨rfl, h2, h3⟩
        exact ⟨rfl, h2, h3⟩
      · rw [if_neg c2] at hq; cases hq
        rw [hl]
        refine (take_go g _ _ c w h9 c1 c2 hn h).mono ?_
        rintro e w' ⟨rfl, h2, h3⟩
        exact ⟨rfl, h2, h3⟩
/-- Number: what it says -/
def nv (s n : Nat) : Nat := if s = 1 then n else 0
theorem pnumber_any (g n t s : Nat) (w : World) (h : Tk w g n t s) :
    Calls Try.prog 43 #[.pointer (some ⟨g, 0, none⟩)] w fun e w' => e = .returned (.tuple #[.int .u64 (nv s n : Nat), .bool (decide (s = 1))]) ∧ w = w' := by
  unfold nv
  by_cases hs : s = 1
  · subst hs; exact number_yes g n t w h
  · rw [if_neg hs, decide_eq_false hs]; exact number_no g n t s w hs h
end Go.Proofs.Ytpenbaafhbbmhaa
