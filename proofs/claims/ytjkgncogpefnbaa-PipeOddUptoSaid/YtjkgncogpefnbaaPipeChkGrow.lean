/- What going through a source's chunks leaves behind; Chunks with a size that may not be. Conditions: numbers within reach. -/
import Derived.Test.YtjkgncogpefnbaaPipeChkM
import Derived.Test.YtjkgncogpefnbaaPipeGrowM
namespace Go.Proofs.Ytjkgncogpefnbaa
open Go.RowKit Go.Shelf
set_option linter.unusedVariables false
set_option linter.unusedSimpArgs false

theorem chk_grow (size : Nat) : ∀ (F : Nat) (s : Src) (gv lim : Nat), gv ≤ 15 → (chk srcM size F s gv lim).2.left.length ≤ s.left.length ∧ (chk srcM size F s gv lim).2.calls + (chk srcM size F s gv lim).2.left.length * 17 ≤ s.calls + s.left.length * 17 + (17 - gv)
  | 0, s, gv, lim, hg => ⟨Nat.le_refl _, Nat.le_add_right _ _⟩
  | F + 1, s, gv, lim, hg => by
    have hb := src_ok s size
    have hpl := congrArg List.length (s.parts size)
    rw [List.length_append] at hpl
    have hnl : (srcM.nxt s size).left.length = (s.rest size).length := rfl
    have hnc : (srcM.nxt s size).calls = s.calls + 1 := rfl
    by_cases hl : lim = 0
    · subst hl
      rw [chk_lim]
      exact ⟨Nat.le_refl _, Nat.le_add_right _ _⟩
    · by_cases he : srcM.er s size = 0
      · by_cases hn : 0 < srcM.num s size
        · rw [chk_go hl hb hn he]
          obtain ⟨h1, h2⟩ := chk_grow size F (srcM.nxt s size) 0 (lim - 1) (by omega)
          have hn2 : 0 < (s.gives size).length := by
            have : (0 : Int) < ((s.gives size).length : Nat) := hn
            omega
          exact ⟨by show (chk srcM size F (srcM.nxt s size) 0 (lim - 1)).2.left.length ≤ _; omega, by show (chk srcM size F (srcM.nxt s size) 0 (lim - 1)).2.calls + (chk srcM size F (srcM.nxt s size) 0 (lim - 1)).2.left.length * 17 ≤ _; omega⟩
        · have hm : ¬ (0 < srcM.num s size ∨ srcM.er s size ≠ 0) := fun h => by
            rcases h with h | h
            · exact hn h
            · exact h he
          by_cases h16 : gv + 1 = 16
          · rw [chk_idle hl hb hm h16]
            exact ⟨by show (srcM.nxt s size).left.length ≤ _; omega, by show (srcM.nxt s size).calls + (srcM.nxt s size).left.length * 17 ≤ _; omega⟩
          · rw [chk_wait hl hb hm h16]
            obtain ⟨h1, h2⟩ := chk_grow size F (srcM.nxt s size) (gv + 1) lim (by omega)
            exact ⟨by omega, by omega⟩
      · rw [chk_end hl hb he]
        exact ⟨by show (srcM.nxt s size).left.length ≤ _; omega, by show (srcM.nxt s size).calls + (srcM.nxt s size).left.length * 17 ≤ _; omega⟩
theorem chkI_grow (size : Int) (s : Src) (lim : Nat) : (chkI srcM size s lim).2.left.length ≤ s.left.length ∧ (chkI srcM size s lim).2.calls + (chkI srcM size s lim).2.left.length * 17 ≤ s.calls + s.left.length * 17 + 17 := by
  unfold chkI
  split
  · exact chk_grow size.toNat _ s 0 lim (by omega)
  · exact ⟨Nat.le_refl _, Nat.le_add_right _ _⟩
/-- not longer than asked for -/
theorem chk_len {σ : Type} {R : Rm σ} {size : Nat} : ∀ (F : Nat) (s : σ) (gv lim : Nat), (chk R size F s gv lim).1.length ≤ lim
  | 0, s, gv, lim => Nat.zero_le _
  | F + 1, s, gv, lim => by
    unfold chk
    split
    · exact Nat.zero_le _
    · split
      · show 1 ≤ _; omega
      · split
        · split
          · show 1 ≤ _; omega
          · have := chk_len (R := R) (size := size) F (R.nxt s size) 0 (lim - 1)
            show (chk R size F (R.nxt s size) 0 (lim - 1)).1.length + 1 ≤ _
            omega
        · split
          · show 1 ≤ _; omega
          · exact chk_len F _ _ _
set_option maxRecDepth 100000 in
/-- Chunks with a size that may not be: one chunk, that says so -/
theorem chunks1_wrong {T : TypeId} {v : Value} {size : Int} (l gr gs : Nat) (W0 : World) (hs : size < 1 ∨ 4096 < size) (hR : Boxed W0 gr 78 (.iface T v)) (hS : Boxed W0 gs 3 (.int .i64 size)) (Jend Jx : World → Prop)
    (hE : YieldAt Fence.wide 2 Try.prog l #[.slice none 0 0, .int .i64 1] W0 fun e W' => (e = .returned (.bool true) ∧ Jend W') ∨ (e = .returned (.bool false) ∧ Jx W')) :
    CallsIn Fence.wide 3 Try.prog 34 #[.func (.yield l) #[] #[], .pointer (some ⟨gr, 0, none⟩), .pointer (some ⟨gs, 0, none⟩)] W0 fun e W' => (∃ v, e = .returned v) ∧ (Jend W' ∨ Jx W') := by
  have cr := cell_of hR 0 rfl
  have cs := cell_of hS 0 rfl
  have WR := Lib.hid (wrong_any size W0)
  have t0 : decide (size < 1 ∨ 4096 < size) = true := decide_eq_true hs
  rw [t0] at WR
  obtain ⟨fn', tm, asg, bod, hy, hR2⟩ := hE
  have HR := Lib.hid hR2
  clear hR2 hR hS t0 hs
  refine callsIn_of_wp Try.func34 rfl trivial ?_ rfl
  simp only [Try.ntmps34, List.size_toArray, List.length_cons, List.length_nil, Nat.reduceAdd, Nat.reduceSub, Array.replicate_succ, Array.replicate_zero, List.push_toArray, List.append_toArray, List.nil_append, List.cons_append]
  gi_wp2
  refine ⟨trivial, ?_⟩
  refine (callsIn_wide.2 WR.out).mono ?_
  rintro e w' ⟨rfl, rfl⟩
  gi_wp2
  refine HR.out.mono ?_
  rintro e3 W3 (⟨rfl, hj⟩ | ⟨rfl, hj⟩)
  · gi_wp2
    refine bodyPost_ret (results_none rfl _ _ _) rfl ?_
    exact ⟨⟨_, rfl⟩, .inl hj⟩
  · gi_wp2
    refine bodyPost_ret (results_none rfl _ _ _) rfl ?_
    exact ⟨⟨_, rfl⟩, .inr hj⟩
end Go.Proofs.Ytjkgncogpefnbaa
