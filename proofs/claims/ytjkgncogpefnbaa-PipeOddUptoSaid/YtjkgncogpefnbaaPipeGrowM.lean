/- What Copy of a source into a sink leaves behind: not more bytes together than before, the calls within bounds. Plain. No condition. -/
import Derived.Test.YtjkgncogpefnbaaPipeCopy
namespace Go.Proofs.Ytjkgncogpefnbaa
set_option linter.unusedVariables false
set_option linter.unusedSimpArgs false

theorem snk_ok (t : Snk) (p : List UInt8) : ¬ (snkM.num t p < 0 ∨ (p.length : Int) < snkM.num t p) := by
  show ¬ (((t.takes p.length : Nat) : Int) < 0 ∨ (p.length : Int) < ((t.takes p.length : Nat) : Int))
  have := t.takes_le p.length; omega
theorem snk_num (t : Snk) (p : List UInt8) : (snkM.num t p).toNat = t.takes p.length := Int.toNat_natCast _
theorem snk_len (t : Snk) (p : List UInt8) : (snkM.nxt t p).took.length = t.took.length + t.takes p.length := by
  show (t.took ++ p.take (t.takes p.length)).length = _
  have := t.takes_le p.length
  rw [List.length_append, List.length_take]; omega
theorem hnd_grow : ∀ (F : Nat) (t : Snk) (p : List UInt8) (wt tk : Nat), ∃ d, (hnd snkM F t p wt tk).1 = tk + d ∧ d ≤ p.length ∧ (hnd snkM F t p wt tk).2.2.1.took.length = t.took.length + d ∧ (hnd snkM F t p wt tk).2.2.1.calls ≤ t.calls + F
  | 0, t, p, wt, tk => ⟨0, rfl, Nat.zero_le _, rfl, Nat.le_refl _⟩
  | F + 1, t, p, wt, tk => by
    by_cases hp : p = []
    · subst hp
      rw [hnd_nil]
      exact ⟨0, rfl, Nat.zero_le _, rfl, Nat.le_add_right _ _⟩
    · have hb := snk_ok t p
      have htl := t.takes_le p.length
      by_cases he : snkM.er t p = 0
      · by_cases hw : waitN wt (decide (0 < snkM.num t p)) = 16
        · rw [hnd_idle hp hb he hw]
          exact ⟨t.takes p.length, by rw [snk_num], htl, snk_len t p, by show t.calls + 1 ≤ _; omega⟩
        · rw [hnd_go hp hb he hw]
          obtain ⟨d, h1, h2, h3, h4⟩ := hnd_grow F (snkM.nxt t p) (p.drop (snkM.num t p).toNat) (waitN wt (decide (0 < snkM.num t p))) (tk + (snkM.num t p).toNat)
          rw [snk_num] at h1 h2 h3 h4 ⊢
          rw [List.length_drop] at h2
          rw [snk_len] at h3
          have hcc : (snkM.nxt t p).calls = t.calls + 1 := rfl
          rw [hcc] at h4
          exact ⟨t.takes p.length + d, by rw [h1]; omega, by omega, by rw [h3]; omega, by omega⟩
      · rw [hnd_err hp hb he]
        exact ⟨t.takes p.length, by rw [snk_num], htl, snk_len t p, by show t.calls + 1 ≤ _; omega⟩
theorem src_ok (s : Src) (n : Nat) : ¬ (srcM.num s n < 0 ∨ (n : Int) < srcM.num s n) := by
  show ¬ ((((s.gives n).length : Nat) : Int) < 0 ∨ (n : Int) < (((s.gives n).length : Nat) : Int))
  have := s.gives_le n; omega
theorem cpy_grow (size : Nat) : ∀ (F : Nat) (s : Src) (t : Snk) (gv wt tk : Nat) (X : Nat × Int × Src × Snk), cpy srcM snkM size F s t gv wt tk = X →
    X.2.2.1.left.length + X.2.2.2.took.length ≤ s.left.length + t.took.length ∧ X.2.2.1.calls ≤ s.calls + F ∧ X.2.2.2.calls + X.2.2.1.left.length * 17 ≤ t.calls + s.left.length * 17 + F * 17
  | 0, s, t, gv, wt, tk, X, h => by subst h; exact ⟨Nat.le_refl _, Nat.le_refl _, Nat.le_refl _⟩
  | F + 1, s, t, gv, wt, tk, X, h => by
    have hb := src_ok s size
    have hpl := congrArg List.length (s.parts size)
    rw [List.length_append] at hpl
    have hnl : (srcM.nxt s size).left.length = (s.rest size).length := rfl
    have hnc : (srcM.nxt s size).calls = s.calls + 1 := rfl
    by_cases hm : 0 < srcM.num s size ∨ srcM.er s size ≠ 0
    · obtain ⟨⟨tk', f, t', wt'⟩, hh⟩ : ∃ Y, hndT snkM t ((srcM.lay s size).take (srcM.num s size).toNat) wt tk = Y := ⟨_, rfl⟩
      have hlen : ((srcM.lay s size).take (srcM.num s size).toNat).length = (s.gives size).length := by
        show ((s.gives size).take (((s.gives size).length : Nat) : Int).toNat).length = _
        rw [Int.toNat_natCast, List.take_length]
      obtain ⟨d, g1, g2, g3, g4⟩ := hnd_grow (((srcM.lay s size).take (srcM.num s size).toNat).length * 17 + 17 - wt) t ((srcM.lay s size).take (srcM.num s size).toNat) wt tk
      have hh2 : hnd snkM (((srcM.lay s size).take (srcM.num s size).toNat).length * 17 + 17 - wt) t ((srcM.lay s size).take (srcM.num s size).toNat) wt tk = (tk', f, t', wt') := hh
      rw [hh2] at g3 g4
      have g3 : t'.took.length = t.took.length + d := g3
      have g4 : t'.calls ≤ _ := g4
      rw [hlen] at g2 g4
      rw [cpy_hand hb hm hh] at h
      split at h
      · subst h
        refine ⟨?_, ?_, ?_⟩
        · show (srcM.nxt s size).left.length + t'.took.length ≤ _; omega
        · show (srcM.nxt s size).calls ≤ _; omega
        · show t'.calls + (srcM.nxt s size).left.length * 17 ≤ _; omega
      · split at h
        · subst h
          refine ⟨?_, ?_, ?_⟩
          · show (srcM.nxt s size).left.length + t'.took.length ≤ _; omega
          · show (srcM.nxt s size).calls ≤ _; omega
          · show t'.calls + (srcM.nxt s size).left.length * 17 ≤ _; omega
        · split at h
          · subst h
            refine ⟨?_, ?_, ?_⟩
            · show (srcM.nxt s size).left.length + t'.took.length ≤ _; omega
            · show (srcM.nxt s size).calls ≤ _; omega
            · show t'.calls + (srcM.nxt s size).left.length * 17 ≤ _; omega
          · obtain ⟨k1, k2, k3⟩ := cpy_grow size F _ _ _ _ _ X h
            exact ⟨by omega, by omega, by omega⟩
    · by_cases hg : gv + 1 = 16
      · rw [cpy_idle hb hm hg] at h
        subst h
        refine ⟨?_, ?_, ?_⟩
        · show (srcM.nxt s size).left.length + t.took.length ≤ _; omega
        · show (srcM.nxt s size).calls ≤ _; omega
        · show t.calls + (srcM.nxt s size).left.length * 17 ≤ _; omega
      · rw [cpy_wait hb hm hg] at h
        obtain ⟨k1, k2, k3⟩ := cpy_grow size F _ _ _ _ _ X h
        exact ⟨by omega, by omega, by omega⟩
theorem cpyT_grow (size : Nat) (s : Src) (t : Snk) : (cpyT srcM snkM size s t).2.2.1.left.length + (cpyT srcM snkM size s t).2.2.2.took.length ≤ s.left.length + t.took.length ∧ (cpyT srcM snkM size s t).2.2.1.calls ≤ s.calls + (s.left.length * 17 + 17) ∧ (cpyT srcM snkM size s t).2.2.2.calls ≤ t.calls + s.left.length * 17 + (s.left.length * 17 + 17) * 17 := by
  obtain ⟨h1, h2, h3⟩ := cpy_grow size (s.left.length * 17 + 17) s t 0 0 0 _ rfl
  exact ⟨h1, h2, Nat.le_trans (Nat.le_add_right _ _) h3⟩
end Go.Proofs.Ytjkgncogpefnbaa
