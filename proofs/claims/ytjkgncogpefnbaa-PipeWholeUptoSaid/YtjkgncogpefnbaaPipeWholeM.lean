/- What Copy hands on of a source into a sink: plain law. Condition: fuel enough. -/
import Derived.Test.YtjkgncogpefnbaaPipeCopy
namespace Go.Proofs.Ytjkgncogpefnbaa
set_option linter.unusedVariables false

theorem snk_fit (t : Snk) (p : List UInt8) : ¬ (snkM.num t p < 0 ∨ (p.length : Int) < snkM.num t p) := by
  have := t.takes_le p.length
  show ¬ (((t.takes p.length : Nat) : Int) < 0 ∨ (p.length : Int) < ((t.takes p.length : Nat) : Int))
  omega
/-- handing on: a beginning of it is taken; all, where there is no error -/
theorem hnd_snk : ∀ (F : Nat) (t : Snk) (p : List UInt8) (wt tk : Nat), wt ≤ 15 → p.length * 17 + 16 - wt < F →
    ∃ m, (hnd snkM F t p wt tk).1 = tk + m ∧ m ≤ p.length ∧ (hnd snkM F t p wt tk).2.2.1.took = t.took ++ p.take m ∧ ((hnd snkM F t p wt tk).2.1 = 0 → m = p.length ∧ (hnd snkM F t p wt tk).2.2.2 ≤ 15)
  | 0, t, p, wt, tk, hw, hF => by omega
  | F + 1, t, p, wt, tk, hw, hF => by
    by_cases hp : p = []
    · subst hp
      rw [hnd_nil]
      exact ⟨0, rfl, Nat.zero_le _, by simp, fun _ => ⟨rfl, hw⟩⟩
    · have hf := snk_fit t p
      have hk : (snkM.num t p).toNat = t.takes p.length := Int.toNat_natCast _
      have hle := t.takes_le p.length
      have hnx : (snkM.nxt t p).took = t.took ++ p.take (t.takes p.length) := rfl
      by_cases he : snkM.er t p = 0
      · by_cases h16 : waitN wt (decide (0 < snkM.num t p)) = 16
        · rw [hnd_idle hp hf he h16, hk]
          exact ⟨t.takes p.length, rfl, hle, hnx, fun e => absurd (show (33 : Int) = 0 from e) (by decide)⟩
        · rw [hnd_go hp hf he h16, hk]
          have hpl : 0 < p.length := by cases p with | nil => exact absurd rfl hp | cons _ _ => simp
          obtain ⟨w2, hw2⟩ : ∃ w2, waitN wt (decide (0 < snkM.num t p)) = w2 := ⟨_, rfl⟩
          rw [hw2] at h16 ⊢
          have hw3 : w2 ≤ 15 ∧ (t.takes p.length = 0 → w2 = wt + 1) ∧ (0 < t.takes p.length → w2 = 0) := by
            rw [← hw2]
            have e : decide (0 < snkM.num t p) = decide (0 < t.takes p.length) := by
              rw [decide_eq_decide]; show (0 : Int) < ((t.takes p.length : Nat) : Int) ↔ _; omega
            rw [e] at hw2 ⊢
            refine ⟨?_, fun h => by rw [h]; rfl, fun h => by rw [decide_eq_true h]; rfl⟩
            rw [hw2]
            unfold waitN at hw2
            split at hw2 <;> omega
          obtain ⟨m, h1, h2, h3, h4⟩ := hnd_snk F (snkM.nxt t p) (p.drop (t.takes p.length)) w2 (tk + t.takes p.length) hw3.1 (by
            rw [List.length_drop]
            rcases Nat.eq_zero_or_pos (t.takes p.length) with h | h
            · have := hw3.2.1 h; omega
            · have := hw3.2.2 h; omega)
          rw [List.length_drop] at h2 h4
          refine ⟨t.takes p.length + m, by rw [h1]; omega, by omega, ?_, fun e => ⟨by have := (h4 e).1; omega, (h4 e).2⟩⟩
          rw [h3, hnx, List.append_assoc, List.take_add]
      · rw [hnd_err hp hf he, hk]
        exact ⟨t.takes p.length, rfl, hle, hnx, fun e => absurd e he⟩
theorem src_fit (s : Src) (size : Nat) : ¬ (srcM.num s size < 0 ∨ (size : Int) < srcM.num s size) := by
  have := s.gives_le size
  show ¬ (((s.gives size).length : Int) < 0 ∨ (size : Int) < ((s.gives size).length : Int))
  omega
theorem src_end {s : Src} {size : Nat} (h : s.err size = 31) : s.rest size = [] := by
  unfold Src.err at h
  unfold Src.rest
  split at h
  · cases h
  · rename_i hb
    rw [if_neg hb]
    split at h
    · rename_i hl; rw [hl, List.drop_nil]
    · split at h
      · rename_i he; exact he.2
      · cases h
/-- Copy: what is taken is a beginning of what is left; all, where there is no error -/
theorem cpy_src (size : Nat) : ∀ (F : Nat) (s : Src) (t : Snk) (gv wt tk : Nat), gv ≤ 15 → wt ≤ 15 → s.left.length * 17 + 16 - gv < F →
    ∃ m, (cpy srcM snkM size F s t gv wt tk).1 = tk + m ∧ m ≤ s.left.length ∧ (cpy srcM snkM size F s t gv wt tk).2.2.2.took = t.took ++ s.left.take m ∧
      ((cpy srcM snkM size F s t gv wt tk).2.1 = 0 → m = s.left.length ∧ (cpy srcM snkM size F s t gv wt tk).2.2.1.left = [])
  | 0, s, t, gv, wt, tk, hg, hw, hF => by omega
  | F + 1, s, t, gv, wt, tk, hg, hw, hF => by
    have hf := src_fit s size
    have hk : (srcM.num s size).toNat = (s.gives size).length := Int.toNat_natCast _
    have hparts := s.parts size
    have hlay : (srcM.lay s size).take (srcM.num s size).toNat = s.gives size := by rw [hk]; exact List.take_length
    have hpl := congrArg List.length hparts
    rw [List.length_append] at hpl
    by_cases hm : 0 < srcM.num s size ∨ srcM.er s size ≠ 0
    · obtain ⟨⟨tk', f, t', wt'⟩, hh⟩ : ∃ X, hndT snkM t ((srcM.lay s size).take (srcM.num s size).toNat) wt tk = X := ⟨_, rfl⟩
      obtain ⟨m, h1, h2, h3, h4⟩ := hnd_snk ((s.gives size).length * 17 + 17 - wt) t (s.gives size) wt tk hw (by omega)
      rw [show hnd snkM ((s.gives size).length * 17 + 17 - wt) t (s.gives size) wt tk = (tk', f, t', wt') by rw [← hh, hlay]; rfl] at h1 h3 h4
      dsimp only at h1 h3 h4
      rw [cpy_hand hf hm hh]
      have htk : s.left.take m = (s.gives size).take m := by
        rw [← hparts, List.take_append_of_le_length h2]
      by_cases hfz : f = 0
      · obtain ⟨h5, h6⟩ := h4 hfz
        rw [if_neg (by simpa using hfz)]
        have htk2 : s.left.take (s.gives size).length = s.gives size := by
          conv => lhs; rw [← hparts]
          rw [List.take_left]
        by_cases h31 : srcM.er s size = 31
        · rw [if_pos h31]
          have hr : s.rest size = [] := src_end (by have h : ((s.err size : Nat) : Int) = 31 := h31; omega)
          refine ⟨m, h1, by omega, by rw [htk]; exact h3, fun _ => ⟨?_, hr⟩⟩
          rw [hr] at hpl; simp at hpl; omega
        · rw [if_neg h31]
          by_cases he : srcM.er s size = 0
          · rw [if_neg (by simpa using he)]
            have h0 : 0 < (s.gives size).length := by
              rcases hm with h | h
              · have h : (0 : Int) < ((s.gives size).length : Nat) := h; omega
              · exact absurd he h
            obtain ⟨m2, k1, k2, k3, k4⟩ := cpy_src size F (srcM.nxt s size) t' 0 wt' tk' (by omega) h6 (by
              show (s.rest size).length * 17 + 16 - 0 < F
              omega)
            have hnl : (srcM.nxt s size).left = s.rest size := rfl
            rw [hnl] at k2 k3 k4
            refine ⟨m + m2, by rw [k1, h1]; omega, by omega, ?_, fun e => ⟨by have := (k4 e).1; omega, (k4 e).2⟩⟩
            rw [k3, h3, h5, List.take_length, List.append_assoc, List.take_add, htk2]
            congr 3
            conv => rhs; rw [← hparts]
            rw [List.drop_left]
          · rw [if_pos he]
            exact ⟨m, h1, by omega, by rw [htk]; exact h3, fun e => absurd e he⟩
      · rw [if_pos hfz]
        exact ⟨m, h1, by omega, by rw [htk]; exact h3, fun e => absurd e hfz⟩
    · have h0 : (s.gives size).length = 0 := by
        have : ¬ (0 < ((s.gives size).length : Int)) := fun e => hm (.inl e)
        omega
      have hnil : s.gives size = [] := List.eq_nil_of_length_eq_zero h0
      have hrest : s.rest size = s.left := by rw [← hparts, hnil, List.nil_append]
      by_cases hg16 : gv + 1 = 16
      · rw [cpy_idle hf hm hg16]
        exact ⟨0, rfl, Nat.zero_le _, by simp, fun e => absurd (show (33 : Int) = 0 from e) (by decide)⟩
      · rw [cpy_wait hf hm hg16]
        obtain ⟨m2, k1, k2, k3, k4⟩ := cpy_src size F (srcM.nxt s size) t (gv + 1) wt tk (by omega) hw (by
          show (s.rest size).length * 17 + 16 - (gv + 1) < F
          rw [hrest]; omega)
        have hnl : (srcM.nxt s size).left = s.left := hrest
        rw [hnl] at k2 k3 k4
        exact ⟨m2, k1, k2, k3, k4⟩
theorem cpyT_src (size : Nat) (s : Src) (t : Snk) : ∃ m, (cpyT srcM snkM size s t).1 = m ∧ m ≤ s.left.length ∧ (cpyT srcM snkM size s t).2.2.2.took = t.took ++ s.left.take m ∧
    ((cpyT srcM snkM size s t).2.1 = 0 → m = s.left.length ∧ (cpyT srcM snkM size s t).2.2.1.left = []) := by
  obtain ⟨m, h1, h2⟩ := cpy_src size (srcM.mu s * 17 + 17) s t 0 0 0 (by omega) (by omega) (by show s.left.length * 17 + 16 - 0 < s.left.length * 17 + 17; omega)
  exact ⟨m, by rw [Nat.zero_add] at h1; exact h1, h2⟩
end Go.Proofs.Ytjkgncogpefnbaa
