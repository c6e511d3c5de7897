/- An In over the program's source: no byte too many: plain laws. No condition. -/
import Derived.Test.YtpenbaafhbbmhaaCurLives
namespace Go.Proofs.Ytpenbaafhbbmhaa
set_option linter.unusedVariables false

theorem src_parts (s : Src) (m : Nat) : (srcM.num s m).toNat + (srcM.nxt s m).left.length = s.left.length := by
  have := congrArg List.length (s.parts m)
  rw [List.length_append] at this
  show (((s.gives m).length : Nat) : Int).toNat + (s.rest m).length = s.left.length
  rw [Int.toNat_natCast]
  exact this
theorem src_none {s : Src} {m : Nat} (h : ¬ 0 < srcM.num s m) : (srcM.nxt s m).left = s.left := by
  have hg : s.gives m = [] := by
    have h : ¬ (0 : Int) < ((s.gives m).length : Nat) := h
    exact List.length_eq_zero_iff.1 (by omega)
  have := s.parts m
  rw [hg] at this
  exact this
theorem src_last {s : Src} {m : Nat} (h : ¬ 0 < srcM.num s m) (he : srcM.er s m = 31) : s.left = [] := by
  have hg : s.gives m = [] := by
    have h : ¬ (0 : Int) < ((s.gives m).length : Nat) := h
    exact List.length_eq_zero_iff.1 (by omega)
  have he : ((s.err m : Nat) : Int) = 31 := he
  have he : s.err m = 31 := by omega
  unfold Src.err at he
  split at he
  · cases he
  · rename_i hb
    split at he
    · assumption
    · split at he
      · rename_i h2
        have hp := s.parts m
        rw [hg] at hp
        have hr : s.rest m = [] := by unfold Src.rest; rw [if_neg hb]; exact h2.2
        rw [hr] at hp
        exact hp.symm
      · cases he
theorem src_er (s : Src) (m : Nat) : srcM.er s m = 0 ∨ srcM.er s m = 31 ∨ srcM.er s m = 32 := by
  show ((s.err m : Nat) : Int) = 0 ∨ ((s.err m : Nat) : Int) = 31 ∨ ((s.err m : Nat) : Int) = 32
  have := s.err_of m
  omega
/-- no byte is lost -/
theorem tk_src : ∀ (F : Nat) (s : Src) (i : Nat) (b : List UInt8) (n : Nat), (tk srcM F s i b n).2.1 = 0 → (tk srcM F s i b n).1.length + (tk srcM F s i b n).2.2.1.left.length = b.length + s.left.length
  | 0, s, i, b, n, h => rfl
  | F + 1, s, i, b, n, h => by
    by_cases hn : n ≤ b.length
    · rw [tk_has hn]
    obtain ⟨m, hm⟩ : ∃ m, askN n b.length = m := ⟨_, rfl⟩
    have hp := src_parts s m
    by_cases hbad : srcM.num s m < 0 ∨ (m : Int) < srcM.num s m
    · rw [tk_bad hn hm hbad] at h
      exact absurd h (by show ¬ (34 : Int) = 0; decide)
    have hl := tkB_len (n := n) hm hbad
    by_cases hfull : (tkB srcM s b n).length = n
    · rw [tk_full hn hm hbad hfull]
      dsimp only
      omega
    by_cases h31 : srcM.er s m = 31
    · rw [tk_end hn hm hbad hfull h31] at h
      exact absurd h (by show ¬ (41 : Int) = 0; decide)
    by_cases h0 : srcM.er s m = 0
    · by_cases h16 : tkI srcM s i m = 16
      · rw [tk_idle hn hm hbad hfull h0 h16] at h
        exact absurd h (by show ¬ (33 : Int) = 0; decide)
      · rw [tk_go hn hm hbad hfull h0 h16] at h ⊢
        have := tk_src F _ _ _ _ h
        omega
    · rw [tk_err hn hm hbad hfull h31 h0] at h
      exact absurd h h0
/-- the end is told where nothing is left -/
theorem tk_src_end : ∀ (F : Nat) (s : Src) (i : Nat) (b : List UInt8) (n : Nat), n = b.length + 1 → (tk srcM F s i b n).2.1 = 41 → s.left = [] ∧ (tk srcM F s i b n).2.2.1.left = []
  | 0, s, i, b, n, _, h => absurd h (by show ¬ (0 : Int) = 41; decide)
  | F + 1, s, i, b, n, hnb, h => by
    have hn : ¬ n ≤ b.length := by omega
    obtain ⟨m, hm⟩ : ∃ m, askN n b.length = m := ⟨_, rfl⟩
    have hm1 : m = 1 := by rw [← hm]; unfold askN; omega
    by_cases hbad : srcM.num s m < 0 ∨ (m : Int) < srcM.num s m
    · rw [tk_bad hn hm hbad] at h
      exact absurd h (by show ¬ (34 : Int) = 41; decide)
    have hl := tkB_len (n := n) hm hbad
    by_cases hfull : (tkB srcM s b n).length = n
    · rw [tk_full hn hm hbad hfull] at h
      exact absurd h (by show ¬ (0 : Int) = 41; decide)
    have hk : ¬ 0 < srcM.num s m := by omega
    have hs := src_none hk
    by_cases h31 : srcM.er s m = 31
    · rw [tk_end hn hm hbad hfull h31]
      have h0 := src_last hk h31
      exact ⟨h0, hs.trans h0⟩
    by_cases h0 : srcM.er s m = 0
    · by_cases h16 : tkI srcM s i m = 16
      · rw [tk_idle hn hm hbad hfull h0 h16] at h
        exact absurd h (by show ¬ (33 : Int) = 41; decide)
      · rw [tk_go hn hm hbad hfull h0 h16] at h ⊢
        obtain ⟨q1, q2⟩ := tk_src_end F _ _ _ _ (by omega) h
        exact ⟨hs.symm.trans q1, q2⟩
    · rw [tk_err hn hm hbad hfull h31 h0] at h
      dsimp only at h
      have := src_er s m
      omega
/-- what stands while it is asked: L bytes there were, hv is held -/
def TSt (L : Nat) (c : CIn Src) (hv : Nat) : Prop := c.er = 0 → c.pl + c.held.length + c.s.left.length = L ∧ hv = c.held.length
section
variable {most n : Int} {c : CIn Src} {L hv Bd B : Nat}
theorem bytes_tight (hO : Okay srcM (SrcLe B) most Bd c) (h : TSt L c hv) : c.pl ≤ (bytesM srcM most n c).2.2.pl ∧ TSt L (bytesM srcM most n c).2.2 (if 0 < n then 0 else hv) ∧ ((bytesM srcM most n c).2.1 ≠ 0 → 0 ≤ n → (bytesM srcM most n c).2.2.er ≠ 0) ∧ ((bytesM srcM most n c).2.1 = 0 → (bytesM srcM most n c).2.2.er = 0 ∧ (0 < n → (bytesM srcM most n c).2.2.held = [])) := by
  by_cases he : c.er ≠ 0
  · rw [bytes_er he]; exact ⟨Nat.le_refl _, fun e => absurd e he, fun _ _ => he, fun e => absurd e he⟩
  have he : c.er = 0 := by simpa using he
  by_cases hn : n < 0
  · rw [bytes_neg he hn, if_neg (by omega)]
    exact ⟨Nat.le_refl _, h, fun _ h0 => by omega, fun (e : (1 : Int) = 0) => absurd e (by decide)⟩
  by_cases hm : most - c.pl < n
  · rw [bytes_most he hn hm]
    exact ⟨Nat.le_refl _, fun (e : (42 : Int) = 0) => absurd e (by decide), fun _ _ => by show ¬ (42 : Int) = 0; decide, fun (e : (42 : Int) = 0) => absurd e (by decide)⟩
  obtain ⟨⟨b, e, s', i', hd⟩, hX⟩ : ∃ X, tkH srcM c.s c.idle c.held n.toNat = X := ⟨_, rfl⟩
  rw [bytes_take he hn hm hX]
  have hl := hO.held
  obtain ⟨h1, h2⟩ := h he
  by_cases h0 : e = 0
  · rw [if_pos h0]
    dsimp only
    subst h0
    unfold tkH at hX
    by_cases hz : n = 0
    · subst hz
      rw [if_pos (by rfl)] at hX
      simp only [Prod.mk.injEq] at hX
      obtain ⟨rfl, -, rfl, rfl, rfl⟩ := hX
      exact ⟨by simp, fun _ => ⟨by simpa using h1, by rw [if_neg (by decide)]; exact h2⟩, fun h => absurd rfl h, fun _ => ⟨rfl, fun h => absurd h (by decide)⟩⟩
    · rw [if_neg (by omega)] at hX
      simp only [Prod.mk.injEq] at hX
      obtain ⟨hb, hz0, rfl, rfl, rfl⟩ := hX
      have hs := tk_src _ _ _ _ _ hz0
      have hq := ((tk_sum src_mu (srcM.mu c.s * 17 + 17) c.s c.idle c.held n.toNat (hO.idle he) (by omega) (.inr (by omega))).1 hz0).1
      rw [hq] at hs
      refine ⟨by omega, fun _ => ⟨?_, by rw [if_pos (by omega)]; rfl⟩, fun h => absurd rfl h, fun _ => ⟨rfl, fun _ => rfl⟩⟩
      show c.pl + n.toNat + 0 + (tk srcM (srcM.mu c.s * 17 + 17) c.s c.idle c.held n.toNat).2.2.1.left.length = L
      omega
  · rw [if_neg h0]
    exact ⟨Nat.le_refl _, fun x => absurd x h0, fun _ _ => h0, fun x => absurd x h0⟩
theorem byte_tight (hO : Okay srcM (SrcLe B) most Bd c) (h : TSt L c hv) : c.pl ≤ (byteM srcM most c).2.2.pl ∧ TSt L (byteM srcM most c).2.2 0 ∧ ((byteM srcM most c).2.1 ≠ 0 → (byteM srcM most c).2.2.er ≠ 0) ∧ ((byteM srcM most c).2.1 = 0 → (byteM srcM most c).2.2.er = 0) := by
  obtain ⟨h1, h2, h3, h4⟩ := bytes_tight (n := 1) hO h
  rw [if_pos (by decide)] at h2
  exact ⟨h1, h2, fun e => h3 e (by decide), fun e => (h4 e).1⟩
theorem numG_tight {at0 : Nat} : ∀ (F : Nat) (c : CIn Src) (Bd hv v s : Nat) (bs : List UInt8), Okay srcM (SrcLe B) most Bd c → TSt L c hv → at0 ≤ c.pl → at0 ≤ (numG srcM most at0 (F + 1) c v s bs).2.2.pl ∧ TSt L (numG srcM most at0 (F + 1) c v s bs).2.2 0 := by
  intro F
  induction F with
  | zero =>
    intro c Bd hv v s bs hO h ha
    obtain ⟨h1, h2, h3, h4⟩ := byte_tight hO h
    unfold numG
    split
    · rename_i he
      exact ⟨Nat.le_refl _, fun e => absurd e (h3 he)⟩
    split
    · rename_i he
      exact ⟨Nat.le_refl _, fun e => absurd e (by show ¬ ((_ : Nat) : Int) = 0; omega)⟩
    split
    · exact ⟨Nat.le_trans ha h1, h2⟩
    · exact ⟨Nat.le_trans ha h1, h2⟩
  | succ F ih =>
    intro c Bd hv v s bs hO h ha
    obtain ⟨h1, h2, h3, h4⟩ := byte_tight hO h
    have hb := hO.byte src_mu (src_le B)
    unfold numG
    split
    · rename_i he
      exact ⟨Nat.le_refl _, fun e => absurd e (h3 he)⟩
    split
    · rename_i he
      exact ⟨Nat.le_refl _, fun e => absurd e (by show ¬ ((_ : Nat) : Int) = 0; omega)⟩
    split
    · exact ⟨Nat.le_trans ha h1, h2⟩
    · exact ih _ _ _ _ _ _ hb h2 (Nat.le_trans ha h1)
theorem num_tight (hO : Okay srcM (SrcLe B) most Bd c) (h : TSt L c hv) : c.pl ≤ (numM srcM most c).2.2.pl ∧ TSt L (numM srcM most c).2.2 0 := numG_tight 10 c Bd hv 0 0 [] hO h (Nat.le_refl _)
theorem num_er (h : c.er ≠ 0) : numM srcM most c = (0, c.er, c) := by
  have hb : byteM srcM most c = (0, c.er, c) := by unfold byteM; rw [bytes_er h]; rfl
  obtain ⟨⟨d, er, n2, s2, b2⟩, hq⟩ : ∃ Y, tq 0 0 [] (0 : UInt8) = Y := ⟨_, rfl⟩
  have h2 := numG_step (at0 := c.pl) (F := 10) hb hq
  rw [if_pos h] at h2
  exact h2
theorem end_tight (hO : Okay srcM (SrcLe B) most Bd c) (h : TSt L c hv) : c.pl ≤ (endM srcM c).2.2.pl ∧ TSt L (endM srcM c).2.2 (if (endM srcM c).1 = false ∧ (endM srcM c).2.1 = 0 then 1 else hv) ∧ ((endM srcM c).1 = true → (endM srcM c).2.2.s.left = []) := by
  by_cases he : c.er ≠ 0
  · rw [end_er he]; exact ⟨Nat.le_refl _, fun e => absurd e he, fun (e : false = true) => by cases e⟩
  have he : c.er = 0 := by simpa using he
  obtain ⟨h1, h2⟩ := h he
  have hl := hO.held
  by_cases hh : c.held ≠ []
  · rw [end_held he hh]
    have h0 : c.held.length ≠ 0 := fun e => hh (List.length_eq_zero_iff.1 e)
    exact ⟨Nat.le_refl _, fun _ => ⟨h1, by rw [if_pos ⟨rfl, rfl⟩]; show 1 = c.held.length; omega⟩, fun (e : false = true) => by cases e⟩
  have hh : c.held = [] := by simpa using hh
  rw [hh] at h1 h2
  obtain ⟨⟨b, e, s', i'⟩, hX⟩ : ∃ X, tk srcM (srcM.mu c.s * 17 + 17) c.s c.idle [] 1 = X := ⟨_, rfl⟩
  have hs := tk_src (srcM.mu c.s * 17 + 17) c.s c.idle [] 1
  have hn := tk_src_end (srcM.mu c.s * 17 + 17) c.s c.idle [] 1 rfl
  have hq := (tk_sum src_mu (srcM.mu c.s * 17 + 17) c.s c.idle [] 1 (hO.idle he) (by simp) (.inr (by have := hO.idle he; omega))).1
  rw [hX] at hs hn hq
  dsimp only at hs hn hq
  rw [end_take he hh hX]
  by_cases h0 : e = 0
  · rw [if_pos h0]
    have h3 := hs h0
    have h4 := (hq h0).1
    refine ⟨Nat.le_refl _, fun _ => ⟨?_, by rw [if_pos ⟨rfl, rfl⟩]; exact h4.symm⟩, fun (e : false = true) => by cases e⟩
    show c.pl + b.length + s'.left.length = L
    simp at h1 h3
    omega
  · rw [if_neg h0]
    by_cases h41 : e = 41
    · rw [if_pos h41]
      obtain ⟨h5, h6⟩ := hn h41
      refine ⟨Nat.le_refl _, fun _ => ⟨?_, by rw [if_neg (fun e => by cases e.1)]; exact h2⟩, fun _ => h6⟩
      show c.pl + 0 + s'.left.length = L
      rw [h5] at h1
      rw [h6]
      exact h1
    · rw [if_neg h41]
      exact ⟨Nat.le_refl _, fun x => absurd x h0, fun (e : false = true) => by cases e⟩
end
end Go.Proofs.Ytpenbaafhbbmhaa
