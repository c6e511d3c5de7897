/- An In over a reader of any make: what its answers leave: plain laws. No condition. -/
import Derived.Test.YtpenbaafhbbmhaaCurM
namespace Go.Proofs.Ytpenbaafhbbmhaa
set_option linter.unusedVariables false

section
variable {σ : Type} {R : Rm σ}
theorem tkI_er {s : σ} {i m : Nat} (h : R.er s m ≠ 0) : tkI R s i m = 0 := by unfold tkI; simp [h, waitN]
theorem tkI_mv {s : σ} {i m : Nat} (h : 0 < R.num s m) : tkI R s i m = 0 := by unfold tkI; simp [h, waitN]
theorem tkI_no {s : σ} {i m : Nat} (h : ¬ 0 < R.num s m) (he : R.er s m = 0) : tkI R s i m = i + 1 := by unfold tkI; simp [h, he, waitN]
/-- what taking leaves -/
theorem tk_sum (hmu : ∀ s n, R.mu (R.nxt s n) ≤ R.mu s) : ∀ (F : Nat) (s : σ) (i : Nat) (b : List UInt8) (n : Nat), i ≤ 15 → b.length ≤ n → (n ≤ b.length ∨ R.mu s * 17 + 16 - i < F) →
    ((tk R F s i b n).2.1 = 0 → (tk R F s i b n).1.length = n ∧ (tk R F s i b n).2.2.2 ≤ 15) ∧ ((tk R F s i b n).2.1 ≠ 0 → (tk R F s i b n).1 = []) ∧ ((tk R F s i b n).2.1 = 41 → (tk R F s i b n).2.2.2 ≤ 15) ∧
      R.cnt (tk R F s i b n).2.2.1 + R.mu (tk R F s i b n).2.2.1 * 17 + i ≤ R.cnt s + R.mu s * 17 + (tk R F s i b n).2.2.2 + 16 ∧ (tk R F s i b n).2.2.2 ≤ 16
  | 0, s, i, b, n, hi, hb, hf => by
    have hn : n ≤ b.length := by omega
    rw [tk_has hn]
    dsimp only
    exact ⟨fun _ => ⟨by show b.length = n; omega, hi⟩, fun h => absurd rfl h, fun h => absurd h (by decide), by show _ ≤ R.cnt s + R.mu s * 17 + i + 16; omega, by show i ≤ 16; omega⟩
  | F + 1, s, i, b, n, hi, hb, hf => by
    by_cases hn : n ≤ b.length
    · rw [tk_has hn]
      dsimp only
      exact ⟨fun _ => ⟨by show b.length = n; omega, hi⟩, fun h => absurd rfl h, fun h => absurd h (by decide), by show _ ≤ R.cnt s + R.mu s * 17 + i + 16; omega, by show i ≤ 16; omega⟩
    obtain ⟨m, hm⟩ : ∃ m, askN n b.length = m := ⟨_, rfl⟩
    have hmu' := hmu s m
    have hc := R.cntS s m
    by_cases hbad : R.num s m < 0 ∨ (m : Int) < R.num s m
    · rw [tk_bad hn hm hbad]
      dsimp only
      exact ⟨fun h => absurd h (by decide), fun _ => rfl, fun h => absurd h (by decide), by show R.cnt (R.nxt s m) + R.mu (R.nxt s m) * 17 + i ≤ R.cnt s + R.mu s * 17 + i + 16; omega, by show i ≤ 16; omega⟩
    have hl := tkB_len (n := n) hm hbad
    have hmn : m ≤ n - b.length := by rw [← hm]; unfold askN; omega
    by_cases hfull : (tkB R s b n).length = n
    · have hk : 0 < R.num s m := by omega
      rw [tk_full hn hm hbad hfull, tkI_mv hk]
      dsimp only
      exact ⟨fun _ => ⟨hfull, Nat.zero_le _⟩, fun h => absurd rfl h, fun h => absurd h (by decide), by show R.cnt (R.nxt s m) + R.mu (R.nxt s m) * 17 + i ≤ R.cnt s + R.mu s * 17 + 0 + 16; omega, Nat.zero_le _⟩
    by_cases h31 : R.er s m = 31
    · have h0 : R.er s m ≠ 0 := by omega
      rw [tk_end hn hm hbad hfull h31, tkI_er h0]
      dsimp only
      exact ⟨fun h => absurd h (by decide), fun _ => rfl, fun _ => Nat.zero_le _, by show R.cnt (R.nxt s m) + R.mu (R.nxt s m) * 17 + i ≤ R.cnt s + R.mu s * 17 + 0 + 16; omega, Nat.zero_le _⟩
    by_cases h0 : R.er s m = 0
    · by_cases h16 : tkI R s i m = 16
      · rw [tk_idle hn hm hbad hfull h0 h16]
        dsimp only
        exact ⟨fun h => absurd h (by decide), fun _ => rfl, fun h => absurd h (by decide), by show R.cnt (R.nxt s m) + R.mu (R.nxt s m) * 17 + i ≤ R.cnt s + R.mu s * 17 + 16 + 16; omega, Nat.le_refl _⟩
      · rw [tk_go hn hm hbad hfull h0 h16]
        have hle := tkI_le (R := R) (s := s) (m := m) hi
        by_cases hk : 0 < R.num s m
        · have hs := R.muL s m h0 hk (by omega)
          have hz := tkI_mv (i := i) hk
          obtain ⟨q1, q2, q3, q4, q5⟩ := tk_sum hmu F (R.nxt s m) (tkI R s i m) (tkB R s b n) n (by omega) (by omega) (.inr (by omega))
          exact ⟨q1, q2, q3, by omega, q5⟩
        · have hs := R.muE s m h0
          have hz := tkI_no (i := i) hk h0
          obtain ⟨q1, q2, q3, q4, q5⟩ := tk_sum hmu F (R.nxt s m) (tkI R s i m) (tkB R s b n) n (by omega) (by omega) (.inr (by omega))
          exact ⟨q1, q2, q3, by omega, q5⟩
    · rw [tk_err hn hm hbad hfull h31 h0, tkI_er h0]
      dsimp only
      exact ⟨fun h => absurd h h0, fun _ => rfl, fun _ => Nat.zero_le _, by show R.cnt (R.nxt s m) + R.mu (R.nxt s m) * 17 + i ≤ R.cnt s + R.mu s * 17 + 0 + 16; omega, Nat.zero_le _⟩
/-- what a reader's calls keep, taking keeps -/
theorem tk_inv {P : σ → Prop} (hP : ∀ s n, P s → P (R.nxt s n)) : ∀ (F : Nat) (s : σ) (i : Nat) (b : List UInt8) (n : Nat), P s → P (tk R F s i b n).2.2.1
  | 0, s, i, b, n, h => h
  | F + 1, s, i, b, n, h => by
    unfold tk
    split
    · exact h
    split
    · exact hP _ _ h
    split
    · exact hP _ _ h
    split
    · exact hP _ _ h
    split
    · exact hP _ _ h
    split
    · exact hP _ _ h
    · exact tk_inv hP F _ _ _ _ (hP _ _ h)
/-- an In that stands rightly: its budget of calls is Bd -/
structure Okay (R : Rm σ) (P : σ → Prop) (most : Int) (Bd : Nat) (c : CIn σ) : Prop where
  idle : c.er = 0 → c.idle ≤ 15
  id2 : c.idle ≤ 16
  pl : (c.pl : Int) ≤ most
  held : c.held.length ≤ 1
  p : P c.s
  bud : R.cnt c.s + R.mu c.s * 17 ≤ Bd
theorem Okay.mono {P : σ → Prop} {most : Int} {Bd Bd' : Nat} {c : CIn σ} (h : Okay R P most Bd c) (hb : Bd ≤ Bd') : Okay R P most Bd' c := { h with bud := Nat.le_trans h.bud hb }
/-- taking, a byte held or none -/
def tkH (R : Rm σ) (s : σ) (i : Nat) (held : List UInt8) (n : Nat) : List UInt8 × Int × σ × Nat × List UInt8 :=
  if n = 0 then ([], 0, s, i, held)
  else ((tk R (R.mu s * 17 + 17) s i held n).1, (tk R (R.mu s * 17 + 17) s i held n).2.1, (tk R (R.mu s * 17 + 17) s i held n).2.2.1, (tk R (R.mu s * 17 + 17) s i held n).2.2.2, [])
theorem tkH_sum (hmu : ∀ s n, R.mu (R.nxt s n) ≤ R.mu s) {P : σ → Prop} (hP : ∀ s n, P s → P (R.nxt s n)) {s : σ} {i : Nat} {held : List UInt8} {n : Nat} (hi : i ≤ 15) (hh : held.length ≤ 1) (hp : P s) {b : List UInt8} {e : Int} {s' : σ} {i' : Nat} {hd : List UInt8} (hX : tkH R s i held n = (b, e, s', i', hd)) :
    (e = 0 → b.length = n ∧ i' ≤ 15) ∧ (e ≠ 0 → b = []) ∧ (e = 41 → i' ≤ 15) ∧ R.cnt s' + R.mu s' * 17 ≤ R.cnt s + R.mu s * 17 + 32 ∧ i' ≤ 16 ∧ hd.length ≤ 1 ∧ P s' := by
  unfold tkH at hX
  by_cases hn : n = 0
  · subst hn
    rw [if_pos rfl] at hX
    simp only [Prod.mk.injEq] at hX
    obtain ⟨rfl, rfl, rfl, rfl, rfl⟩ := hX
    exact ⟨fun _ => ⟨rfl, hi⟩, fun h => absurd rfl h, fun _ => hi, by omega, by omega, hh, hp⟩
  · rw [if_neg hn] at hX
    simp only [Prod.mk.injEq] at hX
    obtain ⟨rfl, rfl, rfl, rfl, rfl⟩ := hX
    obtain ⟨q1, q2, q3, q4, q5⟩ := tk_sum hmu (R.mu s * 17 + 17) s i held n hi (by omega) (.inr (by omega))
    exact ⟨q1, q2, q3, by omega, q5, Nat.zero_le _, tk_inv hP _ _ _ _ _ hp⟩
section
variable {most n : Int} {c : CIn σ}
theorem bytes_er (h : c.er ≠ 0) : bytesM R most n c = ([], c.er, c) := by unfold bytesM; rw [if_pos h]
theorem bytes_neg (h : c.er = 0) (hn : n < 0) : bytesM R most n c = ([], 1, c) := by unfold bytesM; rw [if_neg (by simpa using h), if_pos hn]
theorem bytes_most (h : c.er = 0) (hn : ¬ n < 0) (hm : most - c.pl < n) : bytesM R most n c = ([], 42, { c with er := 42 }) := by unfold bytesM; rw [if_neg (by simpa using h), if_neg hn, if_pos hm]
theorem bytes_take (h : c.er = 0) (hn : ¬ n < 0) (hm : ¬ most - c.pl < n) {b : List UInt8} {e : Int} {s' : σ} {i' : Nat} {hd : List UInt8} (hX : tkH R c.s c.idle c.held n.toNat = (b, e, s', i', hd)) :
    bytesM R most n c = if e = 0 then (b, 0, ⟨s', c.pl + n.toNat, 0, i', hd⟩) else ([], e, ⟨s', c.pl, e, i', hd⟩) := by
  unfold bytesM
  rw [if_neg (by simpa using h), if_neg hn, if_neg hm]
  unfold tkH at hX
  by_cases h0 : n = 0
  · subst h0
    rw [if_pos (by rfl)] at hX
    simp only [Prod.mk.injEq] at hX
    obtain ⟨rfl, rfl, rfl, rfl, rfl⟩ := hX
    rw [if_pos rfl, if_pos rfl]
    obtain ⟨s, pl, er, idle, held⟩ := c
    simp only at h
    subst h
    rfl
  · rw [if_neg (by omega)] at hX
    simp only [Prod.mk.injEq] at hX
    obtain ⟨rfl, rfl, rfl, rfl, rfl⟩ := hX
    rw [if_neg h0]
variable {P : σ → Prop} {Bd : Nat}
theorem Okay.bytes (hmu : ∀ s n, R.mu (R.nxt s n) ≤ R.mu s) (hP : ∀ s n, P s → P (R.nxt s n)) (h : Okay R P most Bd c) : Okay R P most (Bd + 32) (bytesM R most n c).2.2 ∧ ((bytesM R most n c).2.1 = 0 → 0 ≤ n ∧ (bytesM R most n c).1.length = n.toNat) ∧ ((bytesM R most n c).2.1 ≠ 0 → (bytesM R most n c).1 = []) := by
  by_cases he : c.er ≠ 0
  · rw [bytes_er he]; exact ⟨h.mono (by omega), fun e => absurd e he, fun _ => rfl⟩
  have he : c.er = 0 := by simpa using he
  by_cases hn : n < 0
  · rw [bytes_neg he hn]; dsimp only; exact ⟨h.mono (by omega), fun e => absurd e (by decide), fun _ => rfl⟩
  by_cases hm : most - c.pl < n
  · rw [bytes_most he hn hm]
    dsimp only
    exact ⟨{ idle := fun (e : (42 : Int) = 0) => absurd e (by decide), id2 := h.id2, pl := h.pl, held := h.held, p := h.p, bud := by have := h.bud; show R.cnt c.s + R.mu c.s * 17 ≤ _; omega }, fun e => absurd e (by decide), fun _ => rfl⟩
  obtain ⟨⟨b, e, s', i', hd⟩, hX⟩ : ∃ X, tkH R c.s c.idle c.held n.toNat = X := ⟨_, rfl⟩
  obtain ⟨q1, q2, q3, q4, q5, q6, q7⟩ := tkH_sum hmu hP (h.idle he) h.held h.p hX
  rw [bytes_take he hn hm hX]
  have hb := h.bud
  have hpl := h.pl
  by_cases h0 : e = 0
  · rw [if_pos h0]
    exact ⟨{ idle := fun _ => (q1 h0).2, id2 := q5, pl := by show ((c.pl + n.toNat : Nat) : Int) ≤ most; omega, held := q6, p := q7, bud := by show R.cnt s' + R.mu s' * 17 ≤ _; omega }, fun _ => ⟨by omega, (q1 h0).1⟩, fun e => absurd rfl e⟩
  · rw [if_neg h0]
    exact ⟨{ idle := fun x => absurd x h0, id2 := q5, pl := h.pl, held := q6, p := q7, bud := by show R.cnt s' + R.mu s' * 17 ≤ _; omega }, fun x => absurd x h0, fun _ => rfl⟩
theorem Okay.byte (hmu : ∀ s n, R.mu (R.nxt s n) ≤ R.mu s) (hP : ∀ s n, P s → P (R.nxt s n)) (h : Okay R P most Bd c) : Okay R P most (Bd + 32) (byteM R most c).2.2 := (h.bytes (n := 1) hmu hP).1
theorem bytes_pl (h : (bytesM R most n c).2.1 ≠ 0) : (bytesM R most n c).2.2.pl = c.pl := by
  unfold bytesM at h ⊢
  split
  · rfl
  split
  · rfl
  split
  · rfl
  split
  · rename_i h1 h2 h3 h4; rw [if_neg h1, if_neg h2, if_neg h3, if_pos h4] at h
  split
  · rename_i h1 h2 h3 h4 h5; rw [if_neg h1, if_neg h2, if_neg h3, if_neg h4, if_pos h5] at h; exact absurd rfl h
  · rfl
theorem Okay.numG (hmu : ∀ s n, R.mu (R.nxt s n) ≤ R.mu s) (hP : ∀ s n, P s → P (R.nxt s n)) {at0 : Nat} (ha : (at0 : Int) ≤ most) : ∀ (F : Nat) (Bd : Nat) (c : CIn σ) (v s : Nat) (bs : List UInt8), Okay R P most Bd c → Okay R P most (Bd + 32 * F) (numG R most at0 F c v s bs).2.2
  | 0, Bd, c, v, s, bs, h => h.mono (by omega)
  | F + 1, Bd, c, v, s, bs, h => by
    have hb := h.byte hmu hP
    unfold Go.Proofs.Ytpenbaafhbbmhaa.numG
    split
    · exact { idle := hb.idle, id2 := hb.id2, pl := ha, held := hb.held, p := hb.p, bud := by have := hb.bud; show R.cnt (byteM R most c).2.2.s + R.mu (byteM R most c).2.2.s * 17 ≤ _; omega }
    split
    · rename_i h2
      exact { idle := fun e => absurd e (by simpa using h2), id2 := hb.id2, pl := ha, held := hb.held, p := hb.p, bud := by have := hb.bud; show R.cnt (byteM R most c).2.2.s + R.mu (byteM R most c).2.2.s * 17 ≤ _; omega }
    split
    · exact hb.mono (by omega)
    · exact (Okay.numG hmu hP ha F (Bd + 32) _ _ _ _ hb).mono (by omega)
theorem Okay.num (hmu : ∀ s n, R.mu (R.nxt s n) ≤ R.mu s) (hP : ∀ s n, P s → P (R.nxt s n)) (h : Okay R P most Bd c) : Okay R P most (Bd + 352) (numM R most c).2.2 := Okay.numG hmu hP h.pl 11 Bd c 0 0 [] h
theorem end_er (h : c.er ≠ 0) : endM R c = (false, c.er, c) := by unfold endM; rw [if_pos h]
theorem end_held (h : c.er = 0) (hh : c.held ≠ []) : endM R c = (false, 0, c) := by unfold endM; rw [if_neg (by simpa using h), if_pos hh]
theorem end_take (h : c.er = 0) (hh : c.held = []) {b : List UInt8} {e : Int} {s' : σ} {i' : Nat} (hX : tk R (R.mu c.s * 17 + 17) c.s c.idle [] 1 = (b, e, s', i')) :
    endM R c = if e = 0 then (false, 0, ⟨s', c.pl, 0, i', b⟩) else if e = 41 then (true, 0, ⟨s', c.pl, 0, i', []⟩) else (false, e, ⟨s', c.pl, e, i', []⟩) := by
  unfold endM; rw [if_neg (by simpa using h), if_neg (by simpa using hh), hX]
theorem Okay.end' (hmu : ∀ s n, R.mu (R.nxt s n) ≤ R.mu s) (hP : ∀ s n, P s → P (R.nxt s n)) (h : Okay R P most Bd c) : Okay R P most (Bd + 32) (endM R c).2.2 := by
  by_cases he : c.er ≠ 0
  · rw [end_er he]; exact h.mono (by omega)
  have he : c.er = 0 := by simpa using he
  by_cases hh : c.held ≠ []
  · rw [end_held he hh]; exact h.mono (by omega)
  have hh : c.held = [] := by simpa using hh
  obtain ⟨⟨b, e, s', i'⟩, hX⟩ : ∃ X, tk R (R.mu c.s * 17 + 17) c.s c.idle [] 1 = X := ⟨_, rfl⟩
  have hs := tk_sum hmu (R.mu c.s * 17 + 17) c.s c.idle [] 1 (h.idle he) (by simp) (.inr (by omega))
  have hp := tk_inv hP (R.mu c.s * 17 + 17) c.s c.idle [] 1 h.p
  rw [hX] at hs hp
  obtain ⟨q1, q2, q3, q4, q5⟩ := hs
  dsimp only at q1 q2 q3 q4 q5 hp
  rw [end_take he hh hX]
  have hb := h.bud
  have hid := h.idle he
  by_cases h0 : e = 0
  · rw [if_pos h0]
    exact { idle := fun _ => (q1 h0).2, id2 := q5, pl := h.pl, held := by show b.length ≤ 1; rw [(q1 h0).1]; exact Nat.le_refl _, p := hp, bud := by show R.cnt s' + R.mu s' * 17 ≤ _; omega }
  · rw [if_neg h0]
    by_cases h41 : e = 41
    · rw [if_pos h41]
      exact { idle := fun _ => q3 h41, id2 := q5, pl := h.pl, held := Nat.zero_le _, p := hp, bud := by show R.cnt s' + R.mu s' * 17 ≤ _; omega }
    · rw [if_neg h41]
      exact { idle := fun x => absurd x h0, id2 := q5, pl := h.pl, held := Nat.zero_le _, p := hp, bud := by show R.cnt s' + R.mu s' * 17 ≤ _; omega }
end
end
end Go.Proofs.Ytpenbaafhbbmhaa
