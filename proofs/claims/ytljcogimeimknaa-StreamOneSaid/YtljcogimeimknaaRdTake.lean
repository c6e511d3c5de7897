/- A reader of streams, entry by entry: plain. No condition. -/
import Derived.Test.YtljcogimeimknaaK8w
namespace Go.Proofs.Ytljcogimeimknaa
open Go.RowKit Go.Shelf
set_option linter.unusedVariables false
set_option maxRecDepth 100000

/-- the next entry, what is left -/
def stepM (s : RS) : List Ent → Option Ent × RS × List Ent
  | e :: l => (some e, s, l)
  | [] => match (nxM mxI s).1 with
    | (e :: l, true) => (some e, (nxM mxI s).2, l)
    | _ => (none, (nxM mxI s).2, [])
/-- so many entries; false: there were so many -/
def takeM : Nat → RS → List Ent → List Ent × RS × List Ent × Bool
  | 0, s, l => ([], s, l, false)
  | k + 1, s, l => match (stepM s l).1 with
    | some e => (e :: (takeM k (stepM s l).2.1 (stepM s l).2.2).1, (takeM k (stepM s l).2.1 (stepM s l).2.2).2)
    | none => ([], (stepM s l).2.1, (stepM s l).2.2, true)
section
variable {s s1 s2 : RS} {l l1 l2 es : List Ent} {k m L : Nat} {e : Ent} {b : Bool}
theorem takeM_some (h : stepM s l = (some e, s1, l1)) : takeM (k + 1) s l = (e :: (takeM k s1 l1).1, (takeM k s1 l1).2) := by
  show (match (stepM s l).1 with | some e => _ | none => _) = _
  rw [h]
theorem takeM_none (h : stepM s l = (none, s1, l1)) : takeM (k + 1) s l = ([], s1, l1, true) := by
  show (match (stepM s l).1 with | some e => _ | none => _) = _
  rw [h]
theorem stepM_cons : stepM s (e :: l) = (some e, s, l) := rfl
theorem stepM_next (h : nxM mxI s = ((e :: l, true), s1)) : stepM s [] = (some e, s1, l) := by
  show (match (nxM mxI s).1 with | (e :: l, true) => _ | _ => _) = _
  rw [h]
theorem stepM_end {x : List Ent} (h : nxM mxI s = ((x, false), s1)) : stepM s [] = (none, s1, []) := by
  show (match (nxM mxI s).1 with | (e :: l, true) => _ | _ => _) = _
  rw [h]
  cases x <;> rfl
/-- k and m more -/
theorem takeM_add (m : Nat) : ∀ (k : Nat) (s : RS) (l es : List Ent) (s1 : RS) (l1 : List Ent), takeM k s l = (es, s1, l1, false) → takeM (k + m) s l = (es ++ (takeM m s1 l1).1, (takeM m s1 l1).2) := by
  intro k
  induction k with
  | zero => intro s l es s1 l1 h; cases h; simp
  | succ k ih =>
    intro s l es s1 l1 h
    obtain ⟨⟨o, s2, l2⟩, hX⟩ : ∃ X, stepM s l = X := ⟨_, rfl⟩
    cases o with
    | none => rw [takeM_none hX] at h; cases h
    | some e =>
      rw [takeM_some hX] at h
      obtain ⟨⟨es2, s3, l3, b3⟩, hY⟩ : ∃ Y, takeM k s2 l2 = Y := ⟨_, rfl⟩
      rw [hY] at h
      cases h
      rw [show k + 1 + m = (k + m) + 1 by omega, takeM_some hX, ih _ _ _ _ _ hY]
      rfl
theorem takeM_snoc (h : takeM k s l = (es, s1, l1, false)) (hx : stepM s1 l1 = (some e, s2, l2)) : takeM (k + 1) s l = (es ++ [e], s2, l2, false) := by
  rw [takeM_add 1 k s l es s1 l1 h, takeM_some hx]; rfl
theorem takeM_over (h : takeM k s l = (es, s1, l1, false)) (hx : stepM s1 l1 = (none, s2, l2)) : takeM (k + 1) s l = (es, s2, l2, true) := by
  rw [takeM_add 1 k s l es s1 l1 h, takeM_none hx]; simp
theorem takeM_len : ∀ (k : Nat) (s : RS) (l es : List Ent) (s1 : RS) (l1 : List Ent), takeM k s l = (es, s1, l1, false) → es.length = k := by
  intro k
  induction k with
  | zero => intro s l es s1 l1 h; cases h; rfl
  | succ k ih =>
    intro s l es s1 l1 h
    obtain ⟨⟨o, s2, l2⟩, hX⟩ : ∃ X, stepM s l = X := ⟨_, rfl⟩
    cases o with
    | none => rw [takeM_none hX] at h; cases h
    | some e =>
      rw [takeM_some hX] at h
      obtain ⟨⟨es2, s3, l3, b3⟩, hY⟩ : ∃ Y, takeM k s2 l2 = Y := ⟨_, rfl⟩
      rw [hY] at h
      cases h
      simp [ih _ _ _ _ _ hY]
/-- once over, for ever -/
theorem takeM_more : ∀ (k m : Nat) (s : RS) (l es : List Ent) (s1 : RS) (l1 : List Ent), takeM k s l = (es, s1, l1, true) → k ≤ m → takeM m s l = (es, s1, l1, true) := by
  intro k
  induction k with
  | zero => intro m s l es s1 l1 h; cases h
  | succ k ih =>
    intro m s l es s1 l1 h hm
    obtain ⟨j, rfl⟩ : ∃ j, m = j + 1 := ⟨m - 1, by omega⟩
    obtain ⟨⟨o, s2, l2⟩, hX⟩ : ∃ X, stepM s l = X := ⟨_, rfl⟩
    cases o with
    | none => rw [takeM_none hX] at h ⊢; exact h
    | some e =>
      rw [takeM_some hX] at h ⊢
      obtain ⟨⟨es2, s3, l3, b3⟩, hY⟩ : ∃ Y, takeM k s2 l2 = Y := ⟨_, rfl⟩
      rw [hY] at h
      cases h
      rw [ih j _ _ _ _ _ hY (by omega)]
/-- of what is left -/
theorem takeM_left : ∀ (n : Nat) (l : List Ent), n ≤ l.length → takeM n s l = (l.take n, s, l.drop n, false) := by
  intro n
  induction n with
  | zero => intro l h; rfl
  | succ n ih =>
    intro l h
    cases l with
    | nil => simp at h
    | cons e t => rw [takeM_some stepM_cons, ih t (by simpa using h)]; rfl
theorem takeM_done (h : takeM k s l = (es, s1, l1, true)) : es.length < k := by
  induction k generalizing s l es with
  | zero => cases h
  | succ k ih =>
    obtain ⟨⟨o, s2, l2⟩, hX⟩ : ∃ X, stepM s l = X := ⟨_, rfl⟩
    cases o with
    | none => rw [takeM_none hX] at h; cases h; simp
    | some e =>
      rw [takeM_some hX] at h
      obtain ⟨⟨es2, s3, l3, b3⟩, hY⟩ : ∃ Y, takeM k s2 l2 = Y := ⟨_, rfl⟩
      rw [hY] at h
      cases h
      have := ih hY
      simpa using this
end
/-- a block has its entries: one to 64 -/
def Fair (X : RX) : Prop := X.1.2 = true → 1 ≤ X.1.1.length ∧ X.1.1.length ≤ 64 ∧ ∀ x, x ∈ X.1.1 → x.1.length ≤ 64
theorem Fair.fail (s : RS) (c : CIn Src) (e : Int) (p : Nat) : Fair (s.fail c e p) := fun h => by cases h
theorem frM_fair {L Bd : Nat} {s : RS} (h : OkayC srcM (SrcR L) mxI Bd s.c) : Fair (frM mxI s) := by
  have hft : ∀ (s : RS) (b p : Nat) (X : Nat × Int × CIn Src), Fair (ftN mxI s b p X) := fun s b p X hX => by
    rcases ftN_grows mxI s b p X with ⟨h1, r, h2⟩ | ⟨h1, _⟩
    · exfalso
      unfold ftN at hX
      split at hX
      · cases hX
      split at hX
      · cases hX
      unfold ftD at hX
      split at hX
      · cases hX
      split at hX
      · cases hX
      unfold ftT at hX
      split at hX
      · cases hX
      split at hX
      · cases hX
      unfold ftE at hX
      split at hX
      · cases hX
      split at hX
      · cases hX
      · cases hX
    · rw [h1] at hX; cases hX
  unfold frM
  have n1 := Nr.byte h
  have r1 := byteM_er (M := mxI) (c := s.c)
  obtain ⟨⟨kd, e1, k1⟩, hX1⟩ : ∃ X, byteM srcM mxI s.c = X := ⟨_, rfl⟩
  rw [hX1] at n1 r1 ⊢
  dsimp only at n1 r1
  unfold frK
  split
  · exact .fail _ _ _ _
  rename_i h1
  have n2 := n1.trans (Nr.num n1.ok (r1 (Classical.not_not.1 h1)))
  split
  · exact hft _ _ _ _
  split
  · exact .fail _ _ _ _
  split
  · exact .fail _ _ _ _
  obtain ⟨⟨nn, e2, k2⟩, hX2⟩ : ∃ X, numM srcM mxI k1 = X := ⟨_, rfl⟩
  dsimp only
  rw [hX2] at n2 ⊢
  dsimp only at n2
  unfold frN
  split
  · exact .fail _ _ _ _
  split
  · exact .fail _ _ _ _
  rename_i hn
  have l3 := bodyM_len (n := nn) n2.ok
  dsimp only at hn ⊢
  obtain ⟨⟨b3, e3, p3, k3⟩, hX3⟩ : ∃ X, bodyM mxI k2 nn = X := ⟨_, rfl⟩
  rw [hX3] at l3 ⊢
  dsimp only at l3
  unfold frD
  split
  · exact .fail _ _ _ _
  rename_i h3
  have h3 : e3 = 0 := Classical.not_not.1 h3
  unfold frL
  dsimp only
  split
  · exact .fail _ _ _ _
  rename_i h4
  split
  · exact .fail _ _ _ _
  obtain ⟨⟨l, q, e5⟩, hX5⟩ : ∃ X, bread b3 = X := ⟨_, rfl⟩
  rw [hX5] at h4 ⊢
  obtain rfl : e5 = 0 := Classical.not_not.1 h4
  obtain ⟨g1, g2, g3⟩ := bread_good (by rw [l3 h3]; omega) hX5
  intro _
  exact ⟨g1, g2, fun x hx => (g3 x hx).2⟩
theorem RS.Ok.fair {s : RS} {L : Nat} (h : s.Ok L) : Fair (nxM mxI s) := by
  have hO := h.ok.most (m' := mxI) (by decide)
  unfold nxM
  split
  · unfold hdM
    have n1 := Nr.bytes hO 8
    obtain ⟨⟨b, e1, k1⟩, hX1⟩ : ∃ X, bytesM srcM mxI 8 s.c = X := ⟨_, rfl⟩
    rw [hX1] at n1 ⊢
    dsimp only at n1
    unfold hdH
    split
    · exact .fail _ _ _ _
    split
    · exact .fail _ _ _ _
    exact frM_fair (s := { s with c := k1, ph := 1 }) n1.ok
  split
  · exact frM_fair hO
  · intro h; cases h
/-- it goes on standing rightly -/
theorem stepM_ok {s s1 : RS} {L : Nat} {l l1 : List Ent} {o : Option Ent} (h : s.Ok L) (hx : stepM s l = (o, s1, l1)) : s1.Ok L := by
  cases l with
  | cons e t => cases hx; exact h
  | nil =>
    have hn := h.next
    obtain ⟨⟨⟨x, ok⟩, s2⟩, hX⟩ : ∃ X, nxM mxI s = X := ⟨_, rfl⟩
    rw [hX] at hn
    cases ok with
    | false => rw [stepM_end hX] at hx; cases hx; exact hn
    | true =>
      have hf := h.fair
      rw [hX] at hf
      cases x with
      | nil => have := (hf rfl).1; simp at this
      | cons e t => rw [stepM_next hX] at hx; cases hx; exact hn
theorem takeM_ok {L : Nat} : ∀ (k : Nat) (s : RS) (l es : List Ent) (s1 : RS) (l1 : List Ent) (b : Bool), s.Ok L → takeM k s l = (es, s1, l1, b) → s1.Ok L := by
  intro k
  induction k with
  | zero => intro s l es s1 l1 b hs h; cases h; exact hs
  | succ k ih =>
    intro s l es s1 l1 b hs h
    obtain ⟨⟨o, s2, l2⟩, hX⟩ : ∃ X, stepM s l = X := ⟨_, rfl⟩
    have h2 := stepM_ok hs hX
    cases o with
    | none => rw [takeM_none hX] at h; cases h; exact h2
    | some e =>
      rw [takeM_some hX] at h
      obtain ⟨⟨es2, s3, l3, b3⟩, hY⟩ : ∃ Y, takeM k s2 l2 = Y := ⟨_, rfl⟩
      rw [hY] at h
      cases h
      exact ih _ _ _ _ _ _ h2 hY
/-- how many there are at most -/
theorem takeM_most {L : Nat} : ∀ (k : Nat) (s : RS) (l es : List Ent) (s1 : RS) (l1 : List Ent) (b : Bool), s.Ok L → takeM k s l = (es, s1, l1, b) → es.length + l1.length + 64 * s.rows.length ≤ l.length + 64 * s1.rows.length := by
  intro k
  induction k with
  | zero => intro s l es s1 l1 b hs h; cases h; simp
  | succ k ih =>
    intro s l es s1 l1 b hs h
    obtain ⟨⟨o, s2, l2⟩, hX⟩ : ∃ X, stepM s l = X := ⟨_, rfl⟩
    have h2 := stepM_ok hs hX
    have h3 : (match o with | some _ => 1 | none => 0) + l2.length + 64 * s.rows.length ≤ l.length + 64 * s2.rows.length := by
      cases l with
      | cons e t => cases hX; simp; omega
      | nil =>
        have hg := (nxM_grows mxI s).len
        obtain ⟨⟨⟨x, ok⟩, s3⟩, hN⟩ : ∃ X, nxM mxI s = X := ⟨_, rfl⟩
        rw [hN] at hg
        dsimp only at hg
        cases ok with
        | false => rw [stepM_end hN] at hX; cases hX; simp at hg ⊢; omega
        | true =>
          have hf := hs.fair
          rw [hN] at hf
          cases x with
          | nil => have := (hf rfl).1; simp at this
          | cons e t =>
            rw [stepM_next hN] at hX; cases hX
            have := (hf rfl).2.1
            simp at hg this ⊢
            omega
    cases o with
    | none => rw [takeM_none hX] at h; cases h; simpa using h3
    | some e =>
      rw [takeM_some hX] at h
      obtain ⟨⟨es2, s3, l3, b3⟩, hY⟩ : ∃ Y, takeM k s2 l2 = Y := ⟨_, rfl⟩
      rw [hY] at h
      cases h
      have := ih _ _ _ _ _ _ h2 hY
      dsimp only at h3
      simp
      omega
end Go.Proofs.Ytljcogimeimknaa
