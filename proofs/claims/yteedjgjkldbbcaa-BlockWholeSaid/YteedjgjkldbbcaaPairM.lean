/- Texts in order: plain words, no program: what two texts have in common, how they compare. No condition. -/
import Derived.Test.YteedjgjkldbbcaaNum
namespace Go.Proofs.Yteedjgjkldbbcaa
set_option linter.unusedVariables false

/-- how many bytes two texts have in common at their beginnings -/
def com : List UInt8 → List UInt8 → Nat
  | a :: ps, b :: qs => if a = b then com ps qs + 1 else 0
  | _, _ => 0
/-- how two texts compare -/
def cmp : List UInt8 → List UInt8 → Int
  | [], [] => 0
  | [], _ :: _ => -1
  | _ :: _, [] => 1
  | a :: ps, b :: qs => if a = b then cmp ps qs else if a.toNat < b.toNat then -1 else 1

theorem u8_ext {a b : UInt8} (h : a.toNat = b.toNat) : a = b := UInt8.toNat_inj.1 h
theorem u8_ne {a b : UInt8} (h : a ≠ b) : a.toNat ≠ b.toNat := fun e => h (u8_ext e)
theorem cmp_cases : ∀ xs ys, cmp xs ys = -1 ∨ cmp xs ys = 0 ∨ cmp xs ys = 1
  | [], [] => .inr (.inl rfl)
  | [], _ :: _ => .inl rfl
  | _ :: _, [] => .inr (.inr rfl)
  | a :: ps, b :: qs => by
    unfold cmp
    split
    · exact cmp_cases ps qs
    · split
      · exact .inl rfl
      · exact .inr (.inr rfl)
theorem cmp_neg : ∀ xs ys, cmp ys xs = - cmp xs ys
  | [], [] => rfl
  | [], _ :: _ => rfl
  | _ :: _, [] => rfl
  | a :: ps, b :: qs => by
    unfold cmp
    by_cases h : a = b
    · subst h; rw [if_pos rfl, if_pos rfl]; exact cmp_neg ps qs
    · have h2 : ¬ b = a := fun e => h e.symm
      have := u8_ne h
      rw [if_neg h, if_neg h2]
      by_cases h3 : a.toNat < b.toNat
      · rw [if_pos h3, if_neg (by omega)]; rfl
      · rw [if_neg h3, if_pos (by omega)]
theorem cmp_self : ∀ xs, cmp xs xs = 0
  | [] => rfl
  | a :: ps => by unfold cmp; rw [if_pos rfl]; exact cmp_self ps
theorem cmp_zero : ∀ xs ys, cmp xs ys = 0 → xs = ys
  | [], [], _ => rfl
  | [], _ :: _, h => by simp [cmp] at h
  | _ :: _, [], h => by simp [cmp] at h
  | a :: ps, b :: qs, h => by
    unfold cmp at h
    split at h
    · rename_i e; rw [e, cmp_zero ps qs h]
    · split at h <;> simp at h
theorem cmp_eq (xs ys : List UInt8) : cmp xs ys = 0 ↔ xs = ys := ⟨cmp_zero xs ys, fun e => e ▸ cmp_self xs⟩
theorem cmp_pre : ∀ p xs ys, cmp (p ++ xs) (p ++ ys) = cmp xs ys
  | [], _, _ => rfl
  | a :: p, xs, ys => by
    show cmp (a :: (p ++ xs)) (a :: (p ++ ys)) = _
    rw [cmp, if_pos rfl]; exact cmp_pre p xs ys
theorem cmp_nil (ys : List UInt8) : cmp [] ys = if ys = [] then 0 else -1 := by cases ys <;> simp [cmp]
theorem cmp_app (xs ys : List UInt8) : cmp xs (xs ++ ys) = if ys = [] then 0 else -1 := by
  have := cmp_pre xs [] ys
  rw [List.append_nil] at this
  rw [this, cmp_nil]
theorem cmp_trans : ∀ xs ys zs, cmp xs ys ≤ 0 → cmp ys zs ≤ 0 → cmp xs zs ≤ 0 ∧ (cmp xs zs = 0 → cmp xs ys = 0)
  | [], [], zs, _, h2 => ⟨h2, fun _ => rfl⟩
  | [], b :: qs, [], _, h2 => by simp [cmp] at h2
  | [], b :: qs, c :: cs, _, _ => by simp [cmp]
  | _ :: _, [], _, h1, _ => by simp [cmp] at h1
  | _ :: _, _ :: _, [], _, h2 => by simp [cmp] at h2
  | a :: ps, b :: qs, c :: cs, h1, h2 => by
    unfold cmp at h1 h2 ⊢
    by_cases e1 : a = b
    · subst e1
      rw [if_pos rfl] at h1
      rw [if_pos rfl]
      by_cases e2 : a = c
      · subst e2
        rw [if_pos rfl] at h2
        rw [if_pos rfl]
        exact cmp_trans ps qs cs h1 h2
      · rw [if_neg e2] at h2 ⊢
        by_cases e3 : a.toNat < c.toNat
        · rw [if_pos e3]; exact ⟨by omega, fun h => by omega⟩
        · rw [if_neg e3] at h2; omega
    · rw [if_neg e1] at h1 ⊢
      have n1 := u8_ne e1
      by_cases e4 : a.toNat < b.toNat
      · by_cases e2 : b = c
        · subst e2
          rw [if_neg e1, if_pos e4]; exact ⟨by omega, fun h => by omega⟩
        · rw [if_neg e2] at h2
          have n2 := u8_ne e2
          by_cases e5 : b.toNat < c.toNat
          · have e6 : ¬ a = c := fun e => by subst e; omega
            rw [if_neg e6, if_pos (by omega)]; exact ⟨by omega, fun h => by omega⟩
          · rw [if_neg e5] at h2; omega
      · rw [if_neg e4] at h1; omega
theorem com_le : ∀ xs ys, com xs ys ≤ xs.length ∧ com xs ys ≤ ys.length
  | [], ys => by cases ys <;> simp [com]
  | _ :: _, [] => by simp [com]
  | a :: ps, b :: qs => by
    unfold com
    have := com_le ps qs
    split <;> simp <;> omega
theorem com_take : ∀ xs ys : List UInt8, xs.take (com xs ys) = ys.take (com xs ys)
  | [], ys => by cases ys <;> simp [com]
  | _ :: _, [] => by simp [com]
  | a :: ps, b :: qs => by
    unfold com
    split
    · rename_i e; subst e; simp [com_take ps qs]
    · simp
theorem com_pre : ∀ p xs ys, com (p ++ xs) (p ++ ys) = p.length + com xs ys
  | [], _, _ => by simp
  | a :: p, xs, ys => by
    show com (a :: (p ++ xs)) (a :: (p ++ ys)) = _
    rw [com, if_pos rfl, com_pre p xs ys]; simp; omega
/-- split at a place up to which they are alike -/
theorem cut_at {xs ys : List UInt8} {k : Nat} (h : xs.take k = ys.take k) : ∃ p a b, xs = p ++ a ∧ ys = p ++ b ∧ a = xs.drop k ∧ b = ys.drop k ∧ p = xs.take k :=
  ⟨xs.take k, xs.drop k, ys.drop k, (List.take_append_drop k xs).symm, by rw [h]; exact (List.take_append_drop k ys).symm, rfl, rfl, rfl⟩
theorem cmp_drop {xs ys : List UInt8} {k : Nat} (h : xs.take k = ys.take k) : cmp xs ys = cmp (xs.drop k) (ys.drop k) := by
  obtain ⟨p, a, b, e1, e2, e3, e4, _⟩ := cut_at h
  rw [← e3, ← e4]
  conv => lhs; rw [e1, e2]
  exact cmp_pre p a b
theorem com_drop {xs ys : List UInt8} {k : Nat} (h : xs.take k = ys.take k) (hk : k ≤ xs.length) : com xs ys = k + com (xs.drop k) (ys.drop k) := by
  obtain ⟨p, a, b, e1, e2, e3, e4, e5⟩ := cut_at h
  rw [← e3, ← e4]
  conv => lhs; rw [e1, e2]
  rw [com_pre, e5, List.length_take]; omega
theorem drop_cons {xs : List UInt8} {k : Nat} {x : UInt8} (h : xs[k]? = some x) : xs.drop k = x :: xs.drop (k + 1) := by
  obtain ⟨hk, e⟩ := List.getElem?_eq_some_iff.1 h
  rw [List.drop_eq_getElem_cons hk, e]
theorem cmp_diff {xs ys : List UInt8} {k : Nat} {x y : UInt8} (h : xs.take k = ys.take k) (hx : xs[k]? = some x) (hy : ys[k]? = some y) (hne : x ≠ y) : cmp xs ys = if x.toNat < y.toNat then -1 else 1 := by
  rw [cmp_drop h, drop_cons hx, drop_cons hy, cmp, if_neg hne]
theorem com_diff {xs ys : List UInt8} {k : Nat} {x y : UInt8} (h : xs.take k = ys.take k) (hx : xs[k]? = some x) (hy : ys[k]? = some y) (hne : x ≠ y) : com xs ys = k := by
  have hk := (List.getElem?_eq_some_iff.1 hx).1
  rw [com_drop h (by omega), drop_cons hx, drop_cons hy, com, if_neg hne, Nat.add_zero]
theorem com_full {xs ys : List UInt8} {k : Nat} (h : xs.take k = ys.take k) (hx : k ≤ xs.length) (hy : k ≤ ys.length) (hk : k = xs.length ∨ k = ys.length) : com xs ys = k := by
  rw [com_drop h hx]
  rcases hk with e | e
  · rw [List.drop_of_length_le (by omega : xs.length ≤ k)]; cases ys.drop k <;> simp [com]
  · rw [List.drop_of_length_le (by omega : ys.length ≤ k)]; cases xs.drop k <;> simp [com]
theorem cmp_full {xs ys : List UInt8} {k : Nat} (h : xs.take k = ys.take k) (hx : k ≤ xs.length) (hy : k ≤ ys.length) (hk : k = xs.length ∨ k = ys.length) :
    cmp xs ys = if xs.length < ys.length then -1 else if ys.length < xs.length then 1 else 0 := by
  rw [cmp_drop h]
  have hd : ∀ zs : List UInt8, zs.drop k = [] ↔ zs.length ≤ k := fun zs => List.drop_eq_nil_iff
  rcases hk with e | e
  · rw [List.drop_of_length_le (by omega : xs.length ≤ k), cmp_nil]
    by_cases h0 : xs.length < ys.length
    · rw [if_pos h0, if_neg (fun e2 => by have := (hd ys).1 e2; omega)]
    · rw [if_neg h0, if_neg (by omega : ¬ ys.length < xs.length), if_pos ((hd ys).2 (by omega))]
  · rw [List.drop_of_length_le (by omega : ys.length ≤ k), cmp_neg, cmp_nil]
    by_cases h0 : ys.length < xs.length
    · rw [if_neg (by omega : ¬ xs.length < ys.length), if_pos h0, if_neg (fun e2 => by have := (hd xs).1 e2; omega)]; rfl
    · rw [if_neg (by omega : ¬ xs.length < ys.length), if_neg h0, if_pos ((hd xs).2 (by omega))]; rfl
/-- where they part -/
theorem com_end (xs ys : List UInt8) : com xs ys = xs.length ∨ com xs ys = ys.length ∨ ∃ x y, xs[com xs ys]? = some x ∧ ys[com xs ys]? = some y ∧ x ≠ y ∧ cmp xs ys = if x.toNat < y.toNat then -1 else 1 := by
  have hl := com_le xs ys
  have ht := com_take xs ys
  generalize hk : com xs ys = k at *
  by_cases h1 : k = xs.length
  · exact .inl h1
  by_cases h2 : k = ys.length
  · exact .inr (.inl h2)
  obtain ⟨x, hx⟩ : ∃ x, xs[k]? = some x := ⟨_, List.getElem?_eq_getElem (by omega)⟩
  obtain ⟨y, hy⟩ : ∃ y, ys[k]? = some y := ⟨_, List.getElem?_eq_getElem (by omega)⟩
  have hne : x ≠ y := by
    intro e
    subst e
    have := com_drop ht (by omega)
    rw [drop_cons hx, drop_cons hy, com, if_pos rfl] at this
    omega
  exact .inr (.inr ⟨x, y, hx, hy, hne, cmp_diff ht hx hy hne⟩)
/-- the reference's way of comparing -/
theorem cmp_com (xs ys : List UInt8) : cmp xs ys = if com xs ys = xs.length ∧ com xs ys = ys.length then 0 else if com xs ys = xs.length then -1 else if com xs ys = ys.length then 1 else
    if (xs.getD (com xs ys) 0).toNat < (ys.getD (com xs ys) 0).toNat then -1 else 1 := by
  have hl := com_le xs ys
  have ht := com_take xs ys
  rcases com_end xs ys with h | h | ⟨x, y, hx, hy, hne, hc⟩
  · have := cmp_full ht hl.1 hl.2 (.inl h)
    rw [this]
    by_cases h2 : com xs ys = ys.length
    · rw [if_neg (by omega), if_neg (by omega), if_pos ⟨h, h2⟩]
    · rw [if_pos (by omega), if_neg (fun e => h2 e.2), if_pos h]
  · have := cmp_full ht hl.1 hl.2 (.inr h)
    rw [this]
    by_cases h2 : com xs ys = xs.length
    · rw [if_neg (by omega), if_neg (by omega), if_pos ⟨h2, h⟩]
    · rw [if_neg (by omega), if_pos (by omega), if_neg (fun e => h2 e.1), if_neg h2, if_pos h]
  · have h1 := (List.getElem?_eq_some_iff.1 hx).1
    have h2 := (List.getElem?_eq_some_iff.1 hy).1
    rw [hc, if_neg (show ¬ (com xs ys = xs.length ∧ com xs ys = ys.length) from fun e => by omega), if_neg (show ¬ com xs ys = xs.length by omega), if_neg (show ¬ com xs ys = ys.length by omega), List.getD, List.getD, hx, hy]; rfl
/-- a beginning of what stands behind is not above -/
theorem cmp_short (xs ys : List UInt8) (n : Nat) (h : n ≤ com xs ys) : 0 ≤ cmp xs (ys.take n) := by
  have ht := com_take xs ys
  have e : ys.take n = xs.take n := by
    have := congrArg (List.take n) ht
    rwa [List.take_take, List.take_take, Nat.min_eq_left h, eq_comm] at this
  rw [e]
  have := cmp_app (xs.take n) (xs.drop n)
  rw [List.take_append_drop] at this
  rw [cmp_neg, this]
  split <;> omega
theorem cmp_next (xs ys : List UInt8) (h : cmp xs ys < 0) : com xs ys < ys.length ∧ cmp xs (ys.take (com xs ys + 1)) = -1 := by
  have hl := com_le xs ys
  have ht := com_take xs ys
  have hlt : com xs ys < ys.length := by
    by_cases h1 : com xs ys = ys.length
    · have := cmp_full ht hl.1 hl.2 (.inr h1)
      rw [if_neg (by omega)] at this
      split at this <;> omega
    · omega
  refine ⟨hlt, ?_⟩
  have h3 : xs.take (com xs ys) = (ys.take (com xs ys + 1)).take (com xs ys) := by rw [List.take_take, Nat.min_eq_left (by omega)]; exact ht
  rcases com_end xs ys with h1 | h1 | ⟨x, y, hx, hy, hne, hc⟩
  · rw [cmp_full h3 hl.1 (by rw [List.length_take]; omega) (.inl h1), if_pos (by rw [List.length_take]; omega)]
  · omega
  · rw [cmp_diff (y := y) h3 hx (by rw [List.getElem?_take_of_lt (by omega)]; exact hy) hne]
    rw [hc] at h
    split at h
    · rename_i e; rw [if_pos e]
    · omega
theorem cmp_none (xs ys : List UInt8) (n : Nat) (h : 0 ≤ cmp xs ys) : 0 ≤ cmp xs (ys.take n) := by
  have h1 : cmp (ys.take n) ys ≤ 0 := by
    have := cmp_app (ys.take n) (ys.drop n)
    rw [List.take_append_drop] at this
    rw [this]; split <;> omega
  have h2 : cmp ys xs ≤ 0 := by rw [cmp_neg]; omega
  have := (cmp_trans _ _ _ h1 h2).1
  rw [cmp_neg]; omega
end Go.Proofs.Yteedjgjkldbbcaa
