/- What stands between two texts, and what is least above one: plain words, no program. No condition. -/
import Derived.Test.YtajmojldckpchaaPairAft
namespace Go.Proofs.Ytajmojldckpchaa

theorem cmp_beg (xs : List UInt8) (n : Nat) : 0 ≤ cmp xs (xs.take n) := cmp_none xs xs n (by rw [cmp_self]; omega)
theorem cmp_upto (xs : List UInt8) (n : Nat) : cmp (xs.take n) xs ≤ 0 := by
  have := cmp_app (xs.take n) (xs.drop n)
  rw [List.take_append_drop] at this
  rw [this]; split <;> omega
theorem take_le {xs ys : List UInt8} {m i : Nat} (h : xs.take m = ys.take m) (hi : i ≤ m) : xs.take i = ys.take i := by
  have := congrArg (List.take i) h
  rwa [List.take_take, List.take_take, Nat.min_eq_left hi] at this
theorem get_le {xs ys : List UInt8} {m i : Nat} (h : xs.take m = ys.take m) (hi : i < m) : xs[i]? = ys[i]? := by
  have := congrArg (fun l => l[i]?) h
  simpa [List.getElem?_take_of_lt hi] using this
/-- what stands between has more bytes than the two have in common -/
theorem least {xs ys ts : List UInt8} (h1 : cmp xs ts < 0) (h2 : cmp ts ys ≤ 0) : com xs ys < ts.length := by
  apply Classical.byContradiction
  intro hno
  have hm := com_le xs ys
  have ht := com_take xs ys
  generalize com xs ys = m at *
  have hi := com_le ts xs
  have hti := com_take ts xs
  rcases com_end ts xs with h | h | ⟨x, y, hx, hy, hne, hc⟩
  · rw [h, List.take_length] at hti
    have := cmp_beg xs ts.length
    rw [← hti] at this; omega
  · have e : com ts xs = ts.length := by omega
    rw [e, List.take_length] at hti
    have := cmp_beg xs ts.length
    rw [← hti] at this; omega
  · have hlt := (List.getElem?_eq_some_iff.1 hx).1
    have hy2 : ys[com ts xs]? = some y := by rw [← get_le ht (by omega)]; exact hy
    have hty : ts.take (com ts xs) = ys.take (com ts xs) := hti.trans (take_le ht (by omega))
    have h3 := cmp_diff hty hx hy2 hne
    rw [← hc] at h3
    have := cmp_neg ts xs
    omega
/-- where one is below another -/
theorem below_at {xs ts : List UInt8} (h : cmp xs ts < 0) : (∃ y r, ts = xs ++ y :: r) ∨ ∃ m x y, xs.take m = ts.take m ∧ xs[m]? = some x ∧ ts[m]? = some y ∧ x.toNat < y.toNat := by
  have hl := com_le xs ts
  have ht := com_take xs ts
  rcases com_end xs ts with e | e | ⟨x, y, hx, hy, hne, hc⟩
  · left
    have hc := cmp_full ht hl.1 hl.2 (.inl e)
    rw [e, List.take_length] at ht
    have h2 : xs.length < ts.length := by
      by_cases h3 : xs.length < ts.length
      · exact h3
      · rw [if_neg h3] at hc; split at hc <;> omega
    have h4 := (List.take_append_drop xs.length ts).symm
    rw [← ht] at h4
    obtain ⟨y, hy⟩ : ∃ y, ts[xs.length]? = some y := ⟨_, List.getElem?_eq_getElem h2⟩
    rw [drop_cons hy] at h4
    exact ⟨y, _, h4⟩
  · have hc := cmp_full ht hl.1 hl.2 (.inr e)
    by_cases h3 : xs.length < ts.length
    · omega
    · rw [if_neg h3] at hc; split at hc <;> omega
  · right
    refine ⟨com xs ts, x, y, ht, hx, hy, ?_⟩
    rw [hc] at h
    split at h
    · assumption
    · omega
theorem top_spec {xs : List UInt8} : ∀ m, m ≤ xs.length → (top xs m = 0 ∧ ∀ i, i < m → xs[i]? = some 255) ∨ ∃ j x, top xs m = j + 1 ∧ j < m ∧ xs[j]? = some x ∧ x ≠ 255 ∧ ∀ i, j < i → i < m → xs[i]? = some 255
  | 0, _ => .inl ⟨rfl, fun i hi => absurd hi (by omega)⟩
  | m + 1, h => by
    obtain ⟨x, hx⟩ : ∃ x, xs[m]? = some x := ⟨_, List.getElem?_eq_getElem (by omega)⟩
    by_cases hx255 : x = 255
    · rw [top_down hx hx255]
      subst hx255
      rcases top_spec (xs := xs) m (by omega) with ⟨h1, h2⟩ | ⟨j, y, h1, h2, h3, h4, h5⟩
      · refine .inl ⟨h1, fun i hi => ?_⟩
        by_cases e : i = m
        · subst e; exact hx
        · exact h2 i (by omega)
      · refine .inr ⟨j, y, h1, by omega, h3, h4, fun i h6 h7 => ?_⟩
        by_cases e : i = m
        · subst e; exact hx
        · exact h5 i h6 (by omega)
    · exact .inr ⟨m, x, top_at hx hx255, by omega, hx, hx255, fun i h6 h7 => absurd h6 (by omega)⟩
theorem bump_app {xs : List UInt8} {j : Nat} {x : UInt8} (hx : xs[j]? = some x) : bump xs (j + 1) = xs.take j ++ [x + 1] := by
  have hj := (List.getElem?_eq_some_iff.1 hx).1
  rw [bump_eq hx, List.take_add_one, hx]
  have hl : (xs.take j).length = j := by rw [List.length_take]; omega
  show (xs.take j ++ [x]).set j (x + 1) = _
  rw [List.set_append, if_neg (by omega), hl, Nat.sub_self]; rfl
theorem succ_nat {x : UInt8} (h : x ≠ 255) : (x + 1).toNat = x.toNat + 1 := by
  have := B_succ h
  have h1 := B_lt255 h
  have h2 := B_lo x
  unfold B at this h1 h2
  omega
/-- the three facts of After, where there is one -/
theorem aft_yes {xs : List UInt8} (h : aftB xs = true) : 1 ≤ (aftV xs).length ∧ (aftV xs).length ≤ 64 ∧ cmp xs (aftV xs) = -1 ∧ ∀ ts : List UInt8, ts.length ≤ 64 → cmp xs ts < 0 → cmp (aftV xs) ts ≤ 0 := by
  by_cases hs : xs.length < 64
  · obtain ⟨e, _⟩ := aft_short hs
    rw [e]
    refine ⟨by rw [List.length_append]; simp, by rw [List.length_append]; simp; omega, by rw [cmp_app, if_neg (by simp)], fun ts h1 h2 => ?_⟩
    rcases below_at h2 with ⟨y, r, rfl⟩ | ⟨m, x, y, h3, h4, h5, h6⟩
    · rw [cmp_pre, cmp]
      split
      · rw [cmp_nil]; split <;> omega
      · rename_i hne
        have := u8_ne hne
        have h0 : (0 : UInt8).toNat = 0 := rfl
        rw [if_pos (by omega)]; omega
    · have hm := (List.getElem?_eq_some_iff.1 h4).1
      have h7 : (xs ++ [0]).take m = ts.take m := by rw [List.take_append_of_le_length (by omega)]; exact h3
      have h8 : (xs ++ [0])[m]? = some x := by rw [List.getElem?_append_left (by omega)]; exact h4
      rw [cmp_diff h7 h8 h5 (fun e => by subst e; omega), if_pos h6]; omega
  · rcases top_spec (xs := xs) 64 (by omega) with ⟨h1, _⟩ | ⟨j, x, h1, h2, h3, h4, h5⟩
    · have := (aft_none hs h1).2; rw [this] at h; cases h
    · obtain ⟨e, _⟩ := aft_long hs h1 (by omega)
      rw [e, bump_app h3]
      have hj := (List.getElem?_eq_some_iff.1 h3).1
      have hl : (xs.take j).length = j := by rw [List.length_take]; omega
      have hn := succ_nat h4
      have hsplit : xs = xs.take j ++ x :: xs.drop (j + 1) := by rw [← drop_cons h3]; exact (List.take_append_drop j xs).symm
      refine ⟨by rw [List.length_append]; simp, by rw [List.length_append, hl]; simp; omega, ?_, fun ts t1 t2 => ?_⟩
      · have hpre := cmp_pre (xs.take j) (x :: xs.drop (j + 1)) [x + 1]
        rw [← hsplit] at hpre
        rw [hpre, cmp, if_neg (fun e => by have := congrArg UInt8.toNat e; omega), if_pos (by omega)]
      · rcases below_at t2 with ⟨y, r, rfl⟩ | ⟨m, u, y, t3, t4, t5, t6⟩
        · rw [List.length_append] at t1; simp at t1; omega
        · have hm := (List.getElem?_eq_some_iff.1 t5).1
          have hy := y.toNat_lt
          have hmj : m ≤ j := by
            apply Classical.byContradiction
            intro hno
            have := h5 m (by omega) (by omega)
            rw [t4] at this
            have e := Option.some.inj this
            subst e
            have : (255 : UInt8).toNat = 255 := rfl
            omega
          by_cases e : m = j
          · subst e
            rw [h3] at t4
            obtain rfl := Option.some.inj t4
            have ht : ts = xs.take m ++ y :: ts.drop (m + 1) := by rw [t3, ← drop_cons t5]; exact (List.take_append_drop m ts).symm
            rw [ht, cmp_pre, cmp]
            split
            · rw [cmp_nil]; split <;> omega
            · rename_i hne
              have := u8_ne hne
              rw [if_pos (by omega)]; omega
          · have t7 : (xs.take j ++ [x + 1]).take m = ts.take m := by
              rw [List.take_append_of_le_length (by omega), List.take_take, Nat.min_eq_left hmj]; exact t3
            have t8 : (xs.take j ++ [x + 1])[m]? = some u := by rw [List.getElem?_append_left (by omega), List.getElem?_take_of_lt (by omega)]; exact t4
            rw [cmp_diff t7 t8 t5 (fun e => by subst e; omega), if_pos t6]; omega
theorem aft_no {xs : List UInt8} (h : aftB xs = false) : aftV xs = [] ∧ ∀ ts : List UInt8, ts.length ≤ 64 → 0 ≤ cmp xs ts := by
  have hs : ¬ xs.length < 64 := fun e => by have := (aft_short e).2; rw [this] at h; cases h
  rcases top_spec (xs := xs) 64 (by omega) with ⟨h1, h2⟩ | ⟨j, x, h1, _⟩
  · refine ⟨(aft_none hs h1).1, fun ts t1 => ?_⟩
    apply Classical.byContradiction
    intro hno
    rcases below_at (xs := xs) (ts := ts) (by omega) with ⟨y, r, rfl⟩ | ⟨m, u, y, t3, t4, t5, t6⟩
    · rw [List.length_append] at t1; simp at t1; omega
    · have hm := (List.getElem?_eq_some_iff.1 t5).1
      have := h2 m (by omega)
      rw [t4] at this
      have e := Option.some.inj this
      subst e
      have : (255 : UInt8).toNat = 255 := rfl
      have hy := y.toNat_lt
      omega
  · have := (aft_long hs h1 (by omega)).2; rw [this] at h; cases h
/-- may a key be? -/
def keyE (xs : List UInt8) : Int := if xs.length = 0 ∨ 64 < xs.length then 3 else 0
end Go.Proofs.Ytajmojldckpchaa
