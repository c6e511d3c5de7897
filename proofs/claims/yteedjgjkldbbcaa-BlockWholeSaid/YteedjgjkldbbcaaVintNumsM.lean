/- The numbers of bytes, one behind the other: plain words, no program. No condition. -/
import Derived.Test.YteedjgjkldbbcaaVintPutM
namespace Go.Proofs.Yteedjgjkldbbcaa

/-- what is read is written just so -/
theorem rd_take : ∀ (l : List UInt8) (k v n j : Nat), rd l k v = (n, j, 0) → ∃ m i, n = v + m * 128 ^ k ∧ j = k + i ∧ i ≤ l.length ∧ l.take i = vb m ∧ (0 < k → 0 < m)
  | [], k, v, n, j, h => by simp [rd] at h
  | c :: r, k, v, n, j, h => by
    by_cases h1 : k = 9 ∧ 1 < c.toNat
    · rw [rd_long h1] at h; simp at h
    by_cases h2 : 0 < k ∧ c.toNat = 0
    · rw [rd_form h2] at h; simp at h
    have hc := c.toNat_lt
    by_cases h3 : c.toNat < 128
    · rw [rd_last h1 h2 h3] at h
      simp only [Prod.mk.injEq] at h
      obtain ⟨rfl, rfl, _⟩ := h
      refine ⟨c.toNat, 1, by rw [Nat.mod_eq_of_lt h3], rfl, by simp, ?_, by omega⟩
      rw [vb_lt h3]
      show [c] = [UInt8.ofNat c.toNat]
      rw [UInt8.ofNat_toNat]
    · rw [rd_go h1 h2 h3] at h
      obtain ⟨m, i, e1, e2, e3, e4, e5⟩ := rd_take r (k + 1) _ n j h
      have hm := e5 (by omega)
      have hd : (c.toNat % 128 + 128 * m) / 128 = m := by omega
      have hmod : (c.toNat % 128 + 128 * m) % 128 = c.toNat % 128 := by omega
      refine ⟨c.toNat % 128 + 128 * m, i + 1, ?_, by omega, by simp; omega, ?_, by omega⟩
      · rw [e1, Nat.pow_succ, Nat.add_mul, Nat.mul_comm 128 m, Nat.mul_assoc, Nat.mul_comm 128 (128 ^ k)]; omega
      · rw [vb_ge (by omega), hd, List.take_succ_cons, e4]
        congr 1
        unfold hi8
        rw [hmod, show c.toNat % 128 + 128 = c.toNat by omega, UInt8.ofNat_toNat]
theorem rd_vbs {l : List UInt8} {n j : Nat} (h : rd l 0 0 = (n, j, 0)) : j ≤ l.length ∧ l.take j = vb n ∧ j = (vb n).length := by
  obtain ⟨m, i, e1, e2, e3, e4, _⟩ := rd_take l 0 0 n j h
  obtain rfl : n = m := by rw [e1]; simp
  obtain rfl : j = i := by omega
  refine ⟨e3, e4, ?_⟩
  rw [← e4, List.length_take]; omega

/-- the places and the numbers from a place on, f at most -/
def numsF (b : List UInt8) : Nat → Nat → List (Nat × Nat)
  | 0, _ => []
  | f + 1, a => if a < b.length ∧ (rd (b.drop a) 0 0).2.2 = 0 then (a, (rd (b.drop a) 0 0).1) :: numsF b f (a + (rd (b.drop a) 0 0).2.1) else []
def nums (b : List UInt8) : List (Nat × Nat) := numsF b b.length 0
theorem numsF_go {b : List UInt8} {f a n j : Nat} (ha : a < b.length) (h : rd (b.drop a) 0 0 = (n, j, 0)) : numsF b (f + 1) a = (a, n) :: numsF b f (a + j) := by
  conv => lhs; unfold numsF
  rw [h, if_pos ⟨ha, rfl⟩]
theorem numsF_end {b : List UInt8} {f a : Nat} (ha : b.length ≤ a) : numsF b f a = [] := by
  cases f with
  | zero => rfl
  | succ f => unfold numsF; rw [if_neg (by omega)]
theorem numsF_no {b : List UInt8} {f a n j : Nat} {e : Int} (h : rd (b.drop a) 0 0 = (n, j, e)) (he : e ≠ 0) : numsF b f a = [] := by
  cases f with
  | zero => rfl
  | succ f => unfold numsF; rw [h, if_neg (fun x => he x.2)]
/-- where the bytes of such a list end -/
def aft (l : List (Nat × Nat)) : Nat := match l.getLast? with
  | none => 0
  | some x => x.1 + (vb x.2).length
theorem aft_nil : aft [] = 0 := rfl
theorem aft_snoc (l : List (Nat × Nat)) (x : Nat × Nat) : aft (l ++ [x]) = x.1 + (vb x.2).length := by unfold aft; simp
/-- what is left stands where what has come ends -/
structure Left (b : List UInt8) (pre : List (Nat × Nat)) (a f : Nat) : Prop where
  all : nums b = pre ++ numsF b f a
  fuel : b.length ≤ f + a
  at_ : a = aft pre
  le : a ≤ b.length
theorem Left.start (b : List UInt8) : Left b [] 0 b.length := ⟨rfl, by omega, rfl, Nat.zero_le _⟩
theorem Left.go {b : List UInt8} {pre : List (Nat × Nat)} {a f n j : Nat} (h : Left b pre a f) (ha : a < b.length) (hr : rd (b.drop a) 0 0 = (n, j, 0)) : ∃ f', f = f' + 1 ∧ Left b (pre ++ [(a, n)]) (a + j) f' := by
  obtain ⟨h1, h2, h3, h4⟩ := h
  obtain ⟨f', rfl⟩ : ∃ f', f = f' + 1 := ⟨f - 1, by omega⟩
  have hv := rd_vbs hr
  have hp := vb_pos n
  rw [List.length_drop] at hv
  refine ⟨f', rfl, ?_, by omega, ?_, by omega⟩
  · rw [h1, numsF_go ha hr, List.append_assoc]; rfl
  · rw [aft_snoc, hv.2.2]
theorem Left.done {b : List UInt8} {pre : List (Nat × Nat)} {a f : Nat} (h : Left b pre a f) (hn : numsF b f a = []) : pre = nums b := by rw [h.all, hn, List.append_nil]
theorem Left.pre {b : List UInt8} {pre : List (Nat × Nat)} {a f : Nat} (h : Left b pre a f) : pre <+: nums b := ⟨_, h.all.symm⟩
/-- there all is read, or what stands there is no number -/
theorem nums_left (b : List UInt8) : ∃ f, Left b (nums b) (aft (nums b)) f ∧ (aft (nums b) = b.length ∨ (aft (nums b) < b.length ∧ (rd (b.drop (aft (nums b))) 0 0).2.2 ≠ 0)) := by
  have key : ∀ (f : Nat) (pre : List (Nat × Nat)) (a : Nat), Left b pre a f → ∃ f', Left b (nums b) (aft (nums b)) f' ∧ (aft (nums b) = b.length ∨ (aft (nums b) < b.length ∧ (rd (b.drop (aft (nums b))) 0 0).2.2 ≠ 0)) := by
    intro f
    induction f with
    | zero =>
      intro pre a h
      have hd := h.done rfl
      have h3 := h.at_
      have := h.fuel; have := h.le
      rw [hd] at h h3
      refine ⟨0, h3 ▸ h, .inl (by omega)⟩
    | succ f ih =>
      intro pre a h
      by_cases ha : a < b.length
      · obtain ⟨⟨n, j, e⟩, hr⟩ : ∃ R, rd (b.drop a) 0 0 = R := ⟨_, rfl⟩
        by_cases he : e = 0
        · subst he
          obtain ⟨f', hf, hl⟩ := h.go ha hr
          obtain rfl : f = f' := by omega
          exact ih _ _ hl
        · have hd := h.done (numsF_no hr he)
          have h3 := h.at_
          rw [hd] at h h3
          refine ⟨f + 1, h3 ▸ h, .inr ?_⟩
          rw [← h3, hr]; exact ⟨ha, he⟩
      · have hd := h.done (numsF_end (by omega))
        have h3 := h.at_
        have := h.le
        rw [hd] at h h3
        exact ⟨f + 1, h3 ▸ h, .inl (by omega)⟩
  exact key _ _ _ (Left.start b)
/-- a list of numbers, the error, its place -/
def lst (b : List UInt8) : List Nat × Int × Nat :=
  if aft (nums b) = b.length then ((nums b).map (·.2), 0, 0) else ([], (rd (b.drop (aft (nums b))) 0 0).2.2, aft (nums b) + (rd (b.drop (aft (nums b))) 0 0).2.1)
theorem nums_small (b : List UInt8) : ∀ x, x ∈ nums b → x.2 < 18446744073709551616 := by
  have key : ∀ (f a : Nat), ∀ x, x ∈ numsF b f a → x.2 < 18446744073709551616 := by
    intro f
    induction f with
    | zero => intro a x hx; cases hx
    | succ f ih =>
      intro a x hx
      unfold numsF at hx
      split at hx
      · rcases List.mem_cons.1 hx with rfl | h
        · exact rd_small _ 0 0 (by omega) (by decide)
        · exact ih _ x h
      · cases hx
  exact key _ _
theorem nums_len (b : List UInt8) : (nums b).length ≤ b.length := by
  have key : ∀ (f a : Nat), (numsF b f a).length ≤ f := by
    intro f
    induction f with
    | zero => intro a; simp [numsF]
    | succ f ih =>
      intro a
      unfold numsF
      split
      · have := ih (a + (rd (b.drop a) 0 0).2.1); simp; omega
      · simp
  exact key _ _
/-- of bytes that numbers were written to: the numbers -/
theorem nums_vbs (l : List Nat) (h : ∀ m, m ∈ l → m < 18446744073709551616) : (nums (l.flatMap vb)).map (·.2) = l ∧ aft (nums (l.flatMap vb)) = (l.flatMap vb).length := by
  have key : ∀ (r : List Nat), (∀ m, m ∈ r → m < 18446744073709551616) → ∀ (pre : List (Nat × Nat)) (b : List UInt8) (a f : Nat), Left b pre a f → b.drop a = r.flatMap vb → (nums b).map (·.2) = pre.map (·.2) ++ r ∧ aft (nums b) = b.length := by
    intro r
    induction r with
    | nil =>
      intro _ pre b a f hl hd
      have hlen : b.length ≤ a := by
        have := congrArg List.length hd
        simp at this; omega
      have hdn := hl.done (numsF_end hlen)
      have h1 := hl.at_; have h2 := hl.le
      rw [hdn] at h1
      refine ⟨by rw [← hdn, List.append_nil], by omega⟩
    | cons x r ih =>
      intro hm pre b a f hl hd
      have hx := hm x (by simp)
      have hrd : rd (b.drop a) 0 0 = (x, (vb x).length, 0) := by
        rw [hd]
        have := rd_vb x 0 0 (r.flatMap vb) (by omega) (by omega) (.inl rfl)
        simpa using this
      have ha : a < b.length := by
        have := congrArg List.length hd
        have hp := vb_pos x
        simp at this; omega
      obtain ⟨f', _, hl'⟩ := hl.go ha hrd
      have hd' : b.drop (a + (vb x).length) = r.flatMap vb := by
        rw [← List.drop_drop, hd, List.flatMap_cons, List.drop_left]
      have := ih (fun m hm' => hm m (by simp [hm'])) _ b _ f' hl' hd'
      refine ⟨by rw [this.1]; simp, this.2⟩
  have := key l h [] (l.flatMap vb) 0 _ (Left.start _) (by simp)
  exact ⟨by rw [this.1]; rfl, this.2⟩
end Go.Proofs.Yteedjgjkldbbcaa
