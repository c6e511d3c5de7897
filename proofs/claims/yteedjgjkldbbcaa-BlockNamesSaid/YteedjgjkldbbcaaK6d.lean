/- Several texts in one: PairReadM, VintNumsM, BlockRM, PairTripsM, BlockTripsM, BlockPlaceM, PairRdDef, BlockRdr. Each has its own sentence and conditions below. -/
import Derived.Test.YteedjgjkldbbcaaK6b
import Derived.Test.YteedjgjkldbbcaaK6c
import Derived.Test.YteedjgjkldbbcaaK6a
import Derived.Defers
import Derived.Recover
import Derived.WalkLawsBesides
import Derived.WalkSpells
/- What is read of bytes behind a text: plain words, no program. No condition. -/
namespace Go.Proofs.Yteedjgjkldbbcaa
set_option linter.unusedVariables false

/-- j numbers more behind l, from a place on: the numbers, where they end, the error -/
def pr3 (b : List UInt8) : Nat → List Nat → Nat → List Nat × Nat × Int
  | 0, l, a => (l, a, 0)
  | j + 1, l, a => if (rd (b.drop a) 0 0).2.2 = 0 then pr3 b j (l ++ [(rd (b.drop a) 0 0).1]) (a + (rd (b.drop a) 0 0).2.1) else ([], a + (rd (b.drop a) 0 0).2.1, (rd (b.drop a) 0 0).2.2)
theorem pr3_go {b : List UInt8} {j : Nat} {l : List Nat} {a v k : Nat} (h : rd (b.drop a) 0 0 = (v, k, 0)) : pr3 b (j + 1) l a = pr3 b j (l ++ [v]) (a + k) := by
  conv => lhs; unfold pr3
  rw [h]; rfl
theorem pr3_no {b : List UInt8} {j : Nat} {l : List Nat} {a v k : Nat} {e : Int} (h : rd (b.drop a) 0 0 = (v, k, e)) (he : e ≠ 0) : pr3 b (j + 1) l a = ([], a + k, e) := by
  conv => lhs; unfold pr3
  rw [h]; rw [if_neg he]
/-- the numbers being known -/
def pend (p b : List UInt8) (a s m l a3 : Nat) : Ent × Nat × Int :=
  if p.length < s then (([], []), a, 52) else if 64 < m ∨ 256 < l ∨ s + m = 0 ∨ 64 < s + m then (([], []), a, 3) else if b.length - a3 < m + l then (([], []), b.length, 53)
  else if com p (p.take s ++ (b.drop a3).take m) ≠ s then (([], []), a, 52) else if 0 < p.length ∧ 0 ≤ cmp p (p.take s ++ (b.drop a3).take m) then (([], []), a, 51)
  else ((p.take s ++ (b.drop a3).take m, (b.drop (a3 + m)).take l), a3 + m + l, 0)
/-- the entry, where it ends, the error -/
def pread (p b : List UInt8) (a : Nat) : Ent × Nat × Int :=
  if (pr3 b 3 [] a).2.2 = 0 then pend p b a ((pr3 b 3 [] a).1.getD 0 0) ((pr3 b 3 [] a).1.getD 1 0) ((pr3 b 3 [] a).1.getD 2 0) (pr3 b 3 [] a).2.1 else (([], []), (pr3 b 3 [] a).2.1, (pr3 b 3 [] a).2.2)
theorem pread_ok {p b : List UInt8} {a s m l a3 : Nat} (h : pr3 b 3 [] a = ([s, m, l], a3, 0)) : pread p b a = pend p b a s m l a3 := by unfold pread; rw [h]; rfl
theorem pread_no {p b : List UInt8} {a q : Nat} {e : Int} {x : List Nat} (h : pr3 b 3 [] a = (x, q, e)) (he : e ≠ 0) : pread p b a = (([], []), q, e) := by unfold pread; rw [h, if_neg he]
theorem pr3_ok {b : List UInt8} {a s j m k n i : Nat} (h0 : rd (b.drop a) 0 0 = (s, j, 0)) (h1 : rd (b.drop (a + j)) 0 0 = (m, k, 0)) (h2 : rd (b.drop (a + j + k)) 0 0 = (n, i, 0)) : pr3 b 3 [] a = ([s, m, n], a + j + k + i, 0) := by
  rw [pr3_go h0, pr3_go h1, pr3_go h2]; rfl
section
variable {p b : List UInt8} {a s m l a3 : Nat}
theorem pend_s (h : p.length < s) : pend p b a s m l a3 = (([], []), a, 52) := by unfold pend; rw [if_pos h]
theorem pend_long (h : ¬ p.length < s) (h2 : 64 < m ∨ 256 < l ∨ s + m = 0 ∨ 64 < s + m) : pend p b a s m l a3 = (([], []), a, 3) := by unfold pend; rw [if_neg h, if_pos h2]
theorem pend_short (h : ¬ p.length < s) (h2 : ¬ (64 < m ∨ 256 < l ∨ s + m = 0 ∨ 64 < s + m)) (h3 : b.length - a3 < m + l) : pend p b a s m l a3 = (([], []), b.length, 53) := by unfold pend; rw [if_neg h, if_neg h2, if_pos h3]
theorem pend_com (h : ¬ p.length < s) (h2 : ¬ (64 < m ∨ 256 < l ∨ s + m = 0 ∨ 64 < s + m)) (h3 : ¬ b.length - a3 < m + l) (h4 : com p (p.take s ++ (b.drop a3).take m) ≠ s) : pend p b a s m l a3 = (([], []), a, 52) := by
  unfold pend; rw [if_neg h, if_neg h2, if_neg h3, if_pos h4]
theorem pend_cmp (h : ¬ p.length < s) (h2 : ¬ (64 < m ∨ 256 < l ∨ s + m = 0 ∨ 64 < s + m)) (h3 : ¬ b.length - a3 < m + l) (h4 : com p (p.take s ++ (b.drop a3).take m) = s) (h5 : 0 < p.length ∧ 0 ≤ cmp p (p.take s ++ (b.drop a3).take m)) : pend p b a s m l a3 = (([], []), a, 51) := by
  unfold pend; rw [if_neg h, if_neg h2, if_neg h3, if_neg (fun e => e h4), if_pos h5]
theorem pend_ok (h : ¬ p.length < s) (h2 : ¬ (64 < m ∨ 256 < l ∨ s + m = 0 ∨ 64 < s + m)) (h3 : ¬ b.length - a3 < m + l) (h4 : com p (p.take s ++ (b.drop a3).take m) = s) (h5 : ¬ (0 < p.length ∧ 0 ≤ cmp p (p.take s ++ (b.drop a3).take m))) :
    pend p b a s m l a3 = ((p.take s ++ (b.drop a3).take m, (b.drop (a3 + m)).take l), a3 + m + l, 0) := by
  unfold pend; rw [if_neg h, if_neg h2, if_neg h3, if_neg (fun e => e h4), if_neg h5]
end
end Go.Proofs.Yteedjgjkldbbcaa
/- The numbers of bytes, one behind the other: plain words, no program. No condition. -/
namespace Go.Proofs.Yteedjgjkldbbcaa
set_option linter.unusedVariables false

/-- what is read is written just so -/
theorem rd_take : ∀ (l : List UInt8) (k v n j : Nat), rd l k v = (n, j, 0) → ∃ m i, n = v + m * 128 ^ k ∧ j = k + i ∧ i ≤ l.length ∧ l.take i = vb m ∧ (0 < k → 0 < m)
  | [], k, v, n, j, h => by simp [rd] at h
  | c :: r, k, v, n, j, h => by
    by_cases h1 : k = 9 ∧ 1 < c.toNat
    · rw [rd_long h1] at h; simp at h
    by_cases h2 : 0 < k ∧ c.toNat = 0
    · rw [rd_form h2] at h; simp at h
    have hc := c.toNat_lt
    by_cases h3 : c.toNat < 128
    · rw [rd_last h1 h2 h3] at h
      simp only [Prod.mk.injEq] at h
      obtain ⟨rfl, rfl, _⟩ := h
      refine ⟨c.toNat, 1, by rw [Nat.mod_eq_of_lt h3], rfl, by simp, ?_, by omega⟩
      rw [vb_lt h3]
      show [c] = [UInt8.ofNat c.toNat]
      rw [UInt8.ofNat_toNat]
    · rw [rd_go h1 h2 h3] at h
      obtain ⟨m, i, e1, e2, e3, e4, e5⟩ := rd_take r (k + 1) _ n j h
      have hm := e5 (by omega)
      have hd : (c.toNat % 128 + 128 * m) / 128 = m := by omega
      have hmod : (c.toNat % 128 + 128 * m) % 128 = c.toNat % 128 := by omega
      refine ⟨c.toNat % 128 + 128 * m, i + 1, ?_, by omega, by simp; omega, ?_, by omega⟩
      · rw [e1, Nat.pow_succ, Nat.add_mul, Nat.mul_comm 128 m, Nat.mul_assoc, Nat.mul_comm 128 (128 ^ k)]; omega
      · rw [vb_ge (by omega), hd, List.take_succ_cons, e4]
        congr 1
        unfold hi8
        rw [hmod, show c.toNat % 128 + 128 = c.toNat by omega, UInt8.ofNat_toNat]
theorem rd_vbs {l : List UInt8} {n j : Nat} (h : rd l 0 0 = (n, j, 0)) : j ≤ l.length ∧ l.take j = vb n ∧ j = (vb n).length := by
  obtain ⟨m, i, e1, e2, e3, e4, _⟩ := rd_take l 0 0 n j h
  obtain rfl : n = m := by rw [e1]; simp
  obtain rfl : j = i := by omega
  refine ⟨e3, e4, ?_⟩
  rw [← e4, List.length_take]; omega

/-- the places and the numbers from a place on, f at most -/
def numsF (b : List UInt8) : Nat → Nat → List (Nat × Nat)
  | 0, _ => []
  | f + 1, a => if a < b.length ∧ (rd (b.drop a) 0 0).2.2 = 0 then (a, (rd (b.drop a) 0 0).1) :: numsF b f (a + (rd (b.drop a) 0 0).2.1) else []
def nums (b : List UInt8) : List (Nat × Nat) := numsF b b.length 0
theorem numsF_go {b : List UInt8} {f a n j : Nat} (ha : a < b.length) (h : rd (b.drop a) 0 0 = (n, j, 0)) : numsF b (f + 1) a = (a, n) :: numsF b f (a + j) := by
  conv => lhs; unfold numsF
  rw [h, if_pos ⟨ha, rfl⟩]
theorem numsF_end {b : List UInt8} {f a : Nat} (ha : b.length ≤ a) : numsF b f a = [] := by
  cases f with
  | zero => rfl
  | succ f => unfold numsF; rw [if_neg (by omega)]
theorem numsF_no {b : List UInt8} {f a n j : Nat} {e : Int} (h : rd (b.drop a) 0 0 = (n, j, e)) (he : e ≠ 0) : numsF b f a = [] := by
  cases f with
  | zero => rfl
  | succ f => unfold numsF; rw [h, if_neg (fun x => he x.2)]
/-- where the bytes of such a list end -/
def aft (l : List (Nat × Nat)) : Nat := match l.getLast? with
  | none => 0
  | some x => x.1 + (vb x.2).length
theorem aft_nil : aft [] = 0 := rfl
theorem aft_snoc (l : List (Nat × Nat)) (x : Nat × Nat) : aft (l ++ [x]) = x.1 + (vb x.2).length := by unfold aft; simp
/-- what is left stands where what has come ends -/
structure Left (b : List UInt8) (pre : List (Nat × Nat)) (a f : Nat) : Prop where
  all : nums b = pre ++ numsF b f a
  fuel : b.length ≤ f + a
  at_ : a = aft pre
  le : a ≤ b.length
theorem Left.start (b : List UInt8) : Left b [] 0 b.length := ⟨rfl, by omega, rfl, Nat.zero_le _⟩
theorem Left.go {b : List UInt8} {pre : List (Nat × Nat)} {a f n j : Nat} (h : Left b pre a f) (ha : a < b.length) (hr : rd (b.drop a) 0 0 = (n, j, 0)) : ∃ f', f = f' + 1 ∧ Left b (pre ++ [(a, n)]) (a + j) f' := by
  obtain ⟨h1, h2, h3, h4⟩ := h
  obtain ⟨f', rfl⟩ : ∃ f', f = f' + 1 := ⟨f - 1, by omega⟩
  have hv := rd_vbs hr
  have hp := vb_pos n
  rw [List.length_drop] at hv
  refine ⟨f', rfl, ?_, by omega, ?_, by omega⟩
  · rw [h1, numsF_go ha hr, List.append_assoc]; rfl
  · rw [aft_snoc, hv.2.2]
theorem Left.done {b : List UInt8} {pre : List (Nat × Nat)} {a f : Nat} (h : Left b pre a f) (hn : numsF b f a = []) : pre = nums b := by rw [h.all, hn, List.append_nil]
theorem Left.pre {b : List UInt8} {pre : List (Nat × Nat)} {a f : Nat} (h : Left b pre a f) : pre <+: nums b := ⟨_, h.all.symm⟩
/-- there all is read, or what stands there is no number -/
theorem nums_left (b : List UInt8) : ∃ f, Left b (nums b) (aft (nums b)) f ∧ (aft (nums b) = b.length ∨ (aft (nums b) < b.length ∧ (rd (b.drop (aft (nums b))) 0 0).2.2 ≠ 0)) := by
  have key : ∀ (f : Nat) (pre : List (Nat × Nat)) (a : Nat), Left b pre a f → ∃ f', Left b (nums b) (aft (nums b)) f' ∧ (aft (nums b) = b.length ∨ (aft (nums b) < b.length ∧ (rd (b.drop (aft (nums b))) 0 0).2.2 ≠ 0)) := by
    intro f
    induction f with
    | zero =>
      intro pre a h
      have hd := h.done rfl
      have h3 := h.at_
      have := h.fuel; have := h.le
      rw [hd] at h h3
      refine ⟨0, h3 ▸ h, .inl (by omega)⟩
    | succ f ih =>
      intro pre a h
      by_cases ha : a < b.length
      · obtain ⟨⟨n, j, e⟩, hr⟩ : ∃ R, rd (b.drop a) 0 0 = R := ⟨_, rfl⟩
        by_cases he : e = 0
        · subst he
          obtain ⟨f', hf, hl⟩ := h.go ha hr
          obtain rfl : f = f' := by omega
          exact ih _ _ hl
        · have hd := h.done (numsF_no hr he)
          have h3 := h.at_
          rw [hd] at h h3
          refine ⟨f + 1, h3 ▸ h, .inr ?_⟩
          rw [← h3, hr]; exact ⟨ha, he⟩
      · have hd := h.done (numsF_end (by omega))
        have h3 := h.at_
        have := h.le
        rw [hd] at h h3
        exact ⟨f + 1, h3 ▸ h, .inl (by omega)⟩
  exact key _ _ _ (Left.start b)
/-- a list of numbers, the error, its place -/
def lst (b : List UInt8) : List Nat × Int × Nat :=
  if aft (nums b) = b.length then ((nums b).map (·.2), 0, 0) else ([], (rd (b.drop (aft (nums b))) 0 0).2.2, aft (nums b) + (rd (b.drop (aft (nums b))) 0 0).2.1)
theorem nums_small (b : List UInt8) : ∀ x, x ∈ nums b → x.2 < 18446744073709551616 := by
  have key : ∀ (f a : Nat), ∀ x, x ∈ numsF b f a → x.2 < 18446744073709551616 := by
    intro f
    induction f with
    | zero => intro a x hx; cases hx
    | succ f ih =>
      intro a x hx
      unfold numsF at hx
      split at hx
      · rcases List.mem_cons.1 hx with rfl | h
        · exact rd_small _ 0 0 (by omega) (by decide)
        · exact ih _ x h
      · cases hx
  exact key _ _
theorem nums_len (b : List UInt8) : (nums b).length ≤ b.length := by
  have key : ∀ (f a : Nat), (numsF b f a).length ≤ f := by
    intro f
    induction f with
    | zero => intro a; simp [numsF]
    | succ f ih =>
      intro a
      unfold numsF
      split
      · have := ih (a + (rd (b.drop a) 0 0).2.1); simp; omega
      · simp
  exact key _ _
/-- of bytes that numbers were written to: the numbers -/
theorem nums_vbs (l : List Nat) (h : ∀ m, m ∈ l → m < 18446744073709551616) : (nums (l.flatMap vb)).map (·.2) = l ∧ aft (nums (l.flatMap vb)) = (l.flatMap vb).length := by
  have key : ∀ (r : List Nat), (∀ m, m ∈ r → m < 18446744073709551616) → ∀ (pre : List (Nat × Nat)) (b : List UInt8) (a f : Nat), Left b pre a f → b.drop a = r.flatMap vb → (nums b).map (·.2) = pre.map (·.2) ++ r ∧ aft (nums b) = b.length := by
    intro r
    induction r with
    | nil =>
      intro _ pre b a f hl hd
      have hlen : b.length ≤ a := by
        have := congrArg List.length hd
        simp at this; omega
      have hdn := hl.done (numsF_end hlen)
      have h1 := hl.at_; have h2 := hl.le
      rw [hdn] at h1
      refine ⟨by rw [← hdn, List.append_nil], by omega⟩
    | cons x r ih =>
      intro hm pre b a f hl hd
      have hx := hm x (by simp)
      have hrd : rd (b.drop a) 0 0 = (x, (vb x).length, 0) := by
        rw [hd]
        have := rd_vb x 0 0 (r.flatMap vb) (by omega) (by omega) (.inl rfl)
        simpa using this
      have ha : a < b.length := by
        have := congrArg List.length hd
        have hp := vb_pos x
        simp at this; omega
      obtain ⟨f', _, hl'⟩ := hl.go ha hrd
      have hd' : b.drop (a + (vb x).length) = r.flatMap vb := by
        rw [← List.drop_drop, hd, List.flatMap_cons, List.drop_left]
      have := ih (fun m hm' => hm m (by simp [hm'])) _ b _ f' hl' hd'
      refine ⟨by rw [this.1]; simp, this.2⟩
  have := key l h [] (l.flatMap vb) 0 _ (Left.start _) (by simp)
  exact ⟨by rw [this.1]; rfl, this.2⟩
end Go.Proofs.Yteedjgjkldbbcaa
/- What is read of a block: plain words. No condition. -/
namespace Go.Proofs.Yteedjgjkldbbcaa
set_option linter.unusedVariables false

/-- j entries more behind l, from a place on: the entries, their places, where they end, the error, its place -/
def bents (b : List UInt8) : Nat → List Ent → List Nat → Nat → List Ent × List Nat × Nat × Int × Nat
  | 0, l, ps, p => (l, ps, p, 0, 0)
  | j + 1, l, ps, p =>
    if (pread (bP l.length (bst l).last) b p).2.2 ≠ 0 then (l, ps, p, (pread (bP l.length (bst l).last) b p).2.2, (pread (bP l.length (bst l).last) b p).2.1)
    else if 0 < l.length ∧ 0 ≤ cmp (bst l).last (pread (bP l.length (bst l).last) b p).1.1 then (l, ps, p, 51, p)
    else bents b j (l ++ [(pread (bP l.length (bst l).last) b p).1]) (ps ++ [p]) (pread (bP l.length (bst l).last) b p).2.1
def bentries (b : List UInt8) : List Ent × List Nat × Nat × Int × Nat :=
  if (rd b 0 0).2.2 ≠ 0 then ([], [], 0, (rd b 0 0).2.2, (rd b 0 0).2.1) else if (rd b 0 0).1 < 1 ∨ 64 < (rd b 0 0).1 then ([], [], 0, 61, 0)
  else bents b (rd b 0 0).1 [] [] (rd b 0 0).2.1
section
variable {b : List UInt8} {l : List Ent} {ps : List Nat} {j p q : Nat} {x : Ent} {e : Int}
theorem bents_no (h : pread (bP l.length (bst l).last) b p = (x, q, e)) (he : e ≠ 0) : bents b (j + 1) l ps p = (l, ps, p, e, q) := by
  conv => lhs; unfold bents
  rw [h]; exact if_pos he
theorem bents_low (h : pread (bP l.length (bst l).last) b p = (x, q, 0)) (h2 : 0 < l.length ∧ 0 ≤ cmp (bst l).last x.1) : bents b (j + 1) l ps p = (l, ps, p, 51, p) := by
  conv => lhs; unfold bents
  rw [h]; exact (if_neg (fun e => e rfl)).trans (if_pos h2)
theorem bents_go (h : pread (bP l.length (bst l).last) b p = (x, q, 0)) (h2 : ¬ (0 < l.length ∧ 0 ≤ cmp (bst l).last x.1)) : bents b (j + 1) l ps p = bents b j (l ++ [x]) (ps ++ [p]) q := by
  conv => lhs; unfold bents
  rw [h]; exact (if_neg (fun e => e rfl)).trans (if_neg h2)
theorem bentries_no {n : Nat} (h : rd b 0 0 = (n, q, e)) (he : e ≠ 0) : bentries b = ([], [], 0, e, q) := by unfold bentries; rw [h]; exact if_pos he
theorem bentries_bad {n : Nat} (h : rd b 0 0 = (n, q, 0)) (h2 : n < 1 ∨ 64 < n) : bentries b = ([], [], 0, 61, 0) := by unfold bentries; rw [h]; exact (if_neg (fun e => e rfl)).trans (if_pos h2)
theorem bentries_go {n : Nat} (h : rd b 0 0 = (n, q, 0)) (h2 : ¬ (n < 1 ∨ 64 < n)) : bentries b = bents b n [] [] q := by unfold bentries; rw [h]; exact (if_neg (fun e => e rfl)).trans (if_neg h2)
end
/-- the places of the restarts; what the table is -/
def bruns : Nat → List Nat → List Nat
  | _, [] => []
  | i, a :: r => if i % 8 = 0 then a :: bruns (i + 1) r else bruns (i + 1) r
def bmark2 (a : Nat) : List UInt8 := [UInt8.ofNat a, UInt8.ofNat (a / 256)]
def bwant (l : List Nat) : List UInt8 := l.flatMap bmark2
theorem bruns_snoc : ∀ (l : List Nat) (i a : Nat), bruns i (l ++ [a]) = bruns i l ++ (if (i + l.length) % 8 = 0 then [a] else [])
  | [], i, a => by
    show (if i % 8 = 0 then a :: bruns (i + 1) [] else bruns (i + 1) []) = _
    show (if i % 8 = 0 then [a] else []) = [] ++ _
    simp
  | x :: r, i, a => by
    have := bruns_snoc r (i + 1) a
    have e : i + (x :: r).length = i + 1 + r.length := by rw [List.length_cons]; omega
    rw [e]
    show (if i % 8 = 0 then x :: bruns (i + 1) (r ++ [a]) else bruns (i + 1) (r ++ [a])) = (if i % 8 = 0 then x :: bruns (i + 1) r else bruns (i + 1) r) ++ _
    split <;> simp [this]
/-- the table, and that nothing stands behind: the place, the error -/
def btable (b : List UInt8) : List UInt8 → Nat → Nat × Int
  | [], p => if p < b.length then (p, 63) else (0, 0)
  | c :: r, p => if b[p]? = some c then btable b r (p + 1) else (p, 62)
theorem btable_end {b : List UInt8} {p : Nat} (h : p < b.length) : btable b [] p = (p, 63) := if_pos h
theorem btable_ok {b : List UInt8} {p : Nat} (h : ¬ p < b.length) : btable b [] p = (0, 0) := if_neg h
theorem btable_go {b r : List UInt8} {c : UInt8} {p : Nat} (h : b[p]? = some c) : btable b (c :: r) p = btable b r (p + 1) := by
  conv => lhs; unfold btable
  exact if_pos h
theorem btable_no {b r : List UInt8} {c : UInt8} {p : Nat} (h : b[p]? ≠ some c) : btable b (c :: r) p = (p, 62) := by
  conv => lhs; unfold btable
  exact if_neg h
/-- a block: the entries, the error's place, the error -/
def bread (b : List UInt8) : List Ent × Nat × Int :=
  if (bentries b).2.2.2.1 ≠ 0 then ([], (bentries b).2.2.2.2, (bentries b).2.2.2.1)
  else if (btable b (bwant (bruns 0 (bentries b).2.1)) (bentries b).2.2.1).2 ≠ 0 then ([], (btable b (bwant (bruns 0 (bentries b).2.1)) (bentries b).2.2.1).1, (btable b (bwant (bruns 0 (bentries b).2.1)) (bentries b).2.2.1).2)
  else ((bentries b).1, 0, 0)
section
variable {b : List UInt8} {l : List Ent} {ps : List Nat} {p q : Nat} {e : Int}
theorem bread_no (h : bentries b = (l, ps, p, e, q)) (he : e ≠ 0) : bread b = ([], q, e) := by unfold bread; rw [h]; exact if_pos he
theorem bread_tab {p' q' : Nat} (h : bentries b = (l, ps, p, 0, q)) (h2 : btable b (bwant (bruns 0 ps)) p = (q', e)) (he : e ≠ 0) : bread b = ([], q', e) := by
  unfold bread; rw [h]; dsimp only; rw [h2]; exact (if_neg (fun e => e rfl)).trans (if_pos he)
theorem bread_ok {q' : Nat} (h : bentries b = (l, ps, p, 0, q)) (h2 : btable b (bwant (bruns 0 ps)) p = (q', 0)) : bread b = (l, 0, 0) := by
  unfold bread; rw [h]; dsimp only; rw [h2]; exact (if_neg (fun e => e rfl)).trans (if_neg (fun e => e rfl))
end
/-- of what was read: entries that may be, each behind its forerunners; places within the bytes -/
theorem pread_in {p b : List UInt8} {a : Nat} {x : Ent} {q : Nat} (h : pread p b a = (x, q, 0)) (ha : a ≤ b.length) : chk x = 0 ∧ a < q ∧ q ≤ b.length ∧ (p.length = 0 ∨ cmp p x.1 < 0) := by
  obtain ⟨⟨ns, a3, e⟩, hr⟩ : ∃ R, pr3 b 3 [] a = R := ⟨_, rfl⟩
  by_cases he : e = 0
  · subst he
    obtain ⟨⟨s, i, e1⟩, h0⟩ : ∃ R, rd (b.drop a) 0 0 = R := ⟨_, rfl⟩
    by_cases f1 : e1 = 0
    · subst f1
      obtain ⟨⟨m, j, e2⟩, h1⟩ : ∃ R, rd (b.drop (a + i)) 0 0 = R := ⟨_, rfl⟩
      by_cases f2 : e2 = 0
      · subst f2
        obtain ⟨⟨l, t, e3⟩, h2⟩ : ∃ R, rd (b.drop (a + i + j)) 0 0 = R := ⟨_, rfl⟩
        by_cases f3 : e3 = 0
        · subst f3
          have h3 := pr3_ok h0 h1 h2
          rw [pread_ok h3] at h
          obtain ⟨l0, t0, n0⟩ := rd_vbs h0
          obtain ⟨l1, t1, n1⟩ := rd_vbs h1
          obtain ⟨l2, t2, n2⟩ := rd_vbs h2
          simp only [List.length_drop] at l0 l1 l2
          have p0 := vb_pos s
          obtain ⟨z, hz⟩ : ∃ z, a + i + j + t = z := ⟨_, rfl⟩
          rw [hz] at h
          by_cases c1 : p.length < s
          · rw [pend_s c1] at h; simp at h
          by_cases c2 : 64 < m ∨ 256 < l ∨ s + m = 0 ∨ 64 < s + m
          · rw [pend_long c1 c2] at h; simp at h
          by_cases c3 : b.length - z < m + l
          · rw [pend_short c1 c2 c3] at h; simp at h
          by_cases c4 : com p (p.take s ++ (b.drop z).take m) = s
          · by_cases c5 : 0 < p.length ∧ 0 ≤ cmp p (p.take s ++ (b.drop z).take m)
            · rw [pend_cmp c1 c2 c3 c4 c5] at h; simp at h
            · rw [pend_ok c1 c2 c3 c4 c5] at h
              simp only [Prod.mk.injEq] at h
              obtain ⟨rfl, rfl, _⟩ := h
              refine ⟨?_, by omega, by omega, ?_⟩
              · unfold chk chkN keyN valN
                simp only [List.length_append, List.length_take, List.length_drop]
                rw [if_neg (by omega), if_neg (by omega)]; rfl
              · dsimp only
                by_cases hp : p.length = 0
                · exact .inl hp
                · right
                  have : ¬ (0 ≤ cmp p (p.take s ++ (b.drop z).take m)) := fun h => c5 ⟨by omega, h⟩
                  omega
          · rw [pend_com c1 c2 c3 c4] at h; simp at h
        · have h3 : pr3 b 3 [] a = ([], a + i + j + t, e3) := by rw [pr3_go h0, pr3_go h1, pr3_no h2 f3]
          rw [h3] at hr; simp only [Prod.mk.injEq] at hr; exact absurd hr.2.2 f3
      · have h3 : pr3 b 3 [] a = ([], a + i + j, e2) := by rw [pr3_go h0, pr3_no h1 f2]
        rw [h3] at hr; simp only [Prod.mk.injEq] at hr; exact absurd hr.2.2 f2
    · have h3 : pr3 b 3 [] a = ([], a + i, e1) := by rw [pr3_no h0 f1]
      rw [h3] at hr; simp only [Prod.mk.injEq] at hr; exact absurd hr.2.2 f1
  · rw [pread_no hr he] at h
    simp only [Prod.mk.injEq] at h; exact absurd h.2.2 he
end Go.Proofs.Yteedjgjkldbbcaa
/- Entries there and back: what is written is read, what is read is written just so: plain words, no program. No condition. -/
namespace Go.Proofs.Yteedjgjkldbbcaa
set_option linter.unusedVariables false

theorem rd_vb1 (m : Nat) (rest : List UInt8) (hm : m < 18446744073709551616) : rd (vb m ++ rest) 0 0 = (m, (vb m).length, 0) := by
  have := rd_vb m 0 0 rest (by omega) (by omega) (.inl rfl)
  rw [this, Nat.pow_zero, Nat.mul_one, Nat.zero_add, Nat.zero_add]
/-- three numbers that were written are read -/
theorem pr3_vbs (A R : List UInt8) (s m l : Nat) (hs : s < 18446744073709551616) (hm : m < 18446744073709551616) (hl : l < 18446744073709551616) :
    pr3 (A ++ (vb s ++ (vb m ++ (vb l ++ R)))) 3 [] A.length = ([s, m, l], A.length + (vb s).length + (vb m).length + (vb l).length, 0) := by
  have h0 : rd ((A ++ (vb s ++ (vb m ++ (vb l ++ R)))).drop A.length) 0 0 = (s, (vb s).length, 0) := by rw [List.drop_left]; exact rd_vb1 s _ hs
  have h1 : rd ((A ++ (vb s ++ (vb m ++ (vb l ++ R)))).drop (A.length + (vb s).length)) 0 0 = (m, (vb m).length, 0) := by
    rw [← List.drop_drop, List.drop_left, List.drop_left]; exact rd_vb1 m _ hm
  have h2 : rd ((A ++ (vb s ++ (vb m ++ (vb l ++ R)))).drop (A.length + (vb s).length + (vb m).length)) 0 0 = (l, (vb l).length, 0) := by
    rw [← List.drop_drop, ← List.drop_drop, List.drop_left, List.drop_left, List.drop_left]; exact rd_vb1 l _ hl
  exact pr3_ok h0 h1 h2
theorem drop3 (A R : List UInt8) (s m l : Nat) : (A ++ (vb s ++ (vb m ++ (vb l ++ R)))).drop (A.length + (vb s).length + (vb m).length + (vb l).length) = R := by
  rw [← List.drop_drop, ← List.drop_drop, ← List.drop_drop, List.drop_left, List.drop_left, List.drop_left, List.drop_left]
theorem take_com (p k : List UInt8) : p.take (com p k) ++ k.drop (com p k) = k := by rw [com_take p k, List.take_append_drop]
/-- of what is written for an entry, ahead and behind of it whatever stands -/
theorem written (p k v A R : List UInt8) (hp : p.length < 18446744073709551616) (hk : k.length < 18446744073709551616) (hv : v.length < 18446744073709551616) :
    pread p (A ++ (ebytes p (k, v) ++ R)) A.length = if chk (k, v) = 0 ∧ (p.length = 0 ∨ cmp p k < 0) then ((k, v), A.length + (ebytes p (k, v)).length, 0) else pread p (A ++ (ebytes p (k, v) ++ R)) A.length := by
  split
  · rename_i h
    obtain ⟨hc, hr⟩ := h
    have hle := com_le p k
    have e0 : ebytes p (k, v) ++ R = vb (com p k) ++ (vb (k.length - com p k) ++ (vb v.length ++ (k.drop (com p k) ++ (v ++ R)))) := by unfold ebytes; simp
    have e1 : (ebytes p (k, v)).length = (vb (com p k)).length + (vb (k.length - com p k)).length + (vb v.length).length + (k.length - com p k) + v.length := by unfold ebytes; simp; omega
    have h3 := pr3_vbs A (k.drop (com p k) ++ (v ++ R)) (com p k) (k.length - com p k) v.length (by omega) (by omega) (by omega)
    have hd := drop3 A (k.drop (com p k) ++ (v ++ R)) (com p k) (k.length - com p k) v.length
    rw [e0, pread_ok h3]
    have hcN : k.length ≠ 0 ∧ k.length ≤ 64 ∧ v.length ≤ 256 := by
      unfold chk chkN keyN valN at hc
      simp only at hc
      split at hc <;> split at hc <;> simp at hc <;> omega
    have hkd : (k.drop (com p k) ++ (v ++ R)).take (k.length - com p k) = k.drop (com p k) := List.take_left' (by simp)
    have hkey : p.take (com p k) ++ ((A ++ (vb (com p k) ++ (vb (k.length - com p k) ++ (vb v.length ++ (k.drop (com p k) ++ (v ++ R)))))).drop (A.length + (vb (com p k)).length + (vb (k.length - com p k)).length + (vb v.length).length)).take (k.length - com p k) = k := by
      rw [hd, hkd, take_com]
    have hval : ((A ++ (vb (com p k) ++ (vb (k.length - com p k) ++ (vb v.length ++ (k.drop (com p k) ++ (v ++ R)))))).drop (A.length + (vb (com p k)).length + (vb (k.length - com p k)).length + (vb v.length).length + (k.length - com p k))).take v.length = v := by
      rw [← List.drop_drop, hd, List.drop_left' (by simp)]; exact List.take_left' rfl
    have hlen : (A ++ (vb (com p k) ++ (vb (k.length - com p k) ++ (vb v.length ++ (k.drop (com p k) ++ (v ++ R)))))).length - (A.length + (vb (com p k)).length + (vb (k.length - com p k)).length + (vb v.length).length) = (k.length - com p k) + v.length + R.length := by
      simp; omega
    rw [pend_ok (by omega) (by omega) (by rw [hlen]; omega) (by rw [hkey]) (by rw [hkey]; intro h; omega), hkey, hval, e1]
    congr 2
    omega
  · rfl
theorem written_yes {p k v : List UInt8} (A R : List UInt8) (hp : p.length < 18446744073709551616) (hk : k.length < 18446744073709551616) (hv : v.length < 18446744073709551616) (h : chk (k, v) = 0 ∧ (p.length = 0 ∨ cmp p k < 0)) :
    pread p (A ++ (ebytes p (k, v) ++ R)) A.length = ((k, v), A.length + (ebytes p (k, v)).length, 0) := by rw [written p k v A R hp hk hv, if_pos h]
/-- what may not be is not read -/
theorem written_no {p k v : List UInt8} (A R : List UInt8) (hp : p.length < 18446744073709551616) (hk : k.length < 18446744073709551616) (hv : v.length < 18446744073709551616) (h : ¬ (chk (k, v) = 0 ∧ (p.length = 0 ∨ cmp p k < 0))) :
    (pread p (A ++ (ebytes p (k, v) ++ R)) A.length).2.2 ≠ 0 := by
  have hle := com_le p k
  have e0 : ebytes p (k, v) ++ R = vb (com p k) ++ (vb (k.length - com p k) ++ (vb v.length ++ (k.drop (com p k) ++ (v ++ R)))) := by unfold ebytes; simp
  have h3 := pr3_vbs A (k.drop (com p k) ++ (v ++ R)) (com p k) (k.length - com p k) v.length (by omega) (by omega) (by omega)
  have hd := drop3 A (k.drop (com p k) ++ (v ++ R)) (com p k) (k.length - com p k) v.length
  rw [e0, pread_ok h3]
  by_cases hc : 64 < k.length - com p k ∨ 256 < v.length ∨ com p k + (k.length - com p k) = 0 ∨ 64 < com p k + (k.length - com p k)
  · rw [pend_long (by omega) hc]; show (3 : Int) ≠ 0; decide
  · have hkd : (k.drop (com p k) ++ (v ++ R)).take (k.length - com p k) = k.drop (com p k) := List.take_left' (by simp)
    have hkey : p.take (com p k) ++ ((A ++ (vb (com p k) ++ (vb (k.length - com p k) ++ (vb v.length ++ (k.drop (com p k) ++ (v ++ R)))))).drop (A.length + (vb (com p k)).length + (vb (k.length - com p k)).length + (vb v.length).length)).take (k.length - com p k) = k := by
      rw [hd, hkd, take_com]
    have hlen : (A ++ (vb (com p k) ++ (vb (k.length - com p k) ++ (vb v.length ++ (k.drop (com p k) ++ (v ++ R)))))).length - (A.length + (vb (com p k)).length + (vb (k.length - com p k)).length + (vb v.length).length) = (k.length - com p k) + v.length + R.length := by
      simp; omega
    have hz : chk (k, v) = 0 := by
      unfold chk chkN keyN valN
      rw [if_neg (by show ¬ (k.length = 0 ∨ 64 < k.length); omega), if_neg (by show ¬ 256 < v.length; omega)]; rfl
    rw [pend_cmp (by omega) hc (by rw [hlen]; omega) (by rw [hkey]) (by rw [hkey]; refine ⟨?_, ?_⟩ <;> (have := fun x y => h ⟨x, y⟩; have := this hz; omega))]
    show (51 : Int) ≠ 0; decide
/-- what is read is written just so -/
theorem read_back {p b k v : List UInt8} {q : Nat} (hb : b.length < 18446744073709551616) (h : pread p b 0 = ((k, v), q, 0)) : chk (k, v) = 0 ∧ q ≤ b.length ∧ ebytes p (k, v) = b.take q := by
  obtain ⟨⟨x, a3, e⟩, hr⟩ : ∃ R, pr3 b 3 [] 0 = R := ⟨_, rfl⟩
  by_cases he : e = 0
  · subst he
    obtain ⟨⟨s, i, e1⟩, h0⟩ : ∃ R, rd (b.drop 0) 0 0 = R := ⟨_, rfl⟩
    by_cases f1 : e1 = 0
    · subst f1
      obtain ⟨⟨m, j, e2⟩, h1⟩ : ∃ R, rd (b.drop (0 + i)) 0 0 = R := ⟨_, rfl⟩
      by_cases f2 : e2 = 0
      · subst f2
        obtain ⟨⟨l, t, e3⟩, h2⟩ : ∃ R, rd (b.drop (0 + i + j)) 0 0 = R := ⟨_, rfl⟩
        by_cases f3 : e3 = 0
        · subst f3
          have h3 := pr3_ok h0 h1 h2
          rw [pread_ok h3] at h
          obtain ⟨l0, t0, n0⟩ := rd_vbs h0
          obtain ⟨l1, t1, n1⟩ := rd_vbs h1
          obtain ⟨l2, t2, n2⟩ := rd_vbs h2
          have s0 := (rd_in h0).2
          simp only [List.length_drop] at l0 l1 l2
          obtain ⟨z, hz⟩ : ∃ z, 0 + i + j + t = z := ⟨_, rfl⟩
          rw [hz] at h
          have hbz : b.take z = vb s ++ (vb m ++ vb l) := by
            have e1 : z = i + (j + t) := by omega
            rw [e1, List.take_add, List.take_add, ← t0, ← t1, ← t2]
            simp
          by_cases c1 : p.length < s
          · rw [pend_s c1] at h; simp at h
          by_cases c2 : 64 < m ∨ 256 < l ∨ s + m = 0 ∨ 64 < s + m
          · rw [pend_long c1 c2] at h; simp at h
          by_cases c3 : b.length - z < m + l
          · rw [pend_short c1 c2 c3] at h; simp at h
          by_cases c4 : com p (p.take s ++ (b.drop z).take m) = s
          · by_cases c5 : 0 < p.length ∧ 0 ≤ cmp p (p.take s ++ (b.drop z).take m)
            · rw [pend_cmp c1 c2 c3 c4 c5] at h; simp at h
            · rw [pend_ok c1 c2 c3 c4 c5] at h
              simp only [Prod.mk.injEq] at h
              obtain ⟨⟨rfl, rfl⟩, rfl, _⟩ := h
              have lk : (p.take s ++ (b.drop z).take m).length = s + m := by simp; omega
              have lv : ((b.drop (z + m)).take l).length = l := by simp; omega
              refine ⟨?_, by omega, ?_⟩
              · unfold chk chkN keyN valN
                rw [lk, lv, if_neg (by omega), if_neg (by omega)]; rfl
              · unfold ebytes
                simp only
                rw [c4, lk, lv, Nat.add_sub_cancel_left, List.drop_left' (by simp; omega), Nat.add_assoc z m l, List.take_add, List.take_add, hbz, List.drop_drop]
                simp
          · rw [pend_com c1 c2 c3 c4] at h; simp at h
        · rw [pr3_go h0, pr3_go h1, pr3_no h2 f3] at hr
          simp only [Prod.mk.injEq] at hr
          exact absurd hr.2.2 f3
      · rw [pr3_go h0, pr3_no h1 f2] at hr
        simp only [Prod.mk.injEq] at hr
        exact absurd hr.2.2 f2
    · rw [pr3_no h0 f1] at hr
      simp only [Prod.mk.injEq] at hr
      exact absurd hr.2.2 f1
  · rw [pread_no hr he] at h
    simp only [Prod.mk.injEq] at h
    exact absurd h.2.2 he
end Go.Proofs.Yteedjgjkldbbcaa
/- Blocks there and back: what is built is read, what is read is built just so: plain words. No condition. -/
namespace Go.Proofs.Yteedjgjkldbbcaa
set_option linter.unusedVariables false

/-- the bytes and the places of entries behind a state -/
def bbody : BS → List Ent → List UInt8
  | _, [] => []
  | s, e :: r => ebytes (bP s.n s.last) e ++ bbody (bAdd s e) r
def bplaces : BS → Nat → List Ent → List Nat
  | _, _, [] => []
  | s, p, e :: r => p :: bplaces (bAdd s e) (p + (ebytes (bP s.n s.last) e).length) r
theorem fold_body : ∀ (r : List Ent) (s : BS), (r.foldl bAdd s).body = s.body ++ bbody s r
  | [], s => by simp [bbody]
  | e :: r, s => by
    rw [List.foldl_cons, fold_body r (bAdd s e)]
    show (s.body ++ ebytes (bP s.n s.last) e) ++ bbody (bAdd s e) r = s.body ++ (ebytes (bP s.n s.last) e ++ bbody (bAdd s e) r)
    rw [List.append_assoc]
theorem bmark_two (n a : Nat) (ps : List Nat) : bwant (bruns n (a :: ps)) = bMark n a ++ bwant (bruns (n + 1) ps) := by
  show bwant (if n % 8 = 0 then a :: bruns (n + 1) ps else bruns (n + 1) ps) = _
  unfold bMark
  split
  · unfold bwant; rw [List.flatMap_cons]; rfl
  · rfl
theorem fold_tab : ∀ (r : List Ent) (s : BS) (p : Nat), p = s.body.length + 1 → (r.foldl bAdd s).tab = s.tab ++ bwant (bruns s.n (bplaces s p r))
  | [], s, p, _ => by simp [bplaces, bruns, bwant]
  | e :: r, s, p, hp => by
    rw [List.foldl_cons, fold_tab r (bAdd s e) (p + (ebytes (bP s.n s.last) e).length) (by show _ = (s.body ++ ebytes (bP s.n s.last) e).length + 1; rw [List.length_append]; omega)]
    show (s.tab ++ bMark s.n (s.body.length + 1)) ++ _ = s.tab ++ bwant (bruns s.n (p :: bplaces (bAdd s e) (p + (ebytes (bP s.n s.last) e).length) r))
    rw [bmark_two, List.append_assoc, hp]; rfl
/-- entries that were written are read -/
theorem bents_of : ∀ (r pre : List Ent) (b A rest : List UInt8) (ps : List Nat), b = A ++ (bbody (bst pre) r ++ rest) → (srtFrom pre.length (bst pre).last r).2 = 0 → Okay pre →
    bents b r.length pre ps A.length = (pre ++ r, ps ++ bplaces (bst pre) A.length r, A.length + (bbody (bst pre) r).length, 0, 0)
  | [], pre, b, A, rest, ps, hb, hs, _ => by simp [bents, bplaces, bbody]
  | (k, v) :: r, pre, b, A, rest, ps, hb, hs, hok => by
    by_cases h1 : chk (k, v) ≠ 0
    · rw [srt_chk h1] at hs; exact absurd hs h1
    by_cases h2 : 0 < pre.length ∧ 0 ≤ cmp (bst pre).last k
    · rw [srt_cmp h1 h2] at hs; cases hs
    rw [srt_go h1 h2] at hs
    have hl : (bst (pre ++ [(k, v)])).last = k := by rw [bst_snoc]; rfl
    rw [← hl] at hs
    have hn := bst_n pre
    have hlast := (bst_le pre hok).2.2
    have hck := chk_zero (e := (k, v)) (by omega)
    dsimp only at hck
    have hr : pread (bP pre.length (bst pre).last) b A.length = ((k, v), A.length + (ebytes (bP pre.length (bst pre).last) (k, v)).length, 0) := by
      have hcond : chk (k, v) = 0 ∧ ((bP pre.length (bst pre).last).length = 0 ∨ cmp (bP pre.length (bst pre).last) k < 0) := by
        refine ⟨by omega, ?_⟩
        unfold bP
        split
        · exact .inl rfl
        · by_cases h0 : pre.length = 0
          · left
            have : pre = [] := List.length_eq_zero_iff.1 h0
            subst this; rfl
          · right
            have : ¬ (0 ≤ cmp (bst pre).last k) := fun e => h2 ⟨by omega, e⟩
            omega
      have e : b = A ++ (ebytes (bP pre.length (bst pre).last) (k, v) ++ (bbody (bAdd (bst pre) (k, v)) r ++ rest)) := by
        rw [hb]
        show A ++ (ebytes (bP (bst pre).n (bst pre).last) (k, v) ++ bbody (bAdd (bst pre) (k, v)) r ++ rest) = _
        rw [hn, List.append_assoc]
      rw [e]
      have hpl : (bP pre.length (bst pre).last).length < 18446744073709551616 := by
        unfold bP
        split
        · exact Nat.zero_lt_succ _
        · omega
      exact written_yes A (bbody (bAdd (bst pre) (k, v)) r ++ rest) hpl (by omega) (by omega) hcond
    have ih := bents_of r (pre ++ [(k, v)]) b (A ++ ebytes (bP (bst pre).n (bst pre).last) (k, v)) rest (ps ++ [A.length]) (by
      rw [hb, bst_snoc]
      show A ++ (ebytes (bP (bst pre).n (bst pre).last) (k, v) ++ bbody (bAdd (bst pre) (k, v)) r ++ rest) = _
      simp only [List.append_assoc]) (by rw [List.length_append]; exact hs) (hok.snoc (by omega))
    rw [List.length_cons, bents_go hr h2]
    rw [List.length_append, bst_snoc, hn] at ih
    rw [ih]
    show _ = (pre ++ (k, v) :: r, ps ++ A.length :: bplaces (bAdd (bst pre) (k, v)) (A.length + (ebytes (bP (bst pre).n (bst pre).last) (k, v)).length) r, A.length + (ebytes (bP (bst pre).n (bst pre).last) (k, v) ++ bbody (bAdd (bst pre) (k, v)) r).length, 0, 0)
    rw [hn, List.length_append]
    simp only [List.append_assoc, List.singleton_append, Prod.mk.injEq, true_and, and_true]
    omega
/-- what is built is read -/
theorem bread_of {es : List Ent} (h : ¬ (es.length < 1 ∨ 64 < es.length)) (hs : (srt es).2 = 0) (more : List UInt8) : bread (bld es ++ more) = if more = [] then (es, 0, 0) else ([], (bld es).length, 63) := by
  have hne : es ≠ [] := by intro e; subst e; simp at h
  have hvb : (vb es.length).length = 1 := by rw [vb_lt (show es.length < 128 by omega)]; rfl
  have hbody : (bst es).body = bbody BS0 es := by have := fold_body es BS0; unfold bst; rw [this]; rfl
  have htab : (bst es).tab = bwant (bruns 0 (bplaces BS0 1 es)) := by have := fold_tab es BS0 1 rfl; unfold bst; rw [this]; rfl
  have hb : bld es ++ more = vb es.length ++ (bbody (bst []) es ++ ((bst es).tab ++ more)) := by
    rw [bld_some hne, hbody, bst_nil]; simp only [List.append_assoc]
  have hr : rd (bld es ++ more) 0 0 = (es.length, 1, 0) := by
    rw [hb, rd_vb1 es.length _ (by omega), hvb]
  have he := bents_of es [] (bld es ++ more) (vb es.length) ((bst es).tab ++ more) [] hb hs (fun e he => by cases he)
  rw [hvb, bst_nil] at he
  have hen : bentries (bld es ++ more) = (es, bplaces BS0 1 es, 1 + (bbody BS0 es).length, 0, 0) := by
    rw [bentries_go hr h, he]; simp
  have hlen : (bld es).length = 1 + (bbody BS0 es).length + (bst es).tab.length := by
    rw [bld_some hne, hbody]; simp only [List.length_append, hvb]
  have ht : ∀ (l A : List UInt8), bld es ++ more = A ++ (l ++ more) → btable (bld es ++ more) l A.length = if more = [] then (0, 0) else (A.length + l.length, 63) := by
    intro l
    induction l with
    | nil =>
      intro A hA
      by_cases hm : more = []
      · subst hm
        rw [if_pos rfl, hA, List.append_nil, List.append_nil]
        exact btable_ok (by omega)
      · have : 0 < more.length := by cases more with | nil => exact absurd rfl hm | cons c r => simp
        rw [if_neg hm, btable_end (by rw [hA]; simp; omega)]; rfl
    | cons c r ih =>
      intro A hA
      have hg : (bld es ++ more)[A.length]? = some c := by rw [hA]; simp
      rw [btable_go hg]
      have := ih (A ++ [c]) (by rw [hA]; simp)
      rw [List.length_append] at this
      rw [show A.length + 1 = A.length + [c].length from rfl, this]
      split <;> simp <;> omega
  have ht2 := ht (bst es).tab (vb es.length ++ bbody BS0 es) (by rw [hb, bst_nil]; simp only [List.append_assoc])
  rw [List.length_append, hvb, htab] at ht2
  by_cases hm : more = []
  · rw [if_pos hm] at ht2 ⊢
    exact bread_ok hen ht2
  · rw [if_neg hm] at ht2 ⊢
    rw [← htab, ← hlen] at ht2
    rw [htab] at ht2
    exact bread_tab (p' := 0) hen ht2 (by decide)
/-- a reading is alike from where it begins -/
theorem pread_shift {p b : List UInt8} {a q : Nat} {x : Ent} (h : pread p b a = (x, q, 0)) (ha : a ≤ b.length) : pread p (b.drop a) 0 = (x, q - a, 0) := by
  obtain ⟨⟨ns, a3, e⟩, hr⟩ : ∃ R, pr3 b 3 [] a = R := ⟨_, rfl⟩
  by_cases he : e = 0
  · subst he
    obtain ⟨⟨s, i, e1⟩, h0⟩ : ∃ R, rd (b.drop a) 0 0 = R := ⟨_, rfl⟩
    by_cases f1 : e1 = 0
    · subst f1
      obtain ⟨⟨m, j, e2⟩, h1⟩ : ∃ R, rd (b.drop (a + i)) 0 0 = R := ⟨_, rfl⟩
      by_cases f2 : e2 = 0
      · subst f2
        obtain ⟨⟨l, t, e3⟩, h2⟩ : ∃ R, rd (b.drop (a + i + j)) 0 0 = R := ⟨_, rfl⟩
        by_cases f3 : e3 = 0
        · subst f3
          have h3 := pr3_ok h0 h1 h2
          have k3 : pr3 (b.drop a) 3 [] 0 = ([s, m, l], 0 + i + j + t, 0) := pr3_ok (by simpa using h0) (by rw [List.drop_drop, Nat.zero_add]; exact h1) (by rw [List.drop_drop, Nat.zero_add, ← Nat.add_assoc]; exact h2)
          obtain ⟨l0, t0, n0⟩ := rd_vbs h0
          obtain ⟨l1, t1, n1⟩ := rd_vbs h1
          obtain ⟨l2, t2, n2⟩ := rd_vbs h2
          simp only [List.length_drop] at l0 l1 l2
          rw [pread_ok h3] at h
          rw [pread_ok k3]
          have hz : a + (0 + i + j + t) = a + i + j + t := by omega
          have hd : (b.drop a).drop (0 + i + j + t) = b.drop (a + i + j + t) := by rw [List.drop_drop, hz]
          have hd2 : ∀ k, (b.drop a).drop (0 + i + j + t + k) = b.drop (a + i + j + t + k) := fun k => by rw [List.drop_drop]; congr 1; omega
          have hl : (b.drop a).length - (0 + i + j + t) = b.length - (a + i + j + t) := by rw [List.length_drop]; omega
          by_cases c1 : p.length < s
          · rw [pend_s c1] at h; simp at h
          by_cases c2 : 64 < m ∨ 256 < l ∨ s + m = 0 ∨ 64 < s + m
          · rw [pend_long c1 c2] at h; simp at h
          by_cases c3 : b.length - (a + i + j + t) < m + l
          · rw [pend_short c1 c2 c3] at h; simp at h
          by_cases c4 : com p (p.take s ++ (b.drop (a + i + j + t)).take m) = s
          · by_cases c5 : 0 < p.length ∧ 0 ≤ cmp p (p.take s ++ (b.drop (a + i + j + t)).take m)
            · rw [pend_cmp c1 c2 c3 c4 c5] at h; simp at h
            · rw [pend_ok c1 c2 c3 c4 c5] at h
              simp only [Prod.mk.injEq] at h
              obtain ⟨rfl, rfl, _⟩ := h
              rw [pend_ok c1 c2 (by rw [hl]; exact c3) (by rw [hd]; exact c4) (by rw [hd]; exact c5), hd, hd2]
              simp only [Prod.mk.injEq, true_and, and_true]
              omega
          · rw [pend_com c1 c2 c3 c4] at h; simp at h
        · have h3 : pr3 b 3 [] a = ([], a + i + j + t, e3) := by rw [pr3_go h0, pr3_go h1, pr3_no h2 f3]
          rw [h3] at hr; simp only [Prod.mk.injEq] at hr; exact absurd hr.2.2 f3
      · have h3 : pr3 b 3 [] a = ([], a + i + j, e2) := by rw [pr3_go h0, pr3_no h1 f2]
        rw [h3] at hr; simp only [Prod.mk.injEq] at hr; exact absurd hr.2.2 f2
    · have h3 : pr3 b 3 [] a = ([], a + i, e1) := by rw [pr3_no h0 f1]
      rw [h3] at hr; simp only [Prod.mk.injEq] at hr; exact absurd hr.2.2 f1
  · rw [pread_no hr he] at h
    simp only [Prod.mk.injEq] at h; exact absurd h.2.2 he
/-- an entry that was read, as it was written -/
theorem pread_back {p b : List UInt8} {a q : Nat} {x : Ent} (hb : b.length < 18446744073709551616) (h : pread p b a = (x, q, 0)) (ha : a ≤ b.length) : b.take q = b.take a ++ ebytes p x := by
  have h1 := pread_shift h ha
  obtain ⟨_, h2, h3, _⟩ := pread_in h ha
  obtain ⟨k, v⟩ := x
  have := (read_back (by rw [List.length_drop]; omega) h1).2.2
  rw [this, show q = a + (q - a) by omega, List.take_add]
  congr 2; omega
/-- what was read of entries -/
theorem bents_back {b : List UInt8} (hb : b.length < 18446744073709551616) : ∀ (j : Nat) (pre : List Ent) (ps : List Nat) (p : Nat) (l : List Ent) (ps' : List Nat) (p' q : Nat), p ≤ b.length → bents b j pre ps p = (l, ps', p', 0, q) →
    ∃ r, l = pre ++ r ∧ r.length = j ∧ p' ≤ b.length ∧ ps' = ps ++ bplaces (bst pre) p r ∧ (srtFrom pre.length (bst pre).last r).2 = 0 ∧ b.take p' = b.take p ++ bbody (bst pre) r
  | 0, pre, ps, p, l, ps', p', q, hp, h => by
    have h : (pre, ps, p, (0 : Int), 0) = (l, ps', p', 0, q) := h
    simp only [Prod.mk.injEq] at h
    obtain ⟨rfl, rfl, rfl, _⟩ := h
    exact ⟨[], by simp, rfl, hp, by simp [bplaces], rfl, by simp [bbody]⟩
  | j + 1, pre, ps, p, l, ps', p', q, hp, h => by
    obtain ⟨⟨x, m, e⟩, hr⟩ : ∃ R, pread (bP pre.length (bst pre).last) b p = R := ⟨_, rfl⟩
    by_cases he : e = 0
    · subst he
      by_cases hc : 0 < pre.length ∧ 0 ≤ cmp (bst pre).last x.1
      · rw [bents_low hr hc] at h
        simp only [Prod.mk.injEq] at h; exact absurd h.2.2.2.1 (by decide)
      · rw [bents_go hr hc] at h
        obtain ⟨hx, hm1, hm2, _⟩ := pread_in hr hp
        have hpb := pread_back hb hr hp
        obtain ⟨r, h1, h2, h3, h4, h5, h6⟩ := bents_back hb j (pre ++ [x]) (ps ++ [p]) m l ps' p' q hm2 h
        have hn := bst_n pre
        rw [bst_snoc] at h4 h5 h6
        rw [List.length_append] at h5
        have hlen : m = p + (ebytes (bP pre.length (bst pre).last) x).length := by
          have := congrArg List.length hpb
          rw [List.length_append, List.length_take, List.length_take] at this; omega
        refine ⟨x :: r, by rw [h1, List.append_assoc]; rfl, by rw [List.length_cons, h2], h3, ?_, ?_, ?_⟩
        · rw [h4]
          show _ = ps ++ p :: bplaces (bAdd (bst pre) x) (p + (ebytes (bP (bst pre).n (bst pre).last) x).length) r
          rw [hn, ← hlen, List.append_assoc]; rfl
        · rw [srt_go (by omega) hc]; exact h5
        · rw [h6, hpb]
          show _ = b.take p ++ (ebytes (bP (bst pre).n (bst pre).last) x ++ bbody (bAdd (bst pre) x) r)
          rw [hn, List.append_assoc]
    · rw [bents_no hr he] at h
      simp only [Prod.mk.injEq] at h; exact absurd h.2.2.2.1 he
theorem btable_back {b : List UInt8} : ∀ (l : List UInt8) (p : Nat), p ≤ b.length → (btable b l p).2 = 0 → b.drop p = l
  | [], p, hp, h => by
    by_cases hlt : p < b.length
    · rw [btable_end hlt] at h; cases h
    · exact List.drop_of_length_le (by omega)
  | c :: r, p, hp, h => by
    by_cases hg : b[p]? = some c
    · rw [btable_go hg] at h
      obtain ⟨hlt, e⟩ := List.getElem?_eq_some_iff.1 hg
      have := btable_back r (p + 1) hlt h
      rw [List.drop_eq_getElem_cons hlt, this, e]
    · rw [btable_no hg] at h; cases h
/-- what is read is built just so -/
theorem bread_back {b : List UInt8} {l : List Ent} {q : Nat} (hb : b.length < 18446744073709551616) (h : bread b = (l, q, 0)) : ¬ (l.length < 1 ∨ 64 < l.length) ∧ (srt l).2 = 0 ∧ bld l = b := by
  obtain ⟨⟨n, d, e0⟩, hr⟩ : ∃ X, rd b 0 0 = X := ⟨_, rfl⟩
  by_cases he0 : e0 = 0
  · subst he0
    by_cases hn : n < 1 ∨ 64 < n
    · rw [bread_no (bentries_bad hr hn) (by decide)] at h
      simp only [Prod.mk.injEq] at h; exact absurd h.2.2 (by decide)
    · obtain ⟨⟨l', ps, p, e, qq⟩, hE⟩ : ∃ X, bents b n [] [] d = X := ⟨_, rfl⟩
      have hen := bentries_go hr hn
      rw [hE] at hen
      by_cases he : e = 0
      · subst he
        obtain ⟨⟨q', e'⟩, hT⟩ : ∃ X, btable b (bwant (bruns 0 ps)) p = X := ⟨_, rfl⟩
        by_cases he' : e' = 0
        · subst he'
          rw [bread_ok hen hT] at h
          simp only [Prod.mk.injEq] at h
          obtain ⟨rfl, _⟩ := h
          obtain ⟨hd1, hd2, hd3⟩ := rd_vbs (l := b) hr
          obtain ⟨r, h1, h2, h3, h4, h5, h6⟩ := bents_back hb n [] [] d l' ps p qq hd1 hE
          rw [List.nil_append] at h1 h4
          subst h1
          have hd : d = 1 := by rw [hd3, vb_lt (show n < 128 by omega)]; rfl
          have htab := btable_back _ p h3 (by rw [hT])
          have hne : l' ≠ [] := by intro e; subst e; simp at h2; omega
          refine ⟨by rw [h2]; exact hn, h5, ?_⟩
          rw [bld_some hne, h2, ← hd2]
          have hbody : (bst l').body = bbody BS0 l' := by have := fold_body l' BS0; unfold bst; rw [this]; rfl
          have htb : (bst l').tab = bwant (bruns 0 (bplaces BS0 1 l')) := by have := fold_tab l' BS0 1 rfl; unfold bst; rw [this]; rfl
          rw [hbody, htb]
          rw [bst_nil] at h4 h6
          rw [hd] at h4
          rw [← h4, ← htab, ← h6, List.take_append_drop]
        · rw [bread_tab (p' := 0) hen hT he'] at h
          simp only [Prod.mk.injEq] at h; exact absurd h.2.2 he'
      · rw [bread_no hen he] at h
        simp only [Prod.mk.injEq] at h; exact absurd h.2.2 he
  · rw [bread_no (bentries_no hr he0) he0] at h
    simp only [Prod.mk.injEq] at h; exact absurd h.2.2 he0
/-- a beginning of a block is none -/
theorem bread_short {es : List Ent} (h : ¬ (es.length < 1 ∨ 64 < es.length)) (hs : (srt es).2 = 0) {n : Nat} (hn : n < (bld es).length) (hb : (bld es).length < 18446744073709551616) : (bread ((bld es).take n)).2.2 ≠ 0 := by
  intro he
  obtain ⟨⟨l, q, e⟩, hr⟩ : ∃ X, bread ((bld es).take n) = X := ⟨_, rfl⟩
  rw [hr] at he
  dsimp only at he
  subst he
  obtain ⟨h1, h2, h3⟩ := bread_back (by rw [List.length_take]; omega) hr
  have hm : (bld es).drop n ≠ [] := by intro e; have := congrArg List.length e; simp at this; omega
  have k := bread_of h1 h2 ((bld es).drop n)
  rw [h3, List.take_append_drop, if_neg hm] at k
  have k2 := bread_of h hs []
  rw [List.append_nil, if_pos rfl, k] at k2
  simp only [Prod.mk.injEq] at k2
  exact absurd k2.2.2 (by decide)
end Go.Proofs.Yteedjgjkldbbcaa
/- Where a reading of a block ends, or errs: within the bytes. No condition. -/
namespace Go.Proofs.Yteedjgjkldbbcaa
set_option linter.unusedVariables false

theorem rd_place : ∀ (l : List UInt8) (k v : Nat), (rd l k v).2.1 ≤ k + l.length
  | [], k, v => by rw [rd_nil]; exact Nat.le_refl _
  | c :: r, k, v => by
    by_cases h1 : k = 9 ∧ 1 < c.toNat
    · rw [rd_long h1]; exact Nat.le_add_right _ _
    · by_cases h2 : 0 < k ∧ c.toNat = 0
      · rw [rd_form h2]; exact Nat.le_add_right _ _
      · by_cases h3 : c.toNat < 128
        · rw [rd_last h1 h2 h3, List.length_cons]; show k + 1 ≤ _; omega
        · rw [rd_go h1 h2 h3, List.length_cons]
          have := rd_place r (k + 1) (v + c.toNat % 128 * 128 ^ k)
          omega
theorem pr3_place {b : List UInt8} : ∀ (j : Nat) (l : List Nat) (a : Nat), a ≤ b.length → (pr3 b j l a).2.1 ≤ b.length
  | 0, l, a, h => h
  | j + 1, l, a, h => by
    obtain ⟨⟨v, k, e⟩, hr⟩ : ∃ R, rd (b.drop a) 0 0 = R := ⟨_, rfl⟩
    have hk := rd_place (b.drop a) 0 0
    rw [hr, List.length_drop] at hk
    dsimp only at hk
    by_cases he : e = 0
    · subst he
      rw [pr3_go hr]
      exact pr3_place j _ _ (by omega)
    · rw [pr3_no hr he]
      show a + k ≤ _
      omega
theorem pread_place {p b : List UInt8} {a : Nat} (h : a ≤ b.length) : (pread p b a).2.1 ≤ b.length := by
  obtain ⟨⟨x, q, e⟩, hx⟩ : ∃ R, pread p b a = R := ⟨_, rfl⟩
  by_cases he : e = 0
  · subst he
    rw [hx]; exact (pread_in hx h).2.2.1
  · obtain ⟨⟨ns, a3, e3⟩, hr⟩ : ∃ R, pr3 b 3 [] a = R := ⟨_, rfl⟩
    have h3 := pr3_place (b := b) 3 [] a h
    rw [hr] at h3
    dsimp only at h3
    by_cases f : e3 = 0
    · subst f
      unfold pread
      rw [hr, if_pos rfl]
      unfold pend
      split
      · exact h
      · split
        · exact h
        · split
          · exact Nat.le_refl _
          · split
            · exact h
            · split
              · exact h
              · rename_i k1 k2 k3 k4 k5
                dsimp only at k1 k2 k3 ⊢
                omega
    · rw [pread_no hr f]; exact h3
theorem bents_place {b : List UInt8} : ∀ (j : Nat) (l : List Ent) (ps : List Nat) (p : Nat), p ≤ b.length → (bents b j l ps p).2.2.1 ≤ b.length ∧ (bents b j l ps p).2.2.2.2 ≤ b.length
  | 0, l, ps, p, h => ⟨h, Nat.zero_le _⟩
  | j + 1, l, ps, p, h => by
    obtain ⟨⟨x, q, e⟩, hx⟩ : ∃ R, pread (bP l.length (bst l).last) b p = R := ⟨_, rfl⟩
    have hq := pread_place (p := bP l.length (bst l).last) h
    rw [hx] at hq
    dsimp only at hq
    by_cases he : e = 0
    · subst he
      by_cases hc : 0 < l.length ∧ 0 ≤ cmp (bst l).last x.1
      · rw [bents_low hx hc]; exact ⟨h, h⟩
      · rw [bents_go hx hc]; exact bents_place j _ _ _ hq
    · rw [bents_no hx he]; exact ⟨h, hq⟩
theorem bentries_place (b : List UInt8) : (bentries b).2.2.1 ≤ b.length ∧ (bentries b).2.2.2.2 ≤ b.length := by
  obtain ⟨⟨n, d, e0⟩, hr⟩ : ∃ X, rd b 0 0 = X := ⟨_, rfl⟩
  have hd := rd_place b 0 0
  rw [hr] at hd
  dsimp only at hd
  by_cases he0 : e0 = 0
  · subst he0
    by_cases hn : n < 1 ∨ 64 < n
    · rw [bentries_bad hr hn]; exact ⟨Nat.zero_le _, Nat.zero_le _⟩
    · rw [bentries_go hr hn]; exact bents_place _ _ _ _ (by omega)
  · rw [bentries_no hr he0]; exact ⟨Nat.zero_le _, by show d ≤ _; omega⟩
theorem btable_place {b : List UInt8} : ∀ (l : List UInt8) (p : Nat), p ≤ b.length → (btable b l p).1 ≤ b.length
  | [], p, h => by
    by_cases hp : p < b.length
    · rw [btable_end hp]; exact h
    · rw [btable_ok hp]; exact Nat.zero_le _
  | c :: r, p, h => by
    by_cases hg : b[p]? = some c
    · rw [btable_go hg]
      exact btable_place r (p + 1) (List.getElem?_eq_some_iff.1 hg).1
    · rw [btable_no hg]; exact h
theorem bread_place (b : List UInt8) : (bread b).2.1 ≤ b.length := by
  obtain ⟨h1, h2⟩ := bentries_place b
  unfold bread
  split
  · exact h2
  · split
    · exact btable_place _ _ h1
    · exact Nat.zero_le _
end Go.Proofs.Yteedjgjkldbbcaa
/- What a reading of an entry answers; an entry's cell. No condition. -/
namespace Go.Proofs.Yteedjgjkldbbcaa
open Go.RowKit
set_option linter.unusedVariables false

/-- an entry of the call's own, a place, an error -/
def RdPost (w : World) (k v : List UInt8) (q : Nat) (er : Int) (e : Ending) (w' : World) : Prop :=
  ∃ vk vv mid, e = .returned (.tuple #[.agg #[vk, vv], .int .i64 q, .int .i64 er]) ∧ OwT fB w' w.heap.size 5 vk k ∧ OwT fB w' mid 5 vv v ∧ (∀ j, vk.ownBlock = some j → j < mid) ∧ w.heap.size ≤ mid ∧ Below w.heap.size w w'
theorem RdPost.no {w w' : World} {q : Nat} {er : Int} (hb : Below w.heap.size w w') : RdPost w [] [] q er (.returned (.tuple #[.agg #[.slice none 0 0, .slice none 0 0], .int .i64 q, .int .i64 er])) w' :=
  ⟨_, _, w.heap.size, rfl, OwT.nil _ _ _ _, OwT.nil _ _ _ _, (fun j hj => by cases hj), Nat.le_refl _, hb⟩
theorem OwT.offB {w : World} {base g : Nat} {e : TypeId} {x : Value} {xs : List UInt8} (h : OwT fB w base e x xs) (hg : g < base) (i : Nat) (v : Value) : OwT fB (w.setCell ⟨g, i, none⟩ v) base e x xs :=
  h.of_block fun j hj => Below.heap_setCell _ _ _ _ (by have := (h.lt j hj).1; intro e; have e : j = g := e; omega)
/-- one cell entry block -/
def Eb (w : World) (g : Nat) (x y : Value) : Prop := w.heap[g]? = some (.cells #[x, y] 41 (0, 0))
theorem Eb.c0 {w : World} {g : Nat} {x y : Value} (h : Eb w g x y) : w.cell? ⟨g, 0, none⟩ = some x := by unfold Eb at h; simp [World.cell?, h]
theorem Eb.c1 {w : World} {g : Nat} {x y : Value} (h : Eb w g x y) : w.cell? ⟨g, 1, none⟩ = some y := by unfold Eb at h; simp [World.cell?, h]
theorem Eb.free {w : World} {g : Nat} {x y : Value} (h : Eb w g x y) (i : Nat) : w.frozen? ⟨g, i, none⟩ = false := by unfold Eb at h; simp [World.frozen?, h]
theorem Eb.lt {w : World} {g : Nat} {x y : Value} (h : Eb w g x y) : g < w.heap.size := (Array.getElem?_eq_some_iff.1 h).1
theorem Eb.keep {w w' : World} {g : Nat} {x y : Value} (h : Eb w g x y) (hb : Below w.heap.size w w') : Eb w' g x y := (hb.block g h.lt).trans h
theorem Eb.off {w : World} {g ga : Nat} {x y : Value} (h : Eb w g x y) (hne : g ≠ ga) (k : Nat) (v : Value) : Eb (w.setCell ⟨ga, k, none⟩ v) g x y := (Below.heap_setCell _ _ _ _ hne).trans h
theorem Eb.set0 {w : World} {g : Nat} {x y : Value} (h : Eb w g x y) (z : Value) : Eb (w.setCell ⟨g, 0, none⟩ z) g z y := by
  unfold Eb at h ⊢
  simp only [World.setCell, Array.getElem?_modify, if_true]
  rw [h]; rfl
theorem Eb.set1 {w : World} {g : Nat} {x y : Value} (h : Eb w g x y) (z : Value) : Eb (w.setCell ⟨g, 1, none⟩ z) g x z := by
  unfold Eb at h ⊢
  simp only [World.setCell, Array.getElem?_modify, if_true]
  rw [h]; rfl
theorem Eb.none2 {w : World} {g : Nat} {x y : Value} (h : Eb w g x y) : Eb ((w.setCell ⟨g, 0, none⟩ (.slice none 0 0)).setCell ⟨g, 1, none⟩ (.slice none 0 0)) g (.slice none 0 0) (.slice none 0 0) := (h.set0 _).set1 _
def erd (p b : List UInt8) (z : Int) : Ent × Nat × Int := if 0 ≤ z ∧ z ≤ b.length then pread p b z.toNat else (([], []), 0, 1)
end Go.Proofs.Yteedjgjkldbbcaa
/- block.tried, and a reader of blocks in memory. Condition: what is done ends, or is given up by a wrong. -/
namespace Go.Proofs.Yteedjgjkldbbcaa
open Go.RowKit
set_option linter.unusedVariables false

/-- what a reader gives up by -/
def wrongBy (e q : Int) : Ending := .panicked [{ v := .iface 86 (.agg #[.int .i64 e, .int .i64 q]), recovered := false }]
/-- the cell of the named result -/
def WB (w : World) (g : Nat) (e q : Int) : Prop := w.heap[g]? = some (.cells #[.int .i64 e, .int .i64 q] 86 (0, 0))
theorem assertW (v : Value) (w : World) : (Instr.typeAssert (.iface 86 v) 20 86 false).run Try.prog w = .ok v w := by kernel_rfl
theorem WB.set {w : World} {g : Nat} {x y : Int} (h : WB w g x y) (e q : Int) : WB ((w.setCell ⟨g, 0, none⟩ (.int .i64 e)).setCell ⟨g, 1, none⟩ (.int .i64 q)) g e q := by
  unfold WB at h ⊢
  have h1 := set_block (i := 0) h (.int .i64 e)
  have h2 := set_block (i := 1) h1 (.int .i64 q)
  rw [h2]; rfl
set_option maxRecDepth 100000 in
theorem caught (g : Nat) (x y e q : Int) (w : World) (h : WB w g x y) :
    CallsD Try.prog 74 #[.pointer (some ⟨g, 0, none⟩)] (.panicking [{ v := .iface 86 (.agg #[.int .i64 e, .int .i64 q]), recovered := false }]) w fun r u' w' =>
      r = .returned (.tuple #[]) ∧ u' = .panicking [{ v := .iface 86 (.agg #[.int .i64 e, .int .i64 q]), recovered := true }] ∧ WB w' g e q ∧ Turns (fun j => j = g) w w' := by
  have c0 := cell_of h 0 rfl
  have c1 := cell_of h 1 rfl
  have z0 := free_block h 0
  have z1 := free_block h 1
  refine callsD_of_wpS Try.func74 rfl fun c₀ cs hu => ?_
  apply wpS_seq
  apply wpS_region
  simp [wpOpsS, go_sem, recoverD, hu, Try.ntmps74, Exit.thenS]
  apply wpS_seq
  apply wpS_region
  simp [wpOpsS, go_sem, recoverD, Exit.thenS]
  refine wpS_cond (t := true) (by simp [Act.eval, Array.replicate]) ?_
  simp only [if_true]
  apply wpS_region
  simp [wpOpsS, go_sem, assertW, c0, c1, z0, z1, bodyPostS, results, Try.results74]
  exact ⟨h.set e q, (Turns.set (S := fun j => j = g) _ rfl _).trans (T := fun j => j = g) (Turns.set (S := fun j => j = g) _ rfl _) fun _ _ t => t⟩
set_option maxRecDepth 100000 in
theorem idle (g : Nat) (w : World) :
    CallsD Try.prog 74 #[.pointer (some ⟨g, 0, none⟩)] .returning w fun e u' w' => e = .returned (.tuple #[]) ∧ u' = .returning ∧ w' = w := by
  refine callsD_of_wpS Try.func74 rfl fun c₀ cs hu => ?_
  apply wpS_seq
  apply wpS_region
  simp [wpOpsS, go_sem, recoverD, hu, Try.ntmps74, Exit.thenS]
  apply wpS_seq
  apply wpS_region
  simp [wpOpsS, go_sem, recoverD, Exit.thenS]
  refine wpS_cond (t := false) (by simp [Act.eval, Array.replicate]) ?_
  simp only [Bool.false_eq_true, if_false]
  refine wpS_of_wp (wp_skip ?_)
  cases c₀
  simp_all [bodyPostS, results, Try.results74]
set_option maxRecDepth 100000 in
theorem tried_any (fn : FuncId) (caps : Array Value) (Q : Int → Int → World → Prop) (w : World) (hr : ∀ (args : Array Value) (W : World), (callFunc fn args).run Try.prog W = .ok (.enter fn args) W)
    (h : Calls Try.prog fn caps (w.alloc (.cells #[.int .i64 0, .int .i64 0] 86)) fun r w2 => ∃ e q : Int, ((e = 0 ∧ q = 0 ∧ r = .returned (.tuple #[])) ∨ r = wrongBy e q) ∧ Q e q w2 ∧ WB w2 w.heap.size 0 0) :
    Calls Try.prog 53 #[.func (.func fn) #[] caps] w fun r w' => ∃ (e q : Int) (w2 : World), r = .returned (.agg #[.int .i64 e, .int .i64 q]) ∧ Q e q w2 ∧ Turns (fun j => j = w.heap.size) w2 w' := by
  have hmf : ∀ (fn : Fn) (first cap : Array Value) (w : World), (Instr.makeFunc fn first cap).run Try.prog w = .ok (.func fn first cap) w := fun _ _ _ _ => rfl
  have H := Lib.hid h; clear h
  go_enter_defers Try.func53, Try.ntmps53
  go_wp2_with fail
  refine H.out.mono ?_
  rintro r w2 ⟨e, q, hr2, hQ, hW⟩
  rcases hr2 with ⟨rfl, rfl, rfl⟩ | rfl
  · go_wp2_with fail
    refine leaves_cons (f := 74) (args := #[.pointer (some ⟨w.heap.size, 0, none⟩)]) (by simp) (by simp [go_sem]) ?_
    refine (idle w.heap.size _).mono ?_
    rintro e u' w'' ⟨rfl, rfl, rfl⟩
    have c0 := cell_of hW 0 rfl
    have c1 := cell_of hW 1 rfl
    simp [Leaves, settle, results, Try.results53, go_sem, c0, c1]
    exact ⟨0, 0, ⟨rfl, rfl⟩, w'', hQ, .refl _ _⟩
  · unfold wrongBy
    go_wp2_with fail
    refine leaves_cons (f := 74) (args := #[.pointer (some ⟨w.heap.size, 0, none⟩)]) (by simp) (by simp [go_sem]) ?_
    refine (caught w.heap.size 0 0 e q _ hW).mono ?_
    rintro r u' w'' ⟨rfl, rfl, hw, ht⟩
    have c0 := cell_of hw 0 rfl
    have c1 := cell_of hw 1 rfl
    simp [Leaves, settle, results, Try.results53, go_sem, c0, c1]
    exact ⟨e, q, ⟨rfl, rfl⟩, w2, hQ, ht⟩
abbrev fI (a : Nat) : List Value := [.int .i64 (a : Nat)]
theorem fI_len (x : Nat) : (fI x).length = 1 := rfl
theorem eltTI : EltT Try.prog 50 3 fI 1 8 := by
  have hi : (Try.prog.info? 3).map (fun i => (i.zero, i.size, i.bytes)) = some (some (.int .i64 0), 1, 8) := by kernel_rfl
  obtain ⟨i, hi1, hi2, hi3, hi4⟩ := info_parts hi
  exact ⟨Try.underlying50, ⟨i, _, hi1, hi2, hi3, hi4, 0, rfl⟩, fun _ => rfl, by decide, fun x u hu => by simp [fI] at hu; rw [hu]; rfl⟩
theorem OwT.slR {w : World} {base : Nat} {e : TypeId} {v : Value} {vs : List Nat} (h : OwT fI w base e v vs) : ∃ a n c, v = .slice a n c ∧ n = vs.length ∧ n ≤ c := by
  obtain ⟨a, c, hv, hs⟩ := h.sl fI_len
  exact ⟨a, _, c, hv, rfl, hs.2.1⟩
theorem SlT.litI (w : World) (x g : Nat) (hg : w.heap.size = g) : SlT fI 1 (w.alloc (.cells #[.int .i64 (x : Nat)] 3)) (some ⟨g, 0, none⟩) 1 1 [x] := by
  subst hg
  obtain ⟨a, c, hv, hs⟩ := (OwT.lit fI w w.heap.size 3 #[.int .i64 (x : Nat)] [x] 1 rfl rfl (Nat.le_refl _) (by decide)).sl fI_len
  cases hv; exact hs
/-- a reader: the bytes, how many entries, how many were read, the place, the last key, the restarts -/
structure Rdr (w : World) (lo g : Nat) (ab : Option Addr) (nb cb n d a : Nat) (vl vr : Value) (last : List UInt8) (runs : List Nat) : Prop where
  blk : w.heap[g]? = some (.cells #[.slice ab nb cb, .int .i64 (n : Nat), .int .i64 (d : Nat), .int .i64 (a : Nat), vl, vr] 90 (0, 0))
  rl : OwT fB w lo 5 vl last
  rr : OwT fI w lo 3 vr runs
  ol : Off vl g
  orr : Off vr g
  dis : ∀ b, vl.ownBlock = some b → vr.ownBlock ≠ some b
  low : lo ≤ g
  nil : vl = .slice none 0 0 ∧ last = [] ∨ 0 < last.length
def RdS (g : Nat) (vl vr : Value) (j : Nat) : Prop := j = g ∨ vl.ownBlock = some j ∨ vr.ownBlock = some j
section
variable {w w1 : World} {lo g nb cb n d a : Nat} {ab : Option Addr} {vl vr : Value} {last : List UInt8} {runs : List Nat}
theorem Rdr.lt (h : Rdr w lo g ab nb cb n d a vl vr last runs) : g < w.heap.size := (Array.getElem?_eq_some_iff.1 h.blk).1
theorem Rdr.inS (h : Rdr w lo g ab nb cb n d a vl vr last runs) : ∀ j, RdS g vl vr j → lo ≤ j ∧ j < w.heap.size := fun j hj => by
  rcases hj with rfl | hj | hj
  · exact ⟨h.low, h.lt⟩
  · exact h.rl.lt j hj
  · exact h.rr.lt j hj
theorem Rdr.turns {S : Nat → Prop} (h : Rdr w lo g ab nb cb n d a vl vr last runs) (ht : Turns S w w1) (hs : ∀ j, RdS g vl vr j → ¬ S j) : Rdr w1 lo g ab nb cb n d a vl vr last runs :=
  ⟨ht.heap h.blk (hs g (.inl rfl)), h.rl.turns ht fun j hj => hs j (.inr (.inl hj)), h.rr.turns ht fun j hj => hs j (.inr (.inr hj)), h.ol, h.orr, h.dis, h.low, h.nil⟩
theorem Rdr.keep (h : Rdr w lo g ab nb cb n d a vl vr last runs) (hb : Below w.heap.size w w1) : Rdr w1 lo g ab nb cb n d a vl vr last runs := h.turns (S := fun _ => False) (.of_below hb) fun _ _ e => e
theorem Rdr.drewN (h : Rdr w lo g ab nb cb n d a vl vr last runs) (m : Nat) : Rdr (w.drewN m) lo g ab nb cb n d a vl vr last runs := h.keep (keep_drewN (Below.refl _ _) m)
theorem Rdr.c0 (h : Rdr w lo g ab nb cb n d a vl vr last runs) : w.cell? ⟨g, 0, none⟩ = some (.slice ab nb cb) := cell_of h.blk 0 rfl
theorem Rdr.c1 (h : Rdr w lo g ab nb cb n d a vl vr last runs) : w.cell? ⟨g, 1, none⟩ = some (.int .i64 (n : Nat)) := cell_of h.blk 1 rfl
theorem Rdr.c2 (h : Rdr w lo g ab nb cb n d a vl vr last runs) : w.cell? ⟨g, 2, none⟩ = some (.int .i64 (d : Nat)) := cell_of h.blk 2 rfl
theorem Rdr.c3 (h : Rdr w lo g ab nb cb n d a vl vr last runs) : w.cell? ⟨g, 3, none⟩ = some (.int .i64 (a : Nat)) := cell_of h.blk 3 rfl
theorem Rdr.c4 (h : Rdr w lo g ab nb cb n d a vl vr last runs) : w.cell? ⟨g, 4, none⟩ = some vl := cell_of h.blk 4 rfl
theorem Rdr.c5 (h : Rdr w lo g ab nb cb n d a vl vr last runs) : w.cell? ⟨g, 5, none⟩ = some vr := cell_of h.blk 5 rfl
theorem Rdr.free (h : Rdr w lo g ab nb cb n d a vl vr last runs) (i : Nat) : w.frozen? ⟨g, i, none⟩ = false := free_block h.blk i
theorem Rdr.num (h : Rdr w lo g ab nb cb n d a vl vr last runs) (k : Nat) : Rdr (w.setCell ⟨g, 2, none⟩ (.int .i64 (k : Nat))) lo g ab nb cb n k a vl vr last runs :=
  ⟨set_block (i := 2) h.blk _, h.rl.of_block fun j hj => Below.heap_setCell _ _ _ _ (h.ol j hj), h.rr.of_block fun j hj => Below.heap_setCell _ _ _ _ (h.orr j hj), h.ol, h.orr, h.dis, h.low, h.nil⟩
theorem Rdr.place (h : Rdr w lo g ab nb cb n d a vl vr last runs) (k : Nat) : Rdr (w.setCell ⟨g, 3, none⟩ (.int .i64 (k : Nat))) lo g ab nb cb n d k vl vr last runs :=
  ⟨set_block (i := 3) h.blk _, h.rl.of_block fun j hj => Below.heap_setCell _ _ _ _ (h.ol j hj), h.rr.of_block fun j hj => Below.heap_setCell _ _ _ _ (h.orr j hj), h.ol, h.orr, h.dis, h.low, h.nil⟩
/-- the last key is laid anew -/
theorem Rdr.key {x : Value} {xs : List UInt8} (h : Rdr w lo g ab nb cb n d a vl vr last runs) (ho : OwT fB w lo 5 x xs) (hx : ∀ j, x.ownBlock = some j → ¬ RdS g vl vr j) (hn : 0 < xs.length) : Rdr (w.setCell ⟨g, 4, none⟩ x) lo g ab nb cb n d a x vr xs runs :=
  ⟨set_block (i := 4) h.blk _, ho.of_block fun j hj => Below.heap_setCell _ _ _ _ (fun e => hx j hj (.inl e)), h.rr.of_block fun j hj => Below.heap_setCell _ _ _ _ (h.orr j hj), fun j hj e => hx j hj (.inl e), h.orr, fun b hb hr => hx b hb (.inr (.inr hr)), h.low, .inr hn⟩
/-- a restart more -/
theorem Rdr.app {w0 : World} {x : Value} {ys : List Nat} (h : Rdr w lo g ab nb cb n d a vl vr last runs) (hw : Below w.heap.size w w0) (hg : w0.grownBy w1 vr.ownBlock) (ho : OwT fI w1 lo 3 x ys) (hx : x.ownBlock = vr.ownBlock ∨ x.ownBlock = some w0.heap.size) :
    w1.cell? ⟨g, 5, none⟩ = some vr ∧ w1.frozen? ⟨g, 5, none⟩ = false ∧ Rdr (w1.setCell ⟨g, 5, none⟩ x) lo g ab nb cb n d a vl x last ys ∧ Turns (RdS g vl vr) w w1 ∧ Turns (RdS g vl vr) w (w1.setCell ⟨g, 5, none⟩ x) ∧ ∀ j, RdS g vl x j → RdS g vl vr j ∨ w.heap.size ≤ j := by
  have ht : Turns (fun j => vr.ownBlock = some j) w w1 := (Turns.of_below hw).trans (.of_grown hg fun j e => e) fun _ _ e => e
  have hblk := ht.heap h.blk fun e => h.orr g e rfl
  have hz := hw.size
  have hxn : ∀ j, x.ownBlock = some j → vr.ownBlock = some j ∨ w.heap.size ≤ j := fun j hj => by
    rcases hx with e | e
    · exact .inl (e.symm.trans hj)
    · rw [e] at hj; injection hj with hj; exact .inr (by omega)
  have hxg : Off x g := fun j hj e => by
    rcases hxn j hj with h2 | h2
    · exact h.orr j h2 e
    · have := h.lt; omega
  have hlx : ∀ b, vl.ownBlock = some b → x.ownBlock ≠ some b := fun b hb hxb => by
    rcases hxn b hxb with h2 | h2
    · exact h.dis b hb h2
    · have := (h.rl.lt b hb).2; omega
  refine ⟨cell_of hblk 5 rfl, free_block hblk 5, ⟨set_block (i := 5) hblk _, ?_, ho.of_block fun j hj => Below.heap_setCell _ _ _ _ (hxg j hj), h.ol, hxg, hlx, h.low, h.nil⟩, ht.mono fun j _ hj => .inr (.inr hj), ?_, fun j hj => ?_⟩
  · exact (h.rl.turns ht fun j hj e2 => h.dis j hj e2).of_block fun j hj => Below.heap_setCell _ _ _ _ (h.ol j hj)
  · exact (ht.mono (T := RdS g vl vr) fun j _ hj => .inr (.inr hj)).trans (Turns.set (S := RdS g vl vr) w1 (.inl rfl) x) fun _ _ e => e
  · rcases hj with e | e | e
    · exact .inl (.inl e)
    · exact .inl (.inr (.inl e))
    · exact (hxn j e).imp (fun h => .inr (.inr h)) id
end
/-- behind a step: given up, or an entry of the call's own, the reader gone on -/
def NextPost (w : World) (lo g : Nat) (ab : Option Addr) (nb cb n d a : Nat) (vl vr : Value) (last : List UInt8) (runs : List Nat) (b : List UInt8) (r : Ending) (w' : World) : Prop :=
  ∃ (x : Ent) (q : Nat) (er : Int), erd (if d % 8 = 0 then [] else last) b a = (x, q, er) ∧ Turns (RdS g vl vr) w w' ∧
    (er ≠ 0 → r = wrongBy er q) ∧ (er = 0 → d % 8 = 0 ∧ 0 < last.length ∧ 0 ≤ cmp last x.1 → r = wrongBy 51 a) ∧
    (er = 0 → ¬ (d % 8 = 0 ∧ 0 < last.length ∧ 0 ≤ cmp last x.1) → ∃ vk vv vl' vr' mid, r = .returned (.agg #[vk, vv]) ∧ OwT fB w' w.heap.size 5 vk x.1 ∧ OwT fB w' mid 5 vv x.2 ∧ (∀ j, vk.ownBlock = some j → j < mid) ∧ w.heap.size ≤ mid ∧
      Rdr w' lo g ab nb cb n (d + 1) q vl' vr' x.1 (runs ++ if d % 8 = 0 then [a] else []) ∧ (∀ j, RdS g vl' vr' j → RdS g vl vr j ∨ w.heap.size ≤ j) ∧ ∀ j, RdS g vl' vr' j → vk.ownBlock ≠ some j ∧ vv.ownBlock ≠ some j)
/-- behind the reading of an entry in a step: where it lies -/
def ReadCut (w : World) (x : Ent) (q : Nat) (er : Int) (b5 b6 b7 : Value) (wx : World) : Prop :=
  ∃ gb vk vv mid, b5 = .pointer (some ⟨gb, 0, none⟩) ∧ b6 = .int .i64 q ∧ b7 = .int .i64 er ∧ Eb wx gb vk vv ∧ OwT fB wx w.heap.size 5 vk x.1 ∧ OwT fB wx mid 5 vv x.2 ∧ (∀ j, vk.ownBlock = some j → j < mid) ∧ w.heap.size ≤ mid ∧ w.heap.size ≤ gb ∧ Below w.heap.size w wx
theorem erd_in {p b : List UInt8} {z : Int} {x : Ent} {q : Nat} (h : erd p b z = (x, q, 0)) : 0 < x.1.length ∧ x.1.length ≤ 64 ∧ x.2.length ≤ 256 ∧ q ≤ b.length ∧ z < q ∧ (p.length = 0 ∨ cmp p x.1 < 0) := by
  unfold erd at h
  by_cases hz : 0 ≤ z ∧ z ≤ b.length
  · rw [if_pos hz] at h
    obtain ⟨hc, h1, h2, h3⟩ := pread_in h (by omega)
    refine ⟨?_, ?_, ?_, h2, by omega, h3⟩ <;> (unfold chk chkN keyN valN at hc; split at hc <;> split at hc <;> simp at hc <;> omega)
  · rw [if_neg hz] at h
    simp only [Prod.mk.injEq] at h
    exact absurd h.2.2 (by decide)
end Go.Proofs.Yteedjgjkldbbcaa
