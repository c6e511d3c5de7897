/- What is read of a block: plain words. No condition. -/
import Derived.Test.YteedjgjkldbbcaaBlockM
import Derived.Test.YteedjgjkldbbcaaPairReadM
import Derived.Test.YteedjgjkldbbcaaVintNumsM
namespace Go.Proofs.Yteedjgjkldbbcaa
set_option linter.unusedVariables false

/-- j entries more behind l, from a place on: the entries, their places, where they end, the error, its place -/
def bents (b : List UInt8) : Nat → List Ent → List Nat → Nat → List Ent × List Nat × Nat × Int × Nat
  | 0, l, ps, p => (l, ps, p, 0, 0)
  | j + 1, l, ps, p =>
    if (pread (bP l.length (bst l).last) b p).2.2 ≠ 0 then (l, ps, p, (pread (bP l.length (bst l).last) b p).2.2, (pread (bP l.length (bst l).last) b p).2.1)
    else if 0 < l.length ∧ 0 ≤ cmp (bst l).last (pread (bP l.length (bst l).last) b p).1.1 then (l, ps, p, 51, p)
    else bents b j (l ++ [(pread (bP l.length (bst l).last) b p).1]) (ps ++ [p]) (pread (bP l.length (bst l).last) b p).2.1
def bentries (b : List UInt8) : List Ent × List Nat × Nat × Int × Nat :=
  if (rd b 0 0).2.2 ≠ 0 then ([], [], 0, (rd b 0 0).2.2, (rd b 0 0).2.1) else if (rd b 0 0).1 < 1 ∨ 64 < (rd b 0 0).1 then ([], [], 0, 61, 0)
  else bents b (rd b 0 0).1 [] [] (rd b 0 0).2.1
section
variable {b : List UInt8} {l : List Ent} {ps : List Nat} {j p q : Nat} {x : Ent} {e : Int}
theorem bents_no (h : pread (bP l.length (bst l).last) b p = (x, q, e)) (he : e ≠ 0) : bents b (j + 1) l ps p = (l, ps, p, e, q) := by
  conv => lhs; unfold bents
  rw [h]; exact if_pos he
theorem bents_low (h : pread (bP l.length (bst l).last) b p = (x, q, 0)) (h2 : 0 < l.length ∧ 0 ≤ cmp (bst l).last x.1) : bents b (j + 1) l ps p = (l, ps, p, 51, p) := by
  conv => lhs; unfold bents
  rw [h]; exact (if_neg (fun e => e rfl)).trans (if_pos h2)
theorem bents_go (h : pread (bP l.length (bst l).last) b p = (x, q, 0)) (h2 : ¬ (0 < l.length ∧ 0 ≤ cmp (bst l).last x.1)) : bents b (j + 1) l ps p = bents b j (l ++ [x]) (ps ++ [p]) q := by
  conv => lhs; unfold bents
  rw [h]; exact (if_neg (fun e => e rfl)).trans (if_neg h2)
theorem bentries_no {n : Nat} (h : rd b 0 0 = (n, q, e)) (he : e ≠ 0) : bentries b = ([], [], 0, e, q) := by unfold bentries; rw [h]; exact if_pos he
theorem bentries_bad {n : Nat} (h : rd b 0 0 = (n, q, 0)) (h2 : n < 1 ∨ 64 < n) : bentries b = ([], [], 0, 61, 0) := by unfold bentries; rw [h]; exact (if_neg (fun e => e rfl)).trans (if_pos h2)
theorem bentries_go {n : Nat} (h : rd b 0 0 = (n, q, 0)) (h2 : ¬ (n < 1 ∨ 64 < n)) : bentries b = bents b n [] [] q := by unfold bentries; rw [h]; exact (if_neg (fun e => e rfl)).trans (if_neg h2)
end
/-- the places of the restarts; what the table is -/
def bruns : Nat → List Nat → List Nat
  | _, [] => []
  | i, a :: r => if i % 8 = 0 then a :: bruns (i + 1) r else bruns (i + 1) r
def bmark2 (a : Nat) : List UInt8 := [UInt8.ofNat a, UInt8.ofNat (a / 256)]
def bwant (l : List Nat) : List UInt8 := l.flatMap bmark2
theorem bruns_snoc : ∀ (l : List Nat) (i a : Nat), bruns i (l ++ [a]) = bruns i l ++ (if (i + l.length) % 8 = 0 then [a] else [])
  | [], i, a => by
    show (if i % 8 = 0 then a :: bruns (i + 1) [] else bruns (i + 1) []) = _
    show (if i % 8 = 0 then [a] else []) = [] ++ _
    simp
  | x :: r, i, a => by
    have := bruns_snoc r (i + 1) a
    have e : i + (x :: r).length = i + 1 + r.length := by rw [List.length_cons]; omega
    rw [e]
    show (if i % 8 = 0 then x :: bruns (i + 1) (r ++ [a]) else bruns (i + 1) (r ++ [a])) = (if i % 8 = 0 then x :: bruns (i + 1) r else bruns (i + 1) r) ++ _
    split <;> simp [this]
/-- the table, and that nothing stands behind: the place, the error -/
def btable (b : List UInt8) : List UInt8 → Nat → Nat × Int
  | [], p => if p < b.length then (p, 63) else (0, 0)
  | c :: r, p => if b[p]? = some c then btable b r (p + 1) else (p, 62)
theorem btable_end {b : List UInt8} {p : Nat} (h : p < b.length) : btable b [] p = (p, 63) := if_pos h
theorem btable_ok {b : List UInt8} {p : Nat} (h : ¬ p < b.length) : btable b [] p = (0, 0) := if_neg h
theorem btable_go {b r : List UInt8} {c : UInt8} {p : Nat} (h : b[p]? = some c) : btable b (c :: r) p = btable b r (p + 1) := by
  conv => lhs; unfold btable
  exact if_pos h
theorem btable_no {b r : List UInt8} {c : UInt8} {p : Nat} (h : b[p]? ≠ some c) : btable b (c :: r) p = (p, 62) := by
  conv => lhs; unfold btable
  exact if_neg h
/-- a block: the entries, the error's place, the error -/
def bread (b : List UInt8) : List Ent × Nat × Int :=
  if (bentries b).2.2.2.1 ≠ 0 then ([], (bentries b).2.2.2.2, (bentries b).2.2.2.1)
  else if (btable b (bwant (bruns 0 (bentries b).2.1)) (bentries b).2.2.1).2 ≠ 0 then ([], (btable b (bwant (bruns 0 (bentries b).2.1)) (bentries b).2.2.1).1, (btable b (bwant (bruns 0 (bentries b).2.1)) (bentries b).2.2.1).2)
  else ((bentries b).1, 0, 0)
section
variable {b : List UInt8} {l : List Ent} {ps : List Nat} {p q : Nat} {e : Int}
theorem bread_no (h : bentries b = (l, ps, p, e, q)) (he : e ≠ 0) : bread b = ([], q, e) := by unfold bread; rw [h]; exact if_pos he
theorem bread_tab {p' q' : Nat} (h : bentries b = (l, ps, p, 0, q)) (h2 : btable b (bwant (bruns 0 ps)) p = (q', e)) (he : e ≠ 0) : bread b = ([], q', e) := by
  unfold bread; rw [h]; dsimp only; rw [h2]; exact (if_neg (fun e => e rfl)).trans (if_pos he)
theorem bread_ok {q' : Nat} (h : bentries b = (l, ps, p, 0, q)) (h2 : btable b (bwant (bruns 0 ps)) p = (q', 0)) : bread b = (l, 0, 0) := by
  unfold bread; rw [h]; dsimp only; rw [h2]; exact (if_neg (fun e => e rfl)).trans (if_neg (fun e => e rfl))
end
/-- of what was read: entries that may be, each behind its forerunners; places within the bytes -/
theorem pread_in {p b : List UInt8} {a : Nat} {x : Ent} {q : Nat} (h : pread p b a = (x, q, 0)) (ha : a ≤ b.length) : chk x = 0 ∧ a < q ∧ q ≤ b.length ∧ (p.length = 0 ∨ cmp p x.1 < 0) := by
  obtain ⟨⟨ns, a3, e⟩, hr⟩ : ∃ R, pr3 b 3 [] a = R := ⟨_, rfl⟩
  by_cases he : e = 0
  · subst he
    obtain ⟨⟨s, i, e1⟩, h0⟩ : ∃ R, rd (b.drop a) 0 0 = R := ⟨_, rfl⟩
    by_cases f1 : e1 = 0
    · subst f1
      obtain ⟨⟨m, j, e2⟩, h1⟩ : ∃ R, rd (b.drop (a + i)) 0 0 = R := ⟨_, rfl⟩
      by_cases f2 : e2 = 0
      · subst f2
        obtain ⟨⟨l, t, e3⟩, h2⟩ : ∃ R, rd (b.drop (a + i + j)) 0 0 = R := ⟨_, rfl⟩
        by_cases f3 : e3 = 0
        · subst f3
          have h3 := pr3_ok h0 h1 h2
          rw [pread_ok h3] at h
          obtain ⟨l0, t0, n0⟩ := rd_vbs h0
          obtain ⟨l1, t1, n1⟩ := rd_vbs h1
          obtain ⟨l2, t2, n2⟩ := rd_vbs h2
          simp only [List.length_drop] at l0 l1 l2
          have p0 := vb_pos s
          obtain ⟨z, hz⟩ : ∃ z, a + i + j + t = z := ⟨_, rfl⟩
          rw [hz] at h
          by_cases c1 : p.length < s
          · rw [pend_s c1] at h; simp at h
          by_cases c2 : 64 < m ∨ 256 < l ∨ s + m = 0 ∨ 64 < s + m
          · rw [pend_long c1 c2] at h; simp at h
          by_cases c3 : b.length - z < m + l
          · rw [pend_short c1 c2 c3] at h; simp at h
          by_cases c4 : com p (p.take s ++ (b.drop z).take m) = s
          · by_cases c5 : 0 < p.length ∧ 0 ≤ cmp p (p.take s ++ (b.drop z).take m)
            · rw [pend_cmp c1 c2 c3 c4 c5] at h; simp at h
            · rw [pend_ok c1 c2 c3 c4 c5] at h
              simp only [Prod.mk.injEq] at h
              obtain ⟨rfl, rfl, _⟩ := h
              refine ⟨?_, by omega, by omega, ?_⟩
              · unfold chk chkN keyN valN
                simp only [List.length_append, List.length_take, List.length_drop]
                rw [if_neg (by omega), if_neg (by omega)]; rfl
              · dsimp only
                by_cases hp : p.length = 0
                · exact .inl hp
                · right
                  have : ¬ (0 ≤ cmp p (p.take s ++ (b.drop z).take m)) := fun h => c5 ⟨by omega, h⟩
                  omega
          · rw [pend_com c1 c2 c3 c4] at h; simp at h
        · have h3 : pr3 b 3 [] a = ([], a + i + j + t, e3) := by rw [pr3_go h0, pr3_go h1, pr3_no h2 f3]
          rw [h3] at hr; simp only [Prod.mk.injEq] at hr; exact absurd hr.2.2 f3
      · have h3 : pr3 b 3 [] a = ([], a + i + j, e2) := by rw [pr3_go h0, pr3_no h1 f2]
        rw [h3] at hr; simp only [Prod.mk.injEq] at hr; exact absurd hr.2.2 f2
    · have h3 : pr3 b 3 [] a = ([], a + i, e1) := by rw [pr3_no h0 f1]
      rw [h3] at hr; simp only [Prod.mk.injEq] at hr; exact absurd hr.2.2 f1
  · rw [pread_no hr he] at h
    simp only [Prod.mk.injEq] at h; exact absurd h.2.2 he
end Go.Proofs.Yteedjgjkldbbcaa
