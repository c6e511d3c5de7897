/- What is read of bytes behind a text: plain words, no program. No condition. -/
import Derived.Test.YteedjgjkldbbcaaEntM
import Derived.Test.YteedjgjkldbbcaaVintM
namespace Go.Proofs.Yteedjgjkldbbcaa

/-- j numbers more behind l, from a place on: the numbers, where they end, the error -/
def pr3 (b : List UInt8) : Nat → List Nat → Nat → List Nat × Nat × Int
  | 0, l, a => (l, a, 0)
  | j + 1, l, a => if (rd (b.drop a) 0 0).2.2 = 0 then pr3 b j (l ++ [(rd (b.drop a) 0 0).1]) (a + (rd (b.drop a) 0 0).2.1) else ([], a + (rd (b.drop a) 0 0).2.1, (rd (b.drop a) 0 0).2.2)
theorem pr3_go {b : List UInt8} {j : Nat} {l : List Nat} {a v k : Nat} (h : rd (b.drop a) 0 0 = (v, k, 0)) : pr3 b (j + 1) l a = pr3 b j (l ++ [v]) (a + k) := by
  conv => lhs; unfold pr3
  rw [h]; rfl
theorem pr3_no {b : List UInt8} {j : Nat} {l : List Nat} {a v k : Nat} {e : Int} (h : rd (b.drop a) 0 0 = (v, k, e)) (he : e ≠ 0) : pr3 b (j + 1) l a = ([], a + k, e) := by
  conv => lhs; unfold pr3
  rw [h]; rw [if_neg he]
/-- the numbers being known -/
def pend (p b : List UInt8) (a s m l a3 : Nat) : Ent × Nat × Int :=
  if p.length < s then (([], []), a, 52) else if 64 < m ∨ 256 < l ∨ s + m = 0 ∨ 64 < s + m then (([], []), a, 3) else if b.length - a3 < m + l then (([], []), b.length, 53)
  else if com p (p.take s ++ (b.drop a3).take m) ≠ s then (([], []), a, 52) else if 0 < p.length ∧ 0 ≤ cmp p (p.take s ++ (b.drop a3).take m) then (([], []), a, 51)
  else ((p.take s ++ (b.drop a3).take m, (b.drop (a3 + m)).take l), a3 + m + l, 0)
/-- the entry, where it ends, the error -/
def pread (p b : List UInt8) (a : Nat) : Ent × Nat × Int :=
  if (pr3 b 3 [] a).2.2 = 0 then pend p b a ((pr3 b 3 [] a).1.getD 0 0) ((pr3 b 3 [] a).1.getD 1 0) ((pr3 b 3 [] a).1.getD 2 0) (pr3 b 3 [] a).2.1 else (([], []), (pr3 b 3 [] a).2.1, (pr3 b 3 [] a).2.2)
theorem pread_ok {p b : List UInt8} {a s m l a3 : Nat} (h : pr3 b 3 [] a = ([s, m, l], a3, 0)) : pread p b a = pend p b a s m l a3 := by unfold pread; rw [h]; rfl
theorem pread_no {p b : List UInt8} {a q : Nat} {e : Int} {x : List Nat} (h : pr3 b 3 [] a = (x, q, e)) (he : e ≠ 0) : pread p b a = (([], []), q, e) := by unfold pread; rw [h, if_neg he]
theorem pr3_ok {b : List UInt8} {a s j m k n i : Nat} (h0 : rd (b.drop a) 0 0 = (s, j, 0)) (h1 : rd (b.drop (a + j)) 0 0 = (m, k, 0)) (h2 : rd (b.drop (a + j + k)) 0 0 = (n, i, 0)) : pr3 b 3 [] a = ([s, m, n], a + j + k + i, 0) := by
  rw [pr3_go h0, pr3_go h1, pr3_go h2]; rfl
section
variable {p b : List UInt8} {a s m l a3 : Nat}
theorem pend_s (h : p.length < s) : pend p b a s m l a3 = (([], []), a, 52) := by unfold pend; rw [if_pos h]
theorem pend_long (h : ¬ p.length < s) (h2 : 64 < m ∨ 256 < l ∨ s + m = 0 ∨ 64 < s + m) : pend p b a s m l a3 = (([], []), a, 3) := by unfold pend; rw [if_neg h, if_pos h2]
theorem pend_short (h : ¬ p.length < s) (h2 : ¬ (64 < m ∨ 256 < l ∨ s + m = 0 ∨ 64 < s + m)) (h3 : b.length - a3 < m + l) : pend p b a s m l a3 = (([], []), b.length, 53) := by unfold pend; rw [if_neg h, if_neg h2, if_pos h3]
theorem pend_com (h : ¬ p.length < s) (h2 : ¬ (64 < m ∨ 256 < l ∨ s + m = 0 ∨ 64 < s + m)) (h3 : ¬ b.length - a3 < m + l) (h4 : com p (p.take s ++ (b.drop a3).take m) ≠ s) : pend p b a s m l a3 = (([], []), a, 52) := by
  unfold pend; rw [if_neg h, if_neg h2, if_neg h3, if_pos h4]
theorem pend_cmp (h : ¬ p.length < s) (h2 : ¬ (64 < m ∨ 256 < l ∨ s + m = 0 ∨ 64 < s + m)) (h3 : ¬ b.length - a3 < m + l) (h4 : com p (p.take s ++ (b.drop a3).take m) = s) (h5 : 0 < p.length ∧ 0 ≤ cmp p (p.take s ++ (b.drop a3).take m)) : pend p b a s m l a3 = (([], []), a, 51) := by
  unfold pend; rw [if_neg h, if_neg h2, if_neg h3, if_neg (fun e => e h4), if_pos h5]
theorem pend_ok (h : ¬ p.length < s) (h2 : ¬ (64 < m ∨ 256 < l ∨ s + m = 0 ∨ 64 < s + m)) (h3 : ¬ b.length - a3 < m + l) (h4 : com p (p.take s ++ (b.drop a3).take m) = s) (h5 : ¬ (0 < p.length ∧ 0 ≤ cmp p (p.take s ++ (b.drop a3).take m))) :
    pend p b a s m l a3 = ((p.take s ++ (b.drop a3).take m, (b.drop (a3 + m)).take l), a3 + m + l, 0) := by
  unfold pend; rw [if_neg h, if_neg h2, if_neg h3, if_neg (fun e => e h4), if_neg h5]
end
end Go.Proofs.Yteedjgjkldbbcaa
