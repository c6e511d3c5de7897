/- What is read of a foot: plain words. No condition. -/
import Derived.Test.YtpmijgeakmmieaaFootM
import Derived.Test.YtpmijgeakmmieaaFootBytesM
import Derived.Test.YtpmijgeakmmieaaVintM
namespace Go.Proofs.Ytpmijgeakmmieaa
set_option linter.unusedVariables false

abbrev dr : Row := ([], 0, 0, 0)
/-- where the frames end -/
def endR (rs : List Row) : Int := match rs.getLast? with
  | some r => r.2.1 + r.2.2.1
  | none => 8
/-- may a key stand behind rows -/
def upR (rs : List Row) (k : List UInt8) : Bool := match rs.getLast? with
  | some r => decide (cmp r.1 k < 0)
  | none => true
theorem endR_nil : endR [] = 8 := rfl
theorem upR_nil (k : List UInt8) : upR [] k = true := rfl
theorem endR_snoc (rs : List Row) (r : Row) : endR (rs ++ [r]) = r.2.1 + r.2.2.1 := by unfold endR; simp
theorem upR_snoc (rs : List Row) (r : Row) (k : List UInt8) : upR (rs ++ [r]) k = decide (cmp r.1 k < 0) := by unfold upR; simp
/-- the entries of a row, its other words being known -/
def fr1 (b : List UInt8) (k : List UInt8) (x y : Int) (p : Nat) : Row × Nat × Int :=
  let d := rd (b.drop p) 0 0
  if d.2.2 ≠ 0 then (dr, p + d.2.1, d.2.2) else if d.1 < 1 ∨ 64 < d.1 then (dr, p, 75) else ((k, x, y, (d.1 : Int)), p + d.2.1, 0)
def fr2 (b : List UInt8) (k : List UInt8) (x : Int) (p : Nat) : Row × Nat × Int :=
  let d := rd (b.drop p) 0 0
  if d.2.2 ≠ 0 then (dr, p + d.2.1, d.2.2) else if d.1 < 1 ∨ 131072 < d.1 then (dr, p, 74) else fr1 b k x (d.1 : Int) (p + d.2.1)
def fr3 (b : List UInt8) (k : List UInt8) (A : Int) (p : Nat) : Row × Nat × Int :=
  let d := rd (b.drop p) 0 0
  if d.2.2 ≠ 0 then (dr, p + d.2.1, d.2.2) else if (d.1 : Int) ≠ A then (dr, p, 73) else fr2 b k A (p + d.2.1)
/-- a key: it, where it ends or the error's place, the error -/
def fky (b : List UInt8) (rs : List Row) (p : Nat) : List UInt8 × Nat × Int :=
  let d := rd (b.drop p) 0 0
  if d.2.2 ≠ 0 then ([], p + d.2.1, d.2.2) else if d.1 < 1 ∨ 64 < d.1 then ([], p, 72) else if b.length - (p + d.2.1) < d.1 then ([], b.length, 77)
  else if upR rs ((b.drop (p + d.2.1)).take d.1) = false then ([], p, 72) else ((b.drop (p + d.2.1)).take d.1, p + d.2.1 + d.1, 0)
def frow (b : List UInt8) (rs : List Row) (p : Nat) : Row × Nat × Int :=
  if (fky b rs p).2.2 ≠ 0 then (dr, (fky b rs p).2.1, (fky b rs p).2.2) else fr3 b (fky b rs p).1 (endR rs) (fky b rs p).2.1
/-- j rows more -/
def frd (b : List UInt8) : Nat → List Row → Nat → List Row × Nat × Int
  | 0, rs, p => (rs, p, 0)
  | j + 1, rs, p => if (frow b rs p).2.2 ≠ 0 then ([], (frow b rs p).2.1, (frow b rs p).2.2) else frd b j (rs ++ [(frow b rs p).1]) (frow b rs p).2.1
/-- the total, the rows being known -/
def ftl (b : List UInt8) (rs : List Row) (p : Nat) : List Row × Nat × Int :=
  let d := rd (b.drop p) 0 0
  if d.2.2 ≠ 0 then ([], p + d.2.1, d.2.2) else if d.1 ≠ totU rs then ([], p, 76) else if p + d.2.1 < b.length then ([], p + d.2.1, 78) else (rs, 0, 0)
/-- the rows, the error's place, the error -/
def fread (b : List UInt8) : List Row × Nat × Int :=
  let d := rd b 0 0
  if d.2.2 ≠ 0 then ([], d.2.1, d.2.2) else if 8388608 < d.1 then ([], 0, 71) else
    if (frd b d.1 [] d.2.1).2.2 ≠ 0 then ([], (frd b d.1 [] d.2.1).2.1, (frd b d.1 [] d.2.1).2.2) else ftl b (frd b d.1 [] d.2.1).1 (frd b d.1 [] d.2.1).2.1
section
variable {b k : List UInt8} {x y A : Int} {p v q : Nat} {e : Int} {rs : List Row}
theorem fr1_no (h : rd (b.drop p) 0 0 = (v, q, e)) (he : e ≠ 0) : fr1 b k x y p = (dr, p + q, e) := by unfold fr1; rw [h]; exact if_pos he
theorem fr1_bad (h : rd (b.drop p) 0 0 = (v, q, 0)) (h2 : v < 1 ∨ 64 < v) : fr1 b k x y p = (dr, p, 75) := by unfold fr1; rw [h]; exact (if_neg (fun e => e rfl)).trans (if_pos h2)
theorem fr1_ok (h : rd (b.drop p) 0 0 = (v, q, 0)) (h2 : ¬ (v < 1 ∨ 64 < v)) : fr1 b k x y p = ((k, x, y, (v : Int)), p + q, 0) := by unfold fr1; rw [h]; exact (if_neg (fun e => e rfl)).trans (if_neg h2)
theorem fr2_no (h : rd (b.drop p) 0 0 = (v, q, e)) (he : e ≠ 0) : fr2 b k x p = (dr, p + q, e) := by unfold fr2; rw [h]; exact if_pos he
theorem fr2_bad (h : rd (b.drop p) 0 0 = (v, q, 0)) (h2 : v < 1 ∨ 131072 < v) : fr2 b k x p = (dr, p, 74) := by unfold fr2; rw [h]; exact (if_neg (fun e => e rfl)).trans (if_pos h2)
theorem fr2_ok (h : rd (b.drop p) 0 0 = (v, q, 0)) (h2 : ¬ (v < 1 ∨ 131072 < v)) : fr2 b k x p = fr1 b k x (v : Int) (p + q) := by
  conv => lhs; unfold fr2
  rw [h]; exact (if_neg (fun e => e rfl)).trans (if_neg h2)
theorem fr3_no (h : rd (b.drop p) 0 0 = (v, q, e)) (he : e ≠ 0) : fr3 b k A p = (dr, p + q, e) := by unfold fr3; rw [h]; exact if_pos he
theorem fr3_bad (h : rd (b.drop p) 0 0 = (v, q, 0)) (h2 : (v : Int) ≠ A) : fr3 b k A p = (dr, p, 73) := by unfold fr3; rw [h]; exact (if_neg (fun e => e rfl)).trans (if_pos h2)
theorem fr3_ok (h : rd (b.drop p) 0 0 = (v, q, 0)) (h2 : (v : Int) = A) : fr3 b k A p = fr2 b k A (p + q) := by
  conv => lhs; unfold fr3
  rw [h]; exact (if_neg (fun e => e rfl)).trans (if_neg (fun e => e h2))
theorem fky_no (h : rd (b.drop p) 0 0 = (v, q, e)) (he : e ≠ 0) : fky b rs p = ([], p + q, e) := by unfold fky; rw [h]; exact if_pos he
theorem fky_bad (h : rd (b.drop p) 0 0 = (v, q, 0)) (h2 : v < 1 ∨ 64 < v) : fky b rs p = ([], p, 72) := by unfold fky; rw [h]; exact (if_neg (fun e => e rfl)).trans (if_pos h2)
theorem fky_short (h : rd (b.drop p) 0 0 = (v, q, 0)) (h2 : ¬ (v < 1 ∨ 64 < v)) (h3 : b.length - (p + q) < v) : fky b rs p = ([], b.length, 77) := by
  unfold fky; rw [h]; exact (if_neg (fun e => e rfl)).trans ((if_neg h2).trans (if_pos h3))
theorem fky_low (h : rd (b.drop p) 0 0 = (v, q, 0)) (h2 : ¬ (v < 1 ∨ 64 < v)) (h3 : ¬ b.length - (p + q) < v) (h4 : upR rs ((b.drop (p + q)).take v) = false) : fky b rs p = ([], p, 72) := by
  unfold fky; rw [h]; exact (if_neg (fun e => e rfl)).trans ((if_neg h2).trans ((if_neg h3).trans (if_pos h4)))
theorem fky_ok (h : rd (b.drop p) 0 0 = (v, q, 0)) (h2 : ¬ (v < 1 ∨ 64 < v)) (h3 : ¬ b.length - (p + q) < v) (h4 : upR rs ((b.drop (p + q)).take v) = true) : fky b rs p = ((b.drop (p + q)).take v, p + q + v, 0) := by
  unfold fky; rw [h]; exact (if_neg (fun e => e rfl)).trans ((if_neg h2).trans ((if_neg h3).trans (if_neg (fun e => by rw [h4] at e; cases e))))
theorem frow_no {k' : List UInt8} (h : fky b rs p = (k', q, e)) (he : e ≠ 0) : frow b rs p = (dr, q, e) := by unfold frow; rw [h]; exact if_pos he
theorem frow_go (h : fky b rs p = (k, q, 0)) : frow b rs p = fr3 b k (endR rs) q := by unfold frow; rw [h]; exact if_neg (fun e => e rfl)
theorem frd_no {j : Nat} {r : Row} (h : frow b rs p = (r, q, e)) (he : e ≠ 0) : frd b (j + 1) rs p = ([], q, e) := by unfold frd; rw [h]; exact if_pos he
theorem frd_go {j : Nat} {r : Row} (h : frow b rs p = (r, q, 0)) : frd b (j + 1) rs p = frd b j (rs ++ [r]) q := by
  conv => lhs; unfold frd
  rw [h]; exact if_neg (fun e => e rfl)
theorem ftl_no (h : rd (b.drop p) 0 0 = (v, q, e)) (he : e ≠ 0) : ftl b rs p = ([], p + q, e) := by unfold ftl; rw [h]; exact if_pos he
theorem ftl_bad (h : rd (b.drop p) 0 0 = (v, q, 0)) (h2 : v ≠ totU rs) : ftl b rs p = ([], p, 76) := by unfold ftl; rw [h]; exact (if_neg (fun e => e rfl)).trans (if_pos h2)
theorem ftl_rest (h : rd (b.drop p) 0 0 = (v, q, 0)) (h2 : v = totU rs) (h3 : p + q < b.length) : ftl b rs p = ([], p + q, 78) := by
  unfold ftl; rw [h]; exact (if_neg (fun e => e rfl)).trans ((if_neg (fun e => e h2)).trans (if_pos h3))
theorem ftl_ok (h : rd (b.drop p) 0 0 = (v, q, 0)) (h2 : v = totU rs) (h3 : ¬ p + q < b.length) : ftl b rs p = (rs, 0, 0) := by
  unfold ftl; rw [h]; exact (if_neg (fun e => e rfl)).trans ((if_neg (fun e => e h2)).trans (if_neg h3))
theorem fread_no (h : rd b 0 0 = (v, q, e)) (he : e ≠ 0) : fread b = ([], q, e) := by unfold fread; rw [h]; exact if_pos he
theorem fread_many (h : rd b 0 0 = (v, q, 0)) (h2 : 8388608 < v) : fread b = ([], 0, 71) := by unfold fread; rw [h]; exact (if_neg (fun e => e rfl)).trans (if_pos h2)
theorem fread_bad {l : List Row} {p' : Nat} (h : rd b 0 0 = (v, q, 0)) (h2 : ¬ 8388608 < v) (h3 : frd b v [] q = (l, p', e)) (he : e ≠ 0) : fread b = ([], p', e) := by
  unfold fread; rw [h]; refine (if_neg (fun e => e rfl)).trans ((if_neg h2).trans ?_); dsimp only; rw [h3]; exact if_pos he
theorem fread_go {p' : Nat} (h : rd b 0 0 = (v, q, 0)) (h2 : ¬ 8388608 < v) (h3 : frd b v [] q = (rs, p', 0)) : fread b = ftl b rs p' := by
  unfold fread; rw [h]; refine (if_neg (fun e => e rfl)).trans ((if_neg h2).trans ?_); dsimp only; rw [h3]; exact if_neg (fun e => e rfl)
theorem fky_in (hp : p ≤ b.length) (h : fky b rs p = (k, q, 0)) : q ≤ b.length ∧ 1 ≤ k.length ∧ k.length ≤ 64 ∧ upR rs k = true := by
  obtain ⟨⟨v, d, e0⟩, hr⟩ : ∃ X, rd (b.drop p) 0 0 = X := ⟨_, rfl⟩
  by_cases he : e0 = 0
  · subst he
    obtain ⟨hd, _⟩ := rd_in hr
    rw [List.length_drop] at hd
    by_cases h2 : v < 1 ∨ 64 < v
    · rw [fky_bad hr h2] at h; cases h
    by_cases h3 : b.length - (p + d) < v
    · rw [fky_short hr h2 h3] at h; cases h
    rcases h4 : upR rs ((b.drop (p + d)).take v) with _ | _
    · rw [fky_low hr h2 h3 h4] at h; cases h
    · rw [fky_ok hr h2 h3 h4] at h
      simp only [Prod.mk.injEq] at h
      obtain ⟨rfl, rfl, _⟩ := h
      have hl : ((b.drop (p + d)).take v).length = v := by rw [List.length_take, List.length_drop]; omega
      exact ⟨by omega, by omega, by omega, h4⟩
  · rw [fky_no hr he] at h
    simp only [Prod.mk.injEq] at h
    exact absurd h.2.2 he
end
end Go.Proofs.Ytpmijgeakmmieaa
