/- Elimination over 32 words of 32 bits: plain words, no program. No condition. -/
import Derived.Test.YtaablclccklhnaaCrcPatchM
namespace Go.Proofs.Ytaablclccklhnaa

/-- the xors of rows -/
inductive Sp (T : Nat → BitVec 32) : BitVec 32 → Prop
  | zero : Sp T 0#32
  | add (i : Nat) (v : BitVec 32) : i < 32 → Sp T v → Sp T (v ^^^ T i)
theorem Sp.xor {T : Nat → BitVec 32} {a b : BitVec 32} (ha : Sp T a) (hb : Sp T b) : Sp T (a ^^^ b) := by
  induction hb with
  | zero => rw [BitVec.xor_zero]; exact ha
  | add i v hi _ ih => rw [← BitVec.xor_assoc]; exact .add i _ hi ih
theorem Sp.row {T : Nat → BitVec 32} (i : Nat) (hi : i < 32) : Sp T (T i) := by
  have := Sp.add (T := T) i _ hi .zero
  rwa [BitVec.zero_xor] at this
theorem Sp.over {T T' : Nat → BitVec 32} (h : ∀ i, i < 32 → Sp T' (T i)) {v : BitVec 32} (hv : Sp T v) : Sp T' v := by
  induction hv with
  | zero => exact .zero
  | add i v hi _ ih => exact ih.xor (h i hi)

/-- what the columns ahead say of column k -/
def colsum (T : Nat → BitVec 32) (k : Nat) (v : BitVec 32) : Nat → Bool
  | 0 => false
  | n + 1 => xor (colsum T k v n) (v.getLsbD n && (T n).getLsbD k)
theorem colsum_xor (T : Nat → BitVec 32) (k : Nat) (a b : BitVec 32) : ∀ n, colsum T k (a ^^^ b) n = xor (colsum T k a n) (colsum T k b n)
  | 0 => rfl
  | n + 1 => by
    unfold colsum
    rw [colsum_xor T k a b n, BitVec.getLsbD_xor]
    cases colsum T k a n <;> cases colsum T k b n <;> cases a.getLsbD n <;> cases b.getLsbD n <;> cases (T n).getLsbD k <;> rfl
theorem colsum_unit (T : Nat → BitVec 32) (k : Nat) (v : BitVec 32) (i : Nat) : ∀ n, (∀ j, j < n → v.getLsbD j = decide (i = j)) → colsum T k v n = (decide (i < n) && (T i).getLsbD k)
  | 0, _ => by simp [colsum]
  | n + 1, h => by
    unfold colsum
    rw [colsum_unit T k v i n (fun j hj => h j (by omega)), h n (by omega)]
    by_cases h1 : i = n
    · subst h1; simp
    · by_cases h2 : i < n
      · have : i < n + 1 := by omega
        simp [h1, h2, this]
      · have : ¬ i < n + 1 := by omega
        simp [h1, h2, this]
theorem colsum_zero (T : Nat → BitVec 32) (k : Nat) (v : BitVec 32) : ∀ n, (∀ j, j < n → v.getLsbD j = false) → colsum T k v n = false
  | 0, _ => rfl
  | n + 1, h => by unfold colsum; rw [colsum_zero T k v n (fun j hj => h j (by omega)), h n (by omega)]; rfl

/-- a pivot is there -/
theorem pivot {T : Nat → BitVec 32} {k : Nat} (hk : k < 32) (hu : ∀ i, i < 32 → ∀ j, j < k → (T i).getLsbD j = decide (i = j)) (hs : ∀ v, Sp T v) : ∃ p, k ≤ p ∧ p < 32 ∧ (T p).getLsbD k = true := by
  apply Classical.byContradiction
  intro hno
  have hz : ∀ p, k ≤ p → p < 32 → (T p).getLsbD k = false := by
    intro p h1 h2
    cases h : (T p).getLsbD k
    · rfl
    · exact absurd ⟨p, h1, h2, h⟩ hno
  have key : ∀ v, Sp T v → v.getLsbD k = colsum T k v k := by
    intro v hv
    induction hv with
    | zero => rw [colsum_zero T k _ k (fun j _ => by simp)]; simp
    | add i v hi _ ih =>
      rw [colsum_xor, BitVec.getLsbD_xor, ih, colsum_unit T k (T i) i k (hu i hi)]
      congr 1
      by_cases hik : i < k
      · simp [hik]
      · rw [hz i (by omega) hi]; simp
  have h1 := key (1#32 <<< k) (hs _)
  rw [one_bit k k hk, colsum_zero T k _ k (fun j hj => by rw [one_bit k j (by omega)]; simp; omega)] at h1
  simp at h1

/-- the state of the elimination ahead of column k -/
structure Elim (M : Nat) (k : Nat) (T Bt : Nat → BitVec 32) : Prop where
  img : ∀ i, i < 32 → T i = stpN M (Bt i)
  unit : ∀ i, i < 32 → ∀ j, j < k → (T i).getLsbD j = decide (i = j)
  span : ∀ v, Sp T v

theorem span_start (M : Nat) (T : Nat → BitVec 32) (hT : ∀ i, i < 32 → T i = stpN M (1#32 <<< i)) : ∀ v, Sp T v := by
  have h : ∀ (u : BitVec 32) (n : Nat), n ≤ 32 → Sp T (stpN M (lowb u n)) := by
    intro u n
    induction n with
    | zero => intro _; rw [show lowb u 0 = 0#32 from rfl, stpN_zero]; exact .zero
    | succ n ih =>
      intro hn
      unfold lowb
      rw [stpN_xor]
      cases u.getLsbD n
      · simp [stpN_zero]; exact ih (by omega)
      · rw [if_pos rfl, ← hT n (by omega)]; exact .add n _ (by omega) (ih (by omega))
  intro v
  have := h (bckN M v) 32 (Nat.le_refl _)
  rwa [lowb_all, stpN_bckN] at this
theorem Elim.start (M : Nat) (T Bt : Nat → BitVec 32) (hT : ∀ i, i < 32 → T i = stpN M (1#32 <<< i)) (hB : ∀ i, i < 32 → Bt i = 1#32 <<< i) : Elim M 0 T Bt :=
  ⟨fun i hi => by rw [hT i hi, hB i hi], fun _ _ j hj => absurd hj (by omega), span_start M T hT⟩

/-- two rows changed over -/
def swp (T : Nat → BitVec 32) (k p : Nat) (i : Nat) : BitVec 32 := if i = p then T k else if i = k then T p else T i
theorem swp_all {T : Nat → BitVec 32} {k p : Nat} (P : BitVec 32 → Prop) (hk : k < 32) (hp : p < 32) (h : ∀ i, i < 32 → P (T i)) : ∀ i, i < 32 → P (swp T k p i) := by
  intro i hi
  unfold swp
  split
  · exact h k hk
  · split
    · exact h p hp
    · exact h i hi

/-- the rows ahead of i (but k) cleared in column k -/
def clr (T D : Nat → BitVec 32) (k i : Nat) (j : Nat) : BitVec 32 := if j < i ∧ j ≠ k ∧ (T j).getLsbD k = true then D j ^^^ D k else D j
theorem clr_zero (T D : Nat → BitVec 32) (k : Nat) : clr T D k 0 = D := by funext j; unfold clr; rw [if_neg (by omega)]
theorem clr_step (T D : Nat → BitVec 32) (k i : Nat) : clr T D k (i + 1) = fun j => if j = i then (if i ≠ k ∧ (T i).getLsbD k = true then clr T D k i i ^^^ clr T D k i k else clr T D k i i) else clr T D k i j := by
  funext j
  by_cases h : j = i
  · subst h
    have e1 : clr T D k j j = D j := by unfold clr; rw [if_neg (by omega)]
    have e2 : clr T D k j k = D k := by unfold clr; rw [if_neg (by omega)]
    rw [if_pos rfl, e1, e2]
    unfold clr
    by_cases h2 : j ≠ k ∧ (T j).getLsbD k = true
    · rw [if_pos ⟨by omega, h2.1, h2.2⟩, if_pos h2]
    · rw [if_neg (fun h3 => h2 h3.2), if_neg h2]
  · rw [if_neg h]
    unfold clr
    by_cases h2 : j < i
    · simp [h2, show j < i + 1 by omega]
    · simp [h2, show ¬ j < i + 1 by omega]

theorem Elim.step {M k p : Nat} {T Bt : Nat → BitVec 32} (h : Elim M k T Bt) (hk : k < 32) (hkp : k ≤ p) (hp : p < 32) (hbit : (T p).getLsbD k = true) :
    Elim M (k + 1) (clr (swp T k p) (swp T k p) k 32) (clr (swp T k p) (swp Bt k p) k 32) := by
  have hkk : swp T k p k = T p := by unfold swp; by_cases e : k = p <;> simp [e]
  have hBk : swp Bt k p k = Bt p := by unfold swp; by_cases e : k = p <;> simp [e]
  have himg : ∀ i, i < 32 → swp T k p i = stpN M (swp Bt k p i) := by
    intro i hi
    unfold swp
    split
    · exact h.img k hk
    · split
      · exact h.img p hp
      · exact h.img i hi
  have hun : ∀ i, i < 32 → ∀ j, j < k → (swp T k p i).getLsbD j = decide (i = j) := by
    intro i hi j hj
    unfold swp
    split
    · rename_i e; rw [h.unit k hk j hj]; subst e; simp; omega
    · split
      · rename_i e; rw [h.unit p hp j hj]; subst e; simp; omega
      · exact h.unit i hi j hj
  have hsp1 : ∀ v, Sp (swp T k p) v := by
    intro v
    refine (h.span v).over fun i hi => ?_
    by_cases e1 : i = p
    · subst e1
      have := Sp.row (T := swp T k i) k hk
      rw [hkk] at this; exact this
    · by_cases e2 : i = k
      · subst e2
        have := Sp.row (T := swp T i p) p hp
        rw [show swp T i p p = T i by unfold swp; rw [if_pos rfl]] at this; exact this
      · have := Sp.row (T := swp T k p) i hi
        rw [show swp T k p i = T i by unfold swp; rw [if_neg e1, if_neg e2]] at this; exact this
  generalize swp T k p = T1 at *
  generalize swp Bt k p = B1 at *
  have hb1 : (T1 k).getLsbD k = true := by rw [hkk]; exact hbit
  have hck : clr T1 T1 k 32 k = T1 k := by unfold clr; rw [if_neg (by simp)]
  refine ⟨fun i hi => ?_, fun i hi j hj => ?_, fun v => ?_⟩
  · unfold clr
    by_cases c : i < 32 ∧ i ≠ k ∧ (T1 i).getLsbD k = true
    · rw [if_pos c, if_pos c, himg i hi, himg k hk, stpN_xor]
    · rw [if_neg c, if_neg c, himg i hi]
  · unfold clr
    by_cases c : i < 32 ∧ i ≠ k ∧ (T1 i).getLsbD k = true
    · rw [if_pos c, BitVec.getLsbD_xor]
      by_cases ej : j = k
      · subst ej; rw [hb1, c.2.2]; simp [c.2.1]
      · rw [hun i hi j (by omega), hun k hk j (by omega)]
        have : ¬ k = j := fun e => ej e.symm
        simp [this]
    · rw [if_neg c]
      by_cases ej : j = k
      · subst ej
        by_cases ei : i = j
        · subst ei; rw [hb1]; simp
        · have : (T1 i).getLsbD j = false := by
            cases hh : (T1 i).getLsbD j
            · rfl
            · exact absurd ⟨hi, ei, hh⟩ c
          rw [this]; simp [ei]
      · exact hun i hi j (by omega)
  · refine (hsp1 v).over fun i hi => ?_
    by_cases c : i < 32 ∧ i ≠ k ∧ (T1 i).getLsbD k = true
    · have e : T1 i = clr T1 T1 k 32 i ^^^ clr T1 T1 k 32 k := by
        rw [hck]; unfold clr; rw [if_pos c, BitVec.xor_assoc, BitVec.xor_self, BitVec.xor_zero]
      rw [e]; exact (Sp.row i hi).xor (Sp.row k hk)
    · have e : T1 i = clr T1 T1 k 32 i := by unfold clr; rw [if_neg c]
      rw [e]; exact Sp.row i hi

/-- the words of the bits that are set -/
def wsum (Bt : Nat → BitVec 32) (s : BitVec 32) : Nat → BitVec 32
  | 0 => 0#32
  | n + 1 => if s.getLsbD n then wsum Bt s n ^^^ Bt n else wsum Bt s n
theorem Elim.unit_row {M : Nat} {T Bt : Nat → BitVec 32} (h : Elim M 32 T Bt) (i : Nat) (hi : i < 32) : T i = 1#32 <<< i := by
  apply BitVec.eq_of_getLsbD_eq
  intro j hj
  rw [h.unit i hi j hj, one_bit i j hj]
  by_cases e : i = j
  · subst e; rfl
  · have : ¬ j = i := fun e2 => e e2.symm
    simp [e, this]
theorem Elim.ends {M : Nat} {T Bt : Nat → BitVec 32} (h : Elim M 32 T Bt) (s : BitVec 32) : ∀ n, n ≤ 32 → stpN M (wsum Bt s n) = lowb s n
  | 0, _ => by unfold wsum lowb; exact stpN_zero M
  | n + 1, hn => by
    have ih := h.ends s n (by omega)
    unfold wsum lowb
    cases s.getLsbD n
    · simp [ih]
    · rw [if_pos rfl, if_pos rfl, stpN_xor, ih, ← h.img n (by omega), h.unit_row n (by omega)]
theorem sum_put4 (xs : List UInt8) (m : Nat) (q : BitVec 32) : sum (put4 xs m q) = sum (put4 xs m 0#32) ^^^ stpN (8 * (xs.drop (m + 4)).length + 32) q := by
  have hn : ∀ a b : BitVec 32, ~~~(a ^^^ b) = ~~~a ^^^ b := by
    intro a b
    have e : ∀ s : BitVec 32, ~~~s = BitVec.allOnes 32 ^^^ s := fun s => (BitVec.allOnes_xor (x := s)).symm
    rw [e, e, BitVec.xor_assoc]
  unfold sum
  rw [inn_put4, inn_put4, stpN_xor, inn_xor, BitVec.xor_zero, hn, ← stpN_add]
end Go.Proofs.Ytaablclccklhnaa
