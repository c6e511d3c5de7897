/- The bytes of rows: plain words. No condition. -/
import Derived.Test.YtpmijgeakmmieaaFootM
import Derived.Test.YtpmijgeakmmieaaVintJoin
namespace Go.Proofs.Ytpmijgeakmmieaa

/-- the bytes of a row -/
def rowB (r : Row) : List UInt8 := vb r.1.length ++ (r.1 ++ vbs [r.2.1.toNat, r.2.2.1.toNat, r.2.2.2.toNat])
/-- how many entries, as a number is written -/
def totU (rs : List Row) : Nat := (IntKind.u64.wrap (tot rs)).toNat
def fbytes (rs : List Row) : List UInt8 := vb rs.length ++ (rs.flatMap rowB ++ vb (totU rs))
def fbs (rs : List Row) : List UInt8 := if (fchk rs).2 = 0 then fbytes rs else []
theorem totU_lt (rs : List Row) : totU rs < 18446744073709551616 := by unfold totU; rw [IntKind.wrap_u64]; omega
theorem totU_eq (rs : List Row) : IntKind.u64.wrap (tot rs) = (totU rs : Nat) := by unfold totU; rw [IntKind.wrap_u64]; omega
/-- a row within its bounds -/
def Well (M : Int) (r : Row) : Prop := (1 ≤ r.1.length ∧ r.1.length ≤ 64) ∧ (8 ≤ r.2.1 ∧ r.2.1 ≤ M) ∧ (1 ≤ r.2.2.1 ∧ r.2.2.1 ≤ 131072) ∧ (1 ≤ r.2.2.2 ∧ r.2.2.2 ≤ 64)
theorem fck_all : ∀ (rs : List Row) (i : Nat) (p : Int) (l : List UInt8), 8 ≤ p → (fck i p l rs).2 = 0 → ∀ r, r ∈ rs → Well (p + 131072 * rs.length) r
  | [], _, _, _, _, _, _, hr => by cases hr
  | (k, x, y, z) :: rs, i, p, l, hp, h, r, hr => by
    by_cases h0 : (k.length = 0 ∨ 64 < k.length) ∨ (0 < i ∧ 0 ≤ cmp l k)
    · rw [fck_key h0] at h; cases h
    by_cases h1 : x = p
    · by_cases h2 : y < 1 ∨ 131072 < y
      · rw [fck_len h0 h1 h2] at h; cases h
      by_cases h3 : z < 1 ∨ 64 < z
      · rw [fck_ent h0 h1 h2 h3] at h; cases h
      rw [fck_go h0 h1 h2 h3] at h
      rcases List.mem_cons.1 hr with rfl | hr
      · refine ⟨?_, ?_, ?_, ?_⟩ <;> simp only [List.length_cons] <;> omega
      · obtain ⟨a, b, c, d⟩ := fck_all rs (i + 1) (p + y) k (by omega) h r hr
        refine ⟨a, ?_, c, d⟩
        simp only [List.length_cons]; omega
    · rw [fck_at h0 h1] at h; cases h
theorem fck_zero : ∀ (rs : List Row) (i : Nat) (p : Int) (l : List UInt8), (fck i p l rs).2 = 0 → (fck i p l rs).1 = 0
  | [], _, _, _, _ => rfl
  | (k, x, y, z) :: rs, i, p, l, h => by
    by_cases h0 : (k.length = 0 ∨ 64 < k.length) ∨ (0 < i ∧ 0 ≤ cmp l k)
    · rw [fck_key h0] at h; cases h
    by_cases h1 : x = p
    · by_cases h2 : y < 1 ∨ 131072 < y
      · rw [fck_len h0 h1 h2] at h; cases h
      by_cases h3 : z < 1 ∨ 64 < z
      · rw [fck_ent h0 h1 h2 h3] at h; cases h
      rw [fck_go h0 h1 h2 h3] at h ⊢
      exact fck_zero rs _ _ _ h
    · rw [fck_at h0 h1] at h; cases h
theorem fchk_zero {rs : List Row} (h : (fchk rs).2 = 0) : fchk rs = (0, 0) := by
  unfold fchk at h ⊢
  split at h
  · cases h
  · rename_i hm
    rw [if_neg hm]
    exact Prod.ext (fck_zero rs _ _ _ h) h
theorem fchk_all {rs : List Row} (h : (fchk rs).2 = 0) : rs.length ≤ 8388608 ∧ ∀ r, r ∈ rs → Well 1099511627784 r := by
  unfold fchk at h
  split at h
  · cases h
  · refine ⟨by omega, fun r hr => ?_⟩
    obtain ⟨a, b, c, d⟩ := fck_all rs 0 8 [] (by omega) h r hr
    exact ⟨a, by omega, c, d⟩
theorem rowB_len {r : Row} (h : Well 1099511627784 r) : (rowB r).length ≤ 104 := by
  obtain ⟨a, b, c, d⟩ := h
  have h0 := vb_ten (n := r.1.length) (by omega)
  have h1 := vb_ten (n := r.2.1.toNat) (by omega)
  have h2 := vb_ten (n := r.2.2.1.toNat) (by omega)
  have h3 := vb_ten (n := r.2.2.2.toNat) (by omega)
  unfold rowB vbs
  simp; omega
theorem rowsB_len : ∀ {rs : List Row}, (∀ r, r ∈ rs → Well 1099511627784 r) → (rs.flatMap rowB).length ≤ 104 * rs.length
  | [], _ => by simp
  | x :: rs, h => by
    have h1 := rowB_len (h x (by simp))
    have h2 := rowsB_len (rs := rs) fun r hr => h r (by simp [hr])
    rw [List.flatMap_cons, List.length_append, List.length_cons]; omega
theorem rowsB_take {rs : List Row} {k : Nat} {x : Row} (h : rs[k]? = some x) : (rs.take (k + 1)).flatMap rowB = (rs.take k).flatMap rowB ++ rowB x := by
  rw [rtake_snoc h, List.flatMap_append]; simp
theorem rowsB_upto {rs : List Row} (h : ∀ r, r ∈ rs → Well 1099511627784 r) (k : Nat) : ((rs.take k).flatMap rowB).length ≤ 104 * rs.length := by
  have := rowsB_len (rs := rs.take k) fun r hr => h r (List.mem_of_mem_take hr)
  have h2 : (rs.take k).length ≤ rs.length := by rw [List.length_take]; omega
  omega
theorem fbs_yes {rs : List Row} (h : (fchk rs).2 = 0) : fbs rs = fbytes rs := by unfold fbs; rw [if_pos h]
theorem fbs_no {rs : List Row} (h : (fchk rs).2 ≠ 0) : fbs rs = [] := by unfold fbs; rw [if_neg h]
theorem fbytes_len {rs : List Row} (h : (fchk rs).2 = 0) : (fbytes rs).length ≤ 873000000 := by
  obtain ⟨h1, h2⟩ := fchk_all h
  have h3 := rowsB_len h2
  have h4 := vb_ten (n := rs.length) (by omega)
  have h5 := vb_ten (totU_lt rs)
  unfold fbytes
  simp only [List.length_append]; omega
end Go.Proofs.Ytpmijgeakmmieaa
