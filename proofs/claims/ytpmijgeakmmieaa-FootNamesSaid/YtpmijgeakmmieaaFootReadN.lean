/- What a row that was read is: plain words. No condition. -/
import Derived.Test.YtpmijgeakmmieaaFootReadM
import Derived.Test.YtpmijgeakmmieaaVintNumsM
namespace Go.Proofs.Ytpmijgeakmmieaa
set_option linter.unusedVariables false

section
variable {b k : List UInt8} {x y A : Int} {p q : Nat} {e : Int} {rs : List Row} {r : Row}
theorem rd_drop_in {v d : Nat} (hp : p ≤ b.length) (h : rd (b.drop p) 0 0 = (v, d, 0)) : p + d ≤ b.length ∧ v < 18446744073709551616 ∧ (b.drop p).take d = vb v ∧ d = (vb v).length := by
  obtain ⟨h1, h2⟩ := rd_in h
  obtain ⟨_, h3, h4⟩ := rd_vbs h
  rw [List.length_drop] at h1
  exact ⟨by omega, h2, h3, h4⟩
theorem fr1_in (hp : p ≤ b.length) (h : fr1 b k x y p = (r, q, 0)) : ∃ z : Nat, r = (k, x, y, (z : Int)) ∧ 1 ≤ z ∧ z ≤ 64 ∧ q ≤ b.length ∧ p ≤ q ∧ (b.drop p).take (q - p) = vb z ∧ q = p + (vb z).length := by
  obtain ⟨⟨v, d, e0⟩, hr⟩ : ∃ X, rd (b.drop p) 0 0 = X := ⟨_, rfl⟩
  by_cases he : e0 = 0
  · subst he
    obtain ⟨h1, h2, h3, h4⟩ := rd_drop_in hp hr
    by_cases hb : v < 1 ∨ 64 < v
    · rw [fr1_bad hr hb] at h; simp only [Prod.mk.injEq] at h; exact absurd h.2.2 (by decide)
    · rw [fr1_ok hr hb] at h
      simp only [Prod.mk.injEq] at h
      obtain ⟨rfl, rfl, _⟩ := h
      exact ⟨v, rfl, by omega, by omega, h1, by omega, by rw [show p + d - p = d by omega]; exact h3, by omega⟩
  · rw [fr1_no hr he] at h; simp only [Prod.mk.injEq] at h; exact absurd h.2.2 he
theorem fr2_in (hp : p ≤ b.length) (h : fr2 b k x p = (r, q, 0)) : ∃ y z : Nat, r = (k, x, (y : Int), (z : Int)) ∧ (1 ≤ y ∧ y ≤ 131072) ∧ (1 ≤ z ∧ z ≤ 64) ∧ q ≤ b.length ∧ p ≤ q ∧ (b.drop p).take (q - p) = vb y ++ vb z ∧ q = p + (vb y).length + (vb z).length := by
  obtain ⟨⟨v, d, e0⟩, hr⟩ : ∃ X, rd (b.drop p) 0 0 = X := ⟨_, rfl⟩
  by_cases he : e0 = 0
  · subst he
    obtain ⟨h1, h2, h3, h4⟩ := rd_drop_in hp hr
    by_cases hb : v < 1 ∨ 131072 < v
    · rw [fr2_bad hr hb] at h; simp only [Prod.mk.injEq] at h; exact absurd h.2.2 (by decide)
    · rw [fr2_ok hr hb] at h
      obtain ⟨z, rfl, g1, g2, g3, g4, g5, g6⟩ := fr1_in h1 h
      refine ⟨v, z, rfl, by omega, by omega, g3, by omega, ?_, by omega⟩
      rw [show q - p = d + (q - (p + d)) by omega, List.take_add, h3, List.drop_drop, g5]
  · rw [fr2_no hr he] at h; simp only [Prod.mk.injEq] at h; exact absurd h.2.2 he
theorem fr3_in (hA : 0 ≤ A) (hp : p ≤ b.length) (h : fr3 b k A p = (r, q, 0)) : ∃ y z : Nat, r = (k, A, (y : Int), (z : Int)) ∧ (1 ≤ y ∧ y ≤ 131072) ∧ (1 ≤ z ∧ z ≤ 64) ∧ q ≤ b.length ∧ p ≤ q ∧ (b.drop p).take (q - p) = vb A.toNat ++ (vb y ++ vb z) ∧ q = p + (vb A.toNat).length + (vb y).length + (vb z).length := by
  obtain ⟨⟨v, d, e0⟩, hr⟩ : ∃ X, rd (b.drop p) 0 0 = X := ⟨_, rfl⟩
  by_cases he : e0 = 0
  · subst he
    obtain ⟨h1, h2, h3, h4⟩ := rd_drop_in hp hr
    by_cases hb : (v : Int) = A
    · rw [fr3_ok hr hb] at h
      have hv : v = A.toNat := by omega
      rw [hv] at h3 h4
      obtain ⟨y, z, rfl, g1, g2, g3, g4, g5, g6⟩ := fr2_in h1 h
      refine ⟨y, z, rfl, g1, g2, g3, by omega, ?_, by omega⟩
      rw [show q - p = d + (q - (p + d)) by omega, List.take_add, h3, List.drop_drop, g5]
    · rw [fr3_bad hr hb] at h; simp only [Prod.mk.injEq] at h; exact absurd h.2.2 (by decide)
  · rw [fr3_no hr he] at h; simp only [Prod.mk.injEq] at h; exact absurd h.2.2 he
theorem fky_back (hp : p ≤ b.length) (h : fky b rs p = (k, q, 0)) : q ≤ b.length ∧ p ≤ q ∧ (1 ≤ k.length ∧ k.length ≤ 64) ∧ upR rs k = true ∧ (b.drop p).take (q - p) = vb k.length ++ k ∧ q = p + (vb k.length).length + k.length := by
  obtain ⟨⟨v, d, e0⟩, hr⟩ : ∃ X, rd (b.drop p) 0 0 = X := ⟨_, rfl⟩
  by_cases he : e0 = 0
  · subst he
    obtain ⟨g1, g2, g3, g4⟩ := rd_drop_in hp hr
    by_cases h2 : v < 1 ∨ 64 < v
    · rw [fky_bad hr h2] at h; cases h
    by_cases h3 : b.length - (p + d) < v
    · rw [fky_short hr h2 h3] at h; cases h
    rcases h4 : upR rs ((b.drop (p + d)).take v) with _ | _
    · rw [fky_low hr h2 h3 h4] at h; cases h
    · rw [fky_ok hr h2 h3 h4] at h
      simp only [Prod.mk.injEq] at h
      obtain ⟨rfl, rfl, _⟩ := h
      have hl : ((b.drop (p + d)).take v).length = v := by rw [List.length_take, List.length_drop]; omega
      refine ⟨by omega, by omega, by omega, h4, ?_, by rw [hl]; omega⟩
      rw [hl, show p + d + v - p = d + v by omega, List.take_add, g3, List.drop_drop]
  · rw [fky_no hr he] at h
    simp only [Prod.mk.injEq] at h
    exact absurd h.2.2 he
theorem frow_in (hA : 0 ≤ endR rs) (hp : p ≤ b.length) (h : frow b rs p = (r, q, 0)) : q ≤ b.length ∧ p ≤ q ∧ (1 ≤ r.1.length ∧ r.1.length ≤ 64) ∧ upR rs r.1 = true ∧ r.2.1 = endR rs ∧ (1 ≤ r.2.2.1 ∧ r.2.2.1 ≤ 131072) ∧ (1 ≤ r.2.2.2 ∧ r.2.2.2 ≤ 64) ∧
    (b.drop p).take (q - p) = rowB r := by
  obtain ⟨⟨k, m, e0⟩, hk⟩ : ∃ X, fky b rs p = X := ⟨_, rfl⟩
  by_cases he : e0 = 0
  · subst he
    rw [frow_go hk] at h
    obtain ⟨g1, g2, g3, g4, g5, g6⟩ := fky_back hp hk
    obtain ⟨y, z, rfl, k1, k2, k3, k4, k5, k6⟩ := fr3_in hA g1 h
    refine ⟨k3, by omega, g3, g4, rfl, ⟨by show (1 : Int) ≤ (y : Int); omega, by show (y : Int) ≤ 131072; omega⟩, ⟨by show (1 : Int) ≤ (z : Int); omega, by show (z : Int) ≤ 64; omega⟩, ?_⟩
    rw [show q - p = (m - p) + (q - m) by omega, List.take_add, g5, List.drop_drop, show p + (m - p) = m by omega, k5]
    unfold rowB vbs
    simp
  · rw [frow_no hk he] at h
    simp only [Prod.mk.injEq] at h
    exact absurd h.2.2 he
end
end Go.Proofs.Ytpmijgeakmmieaa
