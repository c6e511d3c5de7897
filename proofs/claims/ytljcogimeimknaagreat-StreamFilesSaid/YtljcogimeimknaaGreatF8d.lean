/- Several texts in one: BlockPlaceM, FilePlaceM. Each has its own sentence and conditions below. -/
import Derived.Test.YtljcogimeimknaaGreatF8t
import Derived.Test.YtljcogimeimknaaGreatF8a
/- Where a reading of a block ends, or errs: within the bytes. No condition. -/
namespace Go.Proofs.YtljcogimeimknaaGreat
set_option linter.unusedVariables false

theorem rd_place : ∀ (l : List UInt8) (k v : Nat), (rd l k v).2.1 ≤ k + l.length
  | [], k, v => by rw [rd_nil]; exact Nat.le_refl _
  | c :: r, k, v => by
    by_cases h1 : k = 9 ∧ 1 < c.toNat
    · rw [rd_long h1]; exact Nat.le_add_right _ _
    · by_cases h2 : 0 < k ∧ c.toNat = 0
      · rw [rd_form h2]; exact Nat.le_add_right _ _
      · by_cases h3 : c.toNat < 128
        · rw [rd_last h1 h2 h3, List.length_cons]; show k + 1 ≤ _; omega
        · rw [rd_go h1 h2 h3, List.length_cons]
          have := rd_place r (k + 1) (v + c.toNat % 128 * 128 ^ k)
          omega
end Go.Proofs.YtljcogimeimknaaGreat
/- Places that a foot's reading and an opened frame tell lie within the bytes: plain. No condition. -/
namespace Go.Proofs.YtljcogimeimknaaGreat
set_option linter.unusedVariables false

section
variable {b k : List UInt8} {x y A : Int} {p : Nat} {rs : List Row}
theorem rd_spot (hp : p ≤ b.length) : p + (rd (b.drop p) 0 0).2.1 ≤ b.length := by
  have := rd_place (b.drop p) 0 0
  rw [List.length_drop] at this; omega
theorem fr1_place (hp : p ≤ b.length) : (fr1 b k x y p).2.1 ≤ b.length := by
  have h := rd_spot hp
  unfold fr1; dsimp only
  split
  · exact h
  split
  · exact hp
  · exact h
theorem fr2_place (hp : p ≤ b.length) : (fr2 b k x p).2.1 ≤ b.length := by
  have h := rd_spot hp
  unfold fr2; dsimp only
  split
  · exact h
  split
  · exact hp
  · exact fr1_place h
theorem fr3_place (hp : p ≤ b.length) : (fr3 b k A p).2.1 ≤ b.length := by
  have h := rd_spot hp
  unfold fr3; dsimp only
  split
  · exact h
  split
  · exact hp
  · exact fr2_place h
theorem fky_place (hp : p ≤ b.length) : (fky b rs p).2.1 ≤ b.length := by
  have h := rd_spot hp
  unfold fky; dsimp only
  split
  · exact h
  split
  · exact hp
  split
  · exact Nat.le_refl _
  split
  · exact hp
  · show p + _ + _ ≤ _; omega
theorem frow_place (hp : p ≤ b.length) : (frow b rs p).2.1 ≤ b.length := by
  unfold frow
  split
  · exact fky_place hp
  · exact fr3_place (fky_place hp)
theorem frd_place : ∀ (j : Nat) (rs : List Row) (p : Nat), p ≤ b.length → (frd b j rs p).2.1 ≤ b.length
  | 0, rs, p, hp => hp
  | j + 1, rs, p, hp => by
    unfold frd
    split
    · exact frow_place hp
    · exact frd_place j _ _ (frow_place hp)
theorem fread_place (b : List UInt8) : (fread b).2.1 ≤ b.length := by
  have h := rd_spot (b := b) (p := 0) (Nat.zero_le _)
  rw [List.drop_zero, Nat.zero_add] at h
  unfold fread; dsimp only
  split
  · exact h
  split
  · exact Nat.zero_le _
  have h2 := frd_place (b := b) (rd b 0 0).1 [] _ h
  split
  · exact h2
  have h3 := rd_spot h2
  unfold ftl; dsimp only
  split
  · exact h3
  split
  · exact h2
  split
  · exact h3
  · exact Nat.zero_le _
end
theorem fin_place (F : List UInt8) (k : UInt8) : (fin F k).2.2 ≤ F.length + 1 := by
  have h := rd_place (F.drop 1) 0 0
  rw [List.length_drop] at h
  unfold fin
  split
  · exact Nat.zero_le _
  unfold finR
  split
  · show 1 + _ ≤ _; omega
  split
  · show 1 ≤ _; omega
  unfold finC
  split
  · show F.length - 4 ≤ _; omega
  · show 1 + _ ≤ _; omega
theorem fin_len (F : List UInt8) (k : UInt8) : (fin F k).1.length ≤ F.length := by
  unfold fin
  split
  · exact Nat.zero_le _
  unfold finR
  split
  · exact Nat.zero_le _
  split
  · exact Nat.zero_le _
  unfold finC
  split
  · exact Nat.zero_le _
  show (openV _).length ≤ _
  unfold openV
  split
  · exact Nat.zero_le _
  split
  · rw [List.length_take, List.length_drop]; omega
  · exact Nat.zero_le _
end Go.Proofs.YtljcogimeimknaaGreat
