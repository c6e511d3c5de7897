/- Rows of a foot: plain words, and what a slice of them reads as. No condition. -/
import Derived.Test.YtpmijgeakmmieaaPairM
import Derived.Test.YtpmijgeakmmieaaBy
namespace Go.Proofs.Ytpmijgeakmmieaa
open Go.RowKit

/-- a row: its last key; its place, its length, its entries -/
abbrev Row := List UInt8 × Int × Int × Int
/-- may rows be? where not, and why -/
def fck : Nat → Int → List UInt8 → List Row → Nat × Nat
  | _, _, _, [] => (0, 0)
  | i, p, l, x :: r => if (x.1.length = 0 ∨ 64 < x.1.length) ∨ (0 < i ∧ 0 ≤ cmp l x.1) then (i, 72) else if x.2.1 ≠ p then (i, 73) else if x.2.2.1 < 1 ∨ 131072 < x.2.2.1 then (i, 74) else if x.2.2.2 < 1 ∨ 64 < x.2.2.2 then (i, 75) else fck (i + 1) (p + x.2.2.1) x.1 r
def fchk (l : List Row) : Nat × Nat := if 8388608 < l.length then (0, 71) else fck 0 8 [] l
theorem fck_nil (i : Nat) (p : Int) (l : List UInt8) : fck i p l [] = (0, 0) := rfl
section
variable {i : Nat} {p : Int} {l k : List UInt8} {x y z : Int} {r : List Row}
theorem fck_key (h : (k.length = 0 ∨ 64 < k.length) ∨ (0 < i ∧ 0 ≤ cmp l k)) : fck i p l ((k, x, y, z) :: r) = (i, 72) := by unfold fck; rw [if_pos h]
theorem fck_at (h : ¬ ((k.length = 0 ∨ 64 < k.length) ∨ (0 < i ∧ 0 ≤ cmp l k))) (h1 : x ≠ p) : fck i p l ((k, x, y, z) :: r) = (i, 73) := by unfold fck; rw [if_neg h, if_pos h1]
theorem fck_len (h : ¬ ((k.length = 0 ∨ 64 < k.length) ∨ (0 < i ∧ 0 ≤ cmp l k))) (h1 : x = p) (h2 : y < 1 ∨ 131072 < y) : fck i p l ((k, x, y, z) :: r) = (i, 74) := by unfold fck; rw [if_neg h, if_neg (fun e => e h1), if_pos h2]
theorem fck_ent (h : ¬ ((k.length = 0 ∨ 64 < k.length) ∨ (0 < i ∧ 0 ≤ cmp l k))) (h1 : x = p) (h2 : ¬ (y < 1 ∨ 131072 < y)) (h3 : z < 1 ∨ 64 < z) : fck i p l ((k, x, y, z) :: r) = (i, 75) := by unfold fck; rw [if_neg h, if_neg (fun e => e h1), if_neg h2, if_pos h3]
theorem fck_go (h : ¬ ((k.length = 0 ∨ 64 < k.length) ∨ (0 < i ∧ 0 ≤ cmp l k))) (h1 : x = p) (h2 : ¬ (y < 1 ∨ 131072 < y)) (h3 : ¬ (z < 1 ∨ 64 < z)) : fck i p l ((k, x, y, z) :: r) = fck (i + 1) (p + y) k r := by
  conv => lhs; unfold fck
  rw [if_neg h, if_neg (fun e => e h1), if_neg h2, if_neg h3]
end
theorem rdrop_cons {es : List Row} {k : Nat} {x : Row} (h : es[k]? = some x) : es.drop k = x :: es.drop (k + 1) := by
  obtain ⟨hl, rfl⟩ := List.getElem?_eq_some_iff.1 h
  exact List.drop_eq_getElem_cons hl

/-- a slice of rows reads as rs -/
def Spans (w : World) (a : Option Addr) (n c : Nat) (rs : List Row) : Prop :=
  rs.length = n ∧ n ≤ c ∧ (a = none → c = 0) ∧ ∀ i k x y z, rs[i]? = some (k, x, y, z) → ∃ b o ak nk ck, a = some ⟨b, o, none⟩ ∧ w.cell? ⟨b, o + i * 4, none⟩ = some (.slice ak nk ck) ∧ w.cell? ⟨b, o + i * 4 + 1, none⟩ = some (.int .i64 x) ∧ w.cell? ⟨b, o + i * 4 + 2, none⟩ = some (.int .i64 y) ∧ w.cell? ⟨b, o + i * 4 + 3, none⟩ = some (.int .i64 z) ∧ Sl Bf w ak nk ck k
theorem Spans.keep {w w' : World} {a : Option Addr} {n c : Nat} {rs : List Row} (h : Spans w a n c rs) (hb : Below w.heap.size w w') : Spans w' a n c rs := by
  refine ⟨h.1, h.2.1, h.2.2.1, fun i k x y z hi => ?_⟩
  obtain ⟨b, o, ak, nk, ck, ha, c0, c1, c2, c3, s0⟩ := h.2.2.2 i k x y z hi
  have kp : ∀ {j : Nat} {v : Value}, w.cell? ⟨b, j, none⟩ = some v → w'.cell? ⟨b, j, none⟩ = some v := fun hc => (World.cell?_of_block (hb.block _ (cell_lt hc))).trans hc
  exact ⟨b, o, ak, nk, ck, ha, kp c0, kp c1, kp c2, kp c3, s0.keep hb⟩
theorem Spans.drewN {w : World} {a : Option Addr} {n c : Nat} {rs : List Row} (h : Spans w a n c rs) (m : Nat) : Spans (w.drewN m) a n c rs := h
theorem Spans.upto {w : World} {a : Option Addr} {n c : Nat} {rs : List Row} (h : Spans w a n c rs) (k : Nat) (hk : k ≤ n) : Spans w a k c (rs.take k) := by
  have h1 := h.1; have h2 := h.2.1
  refine ⟨by rw [List.length_take]; omega, by omega, h.2.2.1, fun i q x y z hi => ?_⟩
  have hik : i < k := by have := (List.getElem?_eq_some_iff.1 hi).1; rw [List.length_take] at this; omega
  rw [List.getElem?_take_of_lt hik] at hi
  exact h.2.2.2 i q x y z hi
/-- within bounds: a text's length, the numbers -/
def FitR (M : Nat) (rs : List Row) : Prop := ∀ r, r ∈ rs → r.1.length ≤ M ∧ (-9223372036854775808 ≤ r.2.1 ∧ r.2.1 ≤ 9223372036854775807) ∧ (-9223372036854775808 ≤ r.2.2.1 ∧ r.2.2.1 ≤ 9223372036854775807) ∧ (-9223372036854775808 ≤ r.2.2.2 ∧ r.2.2.2 ≤ 9223372036854775807)
theorem FitR.at {M : Nat} {rs : List Row} (h : FitR M rs) {i : Nat} {k : List UInt8} {x y z : Int} (hi : rs[i]? = some (k, x, y, z)) :
    k.length ≤ M ∧ (-9223372036854775808 ≤ x ∧ x ≤ 9223372036854775807) ∧ (-9223372036854775808 ≤ y ∧ y ≤ 9223372036854775807) ∧ (-9223372036854775808 ≤ z ∧ z ≤ 9223372036854775807) := h _ (List.mem_of_getElem? hi)
/-- how many entries, as the walk reckons -/
def tot (rs : List Row) : Int := rs.foldl (fun t r => wrap64 (t + r.2.2.2)) 0
theorem tot_nil : tot [] = 0 := rfl
theorem tot_snoc (rs : List Row) (r : Row) : tot (rs ++ [r]) = wrap64 (tot rs + r.2.2.2) := by unfold tot; rw [List.foldl_append]; rfl
theorem rtake_snoc {rs : List Row} {k : Nat} {x : Row} (h : rs[k]? = some x) : rs.take (k + 1) = rs.take k ++ [x] := by rw [List.take_add_one, h]; rfl
end Go.Proofs.Ytpmijgeakmmieaa
