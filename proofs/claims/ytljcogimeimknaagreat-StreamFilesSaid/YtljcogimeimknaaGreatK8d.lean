/- Several texts in one: FootM, FootBytesM, FootReadM, FootRV, FootOut, FootFns, FootRCheck, FootPCheck, FootBytes. Each has its own sentence and conditions below. -/
import Derived.Test.YtljcogimeimknaaGreatK8a
import Derived.Test.YtljcogimeimknaaGreatK8c
import Derived.Test.YtljcogimeimknaaGreatK8b
import Derived.IntWalk
import Derived.Deep.LoopGhost
import Derived.Deep.RegionWith
import Derived.Deep.RegionHeld3
/- Rows of a foot: plain words, and what a slice of them reads as. No condition. -/
namespace Go.Proofs.YtljcogimeimknaaGreat
set_option linter.unusedVariables false
open Go.RowKit

/-- a row: its last key; its place, its length, its entries -/
abbrev Row := List UInt8 × Int × Int × Int
/-- may rows be? where not, and why -/
def fck : Nat → Int → List UInt8 → List Row → Nat × Nat
  | _, _, _, [] => (0, 0)
  | i, p, l, x :: r => if (x.1.length = 0 ∨ 64 < x.1.length) ∨ (0 < i ∧ 0 ≤ cmp l x.1) then (i, 72) else if x.2.1 ≠ p then (i, 73) else if x.2.2.1 < 1 ∨ 131072 < x.2.2.1 then (i, 74) else if x.2.2.2 < 1 ∨ 64 < x.2.2.2 then (i, 75) else fck (i + 1) (p + x.2.2.1) x.1 r
def fchk (l : List Row) : Nat × Nat := if 8388608 < l.length then (0, 71) else fck 0 8 [] l
theorem fck_nil (i : Nat) (p : Int) (l : List UInt8) : fck i p l [] = (0, 0) := rfl
section
variable {i : Nat} {p : Int} {l k : List UInt8} {x y z : Int} {r : List Row}
theorem fck_key (h : (k.length = 0 ∨ 64 < k.length) ∨ (0 < i ∧ 0 ≤ cmp l k)) : fck i p l ((k, x, y, z) :: r) = (i, 72) := by unfold fck; rw [if_pos h]
theorem fck_at (h : ¬ ((k.length = 0 ∨ 64 < k.length) ∨ (0 < i ∧ 0 ≤ cmp l k))) (h1 : x ≠ p) : fck i p l ((k, x, y, z) :: r) = (i, 73) := by unfold fck; rw [if_neg h, if_pos h1]
theorem fck_len (h : ¬ ((k.length = 0 ∨ 64 < k.length) ∨ (0 < i ∧ 0 ≤ cmp l k))) (h1 : x = p) (h2 : y < 1 ∨ 131072 < y) : fck i p l ((k, x, y, z) :: r) = (i, 74) := by unfold fck; rw [if_neg h, if_neg (fun e => e h1), if_pos h2]
theorem fck_ent (h : ¬ ((k.length = 0 ∨ 64 < k.length) ∨ (0 < i ∧ 0 ≤ cmp l k))) (h1 : x = p) (h2 : ¬ (y < 1 ∨ 131072 < y)) (h3 : z < 1 ∨ 64 < z) : fck i p l ((k, x, y, z) :: r) = (i, 75) := by unfold fck; rw [if_neg h, if_neg (fun e => e h1), if_neg h2, if_pos h3]
theorem fck_go (h : ¬ ((k.length = 0 ∨ 64 < k.length) ∨ (0 < i ∧ 0 ≤ cmp l k))) (h1 : x = p) (h2 : ¬ (y < 1 ∨ 131072 < y)) (h3 : ¬ (z < 1 ∨ 64 < z)) : fck i p l ((k, x, y, z) :: r) = fck (i + 1) (p + y) k r := by
  conv => lhs; unfold fck
  rw [if_neg h, if_neg (fun e => e h1), if_neg h2, if_neg h3]
end
theorem rdrop_cons {es : List Row} {k : Nat} {x : Row} (h : es[k]? = some x) : es.drop k = x :: es.drop (k + 1) := by
  obtain ⟨hl, rfl⟩ := List.getElem?_eq_some_iff.1 h
  exact List.drop_eq_getElem_cons hl

/-- a slice of rows reads as rs -/
def Spans (w : World) (a : Option Addr) (n c : Nat) (rs : List Row) : Prop :=
  rs.length = n ∧ n ≤ c ∧ (a = none → c = 0) ∧ ∀ i k x y z, rs[i]? = some (k, x, y, z) → ∃ b o ak nk ck, a = some ⟨b, o, none⟩ ∧ w.cell? ⟨b, o + i * 4, none⟩ = some (.slice ak nk ck) ∧ w.cell? ⟨b, o + i * 4 + 1, none⟩ = some (.int .i64 x) ∧ w.cell? ⟨b, o + i * 4 + 2, none⟩ = some (.int .i64 y) ∧ w.cell? ⟨b, o + i * 4 + 3, none⟩ = some (.int .i64 z) ∧ Sl Bf w ak nk ck k
theorem Spans.keep {w w' : World} {a : Option Addr} {n c : Nat} {rs : List Row} (h : Spans w a n c rs) (hb : Below w.heap.size w w') : Spans w' a n c rs := by
  refine ⟨h.1, h.2.1, h.2.2.1, fun i k x y z hi => ?_⟩
  obtain ⟨b, o, ak, nk, ck, ha, c0, c1, c2, c3, s0⟩ := h.2.2.2 i k x y z hi
  have kp : ∀ {j : Nat} {v : Value}, w.cell? ⟨b, j, none⟩ = some v → w'.cell? ⟨b, j, none⟩ = some v := fun hc => (World.cell?_of_block (hb.block _ (cell_lt hc))).trans hc
  exact ⟨b, o, ak, nk, ck, ha, kp c0, kp c1, kp c2, kp c3, s0.keep hb⟩
theorem Spans.drewN {w : World} {a : Option Addr} {n c : Nat} {rs : List Row} (h : Spans w a n c rs) (m : Nat) : Spans (w.drewN m) a n c rs := h
theorem Spans.upto {w : World} {a : Option Addr} {n c : Nat} {rs : List Row} (h : Spans w a n c rs) (k : Nat) (hk : k ≤ n) : Spans w a k c (rs.take k) := by
  have h1 := h.1; have h2 := h.2.1
  refine ⟨by rw [List.length_take]; omega, by omega, h.2.2.1, fun i q x y z hi => ?_⟩
  have hik : i < k := by have := (List.getElem?_eq_some_iff.1 hi).1; rw [List.length_take] at this; omega
  rw [List.getElem?_take_of_lt hik] at hi
  exact h.2.2.2 i q x y z hi
/-- within bounds: a text's length, the numbers -/
def FitR (M : Nat) (rs : List Row) : Prop := ∀ r, r ∈ rs → r.1.length ≤ M ∧ (-9223372036854775808 ≤ r.2.1 ∧ r.2.1 ≤ 9223372036854775807) ∧ (-9223372036854775808 ≤ r.2.2.1 ∧ r.2.2.1 ≤ 9223372036854775807) ∧ (-9223372036854775808 ≤ r.2.2.2 ∧ r.2.2.2 ≤ 9223372036854775807)
theorem FitR.at {M : Nat} {rs : List Row} (h : FitR M rs) {i : Nat} {k : List UInt8} {x y z : Int} (hi : rs[i]? = some (k, x, y, z)) :
    k.length ≤ M ∧ (-9223372036854775808 ≤ x ∧ x ≤ 9223372036854775807) ∧ (-9223372036854775808 ≤ y ∧ y ≤ 9223372036854775807) ∧ (-9223372036854775808 ≤ z ∧ z ≤ 9223372036854775807) := h _ (List.mem_of_getElem? hi)
/-- how many entries, as the walk reckons -/
def tot (rs : List Row) : Int := rs.foldl (fun t r => wrap64 (t + r.2.2.2)) 0
theorem tot_snoc (rs : List Row) (r : Row) : tot (rs ++ [r]) = wrap64 (tot rs + r.2.2.2) := by unfold tot; rw [List.foldl_append]; rfl
theorem rtake_snoc {rs : List Row} {k : Nat} {x : Row} (h : rs[k]? = some x) : rs.take (k + 1) = rs.take k ++ [x] := by rw [List.take_add_one, h]; rfl
end Go.Proofs.YtljcogimeimknaaGreat
/- The bytes of rows: plain words. No condition. -/
namespace Go.Proofs.YtljcogimeimknaaGreat
set_option linter.unusedVariables false

/-- the bytes of a row -/
def rowB (r : Row) : List UInt8 := vb r.1.length ++ (r.1 ++ vbs [r.2.1.toNat, r.2.2.1.toNat, r.2.2.2.toNat])
/-- how many entries, as a number is written -/
def totU (rs : List Row) : Nat := (IntKind.u64.wrap (tot rs)).toNat
def fbytes (rs : List Row) : List UInt8 := vb rs.length ++ (rs.flatMap rowB ++ vb (totU rs))
def fbs (rs : List Row) : List UInt8 := if (fchk rs).2 = 0 then fbytes rs else []
theorem totU_lt (rs : List Row) : totU rs < 18446744073709551616 := by unfold totU; rw [IntKind.wrap_u64]; omega
theorem totU_eq (rs : List Row) : IntKind.u64.wrap (tot rs) = (totU rs : Nat) := by unfold totU; rw [IntKind.wrap_u64]; omega
/-- a row within its bounds -/
def Well (M : Int) (r : Row) : Prop := (1 ≤ r.1.length ∧ r.1.length ≤ 64) ∧ (8 ≤ r.2.1 ∧ r.2.1 ≤ M) ∧ (1 ≤ r.2.2.1 ∧ r.2.2.1 ≤ 131072) ∧ (1 ≤ r.2.2.2 ∧ r.2.2.2 ≤ 64)
theorem fck_all : ∀ (rs : List Row) (i : Nat) (p : Int) (l : List UInt8), 8 ≤ p → (fck i p l rs).2 = 0 → ∀ r, r ∈ rs → Well (p + 131072 * rs.length) r
  | [], _, _, _, _, _, _, hr => by cases hr
  | (k, x, y, z) :: rs, i, p, l, hp, h, r, hr => by
    by_cases h0 : (k.length = 0 ∨ 64 < k.length) ∨ (0 < i ∧ 0 ≤ cmp l k)
    · rw [fck_key h0] at h; cases h
    by_cases h1 : x = p
    · by_cases h2 : y < 1 ∨ 131072 < y
      · rw [fck_len h0 h1 h2] at h; cases h
      by_cases h3 : z < 1 ∨ 64 < z
      · rw [fck_ent h0 h1 h2 h3] at h; cases h
      rw [fck_go h0 h1 h2 h3] at h
      rcases List.mem_cons.1 hr with rfl | hr
      · refine ⟨?_, ?_, ?_, ?_⟩ <;> simp only [List.length_cons] <;> omega
      · obtain ⟨a, b, c, d⟩ := fck_all rs (i + 1) (p + y) k (by omega) h r hr
        refine ⟨a, ?_, c, d⟩
        simp only [List.length_cons]; omega
    · rw [fck_at h0 h1] at h; cases h
theorem fck_zero : ∀ (rs : List Row) (i : Nat) (p : Int) (l : List UInt8), (fck i p l rs).2 = 0 → (fck i p l rs).1 = 0
  | [], _, _, _, _ => rfl
  | (k, x, y, z) :: rs, i, p, l, h => by
    by_cases h0 : (k.length = 0 ∨ 64 < k.length) ∨ (0 < i ∧ 0 ≤ cmp l k)
    · rw [fck_key h0] at h; cases h
    by_cases h1 : x = p
    · by_cases h2 : y < 1 ∨ 131072 < y
      · rw [fck_len h0 h1 h2] at h; cases h
      by_cases h3 : z < 1 ∨ 64 < z
      · rw [fck_ent h0 h1 h2 h3] at h; cases h
      rw [fck_go h0 h1 h2 h3] at h ⊢
      exact fck_zero rs _ _ _ h
    · rw [fck_at h0 h1] at h; cases h
theorem fchk_zero {rs : List Row} (h : (fchk rs).2 = 0) : fchk rs = (0, 0) := by
  unfold fchk at h ⊢
  split at h
  · cases h
  · rename_i hm
    rw [if_neg hm]
    exact Prod.ext (fck_zero rs _ _ _ h) h
theorem fchk_all {rs : List Row} (h : (fchk rs).2 = 0) : rs.length ≤ 8388608 ∧ ∀ r, r ∈ rs → Well 1099511627784 r := by
  unfold fchk at h
  split at h
  · cases h
  · refine ⟨by omega, fun r hr => ?_⟩
    obtain ⟨a, b, c, d⟩ := fck_all rs 0 8 [] (by omega) h r hr
    exact ⟨a, by omega, c, d⟩
theorem rowB_len {r : Row} (h : Well 1099511627784 r) : (rowB r).length ≤ 104 := by
  obtain ⟨a, b, c, d⟩ := h
  have h0 := vb_ten (n := r.1.length) (by omega)
  have h1 := vb_ten (n := r.2.1.toNat) (by omega)
  have h2 := vb_ten (n := r.2.2.1.toNat) (by omega)
  have h3 := vb_ten (n := r.2.2.2.toNat) (by omega)
  unfold rowB vbs
  simp; omega
theorem rowsB_len : ∀ {rs : List Row}, (∀ r, r ∈ rs → Well 1099511627784 r) → (rs.flatMap rowB).length ≤ 104 * rs.length
  | [], _ => by simp
  | x :: rs, h => by
    have h1 := rowB_len (h x (by simp))
    have h2 := rowsB_len (rs := rs) fun r hr => h r (by simp [hr])
    rw [List.flatMap_cons, List.length_append, List.length_cons]; omega
theorem rowsB_take {rs : List Row} {k : Nat} {x : Row} (h : rs[k]? = some x) : (rs.take (k + 1)).flatMap rowB = (rs.take k).flatMap rowB ++ rowB x := by
  rw [rtake_snoc h, List.flatMap_append]; simp
theorem rowsB_upto {rs : List Row} (h : ∀ r, r ∈ rs → Well 1099511627784 r) (k : Nat) : ((rs.take k).flatMap rowB).length ≤ 104 * rs.length := by
  have := rowsB_len (rs := rs.take k) fun r hr => h r (List.mem_of_mem_take hr)
  have h2 : (rs.take k).length ≤ rs.length := by rw [List.length_take]; omega
  omega
theorem fbs_yes {rs : List Row} (h : (fchk rs).2 = 0) : fbs rs = fbytes rs := by unfold fbs; rw [if_pos h]
theorem fbs_no {rs : List Row} (h : (fchk rs).2 ≠ 0) : fbs rs = [] := by unfold fbs; rw [if_neg h]
theorem fbytes_len {rs : List Row} (h : (fchk rs).2 = 0) : (fbytes rs).length ≤ 873000000 := by
  obtain ⟨h1, h2⟩ := fchk_all h
  have h3 := rowsB_len h2
  have h4 := vb_ten (n := rs.length) (by omega)
  have h5 := vb_ten (totU_lt rs)
  unfold fbytes
  simp only [List.length_append]; omega
end Go.Proofs.YtljcogimeimknaaGreat
/- What is read of a foot: plain words. No condition. -/
namespace Go.Proofs.YtljcogimeimknaaGreat
set_option linter.unusedVariables false

abbrev dr : Row := ([], 0, 0, 0)
/-- where the frames end -/
def endR (rs : List Row) : Int := match rs.getLast? with
  | some r => r.2.1 + r.2.2.1
  | none => 8
/-- may a key stand behind rows -/
def upR (rs : List Row) (k : List UInt8) : Bool := match rs.getLast? with
  | some r => decide (cmp r.1 k < 0)
  | none => true
theorem endR_nil : endR [] = 8 := rfl
theorem upR_nil (k : List UInt8) : upR [] k = true := rfl
theorem endR_snoc (rs : List Row) (r : Row) : endR (rs ++ [r]) = r.2.1 + r.2.2.1 := by unfold endR; simp
theorem upR_snoc (rs : List Row) (r : Row) (k : List UInt8) : upR (rs ++ [r]) k = decide (cmp r.1 k < 0) := by unfold upR; simp
/-- the entries of a row, its other words being known -/
def fr1 (b : List UInt8) (k : List UInt8) (x y : Int) (p : Nat) : Row × Nat × Int :=
  let d := rd (b.drop p) 0 0
  if d.2.2 ≠ 0 then (dr, p + d.2.1, d.2.2) else if d.1 < 1 ∨ 64 < d.1 then (dr, p, 75) else ((k, x, y, (d.1 : Int)), p + d.2.1, 0)
def fr2 (b : List UInt8) (k : List UInt8) (x : Int) (p : Nat) : Row × Nat × Int :=
  let d := rd (b.drop p) 0 0
  if d.2.2 ≠ 0 then (dr, p + d.2.1, d.2.2) else if d.1 < 1 ∨ 131072 < d.1 then (dr, p, 74) else fr1 b k x (d.1 : Int) (p + d.2.1)
def fr3 (b : List UInt8) (k : List UInt8) (A : Int) (p : Nat) : Row × Nat × Int :=
  let d := rd (b.drop p) 0 0
  if d.2.2 ≠ 0 then (dr, p + d.2.1, d.2.2) else if (d.1 : Int) ≠ A then (dr, p, 73) else fr2 b k A (p + d.2.1)
/-- a key: it, where it ends or the error's place, the error -/
def fky (b : List UInt8) (rs : List Row) (p : Nat) : List UInt8 × Nat × Int :=
  let d := rd (b.drop p) 0 0
  if d.2.2 ≠ 0 then ([], p + d.2.1, d.2.2) else if d.1 < 1 ∨ 64 < d.1 then ([], p, 72) else if b.length - (p + d.2.1) < d.1 then ([], b.length, 77)
  else if upR rs ((b.drop (p + d.2.1)).take d.1) = false then ([], p, 72) else ((b.drop (p + d.2.1)).take d.1, p + d.2.1 + d.1, 0)
def frow (b : List UInt8) (rs : List Row) (p : Nat) : Row × Nat × Int :=
  if (fky b rs p).2.2 ≠ 0 then (dr, (fky b rs p).2.1, (fky b rs p).2.2) else fr3 b (fky b rs p).1 (endR rs) (fky b rs p).2.1
/-- j rows more -/
def frd (b : List UInt8) : Nat → List Row → Nat → List Row × Nat × Int
  | 0, rs, p => (rs, p, 0)
  | j + 1, rs, p => if (frow b rs p).2.2 ≠ 0 then ([], (frow b rs p).2.1, (frow b rs p).2.2) else frd b j (rs ++ [(frow b rs p).1]) (frow b rs p).2.1
/-- the total, the rows being known -/
def ftl (b : List UInt8) (rs : List Row) (p : Nat) : List Row × Nat × Int :=
  let d := rd (b.drop p) 0 0
  if d.2.2 ≠ 0 then ([], p + d.2.1, d.2.2) else if d.1 ≠ totU rs then ([], p, 76) else if p + d.2.1 < b.length then ([], p + d.2.1, 78) else (rs, 0, 0)
/-- the rows, the error's place, the error -/
def fread (b : List UInt8) : List Row × Nat × Int :=
  let d := rd b 0 0
  if d.2.2 ≠ 0 then ([], d.2.1, d.2.2) else if 8388608 < d.1 then ([], 0, 71) else
    if (frd b d.1 [] d.2.1).2.2 ≠ 0 then ([], (frd b d.1 [] d.2.1).2.1, (frd b d.1 [] d.2.1).2.2) else ftl b (frd b d.1 [] d.2.1).1 (frd b d.1 [] d.2.1).2.1
section
variable {b k : List UInt8} {x y A : Int} {p v q : Nat} {e : Int} {rs : List Row}
theorem fr1_no (h : rd (b.drop p) 0 0 = (v, q, e)) (he : e ≠ 0) : fr1 b k x y p = (dr, p + q, e) := by unfold fr1; rw [h]; exact if_pos he
theorem fr1_bad (h : rd (b.drop p) 0 0 = (v, q, 0)) (h2 : v < 1 ∨ 64 < v) : fr1 b k x y p = (dr, p, 75) := by unfold fr1; rw [h]; exact (if_neg (fun e => e rfl)).trans (if_pos h2)
theorem fr1_ok (h : rd (b.drop p) 0 0 = (v, q, 0)) (h2 : ¬ (v < 1 ∨ 64 < v)) : fr1 b k x y p = ((k, x, y, (v : Int)), p + q, 0) := by unfold fr1; rw [h]; exact (if_neg (fun e => e rfl)).trans (if_neg h2)
theorem fr2_no (h : rd (b.drop p) 0 0 = (v, q, e)) (he : e ≠ 0) : fr2 b k x p = (dr, p + q, e) := by unfold fr2; rw [h]; exact if_pos he
theorem fr2_bad (h : rd (b.drop p) 0 0 = (v, q, 0)) (h2 : v < 1 ∨ 131072 < v) : fr2 b k x p = (dr, p, 74) := by unfold fr2; rw [h]; exact (if_neg (fun e => e rfl)).trans (if_pos h2)
theorem fr2_ok (h : rd (b.drop p) 0 0 = (v, q, 0)) (h2 : ¬ (v < 1 ∨ 131072 < v)) : fr2 b k x p = fr1 b k x (v : Int) (p + q) := by
  conv => lhs; unfold fr2
  rw [h]; exact (if_neg (fun e => e rfl)).trans (if_neg h2)
theorem fr3_no (h : rd (b.drop p) 0 0 = (v, q, e)) (he : e ≠ 0) : fr3 b k A p = (dr, p + q, e) := by unfold fr3; rw [h]; exact if_pos he
theorem fr3_bad (h : rd (b.drop p) 0 0 = (v, q, 0)) (h2 : (v : Int) ≠ A) : fr3 b k A p = (dr, p, 73) := by unfold fr3; rw [h]; exact (if_neg (fun e => e rfl)).trans (if_pos h2)
theorem fr3_ok (h : rd (b.drop p) 0 0 = (v, q, 0)) (h2 : (v : Int) = A) : fr3 b k A p = fr2 b k A (p + q) := by
  conv => lhs; unfold fr3
  rw [h]; exact (if_neg (fun e => e rfl)).trans (if_neg (fun e => e h2))
theorem fky_no (h : rd (b.drop p) 0 0 = (v, q, e)) (he : e ≠ 0) : fky b rs p = ([], p + q, e) := by unfold fky; rw [h]; exact if_pos he
theorem fky_bad (h : rd (b.drop p) 0 0 = (v, q, 0)) (h2 : v < 1 ∨ 64 < v) : fky b rs p = ([], p, 72) := by unfold fky; rw [h]; exact (if_neg (fun e => e rfl)).trans (if_pos h2)
theorem fky_short (h : rd (b.drop p) 0 0 = (v, q, 0)) (h2 : ¬ (v < 1 ∨ 64 < v)) (h3 : b.length - (p + q) < v) : fky b rs p = ([], b.length, 77) := by
  unfold fky; rw [h]; exact (if_neg (fun e => e rfl)).trans ((if_neg h2).trans (if_pos h3))
theorem fky_low (h : rd (b.drop p) 0 0 = (v, q, 0)) (h2 : ¬ (v < 1 ∨ 64 < v)) (h3 : ¬ b.length - (p + q) < v) (h4 : upR rs ((b.drop (p + q)).take v) = false) : fky b rs p = ([], p, 72) := by
  unfold fky; rw [h]; exact (if_neg (fun e => e rfl)).trans ((if_neg h2).trans ((if_neg h3).trans (if_pos h4)))
theorem fky_ok (h : rd (b.drop p) 0 0 = (v, q, 0)) (h2 : ¬ (v < 1 ∨ 64 < v)) (h3 : ¬ b.length - (p + q) < v) (h4 : upR rs ((b.drop (p + q)).take v) = true) : fky b rs p = ((b.drop (p + q)).take v, p + q + v, 0) := by
  unfold fky; rw [h]; exact (if_neg (fun e => e rfl)).trans ((if_neg h2).trans ((if_neg h3).trans (if_neg (fun e => by rw [h4] at e; cases e))))
theorem frow_no {k' : List UInt8} (h : fky b rs p = (k', q, e)) (he : e ≠ 0) : frow b rs p = (dr, q, e) := by unfold frow; rw [h]; exact if_pos he
theorem frow_go (h : fky b rs p = (k, q, 0)) : frow b rs p = fr3 b k (endR rs) q := by unfold frow; rw [h]; exact if_neg (fun e => e rfl)
theorem frd_no {j : Nat} {r : Row} (h : frow b rs p = (r, q, e)) (he : e ≠ 0) : frd b (j + 1) rs p = ([], q, e) := by unfold frd; rw [h]; exact if_pos he
theorem frd_go {j : Nat} {r : Row} (h : frow b rs p = (r, q, 0)) : frd b (j + 1) rs p = frd b j (rs ++ [r]) q := by
  conv => lhs; unfold frd
  rw [h]; exact if_neg (fun e => e rfl)
theorem ftl_no (h : rd (b.drop p) 0 0 = (v, q, e)) (he : e ≠ 0) : ftl b rs p = ([], p + q, e) := by unfold ftl; rw [h]; exact if_pos he
theorem ftl_bad (h : rd (b.drop p) 0 0 = (v, q, 0)) (h2 : v ≠ totU rs) : ftl b rs p = ([], p, 76) := by unfold ftl; rw [h]; exact (if_neg (fun e => e rfl)).trans (if_pos h2)
theorem ftl_rest (h : rd (b.drop p) 0 0 = (v, q, 0)) (h2 : v = totU rs) (h3 : p + q < b.length) : ftl b rs p = ([], p + q, 78) := by
  unfold ftl; rw [h]; exact (if_neg (fun e => e rfl)).trans ((if_neg (fun e => e h2)).trans (if_pos h3))
theorem ftl_ok (h : rd (b.drop p) 0 0 = (v, q, 0)) (h2 : v = totU rs) (h3 : ¬ p + q < b.length) : ftl b rs p = (rs, 0, 0) := by
  unfold ftl; rw [h]; exact (if_neg (fun e => e rfl)).trans ((if_neg (fun e => e h2)).trans (if_neg h3))
theorem fread_no (h : rd b 0 0 = (v, q, e)) (he : e ≠ 0) : fread b = ([], q, e) := by unfold fread; rw [h]; exact if_pos he
theorem fread_many (h : rd b 0 0 = (v, q, 0)) (h2 : 8388608 < v) : fread b = ([], 0, 71) := by unfold fread; rw [h]; exact (if_neg (fun e => e rfl)).trans (if_pos h2)
theorem fread_bad {l : List Row} {p' : Nat} (h : rd b 0 0 = (v, q, 0)) (h2 : ¬ 8388608 < v) (h3 : frd b v [] q = (l, p', e)) (he : e ≠ 0) : fread b = ([], p', e) := by
  unfold fread; rw [h]; refine (if_neg (fun e => e rfl)).trans ((if_neg h2).trans ?_); dsimp only; rw [h3]; exact if_pos he
theorem fread_go {p' : Nat} (h : rd b 0 0 = (v, q, 0)) (h2 : ¬ 8388608 < v) (h3 : frd b v [] q = (rs, p', 0)) : fread b = ftl b rs p' := by
  unfold fread; rw [h]; refine (if_neg (fun e => e rfl)).trans ((if_neg h2).trans ?_); dsimp only; rw [h3]; exact if_neg (fun e => e rfl)
theorem fky_in (hp : p ≤ b.length) (h : fky b rs p = (k, q, 0)) : q ≤ b.length ∧ 1 ≤ k.length ∧ k.length ≤ 64 ∧ upR rs k = true := by
  obtain ⟨⟨v, d, e0⟩, hr⟩ : ∃ X, rd (b.drop p) 0 0 = X := ⟨_, rfl⟩
  by_cases he : e0 = 0
  · subst he
    obtain ⟨hd, _⟩ := rd_in hr
    rw [List.length_drop] at hd
    by_cases h2 : v < 1 ∨ 64 < v
    · rw [fky_bad hr h2] at h; cases h
    by_cases h3 : b.length - (p + d) < v
    · rw [fky_short hr h2 h3] at h; cases h
    rcases h4 : upR rs ((b.drop (p + d)).take v) with _ | _
    · rw [fky_low hr h2 h3 h4] at h; cases h
    · rw [fky_ok hr h2 h3 h4] at h
      simp only [Prod.mk.injEq] at h
      obtain ⟨rfl, rfl, _⟩ := h
      have hl : ((b.drop (p + d)).take v).length = v := by rw [List.length_take, List.length_drop]; omega
      exact ⟨by omega, by omega, by omega, h4⟩
  · rw [fky_no hr he] at h
    simp only [Prod.mk.injEq] at h
    exact absurd h.2.2 he
end
end Go.Proofs.YtljcogimeimknaaGreat
/- Rows of a foot as elements of a row in memory. No condition. -/
namespace Go.Proofs.YtljcogimeimknaaGreat
set_option linter.unusedVariables false
open Go.RowKit

abbrev RV := (Option Addr × Nat × Nat) × Int × Int × Int
abbrev fR (x : RV) : List Value := [.slice x.1.1 x.1.2.1 x.1.2.2, .int .i64 x.2.1, .int .i64 x.2.2.1, .int .i64 x.2.2.2]
theorem fR_len (x : RV) : (fR x).length = 4 := rfl
theorem eltTR : EltT Tryz.prog 33 94 fR 4 48 := by
  have hi : (Tryz.prog.info? 94).map (fun i => (i.zero, i.size, i.bytes)) = some (some (.agg #[.slice none 0 0, .int .i64 0, .int .i64 0, .int .i64 0]), 4, 48) := by kernel_rfl
  obtain ⟨i, hi1, hi2, hi3, hi4⟩ := info_parts hi
  exact ⟨Tryz.underlying33, ⟨i, _, hi1, hi2, hi3, hi4, ((none, 0, 0), 0, 0, 0), rfl⟩, fun _ => rfl, by decide, fun x u hu => by simp [fR] at hu; rcases hu with rfl | rfl | rfl | rfl <;> rfl⟩
theorem SlT.litR (w : World) (x : RV) (g : Nat) (hg : w.heap.size = g) : SlT fR 4 (w.alloc (.cells #[.slice x.1.1 x.1.2.1 x.1.2.2, .int .i64 x.2.1, .int .i64 x.2.2.1, .int .i64 x.2.2.2] 94)) (some ⟨g, 0, none⟩) 1 1 [x] := by
  subst hg
  obtain ⟨a, c, hv, hs⟩ := (OwT.lit fR w w.heap.size 94 #[.slice x.1.1 x.1.2.1 x.1.2.2, .int .i64 x.2.1, .int .i64 x.2.2.1, .int .i64 x.2.2.2] [x] 1 rfl rfl (Nat.le_refl _) (by decide)).sl fR_len
  cases hv; exact hs
theorem run_cutR (w : World) (aa : Option Addr) (n c : Nat) (k2 : IntKind) (r : Nat) (hr : r ≤ c) : (Instr.slice 33 (.slice aa n c) none (some (.int k2 r)) none).run Tryz.prog w = .ok (.slice aa r c) w := by
  obtain ⟨ht, ⟨i, z, hi1, hi2, hi3, hi4, x0, hz⟩, hf, hk, h1⟩ := eltTR
  cases aa <;> simp [Instr.slice, run_underlying ht, Instr.sliceBounds, Instr.sliceBound, asIntOf, sizeOf, typeInfo, hi1, hr, Addr.add]
theorem OwT.slR {w : World} {base : Nat} {e : TypeId} {v : Value} {vs : List RV} (h : OwT fR w base e v vs) : ∃ a n c, v = .slice a n c ∧ n = vs.length ∧ n ≤ c := by
  obtain ⟨a, c, hv, hs⟩ := h.sl fR_len
  exact ⟨a, _, c, hv, rfl, hs.2.1⟩
end Go.Proofs.YtljcogimeimknaaGreat
/- The rows that Read hands out, in memory of their own. No condition. -/
namespace Go.Proofs.YtljcogimeimknaaGreat
set_option linter.unusedVariables false
open Go.RowKit

abbrev zR : RV := ((none, 0, 0), 0, 0, 0)
theorem zR_ok : ∃ i z, Tryz.prog.info? 94 = some i ∧ i.zero = some z ∧ z.cells.toList = fR zR := by
  have hi : (Tryz.prog.info? 94).map (fun i => (i.zero, i.size, i.bytes)) = some (some (.agg #[.slice none 0 0, .int .i64 0, .int .i64 0, .int .i64 0]), 4, 48) := by kernel_rfl
  obtain ⟨i, hi1, hi2, hi3, hi4⟩ := info_parts hi
  exact ⟨i, _, hi1, hi2, rfl⟩
abbrev OwR (w : World) (base : Nat) (v : Value) (vs : List RV) : Prop := OwZ fR zR w base 94 v vs
abbrev kV (x : RV) : Value := .slice x.1.1 x.1.2.1 x.1.2.2
/-- each row's key in a row of bytes of its own between lo and hi, apart from the list's own block -/
def KTx (w : World) (lo hi : Nat) (v : Value) (vs : List RV) (rs : List Row) : Prop :=
  vs.length = rs.length ∧ ∀ (i : Nat) (x : RV) (r : Row), vs[i]? = some x → rs[i]? = some r → x.2 = r.2 ∧ OwT fB w lo 5 (kV x) r.1 ∧ (∀ j, (kV x).ownBlock = some j → lo ≤ j ∧ j < hi) ∧ ∀ j, v.ownBlock = some j → Off (kV x) j
theorem KTx.nil (w : World) (lo hi : Nat) (v : Value) : KTx w lo hi v [] [] := ⟨rfl, fun i x r h _ => by simp at h⟩
theorem KTx.same {w w' : World} {lo hi : Nat} {v : Value} {vs : List RV} {rs : List Row} (h : KTx w lo hi v vs rs) (hs : ∀ j, lo ≤ j → j < hi → w'.heap[j]? = w.heap[j]?) : KTx w' lo hi v vs rs :=
  ⟨h.1, fun i x r hx hr => by
    obtain ⟨e, ho, hb, hf⟩ := h.2 i x r hx hr
    exact ⟨e, ho.of_block fun j hj => hs j (hb j hj).1 (hb j hj).2, hb, hf⟩⟩
theorem KTx.widen {w : World} {lo hi lo' hi' : Nat} {v : Value} {vs : List RV} {rs : List Row} (h : KTx w lo hi v vs rs) (hl : lo' ≤ lo) (hh : hi ≤ hi') : KTx w lo' hi' v vs rs :=
  ⟨h.1, fun i x r hx hr => by
    obtain ⟨e, ho, hb, hf⟩ := h.2 i x r hx hr
    exact ⟨e, ho.base hl, fun j hj => ⟨Nat.le_trans hl (hb j hj).1, Nat.lt_of_lt_of_le (hb j hj).2 hh⟩, hf⟩⟩
theorem KTx.step {wr w2 w3 : World} {lo : Nat} {v v' : Value} {vs : List RV} {rs : List Row} {x : RV} {r : Row} (h : KTx wr lo wr.heap.size v vs rs) (hlo : lo ≤ wr.heap.size) (hsz : wr.heap.size ≤ w2.heap.size)
    (hw : ∀ j, lo ≤ j → j < wr.heap.size → w2.heap[j]? = wr.heap[j]?) (hx : x.2 = r.2) (hk : OwT fB w2 wr.heap.size 5 (kV x) r.1) (hv : ∀ j, v.ownBlock = some j → j < wr.heap.size) (hg : w2.grownBy w3 v.ownBlock) (hv' : v'.ownBlock = v.ownBlock ∨ v'.ownBlock = some w2.heap.size) :
    KTx w3 lo w3.heap.size v' (vs ++ [x]) (rs ++ [r]) := by
  have hs3 := hg.size
  refine ⟨by rw [List.length_append, List.length_append, h.1]; rfl, fun i y r' hy hr' => ?_⟩
  by_cases hi : i < vs.length
  · rw [List.getElem?_append_left hi] at hy
    rw [List.getElem?_append_left (by rw [← h.1]; exact hi)] at hr'
    obtain ⟨e, ho, hb, hf⟩ := h.2 i y r' hy hr'
    refine ⟨e, ho.of_block fun j hj => ?_, fun j hj => ⟨(hb j hj).1, by have := (hb j hj).2; omega⟩, fun j hj => ?_⟩
    · exact (hg.block j (by have := (hb j hj).2; omega) (fun e => hf j e.symm j hj rfl)).trans (hw j (hb j hj).1 (hb j hj).2)
    · rcases hv' with e2 | e2
      · exact hf j (e2.symm.trans hj)
      · rw [e2] at hj; injection hj with hj
        intro j' hj' e3
        have := (hb j' hj').2; omega
  · have hi2 : i < (vs ++ [x]).length := (List.getElem?_eq_some_iff.1 hy).1
    rw [List.length_append] at hi2
    obtain rfl : i = vs.length := by simp at hi2; omega
    obtain rfl : x = y := by simpa using hy
    obtain rfl : r = r' := by rw [h.1] at hr'; simpa using hr'
    have off : ∀ j, v.ownBlock = some j → Off (kV x) j := fun j hj j' hj' e => by have := hv j hj; have := (hk.lt j' hj').1; omega
    refine ⟨hx, (hk.base hlo).of_block fun j hj => hg.block j (hk.lt j hj).2 (fun e => off j e.symm j hj rfl), fun j hj => ⟨by have := (hk.lt j hj).1; omega, by have := (hk.lt j hj).2; omega⟩, fun j hj => ?_⟩
    rcases hv' with e2 | e2
    · exact off j (e2.symm.trans hj)
    · rw [e2] at hj; injection hj with hj
      intro j' hj' e3
      have := (hk.lt j' hj').2; omega
theorem KTx.spans {w : World} {lo hi n c : Nat} {a : Option Addr} {vs : List RV} {rs : List Row} (hO : OwR w lo (.slice a n c) vs) (h : KTx w lo hi (.slice a n c) vs rs) : Spans w a n c rs := by
  obtain ⟨a', c', hv, hs⟩ := hO.t.sl fR_len
  injection hv with e1 e2 e3
  subst e1 e2 e3
  refine ⟨h.1.symm, hs.2.1, hs.2.2.1, fun i k x y z hr => ?_⟩
  have hin : i < vs.length := by have := (List.getElem?_eq_some_iff.1 hr).1; rw [h.1]; exact this
  have hx : vs[i]? = some vs[i] := List.getElem?_eq_getElem hin
  obtain ⟨b, o, ha, hc⟩ := hs.2.2.2 i _ hx
  obtain ⟨e, ho, _, _⟩ := h.2 i _ _ hx hr
  have e1 : vs[i].2.1 = x := congrArg (·.1) e
  have e2 : vs[i].2.2.1 = y := congrArg (·.2.1) e
  have e3 : vs[i].2.2.2 = z := congrArg (·.2.2) e
  refine ⟨b, o, _, _, _, ha, hc 0 _ rfl, ?_, ?_, ?_, ho.slI⟩
  · rw [← e1]; exact hc 1 _ rfl
  · rw [← e2]; exact hc 2 _ rfl
  · rw [← e3]; exact hc 3 _ rfl
/-- what Read hands out -/
def ROut (w w' : World) (ret : Ending) (rs : List Row) (q : Nat) (e : Int) : Prop :=
  ∃ a n c vs, ret = .returned (.tuple #[.slice a n c, .int .i64 e, .int .i64 (q : Nat)]) ∧ OwR w' w.heap.size (.slice a n c) vs ∧ KTx w' w.heap.size w'.heap.size (.slice a n c) vs rs ∧ Below w.heap.size w w'
theorem ROut.fail {w w' : World} {q : Nat} {e : Int} (hb : Below w.heap.size w w') : ROut w w' (.returned (.tuple #[.slice none 0 0, .int .i64 e, .int .i64 (q : Nat)])) [] q e :=
  ⟨none, 0, 0, [], rfl, OwZ.nil _ _ _ _ _, KTx.nil _ _ _ _, hb⟩
end Go.Proofs.YtljcogimeimknaaGreat
/- Rows of a foot: above, end, the rules, Total, Key: contracts. Conditions: the slices read as rows. -/
namespace Go.Proofs.YtljcogimeimknaaGreat
set_option linter.unusedVariables false
open Go.RowKit

theorem Stab.spans {w : World} {a : Option Addr} {n c : Nat} {rs : List Row} (h : Spans w a n c rs) : Stab w (fun W => Spans W a n c rs) := fun _ h' => h.keep h'
/-- may a key be: the error's number -/
def fkN (n : Nat) : Nat := if n = 0 ∨ 64 < n then 3 else 0
theorem fkN_bad {n : Nat} (h : n = 0 ∨ 64 < n) : fkN n = 3 := by unfold fkN; rw [if_pos h]
theorem fkN_ok {n : Nat} (h : ¬ (n = 0 ∨ 64 < n)) : fkN n = 0 := by unfold fkN; rw [if_neg h]
theorem fkeyn_any (a : Option Addr) (n c : Nat) (w : World) (hn : n ≤ 140737488351232) :
    Calls Tryz.prog 148 #[.slice a n c] w fun e w' => e = .returned (.int .i64 (fkN n : Nat)) ∧ w' = w := by
  by_cases h : n = 0 ∨ 64 < n
  · have HK := Lib.hid (fkN_bad h)
    by_cases h0 : n = 0
    · subst h0
      go_enter Tryz.func148, Tryz.ntmps148
      go_wp2_with fail
      go_ret
      exact ⟨ret_int (by rw [HK.out]; rfl), rfl⟩
    · have f1 : ((n : Int) == 0) = false := by rw [beq_eq_false_iff_ne]; omega
      have f2 : (n == 0) = false := by rw [beq_eq_false_iff_ne]; omega
      have f3 : (n : Int) > 64 := by omega
      clear h h0
      go_enter Tryz.func148, Tryz.ntmps148
      go_wp2_with fail
      go_ret
      exact ⟨ret_int (by rw [HK.out]; rfl), rfl⟩
  · have HK := Lib.hid (fkN_ok h)
    have f1 : ((n : Int) == 0) = false := by rw [beq_eq_false_iff_ne]; omega
    have f2 : (n == 0) = false := by rw [beq_eq_false_iff_ne]; omega
    have f3 : ¬ (n : Int) > 64 := by omega
    clear h
    go_enter Tryz.func148, Tryz.ntmps148
    go_wp2_with fail
    go_ret
    exact ⟨ret_int (by rw [HK.out]; rfl), rfl⟩
theorem above0_any (a : Option Addr) (c : Nat) (ak : Option Addr) (nk ck : Nat) (w : World) :
    Calls Tryz.prog 158 #[.slice a 0 c, .slice ak nk ck] w fun e w' => e = .returned (.bool true) ∧ w = w' := by
  go_enter Tryz.func158, Tryz.ntmps158
  go_wp2_with fail
  go_ret
  exact ⟨rfl, rfl⟩
theorem above_any (a : Option Addr) (j c : Nat) (rs : List Row) (l : List UInt8) (x y z : Int) (ak : Option Addr) (nk ck : Nat) (k : List UInt8) (w : World) (hn : j + 1 ≤ 140737488351232) (h : Spans w a (j + 1) c rs) (hl : rs[j]? = some (l, x, y, z)) (hk : Sl Bf w ak nk ck k) :
    Calls Tryz.prog 158 #[.slice a (j + 1) c, .slice ak nk ck] w fun e w' => e = .returned (.bool (decide (cmp l k < 0))) ∧ w = w' := by
  obtain ⟨b, o, al, nl, cl, rfl, c0, _, _, _, s0⟩ := h.2.2.2 j l x y z hl
  obtain ⟨q, hq⟩ : ∃ q, cmp l k = q := ⟨_, rfl⟩
  have hc := bcompare_any _ _ _ l _ _ _ k w s0 hk
  rw [hq] at hc ⊢
  have HC := Lib.hid hc
  have e1 : IntKind.i64.wrap ((j : Int) + 1 - 1) = (j : Int) := by rw [show (j : Int) + 1 - 1 = (j : Int) by omega]; exact IntWalk.i64_in _ (by omega)
  have t1 : ((j : Int) + 1 == 0) = false := by rw [beq_eq_false_iff_ne]; omega
  have t2 : ((((j + 1 : Nat) : Int)) == 0) = false := by rw [beq_eq_false_iff_ne]; omega
  clear h hl s0 hk hc hq
  go_enter Tryz.func158, Tryz.ntmps158
  go_wp2_with fail
  refine HC.out.mono ?_
  rintro e w' ⟨rfl, rfl⟩
  go_wp2_with fail
  go_ret
  exact ⟨rfl, rfl⟩
theorem end0_any (a : Option Addr) (c : Nat) (w : World) :
    Calls Tryz.prog 128 #[.slice a 0 c] w fun e w' => e = .returned (.int .i64 8) ∧ Below w.heap.size w w' := by
  go_enter Tryz.func128, Tryz.ntmps128
  go_wp2_with fail
  go_ret
  exact ⟨rfl, Below.refl _ _⟩
theorem end_any (a : Option Addr) (j c : Nat) (rs : List Row) (l : List UInt8) (x y z p : Int) (w : World) (hn : j + 1 ≤ 140737488351232) (h : Spans w a (j + 1) c rs) (hl : rs[j]? = some (l, x, y, z)) (hp : x + y = p) (hp2 : -9223372036854775808 ≤ p ∧ p ≤ 9223372036854775807) :
    Calls Tryz.prog 128 #[.slice a (j + 1) c] w fun e w' => e = .returned (.int .i64 p) ∧ Below w.heap.size w w' := by
  obtain ⟨b, o, al, nl, cl, rfl, c0, c1, c2, c3, s0⟩ := h.2.2.2 j l x y z hl
  have e1 : IntKind.i64.wrap ((j : Int) + 1 - 1) = (j : Int) := by rw [show (j : Int) + 1 - 1 = (j : Int) by omega]; exact IntWalk.i64_in _ (by omega)
  have t1 : ((j : Int) + 1 == 0) = false := by rw [beq_eq_false_iff_ne]; omega
  have t2 : ((((j + 1 : Nat) : Int)) == 0) = false := by rw [beq_eq_false_iff_ne]; omega
  have e2 : IntKind.i64.wrap (x + y) = p := by rw [hp]; exact IntWalk.i64_in _ (by omega)
  clear h hl s0 hp
  go_enter Tryz.func128, Tryz.ntmps128
  go_wp2_with fail
  go_ret
  exact ⟨rfl, (Below.refl _ _).alloc (Nat.le_refl _) _⟩
theorem run_store_fn (P : Program) (w : World) (p : Addr) (m : Mode) (f : Fn) (x y : Array Value) : (store p (.func f x y) m).run P w = stored P w p (.func f x y) m := run_store P w p _ m rfl
attribute [local go_sem] run_store_fn
theorem rules_any (w : World) :
    Calls Tryz.prog 82 #[] w fun e w' => e = .returned (.agg #[.func (.func 121) #[] #[], .func (.func 122) #[] #[], .int .i64 73, .func (.func 123) #[] #[], .func (.func 124) #[] #[], .int .i64 74, .func (.func 125) #[] #[], .func (.func 126) #[] #[], .int .i64 75]) ∧ Below w.heap.size w w' := by
  go_enter Tryz.func82, Tryz.ntmps82
  go_wp2_with fail
  exact bodyPost_ret (v := .agg #[.func (.func 121) #[] #[], .func (.func 122) #[] #[], .int .i64 73, .func (.func 123) #[] #[], .func (.func 124) #[] #[], .int .i64 74, .func (.func 125) #[] #[], .func (.func 126) #[] #[], .int .i64 75]) (by simp [results, Tryz.results82, go_sem]) rfl ⟨rfl, (Below.refl _ _).alloc (Nat.le_refl _) _⟩
theorem of1_any (b : Nat) (w : World) : Calls Tryz.prog 121 #[.pointer (some ⟨b, 0, none⟩)] w fun e w' => e = .returned (.pointer (some ⟨b, 1, none⟩)) ∧ w = w' := by
  go_enter Tryz.func121, Tryz.ntmps121
  go_wp2_with fail
  go_ret
  exact ⟨rfl, rfl⟩
theorem of3_any (b : Nat) (w : World) : Calls Tryz.prog 123 #[.pointer (some ⟨b, 0, none⟩)] w fun e w' => e = .returned (.pointer (some ⟨b, 2, none⟩)) ∧ w = w' := by
  go_enter Tryz.func123, Tryz.ntmps123
  go_wp2_with fail
  go_ret
  exact ⟨rfl, rfl⟩
theorem of5_any (b : Nat) (w : World) : Calls Tryz.prog 125 #[.pointer (some ⟨b, 0, none⟩)] w fun e w' => e = .returned (.pointer (some ⟨b, 3, none⟩)) ∧ w = w' := by
  go_enter Tryz.func125, Tryz.ntmps125
  go_wp2_with fail
  go_ret
  exact ⟨rfl, rfl⟩
theorem may2_any (n p : Int) (w : World) (hp : 0 ≤ p ∧ p ≤ 9223372036854775807) : Calls Tryz.prog 122 #[.int .u64 n, .int .i64 p] w fun e w' => e = .returned (.bool (n == p)) ∧ w = w' := by
  have e1 : IntKind.u64.wrap p = p := by rw [IntKind.wrap_u64]; omega
  go_enter Tryz.func122, Tryz.ntmps122
  go_wp2_with fail
  go_ret
  exact ⟨rfl, rfl⟩
theorem may4_any (n p : Int) (w : World) (h0 : 0 ≤ n) : Calls Tryz.prog 124 #[.int .u64 n, .int .i64 p] w fun e w' => e = .returned (.bool (decide (1 ≤ n ∧ n ≤ 131072))) ∧ w = w' := by
  by_cases h1 : n ≥ 1
  · by_cases h2 : n ≤ 131072
    · go_enter Tryz.func124, Tryz.ntmps124
      go_wp2_with fail
      go_ret
      exact ⟨ret_bool (decide_eq_true ⟨h1, h2⟩).symm, rfl⟩
    · have h3 : decide (n ≤ 131072) = false := decide_eq_false h2
      go_enter Tryz.func124, Tryz.ntmps124
      go_wp2_with fail
      go_ret
      exact ⟨rfl, rfl⟩
  · have h3 : decide (1 ≤ n) = false := decide_eq_false h1
    go_enter Tryz.func124, Tryz.ntmps124
    go_wp2_with fail
    go_ret
    exact ⟨rfl, rfl⟩
theorem may6_any (n p : Int) (w : World) (h0 : 0 ≤ n) : Calls Tryz.prog 126 #[.int .u64 n, .int .i64 p] w fun e w' => e = .returned (.bool (decide (1 ≤ n ∧ n ≤ 64))) ∧ w = w' := by
  by_cases h1 : n ≥ 1
  · by_cases h2 : n ≤ 64
    · go_enter Tryz.func126, Tryz.ntmps126
      go_wp2_with fail
      go_ret
      exact ⟨ret_bool (decide_eq_true ⟨h1, h2⟩).symm, rfl⟩
    · have h3 : decide (n ≤ 64) = false := decide_eq_false h2
      go_enter Tryz.func126, Tryz.ntmps126
      go_wp2_with fail
      go_ret
      exact ⟨rfl, rfl⟩
  · have h3 : decide (1 ≤ n) = false := decide_eq_false h1
    go_enter Tryz.func126, Tryz.ntmps126
    go_wp2_with fail
    go_ret
    exact ⟨rfl, rfl⟩
theorem total_any (a : Option Addr) (n c : Nat) (rs : List Row) (w : World) (hn : n ≤ 140737488351232) (h : Spans w a n c rs) :
    Calls Tryz.prog 84 #[.slice a n c] w fun e w' => e = .returned (.int .i64 (tot rs)) ∧ Below w.heap.size w w' := by
  obtain rfl : n = rs.length := h.1.symm
  have H := Lib.hid h; clear h
  go_enter Tryz.func84, Tryz.ntmps84
  go_wp2_with fail
  go_loopw [3, 8] (fun t i wr => ∃ k : Nat, k ≤ rs.length ∧ i = .int .i64 k ∧ t = .int .i64 (tot (rs.take k)) ∧ Below w.heap.size w wr) (fun _ i _ => rs.length - (intOf i).toNat)
  case atStart => exact ⟨0, Nat.zero_le _, rfl, rfl, Below.refl _ _⟩
  case round =>
    obtain ⟨k, hk, rfl, rfl, hb⟩ := hrel
    have B := Lib.hid hb; clear hb
    by_cases hlt : k < rs.length
    · obtain ⟨⟨kk, x, y, z⟩, hx⟩ : ∃ e, rs[k]? = some e := ⟨_, List.getElem?_eq_getElem hlt⟩
      obtain ⟨b, o, ak, nk, ck, rfl, c0, c1, c2, c3, _⟩ := (H.out.keep B.out).2.2.2 k kk x y z hx
      have hs := tot_snoc (rs.take k) (kk, x, y, z)
      rw [← rtake_snoc hx] at hs
      have HS := Lib.hid hs
      have lw := B.out.size
      clear hs hx
      go_wp2_with fail
      go_roundw
      case rel => exact ⟨k + 1, by omega, by go_num, val_int HS.out.symm, B.out.alloc lw _⟩
      case measure => simp [intOf]; omega
    · have e : rs.take k = rs := List.take_of_length_le (by omega)
      have E := Lib.hid e; clear e
      go_wp2_with fail
      go_ret
      exact ⟨ret_int (by rw [E.out]), B.out⟩
theorem rtotal_any (a : Option Addr) (n c : Nat) (rs : List Row) (w : World) (hn : n ≤ 140737488351232) (h : Spans w a n c rs) :
    Calls Tryz.prog 87 #[.slice a n c] w fun e w' => e = .returned (.int .i64 (tot rs)) ∧ Below w.heap.size w w' := by
  obtain rfl : n = rs.length := h.1.symm
  have H := Lib.hid h; clear h
  go_enter Tryz.func87, Tryz.ntmps87
  go_wp2_with fail
  go_loopw [3, 4] (fun t i wr => ∃ k : Nat, k ≤ rs.length ∧ i = .int .i64 k ∧ t = .int .i64 (tot (rs.take k)) ∧ Below w.heap.size w wr) (fun _ i _ => rs.length - (intOf i).toNat)
  case atStart => exact ⟨0, Nat.zero_le _, rfl, rfl, Below.refl _ _⟩
  case round =>
    obtain ⟨k, hk, rfl, rfl, hb⟩ := hrel
    have B := Lib.hid hb; clear hb
    by_cases hlt : k < rs.length
    · obtain ⟨⟨kk, x, y, z⟩, hx⟩ : ∃ e, rs[k]? = some e := ⟨_, List.getElem?_eq_getElem hlt⟩
      obtain ⟨b, o, ak, nk, ck, rfl, c0, c1, c2, c3, _⟩ := (H.out.keep B.out).2.2.2 k kk x y z hx
      have hs := tot_snoc (rs.take k) (kk, x, y, z)
      rw [← rtake_snoc hx] at hs
      have HS := Lib.hid hs
      have lw := B.out.size
      clear hs hx
      go_wp2_with fail
      go_roundw
      case rel => exact ⟨k + 1, by omega, by go_num, val_int HS.out.symm, B.out⟩
      case measure => simp [intOf]; omega
    · have e : rs.take k = rs := List.take_of_length_le (by omega)
      have E := Lib.hid e; clear e
      go_wp2_with fail
      go_ret
      exact ⟨ret_int (by rw [E.out]), B.out⟩
end Go.Proofs.YtljcogimeimknaaGreat
/- May rows be: Check, the program's and the reference's: contracts. Conditions: the rows within reach. Written by a program of this place (gen_FootCheck.py). -/
namespace Go.Proofs.YtljcogimeimknaaGreat
set_option linter.unusedVariables false
open Go.RowKit

end Go.Proofs.YtljcogimeimknaaGreat
/- May rows be: Check, the program's: contract. Conditions: the rows within reach. Written by a program of this place (gen_FootPCheck.py). -/
namespace Go.Proofs.YtljcogimeimknaaGreat
set_option linter.unusedVariables false
open Go.RowKit
attribute [local go_sem] run_store_fn

theorem run_cutS (w : World) (aa : Option Addr) (n c : Nat) (k2 : IntKind) (r : Nat) (hr : r ≤ c) : (Instr.slice 33 (.slice aa n c) none (some (.int k2 r)) none).run Tryz.prog w = .ok (.slice aa r c) w := by
  have hi : (Tryz.prog.info? 94).map (fun i => (i.zero, i.size, i.bytes)) = some (some (.agg #[.slice none 0 0, .int .i64 0, .int .i64 0, .int .i64 0]), 4, 48) := by kernel_rfl
  obtain ⟨i, hi1, hi2, hi3, hi4⟩ := info_parts hi
  cases aa <;> simp [Instr.slice, run_underlying Tryz.underlying33, Instr.sliceBounds, Instr.sliceBound, asIntOf, sizeOf, typeInfo, hi1, hr, Addr.add]

set_option maxHeartbeats 4000000 in
set_option maxRecDepth 100000 in
theorem fcheck_any (a : Option Addr) (n c : Nat) (rs : List Row) (w : World) (hn : n ≤ 140737488351232) (hf : FitR 140737488351232 rs) (h : Spans w a n c rs) :
    Calls Tryz.prog 152 #[.slice a n c] w fun e w' => e = .returned (.tuple #[.int .i64 ((fchk rs).1 : Nat), .int .i64 ((fchk rs).2 : Nat)]) ∧ Below w.heap.size w w' := by
  obtain rfl : n = rs.length := h.1.symm
  have HF := Lib.hid hf; clear hf
  unfold fchk
  by_cases hm : 8388608 < rs.length
  · rw [if_pos hm]
    have t1 : (rs.length : Int) > 8388608 := by omega
    go_enter Tryz.func152, Tryz.ntmps152
    go_wp2_with fail
    go_ret2
    exact ⟨rfl, Below.refl _ _⟩
  · rw [if_neg hm]
    have t1 : decide (8388608 < rs.length) = false := decide_eq_false hm
    have t2 : decide ((8388608 : Int) < (rs.length : Int)) = false := decide_eq_false (by omega)
    have t3 : decide ((rs.length : Int) > 8388608) = false := decide_eq_false (by omega)
    have hm' : rs.length ≤ 8388608 := by omega
    obtain ⟨⟨r0, r1⟩, hr⟩ : ∃ R, fck 0 8 [] rs = R := ⟨_, rfl⟩
    rw [hr]
    have HR := Lib.hid hr; clear hr hm
    have S0 := Lib.hid ((Stab.spans h).and (Stab.below (Below.refl w.heap.size w)))
    have H := Lib.hid h
    clear h
    go_enter Tryz.func152, Tryz.ntmps152
    go_wp2_with fail
    refine (rules_any _).mono ?_
    rintro e w1 ⟨rfl, hb⟩
    replace S0 := Lib.hid ((S0.out.keep hb).alloc (.cells #[.func (.func 121) #[] #[], .func (.func 122) #[] #[], .int .i64 73, .func (.func 123) #[] #[], .func (.func 124) #[] #[], .int .i64 74, .func (.func 125) #[] #[], .func (.func 126) #[] #[], .int .i64 75] 149))
    have T := Lib.hid (Stab.new w1 (.cells #[.func (.func 121) #[] #[], .func (.func 122) #[] #[], .int .i64 73, .func (.func 123) #[] #[], .func (.func 124) #[] #[], .int .i64 74, .func (.func 125) #[] #[], .func (.func 126) #[] #[], .int .i64 75] 149))
    clear hb
    go_upto_region 4 with (fail)
    obtain ⟨g4, hg⟩ : ∃ g, w1.heap.size = g := ⟨_, rfl⟩
    rw [hg] at T ⊢
    clear hg
    generalize w1.alloc (.cells #[.func (.func 121) #[] #[], .func (.func 122) #[] #[], .int .i64 73, .func (.func 123) #[] #[], .func (.func 124) #[] #[], .int .i64 74, .func (.func 125) #[] #[], .func (.func 126) #[] #[], .int .i64 75] 149) = w2 at *
    have S1 := Lib.hid (S0.out.and T.out)
    clear S0 T
    go_wp2_with fail
    go_loopw [16] (fun i wr => ∃ (k : Nat) (p : Int) (l : List UInt8), k ≤ rs.length ∧ i = .int .i64 k ∧ (8 ≤ p ∧ p ≤ 8 + 131072 * k) ∧ (k = 0 → p = 8) ∧ (∀ j, k = j + 1 → ∃ x y z, rs[j]? = some (l, x, y, z) ∧ x + y = p) ∧ fck k p l (rs.drop k) = (r0, r1) ∧ Stab wr (fun W => (Spans W a rs.length c rs ∧ Below w.heap.size w W) ∧ W.heap[g4]? = some (.cells #[.func (.func 121) #[] #[], .func (.func 122) #[] #[], .int .i64 73, .func (.func 123) #[] #[], .func (.func 124) #[] #[], .int .i64 74, .func (.func 125) #[] #[], .func (.func 126) #[] #[], .int .i64 75] 149 (0, 0)))) (fun i _ => rs.length - (intOf i).toNat)
    case atStart => exact ⟨0, 8, [], Nat.zero_le _, rfl, ⟨by omega, by omega⟩, fun _ => rfl, (fun j hj => by cases hj), HR.out, S1.out⟩
    case round =>
      obtain ⟨k, p, l, hk, rfl, ⟨hp1, hp2⟩, hp8, hl, hr, hS⟩ := hrel
      have HL := Lib.hid hl
      have H8 := Lib.hid hp8
      have S := Lib.hid hS
      clear hl hp8 hS
      by_cases hlt : k < rs.length
      · obtain ⟨⟨kk, x, y, z⟩, hx⟩ : ∃ e, rs[k]? = some e := ⟨_, List.getElem?_eq_getElem hlt⟩
        obtain ⟨fk, fx, fy, fz⟩ := HF.out.at hx
        obtain ⟨b, o, ak, nk, ck, ha, c0, c1, c2, c3, s0⟩ := S.out.now.1.1.2.2.2 k kk x y z hx
        subst ha
        rw [rdrop_cons hx] at hr
        have HX := Lib.hid hx; clear hx
        obtain rfl : kk.length = nk := s0.len
        have S0 := Lib.hid ((Stab.sl s0).alloc (.cells #[.slice ak kk.length ck, .int .i64 x, .int .i64 y, .int .i64 z] 94))
        replace S := Lib.hid (S.out.alloc (.cells #[.slice ak kk.length ck, .int .i64 x, .int .i64 y, .int .i64 z] 94))
        have X := Lib.hid (Stab.new wr (.cells #[.slice ak kk.length ck, .int .i64 x, .int .i64 y, .int .i64 z] 94))
        clear s0
        go_upto_region 7 with (fail)
        obtain ⟨g6, hg⟩ : ∃ g, wr.heap.size = g := ⟨_, rfl⟩
        rw [hg] at X ⊢
        clear hg c0 c1 c2 c3
        generalize wr.alloc (.cells #[.slice ak kk.length ck, .int .i64 x, .int .i64 y, .int .i64 z] 94) = w3 at *
        have hA : ∀ W : World, Spans W (some ⟨b, o, none⟩) rs.length c rs → Sl Bf W ak kk.length ck kk → Calls Tryz.prog 158 #[.slice (some ⟨b, o, none⟩) k c, .slice ak kk.length ck] W fun e w' => e = .returned (.bool (decide (¬ (0 < k ∧ 0 ≤ cmp l kk)))) ∧ W = w' := by
          intro W hs hsk
          by_cases hk0 : k = 0
          · subst hk0
            rw [decide_eq_true (by omega)]
            exact above0_any _ _ _ _ _ _
          · obtain ⟨j, rfl⟩ : ∃ j, k = j + 1 := ⟨k - 1, by omega⟩
            obtain ⟨x', y', z', hlj, _⟩ := HL.out j rfl
            have hlj2 : (rs.take (j + 1))[j]? = some (l, x', y', z') := by rw [List.getElem?_take_of_lt (by omega)]; exact hlj
            have := above_any _ j c (rs.take (j + 1)) l x' y' z' ak kk.length ck kk W (by omega) (hs.upto (j + 1) (by omega)) hlj2 hsk
            have e : decide (¬ (0 < j + 1 ∧ 0 ≤ cmp l kk)) = decide (cmp l kk < 0) := by
              by_cases h : cmp l kk < 0
              · rw [decide_eq_true h, decide_eq_true (by omega)]
              · rw [decide_eq_false h, decide_eq_false (by omega)]
            rw [e]; exact this
        have hE : ∀ W : World, Spans W (some ⟨b, o, none⟩) rs.length c rs → Calls Tryz.prog 128 #[.slice (some ⟨b, o, none⟩) k c] W fun e w' => e = .returned (.int .i64 p) ∧ Below W.heap.size W w' := by
          intro W hs
          by_cases hk0 : k = 0
          · subst hk0
            rw [H8.out rfl]
            exact end0_any _ _ _
          · obtain ⟨j, rfl⟩ : ∃ j, k = j + 1 := ⟨k - 1, by omega⟩
            obtain ⟨x', y', z', hlj, hxy⟩ := HL.out j rfl
            have hlj2 : (rs.take (j + 1))[j]? = some (l, x', y', z') := by rw [List.getElem?_take_of_lt (by omega)]; exact hlj
            exact end_any _ j c (rs.take (j + 1)) l x' y' z' p W (by omega) (hs.upto (j + 1) (by omega)) hlj2 hxy (by omega)
        have HE := Lib.hid hE
        obtain ⟨ab, hab⟩ : ∃ ab, decide (¬ (0 < k ∧ 0 ≤ cmp l kk)) = ab := ⟨_, rfl⟩
        rw [hab] at hA
        have HA := Lib.hid (fun q : Nat => (hA (w3.drewN q) (S.out.drewN q).now.1.1 (S0.out.drewN q).now).mono (fun _ _ (h : _ ∧ _) => (⟨h.1, Drw.of h.2.symm⟩ : _ ∧ Drw (w3.drewN q) _)))
        obtain ⟨q, hq⟩ : ∃ q : Int, ((fkN kk.length : Nat) : Int) = q := ⟨_, rfl⟩
        have hK := fun m : Nat => (fkeyn_any ak kk.length ck (w3.drewN m) fk).mono (fun _ _ (h : _ ∧ _) => (⟨h.1, Drw.of h.2⟩ : _ ∧ Drw (w3.drewN m) _))
        rw [hq] at hK
        have HK := Lib.hid hK
        have hcut := fun W : World => run_cutS W (some ⟨b, o, none⟩) rs.length c .i64 k (by have := S.out.now.1.1.2.1; omega)
        have x0 := cell_of X.out.now 0 rfl
        clear hA hE hK H8 HL
        by_cases hkb : kk.length = 0 ∨ 64 < kk.length
        · rw [fck_key (.inl hkb)] at hr
          obtain ⟨rfl, rfl⟩ : k = r0 ∧ 72 = r1 := by simpa using hr
          have hq3 : q = 3 := by rw [← hq, fkN_bad hkb]; rfl
          subst hq3
          have FB := Lib.hid S.out.now.1.2
          clear hr hq hkb hab HR HX S
          go_wp2_with fail
          go_quiet ((go_at_call 148; exact Calls.quiet_of_drw (HK.out _)))
          go_wp2_with fail
          go_ret2
          exact ⟨rfl, keep_drewN FB.out _⟩
        · have hq0 : q = 0 := by rw [← hq, fkN_ok hkb]; rfl
          subst hq0
          by_cases hbad : 0 < k ∧ 0 ≤ cmp l kk
          · rw [fck_key (.inr hbad)] at hr
            obtain ⟨rfl, rfl⟩ : k = r0 ∧ 72 = r1 := by simpa using hr
            obtain rfl : ab = false := by rw [← hab]; exact decide_eq_false (fun h => h hbad)
            have FB := Lib.hid S.out.now.1.2
            clear hr hq hkb hab HR HX S hbad
            go_wp2_with fail
            go_quiet ((first | (go_at_call 148; exact Calls.quiet_of_drw (HK.out _)) | (go_at_call 158; exact Calls.quiet_of_drw (HA.out _))))
            go_wp2_with fail
            go_ret2
            exact ⟨rfl, keep_drewN FB.out _⟩
          · have hG : ¬ ((kk.length = 0 ∨ 64 < kk.length) ∨ (0 < k ∧ 0 ≤ cmp l kk)) := by omega
            have hfin : (x ≠ p → k = r0 ∧ 73 = r1) ∧ (x = p → (y < 1 ∨ 131072 < y) → k = r0 ∧ 74 = r1) ∧ (x = p → ¬ (y < 1 ∨ 131072 < y) → (z < 1 ∨ 64 < z) → k = r0 ∧ 75 = r1) ∧ (x = p → ¬ (y < 1 ∨ 131072 < y) → ¬ (z < 1 ∨ 64 < z) → fck (k + 1) (p + y) kk (rs.drop (k + 1)) = (r0, r1)) := by
              refine ⟨fun h1 => ?_, fun h1 h2 => ?_, fun h1 h2 h3 => ?_, fun h1 h2 h3 => ?_⟩
              · rw [fck_at hG h1] at hr; simpa using hr
              · rw [fck_len hG h1 h2] at hr; simpa using hr
              · rw [fck_ent hG h1 h2 h3] at hr; simpa using hr
              · rw [fck_go hG h1 h2 h3] at hr; exact hr
            have FIN := Lib.hid hfin
            obtain rfl : ab = true := by rw [← hab]; exact decide_eq_true hbad
            clear hfin hr hG hkb hbad hab hq HR
            have d0 := cell_of S.out.now.2 0 rfl
            have d1 := cell_of S.out.now.2 1 rfl
            have d2 := cell_of S.out.now.2 2 rfl
            have d3 := cell_of S.out.now.2 3 rfl
            have d4 := cell_of S.out.now.2 4 rfl
            have d5 := cell_of S.out.now.2 5 rfl
            have d6 := cell_of S.out.now.2 6 rfl
            have d7 := cell_of S.out.now.2 7 rfl
            have d8 := cell_of S.out.now.2 8 rfl
            go_wp2_with fail
            go_quiet ((first | (go_at_call 148; exact Calls.quiet_of_drw (HK.out _)) | (go_at_call 158; exact Calls.quiet_of_drw (HA.out _))))
            go_wp2_with fail
            replace S := Lib.hid (S.out.drewN nq)
            replace X := Lib.hid (X.out.drewN nq)
            clear HA HK x0 hcut d0 d1 d2 d3 d4 d5 d6 d7 d8
            generalize w3.drewN nq = w4 at *
            go_loopw [36] (fun i wr => ∃ j : Nat, j ≤ 3 ∧ i = .int .i64 j ∧ (1 ≤ j → x = p) ∧ (2 ≤ j → ¬ (y < 1 ∨ 131072 < y)) ∧ (3 ≤ j → ¬ (z < 1 ∨ 64 < z)) ∧ Stab wr (fun W => (((Spans W (some ⟨b, o, none⟩) rs.length c rs ∧ Below w.heap.size w W) ∧ W.heap[g4]? = some (.cells #[.func (.func 121) #[] #[], .func (.func 122) #[] #[], .int .i64 73, .func (.func 123) #[] #[], .func (.func 124) #[] #[], .int .i64 74, .func (.func 125) #[] #[], .func (.func 126) #[] #[], .int .i64 75] 149 (0, 0))) ∧ W.heap[g6]? = some (.cells #[.slice ak kk.length ck, .int .i64 x, .int .i64 y, .int .i64 z] 94 (0, 0))))) (fun i _ => 3 - (intOf i).toNat)
            case atStart => exact ⟨0, by omega, rfl, (fun h => by omega), (fun h => by omega), (fun h => by omega), S.out.and X.out⟩
            case round =>
              obtain ⟨j, hj, rfl, j1, j2, j3, hs⟩ := hrel
              clear S X
              have S := Lib.hid hs; have J1 := Lib.hid j1; have J2 := Lib.hid j2; have J3 := Lib.hid j3
              clear hs j1 j2 j3
              rcases (by omega : j = 0 ∨ j = 1 ∨ j = 2 ∨ j = 3) with rfl | rfl | rfl | rfl
              · have ix : ∀ W, (Instr.index 149 (.agg #[.func (.func 121) #[] #[], .func (.func 122) #[] #[], .int .i64 73, .func (.func 123) #[] #[], .func (.func 124) #[] #[], .int .i64 74, .func (.func 125) #[] #[], .func (.func 126) #[] #[], .int .i64 75]) (.int .i64 0)).run Tryz.prog W = .ok (.agg #[.func (.func 121) #[] #[], .func (.func 122) #[] #[], .int .i64 73]) W := fun _ => by kernel_rfl
                replace S := Lib.hid (S.out.alloc (.cells #[.func (.func 121) #[] #[], .func (.func 122) #[] #[], .int .i64 73] 148))
                have T := Lib.hid (Stab.new wr (.cells #[.func (.func 121) #[] #[], .func (.func 122) #[] #[], .int .i64 73] 148))
                go_upto_region 12 with (fail)
                obtain ⟨g8, hg⟩ : ∃ g, wr.heap.size = g := ⟨_, rfl⟩
                rw [hg] at T ⊢
                clear hg ix
                generalize wr.alloc (.cells #[.func (.func 121) #[] #[], .func (.func 122) #[] #[], .int .i64 73] 148) = w5 at *
                have r0 := cell_of T.out.now 0 rfl
                have x1 := cell_of S.out.now.2 1 rfl
                have r2 := cell_of T.out.now 2 rfl
                go_wp2_with fail
                refine (of1_any _ _).mono ?_
                rintro e w' ⟨rfl, rfl⟩
                by_cases hv : x < 0
                · have hne : x ≠ p := by omega
                  obtain ⟨rfl, rfl⟩ := FIN.out.1 hne
                  have FB := Lib.hid S.out.now.1.1.2
                  clear hne FIN
                  go_wp2_with fail
                  go_quiet (fail)
                  go_wp2_with fail
                  go_quiet (fail)
                  go_wp2_with fail
                  go_ret2
                  exact ⟨rfl, keep_drewN (keep_drewN FB.out _) _⟩
                · have hv1 : decide (x < 0) = false := decide_eq_false hv
                  have hv0 : 0 ≤ x := by omega
                  have e1 : IntKind.u64.wrap x = x := by rw [IntKind.wrap_u64]; omega
                  have r1 := cell_of T.out.now 1 rfl
                  have hcut := fun W : World => run_cutS W (some ⟨b, o, none⟩) rs.length c .i64 k (by have := S.out.now.1.1.1.2.1; omega)
                  obtain ⟨t, ht⟩ : ∃ t, (x == p) = t := ⟨_, rfl⟩
                  have hM := fun W : World => (may2_any x p W (by omega))
                  rw [ht] at hM
                  have HM := Lib.hid hM
                  clear hM
                  have SD : Hid (Stab w5.drew _) := Lib.hid (S.out.drewN 1)
                  have TD : Hid (Stab w5.drew _) := Lib.hid (T.out.drewN 1)
                  have HE5 := Lib.hid (HE.out w5.drew SD.out.now.1.1.1)
                  go_wp2_with fail
                  go_region_held3 (fun w' => w'.cell? ⟨g8, 1, none⟩ = some (.func (.func 122) #[] #[])) (first | go_keep | assumption) (first | (go_at_call 128; refine HE5.out.mono ?_; rintro e w6 ⟨rfl, hb6⟩; have S6 := Lib.hid (SD.out.keep hb6); have r6 := cell_of (TD.out.keep hb6).now 2 rfl; have q6 : w6.cell? ⟨g8, 1, none⟩ = some (.func (.func 122) #[] #[]) := cell_of (TD.out.keep hb6).now 1 rfl; clear hb6) | (go_at_call 122; refine (HM.out _).mono ?_; rintro e w' ⟨rfl, rfl⟩))
                  cases t
                  · have hne : x ≠ p := (by have := ht; rw [beq_eq_false_iff_ne] at this; exact this)
                    obtain ⟨rfl, rfl⟩ := FIN.out.1 hne
                    have FB := Lib.hid S6.out.now.1.1.2
                    clear hne FIN ht
                    go_wp2_with fail
                    go_quiet (fail)
                    go_wp2_with fail
                    go_ret2
                    exact ⟨rfl, keep_drewN FB.out _⟩
                  · have ho : x = p := (by have := ht; rw [beq_iff_eq] at this; exact this)
                    have HO := Lib.hid ho
                    clear ho ht r6
                    go_wp2_with fail
                    go_roundw
                    case rel => exact ⟨1, by omega, rfl, (fun _ => HO.out), (fun h => by omega), (fun h => by omega), S6.out⟩
                    case measure => simp [intOf]
              · have ix : ∀ W, (Instr.index 149 (.agg #[.func (.func 121) #[] #[], .func (.func 122) #[] #[], .int .i64 73, .func (.func 123) #[] #[], .func (.func 124) #[] #[], .int .i64 74, .func (.func 125) #[] #[], .func (.func 126) #[] #[], .int .i64 75]) (.int .i64 1)).run Tryz.prog W = .ok (.agg #[.func (.func 123) #[] #[], .func (.func 124) #[] #[], .int .i64 74]) W := fun _ => by kernel_rfl
                replace S := Lib.hid (S.out.alloc (.cells #[.func (.func 123) #[] #[], .func (.func 124) #[] #[], .int .i64 74] 148))
                have T := Lib.hid (Stab.new wr (.cells #[.func (.func 123) #[] #[], .func (.func 124) #[] #[], .int .i64 74] 148))
                go_upto_region 12 with (fail)
                obtain ⟨g8, hg⟩ : ∃ g, wr.heap.size = g := ⟨_, rfl⟩
                rw [hg] at T ⊢
                clear hg ix
                generalize wr.alloc (.cells #[.func (.func 123) #[] #[], .func (.func 124) #[] #[], .int .i64 74] 148) = w5 at *
                have r0 := cell_of T.out.now 0 rfl
                have x2 := cell_of S.out.now.2 2 rfl
                have r2 := cell_of T.out.now 2 rfl
                go_wp2_with fail
                refine (of3_any _ _).mono ?_
                rintro e w' ⟨rfl, rfl⟩
                by_cases hv : y < 0
                · have hne : (y < 1 ∨ 131072 < y) := by omega
                  obtain ⟨rfl, rfl⟩ := FIN.out.2.1 (J1.out (by omega)) hne
                  have FB := Lib.hid S.out.now.1.1.2
                  clear hne FIN
                  go_wp2_with fail
                  go_quiet (fail)
                  go_wp2_with fail
                  go_quiet (fail)
                  go_wp2_with fail
                  go_ret2
                  exact ⟨rfl, keep_drewN (keep_drewN FB.out _) _⟩
                · have hv1 : decide (y < 0) = false := decide_eq_false hv
                  have hv0 : 0 ≤ y := by omega
                  have e1 : IntKind.u64.wrap y = y := by rw [IntKind.wrap_u64]; omega
                  have r1 := cell_of T.out.now 1 rfl
                  have hcut := fun W : World => run_cutS W (some ⟨b, o, none⟩) rs.length c .i64 k (by have := S.out.now.1.1.1.2.1; omega)
                  obtain ⟨t, ht⟩ : ∃ t, (decide (1 ≤ y ∧ y ≤ 131072)) = t := ⟨_, rfl⟩
                  have hM := fun W : World => (may4_any y p W (by omega))
                  rw [ht] at hM
                  have HM := Lib.hid hM
                  clear hM
                  have SD : Hid (Stab w5.drew _) := Lib.hid (S.out.drewN 1)
                  have TD : Hid (Stab w5.drew _) := Lib.hid (T.out.drewN 1)
                  have HE5 := Lib.hid (HE.out w5.drew SD.out.now.1.1.1)
                  go_wp2_with fail
                  go_region_held3 (fun w' => w'.cell? ⟨g8, 1, none⟩ = some (.func (.func 124) #[] #[])) (first | go_keep | assumption) (first | (go_at_call 128; refine HE5.out.mono ?_; rintro e w6 ⟨rfl, hb6⟩; have S6 := Lib.hid (SD.out.keep hb6); have r6 := cell_of (TD.out.keep hb6).now 2 rfl; have q6 : w6.cell? ⟨g8, 1, none⟩ = some (.func (.func 124) #[] #[]) := cell_of (TD.out.keep hb6).now 1 rfl; clear hb6) | (go_at_call 124; refine (HM.out _).mono ?_; rintro e w' ⟨rfl, rfl⟩))
                  cases t
                  · have hne : (y < 1 ∨ 131072 < y) := (by have := of_decide_eq_false ht; omega)
                    obtain ⟨rfl, rfl⟩ := FIN.out.2.1 (J1.out (by omega)) hne
                    have FB := Lib.hid S6.out.now.1.1.2
                    clear hne FIN ht
                    go_wp2_with fail
                    go_quiet (fail)
                    go_wp2_with fail
                    go_ret2
                    exact ⟨rfl, keep_drewN FB.out _⟩
                  · have ho : ¬ (y < 1 ∨ 131072 < y) := (by have := of_decide_eq_true ht; omega)
                    have HO := Lib.hid ho
                    clear ho ht r6
                    go_wp2_with fail
                    go_roundw
                    case rel => exact ⟨2, by omega, rfl, (fun _ => J1.out (by omega)), (fun _ => HO.out), (fun h => by omega), S6.out⟩
                    case measure => simp [intOf]
              · have ix : ∀ W, (Instr.index 149 (.agg #[.func (.func 121) #[] #[], .func (.func 122) #[] #[], .int .i64 73, .func (.func 123) #[] #[], .func (.func 124) #[] #[], .int .i64 74, .func (.func 125) #[] #[], .func (.func 126) #[] #[], .int .i64 75]) (.int .i64 2)).run Tryz.prog W = .ok (.agg #[.func (.func 125) #[] #[], .func (.func 126) #[] #[], .int .i64 75]) W := fun _ => by kernel_rfl
                replace S := Lib.hid (S.out.alloc (.cells #[.func (.func 125) #[] #[], .func (.func 126) #[] #[], .int .i64 75] 148))
                have T := Lib.hid (Stab.new wr (.cells #[.func (.func 125) #[] #[], .func (.func 126) #[] #[], .int .i64 75] 148))
                go_upto_region 12 with (fail)
                obtain ⟨g8, hg⟩ : ∃ g, wr.heap.size = g := ⟨_, rfl⟩
                rw [hg] at T ⊢
                clear hg ix
                generalize wr.alloc (.cells #[.func (.func 125) #[] #[], .func (.func 126) #[] #[], .int .i64 75] 148) = w5 at *
                have r0 := cell_of T.out.now 0 rfl
                have x3 := cell_of S.out.now.2 3 rfl
                have r2 := cell_of T.out.now 2 rfl
                go_wp2_with fail
                refine (of5_any _ _).mono ?_
                rintro e w' ⟨rfl, rfl⟩
                by_cases hv : z < 0
                · have hne : (z < 1 ∨ 64 < z) := by omega
                  obtain ⟨rfl, rfl⟩ := FIN.out.2.2.1 (J1.out (by omega)) (J2.out (by omega)) hne
                  have FB := Lib.hid S.out.now.1.1.2
                  clear hne FIN
                  go_wp2_with fail
                  go_quiet (fail)
                  go_wp2_with fail
                  go_quiet (fail)
                  go_wp2_with fail
                  go_ret2
                  exact ⟨rfl, keep_drewN (keep_drewN FB.out _) _⟩
                · have hv1 : decide (z < 0) = false := decide_eq_false hv
                  have hv0 : 0 ≤ z := by omega
                  have e1 : IntKind.u64.wrap z = z := by rw [IntKind.wrap_u64]; omega
                  have r1 := cell_of T.out.now 1 rfl
                  have hcut := fun W : World => run_cutS W (some ⟨b, o, none⟩) rs.length c .i64 k (by have := S.out.now.1.1.1.2.1; omega)
                  obtain ⟨t, ht⟩ : ∃ t, (decide (1 ≤ z ∧ z ≤ 64)) = t := ⟨_, rfl⟩
                  have hM := fun W : World => (may6_any z p W (by omega))
                  rw [ht] at hM
                  have HM := Lib.hid hM
                  clear hM
                  have SD : Hid (Stab w5.drew _) := Lib.hid (S.out.drewN 1)
                  have TD : Hid (Stab w5.drew _) := Lib.hid (T.out.drewN 1)
                  have HE5 := Lib.hid (HE.out w5.drew SD.out.now.1.1.1)
                  go_wp2_with fail
                  go_region_held3 (fun w' => w'.cell? ⟨g8, 1, none⟩ = some (.func (.func 126) #[] #[])) (first | go_keep | assumption) (first | (go_at_call 128; refine HE5.out.mono ?_; rintro e w6 ⟨rfl, hb6⟩; have S6 := Lib.hid (SD.out.keep hb6); have r6 := cell_of (TD.out.keep hb6).now 2 rfl; have q6 : w6.cell? ⟨g8, 1, none⟩ = some (.func (.func 126) #[] #[]) := cell_of (TD.out.keep hb6).now 1 rfl; clear hb6) | (go_at_call 126; refine (HM.out _).mono ?_; rintro e w' ⟨rfl, rfl⟩))
                  cases t
                  · have hne : (z < 1 ∨ 64 < z) := (by have := of_decide_eq_false ht; omega)
                    obtain ⟨rfl, rfl⟩ := FIN.out.2.2.1 (J1.out (by omega)) (J2.out (by omega)) hne
                    have FB := Lib.hid S6.out.now.1.1.2
                    clear hne FIN ht
                    go_wp2_with fail
                    go_quiet (fail)
                    go_wp2_with fail
                    go_ret2
                    exact ⟨rfl, keep_drewN FB.out _⟩
                  · have ho : ¬ (z < 1 ∨ 64 < z) := (by have := of_decide_eq_true ht; omega)
                    have HO := Lib.hid ho
                    clear ho ht r6
                    go_wp2_with fail
                    go_roundw
                    case rel => exact ⟨3, by omega, rfl, (fun _ => J1.out (by omega)), (fun _ => J2.out (by omega)), (fun _ => HO.out), S6.out⟩
                    case measure => simp [intOf]
              · have HN := Lib.hid (FIN.out.2.2.2 (J1.out (by omega)) (J2.out (by omega)) (J3.out (by omega)))
                have hxp := J1.out (by omega)
                have hy := J2.out (by omega)
                have again : ∀ i, k + 1 = i + 1 → ∃ x2 y2 z2, rs[i]? = some (kk, x2, y2, z2) ∧ x2 + y2 = p + y := fun i hi => by
                  obtain rfl : k = i := by omega
                  exact ⟨x, y, z, HX.out, by omega⟩
                have AG := Lib.hid again
                clear again
                go_wp2_with fail
                go_roundw
                case rel => exact ⟨k + 1, p + y, kk, by omega, by go_num, ⟨by omega, by omega⟩, (fun h => by omega), AG.out, HN.out, S.out.imp fun W h => h.1⟩
                case measure => simp [intOf]; omega
      · have hpe : rs.drop k = [] := List.drop_of_length_le (by omega)
        rw [hpe, fck_nil] at hr
        obtain ⟨rfl, rfl⟩ : 0 = r0 ∧ 0 = r1 := by simpa using hr
        have FB := Lib.hid S.out.now.1.2
        clear hr hpe HR
        go_wp2_with fail
        go_ret2
        exact ⟨rfl, FB.out⟩
end Go.Proofs.YtljcogimeimknaaGreat
/- The bytes of rows: contracts of Bytes, the reference's and the program's. Conditions: the rows within reach. Written by a program of this place (gen_FootBytes.py). -/
namespace Go.Proofs.YtljcogimeimknaaGreat
set_option linter.unusedVariables false
open Go.RowKit

theorem u64_nn (n : Nat) (h : n < 18446744073709551616) : IntKind.u64.wrap (n : Int) = n := by rw [IntKind.wrap_u64]; omega
theorem Spans.row {w : World} {a : Option Addr} {n c : Nat} {rs : List Row} (h : Spans w a n c rs) {i : Nat} {k : List UInt8} {x y z : Int} (hi : rs[i]? = some (k, x, y, z)) :
    ∃ b o ak ck, a = some ⟨b, o, none⟩ ∧ ∀ W, Below w.heap.size w W → W.cell? ⟨b, o + i * 4, none⟩ = some (.slice ak k.length ck) ∧ W.cell? ⟨b, o + i * 4 + 1, none⟩ = some (.int .i64 x) ∧ W.cell? ⟨b, o + i * 4 + 2, none⟩ = some (.int .i64 y) ∧ W.cell? ⟨b, o + i * 4 + 3, none⟩ = some (.int .i64 z) ∧ Sl Bf W ak k.length ck k := by
  obtain ⟨b, o, ak, nk, ck, ha, c0, c1, c2, c3, s0⟩ := h.2.2.2 i k x y z hi
  obtain rfl : k.length = nk := s0.len
  have kp : ∀ {j : Nat} {v : Value} {W : World}, Below w.heap.size w W → w.cell? ⟨b, j, none⟩ = some v → W.cell? ⟨b, j, none⟩ = some v := fun hb hc => (World.cell?_of_block (hb.block _ (cell_lt hc))).trans hc
  exact ⟨b, o, ak, ck, ha, fun W hb => ⟨kp hb c0, kp hb c1, kp hb c2, kp hb c3, s0.keep hb⟩⟩
set_option maxHeartbeats 2000000 in
set_option maxRecDepth 100000 in
theorem ffbytes_any (a : Option Addr) (n c : Nat) (rs : List Row) (w : World) (hn : n ≤ 140737488351232) (hf : FitR 140737488351232 rs) (h : Spans w a n c rs) :
    Calls Tryz.prog 114 #[.slice a n c] w fun e w' => ∃ v, e = .returned (.tuple #[v, .int .i64 ((fchk rs).2 : Nat), .int .i64 ((fchk rs).1 : Nat)]) ∧ OwT fB w' w.heap.size 5 v (fbs rs) ∧ Below w.heap.size w w' := by
  obtain rfl : n = rs.length := h.1.symm
  have HC := fcheck_any a rs.length c rs w hn hf h
  by_cases hz : (fchk rs).2 = 0
  · obtain ⟨hm, hw⟩ := fchk_all hz
    rw [fchk_zero hz] at HC
    replace HC := Lib.hid HC
    rw [fbs_yes hz, fchk_zero hz]
    have hbb := fbytes_len hz
    have HW := Lib.hid hw
    have H := Lib.hid h
    clear hz hf h hw
    go_enter Tryz.func114, Tryz.ntmps114
    go_wp2_with fail
    refine HC.out.mono ?_
    rintro e w1 ⟨rfl, hb⟩
    have B := Lib.hid hb
    have hlw : w.heap.size ≤ w1.heap.size := hb.size
    have r0 := u64_nn rs.length (by omega)
    clear hb HC
    go_wp2_with fail
    refine (vbytes_any rs.length w1 (by omega)).mono ?_
    rintro e w2 ⟨v0, rfl, ho, hb⟩
    have O := Lib.hid (ho.base hlw)
    replace B := Lib.hid (B.out.trans (hb.mono hlw))
    clear ho hb r0
    go_wp2_with fail
    go_loopw [7, 25] (fun s i wr => ∃ k : Nat, k ≤ rs.length ∧ i = .int .i64 k ∧ OwT fB wr w.heap.size 5 s (vb rs.length ++ (rs.take k).flatMap rowB) ∧ Below w.heap.size w wr) (fun _ i _ => rs.length - (intOf i).toNat)
    case atStart => exact ⟨0, Nat.zero_le _, rfl, by simpa using O.out, B.out⟩
    case round =>
      clear O B
      obtain ⟨k, hk, rfl, ho, hb⟩ := hrel
      have lr : wr.heap.size = wr.heap.size := rfl
      have lw := hb.size
      have B := Lib.hid hb
      by_cases hlt : k < rs.length
      · obtain ⟨⟨kk, x, y, z⟩, hx⟩ : ∃ e, rs[k]? = some e := ⟨_, List.getElem?_eq_getElem hlt⟩
        obtain ⟨⟨q1, q2⟩, ⟨q3, q4⟩, ⟨q5, q6⟩, ⟨q7, q8⟩⟩ := HW.out _ (List.mem_of_getElem? hx)
        dsimp only at q1 q2 q3 q4 q5 q6 q7 q8
        obtain ⟨x, rfl⟩ := Int.eq_ofNat_of_zero_le (show 0 ≤ x by omega)
        obtain ⟨y, rfl⟩ := Int.eq_ofNat_of_zero_le (show 0 ≤ y by omega)
        obtain ⟨z, rfl⟩ := Int.eq_ofNat_of_zero_le (show 0 ≤ z by omega)
        obtain ⟨b, o, ak, ck, rfl, hrow⟩ := H.out.row hx
        have HR := Lib.hid hrow
        have hsn := rowsB_take hx
        have hlz := rowsB_upto HW.out k
        have hv10 := vb_ten (n := rs.length) (by omega)
        obtain ⟨zs, hzs⟩ : ∃ zs, vb rs.length ++ (rs.take k).flatMap rowB = zs := ⟨_, rfl⟩
        have hzl : zs.length ≤ 873000000 := by rw [← hzs, List.length_append]; omega
        rw [hzs] at ho
        have O := Lib.hid ho
        obtain ⟨b0, hb0⟩ : ∃ x, vb kk.length = x := ⟨_, rfl⟩
        have t0 : b0.length ≤ 10 := hb0 ▸ vb_ten (by omega)
        obtain ⟨bj, hbj⟩ : ∃ q, vbs [x, y, z] = q := ⟨_, rfl⟩
        have hall : ∀ m, m ∈ [x, y, z] → m < 18446744073709551616 := by intro m hm; simp at hm; omega
        have tj : bj.length ≤ 30 := by
          have h1 := vb_ten (n := x) (by omega); have h2 := vb_ten (n := y) (by omega); have h3 := vb_ten (n := z) (by omega)
          rw [← hbj]; unfold vbs; simp; omega
        have hfin : vb rs.length ++ (rs.take (k + 1)).flatMap rowB = zs ++ b0 ++ kk ++ bj := by
          rw [hsn, ← List.append_assoc, hzs]
          unfold rowB
          simp [hb0, hbj]
        have FIN := Lib.hid hfin
        have R0 := Lib.hid (fun W : World => hb0 ▸ vbytes_any kk.length W (by omega))
        have RJ := Lib.hid (fun (W : World) (q : Option Addr) (hs : Sl Nf W q 3 3 [x, y, z]) => hbj ▸ join_any q 3 3 [x, y, z] W (by omega) hall (by rw [hbj]; omega) hs)
        have u0 := u64_nn kk.length (by omega)
        have u1 := u64_nn x (by omega)
        have u2 := u64_nn y (by omega)
        have u3 := u64_nn z (by omega)
        obtain ⟨c0, c1, c2, c3, s0⟩ := HR.out wr B.out
        have S := Lib.hid (Stab.new wr (.cells #[.slice ak kk.length ck, .int .i64 (x : Nat), .int .i64 (y : Nat), .int .i64 (z : Nat)] 94))
        have N := Lib.hid ho.off
        replace O := Lib.hid (O.out.alloc (.cells #[.slice ak kk.length ck, .int .i64 (x : Nat), .int .i64 (y : Nat), .int .i64 (z : Nat)] 94))
        replace B := Lib.hid (B.out.alloc lw (.cells #[.slice ak kk.length ck, .int .i64 (x : Nat), .int .i64 (y : Nat), .int .i64 (z : Nat)] 94))
        replace lw := Nat.le_trans lw (le_allocF wr (.cells #[.slice ak kk.length ck, .int .i64 (x : Nat), .int .i64 (y : Nat), .int .i64 (z : Nat)] 94))
        clear hb0 hbj hsn hlz hv10 hzs hx hrow hb ho hfin s0 hall
        go_upto_region 8 with (fail)
        obtain ⟨g, hg⟩ : ∃ g, wr.heap.size = g := ⟨_, rfl⟩
        rw [hg] at S N ⊢
        clear hg c0 c1 c2 c3 lr
        generalize wr.alloc (.cells #[.slice ak kk.length ck, .int .i64 (x : Nat), .int .i64 (y : Nat), .int .i64 (z : Nat)] 94) = w3 at *
        have lg : g < w3.heap.size := (Array.getElem?_eq_some_iff.1 S.out.now).1
        have c0 := cell_of S.out.now 0 rfl
        go_wp2_with fail
        refine (R0.out _).mono ?_
        rintro e w4 ⟨_, rfl, ho, hb⟩
        obtain ⟨x0, n0, d0, rfl, zz⟩ := ho.slN
        obtain rfl : b0.length = n0 := zz.len
        have Z := Lib.hid zz
        replace S := Lib.hid (S.out.keep hb)
        replace O := Lib.hid (O.out.keep hb)
        replace B := Lib.hid (B.out.trans (hb.mono lw))
        replace lw := Nat.le_trans lw hb.size
        replace lg := Nat.lt_of_lt_of_le lg hb.size
        clear c0 ho hb zz R0
        have X := Lib.hid S.out.now
        clear S
        have c0 := cell_of X.out 0 rfl
        go_wp2_with (first
          | (at_builtin; refine wpList_appT eltTB rfl (.tmp 29) (.tmp 34) rfl w.heap.size _ (zs) (by rfl) O.out x0 b0.length d0 b0 (by rfl) (Z.out).toT (by unfold maxLen; simp; omega) (by simp; omega) lw (zs ++ b0) rfl ?_; intro vw5 w5 h5 hg5 hv5 hb5; have O := Lib.hid h5; have B := Lib.hid (B.out.trans hb5); have lw := Nat.le_trans lw hg5.size; have X := Lib.hid (N.out.keep hg5 X.out); have N := Lib.hid (N.out.step lg hv5); have lg := Nat.lt_of_lt_of_le lg hg5.size; have c0 := cell_of X.out 0 rfl; have c1 := cell_of X.out 1 rfl; have c2 := cell_of X.out 2 rfl; have c3 := cell_of X.out 3 rfl; clear h5 hg5 hv5 hb5)
          | (at_builtin; refine wpList_appT eltTB rfl (.tmp 36) (.tmp 38) rfl w.heap.size _ (zs ++ b0) (by rfl) O.out ak kk.length ck kk (by rfl) ((HR.out _ B.out).2.2.2.2).toT (by unfold maxLen; simp; omega) (by simp; omega) lw (zs ++ b0 ++ kk) rfl ?_; intro vw6 w6 h5 hg5 hv5 hb5; have O := Lib.hid h5; have B := Lib.hid (B.out.trans hb5); have lw := Nat.le_trans lw hg5.size; have X := Lib.hid (N.out.keep hg5 X.out); have N := Lib.hid (N.out.step lg hv5); have lg := Nat.lt_of_lt_of_le lg hg5.size; have c0 := cell_of X.out 0 rfl; have c1 := cell_of X.out 1 rfl; have c2 := cell_of X.out 2 rfl; have c3 := cell_of X.out 3 rfl; clear h5 hg5 hv5 hb5))
        have SL := Lib.hid (show Sl Nf (w6.alloc (.cells #[.int .u64 (x : Nat), .int .u64 (y : Nat), .int .u64 (z : Nat)] 88)) (some ⟨w6.heap.size, 0, none⟩) 3 3 [x, y, z] from Sl.lit _ _ _ _ _ rfl rfl)
        refine (RJ.out _ _ SL.out).mono ?_
        rintro e w7 ⟨_, rfl, ho, hb⟩
        obtain ⟨x1, n1, d1, rfl, zz⟩ := ho.slN
        obtain rfl : bj.length = n1 := zz.len
        replace Z := Lib.hid zz
        replace O := Lib.hid ((O.out.alloc (.cells #[.int .u64 (x : Nat), .int .u64 (y : Nat), .int .u64 (z : Nat)] 88)).keep hb)
        replace B := Lib.hid ((B.out.alloc lw (.cells #[.int .u64 (x : Nat), .int .u64 (y : Nat), .int .u64 (z : Nat)] 88)).trans (hb.mono (Nat.le_trans lw (le_allocF w6 (.cells #[.int .u64 (x : Nat), .int .u64 (y : Nat), .int .u64 (z : Nat)] 88)))))
        replace lw := Nat.le_trans (Nat.le_trans lw (le_allocF w6 (.cells #[.int .u64 (x : Nat), .int .u64 (y : Nat), .int .u64 (z : Nat)] 88))) hb.size
        clear ho hb zz SL c0 c1 c2 c3
        go_wp2_with (at_builtin; refine wpList_appT eltTB rfl (.tmp 40) (.tmp 51) rfl w.heap.size _ (zs ++ b0 ++ kk) (by rfl) O.out x1 bj.length d1 bj (by rfl) Z.out.toT (by unfold maxLen; simp; omega) (by simp; omega) lw (zs ++ b0 ++ kk ++ bj) rfl ?_; intro v8 w8 h5 hg5 hv5 hb5; have O := Lib.hid h5; have B := Lib.hid (B.out.trans hb5); clear h5 hg5 hv5 hb5)
        go_roundw
        case rel => exact ⟨k + 1, by omega, by go_num, by rw [FIN.out]; exact O.out, B.out⟩
        case measure => simp [intOf]; omega
      · have e : rs.take k = rs := List.take_of_length_le (by omega)
        rw [e] at ho
        have O := Lib.hid ho
        have HT := Lib.hid (total_any a rs.length c rs wr (by omega) (H.out.keep B.out))
        have u0 := totU_eq rs
        have u1 := totU_lt rs
        obtain ⟨bt, hbt⟩ : ∃ q, vb (totU rs) = q := ⟨_, rfl⟩
        have tt : bt.length ≤ 10 := hbt ▸ vb_ten u1
        have hfin : fbytes rs = (vb rs.length ++ rs.flatMap rowB) ++ bt := by unfold fbytes; rw [hbt]; simp
        obtain ⟨zs, hzs⟩ : ∃ zs, vb rs.length ++ rs.flatMap rowB = zs := ⟨_, rfl⟩
        rw [hzs] at O hfin
        have hzl : zs.length ≤ 873000000 := by rw [hfin, List.length_append] at hbb; omega
        have FIN := Lib.hid hfin
        have RT := Lib.hid (fun W : World => hbt ▸ vbytes_any (totU rs) W u1)
        obtain ⟨T, hT⟩ : ∃ T, tot rs = T := ⟨_, rfl⟩
        obtain ⟨U, hU⟩ : ∃ U, totU rs = U := ⟨_, rfl⟩
        rw [hT] at HT u0
        rw [hU] at u0 RT
        clear hfin hzs e ho hb hbt hT hU hbb u1
        go_wp2_with fail
        refine HT.out.mono ?_
        rintro e w3 ⟨rfl, hb⟩
        replace O := Lib.hid (O.out.keep hb)
        replace B := Lib.hid (B.out.trans (hb.mono lw))
        replace lw := Nat.le_trans lw hb.size
        clear hb
        go_wp2_with fail
        refine (RT.out _).mono ?_
        rintro e w4 ⟨_, rfl, ho, hb⟩
        obtain ⟨x0, n0, d0, rfl, zz⟩ := ho.slN
        obtain rfl : bt.length = n0 := zz.len
        have Z := Lib.hid zz
        replace O := Lib.hid (O.out.keep hb)
        replace B := Lib.hid (B.out.trans (hb.mono lw))
        replace lw := Nat.le_trans lw hb.size
        clear ho hb zz
        go_wp2_with (at_builtin; refine wpList_appT eltTB rfl (.tmp 54) (.tmp 58) rfl w.heap.size _ zs (by rfl) O.out x0 bt.length d0 bt (by rfl) Z.out.toT (by unfold maxLen; omega) (by omega) lw (zs ++ bt) rfl ?_; intro v5 w5 h5 hg5 hv5 hb5; have O := Lib.hid h5; have B := Lib.hid (B.out.trans hb5); clear h5 hg5 hv5 hb5)
        go_ret3
        exact ⟨_, rfl, by rw [FIN.out]; exact O.out, B.out⟩
  · rw [fbs_no hz]
    obtain ⟨⟨r0, r1⟩, hr⟩ : ∃ R, fchk rs = R := ⟨_, rfl⟩
    rw [hr] at hz HC ⊢
    dsimp only at hz HC ⊢
    replace HC := Lib.hid HC
    have f1 : ((r1 : Int) != 0) = true := by rw [bne_iff_ne]; omega
    have f2 : (r1 != 0) = true := by rw [bne_iff_ne]; omega
    clear hr hz h hf
    go_enter Tryz.func114, Tryz.ntmps114
    go_wp2_with fail
    refine HC.out.mono ?_
    rintro e w1 ⟨rfl, hb⟩
    have B := Lib.hid hb; clear hb
    go_wp2_with fail
    go_ret3
    exact ⟨_, rfl, OwT.nil _ _ _ _, B.out⟩

end Go.Proofs.YtljcogimeimknaaGreat
