/- Several texts in one: FileM, FileRows, FileIn. Each has its own sentence and conditions below. -/
import Derived.Test.YtljcogimeimknaaGreatK8f
import Derived.Test.YtljcogimeimknaaGreatK8e
import Derived.Test.YtljcogimeimknaaGreatK8d
import Derived.Test.YtljcogimeimknaaGreatF8q
import Derived.Test.YtljcogimeimknaaGreatFootFind
import Derived.Test.YtljcogimeimknaaGreatBlockFindM
import Derived.Test.YtljcogimeimknaaGreatF8t
/- A stream's file: plain words: what a tail tells, a frame opened, the rows, a row's block, Get, Range. No condition. -/
namespace Go.Proofs.YtljcogimeimknaaGreat
open Go.RowKit
set_option linter.unusedVariables false

/-! ### a place in eight bytes -/
def le8 : List UInt8 → Nat
  | [] => 0
  | x :: r => x.toNat + 256 * le8 r
theorem le8_snoc (x : UInt8) : ∀ l : List UInt8, le8 (l ++ [x]) = le8 l + x.toNat * 256 ^ l.length
  | [] => by simp [le8]
  | y :: r => by
    show y.toNat + 256 * le8 (r ++ [x]) = y.toNat + 256 * le8 r + x.toNat * 256 ^ (r.length + 1)
    rw [le8_snoc x r, Nat.pow_succ, Nat.mul_add, ← Nat.mul_assoc, Nat.mul_comm 256 x.toNat, Nat.mul_assoc, Nat.mul_comm 256 (256 ^ r.length), Nat.add_assoc]
theorem u8_lt (x : UInt8) : x.toNat < 256 := x.toNat_lt
theorem le8_lt : ∀ l : List UInt8, le8 l < 256 ^ l.length
  | [] => by simp [le8]
  | x :: r => by
    have := le8_lt r
    have hx := u8_lt x
    show x.toNat + 256 * le8 r < 256 ^ (r.length + 1)
    rw [Nat.pow_succ]; omega
theorem le8_inj : ∀ {a b : List UInt8}, a.length = b.length → le8 a = le8 b → a = b
  | [], [], _, _ => rfl
  | [], _ :: _, h, _ => by simp at h
  | _ :: _, [], h, _ => by simp at h
  | x :: r, y :: t, h, he => by
    have he : x.toNat + 256 * le8 r = y.toNat + 256 * le8 t := he
    have hx := u8_lt x
    have hy := u8_lt y
    have h1 : x.toNat = y.toNat := by omega
    have h2 : le8 r = le8 t := by omega
    rw [UInt8.toNat_inj.1 h1, le8_inj (by simpa using h) h2]
def dig : Nat → Nat → List UInt8
  | 0, _ => []
  | k + 1, p => UInt8.ofNat (p % 256) :: dig k (p / 256)
theorem le8_dig : ∀ (k p : Nat), p < 256 ^ k → le8 (dig k p) = p
  | 0, p, h => by simp at h; subst h; rfl
  | k + 1, p, h => by
    have h1 : p / 256 < 256 ^ k := by rw [Nat.pow_succ] at h; omega
    show (UInt8.ofNat (p % 256)).toNat + 256 * le8 (dig k (p / 256)) = p
    rw [le8_dig k _ h1]
    have : (UInt8.ofNat (p % 256)).toNat = p % 256 := by simp
    rw [this]; omega
theorem tl8_dig (p : Nat) : tl8 p = dig 8 p := by
  simp only [tl8, dig, List.range, List.range.loop, List.map_cons, List.map_nil, Nat.mul_zero, Nat.pow_zero, Nat.div_one, Nat.div_div_eq_div_mul, Nat.reduceMul, Nat.reducePow, Nat.mul_one]
theorem le8_tl8 {p : Nat} (h : p < 18446744073709551616) : le8 (tl8 p) = p := by rw [tl8_dig]; exact le8_dig 8 p h
/-- the place that a tail tells -/
def fplc (T : List UInt8) (t : Nat) : Option Nat := if T.drop 8 = [101, 110, 100, 46] ∧ 8 ≤ le8 (T.take 8) ∧ le8 (T.take 8) ≤ t then some (le8 (T.take 8)) else none
theorem tailB_iff {T : List UInt8} {p : Nat} (hT : T.length = 12) (hp : p < 18446744073709551616) : T = tailB p ↔ (T.drop 8 = [101, 110, 100, 46] ∧ le8 (T.take 8) = p) := by
  constructor
  · intro h
    subst h
    unfold tailB
    have e := tl8_len p
    refine ⟨by rw [List.drop_left' e], by rw [List.take_left' e]; exact le8_tl8 hp⟩
  · rintro ⟨h1, h2⟩
    have h3 : T.take 8 = tl8 p := le8_inj (by rw [tl8_len, List.length_take, hT]; rfl) (by rw [le8_tl8 hp]; exact h2)
    rw [← List.take_append_drop 8 T, h1, h3]; rfl
theorem fplc_some {T : List UInt8} {t p : Nat} (hT : T.length = 12) (ht : t < 18446744073709551616) : fplc T t = some p ↔ (8 ≤ p ∧ p ≤ t ∧ T = tailB p) := by
  unfold fplc
  constructor
  · intro h
    split at h
    · rename_i h1
      obtain ⟨h1, h2, h3⟩ := h1
      cases h
      exact ⟨h2, h3, (tailB_iff hT (by omega)).2 ⟨h1, rfl⟩⟩
    · cases h
  · rintro ⟨h1, h2, h3⟩
    obtain ⟨h4, h5⟩ := (tailB_iff hT (by omega)).1 h3
    rw [if_pos ⟨h4, by omega, by omega⟩, h5]
/-! ### a frame, opened -/
def finC (F : List UInt8) (q : Nat) : List UInt8 × Int × Nat :=
  if openE (F.drop (1 + q)) ≠ 0 then ([], openE (F.drop (1 + q)), F.length - 4) else (openV (F.drop (1 + q)), 0, 1 + q)
def finR (F : List UInt8) (R : Nat × Nat × Int) : List UInt8 × Int × Nat :=
  if R.2.2 ≠ 0 then ([], R.2.2, 1 + R.2.1) else if F.length < 1 + R.2.1 + 4 ∨ R.1 ≠ F.length - (1 + R.2.1) - 4 then ([], 83, 1) else finC F R.2.1
def fin (F : List UInt8) (k : UInt8) : List UInt8 × Int × Nat := if F.head? ≠ some k then ([], 82, 0) else finR F (rd (F.drop 1) 0 0)
/-! ### the rows -/
def fopR (at0 i : Nat) (Y : List Row × Nat × Int) : List Row × Int × Nat :=
  if Y.2.2 ≠ 0 then ([], Y.2.2, at0 + i + Y.2.1) else if endR Y.1 ≠ (at0 : Int) then ([], 84, at0) else (Y.1, 0, 0)
def fopI (at0 : Nat) (X : List UInt8 × Int × Nat) : List Row × Int × Nat := if X.2.1 ≠ 0 then ([], X.2.1, at0 + X.2.2) else fopR at0 X.2.2 (fread X.1)
def fopP (b : List UInt8) : Option Nat → List Row × Int × Nat
  | none => ([], 85, b.length - 12)
  | some p => fopI p (fin ((b.take (b.length - 12)).drop p) 70)
def fopn (b : List UInt8) : List Row × Int × Nat :=
  if b.take 8 ≠ headB then ([], 81, 0) else if b.length < 20 then ([], 85, 8) else fopP b (fplc (b.drop (b.length - 12)) (b.length - 12))
/-! ### a row's block -/
def fblR (x : Row) (B : List UInt8) (Y : List Ent × Nat × Int) : List UInt8 × List Ent × Int :=
  if Y.2.2 ≠ 0 then ([], [], Y.2.2) else if (Y.1.length : Int) ≠ x.2.2.2 ∨ lastK Y.1 ≠ x.1 then ([], [], 84) else (B, Y.1, 0)
def fblI (x : Row) (X : List UInt8 × Int × Nat) : List UInt8 × List Ent × Int := if X.2.1 ≠ 0 then ([], [], X.2.1) else fblR x X.1 (bread X.1)
def cutR (b : List UInt8) (x : Row) : List UInt8 := (b.drop x.2.1.toNat).take x.2.2.1.toNat
def fblk (b : List UInt8) (x : Row) : List UInt8 × List Ent × Int := fblI x (fin (cutR b x) 66)
/-! ### a key, a range -/
def fgtX (key : List UInt8) (X : List UInt8 × List Ent × Int) : Option (List UInt8) × Int := if X.2.2 ≠ 0 then (none, X.2.2) else (lfind X.2.1 key, 0)
def fget (b : List UInt8) (rows : List Row) (key : List UInt8) : Option (List UInt8) × Int :=
  match rows[fnd rows key]? with
  | none => (none, 0)
  | some x => fgtX key (fblk b x)
/-- a block's entries within a range, and whether one goes on -/
def rngL (lo hi : List UInt8) : List Ent → List Ent × Bool
  | [] => ([], true)
  | e :: t => if 0 < hi.length ∧ 0 ≤ cmp e.1 hi then ([], false) else if cmp e.1 lo < 0 then rngL lo hi t else (e :: (rngL lo hi t).1, (rngL lo hi t).2)
def rngR (b lo hi : List UInt8) : List Row → List Ent
  | [] => []
  | x :: t => if (fblk b x).2.2 ≠ 0 then [] else if (rngL lo hi (fblk b x).2.1).2 = true then (rngL lo hi (fblk b x).2.1).1 ++ rngR b lo hi t else (rngL lo hi (fblk b x).2.1).1
def frng (b : List UInt8) (rows : List Row) (lo hi : List UInt8) : List Ent := rngR b lo hi (rows.drop (fnd rows lo))
end Go.Proofs.YtljcogimeimknaaGreat
/- A file's rows: where they lie; a file in memory. No condition. -/
namespace Go.Proofs.YtljcogimeimknaaGreat
open Go.RowKit
set_option linter.unusedVariables false

/-- a row of a file of so many bytes -/
def RowIn (n : Nat) (r : Row) : Prop := (1 ≤ r.1.length ∧ r.1.length ≤ 64) ∧ 8 ≤ r.2.1 ∧ (1 ≤ r.2.2.1 ∧ r.2.2.1 ≤ 131072) ∧ r.2.1 + r.2.2.1 ≤ (n : Int) ∧ (1 ≤ r.2.2.2 ∧ r.2.2.2 ≤ 64)
theorem endR_cons {x y : Row} {rs : List Row} : endR (x :: y :: rs) = endR (y :: rs) := by unfold endR; rw [List.getLast?_cons_cons]
theorem fck_in : ∀ (rs : List Row) (i : Nat) (p : Int) (l : List UInt8), (fck i p l rs).2 = 0 → ∀ (j : Nat) (r : Row), rs[j]? = some r →
    p ≤ r.2.1 ∧ r.2.1 + r.2.2.1 ≤ endR rs ∧ (1 ≤ r.2.2.1 ∧ r.2.2.1 ≤ 131072) ∧ (1 ≤ r.2.2.2 ∧ r.2.2.2 ≤ 64) ∧ (1 ≤ r.1.length ∧ r.1.length ≤ 64)
  | [], _, _, _, _, j, r, hr => by simp at hr
  | (k, x, y, z) :: rs, i, p, l, h, j, r, hr => by
    have go : (¬ (k.length = 0 ∨ 64 < k.length)) ∧ x = p ∧ ¬ (y < 1 ∨ 131072 < y) ∧ ¬ (z < 1 ∨ 64 < z) ∧ (fck (i + 1) (p + y) k rs).2 = 0 := by
      by_cases h0 : (k.length = 0 ∨ 64 < k.length) ∨ (0 < i ∧ 0 ≤ cmp l k)
      · rw [fck_key h0] at h; cases h
      by_cases h1 : x = p
      · by_cases h2 : y < 1 ∨ 131072 < y
        · rw [fck_len h0 h1 h2] at h; cases h
        by_cases h3 : z < 1 ∨ 64 < z
        · rw [fck_ent h0 h1 h2 h3] at h; cases h
        rw [fck_go h0 h1 h2 h3] at h
        exact ⟨fun e => h0 (.inl e), h1, h2, h3, h⟩
      · rw [fck_at h0 h1] at h; cases h
    obtain ⟨g0, g1, g2, g3, g4⟩ := go
    have IH := fck_in rs (i + 1) (p + y) k g4
    have hend : p + y ≤ endR ((k, x, y, z) :: rs) := by
      cases rs with
      | nil => show p + y ≤ x + y; omega
      | cons r2 t =>
        rw [endR_cons]
        obtain ⟨q1, q2, q3, -⟩ := IH 0 r2 rfl
        omega
    cases j with
    | zero =>
      obtain rfl : (k, x, y, z) = r := by simpa using hr
      refine ⟨by show p ≤ x; omega, by show x + y ≤ _; omega, ?_, ?_, ?_⟩
      · show 1 ≤ y ∧ y ≤ 131072; omega
      · show 1 ≤ z ∧ z ≤ 64; omega
      · show 1 ≤ k.length ∧ k.length ≤ 64; omega
    | succ j =>
      have hr2 : rs[j]? = some r := by simpa using hr
      obtain ⟨q1, q2, q3⟩ := IH j r hr2
      refine ⟨by omega, ?_, q3⟩
      cases rs with
      | nil => simp at hr2
      | cons r2 t => rw [endR_cons]; exact q2
theorem fchk_in {rs : List Row} (h : (fchk rs).2 = 0) : rs.length ≤ 8388608 ∧ ∀ (j : Nat) (r : Row), rs[j]? = some r → 8 ≤ r.2.1 ∧ r.2.1 + r.2.2.1 ≤ endR rs ∧ (1 ≤ r.2.2.1 ∧ r.2.2.1 ≤ 131072) ∧ (1 ≤ r.2.2.2 ∧ r.2.2.2 ≤ 64) ∧ (1 ≤ r.1.length ∧ r.1.length ≤ 64) := by
  unfold fchk at h
  split at h
  · cases h
  · exact ⟨by omega, fck_in rs 0 8 [] h⟩
/-- what an opened file's rows are -/
structure FRows (n : Nat) (rs : List Row) : Prop where
  chk : (fchk rs).2 = 0
  many : rs.length ≤ 8388608
  row : ∀ r, r ∈ rs → RowIn n r
theorem fopn_rows {b : List UInt8} {rs : List Row} {q : Nat} (h : fopn b = (rs, 0, q)) : FRows b.length rs := by
  unfold fopn at h
  split at h
  · cases h
  split at h
  · cases h
  rename_i hl
  obtain ⟨o, ho⟩ : ∃ o, fplc (b.drop (b.length - 12)) (b.length - 12) = o := ⟨_, rfl⟩
  rw [ho] at h
  cases o with
  | none => cases h
  | some p =>
    have hp : p ≤ b.length - 12 := by
      unfold fplc at ho
      split at ho
      · rename_i h1; cases ho; exact h1.2.2
      · cases ho
    unfold fopP fopI at h
    dsimp only at h
    split at h
    · simp only [Prod.mk.injEq] at h; rename_i h1; exact absurd h.2.1 h1
    unfold fopR at h
    split at h
    · simp only [Prod.mk.injEq] at h; rename_i h1; exact absurd h.2.1 h1
    rename_i h1
    split at h
    · simp only [Prod.mk.injEq] at h; exact absurd h.2.1 (by decide)
    rename_i h2
    simp only [Prod.mk.injEq] at h
    obtain ⟨⟨l, q', e⟩, hY⟩ : ∃ Y, fread (fin ((b.take (b.length - 12)).drop p) 70).1 = Y := ⟨_, rfl⟩
    rw [hY] at h h1 h2
    obtain rfl : l = rs := h.1
    obtain rfl : e = 0 := Classical.byContradiction fun q => h1 q
    have hc := (fread_back hY).1
    have he : endR l = (p : Int) := Classical.byContradiction fun q => h2 q
    obtain ⟨c1, c2⟩ := fchk_in hc
    refine ⟨hc, c1, fun r hr => ?_⟩
    obtain ⟨j, hj⟩ := List.getElem?_of_mem hr
    obtain ⟨d1, d2, d3, d4, d5⟩ := c2 j r hj
    exact ⟨d5, d1, d3, by omega, d4⟩

/-- a row of a list in memory, and its number -/
theorem Spans.rowF {w : World} {a : Option Addr} {n c : Nat} {rs : List Row} (h : Spans w a n c rs) {i : Nat} {r : Row} (hi : rs[i]? = some r) :
    ∃ b o al nl cl, a = some ⟨b, o, none⟩ ∧ w.cell? ⟨b, o + i * 4, none⟩ = some (.slice al nl cl) ∧ w.cell? ⟨b, o + i * 4 + 1, none⟩ = some (.int .i64 r.2.1) ∧ w.cell? ⟨b, o + i * 4 + 2, none⟩ = some (.int .i64 r.2.2.1) ∧ w.cell? ⟨b, o + i * 4 + 3, none⟩ = some (.int .i64 r.2.2.2) ∧ Sl Bf w al nl cl r.1 := by
  obtain ⟨k, x, y, z⟩ := r
  exact h.2.2.2 i k x y z hi
/-- a file in memory of the call's own: its blocks lie between lo and hi -/
structure FlO (w : World) (lo hi g : Nat) (b : List UInt8) (rs : List Row) (a : Option Addr) (c : Nat) (a2 : Option Addr) (c2 : Nat) (vs : List RV) : Prop where
  low : lo ≤ g ∧ g < hi
  top : hi ≤ w.heap.size
  blk : w.heap[g]? = some (.cells #[.slice a b.length c, .slice a2 rs.length c2] 85 (0, 0))
  own : OwT fB w lo 5 (.slice a b.length c) b
  ob : ∀ j, Value.ownBlock (.slice a b.length c) = some j → j < hi
  row : OwR w lo (.slice a2 rs.length c2) vs
  rb : ∀ j, Value.ownBlock (.slice a2 rs.length c2) = some j → j < hi
  key : KTx w lo hi (.slice a2 rs.length c2) vs rs
section
variable {w w' : World} {lo hi g : Nat} {b : List UInt8} {rs : List Row} {a : Option Addr} {c : Nat} {a2 : Option Addr} {c2 : Nat} {vs : List RV}
theorem FlO.same (h : FlO w lo hi g b rs a c a2 c2 vs) (hs : ∀ j, lo ≤ j → j < hi → w'.heap[j]? = w.heap[j]?) (hz : hi ≤ w'.heap.size) : FlO w' lo hi g b rs a c a2 c2 vs :=
  ⟨h.low, hz, (hs g h.low.1 h.low.2).trans h.blk, h.own.of_block fun j hj => hs j (h.own.lt j hj).1 (h.ob j hj), h.ob, h.row.of_block fun j hj => hs j (h.row.t.lt j hj).1 (h.rb j hj), h.rb, h.key.same hs⟩
theorem FlO.keep {H : Nat} (h : FlO w lo hi g b rs a c a2 c2 vs) (hb : Below H w w') (hh : hi ≤ H) : FlO w' lo hi g b rs a c a2 c2 vs :=
  h.same (fun j _ hj => hb.block j (by omega)) (Nat.le_trans h.top hb.size)
theorem FlO.sl (h : FlO w lo hi g b rs a c a2 c2 vs) : Sl Bf w a b.length c b := h.own.slI
theorem FlO.spans (h : FlO w lo hi g b rs a c a2 c2 vs) : Spans w a2 rs.length c2 rs := KTx.spans h.row h.key
theorem FlO.spv (h : FlO w lo hi g b rs a c a2 c2 vs) : SpV w a2 rs.length c2 vs rs := by
  obtain ⟨a', c', hv, hs⟩ := h.row.t.sl fR_len
  injection hv with e1 e2 e3
  subst e1 e3
  rw [← e2] at hs
  exact ⟨hs, h.key.1, fun i x r hx hr => ⟨(h.key.2 i x r hx hr).1, (h.key.2 i x r hx hr).2.1.slI⟩⟩
end
end Go.Proofs.YtljcogimeimknaaGreat
/- stream.inner, place, end: contracts. Conditions: lengths within reach. -/
namespace Go.Proofs.YtljcogimeimknaaGreat
open Go.RowKit
set_option linter.unusedVariables false
set_option linter.unusedSimpArgs false

set_option maxRecDepth 100000 in
set_option maxHeartbeats 4000000 in
theorem inner_any (a : Option Addr) (n c : Nat) (F : List UInt8) (k : UInt8) {ki : Int} (hki : ki = B k) (w : World) (hn : n ≤ 140737488351232) (h : Sl Bf w a n c F) :
    Calls Tryz.prog 36 #[.slice a n c, .int .u8 ki] w fun e w' => ∃ v, e = .returned (.tuple #[v, .int .i64 (fin F k).2.1, .int .i64 ((fin F k).2.2 : Nat)]) ∧ OwT fB w' w.heap.size 5 v (fin F k).1 ∧ Below w.heap.size w w' := by
  subst hki
  obtain rfl : F.length = n := h.len
  obtain ⟨X, hX⟩ : ∃ X, fin F k = X := ⟨_, rfl⟩
  have HX := Lib.hid hX
  rw [hX]
  have H := Lib.hid h
  clear h hX
  by_cases h0 : F.length = 0
  · have hF : F = [] := List.eq_nil_of_length_eq_zero h0
    have hX2 : X = ([], 82, 0) := by rw [← HX.out, hF]; rfl
    subst hX2
    have t0 : ((F.length : Int) == 0) = true := by rw [h0]; rfl
    clear HX
    go_enter Tryz.func36, Tryz.ntmps36
    go_wp2_with fail
    go_ret3
    exact ⟨_, rfl, OwT.nil _ _ _ _, Below.refl _ _⟩
  · obtain ⟨x, b, o, hx, rfl, hc⟩ := H.out.at 0 (by omega)
    have hc : w.cell? ⟨b, o + 0, none⟩ = some (.int .u8 (B x)) := hc
    have hc' : w.cell? ⟨b, o, none⟩ = some (.int .u8 (B x)) := hc
    have t0 : ((F.length : Int) == 0) = false := by rw [beq_eq_false_iff_ne]; omega
    have hh : F.head? = some x := by rw [List.head?_eq_getElem?]; exact hx
    clear hx
    by_cases hk : x = k
    · subst hk
      have t1 : (B x != B x) = false := by simp
      have HX2 := Lib.hid (show finR F (rd (F.drop 1) 0 0) = X by rw [← HX.out]; unfold fin; rw [if_neg (by rw [hh]; simp)])
      have VR := vread_any (some ⟨b, o, none⟩) F.length c F 1 w (by omega) (by omega) H.out
      obtain ⟨⟨m, q, e⟩, hR⟩ : ∃ R, rd (F.drop 1) 0 0 = R := ⟨_, rfl⟩
      have HR := Lib.hid hR
      rw [hR] at VR HX2
      clear hR HX hh
      obtain ⟨p, hp⟩ : ∃ p, 1 + q = p := ⟨_, rfl⟩
      have HP := Lib.hid hp
      rw [hp] at VR
      have VR := Lib.hid VR
      have HX3 := Lib.hid (show (if e ≠ 0 then ([], e, p) else if F.length < p + 4 ∨ m ≠ F.length - p - 4 then ([], 83, 1) else finC F q) = X by rw [← HX2.out, ← hp]; rfl)
      clear hp HX2
      by_cases he : e = 0
      · subst he
        have hin := rd_in HR.out
        have hq : p ≤ F.length := by have h1 := hin.1; rw [List.length_drop] at h1; have h2 := HP.out; omega
        have hm := hin.2
        clear hin
        have te : ((0 : Int) != 0) = false := rfl
        have u1 : IntKind.i64.wrap ((F.length : Int) - (p : Int)) = (F.length : Int) - (p : Int) := by rw [IntKind.wrap_i64]; omega
        by_cases h4 : F.length < p + 4
        · have u2 : decide ((F.length : Int) - (p : Int) < 4) = true := decide_eq_true (by omega)
          have hX2 : X = ([], 83, 1) := by rw [← HX3.out, if_neg (by simp), if_pos (.inl h4)]
          subst hX2
          clear HX3 HR
          go_enter Tryz.func36, Tryz.ntmps36
          go_wp2_with fail
          refine VR.out.mono ?_
          rintro e w2 ⟨rfl, hb⟩
          have B2 := Lib.hid hb
          clear hb VR
          go_wp2_with fail
          go_ret3
          exact ⟨_, rfl, OwT.nil _ _ _ _, B2.out⟩
        · have u2 : decide ((F.length : Int) - (p : Int) < 4) = false := decide_eq_false (by omega)
          have u3 : IntKind.i64.wrap ((F.length : Int) - (p : Int) - 4) = (F.length : Int) - (p : Int) - 4 := by rw [IntKind.wrap_i64]; omega
          have u4 : IntKind.u64.wrap ((F.length : Int) - (p : Int) - 4) = ((F.length - p - 4 : Nat) : Int) := by rw [IntKind.wrap_u64]; omega
          obtain ⟨N, hN⟩ : ∃ N, F.length - p - 4 = N := ⟨_, rfl⟩
          rw [hN] at u4
          by_cases hmn : m = N
          · have u5 : ((m : Int) != (N : Int)) = false := by rw [hmn]; simp
            have HX4 := Lib.hid (show (if openE (F.drop p) ≠ 0 then ([], openE (F.drop p), F.length - 4) else (openV (F.drop p), 0, p)) = X by
              rw [← HX3.out, if_neg (show ¬ ((0 : Int) ≠ 0) by simp), if_neg (show ¬ (F.length < p + 4 ∨ m ≠ F.length - p - 4) by rw [hN]; omega)]; unfold finC; rw [HP.out])
            have hcut := fun W : World => run_cutfrom eltB W (some ⟨b, o, none⟩) F.length c .i64 p hq
            have u6 : IntKind.i64.wrap ((F.length : Int) - 4) = ((F.length - 4 : Nat) : Int) := by rw [IntKind.wrap_i64]; omega
            have h4' : 4 ≤ F.length := by omega
            clear HX3 HR hmn hN
            go_enter Tryz.func36, Tryz.ntmps36
            go_wp2_with fail
            refine VR.out.mono ?_
            rintro e w2 ⟨rfl, hb⟩
            have B2 := Lib.hid hb
            clear hb VR
            have OP := Lib.hid (open_any _ _ _ (F.drop p) w2 (by omega) ((H.out.keep B2.out).from p hq))
            go_wp2_with fail
            refine OP.out.mono ?_
            rintro e w3 ⟨v, rfl, ho, hb⟩
            have O := Lib.hid ho
            have B3 := Lib.hid (keep_trans B2.out hb)
            have L2 := B2.out.size
            clear ho hb OP
            obtain ⟨E, hE⟩ : ∃ E, openE (F.drop p) = E := ⟨_, rfl⟩
            have HX5 := Lib.hid (hE ▸ HX4.out)
            rw [hE]
            clear hE HX4
            by_cases hE0 : E = 0
            · subst hE0
              have hX2 : X = (openV (F.drop p), 0, p) := by rw [← HX5.out, if_neg (by simp)]
              subst hX2
              clear HX5
              go_wp2_with fail
              go_ret3
              exact ⟨_, rfl, O.out.base L2, B3.out⟩
            · have t3 : (E != 0) = true := by rw [bne_iff_ne]; exact hE0
              have hX2 : X = ([], E, F.length - 4) := by rw [← HX5.out, if_pos hE0]
              subst hX2
              clear HX5 O
              go_wp2_with fail
              go_ret3
              exact ⟨_, rfl, OwT.nil _ _ _ _, B3.out⟩
          · have u5 : ((m : Int) != (N : Int)) = true := by rw [bne_iff_ne]; omega
            have hX2 : X = ([], 83, 1) := by rw [← HX3.out, if_neg (by simp), if_pos (.inr (by rw [hN]; exact hmn))]
            subst hX2
            clear HX3 HR hN hmn
            go_enter Tryz.func36, Tryz.ntmps36
            go_wp2_with fail
            refine VR.out.mono ?_
            rintro e w2 ⟨rfl, hb⟩
            have B2 := Lib.hid hb
            clear hb VR
            go_wp2_with fail
            go_ret3
            exact ⟨_, rfl, OwT.nil _ _ _ _, B2.out⟩
      · have te : (e != 0) = true := by rw [bne_iff_ne]; exact he
        have hX2 : X = ([], e, p) := by rw [← HX3.out, if_pos he]
        subst hX2
        clear HX3 HR
        go_enter Tryz.func36, Tryz.ntmps36
        go_wp2_with fail
        refine VR.out.mono ?_
        rintro r w2 ⟨rfl, hb⟩
        have B2 := Lib.hid hb
        clear hb VR
        go_wp2_with fail
        go_ret3
        exact ⟨_, rfl, OwT.nil _ _ _ _, B2.out⟩
    · have t1 : (B x != B k) = true := by rw [bne_iff_ne]; intro e; exact hk (by unfold B at e; exact UInt8.toNat_inj.1 (by omega))
      have hX2 : X = ([], 82, 0) := by rw [← HX.out]; unfold fin; rw [if_pos (by rw [hh]; intro e; exact hk (Option.some.inj e))]
      subst hX2
      clear HX hh hk
      go_enter Tryz.func36, Tryz.ntmps36
      go_wp2_with fail
      go_ret3
      exact ⟨_, rfl, OwT.nil _ _ _ _, Below.refl _ _⟩

set_option maxRecDepth 100000 in
theorem hasPrefix_any (a : Option Addr) (n c : Nat) (xs : List UInt8) (a' : Option Addr) (n' c' : Nat) (ys : List UInt8) (w : World) (hn : n ≤ 9223372036854775807) (h : Sl Bf w a n c xs) (h' : Sl Bf w a' n' c' ys) :
    Calls Tryz.prog 34 #[.slice a n c, .slice a' n' c'] w fun e w' => e = .returned (.bool (decide (xs.take ys.length = ys))) ∧ Below w.heap.size w w' := by
  obtain rfl : xs.length = n := h.len
  obtain rfl : ys.length = n' := h'.len
  have H := Lib.hid h
  have H' := Lib.hid h'
  have hle := h.le
  clear h h'
  by_cases hl : ys.length ≤ xs.length
  · have t1 : decide ((xs.length : Int) ≥ (ys.length : Int)) = true := decide_eq_true (by omega)
    have t1' : decide ((ys.length : Int) ≤ (xs.length : Int)) = true := decide_eq_true (by omega)
    have hcut := fun W : World => run_cutto eltB W a xs.length c .i64 ys.length (by omega)
    go_enter Tryz.func34, Tryz.ntmps34
    go_wp2_with fail
    refine (bequal_any a ys.length c (xs.take ys.length) a' ys.length c' ys w (H.out.upto ys.length hl) H'.out).mono ?_
    rintro e w2 ⟨rfl, rfl⟩
    go_wp2_with fail
    go_ret
    exact ⟨rfl, Below.refl _ _⟩
  · have t1 : decide ((xs.length : Int) ≥ (ys.length : Int)) = false := decide_eq_false (by omega)
    have t1' : decide ((ys.length : Int) ≤ (xs.length : Int)) = false := decide_eq_false (by omega)
    have hd : decide (xs.take ys.length = ys) = false := decide_eq_false fun e => by have := congrArg List.length e; rw [List.length_take] at this; omega
    rw [hd]
    go_enter Tryz.func34, Tryz.ntmps34
    go_wp2_with fail
    go_ret
    exact ⟨rfl, Below.refl _ _⟩
set_option maxRecDepth 100000 in
theorem send2_any (a : Option Addr) (n c : Nat) (rs : List Row) (q : Nat) (w : World) (hn : n ≤ 140737488351232) (h : Spans w a n c rs) (hq : endR rs = (q : Int)) (hq2 : q ≤ 1000000000000000) :
    Calls Tryz.prog 38 #[.slice a n c] w fun e w' => e = .returned (.int .i64 (q : Nat)) ∧ Below w.heap.size w w' := by
  obtain rfl : n = rs.length := h.1.symm
  cases hL : rs.length with
  | zero =>
    have h0 : rs = [] := List.eq_nil_of_length_eq_zero hL
    subst h0
    have : q = 8 := by have : (8 : Int) = q := hq; omega
    subst this
    clear h hq
    go_enter Tryz.func38, Tryz.ntmps38
    go_wp2_with fail
    go_ret
    exact ⟨rfl, Below.refl _ _⟩
  | succ j =>
    rw [hL] at h
    obtain ⟨⟨l, x, y, z⟩, hl⟩ : ∃ r, rs[j]? = some r := ⟨_, List.getElem?_eq_getElem (by omega)⟩
    obtain ⟨b, o, al, nl, cl, rfl, c0, c1, c2, c3, s0⟩ := h.2.2.2 j l x y z hl
    have e1 : IntKind.i64.wrap ((j : Int) + 1 - 1) = (j : Int) := by rw [show (j : Int) + 1 - 1 = (j : Int) by omega]; exact IntWalk.i64_in _ (by omega)
    have t1 : ((j : Int) + 1 == 0) = false := by rw [beq_eq_false_iff_ne]; omega
    have t2 : ((((j + 1 : Nat) : Int)) == 0) = false := by rw [beq_eq_false_iff_ne]; omega
    have hp : x + y = (q : Int) := by
      rw [← hq]; unfold endR
      have : rs.getLast? = some (l, x, y, z) := by rw [List.getLast?_eq_getElem?, hL]; exact hl
      rw [this]
    have e2 : IntKind.i64.wrap (x + y) = (q : Int) := by rw [hp]; exact IntWalk.i64_in _ (by omega)
    have hj : j + 1 ≤ 140737488351232 := by omega
    clear h hl s0 hp hq hL hn
    go_enter Tryz.func38, Tryz.ntmps38
    go_wp2_with fail
    go_ret
    exact ⟨rfl, (Below.refl _ _).alloc (Nat.le_refl _) _⟩

theorem put_eight (n k x : Nat) (hk : k < 8) (hx : x < 256) (hn : n < 256 ^ k) : bits .or .u64 (n : Int) (IntKind.u64.wrap ((x : Int) * 2 ^ (8 * k))) = ((n + x * 256 ^ k : Nat) : Int) := by
  have hk8 : 256 ^ (k + 1) ≤ 256 ^ 8 := Nat.pow_le_pow_right (by decide) (by omega)
  have e8 : (256 : Nat) ^ 8 = 18446744073709551616 := by decide
  have h1 : x * 256 ^ k < 256 ^ (k + 1) := by rw [Nat.pow_succ, Nat.mul_comm (256 ^ k)]; exact Nat.mul_lt_mul_of_pos_right hx (Nat.pow_pos (by decide))
  have hb : x * 256 ^ k < 18446744073709551616 := by omega
  have hn2 : n < 18446744073709551616 := by have : 256 ^ k ≤ 256 ^ 8 := Nat.pow_le_pow_right (by decide) (by omega); omega
  have ep : (2 : Nat) ^ (8 * k) = 256 ^ k := by rw [Nat.pow_mul]
  have e1 : ((x : Int) * 2 ^ (8 * k)) = ((x * 256 ^ k : Nat) : Int) := by rw [← ep]; push_cast; rfl
  have e2 : IntKind.u64.wrap ((x * 256 ^ k : Nat) : Int) = ((x * 256 ^ k : Nat) : Int) := by
    generalize x * 256 ^ k = z at *
    rw [IntKind.wrap_u64]; omega
  rw [e1, e2, or64 _ _ hn2 hb]
  congr 1
  rw [← ep]
  exact or_add (by rw [ep]; exact hn)
/-- what a tail tells, the program's -/
def plcV (T : List UInt8) (t : Nat) : Value := match fplc T t with
  | some p => .tuple #[.int .i64 (p : Nat), .bool true]
  | none => .tuple #[.int .i64 0, .bool false]
set_option maxRecDepth 100000 in
set_option maxHeartbeats 4000000 in
theorem splace_any (a : Option Addr) (c : Nat) (T : List UInt8) (t : Nat) (w : World) (hT : T.length = 12) (ht : t ≤ 140737488351232) (h : Sl Bf w a 12 c T) :
    Calls Tryz.prog 35 #[.slice a 12 c, .int .i64 (t : Nat)] w fun e w' => e = .returned (plcV T t) ∧ Below w.heap.size w w' := by
  have H := Lib.hid h
  have hcut : ∀ W : World, (Instr.slice 22 (.slice a 12 c) (some (.int .i64 8)) none none).run Tryz.prog W = .ok (.slice (adv a c 8) 4 (c - 8)) W := fun W => run_cutfrom eltB W a 12 c .i64 8 (by decide)
  have r2 := fun W : World => fun (hs : Sl Bf W (adv a c 8) 4 (c - 8) (T.drop 8)) => run_str (P := Tryz.prog) (dst := 9) Tryz.underlying22 Tryz.underlying5 (by kernel_rfl) W _ _ _ _ hs
  clear h
  go_enter Tryz.func35, Tryz.ntmps35
  go_wp2_with fail
  go_loopw [6, 8] (fun n i wr => ∃ k : Nat, k ≤ 8 ∧ i = .int .i64 k ∧ n = .int .u64 (le8 (T.take k) : Nat) ∧ Below w.heap.size w wr) (fun _ i _ => 8 - (intOf i).toNat)
  case atStart => exact ⟨0, Nat.zero_le _, rfl, rfl, Below.refl _ _⟩
  case round =>
    obtain ⟨k, hk, rfl, rfl, hb⟩ := hrel
    have BB := Lib.hid hb
    clear hb
    by_cases hlt : k < 8
    · obtain ⟨x, b, o, hx, rfl, hc⟩ := (H.out.keep BB.out).at k (by omega)
      have hc : wr.cell? ⟨b, o + k, none⟩ = some (.int .u8 (B x)) := hc
      have e2 : IntKind.i64.wrap (8 * (k : Int)) = 8 * k := IntWalk.i64_in _ (by omega)
      have e3 := put_eight (le8 (T.take k)) k x.toNat hlt (u8_lt x) (by have := le8_lt (T.take k); rwa [List.length_take, hT, Nat.min_eq_left (by omega)] at this)
      have e4 : le8 (T.take (k + 1)) = le8 (T.take k) + x.toNat * 256 ^ k := by rw [List.take_add_one, hx]; show le8 (T.take k ++ [x]) = _; rw [le8_snoc, List.length_take, hT, Nat.min_eq_left (by omega)]
      have E4 := Lib.hid e4
      rw [← e4] at e3
      have e0 : IntKind.u64.wrap (B x) = ((x.toNat : Nat) : Int) := by
        show IntKind.u64.wrap ((x.toNat : Nat) : Int) = _
        have := u8_lt x
        rw [IntKind.wrap_u64]; omega
      have e5 : bits .or .u64 (le8 (T.take k) : Nat) (IntKind.u64.wrap (IntKind.u64.wrap (B x) * 2 ^ (8 * k))) = (le8 (T.take (k + 1)) : Nat) := by rw [e0]; exact e3
      clear e4 hx e3 e0
      go_wp2_with fail
      go_roundw
      case rel => exact ⟨k + 1, by omega, by go_num, rfl, BB.out⟩
      case measure => simp [intOf]; omega
    · obtain rfl : k = 8 := by omega
      clear hlt hk
      have hs8 := (H.out.keep BB.out).from 8 (by decide)
      have hcv : Sem.run Tryz.prog (convert 22 9 (.slice (adv a c 8) 4 (c - 8))) wr = .ok (.string (strB (T.drop 8))) wr := run_str Tryz.underlying22 Tryz.underlying5 (by kernel_rfl) wr _ _ _ _ hs8
      have hlt8 := le8_lt (T.take 8)
      rw [List.length_take, hT] at hlt8
      have hlt8 : le8 (T.take 8) < 18446744073709551616 := hlt8
      obtain ⟨N, hN⟩ : ∃ N, le8 (T.take 8) = N := ⟨_, rfl⟩
      have PV := Lib.hid (show plcV T t = (match (if T.drop 8 = [101, 110, 100, 46] ∧ 8 ≤ N ∧ N ≤ t then some N else none) with | some p => (.tuple #[.int .i64 (p : Nat), .bool true] : Value) | none => .tuple #[.int .i64 0, .bool false]) by unfold plcV fplc; rw [hN])
      rw [hN] at hlt8 ⊢
      have u1 : IntKind.u64.wrap (t : Int) = (t : Int) := by rw [IntKind.wrap_u64]; omega
      clear hs8 hN r2
      by_cases hd : T.drop 8 = [101, 110, 100, 46]
      · have hq2 : ((strB (T.drop 8)).toList == [101, 110, 100, 46]) = true := by rw [strB_list]; exact beq_iff_eq.2 hd
        have hq3 : ((strB (T.drop 8)).toList != [101, 110, 100, 46]) = false := by rw [strB_list, hd]; rfl
        by_cases h8 : N < 8
        · have t1 : decide ((N : Int) < 8) = true := decide_eq_true (by omega)
          have t1' : decide (N < 8) = true := decide_eq_true h8
          have hP : plcV T t = .tuple #[.int .i64 0, .bool false] := by rw [PV.out, if_neg (by omega)]
          have HP := Lib.hid hP
          clear PV hP hd
          go_wp2_with fail
          go_ret2
          exact ⟨by rw [HP.out]; rfl, BB.out⟩
        · have t1 : decide ((N : Int) < 8) = false := decide_eq_false (by omega)
          have t1' : decide (N < 8) = false := decide_eq_false h8
          by_cases ht8 : N ≤ t
          · have t2 : decide ((N : Int) > (t : Int)) = false := decide_eq_false (by omega)
            have t2' : decide ((t : Int) < (N : Int)) = false := decide_eq_false (by omega)
            have t2'' : decide (t < N) = false := decide_eq_false (by omega)
            have u2 : IntKind.i64.wrap (N : Int) = (N : Int) := by rw [IntKind.wrap_i64]; omega
            have hP : plcV T t = .tuple #[.int .i64 (N : Nat), .bool true] := by rw [PV.out, if_pos ⟨hd, by omega, ht8⟩]
            have HP := Lib.hid hP
            clear PV hP hd
            go_wp2_with fail
            go_ret2
            exact ⟨by rw [HP.out]; rfl, BB.out⟩
          · have t2 : decide ((N : Int) > (t : Int)) = true := decide_eq_true (by omega)
            have t2' : decide ((t : Int) < (N : Int)) = true := decide_eq_true (by omega)
            have t2'' : decide (t < N) = true := decide_eq_true (by omega)
            have hP : plcV T t = .tuple #[.int .i64 0, .bool false] := by rw [PV.out, if_neg (by omega)]
            have HP := Lib.hid hP
            clear PV hP hd
            go_wp2_with fail
            go_ret2
            exact ⟨by rw [HP.out]; rfl, BB.out⟩
      · have hq2 : ((strB (T.drop 8)).toList == [101, 110, 100, 46]) = false := by rw [strB_list]; exact beq_eq_false_iff_ne.2 hd
        have hq3 : ((strB (T.drop 8)).toList != [101, 110, 100, 46]) = true := by rw [strB_list]; exact bne_iff_ne.2 hd
        have hP : plcV T t = .tuple #[.int .i64 0, .bool false] := by rw [PV.out, if_neg (fun h => hd h.1)]
        have HP := Lib.hid hP
        clear PV hP hd
        go_wp2_with fail
        go_ret2
        exact ⟨by rw [HP.out]; rfl, BB.out⟩
end Go.Proofs.YtljcogimeimknaaGreat
