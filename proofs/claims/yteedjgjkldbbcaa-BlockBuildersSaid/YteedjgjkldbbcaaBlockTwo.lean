/- What stands in memory while two builders go, and the reference's two. No condition. -/
import Derived.Test.YteedjgjkldbbcaaBlockRAdd
import Derived.Test.YteedjgjkldbbcaaBlockBytes
namespace Go.Proofs.Yteedjgjkldbbcaa
open Go.RowKit
set_option linter.unusedVariables false

/-- all that stands: below B, each block with its owner: 0, 1: the builders; 2, 3: the lists of the reference's; 4: the pointers; 5: the reference's -/
structure BSt (w0 w : World) (B gx gy : Nat) (G : Nat → Nat) (V : Nat → Nat → Value) (Y : Nat → Value) (X : Nat → List (Sv × Sv)) (P Q : Nat → List Ent) (who : Nat → Nat) : Prop where
  below : Below w0.heap.size w0 w
  lo : w0.heap.size ≤ B
  hi : B ≤ w.heap.size
  x : w.heap[gx]? = some (.cells #[.pointer (some ⟨G 0, 0, none⟩), .pointer (some ⟨G 1, 0, none⟩)] 34 (0, 0))
  y : w.heap[gy]? = some (.cells #[Y 0, Y 1] 39 (0, 0))
  xB : w0.heap.size ≤ gx ∧ gx < B ∧ who gx = 4
  yB : w0.heap.size ≤ gy ∧ gy < B ∧ who gy = 5
  bl : ∀ k, k < 2 → Bl w w0.heap.size (G k) (V k) (P k)
  blB : ∀ k, k < 2 → ∀ j, BlS (G k) (V k) j → w0.heap.size ≤ j ∧ j < B ∧ who j = k
  yr : ∀ k, k < 2 → ELs w0 w (Y k) (X k) (Q k)
  yrB : ∀ k, k < 2 → ∀ j, (Y k).ownBlock = some j → w0.heap.size ≤ j ∧ j < B ∧ who j = 2 + k
  rp : ∀ k, k < 2 → Ris (P k)
  rq : ∀ k, k < 2 → Ris (Q k)
section
variable {w0 w w' : World} {B gx gy : Nat} {G : Nat → Nat} {V : Nat → Nat → Value} {Y : Nat → Value} {X : Nat → List (Sv × Sv)} {P Q : Nat → List Ent} {who : Nat → Nat}
/-- behind what turns blocks that nobody has -/
theorem BSt.turn {S : Nat → Prop} (h : BSt w0 w B gx gy G V Y X P Q who) (ht : Turns S w w') (hS : ∀ j, S j → B ≤ j ∨ (w0.heap.size ≤ j ∧ who j = 9)) : BSt w0 w' B gx gy G V Y X P Q who :=
  ⟨ht.below h.below (Nat.le_trans h.lo h.hi) (fun j hj => by have := hS j hj; have := h.lo; omega), h.lo, Nat.le_trans h.hi ht.size, ht.heap h.x (fun e => by have := hS _ e; have := h.xB; omega), ht.heap h.y (fun e => by have := hS _ e; have := h.yB; omega), h.xB, h.yB,
    fun k hk => BlR.turns (h.bl k hk) ht (fun j hj e => by have := hS _ e; have := h.blB k hk j hj; omega), h.blB, fun k hk => (h.yr k hk).turns ht (fun j hj e => by have := hS _ e; have := h.yrB k hk j hj; omega), h.yrB, h.rp, h.rq⟩
theorem BSt.keep (h : BSt w0 w B gx gy G V Y X P Q who) (hb : Below w.heap.size w w') : BSt w0 w' B gx gy G V Y X P Q who := h.turn (S := fun _ => False) (.of_below hb) (fun _ e => e.elim)
/-- who has what, new blocks being k's -/
def whoN (who : Nat → Nat) (n k : Nat) : Nat → Nat := fun j => if j < n then who j else k
theorem whoN_old {n k j : Nat} (h : j < n) : whoN who n k j = who j := if_pos h
theorem whoN_new {n k j : Nat} (h : n ≤ j) : whoN who n k j = k := if_neg (by omega)
/-- the bound is laid anew, what came behind it is nobody's -/
theorem BSt.up (h : BSt w0 w B gx gy G V Y X P Q who) {B' : Nat} (hB : B ≤ B') (hw : B' ≤ w.heap.size) : BSt w0 w B' gx gy G V Y X P Q (whoN who B 9) :=
  ⟨h.below, Nat.le_trans h.lo hB, hw, h.x, h.y, ⟨h.xB.1, Nat.lt_of_lt_of_le h.xB.2.1 hB, by rw [whoN_old h.xB.2.1]; exact h.xB.2.2⟩, ⟨h.yB.1, Nat.lt_of_lt_of_le h.yB.2.1 hB, by rw [whoN_old h.yB.2.1]; exact h.yB.2.2⟩, h.bl, fun k hk j hj => ⟨(h.blB k hk j hj).1, Nat.lt_of_lt_of_le (h.blB k hk j hj).2.1 hB, by rw [whoN_old (h.blB k hk j hj).2.1]; exact (h.blB k hk j hj).2.2⟩,
    h.yr, fun k hk j hj => ⟨(h.yrB k hk j hj).1, Nat.lt_of_lt_of_le (h.yrB k hk j hj).2.1 hB, by rw [whoN_old (h.yrB k hk j hj).2.1]; exact (h.yrB k hk j hj).2.2⟩, h.rp, h.rq⟩
/-- a builder has turned, no block more is its own -/
theorem BSt.blds0 (h : BSt w0 w B gx gy G V Y X P Q who) (k : Nat) (hk : k < 2) {v' : Nat → Value} {l' : List Ent} (ht : Turns (BlS (G k) (V k)) w w') (hb : Bl w' w0.heap.size (G k) v' l') (hs : ∀ j, BlS (G k) v' j → BlS (G k) (V k) j) (hr : Ris l') :
    BSt w0 w' B gx gy G (upd V k v') Y X (upd P k l') Q who := by
  have hin : ∀ j, BlS (G k) (V k) j → who j = k := fun j hj => (h.blB k hk j hj).2.2
  have hwl : w0.heap.size ≤ w.heap.size := Nat.le_trans h.lo h.hi
  refine ⟨ht.below h.below hwl (fun j hj => (h.blB k hk j hj).1), h.lo, Nat.le_trans h.hi ht.size, ht.heap h.x (fun e => by have := hin _ e; have := h.xB; omega), ht.heap h.y (fun e => by have := hin _ e; have := h.yB; omega),
    h.xB, h.yB, fun i hi => ?_, fun i hi j hj => ?_, fun i hi => (h.yr i hi).turns ht (fun j hj e => by have := hin _ e; have := h.yrB i hi j hj; omega), h.yrB, fun i hi => ?_, h.rq⟩
  · by_cases e : i = k
    · subst e; rw [upd_same, upd_same]; exact hb
    · rw [upd_other _ _ e, upd_other _ _ e]
      exact BlR.turns (h.bl i hi) ht (fun j hj e2 => by have := hin _ e2; have := h.blB i hi j hj; omega)
  · by_cases e : i = k
    · subst e
      rw [upd_same] at hj
      exact h.blB i hi j (hs j hj)
    · rw [upd_other _ _ e] at hj
      exact h.blB i hi j hj
  · by_cases e : i = k
    · subst e; rw [upd_same]; exact hr
    · rw [upd_other _ _ e]; exact h.rp i hi
/-- a builder has turned -/
theorem BSt.blds (h : BSt w0 w B gx gy G V Y X P Q who) (k : Nat) (hk : k < 2) {v' : Nat → Value} {l' : List Ent} (ht : Turns (BlS (G k) (V k)) w w') (hb : Bl w' w0.heap.size (G k) v' l') (hs : ∀ j, BlS (G k) v' j → BlS (G k) (V k) j ∨ w.heap.size ≤ j) (hr : Ris l') :
    BSt w0 w' w'.heap.size gx gy G (upd V k v') Y X (upd P k l') Q (whoN who w.heap.size k) := by
  have hin : ∀ j, BlS (G k) (V k) j → who j = k := fun j hj => (h.blB k hk j hj).2.2
  have hlt : ∀ {j : Nat}, j < B → j < w.heap.size := fun hj => Nat.lt_of_lt_of_le hj h.hi
  have hwl : w0.heap.size ≤ w.heap.size := Nat.le_trans h.lo h.hi
  refine ⟨ht.below h.below hwl (fun j hj => (h.blB k hk j hj).1), Nat.le_trans hwl ht.size, Nat.le_refl _, ht.heap h.x (fun e => by have := hin _ e; have := h.xB; omega), ht.heap h.y (fun e => by have := hin _ e; have := h.yB; omega),
    ⟨h.xB.1, Nat.lt_of_lt_of_le (hlt h.xB.2.1) ht.size, by rw [whoN_old (hlt h.xB.2.1)]; exact h.xB.2.2⟩, ⟨h.yB.1, Nat.lt_of_lt_of_le (hlt h.yB.2.1) ht.size, by rw [whoN_old (hlt h.yB.2.1)]; exact h.yB.2.2⟩, fun i hi => ?_, fun i hi j hj => ?_,
    fun i hi => (h.yr i hi).turns ht (fun j hj e => by have := hin _ e; have := h.yrB i hi j hj; omega), fun i hi j hj => ?_, fun i hi => ?_, h.rq⟩
  · by_cases e : i = k
    · subst e; rw [upd_same, upd_same]; exact hb
    · rw [upd_other _ _ e, upd_other _ _ e]
      exact BlR.turns (h.bl i hi) ht (fun j hj e2 => by have := hin _ e2; have := h.blB i hi j hj; omega)
  · by_cases e : i = k
    · subst e
      rw [upd_same] at hj
      rcases hs j hj with h2 | h2
      · have := h.blB i hi j h2
        exact ⟨this.1, Nat.lt_of_lt_of_le (hlt this.2.1) ht.size, by rw [whoN_old (hlt this.2.1)]; exact this.2.2⟩
      · exact ⟨Nat.le_trans hwl h2, (BlR.inS hb j hj).2, whoN_new h2⟩
    · rw [upd_other _ _ e] at hj
      have := h.blB i hi j hj
      exact ⟨this.1, Nat.lt_of_lt_of_le (hlt this.2.1) ht.size, by rw [whoN_old (hlt this.2.1)]; exact this.2.2⟩
  · have := h.yrB i hi j hj
    exact ⟨this.1, Nat.lt_of_lt_of_le (hlt this.2.1) ht.size, by rw [whoN_old (hlt this.2.1)]; exact this.2.2⟩
  · by_cases e : i = k
    · subst e; rw [upd_same]; exact hr
    · rw [upd_other _ _ e]; exact h.rp i hi
/-- a list of the reference's is laid anew -/
theorem BSt.refs {w1 : World} (h : BSt w0 w B gx gy G V Y X P Q who) (k : Nat) (hk : k < 2) {y' : Value} {x' : List (Sv × Sv)} {l' : List Ent} (ht : Turns (fun j => (Y k).ownBlock = some j) w w1) (hy : ELs w0 w1 y' x' l') (hs : ∀ j, y'.ownBlock = some j → (Y k).ownBlock = some j ∨ w.heap.size ≤ j) (hr : Ris l') :
    BSt w0 (w1.setCell ⟨gy, k, none⟩ y') w1.heap.size gx gy G V (upd Y k y') (upd X k x') P (upd Q k l') (whoN who w.heap.size (2 + k)) := by
  have hin : ∀ j, (Y k).ownBlock = some j → who j = 2 + k := fun j hj => (h.yrB k hk j hj).2.2
  have hlt : ∀ {j : Nat}, j < B → j < w.heap.size := fun hj => Nat.lt_of_lt_of_le hj h.hi
  have hwl : w0.heap.size ≤ w.heap.size := Nat.le_trans h.lo h.hi
  have hb1 : Below w0.heap.size w0 w1 := ht.below h.below hwl (fun j hj => (h.yrB k hk j hj).1)
  have hoy : ∀ j, y'.ownBlock = some j → j ≠ gy := fun j hj e => by
    rcases hs j hj with h2 | h2
    · have := hin j h2; have := h.yB; subst e; omega
    · have := h.yB; have := h.hi; omega
  have hyb : w1.heap[gy]? = some (.cells #[Y 0, Y 1] 39 (0, 0)) := ht.heap h.y (fun e => by have := hin _ e; have := h.yB; omega)
  have hsc : ∀ j, j ≠ gy → (w1.setCell ⟨gy, k, none⟩ y').heap[j]? = w1.heap[j]? := fun j hj => Below.heap_setCell _ _ _ _ hj
  have hT : Turns (fun j => j = gy) w1 (w1.setCell ⟨gy, k, none⟩ y') := Turns.set (S := fun j => j = gy) _ rfl _
  refine ⟨hb1.setCell (p := ⟨gy, k, none⟩) h.yB.1 _, Nat.le_trans hwl ht.size, by simp, ?_, ?_,
    ⟨h.xB.1, Nat.lt_of_lt_of_le (hlt h.xB.2.1) ht.size, by rw [whoN_old (hlt h.xB.2.1)]; exact h.xB.2.2⟩, ⟨h.yB.1, Nat.lt_of_lt_of_le (hlt h.yB.2.1) ht.size, by rw [whoN_old (hlt h.yB.2.1)]; exact h.yB.2.2⟩,
    fun i hi => ?_, fun i hi j hj => ?_, fun i hi => ?_, fun i hi j hj => ?_, h.rp, fun i hi => ?_⟩
  · refine hT.heap (ht.heap h.x (fun e => by have := hin _ e; have := h.xB; omega)) (fun e => by have h1 := h.xB.2.2; have h2 := h.yB.2.2; rw [e] at h1; omega)
  · rw [set_block (i := k) hyb y']
    rcases (by omega : k = 0 ∨ k = 1) with e | e <;> subst e <;> rfl
  · exact BlR.turns (BlR.turns (h.bl i hi) ht (fun j hj e => by have := hin _ e; have := h.blB i hi j hj; omega)) hT (fun j hj e => by have h1 := (h.blB i hi j hj).2.2; have h2 := h.yB.2.2; subst e; omega)
  · have := h.blB i hi j hj
    exact ⟨this.1, Nat.lt_of_lt_of_le (hlt this.2.1) ht.size, by rw [whoN_old (hlt this.2.1)]; exact this.2.2⟩
  · by_cases e : i = k
    · subst e; rw [upd_same, upd_same, upd_same]; exact hy.turns hT (fun j hj e => hoy j hj e)
    · rw [upd_other _ _ e, upd_other _ _ e, upd_other _ _ e]
      exact ((h.yr i hi).turns ht (fun j hj e2 => by have := hin _ e2; have := h.yrB i hi j hj; omega)).turns hT (fun j hj e => by have h1 := (h.yrB i hi j hj).2.2; have h2 := h.yB.2.2; subst e; omega)
  · by_cases e : i = k
    · subst e
      rw [upd_same] at hj
      rcases hs j hj with h2 | h2
      · have := h.yrB i hi j h2
        exact ⟨this.1, Nat.lt_of_lt_of_le (hlt this.2.1) ht.size, by rw [whoN_old (hlt this.2.1)]; exact this.2.2⟩
      · exact ⟨Nat.le_trans hwl h2, (hy.1.lt j hj).2, whoN_new h2⟩
    · rw [upd_other _ _ e] at hj
      have := h.yrB i hi j hj
      exact ⟨this.1, Nat.lt_of_lt_of_le (hlt this.2.1) ht.size, by rw [whoN_old (hlt this.2.1)]; exact this.2.2⟩
  · by_cases e : i = k
    · subst e; rw [upd_same]; exact hr
    · rw [upd_other _ _ e]; exact h.rq i hi
theorem BSt.cx (h : BSt w0 w B gx gy G V Y X P Q who) (k : Nat) (hk : k < 2) : w.cell? ⟨gx, k, none⟩ = some (.pointer (some ⟨G k, 0, none⟩)) := by
  rcases (by omega : k = 0 ∨ k = 1) with e | e <;> subst e
  · exact cell_of h.x 0 rfl
  · exact cell_of h.x 1 rfl
theorem BSt.cy (h : BSt w0 w B gx gy G V Y X P Q who) (k : Nat) (hk : k < 2) : w.cell? ⟨gy, k, none⟩ = some (Y k) := by
  rcases (by omega : k = 0 ∨ k = 1) with e | e <;> subst e
  · exact cell_of h.y 0 rfl
  · exact cell_of h.y 1 rfl
theorem BSt.fy (h : BSt w0 w B gx gy G V Y X P Q who) (k : Nat) : w.frozen? ⟨gy, k, none⟩ = false := free_block h.y k
theorem BSt.offy (h : BSt w0 w B gx gy G V Y X P Q who) (k : Nat) (hk : k < 2) : ∀ j, (Y k).ownBlock = some j → j ≠ gy := fun j hj e => by have h1 := (h.yrB k hk j hj).2.2; have h2 := h.yB.2.2; subst e; omega
end
theorem BSt.init {w0 w1 : World} (hb : Below w0.heap.size w0 w1) :
    BSt w0 ((((w1.alloc (.cells #[.int .i64 0, .slice none 0 0, .slice none 0 0, .slice none 0 0] 75)).alloc (.cells #[.int .i64 0, .slice none 0 0, .slice none 0 0, .slice none 0 0] 75)).alloc (.cells #[.pointer (some ⟨w1.heap.size, 0, none⟩), .pointer (some ⟨w1.heap.size + 1, 0, none⟩)] 34)).alloc (.cells #[.slice none 0 0, .slice none 0 0] 39))
      (w1.heap.size + 4) (w1.heap.size + 2) (w1.heap.size + 3) (fun k => w1.heap.size + k) (fun _ _ => .slice none 0 0) (fun _ => .slice none 0 0) (fun _ => []) (fun _ => []) (fun _ => []) (fun j => if j = w1.heap.size then 0 else if j = w1.heap.size + 1 then 1 else if j = w1.heap.size + 2 then 4 else 5) := by
  have hw := hb.size
  have h0 := heap_new w1 (.cells #[.int .i64 0, .slice none 0 0, .slice none 0 0, .slice none 0 0] 75)
  have h1 := heap_new (w1.alloc (.cells #[.int .i64 0, .slice none 0 0, .slice none 0 0, .slice none 0 0] 75)) (.cells #[.int .i64 0, .slice none 0 0, .slice none 0 0, .slice none 0 0] 75)
  have h2 := heap_new ((w1.alloc (.cells #[.int .i64 0, .slice none 0 0, .slice none 0 0, .slice none 0 0] 75)).alloc (.cells #[.int .i64 0, .slice none 0 0, .slice none 0 0, .slice none 0 0] 75)) (.cells #[.pointer (some ⟨w1.heap.size, 0, none⟩), .pointer (some ⟨w1.heap.size + 1, 0, none⟩)] 34)
  have h3 := heap_new (((w1.alloc (.cells #[.int .i64 0, .slice none 0 0, .slice none 0 0, .slice none 0 0] 75)).alloc (.cells #[.int .i64 0, .slice none 0 0, .slice none 0 0, .slice none 0 0] 75)).alloc (.cells #[.pointer (some ⟨w1.heap.size, 0, none⟩), .pointer (some ⟨w1.heap.size + 1, 0, none⟩)] 34)) (.cells #[.slice none 0 0, .slice none 0 0] 39)
  simp only [World.size_alloc] at h1 h2 h3
  refine ⟨(((hb.alloc hw _).alloc (Nat.le_trans hw (by simp)) _).alloc (Nat.le_trans hw (by simp; omega)) _).alloc (Nat.le_trans hw (by simp; omega)) _, by omega, by simp, ?_, h3, ⟨by omega, by omega, ?_⟩, ⟨by omega, by omega, ?_⟩, fun k hk => ?_, fun k hk j hj => ?_, fun k hk => ELs.nil _ _, fun k hk j hj => (by cases hj), fun k hk => Ris.nil, fun k hk => Ris.nil⟩
  · exact (Below.heap_alloc _ _ _ (by simp)).trans h2
  · show (if w1.heap.size + 2 = w1.heap.size then 0 else if w1.heap.size + 2 = w1.heap.size + 1 then 1 else if w1.heap.size + 2 = w1.heap.size + 2 then 4 else 5) = 4
    rw [if_neg (by omega), if_neg (by omega), if_pos rfl]
  · show (if w1.heap.size + 3 = w1.heap.size then 0 else if w1.heap.size + 3 = w1.heap.size + 1 then 1 else if w1.heap.size + 3 = w1.heap.size + 2 then 4 else 5) = 5
    rw [if_neg (by omega), if_neg (by omega), if_neg (by omega)]
  · refine Bl.fresh ?_ (by show _ ≤ w1.heap.size + k; omega)
    rcases (by omega : k = 0 ∨ k = 1) with e | e <;> subst e
    · exact (Below.heap_alloc _ _ _ (by simp <;> omega)).trans ((Below.heap_alloc _ _ _ (by simp <;> omega)).trans ((Below.heap_alloc _ _ _ (by simp)).trans h0))
    · exact (Below.heap_alloc _ _ _ (by simp <;> omega)).trans ((Below.heap_alloc _ _ _ (by simp)).trans h1)
  · obtain rfl := BlS_nil hj
    refine ⟨by show _ ≤ w1.heap.size + k; omega, by show w1.heap.size + k < _; omega, ?_⟩
    rcases (by omega : k = 0 ∨ k = 1) with e | e <;> subst e
    · exact if_pos rfl
    · exact (if_neg (by omega)).trans (if_pos rfl)
/-- behind an Add -/
def added (P : Nat → List Ent) (k : Nat) (e : Ent) : Nat → List Ent := if addE (P k) e = 0 then upd P k (P k ++ [e]) else P
theorem BSt.addd {w0 w w' : World} {B gx gy : Nat} {G : Nat → Nat} {V : Nat → Nat → Value} {Y : Nat → Value} {X : Nat → List (Sv × Sv)} {P Q : Nat → List Ent} {who : Nat → Nat} (h : BSt w0 w B gx gy G V Y X P Q who) (k : Nat) (hk : k < 2) {e : Ent} {r : Ending} (ha : AddPost w w0.heap.size (G k) (V k) (P k) e r w') :
    ∃ V1 who1, BSt w0 w' w'.heap.size gx gy G V1 Y X (added P k e) Q who1 ∧ w.heap.size ≤ w'.heap.size ∧ ∀ j, j < w.heap.size → w0.heap.size ≤ j → who j = 9 → w'.heap[j]? = w.heap[j]? ∧ who1 j = 9 := by
  obtain ⟨_, h1, h2⟩ := ha
  by_cases hz : addE (P k) e = 0
  · obtain ⟨v', hb, ht, hs⟩ := h2 hz
    have := h.blds k hk ht hb hs ((h.rp k hk).add hz)
    unfold added
    rw [if_pos hz]
    exact ⟨_, _, this, ht.size, fun j hj _ hw => ⟨ht.block j hj (fun e2 => by have := (h.blB k hk j e2).2.2; omega), by rw [whoN_old hj]; exact hw⟩⟩
  · have hb := h1 hz
    unfold added
    rw [if_neg hz]
    exact ⟨V, _, (h.keep hb).up (Nat.le_trans h.hi hb.size) (Nat.le_refl _), hb.size, fun j hj _ hw => ⟨hb.block j hj, by unfold whoN; split <;> first | exact hw | rfl⟩⟩
theorem BSt.raddd {w0 w w' : World} {B gx gy : Nat} {G : Nat → Nat} {V : Nat → Nat → Value} {Y : Nat → Value} {X : Nat → List (Sv × Sv)} {P Q : Nat → List Ent} {who : Nat → Nat} (h : BSt w0 w B gx gy G V Y X P Q who) (k : Nat) (hk : k < 2) {e : Ent} {x : Sv × Sv} {r : Ending} (ha : RAddPost w0 w gy k (Y k) (X k) (Q k) e x r w') :
    ∃ B1 Y1 X1 who1, BSt w0 w' B1 gx gy G V Y1 X1 P (added Q k e) who1 := by
  obtain ⟨_, h1, h2⟩ := ha
  by_cases hz : addE (Q k) e = 0
  · obtain ⟨y', w1, rfl, hy, ht, hs⟩ := h2 hz
    have := h.refs k hk ht hy hs ((h.rq k hk).add hz)
    unfold added
    rw [if_pos hz]
    exact ⟨_, _, _, _, this⟩
  · have hb := h1 hz
    unfold added
    rw [if_neg hz]
    exact ⟨_, _, _, _, h.keep hb⟩
/-- that much is there -/
def BStE (w0 w : World) (B gx gy : Nat) (G : Nat → Nat) (P : Nat → List Ent) : Prop := ∃ V Y X who, BSt w0 w B gx gy G V Y X P P who
end Go.Proofs.Yteedjgjkldbbcaa
