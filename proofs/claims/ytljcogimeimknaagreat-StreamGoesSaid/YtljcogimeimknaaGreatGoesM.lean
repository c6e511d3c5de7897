/- StreamGoes: what stands while All goes on; the marks at the law's end. No condition. -/
import Derived.Test.YtljcogimeimknaaGreatRdBlockL
import Derived.Test.YtljcogimeimknaaGreatK8w
import Derived.Test.YtljcogimeimknaaGreatRowInZ
import Derived.Sort.LoopGhostIn
namespace Go.Proofs.YtljcogimeimknaaGreat
open Go.RowKit Go.Shelf
set_option linter.unusedVariables false
set_option linter.unusedSimpArgs false

theorem allocs_get (w : World) : ∀ (os : List Obj), (os.foldl World.alloc w).heap.size = w.heap.size + os.length ∧ Below w.heap.size w (os.foldl World.alloc w) ∧ ∀ i o, os[i]? = some o → (os.foldl World.alloc w).heap[w.heap.size + i]? = some o := by
  intro os
  have main : ∀ r : List Obj, (r.reverse.foldl World.alloc w).heap.size = w.heap.size + r.reverse.length ∧ Below w.heap.size w (r.reverse.foldl World.alloc w) ∧ ∀ i o, r.reverse[i]? = some o → (r.reverse.foldl World.alloc w).heap[w.heap.size + i]? = some o := by
    intro r
    induction r with
    | nil => exact ⟨rfl, Below.refl _ _, fun i o h => by simp at h⟩
    | cons x r ih =>
      obtain ⟨h1, h2, h3⟩ := ih
      rw [List.reverse_cons, List.foldl_append]
      generalize r.reverse = q at *
      show ((q.foldl World.alloc w).alloc x).heap.size = _ ∧ Below w.heap.size w ((q.foldl World.alloc w).alloc x) ∧ ∀ i o, _ → ((q.foldl World.alloc w).alloc x).heap[w.heap.size + i]? = some o
      refine ⟨by simp [h1]; omega, h2.alloc (by omega) _, fun i o hi => ?_⟩
      by_cases hq : i < q.length
      · rw [List.getElem?_append_left hq] at hi
        exact (Below.heap_alloc _ x _ (by rw [h1]; omega)).trans (h3 i o hi)
      · rw [List.getElem?_append_right (by omega)] at hi
        have hi0 : i - q.length = 0 := by have := (List.getElem?_eq_some_iff.1 hi).1; simp at this; omega
        rw [hi0] at hi
        obtain rfl : x = o := by simpa using hi
        have hw : w.heap.size + i = (q.foldl World.alloc w).heap.size := by rw [h1]; omega
        rw [hw]; exact heap_new _ _
  have := main os.reverse
  rwa [List.reverse_reverse] at this
def mark (D : Nat) : Deferred := { target := .collected D, args := #[] }
theorem leaves_mk {F : Fence} {n : Nat} {P : Program} {fn : Func} {tmps : Array Value} {R : Ending → World → Prop} : ∀ (Ds : List Nat) (w : World), (∀ D, D ∈ Ds → w.heap[D]? = some (.deferred (some []))) → Ds.Nodup →
    (∀ w', Turns (fun j => j ∈ Ds) w w' → LeavesInM F n P fn tmps R [] .returning w') → LeavesInM F n P fn tmps R (Ds.map mark) .returning w := by
  intro Ds
  induction Ds with
  | nil => intro w _ _ h; exact h w (Turns.refl _ _)
  | cons D Ds ih =>
    intro w hw hnd h
    have hD := hw D List.mem_cons_self
    obtain ⟨h1, h2⟩ := List.nodup_cons.1 hnd
    refine ⟨by simp, .inl ⟨D, _, rfl, run_takeDeferred hD, ih _ (fun E hE => (World.putObj_heap_other (fun e => h1 (by rw [← e]; exact hE))).trans (hw E (List.mem_cons_of_mem _ hE))) h2 fun w' ht => h w' ?_⟩⟩
    exact (Turns.putObj (T := fun j => j ∈ D :: Ds) w D (.deferred none) List.mem_cons_self).trans ht fun j _ hj => List.mem_cons_of_mem _ hj

theorem RdW.cells {w : World} {lo : Nat} {y : Value} {vs : List (Sv × Sv)} {es : List Ent} (h : RdW w lo y vs es) {j : Nat} (hj : RLB y vs j) : ∃ (cs : Array Value) (t : TypeId) (f : Nat × Nat), w.heap[j]? = some (.cells cs t f) := by
  have ow : ∀ {u : Value} {bb : List UInt8}, OwT fB w lo 5 u bb → u.ownBlock = some j → ∃ (cs : Array Value) (t : TypeId) (f : Nat × Nat), w.heap[j]? = some (.cells cs t f) := fun {u bb} ho hu => by
    rcases ho with ⟨q, _⟩ | ⟨gg, cap, ys2, q, _, hh, _⟩
    · rw [q] at hu; cases hu
    · rw [q] at hu; cases hu; exact ⟨_, _, _, hh⟩
  rcases hj with hj | ⟨i, x, hx, hj⟩
  · rcases h.own with ⟨q, _⟩ | ⟨gg, cap, q, _, hh, _⟩
    · rw [q] at hj; cases hj
    · rw [q] at hj; cases hj; exact ⟨_, _, _, hh⟩
  · obtain ⟨e, he⟩ := h.get hx
    obtain ⟨o1, o2⟩ := h.txt i x e hx he
    rcases hj with hj | hj
    · exact ow o1 hj
    · exact ow o2 hj
theorem takeM_short {L N : Nat} (hN : 64 ≤ N) : ∀ (k : Nat) (s : RS) (l es : List Ent) (s1 : RS) (l1 : List Ent) (b : Bool), s.Ok L → l.length ≤ N → takeM k s l = (es, s1, l1, b) → l1.length ≤ N := by
  intro k
  induction k with
  | zero => intro s l es s1 l1 b hs hl h; cases h; exact hl
  | succ k ih =>
    intro s l es s1 l1 b hs hl h
    obtain ⟨⟨o, s2, l2⟩, hX⟩ : ∃ X, stepM s l = X := ⟨_, rfl⟩
    have h2 := stepM_ok hs hX
    have h3 : l2.length ≤ N := by
      cases l with
      | cons e t => cases hX; simp at hl; omega
      | nil =>
        obtain ⟨⟨⟨x, ok⟩, s3⟩, hY⟩ : ∃ X, nxM mxI s = X := ⟨_, rfl⟩
        cases ok with
        | false => rw [stepM_end hY] at hX; cases hX; simp
        | true =>
          have hf := hs.fair
          rw [hY] at hf
          cases x with
          | nil => have := (hf rfl).1; simp at this
          | cons e t => rw [stepM_next hY] at hX; cases hX; have := (hf rfl).2.1; simp at this; omega
    cases o with
    | none => rw [takeM_none hX] at h; cases h; exact h3
    | some e =>
      rw [takeM_some hX] at h
      obtain ⟨⟨es2, s3, l3, b3⟩, hY⟩ : ∃ Y, takeM k s2 l2 = Y := ⟨_, rfl⟩
      rw [hY] at h
      cases h
      exact ih _ _ _ _ _ _ h2 h3 hY
theorem blL_short {s : RS} {left : List Ent} {L : Nat} (h : s.Ok L) (hl : left.length ≤ 1000) : (blL mxI s left).1.1.length ≤ 1000 := by
  by_cases hn : left = []
  · subst hn
    unfold blL
    rw [if_pos rfl]
    have hf := h.fair
    rcases nxM_grows mxI s with ⟨h1, _⟩ | ⟨_, h1, _⟩
    · have := (hf h1).2.1; omega
    · rw [h1]; simp
  · unfold blL; rw [if_neg hn]; exact hl
theorem range_cutG {F : Fence} {n : Nat} {P : Program} {c : Code} {K : Act → World → Prop} {Q' : Exit → Act → World → Prop} {t : Array Value} {ds0 : List Deferred} {w : World} {id : Nat} (R : List Deferred → World → Prop) (rest : ∀ ds W, R ds W → K { tmps := t, defers := ds } W)
    (first : ∀ J : List Deferred → World → Prop, (∀ ds W, R ds W → J ds W) → c.wpIn F n P (fun e a' W => (e = .normal ∨ e = .exit id) ∧ a'.tmps = t ∧ J a'.defers W) { tmps := t, defers := ds0 } w) : c.wpIn F n P (Exit.inBlock id (Exit.then K Q')) { tmps := t, defers := ds0 } w := by
  refine wpIn_mono (first R fun _ _ q => q) ?_
  rintro e ⟨t', ds⟩ W ⟨h, rfl, hr⟩
  rcases h with rfl | rfl
  · simp only [Exit.inBlock]
    exact rest _ _ hr
  · simp only [Exit.inBlock, if_true]
    exact rest _ _ hr

section
variable {w w' w1 : World} {lo gs g gi L : Nat} {S : Nat → Prop} {lv rv : Value} {vs : List RV} {s : RS} {who who' : Nat → Nat}
noncomputable def re6 (who : Nat → Nat) (Q : Nat → Prop) : Nat → Nat := by
  classical exact fun j => if who j = 6 ∧ ¬ Q j then 0 else who j
theorem re6_no {Q : Nat → Prop} {j : Nat} (h : who j ≠ 6 ∨ Q j) : re6 who Q j = who j := by
  unfold re6; rw [if_neg]; rintro ⟨a, b⟩; rcases h with h | h; exact h a; exact b h
theorem re6_in {Q : Nat → Prop} {j : Nat} (h : who j = 6) (hq : ¬ Q j) : re6 who Q j = 0 := by unfold re6; rw [if_pos ⟨h, hq⟩]
theorem re6_ne {Q : Nat → Prop} {j : Nat} (h : re6 who Q j ≠ 0) : who j ≠ 0 := by
  intro e
  rw [re6_no (.inl (by rw [e]; decide))] at h
  exact h e
theorem re6_zero {Q : Nat → Prop} {j : Nat} (h : who j = 0) : re6 who Q j = 0 := by rw [re6_no (.inl (by rw [h]; decide)), h]
theorem Rdp.re6 (h : Rdp w lo gs g gi S lv rv vs s who) (Q : Nat → Prop) : Rdp w lo gs g gi S lv rv vs s (re6 who Q) := by
  have q : ∀ j k, who j = k → k ≠ 6 → Go.Proofs.YtljcogimeimknaaGreat.re6 who Q j = k := fun j k e hk => by rw [re6_no (.inl (by rw [e]; exact hk))]; exact e
  exact ⟨fun j hj => h.low j (re6_ne hj), h.lw, h.blk, q g 1 h.gw (by decide), h.io, q gi 2 h.iw (by decide), h.st, fun j hj => q j 3 (h.sw j hj) (by decide), h.rw, fun j hj => q j 4 (h.rb j hj) (by decide), h.rl, fun i x r hx hr => ⟨(h.rk i x r hx hr).1, (h.rk i x r hx hr).2.1, fun b o hb h0 => q b 5 ((h.rk i x r hx hr).2.2 b o hb h0) (by decide)⟩⟩
theorem LfP.re6 {left : List Ent} {Q : Nat → Prop} (h : LfP w lo lv left who Q) : LfP w lo lv left (re6 who Q) Q := by
  obtain ⟨ap, c, vs2, e, hc, hg, hx, hq, hf, ha⟩ := h
  have hl := hg.1
  refine ⟨ap, c, vs2, e, hc, ⟨hl, fun i x en hi he => ?_⟩, fun i x hi => ?_, hq, hf, ha⟩
  · obtain ⟨o1, o2, o3⟩ := hg.2 i x en hi he
    exact ⟨o1, o2, fun j hj => by rw [re6_no (.inr (hq j (.inr ⟨i, x, hi, hj⟩)))]; exact o3 j hj⟩
  · obtain ⟨b, o, hb, h6, c0, c1⟩ := hx i x hi
    exact ⟨b, o, hb, by rw [re6_no (.inr (hq b (.inl ⟨by have := (List.getElem?_eq_some_iff.1 hi).1; omega, o, hb⟩)))]; exact h6, c0, c1⟩
end

structure Rst (w2 W : World) (bs : List UInt8) (lo gt g2 gi2 : Nat) (bg : Bool) (S' : Nat → Prop) (lv' rv' : Value) (vs' : List RV) (s : RS) (left : List Ent) (who2 : Nat → Nat) (Ds : List Nat) (B0 : Nat) (who : Nat → Nat) : Prop where
  r : Rrp W bs lo gt g2 gi2 bg S' lv' rv' vs' s who2
  lf : LfD W lv' left who2
  d : ∀ j, who j ≠ 0 → who2 j = 0
  b : Below lo w2 W
  sz : B0 ≤ W.heap.size
  lb : lo ≤ B0
  lw : ∀ j, who j ≠ 0 → lo ≤ j
  l2 : ∀ j, who2 j ≠ 0 → j < B0
  mks : ∀ D, D ∈ Ds → W.heap[D]? = some (.deferred (some [])) ∧ who D = 0 ∧ D < B0
section
variable {w2 A B : World} {bs : List UInt8} {lo gt g2 gi2 B0 : Nat} {bg : Bool} {S' : Nat → Prop} {lv' rv' : Value} {vs' : List RV} {s : RS} {left : List Ent} {who2 who who' : Nat → Nat} {Ds : List Nat}
theorem Rst.gr (hbl : bs.length ≤ 140737488351232) (h : Rst w2 A bs lo gt g2 gi2 bg S' lv' rv' vs' s left who2 Ds B0 who) (hG : Gr A B who who') : Rst w2 B bs lo gt g2 gi2 bg S' lv' rv' vs' s left who2 Ds B0 who' := by
  have hlo : lo ≤ A.heap.size := Nat.le_trans h.lb h.sz
  refine ⟨h.r.turn hbl hG.t h.d h.lw, h.lf.turn hG.t (fun j hj => by rw [h.d j hj]; decide) (fun _ _ e => e), fun j hj => ?_, hG.t.below h.b hlo h.lw, Nat.le_trans h.sz hG.t.size, h.lb, fun j hj => ?_, h.l2, fun D hD => ?_⟩
  · by_cases hl : j < A.heap.size
    · rw [hG.o j hl] at hj; exact h.d j hj
    · exact Classical.byContradiction fun e => by have := h.l2 j e; have := h.sz; omega
  · by_cases hl : j < A.heap.size
    · rw [hG.o j hl] at hj; exact h.lw j hj
    · omega
  · obtain ⟨h1, h2, h3⟩ := h.mks D hD
    exact ⟨hG.t.heap h1 (fun e => e h2), (hG.o D (Nat.lt_of_lt_of_le h3 h.sz)).trans h2, h3⟩
theorem Rst.turn (hbl : bs.length ≤ 140737488351232) {T : Nat → Prop} (h : Rst w2 A bs lo gt g2 gi2 bg S' lv' rv' vs' s left who2 Ds B0 who) (ht : Turns T A B) (hT : ∀ j, T j → B0 ≤ j) : Rst w2 B bs lo gt g2 gi2 bg S' lv' rv' vs' s left who2 Ds B0 who := by
  have hlo : lo ≤ A.heap.size := Nat.le_trans h.lb h.sz
  have z2 : ∀ j, T j → who2 j = 0 := fun j hj => Classical.byContradiction fun e => by have := h.l2 j e; have := hT j hj; omega
  exact ⟨h.r.turn hbl ht z2 (fun j hj => Nat.le_trans h.lb (hT j hj)), h.lf.turn ht (fun j hj => by rw [z2 j hj]; decide) (fun _ _ e => e), h.d, ht.below h.b hlo (fun j hj => Nat.le_trans h.lb (hT j hj)), Nat.le_trans h.sz ht.size, h.lb, h.lw, h.l2, fun D hD => by
    obtain ⟨h1, h2, h3⟩ := h.mks D hD
    exact ⟨ht.heap h1 (fun e => by have := hT D e; omega), h2, h3⟩⟩
def GoI (w2 : World) (bs : List UInt8) (lo gt g2 gi2 : Nat) (bg : Bool) (S' : Nat → Prop) (lv' rv' : Value) (vs' : List RV) (s : RS) (left : List Ent) (who2 : Nat → Nat) (Ds : List Nat) (B0 Bm Bl m : Nat) (pre : List (Sv × Sv)) (who : Nat → Nat) (W : World) : Prop :=
  ∃ v, Boxed W Bl 48 v ∧ who Bl = 0 ∧ Boxed W Bm 3 (.int .i64 (m : Nat)) ∧ who Bm = 0 ∧ B0 ≤ Bm ∧ Bm < Bl ∧ OwZ fE zE W (Bl + 1) 51 v pre ∧ (∀ j, v.ownBlock = some j → who j = 0) ∧ Bl < W.heap.size ∧ Rst w2 W bs lo gt g2 gi2 bg S' lv' rv' vs' s left who2 Ds B0 who
theorem GoI.gr {Bm Bl m : Nat} (hbl : bs.length ≤ 140737488351232) {pre : List (Sv × Sv)} (h : GoI w2 bs lo gt g2 gi2 bg S' lv' rv' vs' s left who2 Ds B0 Bm Bl m pre who A) (hG : Gr A B who who') : GoI w2 bs lo gt g2 gi2 bg S' lv' rv' vs' s left who2 Ds B0 Bm Bl m pre who' B := by
  obtain ⟨v, h1, h2, h3, h4, h5, h6, h7, h8, h9, h10⟩ := h
  exact ⟨v, hG.t.heap h1 (fun e => e h2), (hG.o _ h1.lt).trans h2, hG.t.heap h3 (fun e => e h4), (hG.o _ h3.lt).trans h4, h5, h6, h7.of_block fun j hj => hG.t.block j (h7.t.lt j hj).2 (fun e => e (h8 j hj)), fun j hj => (hG.o _ (h7.t.lt j hj).2).trans (h8 j hj), Nat.lt_of_lt_of_le h9 hG.t.size, h10.gr hbl hG⟩
theorem GoI.put {Bm Bl m : Nat} (hbl : bs.length ≤ 140737488351232) {pre : List (Sv × Sv)} {W : World} {l : Nat} {o : Obj} (h : GoI w2 bs lo gt g2 gi2 bg S' lv' rv' vs' s left who2 Ds B0 Bm Bl m pre who W) (hl : B0 ≤ l) (ho : W.heap[l]? = some o) (hc : o.isCells = false) (o' : Obj) :
    GoI w2 bs lo gt g2 gi2 bg S' lv' rv' vs' s left who2 Ds B0 Bm Bl m pre who (W.putObj l o') := by
  obtain ⟨v, h1, h2, h3, h4, h5, h6, h7, h8, h9, h10⟩ := h
  have ht := Turns.putObj (T := fun j => j = l) W l o' rfl
  have kill : ∀ {j : Nat} {cs : Array Value} {t : TypeId} {f : Nat × Nat}, W.heap[j]? = some (.cells cs t f) → ¬ j = l := fun hj e => by subst e; rw [hj] at ho; cases ho; cases hc
  refine ⟨v, ht.heap h1 (kill h1), h2, ht.heap h3 (kill h3), h4, h5, h6, h7.of_block fun j hj => ht.block j (h7.t.lt j hj).2 ?_, h8, Nat.lt_of_lt_of_le h9 ht.size, h10.turn hbl ht (fun j e => by have e : j = l := e; omega)⟩
  rcases h7 with ⟨rfl, _⟩ | ⟨q, cap, rfl, _, hh, _⟩
  · cases hj
  · cases hj; exact kill hh
def GoE (w2 : World) (bs : List UInt8) (lo gq g gi gt g2 gi2 : Nat) (bg : Bool) (S' : Nat → Prop) (lv' rv' : Value) (vs' : List RV) (s : RS) (left : List Ent) (who2 : Nat → Nat) (Ds : List Nat) (B0 m : Nat) (ds' : List Deferred) (W : World) : Prop :=
  ∃ (D0 : Nat) (pre : List (Sv × Sv)) (es left2 : List Ent) (b : Bool) (s2 : RS) (S1 : Nat → Prop) (lv1 rv1 : Value) (vs1 : List RV) (who1 : Nat → Nat) (Q1 : Nat → Prop), ds' = (D0 :: Ds).map mark ∧ B0 + 3 ≤ D0 ∧ W.heap[D0]? = some (.deferred (some [])) ∧ who1 D0 = 0 ∧
    takeM m s left = (es, s2, left2, b) ∧ Rdp W lo gq g gi S1 lv1 rv1 vs1 s2 who1 ∧ s2.Ok bs.length ∧ LfP W lo lv1 left2 who1 Q1 ∧ GvP W lo pre es who1 ∧ (∀ j, GvB pre j → ¬ Q1 j) ∧ GoI w2 bs lo gt g2 gi2 bg S' lv' rv' vs' s left who2 Ds B0 B0 (B0 + 1) m pre who1 W
theorem wrap64_lowG {z : Int} (h0 : 0 ≤ z) (h1 : z < 9223372036854775808) : wrap64 z = z := by
  unfold wrap64
  rw [Int.emod_eq_of_lt (by omega) (by omega)]; omega
theorem GoI.app {Bm Bl m : Nat} (hbl : bs.length ≤ 140737488351232) {pre : List (Sv × Sv)} {W w1 : World} {v : Value} {o : Obj} {x : Sv × Sv} {a1 : Option Addr} {n1 c1 BW : Nat} (h1 : Boxed W Bl 48 v) (h2 : who Bl = 0) (h3 : Boxed W Bm 3 (.int .i64 (m : Nat))) (h4 : who Bm = 0) (h5 : B0 ≤ Bm) (h6 : Bm < Bl)
    (h7 : OwZ fE zE W (Bl + 1) 51 v pre) (h8 : ∀ j, v.ownBlock = some j → who j = 0) (h9 : Bl < W.heap.size) (h10 : Rst w2 W bs lo gt g2 gi2 bg S' lv' rv' vs' s left who2 Ds B0 who) (hnew : ∀ j, W.heap.size ≤ j → who j = 0)
    (V1 : Boxed w1 Bl 48 v) (O1 : OwZ fE zE w1 (Bl + 1) 51 (.slice a1 n1 c1) (pre ++ [x])) (G1 : (W.alloc o).grownBy w1 v.ownBlock) (HV : Value.ownBlock (.slice a1 n1 c1) = v.ownBlock ∨ Value.ownBlock (.slice a1 n1 c1) = some (W.alloc o).heap.size) :
    KeepsFrom BW W (w1.setCell ⟨Bl, 0, none⟩ (.slice a1 n1 c1)) ∧ Turns (fun j => who j = 0) W (w1.setCell ⟨Bl, 0, none⟩ (.slice a1 n1 c1)) ∧ GoI w2 bs lo gt g2 gi2 bg S' lv' rv' vs' s left who2 Ds B0 Bm Bl m (pre ++ [x]) who (w1.setCell ⟨Bl, 0, none⟩ (.slice a1 n1 c1)) := by
  have e0 : Below W.heap.size W (W.alloc o) := (Below.refl _ _).alloc (Nat.le_refl _) _
  have s1 : W.heap.size ≤ w1.heap.size := Nat.le_trans e0.size G1.size
  have hOWN : ∀ j, Value.ownBlock (.slice a1 n1 c1) = some j → who j = 0 := fun j hj => by
    rcases HV with q | q
    · exact h8 j (q ▸ hj)
    · rw [q] at hj; cases hj; exact hnew _ e0.size
  have hT : Turns (fun j => v.ownBlock = some j ∨ j = Bl) W (w1.setCell ⟨Bl, 0, none⟩ (.slice a1 n1 c1)) :=
    ((Turns.of_below (S := fun j => v.ownBlock = some j ∨ j = Bl) e0).trans (.of_grown (S := fun j => v.ownBlock = some j ∨ j = Bl) G1 fun j hj => .inl hj) fun _ _ e => e).trans (Turns.set (S := fun j => v.ownBlock = some j ∨ j = Bl) w1 (b := Bl) (i := 0) (.inr rfl) _) fun _ _ e => e
  refine ⟨(((KeepsOthers.alloc W _).from _).trans (keepsFrom_own (h7.keep e0).t G1)).trans ((KeepsOthers.setCell _ _ _).from _), hT.mono fun j _ hj => by rcases hj with e | e; exact h8 j e; exact e ▸ h2, ?_⟩
  refine ⟨_, V1.set _, h2, hT.heap h3 (fun e => by rcases e with e | e; (have := (h7.t.lt _ e).1; omega); omega), h4, h5, h6, O1.of_block fun j hj => Below.heap_setCell _ _ _ _ (by have := (O1.t.lt j hj).1; intro e; have e : j = Bl := e; omega), hOWN, by simp; omega, h10.turn hbl hT (fun j hj => by rcases hj with e | e; (have := (h7.t.lt j e).1; omega); omega)⟩
end
end Go.Proofs.YtljcogimeimknaaGreat
