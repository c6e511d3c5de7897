/- VintLists: the walk. Conditions: the slice within reach. -/
import Derived.Test.YthiebpiohkfjgaaVintRList
import Derived.Test.YthiebpiohkfjgaaMarks
import Derived.Sort.LoopGhostIn
namespace Go.Proofs.Ythiebpiohkfjgaa
open Go.RowKit Go.Shelf
attribute [local go_sem] Oper.semAt_some

/-- every place of a slice of numbers, spare ones too, holds a number and may be written -/
def SoftN (w : World) (a : Option Addr) (c : Nat) : Prop := ∀ i, i < c → ∃ (x : Nat) (b o : Nat), a = some ⟨b, o, none⟩ ∧ w.cell? ⟨b, o + i, none⟩ = some (.int .u64 x) ∧ w.frozen? ⟨b, o + i, none⟩ = false
theorem SoftN.set {w : World} {b o c k : Nat} (h : SoftN w (some ⟨b, o, none⟩) c) (y : Nat) : SoftN (w.setCell ⟨b, o + k, none⟩ (.int .u64 y)) (some ⟨b, o, none⟩) c := by
  intro i hi
  obtain ⟨x, b', o', e, hc, hf⟩ := h i hi
  cases e
  by_cases hik : i = k
  · subst hik
    exact ⟨y, b, o, rfl, World.cell?_setCell_same _ _ _ hc, (World.frozen?_setCell _ _ _ _).trans hf⟩
  · exact ⟨x, b, o, rfl, (World.cell?_setCell_other _ _ _ _ (by simp)).trans hc, (World.frozen?_setCell _ _ _ _).trans hf⟩
theorem flat_fN (ys : List Nat) : ys.flatMap fN = ys.map Nf := by
  induction ys with
  | nil => rfl
  | cons y r ih => rw [List.flatMap_cons, ih]; rfl
theorem OwT.softN {w : World} {base : Nat} {e : TypeId} {a : Option Addr} {n c : Nat} {xs : List Nat} (h : OwT fN w base e (.slice a n c) xs) : SoftN w a c := by
  rcases h with ⟨hv, _⟩ | ⟨g, cap, ys, hv, hg, hh, hl, hn, hc, ht⟩
  · cases hv; intro i hi; omega
  · cases hv
    intro i hi
    have hy : ys[i]? = some ys[i] := List.getElem?_eq_getElem (by omega)
    refine ⟨ys[i], g, 0, rfl, ?_, ?_⟩
    · simp only [World.cell?, hh, Nat.zero_add, flat_fN]; simp [hy]
    · simp [World.frozen?, hh]
theorem OwT.slP {w : World} {base : Nat} {e : TypeId} {a : Option Addr} {n c : Nat} {xs : List Nat} (h : OwT fN w base e (.slice a n c) xs) : Sl Nf w a n c xs := by
  obtain ⟨a', n', c', hv, hs⟩ := h.slM
  cases hv
  exact hs

theorem OwT.capN {w : World} {base : Nat} {e : TypeId} {a : Option Addr} {n c : Nat} {xs : List Nat} (h : OwT fN w base e (.slice a n c) xs) : c ≤ 9223372036854775807 := by
  rcases h with ⟨hv, _⟩ | ⟨g, cap, ys, hv, hg, hh, hl, hn, hc, ht⟩
  · cases hv; omega
  · cases hv; unfold maxLen at hc; omega
theorem OwT.rowN {w : World} {base : Nat} {e : TypeId} {a : Option Addr} {n c : Nat} {xs : List Nat} (h : OwT fN w base e (.slice a n c) xs) : ∀ j, a.map (·.block) = some j → base ≤ j ∧ j < w.heap.size := by
  rcases h with ⟨hv, _⟩ | ⟨g, cap, ys, hv, hg, hh, _⟩
  · cases hv; intro j hj; cases hj
  · cases hv; intro j hj
    have hj : g = j := Option.some.inj hj
    subst hj
    exact ⟨hg, (Array.getElem?_eq_some_iff.1 hh).1⟩
theorem lst_len (b : List UInt8) : (lst b).1.length ≤ (nums b).length := by
  unfold lst; split <;> simp
theorem Lent.of_row {w w' : World} {g : Nat} {xs : List UInt8} (h : Lent w g xs) {row : Option Nat} (hg : w.grownBy w' row) (hne : some g ≠ row) : Lent w' g xs := (hg.block g h.lt hne).trans h
theorem OwT.row {w w' : World} {base : Nat} {e : TypeId} {v : Value} {xs : List Nat} (h : OwT fN w base e v xs) {row : Option Nat} (hg : w.grownBy w' row) (hr : ∀ j, row = some j → j < base) : OwT fN w' base e v xs :=
  h.of_block fun j hj => hg.block j (h.lt j hj).2 (fun e => by have := hr j e.symm; have := (h.lt j hj).1; omega)

/-- the second range: between two rounds -/
def OI (W W0 : World) (Bx g26 g27 g28 : Nat) (own fn : Value) (most : Int) (N : Nat) (pre : List NP) (W' : World) : Prop :=
  (0 ≤ most → (pre.length : Int) ≤ most) ∧ Boxed W' Bx 22 own ∧ Boxed W' g26 57 fn ∧ Boxed W' g27 3 (.int .i64 (pre.length : Nat)) ∧ Boxed W' g28 3 (.int .i64 (if pre.length = 0 then 0 else N : Nat)) ∧ Below Bx W W' ∧ W0.heap.size ≤ W'.heap.size
/-- the second range: left -/
def OX (W W0 : World) (Bx g26 g27 g28 : Nat) (own fn : Value) (most : Int) (N : Nat) (c : Code) (pre : List NP) (W' : World) : Prop :=
  c = .exit 6 ∧ (∃ F : Nat, most = F ∧ pre.length = F + 1 ∧ Boxed W' Bx 22 own ∧ Boxed W' g26 57 fn ∧ Boxed W' g27 3 (.int .i64 (F : Nat)) ∧ Boxed W' g28 3 (.int .i64 (if F = 0 then 0 else N : Nat)) ∧ Below Bx W W' ∧ W0.heap.size ≤ W'.heap.size)
theorem OI.own (W W0 : World) (Bx g26 g27 g28 : Nat) (own fn : Value) (most : Int) (N : Nat) (hw : Bx ≤ W0.heap.size) : OwnFrom W0.heap.size (OI W W0 Bx g26 g27 g28 own fn most N) := by
  rintro pre X Y row ⟨e1, h1, h2, h3, h4, h5, h6⟩ hg hr
  have hr' : ∀ r, row = some r → ∃ o : Obj, X.heap[r]? = some o ∧ o.isCells = false := fun r e => (hr r e).2
  exact ⟨e1, boxed_turn h1 hg hr', boxed_turn h2 hg hr', boxed_turn h3 hg hr', boxed_turn h4 hg hr', h5.grown hg (Nat.le_trans hw h6) (fun k e => Nat.le_trans hw (hr k e).1), Nat.le_trans h6 hg.size⟩
theorem OX.own (W W0 : World) (Bx g26 g27 g28 : Nat) (own fn : Value) (most : Int) (N : Nat) (hw : Bx ≤ W0.heap.size) : ∀ c, OwnFrom W0.heap.size (OX W W0 Bx g26 g27 g28 own fn most N c) := by
  rintro c pre X Y row ⟨e1, F, e2, e3, h1, h2, h3, h4, h5, h6⟩ hg hr
  have hr' : ∀ r, row = some r → ∃ o : Obj, X.heap[r]? = some o ∧ o.isCells = false := fun r e => (hr r e).2
  exact ⟨e1, F, e2, e3, boxed_turn h1 hg hr', boxed_turn h2 hg hr', boxed_turn h3 hg hr', boxed_turn h4 hg hr', h5.grown hg (Nat.le_trans hw h6) (fun k e => Nat.le_trans hw (hr k e).1), Nat.le_trans h6 hg.size⟩

/-- the range within the second range: between two rounds -/
def NI (W' W0 : World) (Bx g26 g27 g28 : Nat) (own fn : Value) (pre : List NP) (X : World) : Prop :=
  KeepsFrom W0.heap.size W' X ∧ Boxed X Bx 22 own ∧ Boxed X g26 57 fn ∧ Boxed X g27 3 (.int .i64 1) ∧ Boxed X g28 3 (.int .i64 (pre.length : Nat)) ∧ Below Bx W' X ∧ W0.heap.size ≤ X.heap.size
theorem NI.own (W' W0 : World) (Bx g26 g27 g28 : Nat) (own fn : Value) {M : Nat} (hB : Bx ≤ W0.heap.size) (hw : Bx ≤ M) (hM : W'.heap.size ≤ M) : OwnFrom M (NI W' W0 Bx g26 g27 g28 own fn) := by
  rintro pre X Y row ⟨n1, n2, n3, n4, n5, n6, n7⟩ hg hr
  have hr' : ∀ r, row = some r → ∃ o : Obj, X.heap[r]? = some o ∧ o.isCells = false := fun r e => (hr r e).2
  exact ⟨ownFrom_keepsFrom (β := Unit) hM () X Y row n1 hg hr, boxed_turn n2 hg hr', boxed_turn n3 hg hr', boxed_turn n4 hg hr', boxed_turn n5 hg hr', n6.grown hg (Nat.le_trans hB n7) (fun k e => Nat.le_trans hw (hr k e).1), Nat.le_trans n7 hg.size⟩

/-- each number stands where those ahead of it end, and is read there -/
theorem nums_at {b : List UInt8} {q : List (Nat × Nat)} {x : Nat × Nat} (h : q ++ [x] <+: nums b) : x.1 = aft q ∧ ∃ j, rd (b.drop (aft q)) 0 0 = (x.2, j, 0) := by
  have key : ∀ (q pre : List (Nat × Nat)) (a f : Nat), Left b pre a f → pre ++ (q ++ [x]) <+: nums b → x.1 = aft (pre ++ q) ∧ ∃ j, rd (b.drop (aft (pre ++ q))) 0 0 = (x.2, j, 0) := by
    intro q
    induction q with
    | nil =>
      intro pre a f hL ⟨r, hr⟩
      rw [hL.all, List.append_assoc] at hr
      have hr := List.append_cancel_left hr
      rw [List.nil_append] at hr
      obtain ⟨⟨n, j, e⟩, hrd⟩ : ∃ R, rd (b.drop a) 0 0 = R := ⟨_, rfl⟩
      by_cases ha : a < b.length
      · by_cases he : e = 0
        · subst he
          obtain ⟨f', rfl, hL'⟩ := hL.go ha hrd
          rw [numsF_go ha hrd] at hr
          injection hr with h1 h2
          rw [h1, List.append_nil, ← hL.at_]
          exact ⟨rfl, j, hrd⟩
        · rw [numsF_no hrd he] at hr; cases hr
      · rw [numsF_end (by omega)] at hr; cases hr
    | cons y q ih =>
      intro pre a f hL ⟨r, hr⟩
      have hr0 := hr
      rw [hL.all, List.append_assoc] at hr
      have hr := List.append_cancel_left hr
      obtain ⟨⟨n, j, e⟩, hrd⟩ : ∃ R, rd (b.drop a) 0 0 = R := ⟨_, rfl⟩
      by_cases ha : a < b.length
      · by_cases he : e = 0
        · subst he
          obtain ⟨f', rfl, hL'⟩ := hL.go ha hrd
          rw [numsF_go ha hrd] at hr
          injection hr with h1 h2
          subst h1
          have := ih _ _ _ hL' ⟨r, by rw [← hr0]; simp⟩
          rw [List.append_assoc] at this
          exact this
        · rw [numsF_no hrd he] at hr; cases hr
      · rw [numsF_end (by omega)] at hr; cases hr
  exact key q [] 0 _ (Left.start b) (by simpa using h)
/-- the third range: between two rounds -/
def TI (W' W3 : World) (Bx g29 g30 : Nat) (own : Value) (b : List UInt8) (pre : List NP) (X : World) : Prop :=
  ats pre ≤ b.length ∧ Boxed X g29 3 (.int .i64 (pre.length : Nat)) ∧ Boxed X g30 3 (.int .i64 (ats pre : Nat)) ∧ Boxed X Bx 22 own ∧ Below g29 W' X ∧ W3.heap.size ≤ X.heap.size
/-- the third range has met what is no number -/
def TX (b : List UInt8) (c : Code) (pre : List NP) (W : World) : Prop := ∃ q x, pre = q ++ [x] ∧ ¬ (x.1.1 = aft (q.map Subtype.val) ∧ ∃ j, rd (b.drop (aft (q.map Subtype.val))) 0 0 = (x.1.2, j, 0))
theorem TI.own (W' W3 : World) (Bx g29 g30 : Nat) (own : Value) (b : List UInt8) (hw : g29 ≤ W3.heap.size) : OwnFrom W3.heap.size (TI W' W3 Bx g29 g30 own b) := by
  rintro pre X Y row ⟨e1, h1, h2, h3, h5, h6⟩ hg hr
  have hr' : ∀ r, row = some r → ∃ o : Obj, X.heap[r]? = some o ∧ o.isCells = false := fun r e => (hr r e).2
  exact ⟨e1, boxed_turn h1 hg hr', boxed_turn h2 hg hr', boxed_turn h3 hg hr', h5.grown hg (Nat.le_trans hw h6) (fun k e => Nat.le_trans hw (hr k e).1), Nat.le_trans h6 hg.size⟩

/-- out of the function, through all marks -/
theorem vl_leaves {w : World} {g4 n : Nat} {tmps : Array Value} (hres : ∀ W : World, W.cell? ⟨g4, 0, none⟩ = some (.bool true) → (results Try.f8 tmps).run Try.prog W = .ok (.bool true) W) (ds : List Deferred) (W : World) (hM : Marks w.heap.size ds W) (h4 : Boxed W g4 4 (.bool true)) (hB : Below w.heap.size w W) :
    LeavesInM Fence.wide n Try.prog Try.f8 tmps (fun e w' => e = .returned (.bool true) ∧ Below w.heap.size w w') ds .returning W :=
  leaves_marks (low := w.heap.size) (R0 := fun W => Boxed W g4 4 (.bool true) ∧ Below w.heap.size w W)
    (fun W D hD h h2 => ⟨h.1.kept (grownBy_putObj' W D _) (by
      intro e
      have hh : W.heap[g4]? = _ := h.1
      have e : D = g4 := by injection e with e; first | exact e | exact e.symm
      subst e
      rw [h2] at hh; cases hh), h.2.trans (belowK_b (w := w) (Nat.le_refl _) _ D _ _ hD h2 rfl rfl)⟩)
    (fun W h => ⟨.bool true, hres W h.1.cell, rfl, h.2⟩) ds W hM ⟨h4, hB⟩

/-- where the second range ends -/
def OF (most : Int) (N F : Nat) : Prop := (0 ≤ most ∧ most < N ∧ (F : Int) = most) ∨ (¬ (0 ≤ most ∧ most < N) ∧ F = N)

/-- a function's value is stored as every other value of one cell is -/
theorem run_store_fn (P : Program) (w : World) (p : Addr) (m : Mode) (f : Fn) (x y : Array Value) : (store p (.func f x y) m).run P w = stored P w p (.func f x y) m := run_store P w p _ m rfl
attribute [local go_sem] run_store_fn

/-- loop 2's range: between two rounds -/
def CI (W W2 : World) (g20 g23 Bx v cnt : Nat) (own : Value) (pre : List NP) (W' : World) : Prop :=
  pre.length ≤ cnt ∧ Boxed W' g20 26 (.int .u64 (v : Nat)) ∧ Boxed W' g23 3 (.int .i64 (pre.length : Nat)) ∧ Boxed W' Bx 22 own ∧ Below g20 W W' ∧ W2.heap.size ≤ W'.heap.size
/-- left at the place that was asked for; or something else stood there -/
def CX (W W2 : World) (g20 g23 kp v cnt : Nat) (c : Code) (pre : List NP) (W' : World) : Prop :=
  (c = .exit 4 ∧ Boxed W' g23 3 (.int .i64 (cnt : Nat)) ∧ Below g20 W W' ∧ W2.heap.size ≤ W'.heap.size) ∨ (c = .ret ∧ ∃ q x, pre = q ++ [x] ∧ q.length = cnt ∧ x.1 ≠ (kp, v))
theorem CI.own (W W2 : World) (g20 g23 Bx v cnt : Nat) (own : Value) (hw : g20 ≤ W2.heap.size) : OwnFrom W2.heap.size (CI W W2 g20 g23 Bx v cnt own) := by
  rintro pre X Y row ⟨e1, h1, h2, h3, h4, h5⟩ hg hr
  have hr' : ∀ r, row = some r → ∃ o : Obj, X.heap[r]? = some o ∧ o.isCells = false := fun r e => (hr r e).2
  exact ⟨e1, boxed_turn h1 hg hr', boxed_turn h2 hg hr', boxed_turn h3 hg hr', h4.grown hg (Nat.le_trans hw h5) (fun k e => Nat.le_trans hw (hr k e).1), Nat.le_trans h5 hg.size⟩
theorem CX.own (W W2 : World) (g20 g23 kp v cnt : Nat) (hw : g20 ≤ W2.heap.size) : ∀ c, OwnFrom W2.heap.size (CX W W2 g20 g23 kp v cnt c) := by
  rintro c pre X Y row (⟨e1, h2, h4, h5⟩ | h) hg hr
  · have hr' : ∀ r, row = some r → ∃ o : Obj, X.heap[r]? = some o ∧ o.isCells = false := fun r e => (hr r e).2
    exact .inl ⟨e1, boxed_turn h2 hg hr', h4.grown hg (Nat.le_trans hw h5) (fun k e => Nat.le_trans hw (hr k e).1), Nat.le_trans h5 hg.size⟩
  · exact .inr h
/-- A LOOP LEFT BY ITS BREAK: its ways out meet. -/
theorem loop_cut {F : Fence} {n : Nat} {P : Program} {c : Code} {K : Act → World → Prop} {Q' : Exit → Act → World → Prop} {a : Act} {w : World} {id : Nat} (R : Act → World → Prop) (rest : ∀ a' W, R a' W → K a' W)
    (first : ∀ J : Act → World → Prop, (∀ a' W, R a' W → J a' W) → (Code.loop c).wpIn F n P (fun e a' W => e = .exit id ∧ J a' W) a w) : (Code.loop c).wpIn F n P (Exit.inBlock id (Exit.then K Q')) a w := by
  refine wpIn_mono (first R fun _ _ q => q) ?_
  rintro e a' W ⟨rfl, h⟩
  simp only [Exit.inBlock, if_true, beq_self_eq_true]
  exact rest _ _ h

/-- A RANGE LEFT AT ITS END OR BY A BREAK: both ways meet. -/
theorem range_cut {F : Fence} {n : Nat} {P : Program} {c : Code} {K : Act → World → Prop} {Q' : Exit → Act → World → Prop} {t : Array Value} {ds0 : List Deferred} {w : World} {id : Nat} (R : List Deferred → World → Prop) (rest : ∀ ds W, R ds W → K { tmps := t, defers := ds } W)
    (first : ∀ J : List Deferred → World → Prop, (∀ ds W, R ds W → J ds W) → c.wpIn F n P (fun e a' W => (e = .normal ∨ e = .exit id) ∧ a'.tmps = t ∧ J a'.defers W) { tmps := t, defers := ds0 } w) : c.wpIn F n P (Exit.inBlock id (Exit.then K Q')) { tmps := t, defers := ds0 } w := by
  refine wpIn_mono (first R fun _ _ q => q) ?_
  rintro e ⟨t', ds⟩ W ⟨h, rfl, hr⟩
  rcases h with rfl | rfl
  · simp only [Exit.inBlock]
    exact rest _ _ hr
  · simp only [Exit.inBlock, if_true, beq_self_eq_true]
    exact rest _ _ hr

set_option maxRecDepth 100000 in
set_option maxHeartbeats 4000000 in
theorem vintLists_walk (a : Option Addr) (n c : Nat) (b : List UInt8) (most : Int) (w : World) (hn : n ≤ 140737488351232) (hm : (nums b).length ≤ 17592186043904) (h : Sl Bf w a n c b) :
    Calls Try.prog 8 #[.slice a n c, .int .i64 most] w fun e w' => e = .returned (.bool true) ∧ Below w.heap.size w w' := by
  obtain rfl : n = b.length := h.len.symm
  have H := Lib.hid h; clear h
  refine (callsIn_wide (n := 6)).1 ?_
  refine callsIn_of_wp_marks Try.func8 rfl trivial ?_ rfl
  simp only [Try.ntmps8, List.size_toArray, List.length_cons, List.length_nil, Nat.reduceAdd, Nat.reduceSub, Array.replicate_succ, Array.replicate_zero, List.push_toArray, List.append_toArray, List.nil_append, List.cons_append]
  gi_wp2
  refine ⟨trivial, ?_⟩
  have b2 := ((Boxed.new w 22 (.slice a b.length c)).alloc (.cells #[.int .i64 most] 3)).alloc (.cells #[.bool false] 4)
  have b3 := (Boxed.new (w.alloc (.cells #[.slice a b.length c] 22)) 3 (.int .i64 most)).alloc (.cells #[.bool false] 4)
  have b4 := Boxed.new ((w.alloc (.cells #[.slice a b.length c] 22)).alloc (.cells #[.int .i64 most] 3)) 4 (.bool false)
  rw [World.size_alloc] at b3
  rw [World.size_alloc, World.size_alloc] at b4
  have hB0 : Below w.heap.size w (((w.alloc (.cells #[.slice a b.length c] 22)).alloc (.cells #[.int .i64 most] 3)).alloc (.cells #[.bool false] 4)) := (((Below.refl _ w).alloc (Nat.le_refl _) _).alloc (by simp) _).alloc (by simp; omega) _
  obtain ⟨g2, hg2⟩ : ∃ B, w.heap.size = B := ⟨_, rfl⟩
  obtain ⟨g3, hg3⟩ : ∃ B, w.heap.size + 1 = B := ⟨_, rfl⟩
  obtain ⟨g4, hg4⟩ : ∃ B, w.heap.size + 1 + 1 = B := ⟨_, rfl⟩
  have q2 : w.heap.size ≤ g2 := by omega
  have q3 : g2 < g3 := by omega
  have q4 : g3 < g4 := by omega
  rw [hg4] at b4 ⊢
  rw [hg3] at b3 ⊢
  rw [hg2] at b2 ⊢
  generalize ((w.alloc (.cells #[.slice a b.length c] 22)).alloc (.cells #[.int .i64 most] 3)).alloc (.cells #[.bool false] 4) = w1 at *
  clear hg2 hg3 hg4
  refine (callsIn_wide.2 (lives_any _)).mono ?_
  rintro e w2 ⟨rfl, hb2⟩
  have X2 : Hid (Boxed w2 g2 22 (.slice a b.length c)) := Lib.hid ((hb2.block g2 b2.lt).trans b2)
  have X3 : Hid (Boxed w2 g3 3 (.int .i64 most)) := Lib.hid ((hb2.block g3 b3.lt).trans b3)
  have X4 : Hid (Boxed w2 g4 4 (.bool false)) := Lib.hid ((hb2.block g4 b4.lt).trans b4)
  have G := Lib.hid (keep_trans hB0 hb2)
  clear hb2 hB0 b2 b3 b4
  have c2 := X2.out.cell
  gi_wp2
  refine ⟨trivial, ?_⟩
  refine (callsIn_wide.2 (lent_any _ _ _ b _ hn (H.out.keep G.out))).mono ?_
  rintro e w3 ⟨go, rfl, hgo, hl3, hb3⟩
  have q5 : g4 < go := by have := X4.out.lt; omega
  have hlo := hl3.lt
  have L := Lib.hid hl3
  have q6 : go < w3.heap.size := hlo
  replace X2 : Hid (Boxed w3 g2 22 (.slice a b.length c)) := Lib.hid ((hb3.block g2 X2.out.lt).trans X2.out)
  replace X3 : Hid (Boxed w3 g3 3 (.int .i64 most)) := Lib.hid ((hb3.block g3 X3.out.lt).trans X3.out)
  replace X4 : Hid (Boxed w3 g4 4 (.bool false)) := Lib.hid ((hb3.block g4 X4.out.lt).trans X4.out)
  replace G := Lib.hid (keep_trans G.out hb3)
  clear hb3 hl3 c2 hgo
  gi_wp2
  refine ⟨trivial, ?_⟩
  refine (callsIn_wide.2 (vlist_any (some ⟨go, 0, none⟩) (b.length + 2) b w3 (by omega) (by omega) L.out.sl)).mono ?_
  rintro e w4 ⟨v, rfl, ho, hb4⟩
  obtain ⟨a7, n7, c7, rfl, z7⟩ := ho.slM
  obtain ⟨LS, hLS⟩ : ∃ LS, lst b = LS := ⟨_, rfl⟩
  have hLl := lst_len b
  rw [hLS] at z7 ho hLl ⊢
  obtain rfl : LS.1.length = n7 := z7.len
  have O7 := Lib.hid ho
  have R7 := Lib.hid ho.rowN
  have s34 := hb4.size
  replace X2 : Hid (Boxed w4 g2 22 (.slice a b.length c)) := Lib.hid ((hb4.block g2 X2.out.lt).trans X2.out)
  replace X3 : Hid (Boxed w4 g3 3 (.int .i64 most)) := Lib.hid ((hb4.block g3 X3.out.lt).trans X3.out)
  replace X4 : Hid (Boxed w4 g4 4 (.bool false)) := Lib.hid ((hb4.block g4 X4.out.lt).trans X4.out)
  replace G := Lib.hid (keep_trans G.out hb4)
  replace L := Lib.hid (L.out.keep hb4)
  clear hb4 ho z7
  gi_wp2
  refine ⟨trivial, ?_⟩
  refine (callsIn_wide.2 (vlist_any (some ⟨go, 0, none⟩) (b.length + 2) b w4 (by omega) (by omega) L.out.sl)).mono ?_
  rintro e w5 ⟨v, rfl, ho, hb5⟩
  obtain ⟨a10, n10, c10, rfl, z10⟩ := ho.slM
  rw [hLS] at z10 ho ⊢
  have q10 : LS.1.length = n10 := z10.len
  subst q10
  have O10 := Lib.hid ho
  have s45 := hb5.size
  replace X2 : Hid (Boxed w5 g2 22 (.slice a b.length c)) := Lib.hid ((hb5.block g2 X2.out.lt).trans X2.out)
  replace X3 : Hid (Boxed w5 g3 3 (.int .i64 most)) := Lib.hid ((hb5.block g3 X3.out.lt).trans X3.out)
  replace X4 : Hid (Boxed w5 g4 4 (.bool false)) := Lib.hid ((hb5.block g4 X4.out.lt).trans X4.out)
  replace G := Lib.hid (keep_trans G.out hb5)
  replace L := Lib.hid (L.out.keep hb5)
  replace O7 := Lib.hid (O7.out.keep hb5)
  clear hb5 ho z10
  have c2 := X2.out.cell
  gi_wp2
  refine ⟨trivial, ?_⟩
  refine (callsIn_wide.2 (vrlist_any a c b w5 hn (by omega) (H.out.keep G.out))).mono ?_
  rintro e w6 ⟨v, rfl, ho, hb6⟩
  obtain ⟨a13, n13, c13, rfl, z13⟩ := ho.slM
  rw [hLS] at z13 ho ⊢
  have q13 : LS.1.length = n13 := z13.len
  subst q13
  have O13 := Lib.hid ho
  replace X2 : Hid (Boxed w6 g2 22 (.slice a b.length c)) := Lib.hid ((hb6.block g2 X2.out.lt).trans X2.out)
  replace X3 : Hid (Boxed w6 g3 3 (.int .i64 most)) := Lib.hid ((hb6.block g3 X3.out.lt).trans X3.out)
  replace X4 : Hid (Boxed w6 g4 4 (.bool false)) := Lib.hid ((hb6.block g4 X4.out.lt).trans X4.out)
  replace G := Lib.hid (keep_trans G.out hb6)
  replace L := Lib.hid (L.out.keep hb6)
  replace O7 := Lib.hid (O7.out.keep hb6)
  replace O10 := Lib.hid (O10.out.keep hb6)
  clear hb6 ho z13 c2
  have S7 := Lib.hid O7.out.softN
  have z7 := Lib.hid O7.out.slP
  have z10 := Lib.hid O10.out.slP
  have z13 := Lib.hid O13.out.slP
  gi_wp2
  refine ⟨trivial, ?_⟩
  refine (callsIn_wide.2 (sameNum_any a7 _ c7 LS.1 a13 c13 w6 (by omega) z7.out z13.out)).mono ?_
  rintro e w7 ⟨rfl, hb7⟩
  replace X2 : Hid (Boxed w7 g2 22 (.slice a b.length c)) := Lib.hid ((hb7.block g2 X2.out.lt).trans X2.out)
  replace X3 : Hid (Boxed w7 g3 3 (.int .i64 most)) := Lib.hid ((hb7.block g3 X3.out.lt).trans X3.out)
  replace X4 : Hid (Boxed w7 g4 4 (.bool false)) := Lib.hid ((hb7.block g4 X4.out.lt).trans X4.out)
  replace G := Lib.hid (keep_trans G.out hb7)
  replace L := Lib.hid (L.out.keep hb7)
  replace O7 := Lib.hid (O7.out.keep hb7)
  replace O10 := Lib.hid (O10.out.keep hb7)
  replace O13 := Lib.hid (O13.out.keep hb7)
  replace S7 := Lib.hid O7.out.softN
  have hc7 := O7.out.capN
  clear hb7 z7 z10 z13
  have e1 : (LS.2.1 != LS.2.1) = false := by simp
  have e2 : ((LS.2.2 : Int) != (LS.2.2 : Int)) = false := by simp
  have cut := fun W : World => run_cutto eltN W a7 LS.1.length c7 .i64 c7 (Nat.le_refl _)
  gi_wp2
  gi_loopw [17] (fun i wr => ∃ k : Nat, k ≤ c7 ∧ i = .int .i64 k ∧ SoftN wr a7 c7 ∧ w7.grownBy wr (a7.map (·.block))) (fun i _ => c7 - (intOf i).toNat)
  case atStart => exact ⟨0, Nat.zero_le _, rfl, S7.out, World.grownBy.refl _ _⟩
  case round =>
    obtain ⟨k, hk, rfl, hs, hg⟩ := hrel
    have HS := Lib.hid hs; clear hs
    have HG := Lib.hid hg; clear hg
    by_cases hlt : k < c7
    · obtain ⟨x, bb, o, rfl, hc, hf⟩ := HS.out k hlt
      gi_wp2
      go_roundw
      case rel => exact ⟨k + 1, by omega, by go_num, HS.out.set _, grown_set HG.out ⟨bb, o + k, none⟩ rfl _⟩
      case measure => simp [intOf]; omega
    · have K7 : ∀ j, a7.map (·.block) = some j → w3.heap.size ≤ j ∧ j < w4.heap.size := fun j hj => R7.out j hj
      have hg := HG.out
      replace X2 : Hid (Boxed wr g2 22 (.slice a b.length c)) := Lib.hid (X2.out.kept hg (fun e => by have := K7 _ e.symm; omega))
      replace X3 : Hid (Boxed wr g3 3 (.int .i64 most)) := Lib.hid (X3.out.kept hg (fun e => by have := K7 _ e.symm; omega))
      replace X4 : Hid (Boxed wr g4 4 (.bool false)) := Lib.hid (X4.out.kept hg (fun e => by have := K7 _ e.symm; omega))
      replace L := Lib.hid (L.out.of_row hg (fun e => by have := K7 _ e.symm; omega))
      replace G := Lib.hid (G.out.grown hg G.out.size (fun j e => by have := K7 _ e; omega))
      replace O10 := Lib.hid (O10.out.row hg (fun j e => (K7 j e).2))
      replace O13 := Lib.hid (O13.out.row hg (fun j e => by have := (K7 j e).2; omega))
      have z10 := Lib.hid O10.out.slP
      have z13 := Lib.hid O13.out.slP
      clear hg HG HS K7 hk S7 O7 R7
      gi_wp2
      refine ⟨trivial, ?_⟩
      refine (callsIn_wide.2 (sameNum_any a10 _ c10 LS.1 a13 c13 wr (by omega) z10.out z13.out)).mono ?_
      rintro e w8 ⟨rfl, hb8⟩
      replace X2 : Hid (Boxed w8 g2 22 (.slice a b.length c)) := Lib.hid ((hb8.block g2 X2.out.lt).trans X2.out)
      replace X3 : Hid (Boxed w8 g3 3 (.int .i64 most)) := Lib.hid ((hb8.block g3 X3.out.lt).trans X3.out)
      replace X4 : Hid (Boxed w8 g4 4 (.bool false)) := Lib.hid ((hb8.block g4 X4.out.lt).trans X4.out)
      replace G := Lib.hid (keep_trans G.out hb8)
      replace L := Lib.hid (L.out.keep hb8)
      clear hb8 z10 z13 O10 O13 cut
      gi_wp2
      have b18 := (Boxed.new w8 3 (.int .i64 0)).alloc (.cells #[.int .i64 0] 3)
      have b19 := Boxed.new (w8.alloc (.cells #[.int .i64 0] 3)) 3 (.int .i64 0)
      rw [World.size_alloc] at b19
      have hB8 : Below w8.heap.size w8 ((w8.alloc (.cells #[.int .i64 0] 3)).alloc (.cells #[.int .i64 0] 3)) := ((Below.refl _ w8).alloc (Nat.le_refl _) _).alloc (by simp) _
      replace X2 : Hid (Boxed _ g2 22 (.slice a b.length c)) := Lib.hid ((hB8.block g2 X2.out.lt).trans X2.out)
      replace X3 : Hid (Boxed _ g3 3 (.int .i64 most)) := Lib.hid ((hB8.block g3 X3.out.lt).trans X3.out)
      have q18a := X4.out.lt
      have q18b := L.out.lt
      replace X4 : Hid (Boxed _ g4 4 (.bool false)) := Lib.hid ((hB8.block g4 X4.out.lt).trans X4.out)
      replace G := Lib.hid (keep_trans G.out hB8)
      replace L := Lib.hid (L.out.keep hB8)
      obtain ⟨g18, hg18⟩ : ∃ B, w8.heap.size = B := ⟨_, rfl⟩
      obtain ⟨g19, hg19⟩ : ∃ B, w8.heap.size + 1 = B := ⟨_, rfl⟩
      have q18 : g18 < g19 := by omega
      have q19 : go < g18 := by omega
      rw [hg19] at b19 ⊢
      rw [hg18] at b18 ⊢
      generalize (w8.alloc (.cells #[.int .i64 0] 3)).alloc (.cells #[.int .i64 0] 3) = W0 at *
      clear hg18 hg19 hB8 q18a q18b
      have X18 := Lib.hid b18; have X19 := Lib.hid b19; clear b18 b19
      refine loop_cut (fun a' W => ∃ (g19 : Nat) (u20 u21 u22 u23 u96 u97 u98 u99 u100 u101 u102 u103 u104 u105 u106 u107 u108 u109 u110 u111 u112 u131 u132 u133 u134 u135 u136 u137 u138 u139 : Value) (ds : List Deferred), a' = ({ tmps := #[Value.slice a b.length c, Value.int IntKind.i64 most, Value.pointer (some { block := g2, off := 0 }), Value.pointer (some { block := g3, off := 0 }), Value.pointer (some { block := g4, off := 0 }), Value.bool true, Value.slice (some { block := go, off := 0 }) b.length (b.length + 2), Value.slice a7 LS.fst.length c7, Value.int IntKind.i64 LS.snd.fst, Value.int IntKind.i64 (LS.snd.snd : Nat), Value.slice a10 LS.fst.length c10, Value.int IntKind.i64 LS.snd.fst, Value.int IntKind.i64 (LS.snd.snd : Nat), Value.slice a13 LS.fst.length c13, Value.int IntKind.i64 LS.snd.fst, Value.int IntKind.i64 (LS.snd.snd : Nat), Value.bool true, Value.int IntKind.i64 (k : Nat), Value.pointer (some { block := g18, off := 0 }), Value.pointer (some { block := g19, off := 0 }), u20, u21, u22, u23, undef, undef, undef, undef, undef, undef, undef, undef, undef, undef, undef, undef, undef, undef, undef, Value.bool true, Value.slice a b.length c, Value.slice (some { block := go, off := 0 }) b.length (b.length + 2), Value.tuple #[Value.slice a7 LS.fst.length c7, Value.int IntKind.i64 LS.snd.fst, Value.int IntKind.i64 (LS.snd.snd : Nat)], Value.slice (some { block := go, off := 0 }) b.length (b.length + 2), Value.tuple #[Value.slice a7 LS.fst.length c7, Value.int IntKind.i64 LS.snd.fst, Value.int IntKind.i64 (LS.snd.snd : Nat)], Value.slice a7 LS.fst.length c7, Value.int IntKind.i64 LS.snd.fst, Value.int IntKind.i64 (LS.snd.snd : Nat), Value.tuple #[Value.slice a10 LS.fst.length c10, Value.int IntKind.i64 LS.snd.fst, Value.int IntKind.i64 (LS.snd.snd : Nat)], Value.slice (some { block := go, off := 0 }) b.length (b.length + 2), Value.tuple #[Value.slice a10 LS.fst.length c10, Value.int IntKind.i64 LS.snd.fst, Value.int IntKind.i64 (LS.snd.snd : Nat)], Value.slice a10 LS.fst.length c10, Value.int IntKind.i64 LS.snd.fst, Value.int IntKind.i64 (LS.snd.snd : Nat), Value.tuple #[Value.slice a13 LS.fst.length c13, Value.int IntKind.i64 LS.snd.fst, Value.int IntKind.i64 (LS.snd.snd : Nat)], Value.slice a b.length c, Value.tuple #[Value.slice a13 LS.fst.length c13, Value.int IntKind.i64 LS.snd.fst, Value.int IntKind.i64 (LS.snd.snd : Nat)], Value.slice a13 LS.fst.length c13, Value.int IntKind.i64 LS.snd.fst, Value.int IntKind.i64 (LS.snd.snd : Nat), Value.slice a7 LS.fst.length c7, Value.slice a13 LS.fst.length c13, Value.bool true, Value.bool true, Value.bool false, Value.bool false, Value.bool true, Value.bool false, Value.bool false, Value.bool false, Value.int IntKind.i64 LS.snd.fst, Value.int IntKind.i64 LS.snd.fst, Value.bool false, Value.bool false, Value.bool false, Value.int IntKind.i64 (LS.snd.snd : Nat), Value.int IntKind.i64 (LS.snd.snd : Nat), Value.bool false, Value.bool false, Value.int IntKind.i64 (k : Nat), Value.slice a7 LS.fst.length c7, Value.int IntKind.i64 (c7 : Nat), Value.bool false, u83, u84, u85, u86, u87, u88, u89, u90, Value.slice a10 LS.fst.length c10, Value.slice a13 LS.fst.length c13, Value.bool true, Value.bool true, Value.bool false, u96, u97, u98, u99, u100, u101, u102, u103, u104, u105, u106, u107, u108, u109, u110, u111, u112, undef, undef, undef, undef, undef, undef, undef, undef, undef, undef, undef, undef, undef, undef, undef, undef, undef, undef, u131, u132, u133, u134, u135, u136, u137, u138, u139, undef, undef, undef, undef, undef, undef, undef, undef, undef, undef, undef, undef, undef, undef, undef, undef, undef, undef, undef, undef, undef, undef, undef, undef, undef, undef, undef, undef, undef, undef, undef, undef, undef, undef, undef, undef, undef, undef, undef, undef, undef, undef, undef, undef, undef, undef, undef, undef, undef, undef, undef, undef, undef, undef, undef, undef, undef, undef, undef, undef, undef, undef, undef, undef, undef, undef, undef, undef, undef, undef, undef, undef, undef, undef, undef, undef, undef, undef, undef, undef, undef, undef, undef, undef, undef, undef, undef, undef, undef, undef, undef, undef, undef, undef, undef, undef, undef], defers := ds } : Act) ∧ Boxed W g2 22 (.slice a b.length c) ∧ Boxed W g3 3 (.int .i64 most) ∧ Boxed W g4 4 (.bool false) ∧ Below w.heap.size w W ∧ Lent W go b ∧ Marks w.heap.size ds W) ?_ ?_
      · -- what stands behind the loop
        rintro a' W ⟨g19, u20, u21, u22, u23, u96, u97, u98, u99, u100, u101, u102, u103, u104, u105, u106, u107, u108, u109, u110, u111, u112, u131, u132, u133, u134, u135, u136, u137, u138, u139, ds, rfl, h2, h3, h4, hB, hL, hM⟩
        have X2 := Lib.hid h2; have X3 := Lib.hid h3; have X4 := Lib.hid h4; have B := Lib.hid hB; have L := Lib.hid hL; have M := Lib.hid hM
        clear h2 h3 h4 hB hL hM X18 X19 G
        gi_wp2
        refine ⟨trivial, ?_⟩
        refine (callsIn_wide.2 (all_in _ _ _ _)).mono ?_
        rintro e2 w' ⟨rfl, rfl⟩
        gi_wp2
        have bX := (((Boxed.new W 22 (.slice (some ⟨go, 0, none⟩) b.length (b.length + 2))).alloc (.cells #[.func (.func 34) #[] #[.pointer (some ⟨W.heap.size, 0, none⟩)]] 57)).alloc (.cells #[.int .i64 0] 3)).alloc (.cells #[.int .i64 0] 3)
        have b26 := ((Boxed.new (W.alloc (.cells #[.slice (some ⟨go, 0, none⟩) b.length (b.length + 2)] 22)) 57 (.func (.func 34) #[] #[.pointer (some ⟨W.heap.size, 0, none⟩)])).alloc (.cells #[.int .i64 0] 3)).alloc (.cells #[.int .i64 0] 3)
        have b27 := (Boxed.new ((W.alloc (.cells #[.slice (some ⟨go, 0, none⟩) b.length (b.length + 2)] 22)).alloc (.cells #[.func (.func 34) #[] #[.pointer (some ⟨W.heap.size, 0, none⟩)]] 57)) 3 (.int .i64 0)).alloc (.cells #[.int .i64 0] 3)
        have b28 := Boxed.new (((W.alloc (.cells #[.slice (some ⟨go, 0, none⟩) b.length (b.length + 2)] 22)).alloc (.cells #[.func (.func 34) #[] #[.pointer (some ⟨W.heap.size, 0, none⟩)]] 57)).alloc (.cells #[.int .i64 0] 3)) 3 (.int .i64 0)
        have hBW : Below W.heap.size W ((((W.alloc (.cells #[.slice (some ⟨go, 0, none⟩) b.length (b.length + 2)] 22)).alloc (.cells #[.func (.func 34) #[] #[.pointer (some ⟨W.heap.size, 0, none⟩)]] 57)).alloc (.cells #[.int .i64 0] 3)).alloc (.cells #[.int .i64 0] 3)) := ((((Below.refl _ W).alloc (Nat.le_refl _) _).alloc (by simp) _).alloc (by simp; omega) _).alloc (by simp; omega) _
        rw [World.size_alloc] at b26
        rw [World.size_alloc, World.size_alloc] at b27
        rw [World.size_alloc, World.size_alloc, World.size_alloc] at b28
        obtain ⟨Bx, hBx⟩ : ∃ B, W.heap.size = B := ⟨_, rfl⟩
        obtain ⟨g26, hg26⟩ : ∃ B, W.heap.size + 1 = B := ⟨_, rfl⟩
        obtain ⟨g27, hg27⟩ : ∃ B, W.heap.size + 1 + 1 = B := ⟨_, rfl⟩
        obtain ⟨g28, hg28⟩ : ∃ B, W.heap.size + 1 + 1 + 1 = B := ⟨_, rfl⟩
        have hBx0 := Lib.hid hBx
        have q26 : Bx < g26 := by omega
        have q27 : g26 < g27 := by omega
        have q28 : g27 < g28 := by omega
        have sB := B.out.size
        have l4 := X4.out.lt
        have lgo := L.out.lt
        rw [hg28] at b28 ⊢
        rw [hg27] at b27 ⊢
        rw [hg26] at b26 ⊢
        rw [hBx] at bX b26 b27 b28 hBW sB l4 lgo ⊢
        generalize hW0 : (((W.alloc (.cells #[.slice (some ⟨go, 0, none⟩) b.length (b.length + 2)] 22)).alloc (.cells #[.func (.func 34) #[] #[.pointer (some ⟨Bx, 0, none⟩)]] 57)).alloc (.cells #[.int .i64 0] 3)).alloc (.cells #[.int .i64 0] 3) = W0 at *
        clear hW0 hg26 hg27 hg28
        have lW0 : Bx ≤ W0.heap.size := by have := hBW.size; omega
        have LW : Lent W0 go b := (hBW.block go lgo).trans L.out
        have lX := bX.lt
        obtain ⟨N, hN⟩ : ∃ N, (nums b).length = N := ⟨_, rfl⟩
        have HN := Lib.hid hN
        have y3 : ∀ W', Below Bx W W' → Boxed W' g3 3 (.int .i64 most) := fun W' h => (h.block g3 (by omega)).trans X3.out
        have Q3 := Lib.hid y3; clear y3
        refine range_cut (fun ds' W' => ∃ F : Nat, OF most N F ∧ Boxed W' g26 57 (.func (.func 34) #[] #[.pointer (some ⟨Bx, 0, none⟩)]) ∧ Boxed W' Bx 22 (.slice (some ⟨go, 0, none⟩) b.length (b.length + 2)) ∧ Boxed W' g27 3 (.int .i64 (F : Nat)) ∧ Boxed W' g28 3 (.int .i64 (if F = 0 then 0 else N : Nat)) ∧ Below Bx W W' ∧ Marks w.heap.size ds' W') ?_ ?_
        · -- behind the second range
          rintro ds' W' ⟨F, hF, h26, hX, h27, h28, hb, hM⟩
          have c26 := h26.cell
          have sW' := hb.size
          rw [hBx0.out] at sW'
          have I26 := Lib.hid h26; have IX := Lib.hid hX; have I27 := Lib.hid h27; have I28 := Lib.hid h28; have IB := Lib.hid hb; have IM := Lib.hid hM; have HF := Lib.hid hF
          clear h26 hX h27 h28 hb hM hF bX b26 b27 b28 hBW LW M
          have c26b := ((I26.out.alloc (.cells #[.int .i64 0] 3)).alloc (.cells #[.int .i64 0] 3)).cell
          clear c26
          gi_wp2
          have b29 := (Boxed.new W' 3 (.int .i64 0)).alloc (.cells #[.int .i64 0] 3)
          have b30 := Boxed.new (W'.alloc (.cells #[.int .i64 0] 3)) 3 (.int .i64 0)
          have hB3 : Below W'.heap.size W' ((W'.alloc (.cells #[.int .i64 0] 3)).alloc (.cells #[.int .i64 0] 3)) := ((Below.refl _ W').alloc (Nat.le_refl _) _).alloc (by simp) _
          rw [World.size_alloc] at b30
          obtain ⟨g29, hg29⟩ : ∃ B, W'.heap.size = B := ⟨_, rfl⟩
          obtain ⟨g30, hg30⟩ : ∃ B, W'.heap.size + 1 = B := ⟨_, rfl⟩
          have q29 : g29 < g30 := by omega
          have l28 := I28.out.lt
          have G29 := Lib.hid hg29
          rw [hg29] at l28
          rw [hg30] at b30 ⊢
          rw [hg29] at b29 hB3 sW' ⊢
          generalize hW3 : (W'.alloc (.cells #[.int .i64 0] 3)).alloc (.cells #[.int .i64 0] 3) = W3 at *
          clear hW3 hg29 hg30
          have bX := (hB3.block Bx (by omega)).trans IX.out
          have lW3 : g29 ≤ W3.heap.size := by have := b29.lt; omega
          have lX3 : Bx < W3.heap.size := by omega
          have LW := Lib.hid (fun (X : World) (h : Below g29 W' X) => (show Lent X go b from (h.block go (by omega)).trans ((IB.out.block go lgo).trans L.out)))
          have Y2 := Lib.hid (fun (X : World) (h : Below g29 W' X) => (show Boxed X g2 22 (.slice a b.length c) from (h.block g2 (by omega)).trans ((IB.out.block g2 (by omega)).trans X2.out)))
          have Y3 := Lib.hid (fun (X : World) (h : Below g29 W' X) => (show Boxed X g3 3 (.int .i64 most) from (h.block g3 (by omega)).trans ((IB.out.block g3 (by omega)).trans X3.out)))
          have Y4 := Lib.hid (fun (X : World) (h : Below g29 W' X) => (show Boxed X g4 4 (.bool false) from (h.block g4 (by omega)).trans ((IB.out.block g4 (by omega)).trans X4.out)))
          have YB := Lib.hid (fun (X : World) (h : Below g29 W' X) => (show Below w.heap.size w X from B.out.trans ((IB.out.mono sB).trans (h.mono (by omega)))))
          clear c26b
          apply range_own (F := Fence.wide) (n := 6) rfl (by omega) (gf := 34) (lb := #[.pointer (some ⟨Bx, 0, none⟩)]) rfl trivial (enters_of Try.func34 (by kernel_rfl) rfl)
            (all_stops_n 5 Bx g29 (some ⟨go, 0, none⟩) (b.length + 2) b (by omega) W3 bX (LW.out W3 hB3).sl (fun b' o ha h0 => by cases ha; omega) lW3) (fun h k => Kb.t h k) (Kb.b lW3 lX3) Kb.r (fun _ => rfl)
            (TI W' W3 Bx g29 g30 (.slice (some ⟨go, 0, none⟩) b.length (b.length + 2)) b) (TX b)
          case hassign =>
            intro l x W K hK
            gi_wp2
            exact hK
          case hI => exact TI.own _ _ _ _ _ _ _ lW3
          case hIx => exact fun _ _ _ _ _ hs _ _ => hs
          case h0 => exact ⟨Nat.zero_le _, b29, b30, bX, hB3, Nat.le_refl _⟩
          case hstop =>
            rintro D c pre X _ hSp ⟨q, x, rfl, hne⟩ _
            rw [List.map_append] at hSp
            exact absurd (nums_at hSp) hne
          case hbody =>
            rintro lo pre x X _ _ ⟨e1, t1, t2, t3, t4, t5⟩ hlt
            obtain ⟨fr, hfr⟩ : ∃ fr, ats pre = fr := ⟨_, rfl⟩
            obtain ⟨k, hkk⟩ : ∃ k, pre.length = k := ⟨_, rfl⟩
            rw [hfr] at t2 e1
            rw [hkk] at t1 hlt
            have hk64 : k ≤ 17592186043904 := by omega
            have c29 := t1.cell
            have f29 := t1.frozen
            have c30 := t2.cell
            have f30 := t2.frozen
            have c2 := (Y2.out X t4).cell
            have c4 := (Y4.out X t4).cell
            have f4 := (Y4.out X t4).frozen
            have hv := rread_any a b.length c b fr X (by omega) e1 (H.out.keep (YB.out X t4))
            obtain ⟨⟨v, j, e⟩, hr⟩ : ∃ R, rd (b.drop fr) 0 0 = R := ⟨_, rfl⟩
            rw [hr] at hv
            dsimp only at hv
            have HV := Lib.hid hv; clear hv
            have noway : ∀ W2, W2 = X.setCell ⟨g4, 0, none⟩ (.bool false) → ¬ (x.1.1 = fr ∧ ∃ j, rd (b.drop fr) 0 0 = (x.1.2, j, 0)) → KeepsFrom W3.heap.size X W2 ∧ TX b .ret (pre ++ [x]) W2 := by
              rintro W2 rfl hne
              exact ⟨(KeepsOthers.setCell _ _ _).from _, pre, x, rfl, by unfold ats at hfr; rw [hfr]; exact hne⟩
            have NW := Lib.hid noway; clear noway
            have T1 := Lib.hid t1; have T2 := Lib.hid t2; have T3 := Lib.hid t3; have T4 := Lib.hid t4; have FR := Lib.hid hfr; have KK := Lib.hid hkk
            have qx := x.2.1
            clear t1 t2 t3 t4 hfr hkk hlt b29 b30 hB3 bX
            by_cases hp : x.1.1 = fr
            · have p1 : ((x.1.1 : Int) != (fr : Int)) = false := by rw [hp]; simp
              have p2 : (x.1.1 != fr) = false := by rw [hp]; simp
              by_cases he : e = 0
              · subst he
                have f1 : ((0 : Int) != 0) = false := rfl
                by_cases hxv : x.1.2 = v
                · have v1 : ((x.1.2 : Int) != (v : Int)) = false := by rw [hxv]; simp
                  have v2 : (x.1.2 != v) = false := by rw [hxv]; simp
                  obtain ⟨j1, _, j3⟩ := rd_vbs hr
                  rw [List.length_drop] at j1
                  obtain ⟨q, hq⟩ : ∃ q, fr + j = q := ⟨_, rfl⟩
                  rw [hq] at HV
                  have hqb : q ≤ b.length := by omega
                  have hxe : x.1.1 + (vb x.1.2).length = q := by rw [hp, hxv, ← j3]; exact hq
                  have QE := Lib.hid hxe
                  have u29 := (T1.out.other (by omega : g29 ≠ g30) (.int .i64 (q : Int))).cell
                  have uf29 := (T1.out.other (by omega : g29 ≠ g30) (.int .i64 (q : Int))).frozen
                  clear hp hxv j1 j3 hq hxe hr NW
                  gi_wp2
                  refine ⟨trivial, ?_⟩
                  refine (CallsIn.inRound lo (callsIn_wide.2 HV.out)).mono ?_
                  rintro e2 w2 ⟨rfl, rfl⟩
                  gi_wp2
                  refine ⟨((KeepsOthers.setCell _ _ _).from _).trans ((KeepsOthers.setCell _ _ _).from _), ⟨((Below.refl g29 X).setCell (p := ⟨g30, 0, none⟩) (by show g29 ≤ g30; omega) _).setCell (p := ⟨g29, 0, none⟩) (Nat.le_refl _) _, fun o ho => ?_⟩, ?_, ?_, ?_, (T3.out.other (by omega) _).other (by omega) _, (T4.out.setCell (p := ⟨g30, 0, none⟩) (by show g29 ≤ g30; omega) _).setCell (p := ⟨g29, 0, none⟩) (Nat.le_refl _) _, by simpa using t5⟩
                  · have h1 : X.heap[Bx]? = _ := T3.out
                    have h2 := (T3.out.other (by omega : Bx ≠ g30) (.int .i64 (q : Int))).other (by omega : Bx ≠ g29) (.int .i64 ((k : Int) + 1))
                    rw [h1] at ho
                    exact (show _ = _ from h2).trans ho
                  · rw [ats_snoc, QE.out]; exact hqb
                  · rw [List.length_append, KK.out]
                    exact (T1.out.other (by omega : g29 ≠ g30) (.int .i64 (q : Int))).set (.int .i64 ((k : Int) + 1))
                  · rw [ats_snoc, QE.out]
                    exact (T2.out.set (.int .i64 (q : Int))).other (by omega) _
                · have v1 : ((x.1.2 : Int) != (v : Int)) = true := by rw [bne_iff_ne]; omega
                  have v2 : (x.1.2 != v) = true := by rw [bne_iff_ne]; exact hxv
                  have nw := NW.out _ rfl (fun h => hxv (by obtain ⟨_, j2, h2⟩ := h; rw [hr] at h2; exact (Prod.mk.inj h2).1.symm))
                  have NW2 := Lib.hid nw; clear nw hp hxv hr NW
                  gi_wp2
                  refine ⟨trivial, ?_⟩
                  refine (CallsIn.inRound lo (callsIn_wide.2 HV.out)).mono ?_
                  rintro e2 w2 ⟨rfl, rfl⟩
                  gi_wp2
                  exact NW2.out
              · have f1 : (e != 0) = true := by rw [bne_iff_ne]; exact he
                have nw := NW.out _ rfl (fun h => he (by obtain ⟨_, j2, h2⟩ := h; rw [hr] at h2; exact (Prod.mk.inj (Prod.mk.inj h2).2).2))
                have NW2 := Lib.hid nw; clear nw hp he hr NW
                gi_wp2
                refine ⟨trivial, ?_⟩
                refine (CallsIn.inRound lo (callsIn_wide.2 HV.out)).mono ?_
                rintro e2 w2 ⟨rfl, rfl⟩
                gi_wp2
                exact NW2.out
            · have p1 : ((x.1.1 : Int) != (fr : Int)) = true := by rw [bne_iff_ne]; omega
              have p2 : (x.1.1 != fr) = true := by rw [bne_iff_ne]; exact hp
              have nw := NW.out _ rfl (fun h => hp h.1)
              have NW2 := Lib.hid nw; clear nw hp hr NW
              gi_wp2
              refine ⟨trivial, ?_⟩
              refine (CallsIn.inRound lo (callsIn_wide.2 HV.out)).mono ?_
              rintro e2 w2 ⟨rfl, rfl⟩
              gi_wp2
              exact NW2.out
          case hdone =>
            rintro D ys X hD hys ⟨e1, t1, t2, t3, t4, t5⟩ hKD
            have hyl : ys.length = N := by rw [← HN.out, ← hys, List.length_map]
            have hya : ats ys = aft (nums b) := by unfold ats; rw [hys]
            rw [hyl] at t1
            rw [hya] at t2 e1
            have M3 := Lib.hid ((IM.out.keep (W' := X) fun D h1 h2 => (t4.block D (by have := (Array.getElem?_eq_some_iff.1 h2).1; have := G29.out; omega)).trans h2).more (D := D) (by have := B.out.size; omega) hKD (IM.out.new (Nat.le_of_eq G29.out) (by omega)))
            obtain ⟨fa, hfa, hend⟩ := nums_left b
            have hne : (rd (b.drop (aft (nums b))) 0 0).2.2 ≠ 0 := by
              rcases hend with h | h
              · rw [h, List.drop_length]; decide
              · exact h.2
            obtain ⟨z, hz⟩ : ∃ z, aft (nums b) = z := ⟨_, rfl⟩
            rw [hz] at t2 hne e1
            have hv := rread_any a b.length c b z X (by omega) e1 (H.out.keep (YB.out X t4))
            obtain ⟨⟨v, j, e⟩, hr⟩ : ∃ R, rd (b.drop z) 0 0 = R := ⟨_, rfl⟩
            rw [hr] at hv hne
            dsimp only at hv hne
            have HV := Lib.hid hv
            have f1 : (e != 0) = true := by rw [bne_iff_ne]; exact hne
            have hk2 := kept_any go b.length a c b X hn (LW.out X t4) (H.out.keep (YB.out X t4))
            have HK2 := Lib.hid hk2
            have c2 := (Y2.out X t4).cell
            have c30 := t2.cell
            have l29 := t1.lt
            have l30 := t2.lt
            have T1 := Lib.hid t1; have T4 := Lib.hid t4
            clear hk2 hv hr hne hz hend hfa fa hya hyl hys t1 t2 t3 t4 hKD e1 b29 b30 hB3 bX
            have s28 := I28.out.lt
            gi_wp2
            refine ⟨trivial, ?_⟩
            refine (callsIn_wide.2 HV.out).mono ?_
            rintro e2 w2 ⟨rfl, rfl⟩
            gi_wp2
            refine ⟨trivial, ?_⟩
            refine (callsIn_wide.2 HK2.out).mono ?_
            rintro e2 X2 ⟨rfl, hb2⟩
            have hT : Below g29 W' X2 := T4.out.trans (hb2.mono (by omega))
            have w3 := (Y3.out X2 hT)
            have w4 := (Y4.out X2 hT)
            have w27 : Boxed X2 g27 3 (.int .i64 (F : Nat)) := (hT.block g27 (by omega)).trans I27.out
            have w28 : Boxed X2 g28 3 (.int .i64 (if F = 0 then 0 else N : Nat)) := (hT.block g28 (by omega)).trans I28.out
            have w29 : Boxed X2 g29 3 (.int .i64 (N : Nat)) := (hb2.block g29 (by omega)).trans T1.out
            have M4 := Lib.hid ((M3.out.below hb2).setCell (p := ⟨g4, 0, none⟩) (v := .bool true) w4.cell)
            have V4 := Lib.hid (w4.set (.bool true))
            have VB := Lib.hid ((YB.out X2 hT).setCell (p := ⟨g4, 0, none⟩) (by show w.heap.size ≤ g4; omega) (.bool true))
            have d3 := w3.cell; have d4 := w4.cell; have e4 := w4.frozen; have d27 := w27.cell; have d28 := w28.cell; have d29 := w29.cell
            clear hb2 hT w3 w4 w27 w28 w29 M3 T1 T4 HK2 HV
            rcases HF.out with ⟨hm0, hmN, hFm⟩ | ⟨hno, hFN⟩
            · obtain rfl : most = (F : Int) := hFm.symm
              have k1 : ((F : Int) ≥ 0) := by omega
              have k2 : decide (F < N) = true := decide_eq_true (by omega)
              have k3 : ((F : Int) == (F : Int)) = true := by simp
              by_cases hF0 : F = 0
              · subst hF0
                clear hm0 hmN hFm
                gi_wp2
                exact vl_leaves (w := w) (g4 := g4) (fun W hc => by simp [results, Try.results8, hc, go_sem]) _ _ M4.out V4.out VB.out
              · rw [if_neg hF0] at d28
                have k4 : (F == 0) = false := by rw [beq_eq_false_iff_ne]; exact hF0
                have k5 : ((F : Int) == 0) = false := by rw [beq_eq_false_iff_ne]; omega
                clear hm0 hmN hFm hF0
                gi_wp2
                exact vl_leaves (w := w) (g4 := g4) (fun W hc => by simp [results, Try.results8, hc, go_sem]) _ _ M4.out V4.out VB.out
            · subst hFN
              by_cases hm0 : most < 0
              · have k1 : ¬ (most ≥ 0) := by omega
                have k2 : decide (0 ≤ most) = false := decide_eq_false (by omega)
                by_cases hF0 : F = 0
                · subst hF0
                  clear hm0 hno
                  gi_wp2
                  exact vl_leaves (w := w) (g4 := g4) (fun W hc => by simp [results, Try.results8, hc, go_sem]) _ _ M4.out V4.out VB.out
                · rw [if_neg hF0] at d28
                  have k4 : (F == 0) = false := by rw [beq_eq_false_iff_ne]; exact hF0
                  have k5 : ((F : Int) == 0) = false := by rw [beq_eq_false_iff_ne]; omega
                  clear hm0 hno hF0
                  gi_wp2
                  exact vl_leaves (w := w) (g4 := g4) (fun W hc => by simp [results, Try.results8, hc, go_sem]) _ _ M4.out V4.out VB.out
              · obtain ⟨mo, rfl⟩ : ∃ mo : Nat, most = mo := ⟨most.toNat, by omega⟩
                have k1 : ((mo : Int) ≥ 0) := by omega
                have k2 : decide (mo < F) = false := decide_eq_false (by omega)
                by_cases hF0 : F = 0
                · subst hF0
                  clear hm0 hno
                  gi_wp2
                  exact vl_leaves (w := w) (g4 := g4) (fun W hc => by simp [results, Try.results8, hc, go_sem]) _ _ M4.out V4.out VB.out
                · rw [if_neg hF0] at d28
                  have k4 : (F == 0) = false := by rw [beq_eq_false_iff_ne]; exact hF0
                  have k5 : ((F : Int) == 0) = false := by rw [beq_eq_false_iff_ne]; omega
                  clear hm0 hno hF0
                  gi_wp2
                  exact vl_leaves (w := w) (g4 := g4) (fun W hc => by simp [results, Try.results8, hc, go_sem]) _ _ M4.out V4.out VB.out
        · intro JR hJR
          have JRR := Lib.hid hJR; clear hJR
          apply range_own (F := Fence.wide) (n := 6) rfl (by omega) (gf := 34) (lb := #[.pointer (some ⟨Bx, 0, none⟩)]) rfl trivial (enters_of Try.func34 (by kernel_rfl) rfl)
            (all_stops_n 5 Bx Bx (some ⟨go, 0, none⟩) (b.length + 2) b (by omega) W0 bX LW.sl (fun b' o ha h0 => by cases ha; exact lgo) lW0) (fun h k => Kb.t h k) (Kb.b lW0 lX) Kb.r (fun _ => rfl)
            (OI W W0 Bx g26 g27 g28 (.slice (some ⟨go, 0, none⟩) b.length (b.length + 2)) (.func (.func 34) #[] #[.pointer (some ⟨Bx, 0, none⟩)]) most N) (OX W W0 Bx g26 g27 g28 (.slice (some ⟨go, 0, none⟩) b.length (b.length + 2)) (.func (.func 34) #[] #[.pointer (some ⟨Bx, 0, none⟩)]) most N)
          case hassign =>
            intro l x W K hK
            gi_wp2
            exact hK
          case hI => exact OI.own _ _ _ _ _ _ _ _ _ _ lW0
          case hIx => exact OX.own _ _ _ _ _ _ _ _ _ _ lW0
          case h0 => exact ⟨fun h => h, bX, b26, b27, b28, hBW, Nat.le_refl _⟩
          case hbody =>
            rintro lo pre x W' hlo ⟨r, hr⟩ ⟨e1, h1, h2, h3, h4, h5, h6⟩ hlt
            obtain ⟨k', hk'⟩ : ∃ k', pre.length = k' := ⟨_, rfl⟩
            rw [hk'] at e1 h3 h4 hlt
            have hk64 : k' ≤ 17592186043904 := by omega
            have c3 := (Q3.out W' h5).cell
            have c27 := h3.cell
            have f27 := h3.frozen
            have c26 := (h2.other (by omega : g26 ≠ g27) (.int .i64 ((k' : Int) + 1))).cell
            have d27 := (h3.set (.int .i64 ((k' : Int) + 1))).cell
            have LS3 := Lib.hid (fun (X : World) (hX : Below Bx W X) => Lent.sl (show Lent X go b from (hX.block go lgo).trans L.out))
            have I1 := Lib.hid h1; have I2 := Lib.hid h2; have I3 := Lib.hid h3; have I4 := Lib.hid h4; have I5 := Lib.hid h5; have KP := Lib.hid hk'; have HR := Lib.hid hr; have E1 := Lib.hid e1
            clear h1 h2 h3 h4 h5 hk' hlt hr e1 bX b26 b27 b28 hBW LW JRR
            by_cases hmk : (k' : Int) = most
            · have t1 : ((k' : Int) == most) = true := by rw [beq_iff_eq]; exact hmk
              have hm2 : most = (k' : Int) := hmk.symm
              have HM := Lib.hid hm2
              clear hmk hm2
              gi_wp2
              exact ⟨KeepsFrom.refl _ _, rfl, k', HM.out, by rw [List.length_append, KP.out]; rfl, I1.out, I2.out, I3.out, I4.out, I5.out, h6⟩
            · have t1 : ((k' : Int) == most) = false := by rw [beq_eq_false_iff_ne]; exact hmk
              have hle : 0 ≤ most → ((k' : Int) + 1) ≤ most := fun h => by have := E1.out h; omega
              have HLE := Lib.hid hle
              clear hmk hle
              by_cases hk0 : k' = 0
              · subst hk0
                have z1 : ((((0 : Nat) : Int) + 1) : Int) = 1 := rfl
                have J3 := Lib.hid (I3.out.set (.int .i64 1))
                have J1 := Lib.hid (I1.out.other (by omega : Bx ≠ g27) (.int .i64 1))
                have J2 := Lib.hid (I2.out.other (by omega : g26 ≠ g27) (.int .i64 1))
                have J4 := Lib.hid (I4.out.other (by omega : g28 ≠ g27) (.int .i64 1))
                have J5 := Lib.hid ((Below.refl Bx W').setCell (p := ⟨g27, 0, none⟩) (by show Bx ≤ g27; omega) (.int .i64 1))
                have J6 := Lib.hid ((KeepsOthers.setCell W' ⟨g27, 0, none⟩ (.int .i64 1)).from W0.heap.size)
                have hlr : lo ≠ g27 := by
                  intro e
                  have h1 : W'.heap[g27]? = _ := I3.out
                  rw [← e, HR.out] at h1; cases h1
                have J7 := Lib.hid ((Below.heap_setCell W' ⟨g27, 0, none⟩ (.int .i64 1) lo (by exact hlr)).trans HR.out)
                have c26 := J2.out.cell
                have c27 := J3.out.cell
                have lJ := J1.out.lt
                have sJ : W'.heap.size ≤ (W'.setCell ⟨g27, 0, none⟩ (.int .i64 1)).heap.size := J5.out.size
                have sW : W0.heap.size ≤ (W'.setCell ⟨g27, 0, none⟩ (.int .i64 1)).heap.size := Nat.le_trans h6 sJ
                have bB := Lib.hid (I5.out.trans J5.out)
                clear hlr d27
                gi_wp2
                apply range_ownN (n := 4) (l₀ := lo) rfl J7.out (by omega) (gf := 34) (lb := #[.pointer (some ⟨Bx, 0, none⟩)]) rfl trivial (enters_of Try.func34 (by kernel_rfl) rfl)
                  ((all_stops_n 3 Bx Bx (some ⟨go, 0, none⟩) (b.length + 2) b (by omega) (W'.setCell ⟨g27, 0, none⟩ (.int .i64 1)) J1.out (LS3.out _ bB.out) (fun b' o ha h0 => by cases ha; exact lgo) (by omega)).inRound lo) (fun h k => Kb.t h k) (Kb.b (by omega) lJ) Kb.r (Below.refl _ _) (fun _ => rfl)
                  (NI W' W0 Bx g26 g27 g28 (.slice (some ⟨go, 0, none⟩) b.length (b.length + 2)) (.func (.func 34) #[] #[.pointer (some ⟨Bx, 0, none⟩)])) (fun _ _ _ => False)
                case hassign =>
                  intro l x W K hK
                  gi_wp2
                  exact hK
                case hI => exact NI.own _ _ _ _ _ _ _ _ lW0 (by omega) sJ
                case hIx => exact fun _ _ _ _ _ hs _ _ => hs
                case h0 => exact ⟨J6.out, J1.out, J2.out, J3.out, J4.out, J5.out, sW⟩
                case hbody =>
                  rintro lo2 pre2 x2 X _ _ ⟨n1, n2, n3, n4, n5, n6, n7⟩ hlt2
                  obtain ⟨k2, hk2⟩ : ∃ k2, pre2.length = k2 := ⟨_, rfl⟩
                  rw [hk2] at n5 hlt2
                  have hk264 : k2 ≤ 17592186043904 := by omega
                  have c28 := n5.cell
                  have f28 := n5.frozen
                  have N1 := Lib.hid n1; have N2 := Lib.hid n2; have N3 := Lib.hid n3; have N4 := Lib.hid n4; have N5 := Lib.hid n5; have N6 := Lib.hid n6; have K2 := Lib.hid hk2
                  clear n1 n2 n3 n4 n5 n6 hk2 hlt2
                  gi_wp2
                  refine ⟨(KeepsOthers.setCell _ _ _).from _, ⟨(Below.refl Bx X).setCell (p := ⟨g28, 0, none⟩) (by show Bx ≤ g28; omega) _, fun o ho => ?_⟩, N1.out.trans ((KeepsOthers.setCell _ _ _).from _), N2.out.other (by omega) _, N3.out.other (by omega) _, N4.out.other (by omega) _, ?_, N6.out.setCell (p := ⟨g28, 0, none⟩) (by show Bx ≤ g28; omega) _, by simpa using n7⟩
                  · have h1 : X.heap[Bx]? = _ := N2.out
                    have h2 := N2.out.other (by omega : Bx ≠ g28) (.int .i64 ((k2 : Int) + 1))
                    rw [h1] at ho
                    exact (show _ = _ from h2).trans ho
                  · rw [List.length_append, K2.out]; exact N5.out.set (.int .i64 ((k2 : Int) + 1))
                case hdone =>
                  rintro ys X hys ⟨n1, n2, n3, n4, n5, n6, n7⟩
                  have hyl : ys.length = N := by rw [← HN.out, ← hys, List.length_map]
                  refine ⟨n1, ⟨n6, fun o ho => ?_⟩, ?_, n2, n3, ?_, ?_, I5.out.trans n6, n7⟩
                  · have h1 : W'.heap[Bx]? = _ := I1.out
                    have h2 : X.heap[Bx]? = _ := n2
                    rw [h1] at ho; rw [h2]; exact ho
                  · rw [List.length_append, KP.out]; exact HLE.out
                  · rw [List.length_append, KP.out]; exact n4
                  · rw [List.length_append, KP.out, List.length_singleton, if_neg (by omega), ← hyl]; exact n5
                case hstop => rintro c pre2 X _ h; exact h.elim
              · have t2 : (((k' : Int) + 1) == 1) = false := by rw [beq_eq_false_iff_ne]; omega
                have t3 : (k' == 0) = false := by rw [beq_eq_false_iff_ne]; exact hk0
                have K0 := Lib.hid hk0; clear hk0
                gi_wp2
                refine ⟨(KeepsOthers.setCell _ _ _).from _, ⟨(Below.refl Bx W').setCell (p := ⟨g27, 0, none⟩) (by show Bx ≤ g27; omega) _, fun o ho => ?_⟩, ?_, I1.out.other (by omega) _, I2.out.other (by omega) _, ?_, ?_, I5.out.setCell (p := ⟨g27, 0, none⟩) (by show Bx ≤ g27; omega) _, by simpa using h6⟩
                · have h1 : W'.heap[Bx]? = _ := I1.out
                  have h2 := I1.out.other (by omega : Bx ≠ g27) (.int .i64 ((k' : Int) + 1))
                  rw [h1] at ho
                  exact (show _ = _ from h2).trans ho
                · rw [List.length_append, KP.out]; exact HLE.out
                · rw [List.length_append, KP.out]; exact I3.out.set (.int .i64 ((k' : Int) + 1))
                · rw [List.length_append, KP.out, List.length_singleton, if_neg (by omega)]
                  have h4 := I4.out.other (by omega : g28 ≠ g27) (.int .i64 ((k' : Int) + 1))
                  rw [if_neg K0.out] at h4
                  exact h4
          case hdone =>
            rintro D ys W3 hD hys ⟨e1, h1, h2, h3, h4, h5, h6⟩ hKD
            have hyl : ys.length = N := by rw [← HN.out, ← hys, List.length_map]
            rw [hyl] at e1 h3 h4
            refine ⟨.inl rfl, rfl, JRR.out _ _ ⟨N, ?_, h2, h1, h3, h4, h5, ?_⟩⟩
            · by_cases hm : 0 ≤ most ∧ most < N
              · have := e1 hm.1; omega
              · exact .inr ⟨hm, rfl⟩
            · exact (M.out.keep (W' := W3) fun D h1 h2 => (h5.block D (by have := (Array.getElem?_eq_some_iff.1 h2).1; omega)).trans h2).more (D := D) (by omega) hKD (M.out.new (Nat.le_refl _) (by omega))
          case hstop =>
            rintro D c pre W3 hD hSp ⟨rfl, F, e1, e2, h1, h2, h3, h4, h5, h6⟩ hKD
            have hpl : pre.length ≤ N := by
              have := hSp.length_le
              rw [List.length_map, HN.out] at this; exact this
            have hM3 := (M.out.keep (W' := W3) fun D h1 h2 => (h5.block D (by have := (Array.getElem?_eq_some_iff.1 h2).1; omega)).trans h2).more (D := D) (by omega) hKD (M.out.new (Nat.le_refl _) (by omega))
            have JJ := Lib.hid (JRR.out _ _ ⟨F, .inl ⟨by omega, by omega, e1.symm⟩, h2, h1, h3, h4, h5, hM3⟩)
            clear hM3 h1 h2 h3 h4 h5 h6 JRR
            gi_wp2
            exact JJ.out
      · intro JR hJR
        refine wpIn_loop_ghost_k (fun f a' W => ∃ (g19 kp : Nat) (pre : List (Nat × Nat)) (u20 u21 u22 u23 u96 u97 u98 u99 u100 u101 u102 u103 u104 u105 u106 u107 u108 u109 u110 u111 u112 u131 u132 u133 u134 u135 u136 u137 u138 u139 : Value) (ds : List Deferred), a' = ({ tmps := #[Value.slice a b.length c, Value.int IntKind.i64 most, Value.pointer (some { block := g2, off := 0 }), Value.pointer (some { block := g3, off := 0 }), Value.pointer (some { block := g4, off := 0 }), Value.bool true, Value.slice (some { block := go, off := 0 }) b.length (b.length + 2), Value.slice a7 LS.fst.length c7, Value.int IntKind.i64 LS.snd.fst, Value.int IntKind.i64 (LS.snd.snd : Nat), Value.slice a10 LS.fst.length c10, Value.int IntKind.i64 LS.snd.fst, Value.int IntKind.i64 (LS.snd.snd : Nat), Value.slice a13 LS.fst.length c13, Value.int IntKind.i64 LS.snd.fst, Value.int IntKind.i64 (LS.snd.snd : Nat), Value.bool true, Value.int IntKind.i64 (k : Nat), Value.pointer (some { block := g18, off := 0 }), Value.pointer (some { block := g19, off := 0 }), u20, u21, u22, u23, undef, undef, undef, undef, undef, undef, undef, undef, undef, undef, undef, undef, undef, undef, undef, Value.bool true, Value.slice a b.length c, Value.slice (some { block := go, off := 0 }) b.length (b.length + 2), Value.tuple #[Value.slice a7 LS.fst.length c7, Value.int IntKind.i64 LS.snd.fst, Value.int IntKind.i64 (LS.snd.snd : Nat)], Value.slice (some { block := go, off := 0 }) b.length (b.length + 2), Value.tuple #[Value.slice a7 LS.fst.length c7, Value.int IntKind.i64 LS.snd.fst, Value.int IntKind.i64 (LS.snd.snd : Nat)], Value.slice a7 LS.fst.length c7, Value.int IntKind.i64 LS.snd.fst, Value.int IntKind.i64 (LS.snd.snd : Nat), Value.tuple #[Value.slice a10 LS.fst.length c10, Value.int IntKind.i64 LS.snd.fst, Value.int IntKind.i64 (LS.snd.snd : Nat)], Value.slice (some { block := go, off := 0 }) b.length (b.length + 2), Value.tuple #[Value.slice a10 LS.fst.length c10, Value.int IntKind.i64 LS.snd.fst, Value.int IntKind.i64 (LS.snd.snd : Nat)], Value.slice a10 LS.fst.length c10, Value.int IntKind.i64 LS.snd.fst, Value.int IntKind.i64 (LS.snd.snd : Nat), Value.tuple #[Value.slice a13 LS.fst.length c13, Value.int IntKind.i64 LS.snd.fst, Value.int IntKind.i64 (LS.snd.snd : Nat)], Value.slice a b.length c, Value.tuple #[Value.slice a13 LS.fst.length c13, Value.int IntKind.i64 LS.snd.fst, Value.int IntKind.i64 (LS.snd.snd : Nat)], Value.slice a13 LS.fst.length c13, Value.int IntKind.i64 LS.snd.fst, Value.int IntKind.i64 (LS.snd.snd : Nat), Value.slice a7 LS.fst.length c7, Value.slice a13 LS.fst.length c13, Value.bool true, Value.bool true, Value.bool false, Value.bool false, Value.bool true, Value.bool false, Value.bool false, Value.bool false, Value.int IntKind.i64 LS.snd.fst, Value.int IntKind.i64 LS.snd.fst, Value.bool false, Value.bool false, Value.bool false, Value.int IntKind.i64 (LS.snd.snd : Nat), Value.int IntKind.i64 (LS.snd.snd : Nat), Value.bool false, Value.bool false, Value.int IntKind.i64 (k : Nat), Value.slice a7 LS.fst.length c7, Value.int IntKind.i64 (c7 : Nat), Value.bool false, u83, u84, u85, u86, u87, u88, u89, u90, Value.slice a10 LS.fst.length c10, Value.slice a13 LS.fst.length c13, Value.bool true, Value.bool true, Value.bool false, u96, u97, u98, u99, u100, u101, u102, u103, u104, u105, u106, u107, u108, u109, u110, u111, u112, undef, undef, undef, undef, undef, undef, undef, undef, undef, undef, undef, undef, undef, undef, undef, undef, undef, undef, u131, u132, u133, u134, u135, u136, u137, u138, u139, undef, undef, undef, undef, undef, undef, undef, undef, undef, undef, undef, undef, undef, undef, undef, undef, undef, undef, undef, undef, undef, undef, undef, undef, undef, undef, undef, undef, undef, undef, undef, undef, undef, undef, undef, undef, undef, undef, undef, undef, undef, undef, undef, undef, undef, undef, undef, undef, undef, undef, undef, undef, undef, undef, undef, undef, undef, undef, undef, undef, undef, undef, undef, undef, undef, undef, undef, undef, undef, undef, undef, undef, undef, undef, undef, undef, undef, undef, undef, undef, undef, undef, undef, undef, undef, undef, undef, undef, undef, undef, undef, undef, undef, undef, undef, undef, undef], defers := ds } : Act) ∧ Left b pre kp f ∧ pre.length ≤ 20 ∧ g18 < g19 ∧ Boxed W g18 3 (.int .i64 (pre.length : Nat)) ∧ Boxed W g19 3 (.int .i64 (kp : Nat)) ∧ Boxed W g2 22 (.slice a b.length c) ∧ Boxed W g3 3 (.int .i64 most) ∧ Boxed W g4 4 (.bool false) ∧ Below w.heap.size w W ∧ Lent W go b ∧ Marks w.heap.size ds W) b.length ?_ ?_
        · exact ⟨g19, 0, [], _, _, _, _, _, _, _, _, _, _, _, _, _, _, _, _, _, _, _, _, _, _, _, _, _, _, _, _, _, _, [], rfl, Left.start b, Nat.zero_le _, q18, X18.out, X19.out, X2.out, X3.out, X4.out, G.out, L.out, Marks.nil _ _⟩
        · rintro f a' W ⟨g19, kp, pre, u20, u21, u22, u23, u96, u97, u98, u99, u100, u101, u102, u103, u104, u105, u106, u107, u108, u109, u110, u111, u112, u131, u132, u133, u134, u135, u136, u137, u138, u139, ds, rfl, hLe, hcn, h19, hb18, hb19, h2, h3, h4, hB, hL, hM⟩ J K hJ hK
          have X2 := Lib.hid h2; have X3 := Lib.hid h3; have X4 := Lib.hid h4; have B := Lib.hid hB; have L := Lib.hid hL; have M := Lib.hid hM
          have Y18 := Lib.hid hb18; have Y19 := Lib.hid hb19; have LE := Lib.hid hLe
          have c19 := hb19.cell
          have c2 := h2.cell
          have qle := hLe.le
          clear h2 h3 h4 hB hL hM hb18 hb19 hLe
          by_cases hlt : kp < b.length
          · have hlt2 : decide (kp < b.length) = true := decide_eq_true hlt
            have hv := rread_any a b.length c b kp W (by omega) (by omega) (H.out.keep B.out)
            obtain ⟨⟨v, j, e⟩, hr⟩ : ∃ R, rd (b.drop kp) 0 0 = R := ⟨_, rfl⟩
            rw [hr] at hv
            dsimp only at hv
            have HV := Lib.hid hv; clear hv
            gi_wp2
            refine ⟨trivial, ?_⟩
            refine (callsIn_wide.2 HV.out).mono ?_
            rintro e2 w' ⟨rfl, rfl⟩
            by_cases he : e = 0
            · subst he
              have f1 : ((0 : Int) != 0) = false := rfl
              obtain ⟨f', rfl, hL'⟩ := LE.out.go hlt hr
              have qv := (rd_in hr).2
              have qj := (rd_in hr).1
              rw [List.length_drop] at qj
              obtain ⟨q, hq⟩ : ∃ q, kp + j = q := ⟨_, rfl⟩
              have hq2 : (kp : Int) + (j : Int) = (q : Int) := by omega
              have hqb : q ≤ b.length := by omega
              rw [hq] at hL'
              have LE2 := Lib.hid hL'
              obtain ⟨cnt, hcnt⟩ : ∃ cnt, pre.length = cnt := ⟨_, rfl⟩
              have hat : (nums b)[cnt]? = some (kp, v) := by
                rw [hL'.all, List.append_assoc, ← hcnt, List.getElem?_append_right (Nat.le_refl _), Nat.sub_self]; rfl
              have hcl : cnt < (nums b).length := (List.getElem?_eq_some_iff.1 hat).1
              have AT := Lib.hid hat
              rw [hcnt] at Y18 hcn
              have CNT := Lib.hid hcnt
              clear hr hL' hat hq hcnt LE
              gi_wp2
              have b20 := (Boxed.new W 26 (.int .u64 (v : Nat))).alloc (.cells #[.int .i64 0] 3)
              have b23 := Boxed.new (W.alloc (.cells #[.int .u64 (v : Nat)] 26)) 3 (.int .i64 0)
              rw [World.size_alloc] at b23
              have hBW : Below W.heap.size W ((W.alloc (.cells #[.int .u64 (v : Nat)] 26)).alloc (.cells #[.int .i64 0] 3)) := ((Below.refl _ W).alloc (Nat.le_refl _) _).alloc (by simp) _
              obtain ⟨g20, hg20⟩ : ∃ B, W.heap.size = B := ⟨_, rfl⟩
              obtain ⟨g23, hg23⟩ : ∃ B, W.heap.size + 1 = B := ⟨_, rfl⟩
              have q23 : g20 < g23 := by omega
              have l19 := Y19.out.lt
              have l4 := X4.out.lt
              have lgo := L.out.lt
              rw [hg23] at b23 ⊢
              rw [hg20] at b20 hBW l19 l4 lgo ⊢
              have sB := B.out.size
              rw [hg20] at sB
              generalize hW1 : (W.alloc (.cells #[.int .u64 (v : Nat)] 26)).alloc (.cells #[.int .i64 0] 3) = W1 at *
              clear hW1 hg23
              refine ⟨trivial, ?_⟩
              refine (callsIn_wide.2 (all_in _ _ _ _)).mono ?_
              rintro e2 w' ⟨rfl, rfl⟩
              gi_wp2
              have bX := Boxed.new W1 22 (.slice (some ⟨go, 0, none⟩) b.length (b.length + 2))
              have s1 := hBW.size
              have l23 := b23.lt
              replace b20 := b20.alloc (.cells #[.slice (some ⟨go, 0, none⟩) b.length (b.length + 2)] 22)
              replace b23 := b23.alloc (.cells #[.slice (some ⟨go, 0, none⟩) b.length (b.length + 2)] 22)
              replace hBW := hBW.alloc (by omega) (.cells #[.slice (some ⟨go, 0, none⟩) b.length (b.length + 2)] 22)
              obtain ⟨Bx, hBx⟩ : ∃ B, W1.heap.size = B := ⟨_, rfl⟩
              have qx : g23 < Bx := by omega
              rw [hBx] at bX ⊢
              generalize W1.alloc (.cells #[.slice (some ⟨go, 0, none⟩) b.length (b.length + 2)] 22) = W2 at *
              clear hBx s1 l23
              have lB := bX.lt
              have LW : Lent W2 go b := (hBW.block go lgo).trans L.out
              have lW2 : g20 ≤ W2.heap.size := by have := hBW.size; omega
              have y18 : ∀ W', Below g20 W W' → Boxed W' g18 3 (.int .i64 (cnt : Nat)) := fun W' h => (h.block g18 (by omega)).trans Y18.out
              have y19 : ∀ W', Below g20 W W' → Boxed W' g19 3 (.int .i64 (kp : Nat)) := fun W' h => (h.block g19 (by omega)).trans Y19.out
              have y4 : ∀ W', Below g20 W W' → Boxed W' g4 4 (.bool false) := fun W' h => (h.block g4 (by omega)).trans X4.out
              have Q18 := Lib.hid y18; have Q19 := Lib.hid y19; have Q4 := Lib.hid y4
              clear y18 y19 y4
              apply wpIn_rangeFunc_ownG (F := Fence.wide) (n := 6) rfl (by omega) (gf := 34) (lb := #[.pointer (some ⟨Bx, 0, none⟩)]) rfl trivial (enters_of Try.func34 (by kernel_rfl) rfl)
                (all_stops_n 5 Bx g20 (some ⟨go, 0, none⟩) (b.length + 2) b (by omega) W2 bX LW.sl (fun b' o ha h0 => by cases ha; exact lgo) lW2) Kb.t (Kb.b lW2 lB) (Below.refl _ _) (fun _ => rfl)
                (CI W W2 g20 g23 Bx v cnt (.slice (some ⟨go, 0, none⟩) b.length (b.length + 2))) (CX W W2 g20 g23 kp v cnt)
              case hassign =>
                intro l x W K hK
                gi_wp2
                exact hK
              case hI => exact CI.own _ _ _ _ _ _ _ _ lW2
              case hIx => exact CX.own _ _ _ _ _ _ _ lW2
              case h0 => exact ⟨Nat.zero_le _, b20, b23, bX, hBW, Nat.le_refl _⟩
              case hbody =>
                rintro lo pre' x W' ⟨e1, i20, i23, iX, iB, iS⟩ hlt'
                obtain ⟨k', hk'⟩ : ∃ k', pre'.length = k' := ⟨_, rfl⟩
                rw [hk'] at e1 i23
                have c18 := (Q18.out W' iB).cell
                have c19' := (Q19.out W' iB).cell
                have f4 := (Q4.out W' iB).frozen
                have c4 := (Q4.out W' iB).cell
                have c20 := i20.cell
                have c23 := i23.cell
                have f23 := i23.frozen
                have I20 := Lib.hid i20; have I23 := Lib.hid i23; have IX := Lib.hid iX; have IB := Lib.hid iB; have KP := Lib.hid hk'
                clear i20 i23 iX iB hk' hlt' b20 b23 bX hBW LW lW2
                have kk := W2.heap.size
                by_cases hkc : k' = cnt
                · have t1 : ((k' : Int) == (cnt : Int)) = true := by rw [beq_iff_eq]; omega
                  have t2 : (k' == cnt) = true := by rw [beq_iff_eq]; exact hkc
                  by_cases hx : x.1 = (kp, v)
                  · have x1 : ((x.1.1 : Int) != (kp : Int)) = false := by rw [hx]; simp
                    have x2 : (x.1.1 != kp) = false := by rw [hx]; simp
                    have x3 : ((x.1.2 : Int) != (v : Int)) = false := by rw [hx]; simp
                    have x4 : (x.1.2 != v) = false := by rw [hx]; simp
                    have HX := Lib.hid hx
                    have E1 : Hid (Boxed W' g23 3 (.int .i64 (cnt : Nat))) := Lib.hid (by rw [← hkc]; exact I23.out)
                    clear hx hkc
                    gi_wp2
                    exact ⟨KeepsFrom.refl _ _, .inl ⟨rfl, E1.out, IB.out, iS⟩⟩
                  · have hne : ((x.1.1 : Int) != (kp : Int)) = true ∨ ((x.1.1 : Int) != (kp : Int)) = false ∧ ((x.1.2 : Int) != (v : Int)) = true := by
                      by_cases h1 : x.1.1 = kp
                      · refine .inr ⟨by rw [h1]; simp, ?_⟩
                        rw [bne_iff_ne]
                        intro h2
                        exact hx (Prod.ext h1 (by omega))
                      · left; rw [bne_iff_ne]; omega
                    have HX := Lib.hid hx
                    have ql : pre'.length = cnt := KP.out.trans hkc
                    have QL := Lib.hid ql
                    clear hx hkc ql
                    rcases hne with x1 | ⟨x1, x3⟩
                    · have x2 : (x.1.1 != kp) = true := by rw [bne_iff_ne] at x1 ⊢; omega
                      gi_wp2
                      exact ⟨(KeepsOthers.setCell _ _ _).from _, .inr ⟨rfl, pre', x, rfl, QL.out, HX.out⟩⟩
                    · have x2 : (x.1.1 != kp) = false := by rw [bne_eq_false_iff_eq] at x1 ⊢; omega
                      have x4 : (x.1.2 != v) = true := by rw [bne_iff_ne] at x3 ⊢; omega
                      gi_wp2
                      exact ⟨(KeepsOthers.setCell _ _ _).from _, .inr ⟨rfl, pre', x, rfl, QL.out, HX.out⟩⟩
                · have t1 : ((k' : Int) == (cnt : Int)) = false := by rw [beq_eq_false_iff_ne]; omega
                  have t2 : (k' == cnt) = false := by rw [beq_eq_false_iff_ne]; exact hkc
                  have hk2 : k' + 1 ≤ cnt := by omega
                  clear hkc
                  gi_wp2
                  refine ⟨(KeepsOthers.setCell _ _ _).from _, ⟨(Below.refl g20 W').setCell (p := ⟨g23, 0, none⟩) (by show g20 ≤ g23; omega) _, fun o ho => ?_⟩, ?_, I20.out.other (by omega) _, ?_, IX.out.other (by omega) _, IB.out.setCell (p := ⟨g23, 0, none⟩) (by show g20 ≤ g23; omega) _, by simpa using iS⟩
                  · have h1 : W'.heap[Bx]? = _ := IX.out
                    have h2 := IX.out.other (by omega : Bx ≠ g23) (.int .i64 ((k' : Int) + 1))
                    rw [h1] at ho
                    exact (show _ = _ from h2).trans ho
                  · rw [List.length_append, KP.out]; exact hk2
                  · rw [List.length_append, KP.out]
                    exact I23.out.set (.int .i64 ((k' : Int) + 1))
              case hdone =>
                rintro D ys W3 hD hys ⟨e1, _⟩ hKD
                exfalso
                have h1 : ys.length = (nums b).length := by rw [← hys, List.length_map]
                omega
              case hstop =>
                rintro D c' pre' W3 hD hSp (⟨rfl, h23, hb3, hs3⟩ | ⟨rfl, q', x, rfl, hql, hne⟩) hKD
                · have M3 := (M.out.keep (W' := W3) fun D h1 h2 => (hb3.block D (by have := (Array.getElem?_eq_some_iff.1 h2).1; omega)).trans h2).more (D := D) (by omega) hKD (M.out.new (Nat.le_refl _) (by omega))
                  have z18 := Q18.out W3 hb3
                  have z19 := Q19.out W3 hb3
                  have c18 := z18.cell
                  have f18 := z18.frozen
                  have c19' := z19.cell
                  have f19 := z19.frozen
                  have c23 := h23.cell
                  have r1 : ((cnt : Int) != (cnt : Int)) = false := by simp
                  have s3 : W.heap.size ≤ W3.heap.size := hb3.size
                  have MM := Lib.hid M3
                  have B3 := Lib.hid (B.out.trans (hb3.mono sB))
                  have Z18 := Lib.hid z18; have Z19 := Lib.hid z19
                  have k2 : Hid (Boxed W3 g2 22 (.slice a b.length c)) := Lib.hid ((hb3.block g2 (by omega)).trans X2.out)
                  have k3 : Hid (Boxed W3 g3 3 (.int .i64 most)) := Lib.hid ((hb3.block g3 (by omega)).trans X3.out)
                  have k4 : Hid (Boxed W3 g4 4 (.bool false)) := Lib.hid ((hb3.block g4 (by omega)).trans X4.out)
                  have kL : Hid (Lent W3 go b) := Lib.hid ((hb3.block go lgo).trans L.out)
                  clear b20 b23 bX hBW LW lW2 z18 z19 M3 hb3 h23 hKD AT hSp
                  obtain ⟨m1, hm1⟩ : ∃ m1, cnt + 1 = m1 := ⟨_, rfl⟩
                  have hm2 : (cnt : Int) + 1 = (m1 : Int) := by omega
                  have P18 := Lib.hid ((Z18.out.set (.int .i64 (m1 : Int))).other (by omega : g18 ≠ g19) (.int .i64 (q : Int)))
                  have P19 := Lib.hid ((Z19.out.other (by omega : g19 ≠ g18) (.int .i64 (m1 : Int))).set (.int .i64 (q : Int)))
                  have P2 := Lib.hid ((k2.out.other (by omega : g2 ≠ g18) (.int .i64 (m1 : Int))).other (by omega : g2 ≠ g19) (.int .i64 (q : Int)))
                  have P3 := Lib.hid ((k3.out.other (by omega : g3 ≠ g18) (.int .i64 (m1 : Int))).other (by omega : g3 ≠ g19) (.int .i64 (q : Int)))
                  have P4 := Lib.hid ((k4.out.other (by omega : g4 ≠ g18) (.int .i64 (m1 : Int))).other (by omega : g4 ≠ g19) (.int .i64 (q : Int)))
                  have PM := Lib.hid ((MM.out.setCell (p := ⟨g18, 0, none⟩) (v := .int .i64 (m1 : Int)) c18).setCell (p := ⟨g19, 0, none⟩) (v := .int .i64 (q : Int)) (Z19.out.other (by omega : g19 ≠ g18) (.int .i64 (m1 : Int))).cell)
                  have PB := Lib.hid ((B3.out.setCell (p := ⟨g18, 0, none⟩) (by show w.heap.size ≤ g18; omega) (.int .i64 (m1 : Int))).setCell (p := ⟨g19, 0, none⟩) (by show w.heap.size ≤ g19; omega) (.int .i64 (q : Int)))
                  have PL : Hid (Lent ((W3.setCell ⟨g18, 0, none⟩ (.int .i64 (m1 : Int))).setCell ⟨g19, 0, none⟩ (.int .i64 (q : Int))) go b) := Lib.hid (((Below.heap_setCell _ _ _ _ (by show go ≠ g19; omega)).trans (Below.heap_setCell _ _ _ _ (by show go ≠ g18; omega))).trans kL.out)
                  have p18 := P18.out.cell
                  have p19 := P19.out.cell
                  have f19b := (Z19.out.other (by omega : g19 ≠ g18) (.int .i64 (m1 : Int))).frozen
                  have c19b := (Z19.out.other (by omega : g19 ≠ g18) (.int .i64 (m1 : Int))).cell
                  have hm : Hid (cnt + 1 = m1) := Lib.hid hm1
                  clear hm1
                  by_cases h20 : 20 < m1
                  · have d1 : ((m1 : Int) > 20) := by omega
                    have d2 : decide (20 < m1) = true := decide_eq_true h20
                    gi_wp2
                    exact ⟨trivial, hJR _ _ ⟨g19, _, _, _, _, _, _, _, _, _, _, _, _, _, _, _, _, _, _, _, _, _, _, _, _, _, _, _, _, _, _, _, rfl, P2.out, P3.out, P4.out, PB.out, PL.out, PM.out⟩⟩
                  · have d1 : ¬ ((m1 : Int) > 20) := by omega
                    have d2 : decide (20 < m1) = false := decide_eq_false h20
                    have hn9 := Boxed.new ((W3.setCell ⟨g18, 0, none⟩ (.int .i64 (m1 : Int))).setCell ⟨g19, 0, none⟩ (.int .i64 (q : Int))) 3 (.int .i64 (q : Int))
                    rw [World.size_setCell, World.size_setCell] at hn9
                    have HN9 := Lib.hid hn9
                    have l19b := Z18.out.lt
                    clear hn9
                    gi_wp2
                    refine ⟨f', by omega, hJ _ _ _ ⟨W3.heap.size, q, pre ++ [(kp, v)], _, _, _, _, _, _, _, _, _, _, _, _, _, _, _, _, _, _, _, _, _, _, _, _, _, _, _, _, _, _, _, rfl, LE2.out, ?_, by omega, ?_, HN9.out, P2.out.alloc _, P3.out.alloc _, P4.out.alloc _, PB.out.alloc (by have := PB.out.size; omega) _, PL.out.keep ((Below.refl _ _).alloc (Nat.le_refl _) _), PM.out.below ((Below.refl _ _).alloc (Nat.le_refl _) _)⟩⟩
                    · rw [List.length_append, CNT.out]; have := hm.out; simp; omega
                    · rw [List.length_append, CNT.out, List.length_singleton, hm.out]; exact P18.out.alloc _
                · refine absurd ?_ hne
                  obtain ⟨r, hr⟩ := hSp
                  have h1 := AT.out
                  rw [← hr, List.map_append, List.append_assoc, List.getElem?_append_right (by simp [hql]), List.length_map, hql, Nat.sub_self] at h1
                  exact Option.some.inj h1
            · have f1 : (e != 0) = true := by rw [bne_iff_ne]; exact he
              gi_wp2
              refine ⟨trivial, hJR _ _ ⟨g19, _, _, _, _, _, _, _, _, _, _, _, _, _, _, _, _, _, _, _, _, _, _, _, _, _, _, _, _, _, _, ds, rfl, X2.out.alloc _, X3.out.alloc _, X4.out.alloc _, B.out.alloc (by have := B.out.size; omega) _, L.out.keep ((Below.refl _ _).alloc (Nat.le_refl _) _), M.out.below ((Below.refl _ _).alloc (Nat.le_refl _) _)⟩⟩
          · have hlt2 : decide (kp < b.length) = false := decide_eq_false hlt
            gi_wp2
            exact ⟨g19, _, _, _, _, _, _, _, _, _, _, _, _, _, _, _, _, _, _, _, _, _, _, _, _, _, _, _, _, _, _, ds, rfl, X2.out, X3.out, X4.out, B.out, L.out, M.out⟩
end Go.Proofs.Ythiebpiohkfjgaa
