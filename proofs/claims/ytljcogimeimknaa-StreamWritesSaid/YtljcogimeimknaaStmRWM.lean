/- The reference's writer of streams in memory. No condition. -/
import Derived.Test.YtljcogimeimknaaStmRBlk
import Derived.Test.YtljcogimeimknaaK8f
import Derived.Test.YtljcogimeimknaaBlockRAdd
namespace Go.Proofs.Ytljcogimeimknaa
open Go.RowKit
set_option linter.unusedVariables false

structure RWr (w0 w : World) (g : Nat) (Lv nv lv : Value) (Ls : List Sv) (Ns : List (Sv × Sv)) (m : Nat) (L : List (List Ent)) (now : List Ent) (last : List UInt8) (shut : Bool) (told : Nat) (who : Nat → Nat) : Prop where
  below : Below w0.heap.size w0 w
  low : ∀ j, who j ≠ 0 → w0.heap.size ≤ j ∧ j < w.heap.size
  blk : w.heap[g]? = some (.cells #[.int .i64 (m : Nat), Lv, nv, lv, .bool shut, .int .i64 (told : Nat)] 40 (0, 0))
  gw : who g = 1
  lr : OwT fS w w0.heap.size 22 Lv Ls
  lb : ∀ j, Lv.ownBlock = some j → who j = 2
  ll : Ls.length = L.length
  lk : ∀ (i : Nat) (x : Sv) (l : List Ent), Ls[i]? = some x → L[i]? = some l → ∃ vs, ELs w0 w (sv x) vs l ∧ ∀ j, (sv x).ownBlock = some j → who j = 10 + i
  nr : ELs w0 w nv Ns now
  nb : ∀ j, nv.ownBlock = some j → who j = 10 + L.length
  ls : ∃ a n c, lv = .slice a n c ∧ Sl Bf w0 a n c last

section
variable {w0 w w' w1 : World} {g m told : Nat} {Lv nv lv : Value} {Ls : List Sv} {Ns : List (Sv × Sv)} {L : List (List Ent)} {now : List Ent} {last : List UInt8} {shut : Bool} {who : Nat → Nat}

theorem RWr.turn {S : Nat → Prop} (h : RWr w0 w g Lv nv lv Ls Ns m L now last shut told who) (ht : Turns S w w') (hS : ∀ j, S j → who j = 0 ∧ w0.heap.size ≤ j) : RWr w0 w' g Lv nv lv Ls Ns m L now last shut told who := by
  have hn : ∀ j k, who j = k → k ≠ 0 → ¬ S j := fun j k e hk hs => hk (e ▸ (hS j hs).1)
  refine ⟨ht.below h.below h.below.size (fun j hj => (hS j hj).2), fun j hj => ⟨(h.low j hj).1, Nat.lt_of_lt_of_le (h.low j hj).2 ht.size⟩, ht.heap h.blk (hn g 1 h.gw (by decide)), h.gw, h.lr.turns ht (fun j hj => hn j 2 (h.lb j hj) (by decide)), h.lb, h.ll, ?_, h.nr.turns ht (fun j hj => hn j _ (h.nb j hj) (by omega)), h.nb, h.ls⟩
  intro i x l hx hl
  obtain ⟨vs, he, hb⟩ := h.lk i x l hx hl
  exact ⟨vs, he.turns ht (fun j hj => hn j _ (hb j hj) (by omega)), hb⟩
theorem RWr.keep (h : RWr w0 w g Lv nv lv Ls Ns m L now last shut told who) (hb : Below w.heap.size w w') : RWr w0 w' g Lv nv lv Ls Ns m L now last shut told who :=
  h.turn (S := fun _ => False) (.of_below hb) (fun _ e => e.elim)
theorem RWr.c0 (h : RWr w0 w g Lv nv lv Ls Ns m L now last shut told who) : w.cell? ⟨g, 0, none⟩ = some (.int .i64 (m : Nat)) := cell_of h.blk 0 rfl
theorem RWr.c1 (h : RWr w0 w g Lv nv lv Ls Ns m L now last shut told who) : w.cell? ⟨g, 1, none⟩ = some Lv := cell_of h.blk 1 rfl
theorem RWr.c2 (h : RWr w0 w g Lv nv lv Ls Ns m L now last shut told who) : w.cell? ⟨g, 2, none⟩ = some nv := cell_of h.blk 2 rfl
theorem RWr.c3 (h : RWr w0 w g Lv nv lv Ls Ns m L now last shut told who) : w.cell? ⟨g, 3, none⟩ = some lv := cell_of h.blk 3 rfl
theorem RWr.c4 (h : RWr w0 w g Lv nv lv Ls Ns m L now last shut told who) : w.cell? ⟨g, 4, none⟩ = some (.bool shut) := cell_of h.blk 4 rfl
theorem RWr.c5 (h : RWr w0 w g Lv nv lv Ls Ns m L now last shut told who) : w.cell? ⟨g, 5, none⟩ = some (.int .i64 (told : Nat)) := cell_of h.blk 5 rfl
theorem RWr.free (h : RWr w0 w g Lv nv lv Ls Ns m L now last shut told who) (i : Nat) : w.frozen? ⟨g, i, none⟩ = false := free_block h.blk i
theorem RWr.lt (h : RWr w0 w g Lv nv lv Ls Ns m L now last shut told who) : g < w.heap.size := (h.low g (by rw [h.gw]; decide)).2
theorem RWr.glo (h : RWr w0 w g Lv nv lv Ls Ns m L now last shut told who) : w0.heap.size ≤ g := (h.low g (by rw [h.gw]; decide)).1
/-- the closed blocks as lists in memory -/
theorem RWr.lls (h : RWr w0 w g Lv nv lv Ls Ns m L now last shut told who) : ∃ a c, Lv = .slice a L.length c ∧ LLs w a L.length c L := by
  obtain ⟨a, c, e, hs⟩ := h.lr.sl fS_len
  rw [h.ll] at e hs
  refine ⟨a, c, e, rfl, hs.2.1, hs.2.2.1, fun i l hl => ?_⟩
  obtain ⟨x, hx⟩ : ∃ x, Ls[i]? = some x := ⟨_, List.getElem?_eq_getElem (by rw [h.ll]; exact (List.getElem?_eq_some_iff.1 hl).1)⟩
  obtain ⟨b, o, ha, hc⟩ := hs.2.2.2 i x hx
  obtain ⟨vs, he, _⟩ := h.lk i x l hx hl
  obtain ⟨a2, c2, e2, hents⟩ := he.ents h.below
  refine ⟨b, o, x, ha, by simpa using hc 0 _ rfl, ?_⟩
  obtain ⟨ax, nx, cx⟩ := x
  cases e2
  exact hents

/-- a cell of the writer's own block is written -/
theorem RWr.set (h : RWr w0 w g Lv nv lv Ls Ns m L now last shut told who) (i : Nat) (x : Value) {lv' : Value} {last' : List UInt8} {shut' : Bool} {told' : Nat}
    (hb : (w.setCell ⟨g, i, none⟩ x).heap[g]? = some (.cells #[.int .i64 (m : Nat), Lv, nv, lv', .bool shut', .int .i64 (told' : Nat)] 40 (0, 0))) (hl : ∃ a n c, lv' = .slice a n c ∧ Sl Bf w0 a n c last') :
    RWr w0 (w.setCell ⟨g, i, none⟩ x) g Lv nv lv' Ls Ns m L now last' shut' told' who ∧ Gr w (w.setCell ⟨g, i, none⟩ x) who who := by
  have hn : ∀ j k, who j = k → k ≠ 1 → ¬ j = g := fun j k e hk hg => hk (by rw [← e, hg, h.gw])
  have ht := Turns.set (S := fun j => j = g) w (i := i) rfl x
  refine ⟨⟨ht.below h.below h.below.size (fun j hj => by rw [hj]; exact h.glo), fun j hj => by simpa using h.low j hj, hb, h.gw, h.lr.turns ht (fun j hj => hn j 2 (h.lb j hj) (by decide)), h.lb, h.ll, ?_, h.nr.turns ht (fun j hj => hn j _ (h.nb j hj) (by omega)), h.nb, hl⟩, ⟨ht.mono fun j _ e => by rw [e, h.gw]; decide, fun _ _ => rfl⟩⟩
  intro i x l hx hl
  obtain ⟨vs, he, hb⟩ := h.lk i x l hx hl
  exact ⟨vs, he.turns ht (fun j hj => hn j _ (hb j hj) (by omega)), hb⟩
theorem RWr.setL (h : RWr w0 w g Lv nv lv Ls Ns m L now last shut told who) {a : Option Addr} {n c : Nat} {k : List UInt8} (hs : Sl Bf w0 a n c k) :
    RWr w0 (w.setCell ⟨g, 3, none⟩ (.slice a n c)) g Lv nv (.slice a n c) Ls Ns m L now k shut told who ∧ Gr w (w.setCell ⟨g, 3, none⟩ (.slice a n c)) who who :=
  h.set 3 _ (set_block h.blk _) ⟨a, n, c, rfl, hs⟩
theorem RWr.setS (h : RWr w0 w g Lv nv lv Ls Ns m L now last shut told who) (b : Bool) :
    RWr w0 (w.setCell ⟨g, 4, none⟩ (.bool b)) g Lv nv lv Ls Ns m L now last b told who ∧ Gr w (w.setCell ⟨g, 4, none⟩ (.bool b)) who who :=
  h.set 4 _ (set_block h.blk _) h.ls
theorem RWr.setT (h : RWr w0 w g Lv nv lv Ls Ns m L now last shut told who) (t : Nat) :
    RWr w0 (w.setCell ⟨g, 5, none⟩ (.int .i64 (t : Nat))) g Lv nv lv Ls Ns m L now last shut t who ∧ Gr w (w.setCell ⟨g, 5, none⟩ (.int .i64 (t : Nat))) who who :=
  h.set 5 _ (set_block h.blk _) h.ls

/-- one more entry of the block under way -/
theorem RWr.setN (h : RWr w0 w g Lv nv lv Ls Ns m L now last shut told who) (ht1 : Turns (fun j => nv.ownBlock = some j) w w1) {x : Value} {y : Sv × Sv} {e : Ent} (ho : OwT fE w1 w0.heap.size 42 x (Ns ++ [y])) (h1 : Sl Bf w0 y.1.1 y.1.2.1 y.1.2.2 e.1) (h2 : Sl Bf w0 y.2.1 y.2.2.1 y.2.2.2 e.2) (hx : ∀ j, x.ownBlock = some j → nv.ownBlock = some j ∨ w.heap.size ≤ j) :
    ∃ who', RWr w0 (w1.setCell ⟨g, 2, none⟩ x) g Lv x lv Ls (Ns ++ [y]) m L (now ++ [e]) last shut told who' ∧ Gr w (w1.setCell ⟨g, 2, none⟩ x) who who' := by
  have h4 : ∀ j k, who j = k → k ≠ 10 + L.length → ¬ (nv.ownBlock = some j) := fun j k e hk hs => hk (e ▸ h.nb j hs)
  have hn : ∀ j k, who j = k → k ≠ 1 → ¬ j = g := fun j k e hk hg => hk (by rw [← e, hg, h.gw])
  have ht := Turns.set (S := fun j => j = g) w1 (i := 2) rfl x
  have old : ∀ j, j < w.heap.size → whoR who w.heap.size w1.heap.size (10 + L.length) j = who j := fun j hj => whoR_old hj
  have lt : ∀ j k, who j = k → k ≠ 0 → j < w.heap.size := fun j k e hk => (h.low j (by omega)).2
  have hlo : ∀ j, nv.ownBlock = some j → w0.heap.size ≤ j := fun j hj => (h.low j (by rw [h.nb j hj]; omega)).1
  have hb1 := ht1.below h.below h.below.size hlo
  have hxg : ∀ j, x.ownBlock = some j → ¬ j = g := fun j hj e => by
    rcases hx j hj with e1 | e1
    · exact hn j _ (h.nb j e1) (by omega) e
    · have := h.lt; omega
  have hne : ∀ i, i < L.length → 10 + i ≠ 10 + L.length := fun i hi => by omega
  refine ⟨whoR who w.heap.size w1.heap.size (10 + L.length), ⟨ht.below hb1 hb1.size (fun j hj => by rw [hj]; exact h.glo), fun j hj => by simpa using whoR_ne h.low h.below.size ht1.size hj, set_block (ht1.heap h.blk (h4 g 1 h.gw (by omega))) _, by rw [old g h.lt]; exact h.gw, (h.lr.turns ht1 (fun j hj => h4 j 2 (h.lb j hj) (by omega))).turns ht (fun j hj => hn j 2 (h.lb j hj) (by decide)), fun j hj => by rw [old j (lt j 2 (h.lb j hj) (by decide))]; exact h.lb j hj, h.ll, ?_, ?_, fun j hj => ?_, h.ls⟩, ⟨(ht1.mono fun j _ e => by rw [h.nb j e]; omega).trans ht fun j _ e => by rw [e, h.gw]; decide, old⟩⟩
  · intro i x l hx hl
    obtain ⟨vs, he, hb⟩ := h.lk i x l hx hl
    have hi : i < L.length := (List.getElem?_eq_some_iff.1 hl).1
    exact ⟨vs, (he.turns ht1 (fun j hj => h4 j _ (hb j hj) (hne i hi))).turns ht (fun j hj => hn j _ (hb j hj) (by omega)), fun j hj => by rw [old j (lt j _ (hb j hj) (by omega))]; exact hb j hj⟩
  · exact (h.nr.snoc ho h1 h2).turns ht hxg
  · rcases hx j hj with e | e
    · rw [old j (lt j _ (h.nb j e) (by omega))]; exact h.nb j e
    · exact whoR_new e (ho.lt j hj).2

/-- the block under way ends -/
theorem RWr.cut (h : RWr w0 w g Lv nv lv Ls Ns m L now last shut told who) (ht1 : Turns (fun j => Lv.ownBlock = some j) w w1) {x : Value} {s : Sv} (hs : nv = sv s) (ho : OwT fS w1 w0.heap.size 22 x (Ls ++ [s])) (hx : ∀ j, x.ownBlock = some j → Lv.ownBlock = some j ∨ w.heap.size ≤ j) :
    ∃ who', RWr w0 ((w1.setCell ⟨g, 1, none⟩ x).setCell ⟨g, 2, none⟩ (.slice none 0 0)) g x (.slice none 0 0) lv (Ls ++ [s]) [] m (L ++ [now]) [] last shut told who' ∧ Gr w ((w1.setCell ⟨g, 1, none⟩ x).setCell ⟨g, 2, none⟩ (.slice none 0 0)) who who' := by
  have h4 : ∀ j k, who j = k → k ≠ 2 → ¬ (Lv.ownBlock = some j) := fun j k e hk hs => hk (e ▸ h.lb j hs)
  have hn : ∀ j k, who j = k → k ≠ 1 → ¬ j = g := fun j k e hk hg => hk (by rw [← e, hg, h.gw])
  have ht2 := Turns.set (S := fun j => j = g) w1 (i := 1) rfl x
  have ht := ht2.trans (Turns.set (S := fun j => j = g) (w1.setCell ⟨g, 1, none⟩ x) (i := 2) rfl (.slice none 0 0)) fun _ _ e => e
  have old : ∀ j, j < w.heap.size → whoR who w.heap.size w1.heap.size 2 j = who j := fun j hj => whoR_old hj
  have lt : ∀ j k, who j = k → k ≠ 0 → j < w.heap.size := fun j k e hk => (h.low j (by omega)).2
  have hlo : ∀ j, Lv.ownBlock = some j → w0.heap.size ≤ j := fun j hj => (h.low j (by rw [h.lb j hj]; decide)).1
  have hb1 := ht1.below h.below h.below.size hlo
  have hxg : ∀ j, x.ownBlock = some j → ¬ j = g := fun j hj e => by
    rcases hx j hj with e1 | e1
    · exact hn j 2 (h.lb j e1) (by decide) e
    · have := h.lt; omega
  refine ⟨whoR who w.heap.size w1.heap.size 2, ⟨ht.below hb1 hb1.size (fun j hj => by rw [hj]; exact h.glo), fun j hj => by simpa using whoR_ne h.low h.below.size ht1.size hj, set_block (set_block (ht1.heap h.blk (h4 g 1 h.gw (by decide))) _) _, by rw [old g h.lt]; exact h.gw, ho.turns ht hxg, fun j hj => ?_, by rw [List.length_append, List.length_append, h.ll]; rfl, ?_, ELs.nil _ _, fun j hj => by simp [Value.ownBlock] at hj, h.ls⟩, ⟨(ht1.mono fun j _ e => by rw [h.lb j e]; decide).trans ht fun j _ e => by rw [e, h.gw]; decide, old⟩⟩
  · rcases hx j hj with e | e
    · rw [old j (lt j 2 (h.lb j e) (by decide))]; exact h.lb j e
    · exact whoR_new e (ho.lt j hj).2
  · intro i y l hy hl
    by_cases hi : i < Ls.length
    · rw [List.getElem?_append_left hi] at hy
      rw [List.getElem?_append_left (by rw [← h.ll]; exact hi)] at hl
      obtain ⟨vs, he, hb⟩ := h.lk i y l hy hl
      exact ⟨vs, (he.turns ht1 (fun j hj => h4 j _ (hb j hj) (by omega))).turns ht (fun j hj => hn j _ (hb j hj) (by omega)), fun j hj => by rw [old j (lt j _ (hb j hj) (by omega))]; exact hb j hj⟩
    · have hi2 : i = Ls.length := by have := (List.getElem?_eq_some_iff.1 hy).1; simp at this; omega
      subst hi2
      rw [List.getElem?_append_right (Nat.le_refl _), Nat.sub_self] at hy
      rw [List.getElem?_append_right (by rw [← h.ll]; exact Nat.le_refl _), h.ll, Nat.sub_self] at hl
      simp at hy hl
      subst hy hl
      rw [← hs]
      exact ⟨Ns, (h.nr.turns ht1 (fun j hj => h4 j _ (h.nb j hj) (by omega))).turns ht (fun j hj => hn j _ (h.nb j hj) (by omega)), fun j hj => by rw [old j (lt j _ (h.nb j hj) (by omega)), h.ll]; exact h.nb j hj⟩
end

/-- the reference's writer stands so -/
def RWS (w0 w : World) (g m : Nat) (s : WS) (who : Nat → Nat) : Prop := ∃ Lv nv lv Ls Ns, RWr w0 w g Lv nv lv Ls Ns m s.L s.now s.last s.shut s.told who
theorem RWS.turn {w0 w w' : World} {g m : Nat} {s : WS} {who : Nat → Nat} {S : Nat → Prop} (h : RWS w0 w g m s who) (ht : Turns S w w') (hS : ∀ j, S j → who j = 0 ∧ w0.heap.size ≤ j) : RWS w0 w' g m s who := by
  obtain ⟨Lv, nv, lv, Ls, Ns, h⟩ := h; exact ⟨Lv, nv, lv, Ls, Ns, h.turn ht hS⟩
theorem RWS.keep {w0 w w' : World} {g m : Nat} {s : WS} {who : Nat → Nat} (h : RWS w0 w g m s who) (hb : Below w.heap.size w w') : RWS w0 w' g m s who :=
  h.turn (S := fun _ => False) (.of_below hb) (fun _ e => e.elim)
theorem RWS.low {w0 w : World} {g m : Nat} {s : WS} {who : Nat → Nat} (h : RWS w0 w g m s who) : (∀ j, who j ≠ 0 → w0.heap.size ≤ j ∧ j < w.heap.size) ∧ Below w0.heap.size w0 w := by
  obtain ⟨Lv, nv, lv, Ls, Ns, h⟩ := h; exact ⟨h.low, h.below⟩
def RWPost (w0 w w' : World) (g m : Nat) (s' : WS) (who : Nat → Nat) : Prop := ∃ who', RWS w0 w' g m s' who' ∧ Gr w w' who who'
theorem RWr.init {w0 w : World} (hb : Below w0.heap.size w0 w) (m : Nat) :
    RWS w0 (w.alloc (.cells #[.int .i64 (m : Nat), .slice none 0 0, .slice none 0 0, .slice none 0 0, .bool false, .int .i64 0] 40)) w.heap.size m WS0 (fun j => if j = w.heap.size then 1 else 0) := by
  refine ⟨.slice none 0 0, .slice none 0 0, .slice none 0 0, [], [], ⟨hb.alloc hb.size _, fun j hj => ?_, heap_new w _, by simp, OwT.nil _ _ _ _, fun j hj => by simp [Value.ownBlock] at hj, rfl, fun i x l hx _ => by simp at hx, ELs.nil _ _, fun j hj => by simp [Value.ownBlock] at hj, ⟨none, 0, 0, rfl, Sl.nil _ _⟩⟩⟩
  by_cases h1 : j = w.heap.size
  · subst h1; exact ⟨hb.size, by simp⟩
  · simp [h1] at hj
end Go.Proofs.Ytljcogimeimknaa
