/- Rows of the call's own whose spare places are zero elements: append. No condition. -/
import Derived.Test.YteedjgjkldbbcaaRow
import Derived.Test.YteedjgjkldbbcaaStab
namespace Go.Proofs.Yteedjgjkldbbcaa
open Go.RowKit

/-- a row of the call's own, its spare places zero elements -/
def OwZ {α : Type} (f : α → List Value) (x0 : α) (w : World) (base : Nat) (e : TypeId) (v : Value) (xs : List α) : Prop :=
  (v = .slice none 0 0 ∧ xs = []) ∨
  ∃ (g cap : Nat), v = .slice (some ⟨g, 0, none⟩) xs.length cap ∧ base ≤ g ∧ w.heap[g]? = some (.cells ((xs ++ List.replicate (cap - xs.length) x0).flatMap f).toArray e (0, 0)) ∧ xs.length ≤ cap ∧ cap ≤ maxLen
theorem OwZ.t {α : Type} {f : α → List Value} {x0 : α} {w : World} {base : Nat} {e : TypeId} {v : Value} {xs : List α} (h : OwZ f x0 w base e v xs) : OwT f w base e v xs := by
  rcases h with h | ⟨g, cap, rfl, hg, hh, hn, hc⟩
  · exact .inl h
  · exact .inr ⟨g, cap, _, rfl, hg, hh, by simp; omega, hn, hc, by simp⟩
theorem OwZ.nil {α : Type} (f : α → List Value) (x0 : α) (w : World) (base : Nat) (e : TypeId) : OwZ f x0 w base e (.slice none 0 0) ([] : List α) := .inl ⟨rfl, rfl⟩
theorem OwZ.of_block {α : Type} {f : α → List Value} {x0 : α} {w w' : World} {base : Nat} {e : TypeId} {v : Value} {xs : List α} (h : OwZ f x0 w base e v xs) (hb : ∀ g, v.ownBlock = some g → w'.heap[g]? = w.heap[g]?) : OwZ f x0 w' base e v xs := by
  rcases h with h | ⟨g, cap, rfl, hg, hh, r⟩
  · exact .inl h
  · exact .inr ⟨g, cap, rfl, hg, (hb g rfl).trans hh, r⟩
theorem OwZ.keep {α : Type} {f : α → List Value} {x0 : α} {w w' : World} {base : Nat} {e : TypeId} {v : Value} {xs : List α} (h : OwZ f x0 w base e v xs) (hb : Below w.heap.size w w') : OwZ f x0 w' base e v xs :=
  h.of_block fun g hg => hb.block g (h.t.lt g hg).2
theorem OwZ.grown {α : Type} {f : α → List Value} {x0 : α} {w w' : World} {row : Option Nat} {base : Nat} {e : TypeId} {v : Value} {xs : List α} (h : OwZ f x0 w base e v xs) (hb : w.grownBy w' row) (hne : ∀ j, v.ownBlock = some j → row ≠ some j) : OwZ f x0 w' base e v xs :=
  h.of_block fun g hg => hb.block g (h.t.lt g hg).2 (fun e => hne g hg e.symm)
theorem OwZ.base {α : Type} {f : α → List Value} {x0 : α} {w : World} {base base' : Nat} {e : TypeId} {v : Value} {xs : List α} (h : OwZ f x0 w base e v xs) (hb : base' ≤ base) : OwZ f x0 w base' e v xs := by
  rcases h with h | ⟨g, cap, rfl, hg, r⟩
  · exact .inl h
  · exact .inr ⟨g, cap, rfl, Nat.le_trans hb hg, r⟩

section
variable {α : Type} {f : α → List Value} {x0 : α} {P : Program} {t e : TypeId} {k bytes : Nat}
theorem run_appZ (E : EltT P t e f k bytes) (hz0 : ∃ i z, P.info? e = some i ∧ i.zero = some z ∧ z.cells.toList = f x0) (w : World) (ty : TypeId) (base : Nat) (v : Value) (xs : List α) (hown : OwZ f x0 w base e v xs) (aa : Option Addr) (m c : Nat) (news : List α)
    (hx : SlT f k w aa m c news) (h63 : xs.length + m ≤ maxLen) (hbytes : Fits (xs.length + m) bytes) (hbase : base ≤ w.heap.size) :
    ∃ v' w', (Builtin.append_ #[t, t] ty #[v, .slice aa m c]).run P w = .ok v' w' ∧ OwZ f x0 w' base e v' (xs ++ news) ∧ w.grownBy w' v.ownBlock ∧
      (v'.ownBlock = v.ownBlock ∨ v'.ownBlock = some w.heap.size) := by
  have hownT := hown.t
  obtain ⟨ht, ⟨i, z, hi1, hi2, hi3, hi4, _, _⟩, hf, hk, h1⟩ := E
  have hz : z.cells.toList = f x0 := by
    obtain ⟨i', z', e1, e2, e3⟩ := hz0
    rw [hi1] at e1; cases e1
    rw [hi2] at e2; cases e2
    exact e3
  subst hi3; subst hi4
  have hml : news.length = m := hx.1
  cases aa with
  | none =>
    have hc0 := hx.2.2.1 rfl
    have hm0 : m = 0 := by have := hx.2.1; omega
    subst hm0 hc0
    have hn : news = [] := List.eq_nil_of_length_eq_zero hml
    subst hn
    refine ⟨v, w, ?_, by simpa using hown, World.grownBy.refl _ _, .inl rfl⟩
    rcases hown with ⟨rfl, rfl⟩ | ⟨g, cap, rfl, hg, hh, hn, hc⟩
    · simp [Builtin.append_, run_underlying ht, sizeOf, typeInfo, hi1, Builtin.lenOf, Builtin.firstCells]
    · simp [Builtin.append_, run_underlying ht, sizeOf, typeInfo, hi1, Builtin.lenOf, Builtin.firstCells, hn]
      rfl
  | some q =>
    have hnews := hx.news hf hk
    have hlen : (news.flatMap f).length = m * i.size := by rw [flat_length hf, hml]
    have hone : ∀ u ∈ news.flatMap f, u.oneCell' = true := by
      intro u hu; obtain ⟨x, _, hxu⟩ := List.mem_flatMap.1 hu; exact h1 x u hxu
    have hsmall : xs.length + m ≤ 9223372036854775807 := by simp only [maxLen] at h63; omega
    have grown : ∀ (old : Nat) (row : Option Nat),
        OwZ f x0 (w.drew.alloc (.cells ((xs.flatMap f).toArray ++ (news.flatMap f).toArray ++ Builtin.zeroCells z.cells (grownCap w (xs.length + m) old e - (xs.length + m))) e)) base e
          (.slice (some ⟨w.heap.size, 0, none⟩) (xs.length + m) (grownCap w (xs.length + m) old e)) (xs ++ news) ∧
        w.grownBy (w.drew.alloc (.cells ((xs.flatMap f).toArray ++ (news.flatMap f).toArray ++ Builtin.zeroCells z.cells (grownCap w (xs.length + m) old e - (xs.length + m))) e)) row := by
      intro old row
      have hge := grownCap_ge w (xs.length + m) old e
      have hcm : grownCap w (xs.length + m) old e ≤ maxLen := grownCap_le_maxLen w (xs.length + m) old e h63
      refine ⟨.inr ⟨w.heap.size, _, by rw [List.length_append, hml], hbase, ?_, ?_, hcm⟩, ⟨rfl, rfl, rfl, by simp, fun j hj _ => Below.heap_alloc w.drew _ j hj⟩⟩
      · have : (w.drew.alloc (.cells ((xs.flatMap f).toArray ++ (news.flatMap f).toArray ++ Builtin.zeroCells z.cells (grownCap w (xs.length + m) old e - (xs.length + m))) e)).heap[w.heap.size]? = _ := heap_new w.drew _
        rw [this]
        congr 2
        apply Array.ext'
        simp only [Array.toList_append, List.flatMap_append, zero_flat (hf x0) hk hz, List.length_append, hml]
      · simp [hml]; omega
    rcases hown with ⟨rfl, rfl⟩ | ⟨g, cap, rfl, hbg, hh, hn, hcm⟩
    · by_cases hm : m = 0
      · subst hm
        have hn : news = [] := List.eq_nil_of_length_eq_zero hml
        subst hn
        refine ⟨.slice none 0 0, w, ?_, .inl ⟨rfl, rfl⟩, World.grownBy.refl _ _, .inl rfl⟩
        simp [Builtin.append_, run_underlying ht, sizeOf, typeInfo, hi1, Builtin.lenOf, Builtin.firstCells, loadCells, loadCellsFrom]
      · have hr := run_append_nil (P := P) w t ty e i z ht hi1 hi2 q m c (news.flatMap f) hlen hnews (by omega) (by simp at hsmall; omega) (by have hb := hbytes 0 (by simp; omega); simp only [List.length_nil, Nat.zero_add] at hb; rw [nextslicecap_zero (by omega)] at hb; exact hb)
        have hgr := grown 0 (Value.ownBlock (.slice none 0 0))
        simp only [List.length_nil, Nat.zero_add, List.flatMap_nil, List.nil_append, Array.empty_append] at hgr ⊢
        exact ⟨_, _, hr, hgr.1, hgr.2, .inr rfl⟩
    · have hl : (xs ++ List.replicate (cap - xs.length) x0).length = cap := by simp; omega
      by_cases hroom : xs.length + m ≤ cap
      · have hcs : ((xs ++ List.replicate (cap - xs.length) x0).flatMap f).toArray.size = cap * i.size := by rw [List.size_toArray, flat_length hf, hl]
        have hfit : xs.length * i.size + (news.flatMap f).length ≤ ((xs ++ List.replicate (cap - xs.length) x0).flatMap f).toArray.size := by rw [hcs, hlen, ← Nat.add_mul]; exact Nat.mul_le_mul_right _ hroom
        have hr := run_append_room (P := P) w t ty e i ht hi1 g xs.length cap _ hh q m c (news.flatMap f) hlen hnews hone hroom hfit
        refine ⟨_, _, hr, .inr ⟨g, cap, by rw [List.length_append, hml], hbg, ?_, by rw [List.length_append, hml]; exact hroom, hcm⟩, ⟨rfl, rfl, rfl, by simp, fun k _ hk => setRow_other w g k _ (fun e => hk (by simp [Value.ownBlock, e]))⟩, .inl rfl⟩
        rw [setRow_heap w g _ _ e _ hh]
        congr 2
        apply Array.ext'
        have hd : (xs ++ List.replicate (cap - xs.length) x0).drop (xs.length + m) = List.replicate (cap - (xs ++ news).length) x0 := by
          rw [List.drop_append, List.drop_of_length_le (by omega), List.nil_append, List.drop_replicate]
          congr 1
          rw [List.length_append, hml]; omega
        rw [hlen, ← Nat.add_mul, flat_take hf, flat_drop hf, hd]
        simp
      · have holds : ∀ j u, (xs.flatMap f)[j]? = some u → w.cell? ((⟨g, 0, none⟩ : Addr).add j) = some u := by
          intro j u hj
          have hadd : (⟨g, 0, none⟩ : Addr).add j = ⟨g, j, none⟩ := by unfold Addr.add; split <;> simp_all
          rw [hadd]
          simp only [World.cell?, hh]
          have hlt := (List.getElem?_eq_some_iff.1 hj).1
          have : ((xs ++ List.replicate (cap - xs.length) x0).flatMap f)[j]? = some u := by
            rw [List.flatMap_append, List.getElem?_append_left hlt]; exact hj
          simpa using this
        have hr := run_append_grow (P := P) w t ty e i z ht hi1 hi2 ⟨g, 0, none⟩ xs.length cap (xs.flatMap f) (flat_length hf xs) holds q m c (news.flatMap f) hlen hnews (by omega) (by omega) (hbytes _ (by omega))
        have hgr := grown cap (Value.ownBlock (.slice (some ⟨g, 0, none⟩) xs.length cap))
        exact ⟨_, _, hr, hgr.1, hgr.2, .inr rfl⟩

theorem wpList_appZ (E : EltT P t e f k bytes) (hz0 : ∃ i z, P.info? e = some i ∧ i.zero = some z ∧ z.cells.toList = f x0) {ops : Array Oper} {rest : List Oper} {o : Oper} {a : Act} {Q : Exit → Act → World → Prop} {w : World} (hw : Region.wanted o (yielded ops a.tmps) = true) (s x : Operand)
    (ho : o.op = .call { callee := .builtin .append, args := #[s, x], argTypes := #[t, t] }) (base : Nat) (v : Value) (xs : List α) (hs : a.eval s = v) (hown : OwZ f x0 w base e v xs)
    (aa : Option Addr) (m c : Nat) (news : List α) (hx : a.eval x = .slice aa m c) (hsl : SlT f k w aa m c news)
    (h63 : xs.length + m ≤ maxLen) (hbytes : (xs.length + m) * bytes ≤ 140737488355328) (hbase : base ≤ w.heap.size) (ys : List α) (hy : xs ++ news = ys)
    (h : ∀ v' w', OwZ f x0 w' base e v' ys → w.grownBy w' v.ownBlock → (v'.ownBlock = v.ownBlock ∨ v'.ownBlock = some w.heap.size) → Below base w w' → wpList P ops Q rest (a.put o.dst v') w') : wpList P ops Q (o :: rest) a w := by
  subst hy
  refine wpList_w hw fun K hK => ?_
  obtain ⟨v', w', hr, h2, h3, h4⟩ := run_appZ E hz0 w o.type base v xs hown aa m c news hsl h63 (.half hbytes) hbase
  unfold Oper.wp execOp
  simp only [ho, resolve, invoke, builtin, Sem.run_bind, Sem.run_pure, Result.andThen_ok, List.map_toArray, List.map_cons, List.map_nil, hs, hx, hr]
  exact hK _ _ (h v' w' h2 h3 h4 ((Below.refl _ _).grown h3 hbase (fun k hk => (hown.t.lt k hk).1)))
theorem step_appZ (E : EltT P t e f k bytes) (hz0 : ∃ i z, P.info? e = some i ∧ i.zero = some z ∧ z.cells.toList = f x0) {ops : Array Oper} {o : Oper} {a : Act} {K : Act → World → Prop} {Q : Exit → Act → World → Prop} {F : Prop} {w : World} (hw : Region.wanted o (yielded ops a.tmps) = true) (s x : Operand)
    (ho : o.op = .call { callee := .builtin .append, args := #[s, x], argTypes := #[t, t] }) (base : Nat) (v : Value) (xs : List α) (hs : a.eval s = v) (hown : OwZ f x0 w base e v xs)
    (aa : Option Addr) (m c : Nat) (news : List α) (hx : a.eval x = .slice aa m c) (hsl : SlT f k w aa m c news)
    (h63 : xs.length + m ≤ maxLen) (hbytes : (xs.length + m) * bytes ≤ 140737488355328) (hbase : base ≤ w.heap.size) (ys : List α) (hy : xs ++ news = ys)
    (h : ∀ v' w', OwZ f x0 w' base e v' ys → w.grownBy w' v.ownBlock → (v'.ownBlock = v.ownBlock ∨ v'.ownBlock = some w.heap.size) → Below base w w' → K (a.put o.dst v') w') :
    if Region.wanted o (yielded ops a.tmps) = true then Oper.wp P o a w K Q else F := by
  subst hy
  rw [if_pos hw]
  obtain ⟨v', w', hr, h2, h3, h4⟩ := run_appZ E hz0 w o.type base v xs hown aa m c news hsl h63 (.half hbytes) hbase
  unfold Oper.wp execOp
  simp only [ho, resolve, invoke, builtin, Sem.run_bind, Sem.run_pure, Result.andThen_ok, List.map_toArray, List.map_cons, List.map_nil, hs, hx, hr]
  exact h v' w' h2 h3 h4 ((Below.refl _ _).grown h3 hbase (fun k hk => (hown.t.lt k hk).1))
end
end Go.Proofs.Yteedjgjkldbbcaa
