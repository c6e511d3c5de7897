/- append of general size, with what becomes of the row that was left: a new row leaves it as it lay. No condition. -/
import Derived.Test.YteedjgjkldbbcaaK6a
namespace Go.Proofs.Yteedjgjkldbbcaa
open Go.RowKit
set_option linter.unusedVariables false

section
variable {α : Type} {f : α → List Value} {P : Program} {t e : TypeId} {k bytes : Nat}
theorem run_appK (E : EltT P t e f k bytes) (w : World) (ty : TypeId) (base : Nat) (v : Value) (xs : List α) (hown : OwT f w base e v xs) (aa : Option Addr) (m c : Nat) (news : List α)
    (hx : SlT f k w aa m c news) (h63 : xs.length + m ≤ maxLen) (hbytes : Fits (xs.length + m) bytes) (hbase : base ≤ w.heap.size) :
    ∃ v' w', (Builtin.append_ #[t, t] ty #[v, .slice aa m c]).run P w = .ok v' w' ∧ OwT f w' base e v' (xs ++ news) ∧ w.grownBy w' v.ownBlock ∧
      (v'.ownBlock = v.ownBlock ∨ (v'.ownBlock = some w.heap.size ∧ w.grownBy w' none)) := by
  obtain ⟨ht, ⟨i, z, hi1, hi2, hi3, hi4, x0, hz⟩, hf, hk, h1⟩ := E
  subst hi3; subst hi4
  have hml : news.length = m := hx.1
  cases aa with
  | none =>
    have hc0 := hx.2.2.1 rfl
    have hm0 : m = 0 := by have := hx.2.1; omega
    subst hm0 hc0
    have hn : news = [] := List.eq_nil_of_length_eq_zero hml
    subst hn
    refine ⟨v, w, ?_, by simpa using hown, World.grownBy.refl _ _, .inl rfl⟩
    rcases hown with ⟨rfl, rfl⟩ | ⟨g, cap, ys, rfl, hg, hh, hl, hn, hc, htk⟩
    · simp [Builtin.append_, run_underlying ht, sizeOf, typeInfo, hi1, Builtin.lenOf, Builtin.firstCells]
    · simp [Builtin.append_, run_underlying ht, sizeOf, typeInfo, hi1, Builtin.lenOf, Builtin.firstCells, hn]
      rfl
  | some q =>
    have hnews := hx.news hf hk
    have hlen : (news.flatMap f).length = m * i.size := by rw [flat_length hf, hml]
    have hone : ∀ u ∈ news.flatMap f, u.oneCell' = true := by
      intro u hu; obtain ⟨x, _, hxu⟩ := List.mem_flatMap.1 hu; exact h1 x u hxu
    have hsmall : xs.length + m ≤ 9223372036854775807 := by simp only [maxLen] at h63; omega
    have grown : ∀ (old : Nat) (row : Option Nat),
        OwT f (w.drew.alloc (.cells ((xs.flatMap f).toArray ++ (news.flatMap f).toArray ++ Builtin.zeroCells z.cells (grownCap w (xs.length + m) old e - (xs.length + m))) e)) base e
          (.slice (some ⟨w.heap.size, 0, none⟩) (xs.length + m) (grownCap w (xs.length + m) old e)) (xs ++ news) ∧
        w.grownBy (w.drew.alloc (.cells ((xs.flatMap f).toArray ++ (news.flatMap f).toArray ++ Builtin.zeroCells z.cells (grownCap w (xs.length + m) old e - (xs.length + m))) e)) row := by
      intro old row
      have hge := grownCap_ge w (xs.length + m) old e
      have hcm : grownCap w (xs.length + m) old e ≤ maxLen := grownCap_le_maxLen w (xs.length + m) old e h63
      refine ⟨.inr ⟨w.heap.size, _, xs ++ news ++ List.replicate (grownCap w (xs.length + m) old e - (xs.length + m)) x0, by rw [List.length_append, hml], hbase, ?_, ?_, ?_, hcm, ?_⟩, ⟨rfl, rfl, rfl, by simp, fun j hj _ => Below.heap_alloc w.drew _ j hj⟩⟩
      · have : (w.drew.alloc (.cells ((xs.flatMap f).toArray ++ (news.flatMap f).toArray ++ Builtin.zeroCells z.cells (grownCap w (xs.length + m) old e - (xs.length + m))) e)).heap[w.heap.size]? = _ := heap_new w.drew _
        rw [this]
        congr 2
        apply Array.ext'
        simp only [Array.toList_append, List.flatMap_append, zero_flat (hf x0) hk hz]
      · simp [hml]; omega
      · simp [hml]; omega
      · rw [List.append_assoc, ← List.append_assoc]; exact List.take_left
    rcases hown with ⟨rfl, rfl⟩ | ⟨g, cap, ys, rfl, hbg, hh, hl, hn, hcm, htk⟩
    · by_cases hm : m = 0
      · subst hm
        have hn : news = [] := List.eq_nil_of_length_eq_zero hml
        subst hn
        refine ⟨.slice none 0 0, w, ?_, .inl ⟨rfl, rfl⟩, World.grownBy.refl _ _, .inl rfl⟩
        simp [Builtin.append_, run_underlying ht, sizeOf, typeInfo, hi1, Builtin.lenOf, Builtin.firstCells, loadCells, loadCellsFrom]
      · have hr := run_append_nil (P := P) w t ty e i z ht hi1 hi2 q m c (news.flatMap f) hlen hnews (by omega) (by simp at hsmall; omega) (by have hb := hbytes 0 (by simp; omega); simp only [List.length_nil, Nat.zero_add] at hb; rw [nextslicecap_zero (by omega)] at hb; exact hb)
        have hgr := grown 0 (Value.ownBlock (.slice none 0 0))
        have hgn := grown 0 none
        simp only [List.length_nil, Nat.zero_add, List.flatMap_nil, List.nil_append, Array.empty_append] at hgr hgn ⊢
        exact ⟨_, _, hr, hgr.1, hgr.2, .inr ⟨rfl, hgn.2⟩⟩
    · by_cases hroom : xs.length + m ≤ cap
      · have hcs : (ys.flatMap f).toArray.size = cap * i.size := by rw [List.size_toArray, flat_length hf, hl]
        have hfit : xs.length * i.size + (news.flatMap f).length ≤ (ys.flatMap f).toArray.size := by rw [hcs, hlen, ← Nat.add_mul]; exact Nat.mul_le_mul_right _ hroom
        have hr := run_append_room (P := P) w t ty e i ht hi1 g xs.length cap _ hh q m c (news.flatMap f) hlen hnews hone hroom hfit
        refine ⟨_, _, hr, .inr ⟨g, cap, xs ++ news ++ ys.drop (xs.length + m), by rw [List.length_append, hml], hbg, ?_, ?_, by rw [List.length_append, hml]; exact hroom, hcm, ?_⟩, ⟨rfl, rfl, rfl, by simp, fun k _ hk => setRow_other w g k _ (fun e => hk (by simp [Value.ownBlock, e]))⟩, .inl rfl⟩
        · rw [setRow_heap w g _ _ e _ hh]
          congr 2
          apply Array.ext'
          rw [hlen, ← Nat.add_mul, flat_take hf, flat_drop hf, htk]
          simp
        · simp [hml, hl]; omega
        · rw [List.append_assoc, ← List.append_assoc]; exact List.take_left
      · have holds : ∀ j u, (xs.flatMap f)[j]? = some u → w.cell? ((⟨g, 0, none⟩ : Addr).add j) = some u := by
          intro j u hj
          have hadd : (⟨g, 0, none⟩ : Addr).add j = ⟨g, j, none⟩ := by unfold Addr.add; split <;> simp_all
          rw [hadd]
          simp only [World.cell?, hh]
          have : (ys.flatMap f)[j]? = some u := by
            have hlt := (List.getElem?_eq_some_iff.1 hj).1
            rw [← htk, ← flat_take hf, List.getElem?_take_of_lt] at hj
            · exact hj
            · rw [flat_length hf] at hlt; exact hlt
          simpa using this
        have hr := run_append_grow (P := P) w t ty e i z ht hi1 hi2 ⟨g, 0, none⟩ xs.length cap (xs.flatMap f) (flat_length hf xs) holds q m c (news.flatMap f) hlen hnews (by omega) (by omega) (hbytes _ (by omega))
        have hgr := grown cap (Value.ownBlock (.slice (some ⟨g, 0, none⟩) xs.length cap))
        exact ⟨_, _, hr, hgr.1, hgr.2, .inr ⟨rfl, (grown cap none).2⟩⟩


theorem wp_appK (E : EltT P t e f k bytes) {o : Oper} {a : Act} {K : Act → World → Prop} {Q : Exit → Act → World → Prop} {w : World} (s x : Operand)
    (ho : o.op = .call { callee := .builtin .append, args := #[s, x], argTypes := #[t, t] }) (base : Nat) (v : Value) (xs : List α) (hs : a.eval s = v) (hown : OwT f w base e v xs)
    (aa : Option Addr) (m c : Nat) (news : List α) (hx : a.eval x = .slice aa m c) (hsl : SlT f k w aa m c news)
    (h63 : xs.length + m ≤ maxLen) (hbytes : Fits (xs.length + m) bytes) (hbase : base ≤ w.heap.size)
    (h : ∀ v' w', OwT f w' base e v' (xs ++ news) → w.grownBy w' v.ownBlock → (v'.ownBlock = v.ownBlock ∨ (v'.ownBlock = some w.heap.size ∧ w.grownBy w' none)) → Below base w w' → K (a.put o.dst v') w') : o.wp P a w K Q := by
  obtain ⟨v', w', hr, h2, h3, h4⟩ := run_appK E w o.type base v xs hown aa m c news hsl h63 hbytes hbase
  unfold Oper.wp execOp
  simp only [ho, resolve, invoke, builtin, Sem.run_bind, Sem.run_pure, Result.andThen_ok, List.map_toArray, List.map_cons, List.map_nil, hs, hx, hr]
  exact h v' w' h2 h3 h4 ((Below.refl _ _).grown h3 hbase (fun k hk => (hown.lt k hk).1))

theorem wpList_appK (E : EltT P t e f k bytes) {ops : Array Oper} {rest : List Oper} {o : Oper} {a : Act} {Q : Exit → Act → World → Prop} {w : World} (hw : Region.wanted o (yielded ops a.tmps) = true) (s x : Operand)
    (ho : o.op = .call { callee := .builtin .append, args := #[s, x], argTypes := #[t, t] }) (base : Nat) (v : Value) (xs : List α) (hs : a.eval s = v) (hown : OwT f w base e v xs)
    (aa : Option Addr) (m c : Nat) (news : List α) (hx : a.eval x = .slice aa m c) (hsl : SlT f k w aa m c news)
    (h63 : xs.length + m ≤ maxLen) (hbytes : Fits (xs.length + m) bytes) (hbase : base ≤ w.heap.size) (ys : List α) (hy : xs ++ news = ys)
    (h : ∀ v' w', OwT f w' base e v' ys → w.grownBy w' v.ownBlock → (v'.ownBlock = v.ownBlock ∨ (v'.ownBlock = some w.heap.size ∧ w.grownBy w' none)) → Below base w w' → wpList P ops Q rest (a.put o.dst v') w') : wpList P ops Q (o :: rest) a w := by
  subst hy
  exact wpList_w hw fun _ hK => wp_appK E s x ho base v xs hs hown aa m c news hx hsl h63 hbytes hbase fun v' w' h2 h3 h4 h5 => hK _ _ (h v' w' h2 h3 h4 h5)

end
/-- what was appended to still reads as it did -/
theorem appK_old {w w' : World} {base : Nat} {a a' : Option Addr} {n n' c c' : Nat} {xs news : List UInt8} (h : OwT fB w base 5 (.slice a n c) xs) (h' : OwT fB w' base 5 (.slice a' n' c') (xs ++ news))
    (hv : Value.ownBlock (.slice a' n' c') = Value.ownBlock (.slice a n c) ∨ (Value.ownBlock (.slice a' n' c') = some w.heap.size ∧ w.grownBy w' none)) : Sl Bf w' a n c xs := by
  rcases hv with e | ⟨_, hg⟩
  · have s1 := h.slI
    have s2 := h'.slI
    refine ⟨s1.1, s1.2.1, s1.2.2.1, fun i x hx => ?_⟩
    obtain ⟨b, o, ha, hc⟩ := s1.2.2.2 i x hx
    have hi : (xs ++ news)[i]? = some x := by rw [List.getElem?_append_left (List.getElem?_eq_some_iff.1 hx).1]; exact hx
    obtain ⟨b2, o2, ha2, hc2⟩ := s2.2.2.2 i x hi
    have z1 : o = 0 := by
      rcases h with ⟨q, _⟩ | ⟨g, cap, ys, q, _⟩
      · injection q with q; rw [ha] at q; cases q
      · injection q with q; rw [ha] at q; injection q with q; injection q
    have z2 : o2 = 0 := by
      rcases h' with ⟨q, _⟩ | ⟨g, cap, ys, q, _⟩
      · injection q with q; rw [ha2] at q; cases q
      · injection q with q; rw [ha2] at q; injection q with q; injection q
    subst z1 z2 ha ha2
    have hb : b2 = b := by
      have e : (some b2 : Option Nat) = some b := e
      injection e
    subst hb
    exact ⟨b2, 0, rfl, hc2⟩
  · exact (h.of_block fun g hg2 => hg.block g (h.lt g hg2).2 (fun e => by cases e)).slI
end Go.Proofs.Yteedjgjkldbbcaa
