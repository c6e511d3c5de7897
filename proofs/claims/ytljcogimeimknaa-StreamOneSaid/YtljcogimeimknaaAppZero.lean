/- append(s, make([]T, k)...) onto a row of the call's own, elements of one cell. No condition. -/
import Derived.Test.YtljcogimeimknaaK8a
import Derived.Lib.AppendZerosOnto
namespace Go.Proofs.Ytljcogimeimknaa
open Go.RowKit
set_option linter.unusedVariables false
section
variable {α : Type} {f : α → List Value} {P : Program} {t tn e : TypeId} {bytes : Nat}
theorem zerosT_flat {z : Value} {x0 : α} (hf : (f x0).length = 1) (hz : z.cells.toList = f x0) (n : Nat) : (Builtin.zeroCells z.cells n).toList = (List.replicate n x0).flatMap f := zero_flat hf (by decide) hz n
theorem run_zeros (E : EltT P t e f 1 bytes) (htn : P.underlying tn = some (.int .i64)) (x0 : α) (hx0 : ∀ i z, P.info? e = some i → i.zero = some z → z.cells.toList = f x0) (w : World) (ty : TypeId) (base : Nat) (v : Value) (xs : List α) (hown : OwT f w base e v xs) (k : Nat)
    (h63 : xs.length + k ≤ maxLen) (hbytes : (xs.length + k) * bytes ≤ 140737488355328) (hbase : base ≤ w.heap.size) :
    ∃ v' w', (Builtin.append_ #[t, tn] ty #[v, .int .i64 k]).run P w = .ok v' w' ∧ OwT f w' base e v' (xs ++ List.replicate k x0) ∧ w.grownBy w' v.ownBlock ∧ (v'.ownBlock = v.ownBlock ∨ v'.ownBlock = some w.heap.size) := by
  obtain ⟨ht, ⟨i, z, hi1, hi2, hi3, hi4, y0, hz'⟩, hf, hk1, h1⟩ := E
  have hz := hx0 i z hi1 hi2
  have hsmall : xs.length + k ≤ 9223372036854775807 := by simp only [maxLen] at h63; omega
  have hfits : Fits (xs.length + k) bytes := .half hbytes
  have hkb : k * bytes ≤ 281474976710656 := by have : k * bytes ≤ (xs.length + k) * bytes := Nat.mul_le_mul_right _ (by omega); omega
  have hw : IntKind.i64.wrap (k : Int) = k := by rw [IntKind.wrap_i64]; omega
  have hneg : ¬ ((k : Int) < 0) := by omega
  have h48i : ¬ (281474976710656 < (k : Int) * (i.bytes : Int)) := by rw [← Int.natCast_mul, hi4]; omega
  have grown : ∀ (old : Nat) (row : Option Nat), xs.length + k ≤ maxLen →
      OwT f (w.drew.alloc (.cells ((xs.flatMap f).toArray ++ Builtin.zeroCells z.cells k ++ Builtin.zeroCells z.cells (grownCap w (xs.length + k) old e - (xs.length + k))) e)) base e
        (.slice (some ⟨w.heap.size, 0, none⟩) (xs.length + k) (grownCap w (xs.length + k) old e)) (xs ++ List.replicate k x0) ∧
      w.grownBy (w.drew.alloc (.cells ((xs.flatMap f).toArray ++ Builtin.zeroCells z.cells k ++ Builtin.zeroCells z.cells (grownCap w (xs.length + k) old e - (xs.length + k))) e)) row := by
    intro old row h63
    have hge := grownCap_ge w (xs.length + k) old e
    have hcm : grownCap w (xs.length + k) old e ≤ maxLen := grownCap_le_maxLen w (xs.length + k) old e h63
    refine ⟨.inr ⟨w.heap.size, _, xs ++ List.replicate k x0 ++ List.replicate (grownCap w (xs.length + k) old e - (xs.length + k)) x0, by simp, hbase, ?_, by simp; omega, by simp; omega, hcm, ?_⟩, ⟨rfl, rfl, rfl, by simp, fun j hj _ => Below.heap_alloc w.drew _ j hj⟩⟩
    · have : (w.drew.alloc (.cells ((xs.flatMap f).toArray ++ Builtin.zeroCells z.cells k ++ Builtin.zeroCells z.cells (grownCap w (xs.length + k) old e - (xs.length + k))) e)).heap[w.heap.size]? = _ := heap_new w.drew _
      rw [this]
      congr 2
      apply Array.ext'
      simp only [Array.toList_append, List.flatMap_append, zero_flat (hf x0) hk1 hz]
    · exact List.take_left
  by_cases hk0 : k = 0
  · subst hk0
    have hw0 : IntKind.i64.wrap 0 = 0 := rfl
    refine ⟨v, w, ?_, by simpa using hown, World.grownBy.refl _ _, .inl rfl⟩
    rcases hown with ⟨rfl, rfl⟩ | ⟨g, cap, ys, rfl, hg, hh, hl, hn, hc, htk⟩
    · simp [Builtin.append_, run_underlying ht, run_underlying htn, sizeOf, typeInfo, hi1, asInt, asIntOf, hw0]
    · simp [Builtin.append_, run_underlying ht, run_underlying htn, sizeOf, typeInfo, hi1, asInt, asIntOf, hw0, hn]
      rfl
  have hk' : 0 < k := by omega
  rcases hown with ⟨rfl, rfl⟩ | ⟨g, cap, ys, rfl, hbg, hh, hl, hn, hcm, htk⟩
  · have hr := Lib.run_append_nil_zeros (P := P) w t tn ty e i z .i64 .i64 ht htn hi1 hi2 k hk' (by omega) (by omega) (by rw [hi4]; omega)
    have hgr := grown 0 (Value.ownBlock (.slice none 0 0)) h63
    simp only [List.length_nil, Nat.zero_add, List.flatMap_nil, List.nil_append, Array.empty_append] at hgr ⊢
    exact ⟨_, _, hr, hgr.1, hgr.2, .inr rfl⟩
  · by_cases hroom : xs.length + k ≤ cap
    · have hcs : (ys.flatMap f).toArray.size = cap := by rw [List.size_toArray, flat_length hf, hl]; omega
      have hzl : (Builtin.zeroCells z.cells k).toList = (List.replicate k x0).flatMap f := zero_flat (hf x0) hk1 hz k
      have hlen : ((List.replicate k x0).flatMap f).length = k := by rw [flat_length hf]; simp
      have hone : ∀ u ∈ (List.replicate k x0).flatMap f, u.oneCell' = true := by
        intro u hu; obtain ⟨x, _, hxu⟩ := List.mem_flatMap.1 hu; exact h1 x u hxu
      have hst := run_storeCells_at P g (xs.length * i.size) e ((List.replicate k x0).flatMap f) 0 (ys.flatMap f).toArray w hh (by rw [hcs, hlen, hi3]; omega) hone
      simp only [Nat.add_zero] at hst
      have hns : ¬ (k * i.size = 0) := Nat.mul_ne_zero hk0 (by omega)
      have hr : (Builtin.append_ #[t, tn] ty #[.slice (some ⟨g, 0, none⟩) xs.length cap, .int .i64 k]).run P w = .ok (.slice (some ⟨g, 0, none⟩) (xs.length + k) cap) (w.setRow g ((ys.flatMap f).toArray.toList.take (xs.length * i.size) ++ (List.replicate k x0).flatMap f ++ (ys.flatMap f).toArray.toList.drop (xs.length * i.size + ((List.replicate k x0).flatMap f).length)).toArray) := by
        simp only [← hzl] at hst ⊢
        simp [Builtin.append_, run_underlying ht, run_underlying htn, sizeOf, typeInfo, zeroValue, hi1, hi2, asInt, asIntOf, hw, hneg, h48i, hroom, hns, Addr.add_lit] at hst ⊢
        simp [hst]
      refine ⟨_, _, hr, .inr ⟨g, cap, xs ++ List.replicate k x0 ++ ys.drop (xs.length + k), by simp, hbg, ?_, by simp [hl]; omega, by simp; omega, hcm, List.take_left⟩, ⟨rfl, rfl, rfl, by simp, fun k _ hk => setRow_other w g k _ (fun e => hk (by simp [Value.ownBlock, e]))⟩, .inl rfl⟩
      rw [setRow_heap w g _ _ e _ hh]
      congr 2
      apply Array.ext'
      rw [hlen, hi3]
      have e1 := flat_take hf ys xs.length
      have e2 := flat_drop hf ys (xs.length + k)
      simp only [Nat.mul_one] at e1 e2 ⊢
      rw [e1, e2, htk]
      simp
    · have holds : (Builtin.firstCells i.size xs.length (.slice (some ⟨g, 0, none⟩) xs.length cap)).run P w.drew = .ok (xs.flatMap f).toArray w.drew := by
        refine run_firstCells_some (P := P) w.drew i.size xs.length ⟨g, 0, none⟩ xs.length cap (xs.flatMap f) (by rw [flat_length hf, hi3]) fun j u hj => ?_
        have hadd : (⟨g, 0, none⟩ : Addr).add j = ⟨g, j, none⟩ := by unfold Addr.add; split <;> simp_all
        rw [hadd]
        show w.cell? _ = _
        simp only [World.cell?, hh]
        have : (ys.flatMap f)[j]? = some u := by
          have hlt := (List.getElem?_eq_some_iff.1 hj).1
          rw [← htk, ← flat_take hf, List.getElem?_take_of_lt] at hj
          · exact hj
          · rw [flat_length hf] at hlt; exact hlt
        simpa using this
      have hr := Lib.run_append_grow_zeros (P := P) w t tn ty e i z .i64 .i64 ht htn hi1 hi2 (some ⟨g, 0, none⟩) xs.length cap (xs.flatMap f) holds k hk' (by omega) (by omega) (by omega) (by rw [hi4]; omega) (by rw [hi4]; exact hfits _ (by omega))
      have hgr := grown cap (Value.ownBlock (.slice (some ⟨g, 0, none⟩) xs.length cap)) h63
      exact ⟨_, _, hr, hgr.1, hgr.2, .inr rfl⟩
theorem wpList_zeros (E : EltT P t e f 1 bytes) (htn : P.underlying tn = some (.int .i64)) (x0 : α) (hx0 : ∀ i z, P.info? e = some i → i.zero = some z → z.cells.toList = f x0) {ops : Array Oper} {rest : List Oper} {o : Oper} {a : Act} {Q : Exit → Act → World → Prop} {w : World}
    (hw : Region.wanted o (yielded ops a.tmps) = true) (s x : Operand) (ho : o.op = .call { callee := .builtin .append, args := #[s, x], argTypes := #[t, tn] }) (base : Nat) (v : Value) (xs : List α) (hs : a.eval s = v) (hown : OwT f w base e v xs)
    (k : Nat) (hx : a.eval x = .int .i64 k) (h63 : xs.length + k ≤ maxLen) (hbytes : (xs.length + k) * bytes ≤ 140737488355328) (hbase : base ≤ w.heap.size) (ys : List α) (hy : xs ++ List.replicate k x0 = ys)
    (h : ∀ v' w', OwT f w' base e v' ys → w.grownBy w' v.ownBlock → (v'.ownBlock = v.ownBlock ∨ v'.ownBlock = some w.heap.size) → Below base w w' → wpList P ops Q rest (a.put o.dst v') w') : wpList P ops Q (o :: rest) a w := by
  subst hy
  obtain ⟨v', w', hr, h2, h3, h4⟩ := run_zeros E htn x0 hx0 w o.type base v xs hown k h63 hbytes hbase
  refine wpList_w hw fun K hK => ?_
  unfold Oper.wp execOp
  simp only [ho, resolve, invoke, builtin, Sem.run_bind, Sem.run_pure, Result.andThen_ok, List.map_toArray, List.map_cons, List.map_nil, hs, hx, hr]
  exact hK _ _ (h v' w' h2 h3 h4 ((Below.refl _ _).grown h3 hbase (fun k hk => (hown.lt k hk).1)))
end
end Go.Proofs.Ytljcogimeimknaa
