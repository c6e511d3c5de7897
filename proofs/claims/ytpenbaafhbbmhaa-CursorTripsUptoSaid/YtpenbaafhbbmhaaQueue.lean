/- A queue of bytes: a row of the owner's own, cut from its head: what it reads as, append and cut. No condition. -/
import Derived.Test.YtpenbaafhbbmhaaTurnsS
namespace Go.Proofs.Ytpenbaafhbbmhaa
open Go.RowKit
set_option maxRecDepth 100000
set_option linter.unusedVariables false

/-- a queue: nothing, or from a place of an own block on -/
def QuB (w : World) (base : Nat) (v : Value) (xs : List UInt8) : Prop :=
  (v = .slice none 0 0 ∧ xs = []) ∨ ∃ (g o cap : Nat) (ys : List UInt8), v = .slice (some ⟨g, o, none⟩) xs.length cap ∧ base ≤ g ∧ w.heap[g]? = some (.cells (ys.map Bf).toArray 5 (0, 0)) ∧ o + cap ≤ ys.length ∧ xs.length ≤ cap ∧ cap ≤ maxLen ∧ (ys.drop o).take xs.length = xs
section
variable {w w' : World} {base base' : Nat} {v : Value} {xs : List UInt8}
theorem QuB.nil (w : World) (base : Nat) : QuB w base (.slice none 0 0) [] := .inl ⟨rfl, rfl⟩
theorem QuB.of_own (h : OwT fB w base 5 v xs) : QuB w base v xs := by
  rcases h with h | ⟨g, cap, ys, rfl, hg, hh, hl, hn, hc, ht⟩
  · exact .inl h
  · exact .inr ⟨g, 0, cap, ys, rfl, hg, by rw [← flat_fB]; exact hh, by omega, hn, hc, by rw [List.drop_zero]; exact ht⟩
theorem QuB.lt (h : QuB w base v xs) : ∀ j, v.ownBlock = some j → base ≤ j ∧ j < w.heap.size := by
  intro j hj
  rcases h with ⟨rfl, rfl⟩ | ⟨g, o, cap, ys, rfl, hg, hh, _⟩
  · simp [Value.ownBlock] at hj
  · simp [Value.ownBlock] at hj; subst hj
    exact ⟨hg, (Array.getElem?_eq_some_iff.1 hh).1⟩
theorem QuB.of_block (h : QuB w base v xs) (hb : ∀ g, v.ownBlock = some g → w'.heap[g]? = w.heap[g]?) : QuB w' base v xs := by
  rcases h with h | ⟨g, o, cap, ys, rfl, hg, hh, r⟩
  · exact .inl h
  · exact .inr ⟨g, o, cap, ys, rfl, hg, (hb g rfl).trans hh, r⟩
theorem QuB.keep (h : QuB w base v xs) (hb : Below w.heap.size w w') : QuB w' base v xs := h.of_block fun g hg => hb.block g (h.lt g hg).2
theorem QuB.turns {S : Nat → Prop} (h : QuB w base v xs) (ht : Turns S w w') (hs : ∀ j, v.ownBlock = some j → ¬ S j) : QuB w' base v xs := h.of_block fun j hj => ht.block j (h.lt j hj).2 (hs j hj)
theorem QuB.sl (h : QuB w base v xs) : ∃ a c, v = .slice a xs.length c ∧ Sl Bf w a xs.length c xs := by
  rcases h with ⟨rfl, rfl⟩ | ⟨g, o, cap, ys, rfl, hg, hh, hl, hn, hc, ht⟩
  · exact ⟨none, 0, rfl, Sl.nil _ _⟩
  · refine ⟨_, cap, rfl, rfl, hn, by simp, fun i x hx => ⟨g, o, rfl, ?_⟩⟩
    have hi : i < xs.length := (List.getElem?_eq_some_iff.1 hx).1
    have hy : ys[o + i]? = some x := by rw [← ht, List.getElem?_take_of_lt hi, List.getElem?_drop] at hx; exact hx
    simp only [World.cell?, hh]
    simp [hy]
theorem QuB.slN (h : QuB w base v xs) : ∃ a n c, v = .slice a n c ∧ Sl Bf w a n c xs := by
  obtain ⟨a, c, hv, hs⟩ := h.sl
  exact ⟨a, _, c, hv, hs⟩
/-- the head is cut off -/
theorem QuB.cut {a : Option Addr} {n c : Nat} (h : QuB w base (.slice a n c) xs) (k : Nat) (hk : k ≤ n) : QuB w base (.slice (adv a c k) (n - k) (c - k)) (xs.drop k) := by
  rcases h with ⟨hv, rfl⟩ | ⟨g, o, cap, ys, hv, hg, hh, hl, hn, hc, ht⟩
  · cases hv
    obtain rfl : k = 0 := by omega
    exact .inl ⟨by rw [adv_zero], rfl⟩
  · cases hv
    unfold adv
    by_cases hck : c = k
    · rw [if_pos hck]
      have hx : xs.drop k = [] := List.drop_of_length_le (by omega)
      refine .inr ⟨g, o, c - k, ys, by rw [hx, show xs.length - k = 0 by omega]; rfl, hg, hh, by omega, by rw [hx]; exact Nat.zero_le _, by omega, by rw [hx]; rfl⟩
    · rw [if_neg hck]
      have e0 : (⟨g, o, none⟩ : Addr).add k = ⟨g, o + k, none⟩ := by unfold Addr.add; split <;> simp_all
      refine .inr ⟨g, o + k, c - k, ys, by rw [Option.map_some, e0, List.length_drop], hg, hh, by omega, by rw [List.length_drop]; omega, by omega, ?_⟩
      rw [List.length_drop, ← List.drop_drop]
      conv => rhs; rw [← ht]
      rw [List.drop_take]
end
section
variable {P : Program} (w : World)
theorem run_append_roomO (t ty e : TypeId) (i : TypeInfo) (ht : P.underlying t = some (.slice e)) (hi : P.info? e = some i) (hs1 : i.size = 1)
    (g o sLen sCap : Nat) (cur : Array Value) (hg : w.heap[g]? = some (.cells cur e (0, 0)))
    (a : Addr) (m c : Nat) (news : List Value) (hl : news.length = m) (hnews : ∀ j u, news[j]? = some u → w.cell? (a.add j) = some u) (h1 : ∀ u ∈ news, u.oneCell' = true)
    (hroom : sLen + m ≤ sCap) (hfit : o + sLen + news.length ≤ cur.size) :
    (Builtin.append_ #[t, t] ty #[.slice (some ⟨g, o, none⟩) sLen sCap, .slice (some a) m c]).run P w =
      .ok (.slice (some ⟨g, o, none⟩) (sLen + m) sCap) (w.setRow g (cur.toList.take (o + sLen) ++ news ++ cur.toList.drop (o + sLen + news.length)).toArray) := by
  have hf := run_firstCells_some (P := P) w i.size m a m c news (by rw [hs1, Nat.mul_one]; exact hl) hnews
  have hst := run_storeCells_at P g (o + sLen) e news 0 cur w hg (by simpa using hfit) h1
  simp only [Nat.add_zero] at hst
  simp [Builtin.append_, run_underlying ht, sizeOf, typeInfo, hi, hs1, Builtin.lenOf, hroom, Addr.add_lit, hst]
  rw [hs1] at hf
  simp [hf, hst]
end
theorem run_appQ (w : World) (ty : TypeId) (base : Nat) (v : Value) (xs : List UInt8) (hq : QuB w base v xs) (aa : Option Addr) (m c : Nat) (news : List UInt8)
    (hx : Sl Bf w aa m c news) (hb : xs.length + m ≤ 140737488355328) (hbase : base ≤ w.heap.size) :
    ∃ v' w', (Builtin.append_ #[22, 22] ty #[v, .slice aa m c]).run Try.prog w = .ok v' w' ∧ QuB w' base v' (xs ++ news) ∧ w.grownBy w' v.ownBlock ∧ (v'.ownBlock = v.ownBlock ∨ v'.ownBlock = some w.heap.size) := by
  rcases hq with ⟨rfl, rfl⟩ | ⟨g, o, cap, ys, rfl, hbg, hh, hl, hn, hc, ht⟩
  · obtain ⟨v', w', h1, h2, h3, h4⟩ := run_appG eltTB w ty base (.slice none 0 0) [] (OwT.nil _ _ _ _) aa m c news hx.toT (by simp only [maxLen]; omega) (.half (by omega)) hbase
    exact ⟨v', w', h1, .of_own h2, h3, h4⟩
  · have hml : news.length = m := hx.len
    obtain ⟨ht1, ⟨i, z, hi1, hi2, hi3, hi4, x0, hz⟩, -, -, hone⟩ := eltTB
    have hi4' := hi4
    cases aa with
    | none =>
      have hc0 := hx.2.2.1 rfl
      have hm0 : m = 0 := by have := hx.2.1; omega
      subst hm0 hc0
      have hnn : news = [] := List.eq_nil_of_length_eq_zero hml
      subst hnn
      refine ⟨_, w, ?_, by rw [List.append_nil]; exact .inr ⟨g, o, cap, ys, rfl, hbg, hh, hl, hn, hc, ht⟩, World.grownBy.refl _ _, .inl rfl⟩
      simp [Builtin.append_, run_underlying ht1, sizeOf, typeInfo, hi1, Builtin.lenOf, Builtin.firstCells, hn]
      rfl
    | some q =>
      have hnews : ∀ j u, (news.map Bf)[j]? = some u → w.cell? (q.add j) = some u := by
        have := hx.toT.news fB_len Nat.one_pos
        rwa [flat_fB] at this
      have hone' : ∀ u ∈ news.map Bf, u.oneCell' = true := by
        intro u hu; obtain ⟨x, _, rfl⟩ := List.mem_map.1 hu; rfl
      by_cases hroom : xs.length + m ≤ cap
      · have hr := run_append_roomO (P := Try.prog) w 22 ty 5 i ht1 hi1 hi3 g o xs.length cap _ hh q m c (news.map Bf) (by rw [List.length_map]; exact hml) hnews hone' hroom (by simp [hml]; omega)
        refine ⟨_, _, hr, .inr ⟨g, o, cap, ys.take (o + xs.length) ++ news ++ ys.drop (o + xs.length + m), by rw [List.length_append, hml], hbg, ?_, ?_, by rw [List.length_append, hml]; exact hroom, hc, ?_⟩, ⟨rfl, rfl, rfl, by simp, fun k _ hk => setRow_other w g k _ (fun e => hk (by simp [Value.ownBlock, e]))⟩, .inl rfl⟩
        · rw [setRow_heap w g _ _ 5 _ hh]
          congr 2
          apply Array.ext'
          simp [hml]
        · simp [hml]; omega
        · rw [List.append_assoc, List.drop_append_of_le_length (by simp; omega), List.drop_take, show o + xs.length - o = xs.length by omega, ht, ← List.append_assoc, List.length_append, ← List.length_append]
          exact List.take_left
      · have holds : ∀ j u, (xs.map Bf)[j]? = some u → w.cell? ((⟨g, o, none⟩ : Addr).add j) = some u := by
          intro j u hj
          have hadd : (⟨g, o, none⟩ : Addr).add j = ⟨g, o + j, none⟩ := by unfold Addr.add; split <;> simp_all
          rw [hadd]
          have hlt := (List.getElem?_eq_some_iff.1 hj).1
          rw [List.length_map] at hlt
          have hy : (ys.map Bf)[o + j]? = some u := by
            rw [← ht, List.map_take, List.getElem?_take_of_lt hlt, List.map_drop, List.getElem?_drop] at hj
            exact hj
          simp only [World.cell?, hh]
          simpa using hy
        have hr := run_append_grow (P := Try.prog) w 22 ty 5 i z ht1 hi1 hi2 ⟨g, o, none⟩ xs.length cap (xs.map Bf) (by rw [List.length_map, hi3, Nat.mul_one]) holds q m c (news.map Bf) (by rw [List.length_map, hi3, Nat.mul_one]; exact hml) hnews (by omega) (by omega) (by rw [hi4]; exact Fits.half (bytes := 1) (by omega) _ (by omega))
        have hge := grownCap_ge w (xs.length + m) cap 5
        have hcm : grownCap w (xs.length + m) cap 5 ≤ maxLen := grownCap_le_maxLen w (xs.length + m) cap 5 (by simp only [maxLen]; omega)
        refine ⟨_, _, hr, .inr ⟨w.heap.size, 0, _, xs ++ news ++ List.replicate (grownCap w (xs.length + m) cap 5 - (xs.length + m)) x0, by rw [List.length_append, hml], hbase, ?_, ?_, ?_, hcm, ?_⟩, ⟨rfl, rfl, rfl, by simp, fun j hj _ => Below.heap_alloc w.drew _ j hj⟩, .inr rfl⟩
        · have : (w.drew.alloc (.cells ((xs.map Bf).toArray ++ (news.map Bf).toArray ++ Builtin.zeroCells z.cells (grownCap w (xs.length + m) cap 5 - (xs.length + m))) 5)).heap[w.heap.size]? = _ := heap_new w.drew _
          rw [this]
          congr 2
          apply Array.ext'
          have hzf := zero_flat (f := fB) (x0 := x0) rfl Nat.one_pos hz (grownCap w (xs.length + m) cap 5 - (xs.length + m))
          simp only [Array.toList_append, List.map_append]
          rw [hzf, flat_fB]
        · simp [hml]; omega
        · simp [hml]; omega
        · rw [List.drop_zero]; exact List.take_left
theorem wpList_appQ {ops : Array Oper} {rest : List Oper} {o : Oper} {a : Act} {Q : Exit → Act → World → Prop} {w : World} (hw : Region.wanted o (yielded ops a.tmps) = true) (s x : Operand)
    (ho : o.op = .call { callee := .builtin .append, args := #[s, x], argTypes := #[22, 22] }) (base : Nat) (v : Value) (xs : List UInt8) (hs : a.eval s = v) (hq : QuB w base v xs)
    (aa : Option Addr) (m c : Nat) (news : List UInt8) (hx : a.eval x = .slice aa m c) (hsl : Sl Bf w aa m c news)
    (hb : xs.length + m ≤ 140737488355328) (hbase : base ≤ w.heap.size) (ys : List UInt8) (hy : xs ++ news = ys)
    (h : ∀ v' w', QuB w' base v' ys → w.grownBy w' v.ownBlock → (v'.ownBlock = v.ownBlock ∨ v'.ownBlock = some w.heap.size) → wpList Try.prog ops Q rest (a.put o.dst v') w') : wpList Try.prog ops Q (o :: rest) a w := by
  subst hy
  refine wpList_w hw fun K hK => ?_
  obtain ⟨v', w', hr, h2, h3, h4⟩ := run_appQ w o.type base v xs hq aa m c news hsl hb hbase
  unfold Oper.wp execOp
  simp only [ho, resolve, invoke, builtin, Sem.run_bind, Sem.run_pure, Result.andThen_ok, List.map_toArray, List.map_cons, List.map_nil, hs, hx, hr]
  exact hK _ _ (h v' w' h2 h3 h4)
end Go.Proofs.Ytpenbaafhbbmhaa
