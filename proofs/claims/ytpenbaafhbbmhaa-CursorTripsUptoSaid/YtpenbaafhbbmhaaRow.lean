/- Rows of typed elements of the call's own: what append, make and literals leave, spare places too; over any program. No condition. -/
import Derived.Test.YtpenbaafhbbmhaaMem
import Derived.Deep.DeepAppendWide
namespace Go.Proofs.Ytpenbaafhbbmhaa
open Go.RowKit

theorem flat_length {α : Type} {f : α → List Value} {k : Nat} (hf : ∀ x, (f x).length = k) : ∀ ys : List α, (ys.flatMap f).length = ys.length * k
  | [] => by simp
  | y :: ys => by simp only [List.flatMap_cons, List.length_append, hf, flat_length hf ys, List.length_cons]; rw [Nat.add_mul, Nat.one_mul, Nat.add_comm]
theorem flat_take {α : Type} {f : α → List Value} {k : Nat} (hf : ∀ x, (f x).length = k) : ∀ (ys : List α) (n : Nat), (ys.flatMap f).take (n * k) = (ys.take n).flatMap f
  | [], n => by simp
  | y :: ys, 0 => by simp
  | y :: ys, n + 1 => by
    simp only [List.flatMap_cons, List.take_succ_cons]
    rw [Nat.add_mul, Nat.one_mul, Nat.add_comm, List.take_append, hf, List.take_of_length_le (by rw [hf]; omega), show k + n * k - k = n * k from by omega, flat_take hf ys n]
theorem flat_drop {α : Type} {f : α → List Value} {k : Nat} (hf : ∀ x, (f x).length = k) : ∀ (ys : List α) (n : Nat), (ys.flatMap f).drop (n * k) = (ys.drop n).flatMap f
  | [], n => by simp
  | y :: ys, 0 => by simp
  | y :: ys, n + 1 => by
    simp only [List.flatMap_cons, List.drop_succ_cons]
    rw [Nat.add_mul, Nat.one_mul, Nat.add_comm, List.drop_append, hf, List.drop_eq_nil_of_le (by rw [hf]; omega), show k + n * k - k = n * k from by omega, flat_drop hf ys n]; rfl
theorem flat_get {α : Type} {f : α → List Value} {k : Nat} (hf : ∀ x, (f x).length = k) : ∀ (ys : List α) (i : Nat) (x : α) (j : Nat) (v : Value), ys[i]? = some x → (f x)[j]? = some v → (ys.flatMap f)[i * k + j]? = some v
  | [], i, x, j, v, hx, _ => by simp at hx
  | y :: ys, 0, x, j, v, hx, hv => by
    simp at hx; subst hx
    simp only [List.flatMap_cons, Nat.zero_mul, Nat.zero_add]
    rw [List.getElem?_append_left (List.getElem?_eq_some_iff.1 hv).1]; exact hv
  | y :: ys, i + 1, x, j, v, hx, hv => by
    simp only [List.getElem?_cons_succ] at hx
    simp only [List.flatMap_cons]
    rw [List.getElem?_append_right (by rw [hf, Nat.add_mul]; omega), hf, show (i + 1) * k + j - k = i * k + j from by rw [Nat.add_mul]; omega]
    exact flat_get hf ys i x j v hx hv
theorem flat_inv {α : Type} {f : α → List Value} {k : Nat} (hf : ∀ x, (f x).length = k) (hk : 0 < k) : ∀ (ys : List α) (i : Nat) (v : Value), (ys.flatMap f)[i]? = some v → ∃ x, ys[i / k]? = some x ∧ (f x)[i % k]? = some v
  | [], i, v, h => by simp at h
  | y :: ys, i, v, h => by
    simp only [List.flatMap_cons] at h
    by_cases hi : i < k
    · rw [List.getElem?_append_left (by rw [hf]; exact hi)] at h
      exact ⟨y, by rw [Nat.div_eq_of_lt hi]; rfl, by rw [Nat.mod_eq_of_lt hi]; exact h⟩
    · rw [List.getElem?_append_right (by rw [hf]; omega), hf] at h
      obtain ⟨x, h1, h2⟩ := flat_inv hf hk ys _ v h
      refine ⟨x, ?_, ?_⟩
      · have : i / k = (i - k) / k + 1 := by rw [Nat.sub_eq_of_eq_add (Nat.add_comm _ _ ▸ (Nat.sub_add_cancel (Nat.le_of_not_lt hi)).symm : i = (i - k) + k)] <;> exact (Nat.div_eq_sub_div hk (by omega))
        rw [this]; simpa using h1
      · have : i % k = (i - k) % k := (Nat.mod_eq_sub_mod (by omega))
        rw [this]; exact h2

/-- a slice of elements of k cells each reads as xs -/
def SlT {α : Type} (f : α → List Value) (k : Nat) (w : World) (a : Option Addr) (n c : Nat) (xs : List α) : Prop :=
  xs.length = n ∧ n ≤ c ∧ (a = none → c = 0) ∧ ∀ i x, xs[i]? = some x → ∃ b o, a = some ⟨b, o, none⟩ ∧ ∀ j v, (f x)[j]? = some v → w.cell? ⟨b, o + i * k + j, none⟩ = some v

theorem Sl.toT {α : Type} {g : α → Value} {w : World} {a : Option Addr} {n c : Nat} {xs : List α} (h : Sl g w a n c xs) : SlT (fun x => [g x]) 1 w a n c xs := by
  refine ⟨h.1, h.2.1, h.2.2.1, fun i x hx => ?_⟩
  obtain ⟨b, o, ha, hc⟩ := h.2.2.2 i x hx
  refine ⟨b, o, ha, fun j v hv => ?_⟩
  obtain rfl : j = 0 := by have := (List.getElem?_eq_some_iff.1 hv).1; simpa using this
  simp at hv; subst hv
  simpa using hc
theorem SlT.to1 {α : Type} {g : α → Value} {w : World} {a : Option Addr} {n c : Nat} {xs : List α} (h : SlT (fun x => [g x]) 1 w a n c xs) : Sl g w a n c xs := by
  refine ⟨h.1, h.2.1, h.2.2.1, fun i x hx => ?_⟩
  obtain ⟨b, o, ha, hc⟩ := h.2.2.2 i x hx
  exact ⟨b, o, ha, by simpa using hc 0 (g x) rfl⟩

theorem SlT.of_block {α : Type} {f : α → List Value} {k : Nat} {w w' : World} {a : Option Addr} {n c : Nat} {xs : List α} (h : SlT f k w a n c xs)
    (hb : ∀ b o, a = some ⟨b, o, none⟩ → 0 < n → w'.heap[b]? = w.heap[b]?) : SlT f k w' a n c xs := by
  obtain ⟨h1, h2, h3, h4⟩ := h
  refine ⟨h1, h2, h3, fun i x hx => ?_⟩
  obtain ⟨b, o, ha, hc⟩ := h4 i x hx
  have hi : i < xs.length := (List.getElem?_eq_some_iff.1 hx).1
  exact ⟨b, o, ha, fun j v hv => by rw [World.cell?_of_block (w := w) (hb b o ha (by omega))]; exact hc j v hv⟩
theorem SlT.keep {α : Type} {f : α → List Value} {k : Nat} (hf : ∀ x, (f x).length = k) (hk : 0 < k) {w w' : World} {a : Option Addr} {n c : Nat} {xs : List α} (h : SlT f k w a n c xs) (hb : Below w.heap.size w w') : SlT f k w' a n c xs :=
  h.of_block fun b o ha hn => by
    have hl : 0 < xs.length := by rw [h.1]; exact hn
    obtain ⟨b', o', e, hc⟩ := h.2.2.2 0 xs[0] (List.getElem?_eq_getElem hl)
    rw [ha] at e; cases e
    have h0 : 0 < (f xs[0]).length := by rw [hf]; exact hk
    exact hb.block b (cell_lt (hc 0 _ (List.getElem?_eq_getElem h0)))

/-- a row of the call's own: nil with nothing in it, or from the head of a block that holds typed elements up to its end -/
def OwT {α : Type} (f : α → List Value) (w : World) (base : Nat) (e : TypeId) (v : Value) (xs : List α) : Prop :=
  (v = .slice none 0 0 ∧ xs = []) ∨
  ∃ (g cap : Nat) (ys : List α), v = .slice (some ⟨g, 0, none⟩) xs.length cap ∧ base ≤ g ∧ w.heap[g]? = some (.cells (ys.flatMap f).toArray e (0, 0)) ∧ ys.length = cap ∧ xs.length ≤ cap ∧ cap ≤ maxLen ∧ ys.take xs.length = xs

theorem OwT.sl {α : Type} {f : α → List Value} {k : Nat} (hf : ∀ x, (f x).length = k) {w : World} {base : Nat} {e : TypeId} {v : Value} {xs : List α} (h : OwT f w base e v xs) :
    ∃ a c, v = .slice a xs.length c ∧ SlT f k w a xs.length c xs := by
  rcases h with ⟨rfl, rfl⟩ | ⟨g, cap, ys, rfl, hg, hh, hl, hn, hc, ht⟩
  · exact ⟨none, 0, rfl, rfl, Nat.le_refl _, fun _ => rfl, fun _ _ h => by simp at h⟩
  · refine ⟨_, cap, rfl, rfl, hn, by simp, fun i x hx => ⟨g, 0, rfl, fun j v hv => ?_⟩⟩
    have hi : i < xs.length := (List.getElem?_eq_some_iff.1 hx).1
    have hy : ys[i]? = some x := by rw [← ht] at hx; rwa [List.getElem?_take_of_lt hi] at hx
    simp only [World.cell?, hh, Nat.zero_add]
    simpa using flat_get hf ys i x j v hy hv

theorem OwT.lt {α : Type} {f : α → List Value} {w : World} {base : Nat} {e : TypeId} {v : Value} {xs : List α} (h : OwT f w base e v xs) : ∀ j, v.ownBlock = some j → base ≤ j ∧ j < w.heap.size := by
  intro j hj
  rcases h with ⟨rfl, rfl⟩ | ⟨g, cap, ys, rfl, hg, hh, _⟩
  · simp [Value.ownBlock] at hj
  · simp [Value.ownBlock] at hj; subst hj
    refine ⟨hg, ?_⟩
    rcases Nat.lt_or_ge g w.heap.size with h' | h'
    · exact h'
    · rw [Array.getElem?_eq_none h'] at hh; cases hh

theorem OwT.of_block {α : Type} {f : α → List Value} {w w' : World} {base : Nat} {e : TypeId} {v : Value} {xs : List α} (h : OwT f w base e v xs) (hb : ∀ g, v.ownBlock = some g → w'.heap[g]? = w.heap[g]?) : OwT f w' base e v xs := by
  rcases h with h | ⟨g, cap, ys, rfl, hg, hh, r⟩
  · exact .inl h
  · exact .inr ⟨g, cap, ys, rfl, hg, (hb g rfl).trans hh, r⟩
theorem OwT.keep {α : Type} {f : α → List Value} {w w' : World} {base : Nat} {e : TypeId} {v : Value} {xs : List α} (h : OwT f w base e v xs) (hb : Below w.heap.size w w') : OwT f w' base e v xs :=
  h.of_block fun g hg => hb.block g (h.lt g hg).2
theorem OwT.grown {α : Type} {f : α → List Value} {w w' : World} {row : Option Nat} {base : Nat} {e : TypeId} {v : Value} {xs : List α} (h : OwT f w base e v xs) (hb : w.grownBy w' row) (hne : v.ownBlock = none ∨ row ≠ v.ownBlock) : OwT f w' base e v xs :=
  h.of_block fun g hg => hb.block g (h.lt g hg).2 (fun e => by rcases hne with h' | h'; · rw [h'] at hg; cases hg
                                                               · exact h' (e.symm.trans hg.symm))
theorem OwT.base {α : Type} {f : α → List Value} {w : World} {base base' : Nat} {e : TypeId} {v : Value} {xs : List α} (h : OwT f w base e v xs) (hb : base' ≤ base) : OwT f w base' e v xs := by
  rcases h with h | ⟨g, cap, ys, rfl, hg, r⟩
  · exact .inl h
  · exact .inr ⟨g, cap, ys, rfl, Nat.le_trans hb hg, r⟩
theorem OwT.drew {α : Type} {f : α → List Value} {w : World} {base : Nat} {e : TypeId} {v : Value} {xs : List α} (h : OwT f w base e v xs) : OwT f w.drew base e v xs := h
theorem OwT.drewN {α : Type} {f : α → List Value} {w : World} {base : Nat} {e : TypeId} {v : Value} {xs : List α} (h : OwT f w base e v xs) (n : Nat) : OwT f (w.drewN n) base e v xs := h
theorem OwT.nil {α : Type} (f : α → List Value) (w : World) (base : Nat) (e : TypeId) : OwT f w base e (.slice none 0 0) ([] : List α) := .inl ⟨rfl, rfl⟩
theorem OwT.alloc {α : Type} {f : α → List Value} {w : World} {base : Nat} {e : TypeId} {v : Value} {xs : List α} (h : OwT f w base e v xs) (o : Obj) : OwT f (w.alloc o) base e v xs :=
  h.keep ((Below.refl _ _).alloc (Nat.le_refl _) o)
/-- a literal -/
theorem OwT.lit {α : Type} (f : α → List Value) (w : World) (base : Nat) (e : TypeId) (cur : Array Value) (xs : List α) (n : Nat) (hl : xs.length = n) (hx : cur.toList = xs.flatMap f) (hb : base ≤ w.heap.size) (hm : n ≤ maxLen) :
    OwT f (w.alloc (.cells cur e)) base e (.slice (some ⟨w.heap.size, 0, none⟩) n n) xs := by
  subst hl
  exact .inr ⟨w.heap.size, xs.length, xs, rfl, hb, by rw [heap_new, ← hx], rfl, Nat.le_refl _, hm, List.take_of_length_le (Nat.le_refl _)⟩

/-! ### the element type -/
structure EltT {α : Type} (P : Program) (t e : TypeId) (f : α → List Value) (k bytes : Nat) : Prop where
  ht : P.underlying t = some (.slice e)
  hi : ∃ i z, P.info? e = some i ∧ i.zero = some z ∧ i.size = k ∧ i.bytes = bytes ∧ ∃ x0, z.cells.toList = f x0
  hf : ∀ x, (f x).length = k
  hk : 0 < k
  h1 : ∀ x, ∀ u ∈ f x, u.oneCell' = true

theorem EltT.mk1 {α : Type} {P : Program} {t e : TypeId} {g : α → Value} {bytes : Nat} {z : Value} (ht : P.underlying t = some (.slice e))
    (hi : (P.info? e).map (fun i => (i.zero, i.size, i.bytes)) = some (some z, 1, bytes)) (x0 : α) (hz : z.cells.toList = [g x0]) (h1 : ∀ x, (g x).oneCell' = true) : EltT P t e (fun x => [g x]) 1 bytes := by
  obtain ⟨i, hi1, hi2, hi3, hi4⟩ := info_parts hi
  exact ⟨ht, ⟨i, z, hi1, hi2, hi3, hi4, x0, hz⟩, fun _ => rfl, by decide, fun x u hu => by simp at hu; subst hu; exact h1 x⟩

theorem zero_flat {α : Type} {f : α → List Value} {k : Nat} {z : Value} {x0 : α} (hf : (f x0).length = k) (hk : 0 < k) (hz : z.cells.toList = f x0) (n : Nat) : (Builtin.zeroCells z.cells n).toList = (List.replicate n x0).flatMap f := by
  have hsz : z.cells.size = k := by rw [← Array.length_toList, hz]; exact hf
  apply List.ext_getElem?
  intro i
  have hl1 : (Builtin.zeroCells z.cells n).toList.length = n * k := by rw [Array.length_toList, size_zeroCells, hsz]
  have hl2 : ((List.replicate n x0).flatMap f).length = n * k := by
    induction n with
    | zero => simp
    | succ n ih => rw [List.replicate_succ, List.flatMap_cons, List.length_append, hf, ih (by rw [Array.length_toList, size_zeroCells, hsz]), Nat.add_mul, Nat.one_mul, Nat.add_comm]
  by_cases hi : i < n * k
  · have hik : i % k < k := Nat.mod_lt _ hk
    have hdiv : i / k < n := Nat.div_lt_of_lt_mul (by rw [Nat.mul_comm]; exact hi)
    have e1 : (Builtin.zeroCells z.cells n).toList[i]? = (f x0)[i % k]? := by
      have hlen : i < (List.range (n * z.cells.size)).length := by rw [List.length_range, hsz]; exact hi
      simp only [Builtin.zeroCells, Array.toList_map, Array.toList_range, List.getElem?_map]
      rw [List.getElem?_eq_getElem hlen, List.getElem_range, hsz, ← hz]
      have hm : i % k < z.cells.size := by rw [hsz]; exact hik
      simp [hm]
    have hj : ∃ v, (f x0)[i % k]? = some v := ⟨_, List.getElem?_eq_getElem (by rw [hf]; exact hik)⟩
    obtain ⟨v, hv⟩ := hj
    rw [e1, hv]
    have : ∀ (n i : Nat), i < n * k → ((List.replicate n x0).flatMap f)[i]? = (f x0)[i % k]? := by
      intro n
      induction n with
      | zero => intro i h; simp at h
      | succ n ih =>
        intro i h
        rw [List.replicate_succ, List.flatMap_cons]
        by_cases hlt : i < k
        · rw [List.getElem?_append_left (by rw [hf]; exact hlt), Nat.mod_eq_of_lt hlt]
        · rw [List.getElem?_append_right (by rw [hf]; omega), hf, ih (i - k) (by rw [Nat.add_mul] at h; omega), ← Nat.mod_eq_sub_mod (by omega)]
    rw [this n i hi, hv]
  · rw [List.getElem?_eq_none (by omega), List.getElem?_eq_none (by omega)]

section
variable {α : Type} {f : α → List Value} {P : Program} {t e : TypeId} {k bytes : Nat}

theorem SlT.news {w : World} {q : Addr} {m c : Nat} {news : List α} (hf : ∀ x, (f x).length = k) (hk : 0 < k) (hx : SlT f k w (some q) m c news) :
    ∀ j u, (news.flatMap f)[j]? = some u → w.cell? (q.add j) = some u := by
  intro j u hj
  obtain ⟨x, h1, h2⟩ := flat_inv hf hk news j u hj
  obtain ⟨b, o, hq, hc⟩ := hx.2.2.2 _ x h1
  cases hq
  have e1 := hc _ _ h2
  have e2 : o + j / k * k + j % k = o + j := by have := Nat.div_add_mod j k; rw [Nat.mul_comm] at this; omega
  rw [e2] at e1
  have : (⟨b, o, none⟩ : Addr).add j = ⟨b, o + j, none⟩ := by unfold Addr.add; split <;> simp_all
  rw [this]; exact e1

/-- however the row grew to this length, its new capacity is within the largest allocation -/
def Fits (need bytes : Nat) : Prop := ∀ old, old < need → Builtin.nextslicecap need old * bytes ≤ 281474976710656
theorem Fits.half {need bytes : Nat} (hb : need * bytes ≤ 140737488355328) : Fits need bytes := fun _ h => growslice_fits h hb
theorem Fits.wide {need bytes : Nat} (hb : (need + need / 4 + 192) * bytes ≤ 281474976710656) : Fits need bytes := fun _ h => growslice_fits_wide h hb

theorem run_appG (E : EltT P t e f k bytes) (w : World) (ty : TypeId) (base : Nat) (v : Value) (xs : List α) (hown : OwT f w base e v xs) (aa : Option Addr) (m c : Nat) (news : List α)
    (hx : SlT f k w aa m c news) (h63 : xs.length + m ≤ maxLen) (hbytes : Fits (xs.length + m) bytes) (hbase : base ≤ w.heap.size) :
    ∃ v' w', (Builtin.append_ #[t, t] ty #[v, .slice aa m c]).run P w = .ok v' w' ∧ OwT f w' base e v' (xs ++ news) ∧ w.grownBy w' v.ownBlock ∧
      (v'.ownBlock = v.ownBlock ∨ v'.ownBlock = some w.heap.size) := by
  obtain ⟨ht, ⟨i, z, hi1, hi2, hi3, hi4, x0, hz⟩, hf, hk, h1⟩ := E
  subst hi3; subst hi4
  have hml : news.length = m := hx.1
  cases aa with
  | none =>
    have hc0 := hx.2.2.1 rfl
    have hm0 : m = 0 := by have := hx.2.1; omega
    subst hm0 hc0
    have hn : news = [] := List.eq_nil_of_length_eq_zero hml
    subst hn
    refine ⟨v, w, ?_, by simpa using hown, World.grownBy.refl _ _, .inl rfl⟩
    rcases hown with ⟨rfl, rfl⟩ | ⟨g, cap, ys, rfl, hg, hh, hl, hn, hc, htk⟩
    · simp [Builtin.append_, run_underlying ht, sizeOf, typeInfo, hi1, Builtin.lenOf, Builtin.firstCells]
    · simp [Builtin.append_, run_underlying ht, sizeOf, typeInfo, hi1, Builtin.lenOf, Builtin.firstCells, hn]
      rfl
  | some q =>
    have hnews := hx.news hf hk
    have hlen : (news.flatMap f).length = m * i.size := by rw [flat_length hf, hml]
    have hone : ∀ u ∈ news.flatMap f, u.oneCell' = true := by
      intro u hu; obtain ⟨x, _, hxu⟩ := List.mem_flatMap.1 hu; exact h1 x u hxu
    have hsmall : xs.length + m ≤ 9223372036854775807 := by simp only [maxLen] at h63; omega
    have grown : ∀ (old : Nat) (row : Option Nat),
        OwT f (w.drew.alloc (.cells ((xs.flatMap f).toArray ++ (news.flatMap f).toArray ++ Builtin.zeroCells z.cells (grownCap w (xs.length + m) old e - (xs.length + m))) e)) base e
          (.slice (some ⟨w.heap.size, 0, none⟩) (xs.length + m) (grownCap w (xs.length + m) old e)) (xs ++ news) ∧
        w.grownBy (w.drew.alloc (.cells ((xs.flatMap f).toArray ++ (news.flatMap f).toArray ++ Builtin.zeroCells z.cells (grownCap w (xs.length + m) old e - (xs.length + m))) e)) row := by
      intro old row
      have hge := grownCap_ge w (xs.length + m) old e
      have hcm : grownCap w (xs.length + m) old e ≤ maxLen := grownCap_le_maxLen w (xs.length + m) old e h63
      refine ⟨.inr ⟨w.heap.size, _, xs ++ news ++ List.replicate (grownCap w (xs.length + m) old e - (xs.length + m)) x0, by rw [List.length_append, hml], hbase, ?_, ?_, ?_, hcm, ?_⟩, ⟨rfl, rfl, rfl, by simp, fun j hj _ => Below.heap_alloc w.drew _ j hj⟩⟩
      · have : (w.drew.alloc (.cells ((xs.flatMap f).toArray ++ (news.flatMap f).toArray ++ Builtin.zeroCells z.cells (grownCap w (xs.length + m) old e - (xs.length + m))) e)).heap[w.heap.size]? = _ := heap_new w.drew _
        rw [this]
        congr 2
        apply Array.ext'
        simp only [Array.toList_append, List.flatMap_append, zero_flat (hf x0) hk hz]
      · simp [hml]; omega
      · simp [hml]; omega
      · rw [List.append_assoc, ← List.append_assoc]; exact List.take_left
    rcases hown with ⟨rfl, rfl⟩ | ⟨g, cap, ys, rfl, hbg, hh, hl, hn, hcm, htk⟩
    · by_cases hm : m = 0
      · subst hm
        have hn : news = [] := List.eq_nil_of_length_eq_zero hml
        subst hn
        refine ⟨.slice none 0 0, w, ?_, .inl ⟨rfl, rfl⟩, World.grownBy.refl _ _, .inl rfl⟩
        simp [Builtin.append_, run_underlying ht, sizeOf, typeInfo, hi1, Builtin.lenOf, Builtin.firstCells, loadCells, loadCellsFrom]
      · have hr := run_append_nil (P := P) w t ty e i z ht hi1 hi2 q m c (news.flatMap f) hlen hnews (by omega) (by simp at hsmall; omega) (by have hb := hbytes 0 (by simp; omega); simp only [List.length_nil, Nat.zero_add] at hb; rw [nextslicecap_zero (by omega)] at hb; exact hb)
        have hgr := grown 0 (Value.ownBlock (.slice none 0 0))
        simp only [List.length_nil, Nat.zero_add, List.flatMap_nil, List.nil_append, Array.empty_append] at hgr ⊢
        exact ⟨_, _, hr, hgr.1, hgr.2, .inr rfl⟩
    · by_cases hroom : xs.length + m ≤ cap
      · have hcs : (ys.flatMap f).toArray.size = cap * i.size := by rw [List.size_toArray, flat_length hf, hl]
        have hfit : xs.length * i.size + (news.flatMap f).length ≤ (ys.flatMap f).toArray.size := by rw [hcs, hlen, ← Nat.add_mul]; exact Nat.mul_le_mul_right _ hroom
        have hr := run_append_room (P := P) w t ty e i ht hi1 g xs.length cap _ hh q m c (news.flatMap f) hlen hnews hone hroom hfit
        refine ⟨_, _, hr, .inr ⟨g, cap, xs ++ news ++ ys.drop (xs.length + m), by rw [List.length_append, hml], hbg, ?_, ?_, by rw [List.length_append, hml]; exact hroom, hcm, ?_⟩, ⟨rfl, rfl, rfl, by simp, fun k _ hk => setRow_other w g k _ (fun e => hk (by simp [Value.ownBlock, e]))⟩, .inl rfl⟩
        · rw [setRow_heap w g _ _ e _ hh]
          congr 2
          apply Array.ext'
          rw [hlen, ← Nat.add_mul, flat_take hf, flat_drop hf, htk]
          simp
        · simp [hml, hl]; omega
        · rw [List.append_assoc, ← List.append_assoc]; exact List.take_left
      · have holds : ∀ j u, (xs.flatMap f)[j]? = some u → w.cell? ((⟨g, 0, none⟩ : Addr).add j) = some u := by
          intro j u hj
          have hadd : (⟨g, 0, none⟩ : Addr).add j = ⟨g, j, none⟩ := by unfold Addr.add; split <;> simp_all
          rw [hadd]
          simp only [World.cell?, hh]
          have : (ys.flatMap f)[j]? = some u := by
            have hlt := (List.getElem?_eq_some_iff.1 hj).1
            rw [← htk, ← flat_take hf, List.getElem?_take_of_lt] at hj
            · exact hj
            · rw [flat_length hf] at hlt; exact hlt
          simpa using this
        have hr := run_append_grow (P := P) w t ty e i z ht hi1 hi2 ⟨g, 0, none⟩ xs.length cap (xs.flatMap f) (flat_length hf xs) holds q m c (news.flatMap f) hlen hnews (by omega) (by omega) (hbytes _ (by omega))
        have hgr := grown cap (Value.ownBlock (.slice (some ⟨g, 0, none⟩) xs.length cap))
        exact ⟨_, _, hr, hgr.1, hgr.2, .inr rfl⟩


theorem wp_appG (E : EltT P t e f k bytes) {o : Oper} {a : Act} {K : Act → World → Prop} {Q : Exit → Act → World → Prop} {w : World} (s x : Operand)
    (ho : o.op = .call { callee := .builtin .append, args := #[s, x], argTypes := #[t, t] }) (base : Nat) (v : Value) (xs : List α) (hs : a.eval s = v) (hown : OwT f w base e v xs)
    (aa : Option Addr) (m c : Nat) (news : List α) (hx : a.eval x = .slice aa m c) (hsl : SlT f k w aa m c news)
    (h63 : xs.length + m ≤ maxLen) (hbytes : Fits (xs.length + m) bytes) (hbase : base ≤ w.heap.size)
    (h : ∀ v' w', OwT f w' base e v' (xs ++ news) → w.grownBy w' v.ownBlock → (v'.ownBlock = v.ownBlock ∨ v'.ownBlock = some w.heap.size) → Below base w w' → K (a.put o.dst v') w') : o.wp P a w K Q := by
  obtain ⟨v', w', hr, h2, h3, h4⟩ := run_appG E w o.type base v xs hown aa m c news hsl h63 hbytes hbase
  unfold Oper.wp execOp
  simp only [ho, resolve, invoke, builtin, Sem.run_bind, Sem.run_pure, Result.andThen_ok, List.map_toArray, List.map_cons, List.map_nil, hs, hx, hr]
  exact h v' w' h2 h3 h4 ((Below.refl _ _).grown h3 hbase (fun k hk => (hown.lt k hk).1))

theorem wpList_appG (E : EltT P t e f k bytes) {ops : Array Oper} {rest : List Oper} {o : Oper} {a : Act} {Q : Exit → Act → World → Prop} {w : World} (hw : Region.wanted o (yielded ops a.tmps) = true) (s x : Operand)
    (ho : o.op = .call { callee := .builtin .append, args := #[s, x], argTypes := #[t, t] }) (base : Nat) (v : Value) (xs : List α) (hs : a.eval s = v) (hown : OwT f w base e v xs)
    (aa : Option Addr) (m c : Nat) (news : List α) (hx : a.eval x = .slice aa m c) (hsl : SlT f k w aa m c news)
    (h63 : xs.length + m ≤ maxLen) (hbytes : Fits (xs.length + m) bytes) (hbase : base ≤ w.heap.size) (ys : List α) (hy : xs ++ news = ys)
    (h : ∀ v' w', OwT f w' base e v' ys → w.grownBy w' v.ownBlock → (v'.ownBlock = v.ownBlock ∨ v'.ownBlock = some w.heap.size) → Below base w w' → wpList P ops Q rest (a.put o.dst v') w') : wpList P ops Q (o :: rest) a w := by
  subst hy
  exact wpList_w hw fun _ hK => wp_appG E s x ho base v xs hs hown aa m c news hx hsl h63 hbytes hbase fun v' w' h2 h3 h4 h5 => hK _ _ (h v' w' h2 h3 h4 h5)

theorem step_appG (E : EltT P t e f k bytes) {ops : Array Oper} {o : Oper} {a : Act} {K : Act → World → Prop} {Q : Exit → Act → World → Prop} {F : Prop} {w : World} (hw : Region.wanted o (yielded ops a.tmps) = true) (s x : Operand)
    (ho : o.op = .call { callee := .builtin .append, args := #[s, x], argTypes := #[t, t] }) (base : Nat) (v : Value) (xs : List α) (hs : a.eval s = v) (hown : OwT f w base e v xs)
    (aa : Option Addr) (m c : Nat) (news : List α) (hx : a.eval x = .slice aa m c) (hsl : SlT f k w aa m c news)
    (h63 : xs.length + m ≤ maxLen) (hbytes : Fits (xs.length + m) bytes) (hbase : base ≤ w.heap.size) (ys : List α) (hy : xs ++ news = ys)
    (h : ∀ v' w', OwT f w' base e v' ys → w.grownBy w' v.ownBlock → (v'.ownBlock = v.ownBlock ∨ v'.ownBlock = some w.heap.size) → Below base w w' → K (a.put o.dst v') w') :
    if Region.wanted o (yielded ops a.tmps) = true then Oper.wp P o a w K Q else F := by
  subst hy
  rw [if_pos hw]
  exact wp_appG E s x ho base v xs hs hown aa m c news hx hsl h63 hbytes hbase h

theorem wpList_appT (E : EltT P t e f k bytes) {ops : Array Oper} {rest : List Oper} {o : Oper} {a : Act} {Q : Exit → Act → World → Prop} {w : World} (hw : Region.wanted o (yielded ops a.tmps) = true) (s x : Operand)
    (ho : o.op = .call { callee := .builtin .append, args := #[s, x], argTypes := #[t, t] }) (base : Nat) (v : Value) (xs : List α) (hs : a.eval s = v) (hown : OwT f w base e v xs)
    (aa : Option Addr) (m c : Nat) (news : List α) (hx : a.eval x = .slice aa m c) (hsl : SlT f k w aa m c news)
    (h63 : xs.length + m ≤ maxLen) (hbytes : (xs.length + m) * bytes ≤ 140737488355328) (hbase : base ≤ w.heap.size) (ys : List α) (hy : xs ++ news = ys)
    (h : ∀ v' w', OwT f w' base e v' ys → w.grownBy w' v.ownBlock → (v'.ownBlock = v.ownBlock ∨ v'.ownBlock = some w.heap.size) → Below base w w' → wpList P ops Q rest (a.put o.dst v') w') : wpList P ops Q (o :: rest) a w :=
  wpList_appG E hw s x ho base v xs hs hown aa m c news hx hsl h63 (.half hbytes) hbase ys hy h

theorem step_appT (E : EltT P t e f k bytes) {ops : Array Oper} {o : Oper} {a : Act} {K : Act → World → Prop} {Q : Exit → Act → World → Prop} {F : Prop} {w : World} (hw : Region.wanted o (yielded ops a.tmps) = true) (s x : Operand)
    (ho : o.op = .call { callee := .builtin .append, args := #[s, x], argTypes := #[t, t] }) (base : Nat) (v : Value) (xs : List α) (hs : a.eval s = v) (hown : OwT f w base e v xs)
    (aa : Option Addr) (m c : Nat) (news : List α) (hx : a.eval x = .slice aa m c) (hsl : SlT f k w aa m c news)
    (h63 : xs.length + m ≤ maxLen) (hbytes : (xs.length + m) * bytes ≤ 140737488355328) (hbase : base ≤ w.heap.size) (ys : List α) (hy : xs ++ news = ys)
    (h : ∀ v' w', OwT f w' base e v' ys → w.grownBy w' v.ownBlock → (v'.ownBlock = v.ownBlock ∨ v'.ownBlock = some w.heap.size) → Below base w w' → K (a.put o.dst v') w') :
    if Region.wanted o (yielded ops a.tmps) = true then Oper.wp P o a w K Q else F :=
  step_appG E hw s x ho base v xs hs hown aa m c news hx hsl h63 (.half hbytes) hbase ys hy h

theorem made_flat {z : Value} {x0 : α} (hf : (f x0).length = k) (hk : 0 < k) (hz : z.cells.toList = f x0) (n : Nat) : (madeCells z.cells (n * k)).toList = (List.replicate n x0).flatMap f := by
  have hsz : z.cells.size = k := by rw [← Array.length_toList, hz]; exact hf
  rw [← zero_flat hf hk hz n]
  simp only [madeCells, Builtin.zeroCells, hsz]

/-- make([]T, l, n) -/
theorem wpList_mkT (E : EltT P t e f k bytes) {ops : Array Oper} {rest : List Oper} {o : Oper} {a : Act} {Q : Exit → Act → World → Prop} {w : World} (hw : Region.wanted o (yielded ops a.tmps) = true) (l c : Operand)
    (ho : o.op = Op.makeSlice t l c) (base r n : Nat) (hrn : r ≤ n) {kl kc : IntKind} {L C : Int} (hl : a.eval l = .int kl L) (hc : a.eval c = .int kc C) (hL : L = (r : Int)) (hC : C = (n : Int)) (hb : bytes * n ≤ 281474976710656) (hm : n ≤ maxLen) (hbase : base ≤ w.heap.size)
    (h : ∀ x0 w', w'.heap[w.heap.size]? = some (.cells ((List.replicate n x0).flatMap f).toArray e (0, 0)) → OwT f w' base e (.slice (some ⟨w.heap.size, 0, none⟩) r n) (List.replicate r x0) → (∃ i z, P.info? e = some i ∧ i.zero = some z ∧ z.cells.toList = f x0) → Below w.heap.size w w' → wpList P ops Q rest (a.put o.dst (.slice (some ⟨w.heap.size, 0, none⟩) r n)) w') : wpList P ops Q (o :: rest) a w := by
  obtain ⟨ht, ⟨i, z, hi1, hi2, hi3, hi4, x0, hz⟩, hf, hk, h1⟩ := E
  refine wpList_w hw fun K hK => ?_
  subst hL hC
  have hm' : n ≤ 9223372036854775807 := by simp only [maxLen] at hm; omega
  have hr := run_make (P := P) w t e i z ht hi1 hi2 kl kc (r : Int) (n : Int) (by omega) (by omega) (by rw [hi4]; omega) (by omega)
  unfold Oper.wp
  simp [execOp, ho, hl, hc, hr, Result.andThen]
  have hcells : Obj.cells (madeCells z.cells (n * i.size)) e = Obj.cells ((List.replicate n x0).flatMap f).toArray e (0, 0) := by
    congr 1
    apply Array.ext'
    rw [hi3, made_flat (hf x0) hk hz]
  refine hK _ _ (h x0 _ ?_ (.inr ⟨w.heap.size, n, List.replicate n x0, by simp, hbase, ?_, by simp, by simpa using hrn, hm, ?_⟩) ⟨i, z, hi1, hi2, hz⟩ ((Below.refl _ _).alloc (Nat.le_refl _) _))
  · rw [heap_new, hcells]
  · rw [heap_new, hcells]
  · simp; omega

end
end Go.Proofs.Ytpenbaafhbbmhaa
