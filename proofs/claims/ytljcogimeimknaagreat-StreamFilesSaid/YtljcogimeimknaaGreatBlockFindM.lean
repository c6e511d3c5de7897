/- What is found in a block: plain words. No condition. -/
import Derived.Test.YtljcogimeimknaaGreatF8t
import Derived.Test.YtljcogimeimknaaGreatF8q
namespace Go.Proofs.YtljcogimeimknaaGreat
set_option linter.unusedVariables false

/-- what the table tells of restart i of m -/
def plc (b : List UInt8) (m i : Nat) : Nat := (b.getD (b.length - 2 * m + 2 * i) 0).toNat + 256 * (b.getD (b.length - 2 * m + 2 * i + 1) 0).toNat
/-- is restart i of m above the key? -/
def fpr (b key : List UInt8) (m i : Nat) : Bool := decide ((erd [] b (plc b m i)).2.2 ≠ 0) || decide (0 < cmp (erd [] b (plc b m i)).1.1 key)
/-- where the search begins -/
def RSf (b key : List UInt8) (n i at' : Nat) : Prop :=
  (b.length < 2 * ((n + 7) / 8) → i = 0 ∧ at' = 0) ∧ (¬ b.length < 2 * ((n + 7) / 8) → ∃ r, r ≤ (n + 7) / 8 ∧ (r = 0 ∨ fpr b key ((n + 7) / 8) (r - 1) = false) ∧ (r = (n + 7) / 8 ∨ fpr b key ((n + 7) / 8) r = true) ∧ i = r - 1 ∧ at' = plc b ((n + 7) / 8) i)
/-- t entries from number d on -/
def fgo (b key : List UInt8) : Nat → Nat → List UInt8 → Nat → Option (List UInt8) × Int
  | 0, _, _, _ => (none, 0)
  | t + 1, d, last, m =>
    if (erd (if d % 8 = 0 then [] else last) b m).2.2 ≠ 0 then (none, (erd (if d % 8 = 0 then [] else last) b m).2.2)
    else if (erd (if d % 8 = 0 then [] else last) b m).1.1 = key then (some (erd (if d % 8 = 0 then [] else last) b m).1.2, 0)
    else fgo b key t (d + 1) (erd (if d % 8 = 0 then [] else last) b m).1.1 (erd (if d % 8 = 0 then [] else last) b m).2.1
section
variable {b key last : List UInt8} {t d m q : Nat} {x : Ent} {e : Int}
theorem fgo_end : fgo b key 0 d last m = (none, 0) := rfl
theorem fgo_no (h : erd (if d % 8 = 0 then [] else last) b m = (x, q, e)) (he : e ≠ 0) : fgo b key (t + 1) d last m = (none, e) := by
  conv => lhs; unfold fgo
  rw [h]; exact if_pos he
theorem fgo_is (h : erd (if d % 8 = 0 then [] else last) b m = (x, q, 0)) (hx : x.1 = key) : fgo b key (t + 1) d last m = (some x.2, 0) := by
  conv => lhs; unfold fgo
  rw [h]; exact (if_neg (fun e => e rfl)).trans (if_pos hx)
theorem fgo_go (h : erd (if d % 8 = 0 then [] else last) b m = (x, q, 0)) (hx : x.1 ≠ key) : fgo b key (t + 1) d last m = fgo b key t (d + 1) x.1 q := by
  conv => lhs; unfold fgo
  rw [h]; exact (if_neg (fun e => e rfl)).trans (if_neg hx)
end
/-- what is found, and the error -/
def FindR (b key : List UInt8) (ov : Option (List UInt8)) (er : Int) : Prop :=
  ∃ (n q : Nat) (e : Int), rd b 0 0 = (n, q, e) ∧ ((e ≠ 0 ∧ ov = none ∧ er = e) ∨ (e = 0 ∧ (n < 1 ∨ 64 < n) ∧ ov = none ∧ er = 61) ∨
    (e = 0 ∧ ¬ (n < 1 ∨ 64 < n) ∧ ∃ i at', RSf b key n i at' ∧ fgo b key (min n (8 * i + 8) - 8 * i) (8 * i) [] at' = (ov, er)))
def lfind : List Ent → List UInt8 → Option (List UInt8)
  | [], _ => none
  | e :: r, k => if e.1 = k then some e.2 else lfind r k
theorem lfind_none : ∀ (l : List Ent) (k : List UInt8), (∀ e, e ∈ l → e.1 ≠ k) → lfind l k = none
  | [], _, _ => rfl
  | e :: r, k, h => by
    unfold lfind
    rw [if_neg (h e (List.mem_cons_self))]
    exact lfind_none r k fun x hx => h x (List.mem_cons_of_mem _ hx)
theorem lfind_app : ∀ (x y : List Ent) (k : List UInt8), (∀ e, e ∈ x → e.1 ≠ k) → lfind (x ++ y) k = lfind y k
  | [], _, _, _ => rfl
  | e :: r, y, k, h => by
    rw [List.cons_append]
    conv => lhs; unfold lfind
    rw [if_neg (h e (List.mem_cons_self))]
    exact lfind_app r y k fun x hx => h x (List.mem_cons_of_mem _ hx)
theorem lfind_end : ∀ (x y : List Ent) (k : List UInt8), (∀ e, e ∈ y → e.1 ≠ k) → lfind (x ++ y) k = lfind x k
  | [], y, k, h => lfind_none y k h
  | e :: r, y, k, h => by
    rw [List.cons_append]
    unfold lfind
    split
    · rfl
    · exact lfind_end r y k h
theorem lfind_win {l : List Ent} {k : List UInt8} {a t : Nat} (h : ∀ j e, l[j]? = some e → j < a ∨ a + t ≤ j → e.1 ≠ k) : lfind ((l.drop a).take t) k = lfind l k := by
  conv => rhs; rw [← List.take_append_drop a l]
  rw [lfind_app _ _ _ fun e he => by
    obtain ⟨j, hj⟩ := List.getElem?_of_mem he
    have hl := (List.getElem?_eq_some_iff.1 hj).1
    rw [List.length_take] at hl
    rw [List.getElem?_take_of_lt (by omega)] at hj
    exact h j e hj (.inl (by omega))]
  conv => rhs; rw [← List.take_append_drop t (l.drop a)]
  rw [lfind_end _ _ _ fun e he => by
    obtain ⟨j, hj⟩ := List.getElem?_of_mem he
    rw [List.drop_drop, List.getElem?_drop] at hj
    exact h _ e hj (.inr (by omega))]
/-- a block of entries: where entry k stands -/
def pos (l : List Ent) (k : Nat) : Nat := 1 + (bst (l.take k)).body.length
section
variable {l : List Ent} (hn : ¬ (l.length < 1 ∨ 64 < l.length)) (hs : (srt l).2 = 0)
include hn hs
theorem pos_le (k : Nat) (hk : k ≤ l.length) : pos l k ≤ 22401 := by
  have := (bst_le (l.take k) ((srt_okay hs).take k)).1
  rw [List.length_take] at this
  unfold pos
  have h64 : min k l.length ≤ 64 := by omega
  have : 350 * min k l.length ≤ 350 * 64 := Nat.mul_le_mul_left _ h64
  omega
theorem fbody (k : Nat) (x : Ent) (hx : l[k]? = some x) : bld l = (vb l.length ++ (bst (l.take k)).body) ++ (ebytes (bP k (bst (l.take k)).last) x ++ (bbody (bAdd (bst (l.take k)) x) (l.drop (k + 1)) ++ (bst l).tab)) := by
  have hne : l ≠ [] := by intro e; subst e; simp at hn
  have hlk : k < l.length := (List.getElem?_eq_some_iff.1 hx).1
  have h1 : (bst l).body = (bst (l.take k)).body ++ bbody (bst (l.take k)) (l.drop k) := by
    have := fold_body (l.drop k) (bst (l.take k))
    rw [← this]
    show (bst l).body = (List.foldl bAdd (List.foldl bAdd BS0 (l.take k)) (l.drop k)).body
    rw [← List.foldl_append, List.take_append_drop]; rfl
  have h2 : l.drop k = x :: l.drop (k + 1) := by
    obtain ⟨h, rfl⟩ := List.getElem?_eq_some_iff.1 hx
    exact List.drop_eq_getElem_cons h
  have h3 : (bst (l.take k)).n = k := by rw [bst_n, List.length_take]; omega
  rw [bld_some hne, h1, h2]
  show vb l.length ++ ((bst (l.take k)).body ++ (ebytes (bP (bst (l.take k)).n (bst (l.take k)).last) x ++ _)) ++ _ = _
  rw [h3]
  simp only [List.append_assoc]
theorem pos_read (k : Nat) (x : Ent) (hx : l[k]? = some x) : pread (bP k (bst (l.take k)).last) (bld l) (pos l k) = (x, pos l (k + 1), 0) := by
  have hA : (vb l.length ++ (bst (l.take k)).body).length = pos l k := by
    rw [List.length_append, vb_lt (show l.length < 128 by omega)]; rfl
  obtain ⟨h1, h2⟩ := srt_adds hs k x hx
  have hok := chk_zero h1
  have hlast := (bst_le (l.take k) ((srt_okay hs).take k)).2.2
  obtain ⟨xk, xv⟩ := x
  dsimp only at hok h2
  have hpl : (bP k (bst (l.take k)).last).length < 18446744073709551616 := by
    unfold bP
    split
    · exact Nat.zero_lt_succ _
    · omega
  have hc : chk (xk, xv) = 0 ∧ ((bP k (bst (l.take k)).last).length = 0 ∨ cmp (bP k (bst (l.take k)).last) xk < 0) := by
    refine ⟨h1, ?_⟩
    unfold bP
    split
    · exact .inl rfl
    · right
      have : ¬ (0 ≤ cmp (bst (l.take k)).last xk) := fun e => h2 ⟨by omega, e⟩
      omega
  have := written_yes (vb l.length ++ (bst (l.take k)).body) (bbody (bAdd (bst (l.take k)) (xk, xv)) (l.drop (k + 1)) ++ (bst l).tab) hpl (show xk.length < _ by omega) (show xv.length < _ by omega) hc
  rw [← fbody hn hs k (xk, xv) hx, hA] at this
  rw [this]
  have hb : (bst (l.take (k + 1))).body = (bst (l.take k)).body ++ ebytes (bP k (bst (l.take k)).last) (xk, xv) := by
    rw [bst_take hx]
    show (bst (l.take k)).body ++ ebytes (bP (bst (l.take k)).n (bst (l.take k)).last) (xk, xv) = _
    have hlk : k < l.length := (List.getElem?_eq_some_iff.1 hx).1
    rw [show (bst (l.take k)).n = k by rw [bst_n, List.length_take]; omega]
  congr 1
  congr 1
  show _ = 1 + (bst (l.take (k + 1))).body.length
  rw [hb, List.length_append]
  unfold pos; omega
theorem pos_in (k : Nat) (hk : k ≤ l.length) : pos l k ≤ (bld l).length := by
  have hne : l ≠ [] := by intro e; subst e; simp at hn
  rw [bld_some hne]
  simp only [List.length_append]
  have hb : (bst l).body = (bst (l.take k)).body ++ bbody (bst (l.take k)) (l.drop k) := by
    have := fold_body (l.drop k) (bst (l.take k))
    rw [← this]
    show (bst l).body = (List.foldl bAdd (List.foldl bAdd BS0 (l.take k)) (l.drop k)).body
    rw [← List.foldl_append, List.take_append_drop]; rfl
  have := vb_pos l.length
  rw [hb, List.length_append]
  unfold pos; omega
theorem tab_len (k : Nat) (hk : k ≤ l.length) : (bst (l.take k)).tab.length = 2 * ((k + 7) / 8) := by
  have h1' := hn
  have h2' := hs
  induction k with
  | zero => rfl
  | succ k ih =>
    obtain ⟨x, hx⟩ : ∃ x, l[k]? = some x := ⟨_, List.getElem?_eq_getElem (by omega)⟩
    have ih := ih (by omega)
    rw [bst_take hx]
    show ((bst (l.take k)).tab ++ bMark (bst (l.take k)).n ((bst (l.take k)).body.length + 1)).length = _
    rw [List.length_append, ih, show (bst (l.take k)).n = k by rw [bst_n, List.length_take]; omega]
    unfold bMark
    split
    · show _ + 2 = _; omega
    · show _ + 0 = _; omega
theorem tab_pre (k : Nat) (hk : k ≤ l.length) : ∃ y, (bst l).tab = (bst (l.take k)).tab ++ y := by
  have h1' := hn
  have h2' := hs
  have : ∀ (r : List Ent) (s : BS), ∃ y, (r.foldl bAdd s).tab = s.tab ++ y := by
    intro r
    induction r with
    | nil => exact fun s => ⟨[], by simp⟩
    | cons e r ih =>
      intro s
      obtain ⟨y, hy⟩ := ih (bAdd s e)
      exact ⟨bMark s.n (s.body.length + 1) ++ y, by rw [List.foldl_cons, hy]; show (s.tab ++ bMark s.n (s.body.length + 1)) ++ y = _; rw [List.append_assoc]⟩
  obtain ⟨y, hy⟩ := this (l.drop k) (bst (l.take k))
  refine ⟨y, ?_⟩
  rw [← hy]
  show (bst l).tab = (List.foldl bAdd (List.foldl bAdd BS0 (l.take k)) (l.drop k)).tab
  rw [← List.foldl_append, List.take_append_drop]; rfl
theorem tab_at (i : Nat) (hi : 8 * i < l.length) : (bst l).tab[2 * i]? = some (UInt8.ofNat (pos l (8 * i))) ∧ (bst l).tab[2 * i + 1]? = some (UInt8.ofNat (pos l (8 * i) / 256)) := by
  obtain ⟨x, hx⟩ : ∃ x, l[8 * i]? = some x := ⟨_, List.getElem?_eq_getElem hi⟩
  obtain ⟨y, hy⟩ := tab_pre hn hs (8 * i + 1) (by omega)
  have h1 := tab_len hn hs (8 * i) (by omega)
  have h2 : (bst (l.take (8 * i + 1))).tab = (bst (l.take (8 * i))).tab ++ [UInt8.ofNat (pos l (8 * i)), UInt8.ofNat (pos l (8 * i) / 256)] := by
    rw [bst_take hx]
    show (bst (l.take (8 * i))).tab ++ bMark (bst (l.take (8 * i))).n ((bst (l.take (8 * i))).body.length + 1) = _
    rw [show (bst (l.take (8 * i))).n = 8 * i by rw [bst_n, List.length_take]; omega]
    unfold bMark
    rw [if_pos (by omega), show (bst (l.take (8 * i))).body.length + 1 = pos l (8 * i) by unfold pos; omega]
  have h3 : (bst (l.take (8 * i))).tab.length = 2 * i := by rw [h1]; omega
  rw [hy, h2, List.append_assoc]
  refine ⟨?_, ?_⟩
  · rw [List.getElem?_append_right (by omega), h3, Nat.sub_self]; rfl
  · rw [List.getElem?_append_right (by omega), h3, show 2 * i + 1 - 2 * i = 1 by omega]; rfl
theorem plc_pos (i : Nat) (hi : 8 * i < l.length) : plc (bld l) ((l.length + 7) / 8) i = pos l (8 * i) ∧ ¬ (bld l).length < 2 * ((l.length + 7) / 8) := by
  have hne : l ≠ [] := by intro e; subst e; simp at hn
  have ht := tab_len hn hs l.length (Nat.le_refl _)
  rw [List.take_length] at ht
  obtain ⟨h1, h2⟩ := tab_at hn hs i hi
  have hl : (bld l).length = (vb l.length ++ (bst l).body).length + 2 * ((l.length + 7) / 8) := by rw [bld_some hne, List.length_append, ht]
  have hp := pos_le hn hs (8 * i) (by omega)
  refine ⟨?_, by omega⟩
  unfold plc
  rw [show (bld l).length - 2 * ((l.length + 7) / 8) = (vb l.length ++ (bst l).body).length by omega]
  have g : ∀ j, (bld l)[(vb l.length ++ (bst l).body).length + j]? = (bst l).tab[j]? := fun j => by
    rw [bld_some hne, List.getElem?_append_right (by omega), Nat.add_sub_cancel_left]
  rw [List.getD_eq_getElem?_getD, List.getD_eq_getElem?_getD, g, show (vb l.length ++ (bst l).body).length + 2 * i + 1 = (vb l.length ++ (bst l).body).length + (2 * i + 1) by omega, g, h1, h2]
  show (UInt8.ofNat (pos l (8 * i))).toNat + 256 * (UInt8.ofNat (pos l (8 * i) / 256)).toNat = _
  rw [UInt8.toNat_ofNat', UInt8.toNat_ofNat']
  omega
theorem up_one (k : Nat) (x y : Ent) (hx : l[k]? = some x) (hy : l[k + 1]? = some y) : cmp x.1 y.1 < 0 := by
  have h1' := hn
  have h2' := hs
  obtain ⟨_, h2⟩ := srt_adds hs (k + 1) y hy
  have : (bst (l.take (k + 1))).last = x.1 := by rw [bst_take hx]; rfl
  rw [this] at h2
  have : ¬ (0 ≤ cmp x.1 y.1) := fun e => h2 ⟨by omega, e⟩
  omega
theorem up_all (j : Nat) (x : Ent) (hx : l[j]? = some x) : ∀ (d : Nat) (y : Ent), l[j + d]? = some y → cmp x.1 y.1 ≤ 0 ∧ (0 < d → cmp x.1 y.1 < 0)
  | 0, y, hy => by
    rw [Nat.add_zero, hx] at hy
    cases hy
    exact ⟨by rw [cmp_self]; omega, fun h => by omega⟩
  | d + 1, y, hy => by
    obtain ⟨z, hz⟩ : ∃ z, l[j + d]? = some z := ⟨_, List.getElem?_eq_getElem (by have := (List.getElem?_eq_some_iff.1 hy).1; omega)⟩
    have h1 := (up_all j x hx d z hz).1
    have h2 := up_one hn hs (j + d) z y hz hy
    obtain ⟨h3, h4⟩ := cmp_trans x.1 z.1 y.1 h1 (by omega)
    have h5 : cmp x.1 y.1 ≠ 0 := fun e => by
      have e0 := h4 e
      have e1 := cmp_zero _ _ e0
      rw [← e1] at h2
      omega
    exact ⟨h3, fun _ => by omega⟩
theorem fgo_run (key : List UInt8) : ∀ (t k : Nat) (last : List UInt8), k + t ≤ l.length → (k % 8 = 0 ∨ last = (bst (l.take k)).last) → fgo (bld l) key t k last (pos l k) = (lfind ((l.drop k).take t) key, 0)
  | 0, k, last, _, _ => by rw [List.take_zero]; rfl
  | t + 1, k, last, hk, hl => by
    obtain ⟨x, hx⟩ : ∃ x, l[k]? = some x := ⟨_, List.getElem?_eq_getElem (by omega)⟩
    have hp := pos_read hn hs k x hx
    have he : erd (if k % 8 = 0 then [] else last) (bld l) (pos l k : Nat) = (x, pos l (k + 1), 0) := by
      unfold erd
      rw [if_pos ⟨by omega, by have := pos_in hn hs k (by omega); omega⟩, Int.toNat_natCast, ← hp]
      unfold bP
      split
      · rfl
      · rcases hl with h | h
        · omega
        · rw [h]
    have h2 : l.drop k = x :: l.drop (k + 1) := by
      obtain ⟨h, rfl⟩ := List.getElem?_eq_some_iff.1 hx
      exact List.drop_eq_getElem_cons h
    rw [h2, List.take_succ_cons]
    by_cases hxk : x.1 = key
    · rw [fgo_is he hxk]
      unfold lfind
      rw [if_pos hxk]
    · rw [fgo_go he hxk]
      conv => rhs; unfold lfind
      rw [if_neg hxk]
      exact fgo_run key t (k + 1) x.1 (by omega) (.inr (by rw [bst_take hx]; rfl))
end
theorem find_law {b key : List UInt8} {l : List Ent} {q : Nat} {ov : Option (List UInt8)} {er : Int} (hb : b.length < 18446744073709551616) (h : bread b = (l, q, 0)) (hf : FindR b key ov er) : ov = lfind l key ∧ er = 0 := by
  obtain ⟨hn, hs, rfl⟩ := bread_back hb h
  have hne : l ≠ [] := by intro e; subst e; simp at hn
  have hrd : ∃ z, rd (bld l) 0 0 = (l.length, z, 0) := ⟨_, by rw [bld_some hne, List.append_assoc, rd_vb1 l.length _ (by omega)]⟩
  obtain ⟨z, hrd⟩ := hrd
  obtain ⟨n, q', e, hr, hc⟩ := hf
  rw [hrd] at hr
  simp only [Prod.mk.injEq] at hr
  obtain ⟨rfl, rfl, rfl⟩ := hr
  rcases hc with ⟨h1, _⟩ | ⟨_, h1, _⟩ | ⟨_, _, i, at', hR, hg⟩
  · exact absurd rfl h1
  · exact absurd h1 hn
  obtain ⟨m, hm⟩ : ∃ m, (l.length + 7) / 8 = m := ⟨_, rfl⟩
  have hP : ∀ i, 8 * i < l.length → plc (bld l) m i = pos l (8 * i) := fun i hi => by rw [← hm]; exact (plc_pos hn hs i hi).1
  have hnot : ¬ (bld l).length < 2 * m := by rw [← hm]; exact (plc_pos hn hs 0 (by omega)).2
  unfold RSf at hR
  rw [hm] at hR
  obtain ⟨r, hr, hlo, hhi, rfl, rfl⟩ := hR.2 hnot
  have hi8 : 8 * (r - 1) < l.length := by omega
  have hE : ∀ i, 8 * i < l.length → ∃ x, l[8 * i]? = some x ∧ (fpr (bld l) key m i = true ↔ 0 < cmp x.1 key) := fun i hi => by
    obtain ⟨x, hx⟩ : ∃ x, l[8 * i]? = some x := ⟨_, List.getElem?_eq_getElem hi⟩
    refine ⟨x, hx, ?_⟩
    have hp := pos_read hn hs (8 * i) x hx
    rw [show bP (8 * i) (bst (l.take (8 * i))).last = [] from if_pos (by omega)] at hp
    have he : erd [] (bld l) (pos l (8 * i) : Nat) = (x, pos l (8 * i + 1), 0) := by
      unfold erd
      rw [if_pos ⟨by omega, by have := pos_in hn hs (8 * i) (by omega); omega⟩, Int.toNat_natCast, hp]
    unfold fpr
    rw [hP i hi, he]
    simp
  rw [hP _ hi8, fgo_run hn hs key _ _ [] (by omega) (.inl (by omega))] at hg
  simp only [Prod.mk.injEq] at hg
  refine ⟨?_, hg.2.symm⟩
  rw [← hg.1]
  refine lfind_win fun j e hj hjo hek => ?_
  rcases hjo with hjo | hjo
  · obtain ⟨x, hx, hfx⟩ := hE (r - 1) hi8
    have h0 : fpr (bld l) key m (r - 1) = false := by
      rcases hlo with h | h
      · subst h; omega
      · exact h
    have hxk : ¬ 0 < cmp x.1 key := fun h => by rw [hfx.2 h] at h0; cases h0
    have h1 := (up_all hn hs j e hj (8 * (r - 1) - j) x (by rw [show j + (8 * (r - 1) - j) = 8 * (r - 1) by omega]; exact hx)).2 (by omega)
    rw [hek] at h1
    have := cmp_neg x.1 key
    omega
  · have hjl := (List.getElem?_eq_some_iff.1 hj).1
    have hrm : r ≠ m := by
      intro e
      subst e
      omega
    obtain ⟨x, hx, hfx⟩ := hE r (by omega)
    have hxk : 0 < cmp x.1 key := hfx.1 (by rcases hhi with h | h; exact absurd h hrm; exact h)
    have h1 := (up_all hn hs (8 * r) x hx (j - 8 * r) e (by rw [show 8 * r + (j - 8 * r) = j by omega]; exact hj)).1
    rw [hek] at h1
    omega
end Go.Proofs.YtljcogimeimknaaGreat
