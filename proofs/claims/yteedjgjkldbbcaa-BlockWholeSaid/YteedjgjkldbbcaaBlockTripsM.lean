/- Blocks there and back: what is built is read, what is read is built just so: plain words. No condition. -/
import Derived.Test.YteedjgjkldbbcaaBlockRM
import Derived.Test.YteedjgjkldbbcaaPairTripsM
namespace Go.Proofs.Yteedjgjkldbbcaa
set_option linter.unusedVariables false

/-- the bytes and the places of entries behind a state -/
def bbody : BS → List Ent → List UInt8
  | _, [] => []
  | s, e :: r => ebytes (bP s.n s.last) e ++ bbody (bAdd s e) r
def bplaces : BS → Nat → List Ent → List Nat
  | _, _, [] => []
  | s, p, e :: r => p :: bplaces (bAdd s e) (p + (ebytes (bP s.n s.last) e).length) r
theorem fold_body : ∀ (r : List Ent) (s : BS), (r.foldl bAdd s).body = s.body ++ bbody s r
  | [], s => by simp [bbody]
  | e :: r, s => by
    rw [List.foldl_cons, fold_body r (bAdd s e)]
    show (s.body ++ ebytes (bP s.n s.last) e) ++ bbody (bAdd s e) r = s.body ++ (ebytes (bP s.n s.last) e ++ bbody (bAdd s e) r)
    rw [List.append_assoc]
theorem bmark_two (n a : Nat) (ps : List Nat) : bwant (bruns n (a :: ps)) = bMark n a ++ bwant (bruns (n + 1) ps) := by
  show bwant (if n % 8 = 0 then a :: bruns (n + 1) ps else bruns (n + 1) ps) = _
  unfold bMark
  split
  · unfold bwant; rw [List.flatMap_cons]; rfl
  · rfl
theorem fold_tab : ∀ (r : List Ent) (s : BS) (p : Nat), p = s.body.length + 1 → (r.foldl bAdd s).tab = s.tab ++ bwant (bruns s.n (bplaces s p r))
  | [], s, p, _ => by simp [bplaces, bruns, bwant]
  | e :: r, s, p, hp => by
    rw [List.foldl_cons, fold_tab r (bAdd s e) (p + (ebytes (bP s.n s.last) e).length) (by show _ = (s.body ++ ebytes (bP s.n s.last) e).length + 1; rw [List.length_append]; omega)]
    show (s.tab ++ bMark s.n (s.body.length + 1)) ++ _ = s.tab ++ bwant (bruns s.n (p :: bplaces (bAdd s e) (p + (ebytes (bP s.n s.last) e).length) r))
    rw [bmark_two, List.append_assoc, hp]; rfl
/-- entries that were written are read -/
theorem bents_of : ∀ (r pre : List Ent) (b A rest : List UInt8) (ps : List Nat), b = A ++ (bbody (bst pre) r ++ rest) → (srtFrom pre.length (bst pre).last r).2 = 0 → Okay pre →
    bents b r.length pre ps A.length = (pre ++ r, ps ++ bplaces (bst pre) A.length r, A.length + (bbody (bst pre) r).length, 0, 0)
  | [], pre, b, A, rest, ps, hb, hs, _ => by simp [bents, bplaces, bbody]
  | (k, v) :: r, pre, b, A, rest, ps, hb, hs, hok => by
    by_cases h1 : chk (k, v) ≠ 0
    · rw [srt_chk h1] at hs; exact absurd hs h1
    by_cases h2 : 0 < pre.length ∧ 0 ≤ cmp (bst pre).last k
    · rw [srt_cmp h1 h2] at hs; cases hs
    rw [srt_go h1 h2] at hs
    have hl : (bst (pre ++ [(k, v)])).last = k := by rw [bst_snoc]; rfl
    rw [← hl] at hs
    have hn := bst_n pre
    have hlast := (bst_le pre hok).2.2
    have hck := chk_zero (e := (k, v)) (by omega)
    dsimp only at hck
    have hr : pread (bP pre.length (bst pre).last) b A.length = ((k, v), A.length + (ebytes (bP pre.length (bst pre).last) (k, v)).length, 0) := by
      have hcond : chk (k, v) = 0 ∧ ((bP pre.length (bst pre).last).length = 0 ∨ cmp (bP pre.length (bst pre).last) k < 0) := by
        refine ⟨by omega, ?_⟩
        unfold bP
        split
        · exact .inl rfl
        · by_cases h0 : pre.length = 0
          · left
            have : pre = [] := List.length_eq_zero_iff.1 h0
            subst this; rfl
          · right
            have : ¬ (0 ≤ cmp (bst pre).last k) := fun e => h2 ⟨by omega, e⟩
            omega
      have e : b = A ++ (ebytes (bP pre.length (bst pre).last) (k, v) ++ (bbody (bAdd (bst pre) (k, v)) r ++ rest)) := by
        rw [hb]
        show A ++ (ebytes (bP (bst pre).n (bst pre).last) (k, v) ++ bbody (bAdd (bst pre) (k, v)) r ++ rest) = _
        rw [hn, List.append_assoc]
      rw [e]
      have hpl : (bP pre.length (bst pre).last).length < 18446744073709551616 := by
        unfold bP
        split
        · exact Nat.zero_lt_succ _
        · omega
      exact written_yes A (bbody (bAdd (bst pre) (k, v)) r ++ rest) hpl (by omega) (by omega) hcond
    have ih := bents_of r (pre ++ [(k, v)]) b (A ++ ebytes (bP (bst pre).n (bst pre).last) (k, v)) rest (ps ++ [A.length]) (by
      rw [hb, bst_snoc]
      show A ++ (ebytes (bP (bst pre).n (bst pre).last) (k, v) ++ bbody (bAdd (bst pre) (k, v)) r ++ rest) = _
      simp only [List.append_assoc]) (by rw [List.length_append]; exact hs) (hok.snoc (by omega))
    rw [List.length_cons, bents_go hr h2]
    rw [List.length_append, bst_snoc, hn] at ih
    rw [ih]
    show _ = (pre ++ (k, v) :: r, ps ++ A.length :: bplaces (bAdd (bst pre) (k, v)) (A.length + (ebytes (bP (bst pre).n (bst pre).last) (k, v)).length) r, A.length + (ebytes (bP (bst pre).n (bst pre).last) (k, v) ++ bbody (bAdd (bst pre) (k, v)) r).length, 0, 0)
    rw [hn, List.length_append]
    simp only [List.append_assoc, List.singleton_append, Prod.mk.injEq, true_and, and_true]
    omega
/-- what is built is read -/
theorem bread_of {es : List Ent} (h : ¬ (es.length < 1 ∨ 64 < es.length)) (hs : (srt es).2 = 0) (more : List UInt8) : bread (bld es ++ more) = if more = [] then (es, 0, 0) else ([], (bld es).length, 63) := by
  have hne : es ≠ [] := by intro e; subst e; simp at h
  have hvb : (vb es.length).length = 1 := by rw [vb_lt (show es.length < 128 by omega)]; rfl
  have hbody : (bst es).body = bbody BS0 es := by have := fold_body es BS0; unfold bst; rw [this]; rfl
  have htab : (bst es).tab = bwant (bruns 0 (bplaces BS0 1 es)) := by have := fold_tab es BS0 1 rfl; unfold bst; rw [this]; rfl
  have hb : bld es ++ more = vb es.length ++ (bbody (bst []) es ++ ((bst es).tab ++ more)) := by
    rw [bld_some hne, hbody, bst_nil]; simp only [List.append_assoc]
  have hr : rd (bld es ++ more) 0 0 = (es.length, 1, 0) := by
    rw [hb, rd_vb1 es.length _ (by omega), hvb]
  have he := bents_of es [] (bld es ++ more) (vb es.length) ((bst es).tab ++ more) [] hb hs (fun e he => by cases he)
  rw [hvb, bst_nil] at he
  have hen : bentries (bld es ++ more) = (es, bplaces BS0 1 es, 1 + (bbody BS0 es).length, 0, 0) := by
    rw [bentries_go hr h, he]; simp
  have hlen : (bld es).length = 1 + (bbody BS0 es).length + (bst es).tab.length := by
    rw [bld_some hne, hbody]; simp only [List.length_append, hvb]
  have ht : ∀ (l A : List UInt8), bld es ++ more = A ++ (l ++ more) → btable (bld es ++ more) l A.length = if more = [] then (0, 0) else (A.length + l.length, 63) := by
    intro l
    induction l with
    | nil =>
      intro A hA
      by_cases hm : more = []
      · subst hm
        rw [if_pos rfl, hA, List.append_nil, List.append_nil]
        exact btable_ok (by omega)
      · have : 0 < more.length := by cases more with | nil => exact absurd rfl hm | cons c r => simp
        rw [if_neg hm, btable_end (by rw [hA]; simp; omega)]; rfl
    | cons c r ih =>
      intro A hA
      have hg : (bld es ++ more)[A.length]? = some c := by rw [hA]; simp
      rw [btable_go hg]
      have := ih (A ++ [c]) (by rw [hA]; simp)
      rw [List.length_append] at this
      rw [show A.length + 1 = A.length + [c].length from rfl, this]
      split <;> simp <;> omega
  have ht2 := ht (bst es).tab (vb es.length ++ bbody BS0 es) (by rw [hb, bst_nil]; simp only [List.append_assoc])
  rw [List.length_append, hvb, htab] at ht2
  by_cases hm : more = []
  · rw [if_pos hm] at ht2 ⊢
    exact bread_ok hen ht2
  · rw [if_neg hm] at ht2 ⊢
    rw [← htab, ← hlen] at ht2
    rw [htab] at ht2
    exact bread_tab (p' := 0) hen ht2 (by decide)
/-- a reading is alike from where it begins -/
theorem pread_shift {p b : List UInt8} {a q : Nat} {x : Ent} (h : pread p b a = (x, q, 0)) (ha : a ≤ b.length) : pread p (b.drop a) 0 = (x, q - a, 0) := by
  obtain ⟨⟨ns, a3, e⟩, hr⟩ : ∃ R, pr3 b 3 [] a = R := ⟨_, rfl⟩
  by_cases he : e = 0
  · subst he
    obtain ⟨⟨s, i, e1⟩, h0⟩ : ∃ R, rd (b.drop a) 0 0 = R := ⟨_, rfl⟩
    by_cases f1 : e1 = 0
    · subst f1
      obtain ⟨⟨m, j, e2⟩, h1⟩ : ∃ R, rd (b.drop (a + i)) 0 0 = R := ⟨_, rfl⟩
      by_cases f2 : e2 = 0
      · subst f2
        obtain ⟨⟨l, t, e3⟩, h2⟩ : ∃ R, rd (b.drop (a + i + j)) 0 0 = R := ⟨_, rfl⟩
        by_cases f3 : e3 = 0
        · subst f3
          have h3 := pr3_ok h0 h1 h2
          have k3 : pr3 (b.drop a) 3 [] 0 = ([s, m, l], 0 + i + j + t, 0) := pr3_ok (by simpa using h0) (by rw [List.drop_drop, Nat.zero_add]; exact h1) (by rw [List.drop_drop, Nat.zero_add, ← Nat.add_assoc]; exact h2)
          obtain ⟨l0, t0, n0⟩ := rd_vbs h0
          obtain ⟨l1, t1, n1⟩ := rd_vbs h1
          obtain ⟨l2, t2, n2⟩ := rd_vbs h2
          simp only [List.length_drop] at l0 l1 l2
          rw [pread_ok h3] at h
          rw [pread_ok k3]
          have hz : a + (0 + i + j + t) = a + i + j + t := by omega
          have hd : (b.drop a).drop (0 + i + j + t) = b.drop (a + i + j + t) := by rw [List.drop_drop, hz]
          have hd2 : ∀ k, (b.drop a).drop (0 + i + j + t + k) = b.drop (a + i + j + t + k) := fun k => by rw [List.drop_drop]; congr 1; omega
          have hl : (b.drop a).length - (0 + i + j + t) = b.length - (a + i + j + t) := by rw [List.length_drop]; omega
          by_cases c1 : p.length < s
          · rw [pend_s c1] at h; simp at h
          by_cases c2 : 64 < m ∨ 256 < l ∨ s + m = 0 ∨ 64 < s + m
          · rw [pend_long c1 c2] at h; simp at h
          by_cases c3 : b.length - (a + i + j + t) < m + l
          · rw [pend_short c1 c2 c3] at h; simp at h
          by_cases c4 : com p (p.take s ++ (b.drop (a + i + j + t)).take m) = s
          · by_cases c5 : 0 < p.length ∧ 0 ≤ cmp p (p.take s ++ (b.drop (a + i + j + t)).take m)
            · rw [pend_cmp c1 c2 c3 c4 c5] at h; simp at h
            · rw [pend_ok c1 c2 c3 c4 c5] at h
              simp only [Prod.mk.injEq] at h
              obtain ⟨rfl, rfl, _⟩ := h
              rw [pend_ok c1 c2 (by rw [hl]; exact c3) (by rw [hd]; exact c4) (by rw [hd]; exact c5), hd, hd2]
              simp only [Prod.mk.injEq, true_and, and_true]
              omega
          · rw [pend_com c1 c2 c3 c4] at h; simp at h
        · have h3 : pr3 b 3 [] a = ([], a + i + j + t, e3) := by rw [pr3_go h0, pr3_go h1, pr3_no h2 f3]
          rw [h3] at hr; simp only [Prod.mk.injEq] at hr; exact absurd hr.2.2 f3
      · have h3 : pr3 b 3 [] a = ([], a + i + j, e2) := by rw [pr3_go h0, pr3_no h1 f2]
        rw [h3] at hr; simp only [Prod.mk.injEq] at hr; exact absurd hr.2.2 f2
    · have h3 : pr3 b 3 [] a = ([], a + i, e1) := by rw [pr3_no h0 f1]
      rw [h3] at hr; simp only [Prod.mk.injEq] at hr; exact absurd hr.2.2 f1
  · rw [pread_no hr he] at h
    simp only [Prod.mk.injEq] at h; exact absurd h.2.2 he
/-- an entry that was read, as it was written -/
theorem pread_back {p b : List UInt8} {a q : Nat} {x : Ent} (hb : b.length < 18446744073709551616) (h : pread p b a = (x, q, 0)) (ha : a ≤ b.length) : b.take q = b.take a ++ ebytes p x := by
  have h1 := pread_shift h ha
  obtain ⟨_, h2, h3, _⟩ := pread_in h ha
  obtain ⟨k, v⟩ := x
  have := (read_back (by rw [List.length_drop]; omega) h1).2.2
  rw [this, show q = a + (q - a) by omega, List.take_add]
  congr 2; omega
/-- what was read of entries -/
theorem bents_back {b : List UInt8} (hb : b.length < 18446744073709551616) : ∀ (j : Nat) (pre : List Ent) (ps : List Nat) (p : Nat) (l : List Ent) (ps' : List Nat) (p' q : Nat), p ≤ b.length → bents b j pre ps p = (l, ps', p', 0, q) →
    ∃ r, l = pre ++ r ∧ r.length = j ∧ p' ≤ b.length ∧ ps' = ps ++ bplaces (bst pre) p r ∧ (srtFrom pre.length (bst pre).last r).2 = 0 ∧ b.take p' = b.take p ++ bbody (bst pre) r
  | 0, pre, ps, p, l, ps', p', q, hp, h => by
    have h : (pre, ps, p, (0 : Int), 0) = (l, ps', p', 0, q) := h
    simp only [Prod.mk.injEq] at h
    obtain ⟨rfl, rfl, rfl, _⟩ := h
    exact ⟨[], by simp, rfl, hp, by simp [bplaces], rfl, by simp [bbody]⟩
  | j + 1, pre, ps, p, l, ps', p', q, hp, h => by
    obtain ⟨⟨x, m, e⟩, hr⟩ : ∃ R, pread (bP pre.length (bst pre).last) b p = R := ⟨_, rfl⟩
    by_cases he : e = 0
    · subst he
      by_cases hc : 0 < pre.length ∧ 0 ≤ cmp (bst pre).last x.1
      · rw [bents_low hr hc] at h
        simp only [Prod.mk.injEq] at h; exact absurd h.2.2.2.1 (by decide)
      · rw [bents_go hr hc] at h
        obtain ⟨hx, hm1, hm2, _⟩ := pread_in hr hp
        have hpb := pread_back hb hr hp
        obtain ⟨r, h1, h2, h3, h4, h5, h6⟩ := bents_back hb j (pre ++ [x]) (ps ++ [p]) m l ps' p' q hm2 h
        have hn := bst_n pre
        rw [bst_snoc] at h4 h5 h6
        rw [List.length_append] at h5
        have hlen : m = p + (ebytes (bP pre.length (bst pre).last) x).length := by
          have := congrArg List.length hpb
          rw [List.length_append, List.length_take, List.length_take] at this; omega
        refine ⟨x :: r, by rw [h1, List.append_assoc]; rfl, by rw [List.length_cons, h2], h3, ?_, ?_, ?_⟩
        · rw [h4]
          show _ = ps ++ p :: bplaces (bAdd (bst pre) x) (p + (ebytes (bP (bst pre).n (bst pre).last) x).length) r
          rw [hn, ← hlen, List.append_assoc]; rfl
        · rw [srt_go (by omega) hc]; exact h5
        · rw [h6, hpb]
          show _ = b.take p ++ (ebytes (bP (bst pre).n (bst pre).last) x ++ bbody (bAdd (bst pre) x) r)
          rw [hn, List.append_assoc]
    · rw [bents_no hr he] at h
      simp only [Prod.mk.injEq] at h; exact absurd h.2.2.2.1 he
theorem btable_back {b : List UInt8} : ∀ (l : List UInt8) (p : Nat), p ≤ b.length → (btable b l p).2 = 0 → b.drop p = l
  | [], p, hp, h => by
    by_cases hlt : p < b.length
    · rw [btable_end hlt] at h; cases h
    · exact List.drop_of_length_le (by omega)
  | c :: r, p, hp, h => by
    by_cases hg : b[p]? = some c
    · rw [btable_go hg] at h
      obtain ⟨hlt, e⟩ := List.getElem?_eq_some_iff.1 hg
      have := btable_back r (p + 1) hlt h
      rw [List.drop_eq_getElem_cons hlt, this, e]
    · rw [btable_no hg] at h; cases h
/-- what is read is built just so -/
theorem bread_back {b : List UInt8} {l : List Ent} {q : Nat} (hb : b.length < 18446744073709551616) (h : bread b = (l, q, 0)) : ¬ (l.length < 1 ∨ 64 < l.length) ∧ (srt l).2 = 0 ∧ bld l = b := by
  obtain ⟨⟨n, d, e0⟩, hr⟩ : ∃ X, rd b 0 0 = X := ⟨_, rfl⟩
  by_cases he0 : e0 = 0
  · subst he0
    by_cases hn : n < 1 ∨ 64 < n
    · rw [bread_no (bentries_bad hr hn) (by decide)] at h
      simp only [Prod.mk.injEq] at h; exact absurd h.2.2 (by decide)
    · obtain ⟨⟨l', ps, p, e, qq⟩, hE⟩ : ∃ X, bents b n [] [] d = X := ⟨_, rfl⟩
      have hen := bentries_go hr hn
      rw [hE] at hen
      by_cases he : e = 0
      · subst he
        obtain ⟨⟨q', e'⟩, hT⟩ : ∃ X, btable b (bwant (bruns 0 ps)) p = X := ⟨_, rfl⟩
        by_cases he' : e' = 0
        · subst he'
          rw [bread_ok hen hT] at h
          simp only [Prod.mk.injEq] at h
          obtain ⟨rfl, _⟩ := h
          obtain ⟨hd1, hd2, hd3⟩ := rd_vbs (l := b) hr
          obtain ⟨r, h1, h2, h3, h4, h5, h6⟩ := bents_back hb n [] [] d l' ps p qq hd1 hE
          rw [List.nil_append] at h1 h4
          subst h1
          have hd : d = 1 := by rw [hd3, vb_lt (show n < 128 by omega)]; rfl
          have htab := btable_back _ p h3 (by rw [hT])
          have hne : l' ≠ [] := by intro e; subst e; simp at h2; omega
          refine ⟨by rw [h2]; exact hn, h5, ?_⟩
          rw [bld_some hne, h2, ← hd2]
          have hbody : (bst l').body = bbody BS0 l' := by have := fold_body l' BS0; unfold bst; rw [this]; rfl
          have htb : (bst l').tab = bwant (bruns 0 (bplaces BS0 1 l')) := by have := fold_tab l' BS0 1 rfl; unfold bst; rw [this]; rfl
          rw [hbody, htb]
          rw [bst_nil] at h4 h6
          rw [hd] at h4
          rw [← h4, ← htab, ← h6, List.take_append_drop]
        · rw [bread_tab (p' := 0) hen hT he'] at h
          simp only [Prod.mk.injEq] at h; exact absurd h.2.2 he'
      · rw [bread_no hen he] at h
        simp only [Prod.mk.injEq] at h; exact absurd h.2.2 he
  · rw [bread_no (bentries_no hr he0) he0] at h
    simp only [Prod.mk.injEq] at h; exact absurd h.2.2 he0
/-- a beginning of a block is none -/
theorem bread_short {es : List Ent} (h : ¬ (es.length < 1 ∨ 64 < es.length)) (hs : (srt es).2 = 0) {n : Nat} (hn : n < (bld es).length) (hb : (bld es).length < 18446744073709551616) : (bread ((bld es).take n)).2.2 ≠ 0 := by
  intro he
  obtain ⟨⟨l, q, e⟩, hr⟩ : ∃ X, bread ((bld es).take n) = X := ⟨_, rfl⟩
  rw [hr] at he
  dsimp only at he
  subst he
  obtain ⟨h1, h2, h3⟩ := bread_back (by rw [List.length_take]; omega) hr
  have hm : (bld es).drop n ≠ [] := by intro e; have := congrArg List.length e; simp at this; omega
  have k := bread_of h1 h2 ((bld es).drop n)
  rw [h3, List.take_append_drop, if_neg hm] at k
  have k2 := bread_of h hs []
  rw [List.append_nil, if_pos rfl, k] at k2
  simp only [Prod.mk.injEq] at k2
  exact absurd k2.2.2 (by decide)
end Go.Proofs.Yteedjgjkldbbcaa
