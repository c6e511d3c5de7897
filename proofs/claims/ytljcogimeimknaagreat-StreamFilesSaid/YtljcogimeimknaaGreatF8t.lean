/- Several texts in one: PairTripsM, BlockTripsM, FootReadN, FootTripsM. Each has its own sentence and conditions below. -/
import Derived.Test.YtljcogimeimknaaGreatF8q
import Derived.Test.YtljcogimeimknaaGreatK8c
import Derived.Test.YtljcogimeimknaaGreatK8d
/- Entries there and back: what is written is read, what is read is written just so: plain words, no program. No condition. -/
namespace Go.Proofs.YtljcogimeimknaaGreat
set_option linter.unusedVariables false

theorem rd_vb1 (m : Nat) (rest : List UInt8) (hm : m < 18446744073709551616) : rd (vb m ++ rest) 0 0 = (m, (vb m).length, 0) := by
  have := rd_vb m 0 0 rest (by omega) (by omega) (.inl rfl)
  rw [this, Nat.pow_zero, Nat.mul_one, Nat.zero_add, Nat.zero_add]
/-- three numbers that were written are read -/
theorem pr3_vbs (A R : List UInt8) (s m l : Nat) (hs : s < 18446744073709551616) (hm : m < 18446744073709551616) (hl : l < 18446744073709551616) :
    pr3 (A ++ (vb s ++ (vb m ++ (vb l ++ R)))) 3 [] A.length = ([s, m, l], A.length + (vb s).length + (vb m).length + (vb l).length, 0) := by
  have h0 : rd ((A ++ (vb s ++ (vb m ++ (vb l ++ R)))).drop A.length) 0 0 = (s, (vb s).length, 0) := by rw [List.drop_left]; exact rd_vb1 s _ hs
  have h1 : rd ((A ++ (vb s ++ (vb m ++ (vb l ++ R)))).drop (A.length + (vb s).length)) 0 0 = (m, (vb m).length, 0) := by
    rw [← List.drop_drop, List.drop_left, List.drop_left]; exact rd_vb1 m _ hm
  have h2 : rd ((A ++ (vb s ++ (vb m ++ (vb l ++ R)))).drop (A.length + (vb s).length + (vb m).length)) 0 0 = (l, (vb l).length, 0) := by
    rw [← List.drop_drop, ← List.drop_drop, List.drop_left, List.drop_left, List.drop_left]; exact rd_vb1 l _ hl
  exact pr3_ok h0 h1 h2
theorem drop3 (A R : List UInt8) (s m l : Nat) : (A ++ (vb s ++ (vb m ++ (vb l ++ R)))).drop (A.length + (vb s).length + (vb m).length + (vb l).length) = R := by
  rw [← List.drop_drop, ← List.drop_drop, ← List.drop_drop, List.drop_left, List.drop_left, List.drop_left, List.drop_left]
theorem take_com (p k : List UInt8) : p.take (com p k) ++ k.drop (com p k) = k := by rw [com_take p k, List.take_append_drop]
/-- of what is written for an entry, ahead and behind of it whatever stands -/
theorem written (p k v A R : List UInt8) (hp : p.length < 18446744073709551616) (hk : k.length < 18446744073709551616) (hv : v.length < 18446744073709551616) :
    pread p (A ++ (ebytes p (k, v) ++ R)) A.length = if chk (k, v) = 0 ∧ (p.length = 0 ∨ cmp p k < 0) then ((k, v), A.length + (ebytes p (k, v)).length, 0) else pread p (A ++ (ebytes p (k, v) ++ R)) A.length := by
  split
  · rename_i h
    obtain ⟨hc, hr⟩ := h
    have hle := com_le p k
    have e0 : ebytes p (k, v) ++ R = vb (com p k) ++ (vb (k.length - com p k) ++ (vb v.length ++ (k.drop (com p k) ++ (v ++ R)))) := by unfold ebytes; simp
    have e1 : (ebytes p (k, v)).length = (vb (com p k)).length + (vb (k.length - com p k)).length + (vb v.length).length + (k.length - com p k) + v.length := by unfold ebytes; simp; omega
    have h3 := pr3_vbs A (k.drop (com p k) ++ (v ++ R)) (com p k) (k.length - com p k) v.length (by omega) (by omega) (by omega)
    have hd := drop3 A (k.drop (com p k) ++ (v ++ R)) (com p k) (k.length - com p k) v.length
    rw [e0, pread_ok h3]
    have hcN : k.length ≠ 0 ∧ k.length ≤ 64 ∧ v.length ≤ 256 := by
      unfold chk chkN keyN valN at hc
      simp only at hc
      split at hc <;> split at hc <;> simp at hc <;> omega
    have hkd : (k.drop (com p k) ++ (v ++ R)).take (k.length - com p k) = k.drop (com p k) := List.take_left' (by simp)
    have hkey : p.take (com p k) ++ ((A ++ (vb (com p k) ++ (vb (k.length - com p k) ++ (vb v.length ++ (k.drop (com p k) ++ (v ++ R)))))).drop (A.length + (vb (com p k)).length + (vb (k.length - com p k)).length + (vb v.length).length)).take (k.length - com p k) = k := by
      rw [hd, hkd, take_com]
    have hval : ((A ++ (vb (com p k) ++ (vb (k.length - com p k) ++ (vb v.length ++ (k.drop (com p k) ++ (v ++ R)))))).drop (A.length + (vb (com p k)).length + (vb (k.length - com p k)).length + (vb v.length).length + (k.length - com p k))).take v.length = v := by
      rw [← List.drop_drop, hd, List.drop_left' (by simp)]; exact List.take_left' rfl
    have hlen : (A ++ (vb (com p k) ++ (vb (k.length - com p k) ++ (vb v.length ++ (k.drop (com p k) ++ (v ++ R)))))).length - (A.length + (vb (com p k)).length + (vb (k.length - com p k)).length + (vb v.length).length) = (k.length - com p k) + v.length + R.length := by
      simp; omega
    rw [pend_ok (by omega) (by omega) (by rw [hlen]; omega) (by rw [hkey]) (by rw [hkey]; intro h; omega), hkey, hval, e1]
    congr 2
    omega
  · rfl
theorem written_yes {p k v : List UInt8} (A R : List UInt8) (hp : p.length < 18446744073709551616) (hk : k.length < 18446744073709551616) (hv : v.length < 18446744073709551616) (h : chk (k, v) = 0 ∧ (p.length = 0 ∨ cmp p k < 0)) :
    pread p (A ++ (ebytes p (k, v) ++ R)) A.length = ((k, v), A.length + (ebytes p (k, v)).length, 0) := by rw [written p k v A R hp hk hv, if_pos h]
/-- what is read is written just so -/
theorem read_back {p b k v : List UInt8} {q : Nat} (hb : b.length < 18446744073709551616) (h : pread p b 0 = ((k, v), q, 0)) : chk (k, v) = 0 ∧ q ≤ b.length ∧ ebytes p (k, v) = b.take q := by
  obtain ⟨⟨x, a3, e⟩, hr⟩ : ∃ R, pr3 b 3 [] 0 = R := ⟨_, rfl⟩
  by_cases he : e = 0
  · subst he
    obtain ⟨⟨s, i, e1⟩, h0⟩ : ∃ R, rd (b.drop 0) 0 0 = R := ⟨_, rfl⟩
    by_cases f1 : e1 = 0
    · subst f1
      obtain ⟨⟨m, j, e2⟩, h1⟩ : ∃ R, rd (b.drop (0 + i)) 0 0 = R := ⟨_, rfl⟩
      by_cases f2 : e2 = 0
      · subst f2
        obtain ⟨⟨l, t, e3⟩, h2⟩ : ∃ R, rd (b.drop (0 + i + j)) 0 0 = R := ⟨_, rfl⟩
        by_cases f3 : e3 = 0
        · subst f3
          have h3 := pr3_ok h0 h1 h2
          rw [pread_ok h3] at h
          obtain ⟨l0, t0, n0⟩ := rd_vbs h0
          obtain ⟨l1, t1, n1⟩ := rd_vbs h1
          obtain ⟨l2, t2, n2⟩ := rd_vbs h2
          have s0 := (rd_in h0).2
          simp only [List.length_drop] at l0 l1 l2
          obtain ⟨z, hz⟩ : ∃ z, 0 + i + j + t = z := ⟨_, rfl⟩
          rw [hz] at h
          have hbz : b.take z = vb s ++ (vb m ++ vb l) := by
            have e1 : z = i + (j + t) := by omega
            rw [e1, List.take_add, List.take_add, ← t0, ← t1, ← t2]
            simp
          by_cases c1 : p.length < s
          · rw [pend_s c1] at h; simp at h
          by_cases c2 : 64 < m ∨ 256 < l ∨ s + m = 0 ∨ 64 < s + m
          · rw [pend_long c1 c2] at h; simp at h
          by_cases c3 : b.length - z < m + l
          · rw [pend_short c1 c2 c3] at h; simp at h
          by_cases c4 : com p (p.take s ++ (b.drop z).take m) = s
          · by_cases c5 : 0 < p.length ∧ 0 ≤ cmp p (p.take s ++ (b.drop z).take m)
            · rw [pend_cmp c1 c2 c3 c4 c5] at h; simp at h
            · rw [pend_ok c1 c2 c3 c4 c5] at h
              simp only [Prod.mk.injEq] at h
              obtain ⟨⟨rfl, rfl⟩, rfl, _⟩ := h
              have lk : (p.take s ++ (b.drop z).take m).length = s + m := by simp; omega
              have lv : ((b.drop (z + m)).take l).length = l := by simp; omega
              refine ⟨?_, by omega, ?_⟩
              · unfold chk chkN keyN valN
                rw [lk, lv, if_neg (by omega), if_neg (by omega)]; rfl
              · unfold ebytes
                simp only
                rw [c4, lk, lv, Nat.add_sub_cancel_left, List.drop_left' (by simp; omega), Nat.add_assoc z m l, List.take_add, List.take_add, hbz, List.drop_drop]
                simp
          · rw [pend_com c1 c2 c3 c4] at h; simp at h
        · rw [pr3_go h0, pr3_go h1, pr3_no h2 f3] at hr
          simp only [Prod.mk.injEq] at hr
          exact absurd hr.2.2 f3
      · rw [pr3_go h0, pr3_no h1 f2] at hr
        simp only [Prod.mk.injEq] at hr
        exact absurd hr.2.2 f2
    · rw [pr3_no h0 f1] at hr
      simp only [Prod.mk.injEq] at hr
      exact absurd hr.2.2 f1
  · rw [pread_no hr he] at h
    simp only [Prod.mk.injEq] at h
    exact absurd h.2.2 he
end Go.Proofs.YtljcogimeimknaaGreat
/- Blocks there and back: what is built is read, what is read is built just so: plain words. No condition. -/
namespace Go.Proofs.YtljcogimeimknaaGreat
set_option linter.unusedVariables false

/-- the bytes and the places of entries behind a state -/
def bbody : BS → List Ent → List UInt8
  | _, [] => []
  | s, e :: r => ebytes (bP s.n s.last) e ++ bbody (bAdd s e) r
def bplaces : BS → Nat → List Ent → List Nat
  | _, _, [] => []
  | s, p, e :: r => p :: bplaces (bAdd s e) (p + (ebytes (bP s.n s.last) e).length) r
theorem fold_body : ∀ (r : List Ent) (s : BS), (r.foldl bAdd s).body = s.body ++ bbody s r
  | [], s => by simp [bbody]
  | e :: r, s => by
    rw [List.foldl_cons, fold_body r (bAdd s e)]
    show (s.body ++ ebytes (bP s.n s.last) e) ++ bbody (bAdd s e) r = s.body ++ (ebytes (bP s.n s.last) e ++ bbody (bAdd s e) r)
    rw [List.append_assoc]
theorem bmark_two (n a : Nat) (ps : List Nat) : bwant (bruns n (a :: ps)) = bMark n a ++ bwant (bruns (n + 1) ps) := by
  show bwant (if n % 8 = 0 then a :: bruns (n + 1) ps else bruns (n + 1) ps) = _
  unfold bMark
  split
  · unfold bwant; rw [List.flatMap_cons]; rfl
  · rfl
theorem fold_tab : ∀ (r : List Ent) (s : BS) (p : Nat), p = s.body.length + 1 → (r.foldl bAdd s).tab = s.tab ++ bwant (bruns s.n (bplaces s p r))
  | [], s, p, _ => by simp [bplaces, bruns, bwant]
  | e :: r, s, p, hp => by
    rw [List.foldl_cons, fold_tab r (bAdd s e) (p + (ebytes (bP s.n s.last) e).length) (by show _ = (s.body ++ ebytes (bP s.n s.last) e).length + 1; rw [List.length_append]; omega)]
    show (s.tab ++ bMark s.n (s.body.length + 1)) ++ _ = s.tab ++ bwant (bruns s.n (p :: bplaces (bAdd s e) (p + (ebytes (bP s.n s.last) e).length) r))
    rw [bmark_two, List.append_assoc, hp]; rfl
/-- a reading is alike from where it begins -/
theorem pread_shift {p b : List UInt8} {a q : Nat} {x : Ent} (h : pread p b a = (x, q, 0)) (ha : a ≤ b.length) : pread p (b.drop a) 0 = (x, q - a, 0) := by
  obtain ⟨⟨ns, a3, e⟩, hr⟩ : ∃ R, pr3 b 3 [] a = R := ⟨_, rfl⟩
  by_cases he : e = 0
  · subst he
    obtain ⟨⟨s, i, e1⟩, h0⟩ : ∃ R, rd (b.drop a) 0 0 = R := ⟨_, rfl⟩
    by_cases f1 : e1 = 0
    · subst f1
      obtain ⟨⟨m, j, e2⟩, h1⟩ : ∃ R, rd (b.drop (a + i)) 0 0 = R := ⟨_, rfl⟩
      by_cases f2 : e2 = 0
      · subst f2
        obtain ⟨⟨l, t, e3⟩, h2⟩ : ∃ R, rd (b.drop (a + i + j)) 0 0 = R := ⟨_, rfl⟩
        by_cases f3 : e3 = 0
        · subst f3
          have h3 := pr3_ok h0 h1 h2
          have k3 : pr3 (b.drop a) 3 [] 0 = ([s, m, l], 0 + i + j + t, 0) := pr3_ok (by simpa using h0) (by rw [List.drop_drop, Nat.zero_add]; exact h1) (by rw [List.drop_drop, Nat.zero_add, ← Nat.add_assoc]; exact h2)
          obtain ⟨l0, t0, n0⟩ := rd_vbs h0
          obtain ⟨l1, t1, n1⟩ := rd_vbs h1
          obtain ⟨l2, t2, n2⟩ := rd_vbs h2
          simp only [List.length_drop] at l0 l1 l2
          rw [pread_ok h3] at h
          rw [pread_ok k3]
          have hz : a + (0 + i + j + t) = a + i + j + t := by omega
          have hd : (b.drop a).drop (0 + i + j + t) = b.drop (a + i + j + t) := by rw [List.drop_drop, hz]
          have hd2 : ∀ k, (b.drop a).drop (0 + i + j + t + k) = b.drop (a + i + j + t + k) := fun k => by rw [List.drop_drop]; congr 1; omega
          have hl : (b.drop a).length - (0 + i + j + t) = b.length - (a + i + j + t) := by rw [List.length_drop]; omega
          by_cases c1 : p.length < s
          · rw [pend_s c1] at h; simp at h
          by_cases c2 : 64 < m ∨ 256 < l ∨ s + m = 0 ∨ 64 < s + m
          · rw [pend_long c1 c2] at h; simp at h
          by_cases c3 : b.length - (a + i + j + t) < m + l
          · rw [pend_short c1 c2 c3] at h; simp at h
          by_cases c4 : com p (p.take s ++ (b.drop (a + i + j + t)).take m) = s
          · by_cases c5 : 0 < p.length ∧ 0 ≤ cmp p (p.take s ++ (b.drop (a + i + j + t)).take m)
            · rw [pend_cmp c1 c2 c3 c4 c5] at h; simp at h
            · rw [pend_ok c1 c2 c3 c4 c5] at h
              simp only [Prod.mk.injEq] at h
              obtain ⟨rfl, rfl, _⟩ := h
              rw [pend_ok c1 c2 (by rw [hl]; exact c3) (by rw [hd]; exact c4) (by rw [hd]; exact c5), hd, hd2]
              simp only [Prod.mk.injEq, true_and, and_true]
              omega
          · rw [pend_com c1 c2 c3 c4] at h; simp at h
        · have h3 : pr3 b 3 [] a = ([], a + i + j + t, e3) := by rw [pr3_go h0, pr3_go h1, pr3_no h2 f3]
          rw [h3] at hr; simp only [Prod.mk.injEq] at hr; exact absurd hr.2.2 f3
      · have h3 : pr3 b 3 [] a = ([], a + i + j, e2) := by rw [pr3_go h0, pr3_no h1 f2]
        rw [h3] at hr; simp only [Prod.mk.injEq] at hr; exact absurd hr.2.2 f2
    · have h3 : pr3 b 3 [] a = ([], a + i, e1) := by rw [pr3_no h0 f1]
      rw [h3] at hr; simp only [Prod.mk.injEq] at hr; exact absurd hr.2.2 f1
  · rw [pread_no hr he] at h
    simp only [Prod.mk.injEq] at h; exact absurd h.2.2 he
/-- an entry that was read, as it was written -/
theorem pread_back {p b : List UInt8} {a q : Nat} {x : Ent} (hb : b.length < 18446744073709551616) (h : pread p b a = (x, q, 0)) (ha : a ≤ b.length) : b.take q = b.take a ++ ebytes p x := by
  have h1 := pread_shift h ha
  obtain ⟨_, h2, h3, _⟩ := pread_in h ha
  obtain ⟨k, v⟩ := x
  have := (read_back (by rw [List.length_drop]; omega) h1).2.2
  rw [this, show q = a + (q - a) by omega, List.take_add]
  congr 2; omega
/-- what was read of entries -/
theorem bents_back {b : List UInt8} (hb : b.length < 18446744073709551616) : ∀ (j : Nat) (pre : List Ent) (ps : List Nat) (p : Nat) (l : List Ent) (ps' : List Nat) (p' q : Nat), p ≤ b.length → bents b j pre ps p = (l, ps', p', 0, q) →
    ∃ r, l = pre ++ r ∧ r.length = j ∧ p' ≤ b.length ∧ ps' = ps ++ bplaces (bst pre) p r ∧ (srtFrom pre.length (bst pre).last r).2 = 0 ∧ b.take p' = b.take p ++ bbody (bst pre) r
  | 0, pre, ps, p, l, ps', p', q, hp, h => by
    have h : (pre, ps, p, (0 : Int), 0) = (l, ps', p', 0, q) := h
    simp only [Prod.mk.injEq] at h
    obtain ⟨rfl, rfl, rfl, _⟩ := h
    exact ⟨[], by simp, rfl, hp, by simp [bplaces], rfl, by simp [bbody]⟩
  | j + 1, pre, ps, p, l, ps', p', q, hp, h => by
    obtain ⟨⟨x, m, e⟩, hr⟩ : ∃ R, pread (bP pre.length (bst pre).last) b p = R := ⟨_, rfl⟩
    by_cases he : e = 0
    · subst he
      by_cases hc : 0 < pre.length ∧ 0 ≤ cmp (bst pre).last x.1
      · rw [bents_low hr hc] at h
        simp only [Prod.mk.injEq] at h; exact absurd h.2.2.2.1 (by decide)
      · rw [bents_go hr hc] at h
        obtain ⟨hx, hm1, hm2, _⟩ := pread_in hr hp
        have hpb := pread_back hb hr hp
        obtain ⟨r, h1, h2, h3, h4, h5, h6⟩ := bents_back hb j (pre ++ [x]) (ps ++ [p]) m l ps' p' q hm2 h
        have hn := bst_n pre
        rw [bst_snoc] at h4 h5 h6
        rw [List.length_append] at h5
        have hlen : m = p + (ebytes (bP pre.length (bst pre).last) x).length := by
          have := congrArg List.length hpb
          rw [List.length_append, List.length_take, List.length_take] at this; omega
        refine ⟨x :: r, by rw [h1, List.append_assoc]; rfl, by rw [List.length_cons, h2], h3, ?_, ?_, ?_⟩
        · rw [h4]
          show _ = ps ++ p :: bplaces (bAdd (bst pre) x) (p + (ebytes (bP (bst pre).n (bst pre).last) x).length) r
          rw [hn, ← hlen, List.append_assoc]; rfl
        · rw [srt_go (by omega) hc]; exact h5
        · rw [h6, hpb]
          show _ = b.take p ++ (ebytes (bP (bst pre).n (bst pre).last) x ++ bbody (bAdd (bst pre) x) r)
          rw [hn, List.append_assoc]
    · rw [bents_no hr he] at h
      simp only [Prod.mk.injEq] at h; exact absurd h.2.2.2.1 he
theorem btable_back {b : List UInt8} : ∀ (l : List UInt8) (p : Nat), p ≤ b.length → (btable b l p).2 = 0 → b.drop p = l
  | [], p, hp, h => by
    by_cases hlt : p < b.length
    · rw [btable_end hlt] at h; cases h
    · exact List.drop_of_length_le (by omega)
  | c :: r, p, hp, h => by
    by_cases hg : b[p]? = some c
    · rw [btable_go hg] at h
      obtain ⟨hlt, e⟩ := List.getElem?_eq_some_iff.1 hg
      have := btable_back r (p + 1) hlt h
      rw [List.drop_eq_getElem_cons hlt, this, e]
    · rw [btable_no hg] at h; cases h
/-- what is read is built just so -/
theorem bread_back {b : List UInt8} {l : List Ent} {q : Nat} (hb : b.length < 18446744073709551616) (h : bread b = (l, q, 0)) : ¬ (l.length < 1 ∨ 64 < l.length) ∧ (srt l).2 = 0 ∧ bld l = b := by
  obtain ⟨⟨n, d, e0⟩, hr⟩ : ∃ X, rd b 0 0 = X := ⟨_, rfl⟩
  by_cases he0 : e0 = 0
  · subst he0
    by_cases hn : n < 1 ∨ 64 < n
    · rw [bread_no (bentries_bad hr hn) (by decide)] at h
      simp only [Prod.mk.injEq] at h; exact absurd h.2.2 (by decide)
    · obtain ⟨⟨l', ps, p, e, qq⟩, hE⟩ : ∃ X, bents b n [] [] d = X := ⟨_, rfl⟩
      have hen := bentries_go hr hn
      rw [hE] at hen
      by_cases he : e = 0
      · subst he
        obtain ⟨⟨q', e'⟩, hT⟩ : ∃ X, btable b (bwant (bruns 0 ps)) p = X := ⟨_, rfl⟩
        by_cases he' : e' = 0
        · subst he'
          rw [bread_ok hen hT] at h
          simp only [Prod.mk.injEq] at h
          obtain ⟨rfl, _⟩ := h
          obtain ⟨hd1, hd2, hd3⟩ := rd_vbs (l := b) hr
          obtain ⟨r, h1, h2, h3, h4, h5, h6⟩ := bents_back hb n [] [] d l' ps p qq hd1 hE
          rw [List.nil_append] at h1 h4
          subst h1
          have hd : d = 1 := by rw [hd3, vb_lt (show n < 128 by omega)]; rfl
          have htab := btable_back _ p h3 (by rw [hT])
          have hne : l' ≠ [] := by intro e; subst e; simp at h2; omega
          refine ⟨by rw [h2]; exact hn, h5, ?_⟩
          rw [bld_some hne, h2, ← hd2]
          have hbody : (bst l').body = bbody BS0 l' := by have := fold_body l' BS0; unfold bst; rw [this]; rfl
          have htb : (bst l').tab = bwant (bruns 0 (bplaces BS0 1 l')) := by have := fold_tab l' BS0 1 rfl; unfold bst; rw [this]; rfl
          rw [hbody, htb]
          rw [bst_nil] at h4 h6
          rw [hd] at h4
          rw [← h4, ← htab, ← h6, List.take_append_drop]
        · rw [bread_tab (p' := 0) hen hT he'] at h
          simp only [Prod.mk.injEq] at h; exact absurd h.2.2 he'
      · rw [bread_no hen he] at h
        simp only [Prod.mk.injEq] at h; exact absurd h.2.2 he
  · rw [bread_no (bentries_no hr he0) he0] at h
    simp only [Prod.mk.injEq] at h; exact absurd h.2.2 he0
end Go.Proofs.YtljcogimeimknaaGreat
/- What a row that was read is: plain words. No condition. -/
namespace Go.Proofs.YtljcogimeimknaaGreat
set_option linter.unusedVariables false

section
variable {b k : List UInt8} {x y A : Int} {p q : Nat} {e : Int} {rs : List Row} {r : Row}
theorem rd_drop_in {v d : Nat} (hp : p ≤ b.length) (h : rd (b.drop p) 0 0 = (v, d, 0)) : p + d ≤ b.length ∧ v < 18446744073709551616 ∧ (b.drop p).take d = vb v ∧ d = (vb v).length := by
  obtain ⟨h1, h2⟩ := rd_in h
  obtain ⟨_, h3, h4⟩ := rd_vbs h
  rw [List.length_drop] at h1
  exact ⟨by omega, h2, h3, h4⟩
theorem fr1_in (hp : p ≤ b.length) (h : fr1 b k x y p = (r, q, 0)) : ∃ z : Nat, r = (k, x, y, (z : Int)) ∧ 1 ≤ z ∧ z ≤ 64 ∧ q ≤ b.length ∧ p ≤ q ∧ (b.drop p).take (q - p) = vb z ∧ q = p + (vb z).length := by
  obtain ⟨⟨v, d, e0⟩, hr⟩ : ∃ X, rd (b.drop p) 0 0 = X := ⟨_, rfl⟩
  by_cases he : e0 = 0
  · subst he
    obtain ⟨h1, h2, h3, h4⟩ := rd_drop_in hp hr
    by_cases hb : v < 1 ∨ 64 < v
    · rw [fr1_bad hr hb] at h; simp only [Prod.mk.injEq] at h; exact absurd h.2.2 (by decide)
    · rw [fr1_ok hr hb] at h
      simp only [Prod.mk.injEq] at h
      obtain ⟨rfl, rfl, _⟩ := h
      exact ⟨v, rfl, by omega, by omega, h1, by omega, by rw [show p + d - p = d by omega]; exact h3, by omega⟩
  · rw [fr1_no hr he] at h; simp only [Prod.mk.injEq] at h; exact absurd h.2.2 he
theorem fr2_in (hp : p ≤ b.length) (h : fr2 b k x p = (r, q, 0)) : ∃ y z : Nat, r = (k, x, (y : Int), (z : Int)) ∧ (1 ≤ y ∧ y ≤ 131072) ∧ (1 ≤ z ∧ z ≤ 64) ∧ q ≤ b.length ∧ p ≤ q ∧ (b.drop p).take (q - p) = vb y ++ vb z ∧ q = p + (vb y).length + (vb z).length := by
  obtain ⟨⟨v, d, e0⟩, hr⟩ : ∃ X, rd (b.drop p) 0 0 = X := ⟨_, rfl⟩
  by_cases he : e0 = 0
  · subst he
    obtain ⟨h1, h2, h3, h4⟩ := rd_drop_in hp hr
    by_cases hb : v < 1 ∨ 131072 < v
    · rw [fr2_bad hr hb] at h; simp only [Prod.mk.injEq] at h; exact absurd h.2.2 (by decide)
    · rw [fr2_ok hr hb] at h
      obtain ⟨z, rfl, g1, g2, g3, g4, g5, g6⟩ := fr1_in h1 h
      refine ⟨v, z, rfl, by omega, by omega, g3, by omega, ?_, by omega⟩
      rw [show q - p = d + (q - (p + d)) by omega, List.take_add, h3, List.drop_drop, g5]
  · rw [fr2_no hr he] at h; simp only [Prod.mk.injEq] at h; exact absurd h.2.2 he
theorem fr3_in (hA : 0 ≤ A) (hp : p ≤ b.length) (h : fr3 b k A p = (r, q, 0)) : ∃ y z : Nat, r = (k, A, (y : Int), (z : Int)) ∧ (1 ≤ y ∧ y ≤ 131072) ∧ (1 ≤ z ∧ z ≤ 64) ∧ q ≤ b.length ∧ p ≤ q ∧ (b.drop p).take (q - p) = vb A.toNat ++ (vb y ++ vb z) ∧ q = p + (vb A.toNat).length + (vb y).length + (vb z).length := by
  obtain ⟨⟨v, d, e0⟩, hr⟩ : ∃ X, rd (b.drop p) 0 0 = X := ⟨_, rfl⟩
  by_cases he : e0 = 0
  · subst he
    obtain ⟨h1, h2, h3, h4⟩ := rd_drop_in hp hr
    by_cases hb : (v : Int) = A
    · rw [fr3_ok hr hb] at h
      have hv : v = A.toNat := by omega
      rw [hv] at h3 h4
      obtain ⟨y, z, rfl, g1, g2, g3, g4, g5, g6⟩ := fr2_in h1 h
      refine ⟨y, z, rfl, g1, g2, g3, by omega, ?_, by omega⟩
      rw [show q - p = d + (q - (p + d)) by omega, List.take_add, h3, List.drop_drop, g5]
    · rw [fr3_bad hr hb] at h; simp only [Prod.mk.injEq] at h; exact absurd h.2.2 (by decide)
  · rw [fr3_no hr he] at h; simp only [Prod.mk.injEq] at h; exact absurd h.2.2 he
theorem fky_back (hp : p ≤ b.length) (h : fky b rs p = (k, q, 0)) : q ≤ b.length ∧ p ≤ q ∧ (1 ≤ k.length ∧ k.length ≤ 64) ∧ upR rs k = true ∧ (b.drop p).take (q - p) = vb k.length ++ k ∧ q = p + (vb k.length).length + k.length := by
  obtain ⟨⟨v, d, e0⟩, hr⟩ : ∃ X, rd (b.drop p) 0 0 = X := ⟨_, rfl⟩
  by_cases he : e0 = 0
  · subst he
    obtain ⟨g1, g2, g3, g4⟩ := rd_drop_in hp hr
    by_cases h2 : v < 1 ∨ 64 < v
    · rw [fky_bad hr h2] at h; cases h
    by_cases h3 : b.length - (p + d) < v
    · rw [fky_short hr h2 h3] at h; cases h
    rcases h4 : upR rs ((b.drop (p + d)).take v) with _ | _
    · rw [fky_low hr h2 h3 h4] at h; cases h
    · rw [fky_ok hr h2 h3 h4] at h
      simp only [Prod.mk.injEq] at h
      obtain ⟨rfl, rfl, _⟩ := h
      have hl : ((b.drop (p + d)).take v).length = v := by rw [List.length_take, List.length_drop]; omega
      refine ⟨by omega, by omega, by omega, h4, ?_, by rw [hl]; omega⟩
      rw [hl, show p + d + v - p = d + v by omega, List.take_add, g3, List.drop_drop]
  · rw [fky_no hr he] at h
    simp only [Prod.mk.injEq] at h
    exact absurd h.2.2 he
theorem frow_in (hA : 0 ≤ endR rs) (hp : p ≤ b.length) (h : frow b rs p = (r, q, 0)) : q ≤ b.length ∧ p ≤ q ∧ (1 ≤ r.1.length ∧ r.1.length ≤ 64) ∧ upR rs r.1 = true ∧ r.2.1 = endR rs ∧ (1 ≤ r.2.2.1 ∧ r.2.2.1 ≤ 131072) ∧ (1 ≤ r.2.2.2 ∧ r.2.2.2 ≤ 64) ∧
    (b.drop p).take (q - p) = rowB r := by
  obtain ⟨⟨k, m, e0⟩, hk⟩ : ∃ X, fky b rs p = X := ⟨_, rfl⟩
  by_cases he : e0 = 0
  · subst he
    rw [frow_go hk] at h
    obtain ⟨g1, g2, g3, g4, g5, g6⟩ := fky_back hp hk
    obtain ⟨y, z, rfl, k1, k2, k3, k4, k5, k6⟩ := fr3_in hA g1 h
    refine ⟨k3, by omega, g3, g4, rfl, ⟨by show (1 : Int) ≤ (y : Int); omega, by show (y : Int) ≤ 131072; omega⟩, ⟨by show (1 : Int) ≤ (z : Int); omega, by show (z : Int) ≤ 64; omega⟩, ?_⟩
    rw [show q - p = (m - p) + (q - m) by omega, List.take_add, g5, List.drop_drop, show p + (m - p) = m by omega, k5]
    unfold rowB vbs
    simp
  · rw [frow_no hk he] at h
    simp only [Prod.mk.injEq] at h
    exact absurd h.2.2 he
end
end Go.Proofs.YtljcogimeimknaaGreat
/- A foot there and back: plain words. No condition. -/
namespace Go.Proofs.YtljcogimeimknaaGreat
set_option linter.unusedVariables false

/-- the last key -/
def lastKF (rs : List Row) : List UInt8 := match rs.getLast? with
  | some r => r.1
  | none => []
theorem lastKF_snoc (rs : List Row) (r : Row) : lastKF (rs ++ [r]) = r.1 := by unfold lastKF; simp
theorem up_last (pre : List Row) (k : List UInt8) : (0 < pre.length ∧ 0 ≤ cmp (lastKF pre) k) ↔ upR pre k = false := by
  rcases List.eq_nil_or_concat pre with rfl | ⟨r, x, rfl⟩
  · rw [upR_nil]; simp
  · rw [List.concat_eq_append, upR_snoc, lastKF_snoc, decide_eq_false_iff_not]
    simp
/-- what is asked of the next row -/
def Nxt (pre : List Row) (r : Row) : Prop := (1 ≤ r.1.length ∧ r.1.length ≤ 64) ∧ upR pre r.1 = true ∧ r.2.1 = endR pre ∧ (1 ≤ r.2.2.1 ∧ r.2.2.1 ≤ 131072) ∧ (1 ≤ r.2.2.2 ∧ r.2.2.2 ≤ 64)
theorem fck_next {pre : List Row} {r : Row} {rs : List Row} : (fck pre.length (endR pre) (lastKF pre) (r :: rs)).2 = 0 ↔ Nxt pre r ∧ (fck (pre ++ [r]).length (endR (pre ++ [r])) (lastKF (pre ++ [r])) rs).2 = 0 := by
  obtain ⟨k, x, y, z⟩ := r
  have hu := up_last pre k
  rw [endR_snoc, lastKF_snoc, List.length_append]
  show _ ↔ ((1 ≤ k.length ∧ k.length ≤ 64) ∧ upR pre k = true ∧ x = endR pre ∧ (1 ≤ y ∧ y ≤ 131072) ∧ (1 ≤ z ∧ z ≤ 64)) ∧ (fck (pre.length + 1) (x + y) k rs).2 = 0
  by_cases h0 : (k.length = 0 ∨ 64 < k.length) ∨ (0 < pre.length ∧ 0 ≤ cmp (lastKF pre) k)
  · rw [fck_key h0]
    constructor
    · intro h; cases h
    · rintro ⟨⟨h1, h2, _⟩, _⟩
      rcases h0 with h0 | h0
      · omega
      · rw [hu.1 h0] at h2; cases h2
  · have hup : upR pre k = true := by
      rcases e : upR pre k with _ | _
      · exact absurd (.inr (hu.2 e)) h0
      · rfl
    by_cases h1 : x = endR pre
    · by_cases h2 : y < 1 ∨ 131072 < y
      · rw [fck_len h0 h1 h2]
        constructor
        · intro h; cases h
        · rintro ⟨⟨_, _, _, h, _⟩, _⟩; omega
      by_cases h3 : z < 1 ∨ 64 < z
      · rw [fck_ent h0 h1 h2 h3]
        constructor
        · intro h; cases h
        · rintro ⟨⟨_, _, _, _, h⟩, _⟩; omega
      rw [fck_go h0 h1 h2 h3, h1]
      exact ⟨fun h => ⟨⟨by omega, hup, rfl, by omega, by omega⟩, h⟩, fun h => h.2⟩
    · rw [fck_at h0 h1]
      constructor
      · intro h; cases h
      · rintro ⟨⟨_, _, h, _⟩, _⟩; exact absurd h h1
theorem frd_back {b : List UInt8} : ∀ (j : Nat) (pre : List Row) (p : Nat) (l : List Row) (q : Nat), 0 ≤ endR pre → p ≤ b.length → frd b j pre p = (l, q, 0) →
    ∃ rs, l = pre ++ rs ∧ rs.length = j ∧ (fck pre.length (endR pre) (lastKF pre) rs).2 = 0 ∧ p ≤ q ∧ q ≤ b.length ∧ (b.drop p).take (q - p) = rs.flatMap rowB
  | 0, pre, p, l, q, _, hp, h => by
    have h : (pre, p, (0 : Int)) = (l, q, 0) := h
    simp only [Prod.mk.injEq] at h
    obtain ⟨rfl, rfl, _⟩ := h
    exact ⟨[], by simp, rfl, rfl, Nat.le_refl _, hp, by simp⟩
  | j + 1, pre, p, l, q, hA, hp, h => by
    obtain ⟨⟨r, m, e1⟩, hr⟩ : ∃ X, frow b pre p = X := ⟨_, rfl⟩
    by_cases he : e1 = 0
    · subst he
      rw [frd_go hr] at h
      obtain ⟨g1, g2, g3, g4, g5, g6, g7, g8⟩ := frow_in hA hp hr
      have hA2 : 0 ≤ endR (pre ++ [r]) := by rw [endR_snoc]; omega
      obtain ⟨rs, rfl, hl, hc, k1, k2, k3⟩ := frd_back j (pre ++ [r]) m l q hA2 g1 h
      refine ⟨r :: rs, by simp, by simp [hl], fck_next.2 ⟨⟨g3, g4, g5, g6, g7⟩, hc⟩, by omega, k2, ?_⟩
      rw [show q - p = (m - p) + (q - m) by omega, List.take_add, g8, List.drop_drop, show p + (m - p) = m by omega, k3, List.flatMap_cons]
    · rw [frd_no hr he] at h
      simp only [Prod.mk.injEq] at h
      exact absurd h.2.2 he
theorem fread_back {b : List UInt8} {rs : List Row} {q : Nat} (h : fread b = (rs, q, 0)) : (fchk rs).2 = 0 ∧ fbytes rs = b := by
  obtain ⟨⟨M, d, e0⟩, hr⟩ : ∃ X, rd b 0 0 = X := ⟨_, rfl⟩
  by_cases he : e0 = 0
  · subst he
    have hr' : rd (b.drop 0) 0 0 = (M, d, 0) := by rw [List.drop_zero]; exact hr
    obtain ⟨g1, g2, g3, g4⟩ := rd_drop_in (Nat.zero_le _) hr'
    rw [List.drop_zero] at g3
    by_cases hb : 8388608 < M
    · rw [fread_many hr hb] at h; simp only [Prod.mk.injEq] at h; exact absurd h.2.2 (by decide)
    obtain ⟨⟨l, p, e1⟩, hl⟩ : ∃ X, frd b M [] d = X := ⟨_, rfl⟩
    by_cases he1 : e1 = 0
    · subst he1
      rw [fread_go hr hb hl] at h
      obtain ⟨rs', hrs, hM, hc, k1, k2, k3⟩ := frd_back M [] d l p (by rw [endR_nil]; omega) (by omega) hl
      rw [List.nil_append] at hrs
      obtain rfl : rs' = l := hrs.symm
      obtain ⟨⟨v, dv, e2⟩, hv⟩ : ∃ X, rd (b.drop p) 0 0 = X := ⟨_, rfl⟩
      by_cases he2 : e2 = 0
      · subst he2
        obtain ⟨m1, m2, m3, m4⟩ := rd_drop_in k2 hv
        by_cases h2 : v = totU rs'
        · by_cases h3 : p + dv < b.length
          · rw [ftl_rest hv h2 h3] at h; simp only [Prod.mk.injEq] at h; exact absurd h.2.2 (by decide)
          · rw [ftl_ok hv h2 h3] at h
            simp only [Prod.mk.injEq] at h
            obtain ⟨rfl, _⟩ := h
            refine ⟨?_, ?_⟩
            · unfold fchk
              rw [if_neg (by omega)]
              exact hc
            · unfold fbytes
              rw [hM, ← g3, ← k3, ← h2, ← m3]
              have e1 : (b.drop p).take dv = b.drop p := List.take_of_length_le (by rw [List.length_drop]; omega)
              rw [e1]
              have e3 : b.drop p = (b.drop d).drop (p - d) := by rw [List.drop_drop, show d + (p - d) = p by omega]
              rw [e3, List.take_append_drop, List.take_append_drop]
        · rw [ftl_bad hv h2] at h; simp only [Prod.mk.injEq] at h; exact absurd h.2.2 (by decide)
      · rw [ftl_no hv he2] at h; simp only [Prod.mk.injEq] at h; exact absurd h.2.2 he2
    · rw [fread_bad hr hb hl he1] at h; simp only [Prod.mk.injEq] at h; exact absurd h.2.2 he1
  · rw [fread_no hr he] at h; simp only [Prod.mk.injEq] at h; exact absurd h.2.2 he
end Go.Proofs.YtljcogimeimknaaGreat
