/- Several texts in one: PairTripsM, BlockTripsM, BlockRead, RdFoot, RdFin. Each has its own sentence and conditions below. -/
import Derived.Test.YtljcogimeimknaaK8q
import Derived.Test.YtljcogimeimknaaK8c
import Derived.Test.YtljcogimeimknaaK8s
import Derived.Test.YtljcogimeimknaaK8r
import Derived.Deep.RegionLaw
import Derived.Deep.DeepCutAuto
import Derived.Test.YtljcogimeimknaaK8a
import Derived.Test.YtljcogimeimknaaBlockNext
import Derived.Conc.MuLone
import Derived.Test.YtljcogimeimknaaK8d
import Derived.Test.YtljcogimeimknaaK8f
/- Entries there and back: what is written is read, what is read is written just so: plain words, no program. No condition. -/
namespace Go.Proofs.Ytljcogimeimknaa
set_option linter.unusedVariables false

/-- what is read is written just so -/
theorem read_back {p b k v : List UInt8} {q : Nat} (hb : b.length < 18446744073709551616) (h : pread p b 0 = ((k, v), q, 0)) : chk (k, v) = 0 ∧ q ≤ b.length ∧ ebytes p (k, v) = b.take q := by
  obtain ⟨⟨x, a3, e⟩, hr⟩ : ∃ R, pr3 b 3 [] 0 = R := ⟨_, rfl⟩
  by_cases he : e = 0
  · subst he
    obtain ⟨⟨s, i, e1⟩, h0⟩ : ∃ R, rd (b.drop 0) 0 0 = R := ⟨_, rfl⟩
    by_cases f1 : e1 = 0
    · subst f1
      obtain ⟨⟨m, j, e2⟩, h1⟩ : ∃ R, rd (b.drop (0 + i)) 0 0 = R := ⟨_, rfl⟩
      by_cases f2 : e2 = 0
      · subst f2
        obtain ⟨⟨l, t, e3⟩, h2⟩ : ∃ R, rd (b.drop (0 + i + j)) 0 0 = R := ⟨_, rfl⟩
        by_cases f3 : e3 = 0
        · subst f3
          have h3 := pr3_ok h0 h1 h2
          rw [pread_ok h3] at h
          obtain ⟨l0, t0, n0⟩ := rd_vbs h0
          obtain ⟨l1, t1, n1⟩ := rd_vbs h1
          obtain ⟨l2, t2, n2⟩ := rd_vbs h2
          have s0 := (rd_in h0).2
          simp only [List.length_drop] at l0 l1 l2
          obtain ⟨z, hz⟩ : ∃ z, 0 + i + j + t = z := ⟨_, rfl⟩
          rw [hz] at h
          have hbz : b.take z = vb s ++ (vb m ++ vb l) := by
            have e1 : z = i + (j + t) := by omega
            rw [e1, List.take_add, List.take_add, ← t0, ← t1, ← t2]
            simp
          by_cases c1 : p.length < s
          · rw [pend_s c1] at h; simp at h
          by_cases c2 : 64 < m ∨ 256 < l ∨ s + m = 0 ∨ 64 < s + m
          · rw [pend_long c1 c2] at h; simp at h
          by_cases c3 : b.length - z < m + l
          · rw [pend_short c1 c2 c3] at h; simp at h
          by_cases c4 : com p (p.take s ++ (b.drop z).take m) = s
          · by_cases c5 : 0 < p.length ∧ 0 ≤ cmp p (p.take s ++ (b.drop z).take m)
            · rw [pend_cmp c1 c2 c3 c4 c5] at h; simp at h
            · rw [pend_ok c1 c2 c3 c4 c5] at h
              simp only [Prod.mk.injEq] at h
              obtain ⟨⟨rfl, rfl⟩, rfl, _⟩ := h
              have lk : (p.take s ++ (b.drop z).take m).length = s + m := by simp; omega
              have lv : ((b.drop (z + m)).take l).length = l := by simp; omega
              refine ⟨?_, by omega, ?_⟩
              · unfold chk chkN keyN valN
                rw [lk, lv, if_neg (by omega), if_neg (by omega)]; rfl
              · unfold ebytes
                simp only
                rw [c4, lk, lv, Nat.add_sub_cancel_left, List.drop_left' (by simp; omega), Nat.add_assoc z m l, List.take_add, List.take_add, hbz, List.drop_drop]
                simp
          · rw [pend_com c1 c2 c3 c4] at h; simp at h
        · rw [pr3_go h0, pr3_go h1, pr3_no h2 f3] at hr
          simp only [Prod.mk.injEq] at hr
          exact absurd hr.2.2 f3
      · rw [pr3_go h0, pr3_no h1 f2] at hr
        simp only [Prod.mk.injEq] at hr
        exact absurd hr.2.2 f2
    · rw [pr3_no h0 f1] at hr
      simp only [Prod.mk.injEq] at hr
      exact absurd hr.2.2 f1
  · rw [pread_no hr he] at h
    simp only [Prod.mk.injEq] at h
    exact absurd h.2.2 he
end Go.Proofs.Ytljcogimeimknaa
/- Blocks there and back: what is built is read, what is read is built just so: plain words. No condition. -/
namespace Go.Proofs.Ytljcogimeimknaa
set_option linter.unusedVariables false

/-- the bytes and the places of entries behind a state -/
def bbody : BS → List Ent → List UInt8
  | _, [] => []
  | s, e :: r => ebytes (bP s.n s.last) e ++ bbody (bAdd s e) r
def bplaces : BS → Nat → List Ent → List Nat
  | _, _, [] => []
  | s, p, e :: r => p :: bplaces (bAdd s e) (p + (ebytes (bP s.n s.last) e).length) r
theorem fold_body : ∀ (r : List Ent) (s : BS), (r.foldl bAdd s).body = s.body ++ bbody s r
  | [], s => by simp [bbody]
  | e :: r, s => by
    rw [List.foldl_cons, fold_body r (bAdd s e)]
    show (s.body ++ ebytes (bP s.n s.last) e) ++ bbody (bAdd s e) r = s.body ++ (ebytes (bP s.n s.last) e ++ bbody (bAdd s e) r)
    rw [List.append_assoc]
theorem bmark_two (n a : Nat) (ps : List Nat) : bwant (bruns n (a :: ps)) = bMark n a ++ bwant (bruns (n + 1) ps) := by
  show bwant (if n % 8 = 0 then a :: bruns (n + 1) ps else bruns (n + 1) ps) = _
  unfold bMark
  split
  · unfold bwant; rw [List.flatMap_cons]; rfl
  · rfl
theorem fold_tab : ∀ (r : List Ent) (s : BS) (p : Nat), p = s.body.length + 1 → (r.foldl bAdd s).tab = s.tab ++ bwant (bruns s.n (bplaces s p r))
  | [], s, p, _ => by simp [bplaces, bruns, bwant]
  | e :: r, s, p, hp => by
    rw [List.foldl_cons, fold_tab r (bAdd s e) (p + (ebytes (bP s.n s.last) e).length) (by show _ = (s.body ++ ebytes (bP s.n s.last) e).length + 1; rw [List.length_append]; omega)]
    show (s.tab ++ bMark s.n (s.body.length + 1)) ++ _ = s.tab ++ bwant (bruns s.n (p :: bplaces (bAdd s e) (p + (ebytes (bP s.n s.last) e).length) r))
    rw [bmark_two, List.append_assoc, hp]; rfl
/-- a reading is alike from where it begins -/
theorem pread_shift {p b : List UInt8} {a q : Nat} {x : Ent} (h : pread p b a = (x, q, 0)) (ha : a ≤ b.length) : pread p (b.drop a) 0 = (x, q - a, 0) := by
  obtain ⟨⟨ns, a3, e⟩, hr⟩ : ∃ R, pr3 b 3 [] a = R := ⟨_, rfl⟩
  by_cases he : e = 0
  · subst he
    obtain ⟨⟨s, i, e1⟩, h0⟩ : ∃ R, rd (b.drop a) 0 0 = R := ⟨_, rfl⟩
    by_cases f1 : e1 = 0
    · subst f1
      obtain ⟨⟨m, j, e2⟩, h1⟩ : ∃ R, rd (b.drop (a + i)) 0 0 = R := ⟨_, rfl⟩
      by_cases f2 : e2 = 0
      · subst f2
        obtain ⟨⟨l, t, e3⟩, h2⟩ : ∃ R, rd (b.drop (a + i + j)) 0 0 = R := ⟨_, rfl⟩
        by_cases f3 : e3 = 0
        · subst f3
          have h3 := pr3_ok h0 h1 h2
          have k3 : pr3 (b.drop a) 3 [] 0 = ([s, m, l], 0 + i + j + t, 0) := pr3_ok (by simpa using h0) (by rw [List.drop_drop, Nat.zero_add]; exact h1) (by rw [List.drop_drop, Nat.zero_add, ← Nat.add_assoc]; exact h2)
          obtain ⟨l0, t0, n0⟩ := rd_vbs h0
          obtain ⟨l1, t1, n1⟩ := rd_vbs h1
          obtain ⟨l2, t2, n2⟩ := rd_vbs h2
          simp only [List.length_drop] at l0 l1 l2
          rw [pread_ok h3] at h
          rw [pread_ok k3]
          have hz : a + (0 + i + j + t) = a + i + j + t := by omega
          have hd : (b.drop a).drop (0 + i + j + t) = b.drop (a + i + j + t) := by rw [List.drop_drop, hz]
          have hd2 : ∀ k, (b.drop a).drop (0 + i + j + t + k) = b.drop (a + i + j + t + k) := fun k => by rw [List.drop_drop]; congr 1; omega
          have hl : (b.drop a).length - (0 + i + j + t) = b.length - (a + i + j + t) := by rw [List.length_drop]; omega
          by_cases c1 : p.length < s
          · rw [pend_s c1] at h; simp at h
          by_cases c2 : 64 < m ∨ 256 < l ∨ s + m = 0 ∨ 64 < s + m
          · rw [pend_long c1 c2] at h; simp at h
          by_cases c3 : b.length - (a + i + j + t) < m + l
          · rw [pend_short c1 c2 c3] at h; simp at h
          by_cases c4 : com p (p.take s ++ (b.drop (a + i + j + t)).take m) = s
          · by_cases c5 : 0 < p.length ∧ 0 ≤ cmp p (p.take s ++ (b.drop (a + i + j + t)).take m)
            · rw [pend_cmp c1 c2 c3 c4 c5] at h; simp at h
            · rw [pend_ok c1 c2 c3 c4 c5] at h
              simp only [Prod.mk.injEq] at h
              obtain ⟨rfl, rfl, _⟩ := h
              rw [pend_ok c1 c2 (by rw [hl]; exact c3) (by rw [hd]; exact c4) (by rw [hd]; exact c5), hd, hd2]
              simp only [Prod.mk.injEq, true_and, and_true]
              omega
          · rw [pend_com c1 c2 c3 c4] at h; simp at h
        · have h3 : pr3 b 3 [] a = ([], a + i + j + t, e3) := by rw [pr3_go h0, pr3_go h1, pr3_no h2 f3]
          rw [h3] at hr; simp only [Prod.mk.injEq] at hr; exact absurd hr.2.2 f3
      · have h3 : pr3 b 3 [] a = ([], a + i + j, e2) := by rw [pr3_go h0, pr3_no h1 f2]
        rw [h3] at hr; simp only [Prod.mk.injEq] at hr; exact absurd hr.2.2 f2
    · have h3 : pr3 b 3 [] a = ([], a + i, e1) := by rw [pr3_no h0 f1]
      rw [h3] at hr; simp only [Prod.mk.injEq] at hr; exact absurd hr.2.2 f1
  · rw [pread_no hr he] at h
    simp only [Prod.mk.injEq] at h; exact absurd h.2.2 he
/-- an entry that was read, as it was written -/
theorem pread_back {p b : List UInt8} {a q : Nat} {x : Ent} (hb : b.length < 18446744073709551616) (h : pread p b a = (x, q, 0)) (ha : a ≤ b.length) : b.take q = b.take a ++ ebytes p x := by
  have h1 := pread_shift h ha
  obtain ⟨_, h2, h3, _⟩ := pread_in h ha
  obtain ⟨k, v⟩ := x
  have := (read_back (by rw [List.length_drop]; omega) h1).2.2
  rw [this, show q = a + (q - a) by omega, List.take_add]
  congr 2; omega
/-- what was read of entries -/
theorem bents_back {b : List UInt8} (hb : b.length < 18446744073709551616) : ∀ (j : Nat) (pre : List Ent) (ps : List Nat) (p : Nat) (l : List Ent) (ps' : List Nat) (p' q : Nat), p ≤ b.length → bents b j pre ps p = (l, ps', p', 0, q) →
    ∃ r, l = pre ++ r ∧ r.length = j ∧ p' ≤ b.length ∧ ps' = ps ++ bplaces (bst pre) p r ∧ (srtFrom pre.length (bst pre).last r).2 = 0 ∧ b.take p' = b.take p ++ bbody (bst pre) r
  | 0, pre, ps, p, l, ps', p', q, hp, h => by
    have h : (pre, ps, p, (0 : Int), 0) = (l, ps', p', 0, q) := h
    simp only [Prod.mk.injEq] at h
    obtain ⟨rfl, rfl, rfl, _⟩ := h
    exact ⟨[], by simp, rfl, hp, by simp [bplaces], rfl, by simp [bbody]⟩
  | j + 1, pre, ps, p, l, ps', p', q, hp, h => by
    obtain ⟨⟨x, m, e⟩, hr⟩ : ∃ R, pread (bP pre.length (bst pre).last) b p = R := ⟨_, rfl⟩
    by_cases he : e = 0
    · subst he
      by_cases hc : 0 < pre.length ∧ 0 ≤ cmp (bst pre).last x.1
      · rw [bents_low hr hc] at h
        simp only [Prod.mk.injEq] at h; exact absurd h.2.2.2.1 (by decide)
      · rw [bents_go hr hc] at h
        obtain ⟨hx, hm1, hm2, _⟩ := pread_in hr hp
        have hpb := pread_back hb hr hp
        obtain ⟨r, h1, h2, h3, h4, h5, h6⟩ := bents_back hb j (pre ++ [x]) (ps ++ [p]) m l ps' p' q hm2 h
        have hn := bst_n pre
        rw [bst_snoc] at h4 h5 h6
        rw [List.length_append] at h5
        have hlen : m = p + (ebytes (bP pre.length (bst pre).last) x).length := by
          have := congrArg List.length hpb
          rw [List.length_append, List.length_take, List.length_take] at this; omega
        refine ⟨x :: r, by rw [h1, List.append_assoc]; rfl, by rw [List.length_cons, h2], h3, ?_, ?_, ?_⟩
        · rw [h4]
          show _ = ps ++ p :: bplaces (bAdd (bst pre) x) (p + (ebytes (bP (bst pre).n (bst pre).last) x).length) r
          rw [hn, ← hlen, List.append_assoc]; rfl
        · rw [srt_go (by omega) hc]; exact h5
        · rw [h6, hpb]
          show _ = b.take p ++ (ebytes (bP (bst pre).n (bst pre).last) x ++ bbody (bAdd (bst pre) x) r)
          rw [hn, List.append_assoc]
    · rw [bents_no hr he] at h
      simp only [Prod.mk.injEq] at h; exact absurd h.2.2.2.1 he
theorem btable_back {b : List UInt8} : ∀ (l : List UInt8) (p : Nat), p ≤ b.length → (btable b l p).2 = 0 → b.drop p = l
  | [], p, hp, h => by
    by_cases hlt : p < b.length
    · rw [btable_end hlt] at h; cases h
    · exact List.drop_of_length_le (by omega)
  | c :: r, p, hp, h => by
    by_cases hg : b[p]? = some c
    · rw [btable_go hg] at h
      obtain ⟨hlt, e⟩ := List.getElem?_eq_some_iff.1 hg
      have := btable_back r (p + 1) hlt h
      rw [List.drop_eq_getElem_cons hlt, this, e]
    · rw [btable_no hg] at h; cases h
/-- what is read is built just so -/
theorem bread_back {b : List UInt8} {l : List Ent} {q : Nat} (hb : b.length < 18446744073709551616) (h : bread b = (l, q, 0)) : ¬ (l.length < 1 ∨ 64 < l.length) ∧ (srt l).2 = 0 ∧ bld l = b := by
  obtain ⟨⟨n, d, e0⟩, hr⟩ : ∃ X, rd b 0 0 = X := ⟨_, rfl⟩
  by_cases he0 : e0 = 0
  · subst he0
    by_cases hn : n < 1 ∨ 64 < n
    · rw [bread_no (bentries_bad hr hn) (by decide)] at h
      simp only [Prod.mk.injEq] at h; exact absurd h.2.2 (by decide)
    · obtain ⟨⟨l', ps, p, e, qq⟩, hE⟩ : ∃ X, bents b n [] [] d = X := ⟨_, rfl⟩
      have hen := bentries_go hr hn
      rw [hE] at hen
      by_cases he : e = 0
      · subst he
        obtain ⟨⟨q', e'⟩, hT⟩ : ∃ X, btable b (bwant (bruns 0 ps)) p = X := ⟨_, rfl⟩
        by_cases he' : e' = 0
        · subst he'
          rw [bread_ok hen hT] at h
          simp only [Prod.mk.injEq] at h
          obtain ⟨rfl, _⟩ := h
          obtain ⟨hd1, hd2, hd3⟩ := rd_vbs (l := b) hr
          obtain ⟨r, h1, h2, h3, h4, h5, h6⟩ := bents_back hb n [] [] d l' ps p qq hd1 hE
          rw [List.nil_append] at h1 h4
          subst h1
          have hd : d = 1 := by rw [hd3, vb_lt (show n < 128 by omega)]; rfl
          have htab := btable_back _ p h3 (by rw [hT])
          have hne : l' ≠ [] := by intro e; subst e; simp at h2; omega
          refine ⟨by rw [h2]; exact hn, h5, ?_⟩
          rw [bld_some hne, h2, ← hd2]
          have hbody : (bst l').body = bbody BS0 l' := by have := fold_body l' BS0; unfold bst; rw [this]; rfl
          have htb : (bst l').tab = bwant (bruns 0 (bplaces BS0 1 l')) := by have := fold_tab l' BS0 1 rfl; unfold bst; rw [this]; rfl
          rw [hbody, htb]
          rw [bst_nil] at h4 h6
          rw [hd] at h4
          rw [← h4, ← htab, ← h6, List.take_append_drop]
        · rw [bread_tab (p' := 0) hen hT he'] at h
          simp only [Prod.mk.injEq] at h; exact absurd h.2.2 he'
      · rw [bread_no hen he] at h
        simp only [Prod.mk.injEq] at h; exact absurd h.2.2 he
  · rw [bread_no (bentries_no hr he0) he0] at h
    simp only [Prod.mk.injEq] at h; exact absurd h.2.2 he0
end Go.Proofs.Ytljcogimeimknaa
/- A block is read: begin, end, the list that grows, what Read does, Read: contracts. Condition: the bytes within reach. -/
namespace Go.Proofs.Ytljcogimeimknaa
open Go.RowKit
set_option linter.unusedVariables false

/-- behind the beginning: given up, or a reader of the call's own -/
def BegPost (w : World) (ab : Option Addr) (nb cb : Nat) (b : List UInt8) (r : Ending) (w' : World) : Prop :=
  ∃ (n q : Nat) (er : Int), rd b 0 0 = (n, q, er) ∧ Below w.heap.size w w' ∧ (er ≠ 0 → r = wrongBy er q) ∧ (er = 0 → n < 1 ∨ 64 < n → r = wrongBy 61 0) ∧
    (er = 0 → ¬ (n < 1 ∨ 64 < n) → ∃ g, r = .returned (.pointer (some ⟨g, 0, none⟩)) ∧ Rdr w' w.heap.size g ab nb cb n 0 q (.slice none 0 0) (.slice none 0 0) [] [])
theorem Rdr.new (w : World) (lo : Nat) (ab : Option Addr) (nb cb n q : Nat) (hlo : lo ≤ w.heap.size) : Rdr (w.alloc (.cells #[.slice ab nb cb, .int .i64 (n : Nat), .int .i64 0, .int .i64 (q : Nat), .slice none 0 0, .slice none 0 0] 167)) lo w.heap.size ab nb cb n 0 q (.slice none 0 0) (.slice none 0 0) [] [] :=
  ⟨heap_new w _, OwT.nil _ _ _ _, OwT.nil _ _ _ _, fun j hj => (by cases hj), fun j hj => (by cases hj), fun b hb => (by cases hb), hlo, .inl ⟨rfl, rfl⟩⟩
set_option maxRecDepth 100000 in
theorem bbegin_any (ab : Option Addr) (nb cb : Nat) (b : List UInt8) (w : World) (hb : nb ≤ 140737499999999) (hB : Sl Bf w ab nb cb b) :
    Calls Try.prog 125 #[.slice ab nb cb] w (BegPost w ab nb cb b) := by
  obtain ⟨⟨n, q, er⟩, hq⟩ : ∃ R, rd b 0 0 = R := ⟨_, rfl⟩
  have hv := vread_any ab nb cb b 0 w (by omega) (Nat.zero_le _) hB
  rw [List.drop_zero, hq, Nat.zero_add] at hv
  dsimp only at hv
  have HV := Lib.hid (show Calls Try.prog 131 #[.slice ab nb cb, .int .i64 0] w _ from hv)
  have HQ := Lib.hid hq
  clear hv hB hq
  by_cases hz : er = 0
  · subst hz
    by_cases hn : n < 1 ∨ 64 < n
    · have HN := Lib.hid hn
      rcases hn with hn | hn
      · obtain rfl : n = 0 := by omega
        go_enter Try.func125, Try.ntmps125
        go_wp2_with fail
        refine HV.out.mono ?_
        rintro r w1 ⟨rfl, hb1⟩
        have H1 := Lib.hid hb1
        clear hb1
        go_wp2_with fail
        exact ⟨rfl, 0, q, 0, HQ.out, H1.out, fun e => absurd rfl e, fun _ _ => rfl, fun _ e => absurd HN.out e⟩
      · have t1 : ((n : Int) == 0) = false := by rw [beq_eq_false_iff_ne]; omega
        have t1' : (n == 0) = false := by rw [beq_eq_false_iff_ne]; omega
        have t2 : decide ((n : Int) > 64) = true := decide_eq_true (by omega)
        have t2' : decide (64 < n) = true := decide_eq_true (by omega)
        clear hn
        go_enter Try.func125, Try.ntmps125
        go_wp2_with fail
        refine HV.out.mono ?_
        rintro r w1 ⟨rfl, hb1⟩
        have H1 := Lib.hid hb1
        clear hb1
        go_wp2_with fail
        exact ⟨rfl, n, q, 0, HQ.out, H1.out, fun e => absurd rfl e, fun _ _ => rfl, fun _ e => absurd HN.out e⟩
    · have HN := Lib.hid hn
      have t1 : ((n : Int) == 0) = false := by rw [beq_eq_false_iff_ne]; omega
      have t1' : (n == 0) = false := by rw [beq_eq_false_iff_ne]; omega
      have t2 : decide ((n : Int) > 64) = false := decide_eq_false (by omega)
      have t2' : decide (64 < n) = false := decide_eq_false (by omega)
      have r1 : IntKind.i64.wrap (n : Int) = n := IntWalk.i64_in _ (by omega)
      clear hn
      go_enter Try.func125, Try.ntmps125
      go_wp2_with fail
      refine HV.out.mono ?_
      rintro r w1 ⟨rfl, hb1⟩
      have H1 := Lib.hid hb1
      clear hb1
      go_wp2_with fail
      go_ret
      exact ⟨n, q, 0, HQ.out, H1.out.alloc H1.out.size _, fun e => absurd rfl e, fun _ e => absurd e HN.out, fun _ _ => ⟨_, rfl, Rdr.new w1 _ ab nb cb n q H1.out.size⟩⟩
  · have t3 : (er != 0) = true := by rw [bne_iff_ne]; exact hz
    have HZ := Lib.hid hz
    clear hz
    go_enter Try.func125, Try.ntmps125
    go_wp2_with fail
    refine HV.out.mono ?_
    rintro r w1 ⟨rfl, hb1⟩
    have H1 := Lib.hid hb1
    clear hb1
    go_wp2_with fail
    exact ⟨rfl, n, q, er, HQ.out, H1.out, fun _ => rfl, fun e => absurd e HZ.out, fun e => absurd e HZ.out⟩
/-- behind the end -/
def EndPost (w : World) (g : Nat) (b : List UInt8) (runs : List Nat) (a : Nat) (r : Ending) (w' : World) : Prop :=
  Turns (fun j => j = g) w w' ∧ ((btable b (bwant runs) a).2 = 0 → r = .returned (.tuple #[])) ∧ ((btable b (bwant runs) a).2 ≠ 0 → r = wrongBy (btable b (bwant runs) a).2 (btable b (bwant runs) a).1)
theorem bcells (x : Nat) (hx : x ≤ 65535) : (#[.int .u8 ((x : Int) % 256), .int .u8 ((x : Int) / 256)] : Array Value).toList = (bmark2 x).map Bf := by
  have a : Value.int .u8 ((x : Int) % 256) = Bf (UInt8.ofNat x) := rfl
  have b : Value.int .u8 (((x / 256 : Nat) : Int) % 256) = Bf (UInt8.ofNat (x / 256)) := rfl
  unfold bmark2
  simp only [List.map_cons, List.map_nil]
  rw [← a, ← b]
  congr 3; congr 1; omega
set_option maxRecDepth 100000 in
set_option maxHeartbeats 8000000 in
theorem bend_any (lo g : Nat) (ab : Option Addr) (nb cb n d a : Nat) (vl vr : Value) (last : List UInt8) (runs : List Nat) (b : List UInt8) (w : World)
    (hb : nb ≤ 140737499999999) (ha : a ≤ b.length) (hr : runs.length ≤ 1000) (hru : ∀ x, x ∈ runs → x ≤ 65535) (hR : Rdr w lo g ab nb cb n d a vl vr last runs) (hB : Sl Bf w ab nb cb b) (hlo : ∀ b o, ab = some ⟨b, o, none⟩ → 0 < nb → b < lo) :
    Calls Try.prog 127 #[.pointer (some ⟨g, 0, none⟩)] w (EndPost w g b runs a) := by
  obtain rfl : b.length = nb := hB.len
  obtain ⟨⟨q, e⟩, hq⟩ : ∃ R, btable b (bwant runs) a = R := ⟨_, rfl⟩
  unfold EndPost
  rw [hq]
  dsimp only
  obtain ⟨aR, nR, cR, rfl, hnr, -⟩ := hR.rr.slRI
  have lg := hR.lt
  have HRU := Lib.hid hru
  have HLO := Lib.hid hlo
  have HR := Lib.hid hr
  have HQ := Lib.hid hq
  have B := Lib.hid hB
  have c5 := hR.c5
  obtain ⟨a9, c9, hv9, hsr⟩ := hR.rr.sl fI_len
  injection hv9 with e1 e2 e3
  subst e1 e3
  have RR := Lib.hid hsr.to1
  have LOW := Lib.hid hR.low
  have R := Lib.hid hR
  obtain ⟨N, hN⟩ : ∃ N, runs.length = N := ⟨_, rfl⟩
  obtain rfl : nR = N := by omega
  have HNN := Lib.hid hN
  have hnk : nR ≤ 1000 := by omega
  clear hN e2 hsr hq hru hlo hr hnr hB hR
  go_enter Try.func127, Try.ntmps127
  go_wp2_with fail
  go_loopw [11] (fun i wr => ∃ (k m : Nat), i = .int .i64 (k : Nat) ∧ k ≤ nR ∧ m ≤ b.length ∧ Rdr wr lo g ab b.length cb n d m vl (.slice aR nR cR) last runs ∧ Turns (fun j => j = g) w wr ∧ btable b (bwant (runs.drop k)) m = (q, e)) (fun i _ => nR - (intOf i).toNat)
  case atStart => exact ⟨0, a, rfl, Nat.zero_le _, ha, R.out, .refl _ _, by rw [List.drop_zero]; exact HQ.out⟩
  case round =>
    obtain ⟨k, m, rfl, hk, hm, hR, hT, hq⟩ := hrel
    have T := Lib.hid hT
    replace R := Lib.hid hR
    replace HQ := Lib.hid hq
    clear hT hR hq c5
    have RS := Lib.hid (R.out.rr.sl fI_len)
    replace B := Lib.hid (B.out.turns T.out fun bb oo e1 e2 e3 => by have := HLO.out bb oo e1 e2; have := LOW.out; omega)
    by_cases hlt : k < nR
    · obtain ⟨x, hx⟩ : ∃ x, runs[k]? = some x := ⟨_, List.getElem?_eq_getElem (by have := HNN.out; omega)⟩
      obtain ⟨a9, c9, hv9, hsr⟩ := RS.out
      injection hv9 with e1 e2 e3
      obtain ⟨br, orr, hra, hcr⟩ := hsr.to1.2.2.2 k x hx
      rw [← e1] at hra
      subst hra
      have hx6 := HRU.out x (List.mem_of_getElem? hx)
      have HX := Lib.hid hx
      clear e1 e2 e3 hsr hx RS
      have HDR := Lib.hid (show btable b (bmark2 x ++ bwant (runs.drop (k + 1))) m = (q, e) by
        have := HQ.out
        rw [show runs.drop k = x :: runs.drop (k + 1) from by obtain ⟨hl, rfl⟩ := List.getElem?_eq_some_iff.1 HX.out; exact List.drop_eq_getElem_cons hl] at this
        exact this)
      have MK := Lib.hid (show (#[.int .u8 ((x : Int) % 256), .int .u8 ((x : Int) / 256)] : Array Value).toList = (bmark2 x).map Bf from bcells x hx6)
      go_wp2_with fail
      have hb1 : Below wr.heap.size wr (wr.alloc (.cells #[.int .u8 ((x : Int) % 256), .int .u8 ((x : Int) / 256)] 5)) := (Below.refl _ _).alloc (Nat.le_refl _) _
      have S2 := Lib.hid (Sl.lit (f := Bf) wr 5 _ (bmark2 x) 2 rfl MK.out)
      have R1 := Lib.hid (R.out.keep hb1)
      have T1 := Lib.hid (T.out.trans_below hb1)
      replace B := Lib.hid (B.out.keep hb1)
      have lgr : g < wr.heap.size := R.out.lt
      obtain ⟨gr, hgr⟩ : ∃ z, wr.heap.size = z := ⟨_, rfl⟩
      rw [hgr] at S2 lgr ⊢
      clear hb1 hgr MK HQ T R hcr
      generalize wr.alloc (.cells #[.int .u8 ((x : Int) % 256), .int .u8 ((x : Int) / 256)] 5) = w1 at *
      go_loopw [22] (fun i wq => ∃ (h m1 : Nat), i = .int .i64 (h : Nat) ∧ h ≤ 2 ∧ m1 ≤ b.length ∧ Rdr wq lo g ab b.length cb n d m1 vl (.slice (some ⟨br, orr, none⟩) nR cR) last runs ∧ Turns (fun j => j = g) w wq ∧ Turns (fun j => j = g) w1 wq ∧ btable b ((bmark2 x).drop h ++ bwant (runs.drop (k + 1))) m1 = (q, e)) (fun i _ => 2 - (intOf i).toNat)
      case atStart => exact ⟨0, m, rfl, by omega, hm, R1.out, T1.out, .refl _ _, HDR.out⟩
      case round =>
        obtain ⟨h, m1, rfl, hh, hm1, hR, hT, hT1, hq⟩ := hrel
        replace R1 := Lib.hid hR
        replace T1 := Lib.hid hT
        have U1 := Lib.hid hT1
        replace HDR := Lib.hid hq
        clear hR hT hT1 hq
        have S3 := Lib.hid (S2.out.turns U1.out fun bb oo e1 e2 e3 => by injection e1 with e1; injection e1 with e1; omega)
        have B3 := Lib.hid (B.out.turns U1.out fun bb oo e1 e2 e3 => by have := HLO.out bb oo e1 e2; have := LOW.out; omega)
        by_cases hl2 : h < 2
        · obtain ⟨c, hc⟩ : ∃ c, (bmark2 x)[h]? = some c := ⟨_, List.getElem?_eq_getElem hl2⟩
          obtain ⟨b2, o2, ea, hcc⟩ := S3.out.2.2.2 h c hc
          injection ea with ea
          injection ea with ea1 ea2 ea3
          subst ea1 ea2
          rw [Nat.zero_add] at hcc
          have HDQ := Lib.hid (show btable b (c :: ((bmark2 x).drop (h + 1) ++ bwant (runs.drop (k + 1)))) m1 = (q, e) by
            have := HDR.out
            rw [show (bmark2 x).drop h = c :: (bmark2 x).drop (h + 1) from by obtain ⟨hl, rfl⟩ := List.getElem?_eq_some_iff.1 hc; exact List.drop_eq_getElem_cons hl] at this
            exact this)
          have c0 := R1.out.c0
          have c3 := R1.out.c3
          have f3 := R1.out.free 3
          clear hc HDR
          by_cases hmb : m1 = b.length
          · have hno := HDQ.out
            rw [btable_no (by rw [List.getElem?_eq_none (by omega)]; exact fun e => by cases e)] at hno
            simp only [Prod.mk.injEq] at hno
            obtain ⟨rfl, rfl⟩ := hno
            have t1 : ((m1 : Int) == (b.length : Nat)) = true := by rw [beq_iff_eq]; omega
            have t1' : (m1 == b.length) = true := by rw [beq_iff_eq]; exact hmb
            clear hmb
            go_wp2_with fail
            go_quiet (fail)
            go_wp2_with fail
            exact ⟨rfl, T1.out.drewN _, fun e => (by cases e), fun _ => rfl⟩
          · obtain ⟨y, hy⟩ : ∃ y, b[m1]? = some y := ⟨_, List.getElem?_eq_getElem (by omega)⟩
            have hm1' : m1 < b.length := by omega
            obtain ⟨b3, o3, rfl, hyc⟩ := B3.out.2.2.2 m1 y hy
            have t1 : ((m1 : Int) == (b.length : Nat)) = false := by rw [beq_eq_false_iff_ne]; omega
            have t1' : (m1 == b.length) = false := by rw [beq_eq_false_iff_ne]; exact hmb
            by_cases hyc2 : y = c
            · subst hyc2
              have HD2 := Lib.hid (show btable b ((bmark2 x).drop (h + 1) ++ bwant (runs.drop (k + 1))) (m1 + 1) = (q, e) by have := HDQ.out; rw [btable_go hy] at this; exact this)
              have t2 : (Go.Proofs.Ytljcogimeimknaa.B y != Go.Proofs.Ytljcogimeimknaa.B y) = false := by simp
              have r1 : IntKind.i64.wrap ((m1 : Int) + 1) = (m1 : Int) + 1 := IntWalk.i64_in _ (by omega)
              clear hmb hy
              go_wp2_with fail
              go_quiet (fail)
              go_wp2_with fail
              go_roundw
              case rel =>
                have hs := Turns.set (S := fun j => j = g) (wr.drewN nq) (b := g) (i := 3) rfl (.int .i64 ((m1 + 1 : Nat) : Int))
                exact ⟨h + 1, m1 + 1, by go_num, by omega, by omega, (R1.out.drewN nq).place (m1 + 1), (T1.out.drewN nq).trans (T := fun j => j = g) hs fun _ _ t => t, (U1.out.drewN nq).trans (T := fun j => j = g) hs fun _ _ t => t, HD2.out⟩
              case measure => simp [intOf]; omega
            · have hno := HDQ.out
              rw [btable_no (by rw [hy]; exact fun e => hyc2 (by injection e))] at hno
              simp only [Prod.mk.injEq] at hno
              obtain ⟨rfl, rfl⟩ := hno
              have t2 : (Go.Proofs.Ytljcogimeimknaa.B y != Go.Proofs.Ytljcogimeimknaa.B c) = true := by rw [bne_iff_ne]; exact fun e => hyc2 (B_inj e)
              clear hmb hy hyc2
              go_wp2_with fail
              go_quiet (fail)
              go_wp2_with fail
              exact ⟨rfl, T1.out.drewN _, fun e => (by cases e), fun _ => rfl⟩
        · obtain rfl : h = 2 := by omega
          have HD2 := Lib.hid (show btable b (bwant (runs.drop (k + 1))) m1 = (q, e) from HDR.out)
          go_wp2_with fail
          go_roundw
          case rel => exact ⟨k + 1, m1, by go_num, by omega, hm1, R1.out, T1.out, HD2.out⟩
          case measure => simp [intOf]; omega
    · obtain rfl : k = nR := by omega
      have hdn : runs.drop k = [] := List.drop_of_length_le (by have := HNN.out; omega)
      have hq0 := HQ.out
      rw [hdn] at hq0
      have HQ0 := Lib.hid (show btable b [] m = (q, e) from hq0)
      have c0 := R.out.c0
      have c3 := R.out.c3
      clear hdn hq0 HQ
      by_cases hml : m < b.length
      · have hno := HQ0.out
        rw [btable_end hml] at hno
        simp only [Prod.mk.injEq] at hno
        obtain ⟨rfl, rfl⟩ := hno
        have t1 : decide ((m : Int) < (b.length : Nat)) = true := decide_eq_true (by omega)
        have t1' : decide (m < b.length) = true := decide_eq_true hml
        go_wp2_with fail
        go_quiet (fail)
        go_wp2_with fail
        exact ⟨rfl, T.out.drewN _, fun e => (by cases e), fun _ => rfl⟩
      · have hno := HQ0.out
        rw [btable_ok hml] at hno
        simp only [Prod.mk.injEq] at hno
        obtain ⟨rfl, rfl⟩ := hno
        have t1 : decide ((m : Int) < (b.length : Nat)) = false := decide_eq_false (by omega)
        have t1' : decide (m < b.length) = false := decide_eq_false hml
        go_wp2_with fail
        go_quiet (fail)
        go_wp2_with fail
        go_end0
        exact ⟨T.out.drewN _, rfl⟩
/-- a list, its texts -/
structure RdW (w : World) (lo : Nat) (y : Value) (vs : List (Sv × Sv)) (es : List Ent) : Prop where
  own : OwZ fE zE w lo 42 y vs
  len : vs.length = es.length
  txt : ∀ (i : Nat) (x : Sv × Sv) (e : Ent), vs[i]? = some x → es[i]? = some e → OwT fB w lo 5 (sv x.1) e.1 ∧ OwT fB w lo 5 (sv x.2) e.2
  off : ∀ (i : Nat) (x : Sv × Sv), vs[i]? = some x → ∀ j, y.ownBlock = some j → (sv x.1).ownBlock ≠ some j ∧ (sv x.2).ownBlock ≠ some j
/-- the same, the texts of one entry in none of another's blocks -/
structure RdL (w : World) (lo : Nat) (y : Value) (vs : List (Sv × Sv)) (es : List Ent) : Prop extends RdW w lo y vs es where
  apt : ∀ (i k : Nat) (x z : Sv × Sv), i < k → vs[i]? = some x → vs[k]? = some z → ∀ j, ((sv x.1).ownBlock = some j ∨ (sv x.2).ownBlock = some j) → ¬ ((sv z.1).ownBlock = some j ∨ (sv z.2).ownBlock = some j)
/-- its blocks -/
def RLB (y : Value) (vs : List (Sv × Sv)) (j : Nat) : Prop := y.ownBlock = some j ∨ ∃ (i : Nat) (x : Sv × Sv), vs[i]? = some x ∧ ((sv x.1).ownBlock = some j ∨ (sv x.2).ownBlock = some j)
theorem RdL.nil (w : World) (lo : Nat) : RdL w lo (.slice none 0 0) [] [] := ⟨⟨OwZ.nil _ _ _ _ _, rfl, fun i x e h _ => by simp at h, fun i x h => by simp at h⟩, fun i k x z _ h => by simp at h⟩
section
variable {w w1 : World} {lo : Nat} {y : Value} {vs : List (Sv × Sv)} {es : List Ent}
theorem RdW.get (h : RdW w lo y vs es) {i : Nat} {x : Sv × Sv} (hx : vs[i]? = some x) : ∃ e, es[i]? = some e :=
  ⟨_, List.getElem?_eq_getElem (by have := (List.getElem?_eq_some_iff.1 hx).1; have := h.len; omega)⟩
theorem RdW.inB (h : RdW w lo y vs es) : ∀ j, RLB y vs j → lo ≤ j ∧ j < w.heap.size := fun j hj => by
  rcases hj with hj | ⟨i, x, hx, hj⟩
  · exact h.own.t.lt j hj
  · obtain ⟨e, he⟩ := h.get hx
    rcases hj with hj | hj
    · exact (h.txt i x e hx he).1.lt j hj
    · exact (h.txt i x e hx he).2.lt j hj
theorem RdW.turns {S : Nat → Prop} (h : RdW w lo y vs es) (ht : Turns S w w1) (hs : ∀ j, RLB y vs j → ¬ S j) : RdW w1 lo y vs es :=
  ⟨h.own.of_block fun j hj => ht.block j (h.own.t.lt j hj).2 (hs j (.inl hj)), h.len,
    fun i x e hx he => ⟨(h.txt i x e hx he).1.turns ht fun j hj => hs j (.inr ⟨i, x, hx, .inl hj⟩), (h.txt i x e hx he).2.turns ht fun j hj => hs j (.inr ⟨i, x, hx, .inr hj⟩)⟩, h.off⟩
theorem RdW.keep (h : RdW w lo y vs es) (hb : Below w.heap.size w w1) : RdW w1 lo y vs es := h.turns (S := fun _ => False) (.of_below hb) fun _ _ e => e
theorem RdL.turns {S : Nat → Prop} (h : RdL w lo y vs es) (ht : Turns S w w1) (hs : ∀ j, RLB y vs j → ¬ S j) : RdL w1 lo y vs es := ⟨h.toRdW.turns ht hs, h.apt⟩
theorem RdL.keep (h : RdL w lo y vs es) (hb : Below w.heap.size w w1) : RdL w1 lo y vs es := h.turns (S := fun _ => False) (.of_below hb) fun _ _ e => e
/-- an entry more -/
theorem RdW.app {y' : Value} {x : Sv × Sv} {e : Ent} (h : RdW w lo y vs es) (ho : OwZ fE zE w1 lo 42 y' (vs ++ [x])) (ht : Turns (fun j => y.ownBlock = some j) w w1) (hy : ∀ j, y'.ownBlock = some j → y.ownBlock = some j ∨ w.heap.size ≤ j)
    (o1 : OwT fB w lo 5 (sv x.1) e.1) (o2 : OwT fB w lo 5 (sv x.2) e.2) (hn : ∀ j, y.ownBlock = some j → (sv x.1).ownBlock ≠ some j ∧ (sv x.2).ownBlock ≠ some j) : RdW w1 lo y' (vs ++ [x]) (es ++ [e]) := by
  have hl := h.len
  refine ⟨ho, by rw [List.length_append, List.length_append, hl]; rfl, fun i z q hz hq => ?_, fun i z hz j hj => ?_⟩
  · by_cases hi : i < vs.length
    · rw [List.getElem?_append_left hi] at hz
      rw [List.getElem?_append_left (by omega)] at hq
      obtain ⟨a, b⟩ := h.txt i z q hz hq
      exact ⟨a.turns ht fun j hj e => (h.off i z hz j e).1 hj, b.turns ht fun j hj e => (h.off i z hz j e).2 hj⟩
    · rw [List.getElem?_append_right (by omega)] at hz
      rw [List.getElem?_append_right (by omega)] at hq
      have hi0 : i - vs.length = 0 := by have := (List.getElem?_eq_some_iff.1 hz).1; simp at this; omega
      rw [hi0] at hz
      rw [← hl, hi0] at hq
      obtain rfl : x = z := by simpa using hz
      obtain rfl : e = q := by simpa using hq
      exact ⟨o1.turns ht fun j hj e => (hn j e).1 hj, o2.turns ht fun j hj e => (hn j e).2 hj⟩
  · by_cases hi : i < vs.length
    · rw [List.getElem?_append_left hi] at hz
      obtain ⟨q, hq⟩ := h.get hz
      obtain ⟨a, b⟩ := h.txt i z q hz hq
      rcases hy j hj with hj | hj
      · exact h.off i z hz j hj
      · exact ⟨fun e => by have := (a.lt j e).2; omega, fun e => by have := (b.lt j e).2; omega⟩
    · rw [List.getElem?_append_right (by omega)] at hz
      have hi0 : i - vs.length = 0 := by have := (List.getElem?_eq_some_iff.1 hz).1; simp at this; omega
      rw [hi0] at hz
      obtain rfl : x = z := by simpa using hz
      rcases hy j hj with hj | hj
      · exact hn j hj
      · exact ⟨fun e => by have := (o1.lt j e).2; omega, fun e => by have := (o2.lt j e).2; omega⟩
theorem RdL.app {y' : Value} {x : Sv × Sv} {e : Ent} (h : RdL w lo y vs es) (ho : OwZ fE zE w1 lo 42 y' (vs ++ [x])) (ht : Turns (fun j => y.ownBlock = some j) w w1) (hy : ∀ j, y'.ownBlock = some j → y.ownBlock = some j ∨ w.heap.size ≤ j)
    (o1 : OwT fB w lo 5 (sv x.1) e.1) (o2 : OwT fB w lo 5 (sv x.2) e.2) (hn : ∀ j, RLB y vs j → (sv x.1).ownBlock ≠ some j ∧ (sv x.2).ownBlock ≠ some j) : RdL w1 lo y' (vs ++ [x]) (es ++ [e]) := by
  refine ⟨h.toRdW.app ho ht hy o1 o2 fun j hj => hn j (.inl hj), fun i k z q hik hz hq j hj hj2 => ?_⟩
  have hk := (List.getElem?_eq_some_iff.1 hq).1
  simp only [List.length_append, List.length_cons, List.length_nil] at hk
  rw [List.getElem?_append_left (by omega)] at hz
  by_cases hkv : k < vs.length
  · rw [List.getElem?_append_left hkv] at hq
    exact h.apt i k z q hik hz hq j hj hj2
  · rw [List.getElem?_append_right (by omega), show k - vs.length = 0 by omega] at hq
    obtain rfl : x = q := by simpa using hq
    have := hn j (.inr ⟨i, z, hz, hj⟩)
    rcases hj2 with e | e
    · exact this.1 e
    · exact this.2 e
theorem RdW.ents (h : RdW w lo y vs es) : ∃ a c, y = .slice a es.length c ∧ Ents w a es.length c es := by
  obtain ⟨ho, hl, ht, _⟩ := h
  obtain ⟨a, c, hv, hs⟩ := ho.t.sl fE_len
  rw [hl] at hv hs
  refine ⟨a, c, hv, rfl, hs.2.1, hs.2.2.1, fun i k v hi => ?_⟩
  have hin : i < vs.length := by have := (List.getElem?_eq_some_iff.1 hi).1; omega
  obtain ⟨b, o, ha, hc⟩ := hs.2.2.2 i _ (List.getElem?_eq_getElem hin)
  obtain ⟨m1, m2⟩ := ht i _ (k, v) (List.getElem?_eq_getElem hin) hi
  exact ⟨b, o, _, _, _, _, _, _, ha, hc 0 _ rfl, hc 1 _ rfl, m1.slI, m2.slI⟩
end
theorem bruns_len : ∀ (i : Nat) (l : List Nat), (bruns i l).length ≤ l.length
  | _, [] => Nat.le_refl _
  | i, a :: r => by
    have := bruns_len (i + 1) r
    show (if i % 8 = 0 then a :: bruns (i + 1) r else bruns (i + 1) r).length ≤ _
    split <;> simp <;> omega
theorem bruns_mem : ∀ (i : Nat) (l : List Nat) (x : Nat), x ∈ bruns i l → x ∈ l
  | _, [], x, h => h
  | i, a :: r, x, h => by
    have h : x ∈ (if i % 8 = 0 then a :: bruns (i + 1) r else bruns (i + 1) r) := h
    split at h
    · rcases List.mem_cons.1 h with h | h
      · exact h ▸ List.mem_cons_self
      · exact List.mem_cons_of_mem _ (bruns_mem _ r x h)
    · exact List.mem_cons_of_mem _ (bruns_mem _ r x h)
/-- how many entries a reader has read -/
def doneOf (w : World) (g : Nat) : Nat := match w.cell? ⟨g, 2, none⟩ with | some (.int _ d) => d.toNat | _ => 0
theorem Rdr.doneOf {w : World} {lo g nb cb n d a : Nat} {ab : Option Addr} {vl vr : Value} {last : List UInt8} {runs : List Nat} (h : Rdr w lo g ab nb cb n d a vl vr last runs) : doneOf w g = d := by
  unfold Go.Proofs.Ytljcogimeimknaa.doneOf; rw [h.c2]; exact Int.toNat_natCast d
/-- behind it: what the block reads as, or the error and its place -/
def DoPost (w : World) (gl : Nat) (b : List UInt8) (e q : Int) (w' : World) : Prop :=
  e = (bread b).2.2 ∧ q = (bread b).2.1 ∧ Turns (fun j => j = gl) w w' ∧ (e = 0 → ∃ y vs, w'.heap[gl]? = some (.cells #[y] 22 (0, 0)) ∧ RdL w' w.heap.size y vs (bread b).1)
/-- in the midst of it -/
structure DoSt (w0 w : World) (gl g : Nat) (ab : Option Addr) (cb n : Nat) (b : List UInt8) (X : List Ent × List Nat × Nat × Int × Nat) (k m : Nat) (vl vr y : Value) (vs : List (Sv × Sv)) (es : List Ent) (ps : List Nat) : Prop where
  rd : Rdr w w0.heap.size g ab b.length cb n k m vl vr (bst es).last (bruns 0 ps)
  box : w.heap[gl]? = some (.cells #[y] 22 (0, 0))
  ls : RdL w w0.heap.size y vs es
  dis : ∀ j, RLB y vs j → ¬ RdS g vl vr j
  tu : Turns (fun j => j = gl) w0 w
  kn : k ≤ n
  el : es.length = k
  pl : ps.length = k
  mb : m ≤ b.length
  ll : (bst es).last.length ≤ 64 ∧ (0 < k → 0 < (bst es).last.length)
  pr : ∀ p, p ∈ ps → p ≤ 65535
  far1 : m ≤ 1 + 350 * k
  eq : bents b (n - k) es ps m = X
section
variable {w0 w : World} {gl g cb n k m : Nat} {ab : Option Addr} {b : List UInt8} {X : List Ent × List Nat × Nat × Int × Nat} {vl vr y : Value} {vs : List (Sv × Sv)} {es : List Ent} {ps : List Nat}
theorem DoSt.prd (S : DoSt w0 w gl g ab cb n b X k m vl vr y vs es ps) : erd (if k % 8 = 0 then [] else (bst es).last) b m = pread (bP es.length (bst es).last) b m := by
  rw [S.el]
  unfold erd
  rw [if_pos ⟨by omega, by have := S.mb; omega⟩, Int.toNat_natCast]; rfl
theorem DoSt.bad (S : DoSt w0 w gl g ab cb n b X k m vl vr y vs es ps) (hk : k < n) {x : Ent} {q : Nat} {er : Int} (hx : erd (if k % 8 = 0 then [] else (bst es).last) b m = (x, q, er)) (h : er ≠ 0) : X = (es, ps, m, er, q) := by
  rw [← S.eq, show n - k = (n - k - 1) + 1 by omega]
  exact bents_no (S.prd ▸ hx) h
theorem DoSt.low (S : DoSt w0 w gl g ab cb n b X k m vl vr y vs es ps) (hk : k < n) {x : Ent} {q : Nat} (hx : erd (if k % 8 = 0 then [] else (bst es).last) b m = (x, q, 0)) (h : k % 8 = 0 ∧ 0 < (bst es).last.length ∧ 0 ≤ cmp (bst es).last x.1) : X = (es, ps, m, 51, m) := by
  rw [← S.eq, show n - k = (n - k - 1) + 1 by omega]
  refine bents_low (S.prd ▸ hx) ⟨?_, h.2.2⟩
  rcases Nat.eq_zero_or_pos es.length with h0 | h0
  · have : es = [] := List.length_eq_zero_iff.1 h0
    subst this
    exact absurd h.2.1 (by decide)
  · exact h0
theorem DoSt.go (S : DoSt w0 w gl g ab cb n b X k m vl vr y vs es ps) (hk : k < n) {x : Ent} {q : Nat} (hx : erd (if k % 8 = 0 then [] else (bst es).last) b m = (x, q, 0)) (h : ¬ (k % 8 = 0 ∧ 0 < (bst es).last.length ∧ 0 ≤ cmp (bst es).last x.1)) : bents b (n - (k + 1)) (es ++ [x]) (ps ++ [m]) q = X := by
  rw [← S.eq, show n - k = (n - (k + 1)) + 1 by omega]
  refine (bents_go (S.prd ▸ hx) fun h2 => ?_).symm
  obtain ⟨_, _, _, _, _, h6⟩ := erd_in hx
  have hl0 : 0 < (bst es).last.length := S.ll.2 (by have := S.el; omega)
  by_cases h8 : k % 8 = 0
  · exact h ⟨h8, hl0, h2.2⟩
  · rw [if_neg h8] at h6
    rcases h6 with h6 | h6 <;> omega
theorem DoSt.far (S : DoSt w0 w gl g ab cb n b X k m vl vr y vs es ps) (hb : b.length < 18446744073709551616) {x : Ent} {q : Nat} (hx : erd (if k % 8 = 0 then [] else (bst es).last) b m = (x, q, 0)) : q ≤ 1 + 350 * (k + 1) := by
  obtain ⟨_, h1, h2, h3, h4, _⟩ := erd_in hx
  have hp : pread (bP es.length (bst es).last) b m = (x, q, 0) := S.prd ▸ hx
  have := congrArg List.length (pread_back hb hp S.mb)
  rw [List.length_take, List.length_append, List.length_take] at this
  have := ebytes_le (bP es.length (bst es).last) x (by omega)
  have := S.mb
  have := S.far1
  omega
/-- behind the reading of an entry and its append: the box's cell, where all stands behind the store -/
theorem DoSt.step {W0 w6 w8 : World} {o : Obj} {x : Ent} {q : Nat} {x1 x2 : Sv} {vl' vr' v8 : Value} (S : DoSt w0 w gl g ab cb n b X k m vl vr y vs es ps) (hk : k < n) (hn : n ≤ 64) (hb : b.length < 18446744073709551616) (hgl : gl < w0.heap.size)
    (hx : erd (if k % 8 = 0 then [] else (bst es).last) b m = (x, q, 0)) (hlow : ¬ (k % 8 = 0 ∧ 0 < (bst es).last.length ∧ 0 ≤ cmp (bst es).last x.1)) (hw : Below w.heap.size w W0)
    (ht : Turns (RdS g vl vr) W0 w6) (hR : Rdr w6 w0.heap.size g ab b.length cb n (k + 1) q vl' vr' x.1 (bruns 0 ps ++ if k % 8 = 0 then [m] else [])) (hS : ∀ j, RdS g vl' vr' j → RdS g vl vr j ∨ W0.heap.size ≤ j)
    (o1 : OwT fB w6 W0.heap.size 5 (sv x1) x.1) (o2 : OwT fB w6 W0.heap.size 5 (sv x2) x.2) (hD : ∀ j, RdS g vl' vr' j → (sv x1).ownBlock ≠ some j ∧ (sv x2).ownBlock ≠ some j)
    (h8 : OwZ fE zE w8 w0.heap.size 42 v8 (vs ++ [(x1, x2)])) (hg : (w6.alloc o).grownBy w8 y.ownBlock) (hv : v8.ownBlock = y.ownBlock ∨ v8.ownBlock = some (w6.alloc o).heap.size) :
    w8.cell? ⟨gl, 0, none⟩ = some y ∧ w8.frozen? ⟨gl, 0, none⟩ = false ∧ DoSt w0 (w8.setCell ⟨gl, 0, none⟩ v8) gl g ab cb n b X (k + 1) q vl' vr' v8 (vs ++ [(x1, x2)]) (es ++ [x]) (ps ++ [m]) := by
  have hz0 : w0.heap.size ≤ w.heap.size := S.tu.size
  have hz1 : w.heap.size ≤ W0.heap.size := hw.size
  have hz2 : W0.heap.size ≤ w6.heap.size := ht.size
  have hrd := S.rd.inS
  have hrl := S.ls.inB
  have hyl : ∀ j, y.ownBlock = some j → w0.heap.size ≤ j ∧ j < w.heap.size := fun j hj => hrl j (.inl hj)
  have t8 : Turns (fun j => y.ownBlock = some j) w6 w8 := (Turns.of_below ((Below.refl _ w6).alloc (Nat.le_refl _) o)).trans (.of_grown hg fun j e => e) fun _ _ e => e
  have hsz7 : (w6.alloc o).heap.size = w6.heap.size + 1 := by simp
  have box6 : w6.heap[gl]? = some (.cells #[y] 22 (0, 0)) := ht.heap ((hw.block gl (by omega)).trans S.box) fun h => by have := (hrd gl h).1; omega
  have box8 : w8.heap[gl]? = some (.cells #[y] 22 (0, 0)) := t8.heap box6 fun h => by have := (hyl gl h).1; omega
  have ls6 : RdL w6 w0.heap.size y vs es := (S.ls.keep hw).turns ht fun j hj => S.dis j hj
  have hv8 : ∀ j, v8.ownBlock = some j → y.ownBlock = some j ∨ w6.heap.size ≤ j := fun j hj => by
    rcases hv with e | e
    · exact .inl (e ▸ hj)
    · rw [e] at hj; injection hj with hj; exact .inr (by omega)
  have ls8 : RdL w8 w0.heap.size v8 (vs ++ [(x1, x2)]) (es ++ [x]) := ls6.app h8 t8 hv8 (o1.base (by omega)) (o2.base (by omega)) fun j hj => ⟨fun e => by have := (o1.lt j e).1; have := (hrl j hj).2; omega, fun e => by have := (o2.lt j e).1; have := (hrl j hj).2; omega⟩
  have tS : Turns (fun j => j = gl) w8 (w8.setCell ⟨gl, 0, none⟩ v8) := Turns.set (S := fun j => j = gl) w8 (b := gl) (i := 0) rfl v8
  have hin8 := ls8.inB
  have hR8 : Rdr (w8.setCell ⟨gl, 0, none⟩ v8) w0.heap.size g ab b.length cb n (k + 1) q vl' vr' x.1 (bruns 0 ps ++ if k % 8 = 0 then [m] else []) := (hR.turns t8 fun j hj e => by
      rcases hS j hj with h | h
      · exact S.dis j (.inl e) h
      · have := (hyl j e).2; omega).turns tS fun j hj e => by have := (hR.inS j hj).1; omega
  obtain ⟨i1, i2, i3, i4, i5, _⟩ := erd_in hx
  refine ⟨cell_of box8 0 rfl, free_block box8 0, ⟨?_, set_block (i := 0) box8 _, ls8.turns tS fun j hj e => by have := (hin8 j hj).1; omega, fun j hj hs => ?_, ?_, hk, by rw [List.length_append, S.el]; rfl, by rw [List.length_append, S.pl]; rfl, i4, ?_, fun p hp => ?_, S.far hb hx, S.go hk hx hlow⟩⟩
  · have e1 : (bst (es ++ [x])).last = x.1 := by rw [bst_snoc]; rfl
    have e2 : bruns 0 (ps ++ [m]) = bruns 0 ps ++ if k % 8 = 0 then [m] else [] := by rw [bruns_snoc, Nat.zero_add, S.pl]
    rw [e1, e2]; exact hR8
  · have hlt := (hR.inS j hs).2
    rcases hj with hj | ⟨i, z, hz, hj⟩
    · rcases hv8 j hj with h | h
      · rcases hS j hs with h2 | h2
        · exact S.dis j (.inl h) h2
        · have := (hyl j h).2; omega
      · omega
    · by_cases hi : i < vs.length
      · rw [List.getElem?_append_left hi] at hz
        have hold : RLB y vs j := .inr ⟨i, z, hz, hj⟩
        rcases hS j hs with h2 | h2
        · exact S.dis j hold h2
        · have := (hrl j hold).2; omega
      · rw [List.getElem?_append_right (by omega)] at hz
        have hi0 : i - vs.length = 0 := by have := (List.getElem?_eq_some_iff.1 hz).1; simp at this; omega
        rw [hi0] at hz
        obtain rfl : (x1, x2) = z := by simpa using hz
        rcases hj with hj | hj
        · exact (hD j hs).1 hj
        · exact (hD j hs).2 hj
  · exact (((S.tu.trans_below hw).trans ht fun j hj h => by have := (hrd j h).1; omega).trans t8 fun j hj h => by have := (hyl j h).1; omega).trans tS fun j _ e => e
  · have e1 : (bst (es ++ [x])).last = x.1 := by rw [bst_snoc]; rfl
    rw [e1]; exact ⟨i2, fun _ => i1⟩
  · rcases List.mem_append.1 hp with h | h
    · exact S.pr p h
    · obtain rfl := List.mem_singleton.1 h
      have := S.far1; omega
end
set_option maxRecDepth 100000 in
set_option maxHeartbeats 8000000 in
theorem bdo_any (gb gl : Nat) (ab : Option Addr) (nb cb : Nat) (b : List UInt8) (w : World) (hb : nb ≤ 140737499999999) (hB : Sl Bf w ab nb cb b) (hbox : w.heap[gb]? = some (.cells #[.slice ab nb cb] 25 (0, 0)))
    (hlb : w.heap[gl]? = some (.cells #[.slice none 0 0] 22 (0, 0))) (hne : gb ≠ gl) (hab : ∀ b o, ab = some ⟨b, o, none⟩ → 0 < nb → b ≠ gl ∧ b < w.heap.size) :
    Calls Try.prog 124 #[.pointer (some ⟨gb, 0, none⟩), .pointer (some ⟨gl, 0, none⟩)] w fun r w' => ∃ e q : Int, ((e = 0 ∧ q = 0 ∧ r = .returned (.tuple #[])) ∨ r = wrongBy e q) ∧ DoPost w gl b e q w' := by
  obtain rfl : b.length = nb := hB.len
  have HBG := Lib.hid (bbegin_any ab b.length cb b w hb hB)
  have B := Lib.hid hB
  have HAB := Lib.hid hab
  have LB := Lib.hid hlb
  have x0 := cell_of hbox 0 rfl
  clear hB hab
  go_enter Try.func124, Try.ntmps124
  go_wp2_with fail
  refine HBG.out.mono ?_
  rintro r w1 ⟨n, q, er, hrd, hb1, h1, h2, h3⟩
  by_cases hz : er = 0
  · subst hz
    by_cases hn : n < 1 ∨ 64 < n
    · obtain rfl := h2 rfl hn
      have hbr := bread_no (bentries_bad hrd hn) (by decide)
      unfold wrongBy
      go_wp2_with fail
      exact ⟨rfl, 61, 0, .inr rfl, by rw [hbr], by rw [hbr]; rfl, .of_below hb1, fun e => (by cases e)⟩
    · obtain ⟨g, rfl, hR⟩ := h3 rfl hn
      obtain ⟨X, hX⟩ : ∃ X, bents b n [] [] q = X := ⟨_, rfl⟩
      have BE := Lib.hid (show bentries b = X by rw [← hX]; exact bentries_go hrd hn)
      have hqb : q ≤ b.length := (rd_vbs (l := b) hrd).1
      have ST0 := Lib.hid (show DoSt w w1 gl g ab cb n b X 0 q (.slice none 0 0) (.slice none 0 0) (.slice none 0 0) [] [] [] from
        ⟨hR, hb1.block gl (Array.getElem?_eq_some_iff.1 hlb).1 ▸ hlb, RdL.nil _ _, fun j hj => by (rcases hj with h | ⟨i, x, h, _⟩; cases h; simp at h), .of_below hb1, Nat.zero_le _, rfl, rfl, hqb, ⟨by show (0 : Nat) ≤ 64; omega, fun h => by omega⟩, fun p hp => (by cases hp), by have := rd_vbs (l := b) hrd; have h3 := this.2.2; rw [vb_lt (show n < 128 by omega)] at h3; have : q = 1 := h3; omega, hX⟩)
      have HN := Lib.hid hn
      clear hR hX hb1 h1 h2 h3 hrd x0 hn hqb
      have hgl : gl < w.heap.size := (Array.getElem?_eq_some_iff.1 hlb).1
      go_wp2_with fail
      go_loopw [] (fun wr => ∃ (k m : Nat) (vl vr y : Value) (vs : List (Sv × Sv)) (es : List Ent) (ps : List Nat), DoSt w wr gl g ab cb n b X k m vl vr y vs es ps) (fun wr => n - doneOf wr g)
      case atStart => exact ⟨_, _, _, _, _, _, _, _, ST0.out⟩
      case round =>
        obtain ⟨k, m, vl, vr, y, vs, es, ps, hS⟩ := hrel
        obtain ⟨ay, ny, cy, rfl, -, -⟩ := hS.ls.own.t.slE
        have S := Lib.hid hS
        clear hS ST0 HBG
        have c1 := S.out.rd.c1
        have c2 := S.out.rd.c2
        replace B := Lib.hid (B.out.turns S.out.tu fun bb oo e1 e2 e3 => (HAB.out bb oo e1 e2).1 e3)
        by_cases hk : k < n
        · have t1 : decide ((k : Int) < (n : Nat)) = true := decide_eq_true (by omega)
          have t1' : decide (k < n) = true := decide_eq_true hk
          have hn64 : n ≤ 64 := by have := HN.out; omega
          have hbk : b.length < 18446744073709551616 := by omega
          have NX := Lib.hid (fun (W : World) (hW : Below wr.heap.size wr W) => bnext_any w.heap.size g ab b.length cb n k m vl vr (bst es).last (bruns 0 ps) b W hb (by omega) (by have := S.out.mb; omega) S.out.ll.1 (by have := bruns_len 0 ps; have := S.out.pl; omega) (S.out.rd.keep hW) (B.out.keep hW) fun bb oo e e2 => (HAB.out bb oo e e2).2)
          have bx := cell_of S.out.box 0 rfl
          have fx := free_block S.out.box 0
          go_wp2_with fail
          go_quiet (fail)
          go_wp2_with fail
          have NXW := Lib.hid (NX.out (wr.drewN nq).drew (keep_drewN (keep_drewN (Below.refl _ _) nq) 1))
          have S' := Lib.hid S.out
          obtain ⟨⟨x, q', er⟩, hx⟩ : ∃ R, erd (if k % 8 = 0 then [] else (bst es).last) b m = R := ⟨_, rfl⟩
          by_cases herr : er ≠ 0 ∨ (er = 0 ∧ k % 8 = 0 ∧ 0 < (bst es).last.length ∧ 0 ≤ cmp (bst es).last x.1)
          · have HE : Hid (∃ (e : Int) (qq : Nat), e ≠ 0 ∧ bread b = ([], qq, e) ∧ Calls Try.prog 126 #[.pointer (some ⟨g, 0, none⟩)] (wr.drewN nq).drew fun r w' => r = wrongBy e qq ∧ Turns (RdS g vl vr) (wr.drewN nq).drew w') := Lib.hid (by
              rcases herr with h | ⟨rfl, h⟩
              · refine ⟨er, q', h, bread_no (BE.out.trans (S.out.bad hk hx h)) h, NXW.out.mono fun r w' hp => ?_⟩
                obtain ⟨x2, q2, er2, hx2, ht, p1, p2, p3⟩ := hp
                rw [hx] at hx2
                simp only [Prod.mk.injEq] at hx2
                obtain ⟨rfl, rfl, rfl⟩ := hx2
                exact ⟨p1 h, ht⟩
              · refine ⟨51, m, by decide, bread_no (BE.out.trans (S.out.low hk hx h)) (by decide), NXW.out.mono fun r w' hp => ?_⟩
                obtain ⟨x2, q2, er2, hx2, ht, p1, p2, p3⟩ := hp
                rw [hx] at hx2
                simp only [Prod.mk.injEq] at hx2
                obtain ⟨rfl, rfl, rfl⟩ := hx2
                exact ⟨p2 rfl h, ht⟩)
            obtain ⟨e, qq, he, hbr, HC0⟩ := HE.out
            have HC := Lib.hid HC0
            have HBR := Lib.hid hbr
            have HEE := Lib.hid he
            have TUF := Lib.hid (fun (w' : World) (ht : Turns (RdS g vl vr) (wr.drewN nq).drew w') => (S.out.tu.trans_below (keep_drewN (keep_drewN (Below.refl _ _) nq) 1)).trans ht fun j hj hs => absurd (S.out.rd.inS j hs).1 (by omega))
            clear HE HC0 hbr he hx herr t1 t1' NX NXW S' S
            refine wp_region_any (by kernel_rfl) ?_
            try (change wpAny _ _ _ _ _ _ _ (World.drew _))
            refine wpAny_ready (rs := [0, 1]) (by kernel_rfl) (by simp) ?_
            refine AllReady.cons rfl (fun K hK => ?_) (AllReady.cons rfl (fun K hK => ?_) AllReady.nil)
            · go_simp
              refine hK _ _ ?_
              clear hK K
              refine wpAny_ready (rs := [1]) (by kernel_rfl) (by simp) ?_
              refine AllReady.cons rfl (fun K hK => ?_) AllReady.nil
              go_simp
              refine hK _ _ ?_
              clear hK K
              refine wpAny_ready (rs := [2]) (by kernel_rfl) (by simp) ?_
              refine AllReady.cons rfl (fun K hK => ?_) AllReady.nil
              go_simp
              go_at_call 126
              refine HC.out.mono ?_
              rintro r w' ⟨rfl, ht⟩
              unfold wrongBy
              go_simp
              exact ⟨rfl, e, qq, .inr rfl, by rw [HBR.out], by rw [HBR.out], TUF.out w' ht, fun h => absurd h HEE.out⟩
            · go_simp
              refine hK _ _ ?_
              clear hK K
              refine wpAny_ready (rs := [0, 2]) (by kernel_rfl) (by simp) ?_
              refine AllReady.cons rfl (fun K hK => ?_) (AllReady.cons rfl (fun K hK => ?_) AllReady.nil)
              · go_simp
                refine hK _ _ ?_
                clear hK K
                refine wpAny_ready (rs := [2]) (by kernel_rfl) (by simp) ?_
                refine AllReady.cons rfl (fun K hK => ?_) AllReady.nil
                go_simp
                go_at_call 126
                refine HC.out.mono ?_
                rintro r w' ⟨rfl, ht⟩
                unfold wrongBy
                go_simp
                exact ⟨rfl, e, qq, .inr rfl, by rw [HBR.out], by rw [HBR.out], TUF.out w' ht, fun h => absurd h HEE.out⟩
              · go_simp
                go_at_call 126
                refine HC.out.mono ?_
                rintro r w' ⟨rfl, ht⟩
                unfold wrongBy
                go_simp
                exact ⟨rfl, e, qq, .inr rfl, by rw [HBR.out], by rw [HBR.out], TUF.out w' ht, fun h => absurd h HEE.out⟩
          · have her : er = 0 := by
              by_cases h : er = 0
              · exact h
              · exact absurd (.inl h) herr
            subst her
            have hlow : ¬ (k % 8 = 0 ∧ 0 < (bst es).last.length ∧ 0 ≤ cmp (bst es).last x.1) := fun h => herr (.inr ⟨rfl, h⟩)
            have HO : Hid (Calls Try.prog 126 #[.pointer (some ⟨g, 0, none⟩)] (wr.drewN nq).drew fun r w6 => ∃ (ak : Option Addr) (nk ck : Nat) (av : Option Addr) (nv cv : Nat) (vl' vr' : Value), r = .returned (.agg #[.slice ak nk ck, .slice av nv cv]) ∧
                OwT fB w6 (wr.drewN nq).drew.heap.size 5 (sv (ak, nk, ck)) x.1 ∧ OwT fB w6 (wr.drewN nq).drew.heap.size 5 (sv (av, nv, cv)) x.2 ∧ Rdr w6 w.heap.size g ab b.length cb n (k + 1) q' vl' vr' x.1 (bruns 0 ps ++ if k % 8 = 0 then [m] else []) ∧
                (∀ j, RdS g vl' vr' j → RdS g vl vr j ∨ (wr.drewN nq).drew.heap.size ≤ j) ∧ (∀ j, RdS g vl' vr' j → (sv (ak, nk, ck)).ownBlock ≠ some j ∧ (sv (av, nv, cv)).ownBlock ≠ some j) ∧ Turns (RdS g vl vr) (wr.drewN nq).drew w6) := Lib.hid (NXW.out.mono fun r w' hp => by
              obtain ⟨x2, q2, er2, hx2, ht, p1, p2, p3⟩ := hp
              rw [hx] at hx2
              simp only [Prod.mk.injEq] at hx2
              obtain ⟨rfl, rfl, rfl⟩ := hx2
              obtain ⟨vk, vv, vl', vr', mid, rfl, o1, o2, o3, o4, hR, hS, hD⟩ := p3 rfl hlow
              obtain ⟨ak, nk, ck, rfl, -⟩ := o1.slN
              obtain ⟨av, nv, cv, rfl, -⟩ := o2.slN
              exact ⟨ak, nk, ck, av, nv, cv, vl', vr', rfl, o1, o2.base o4, hR, hS, hD, ht⟩)
            have STP := Lib.hid (fun (w6 w8 : World) (o : Obj) (x1 x2 : Sv) (vl' vr' v8 : Value) => S.out.step (w6 := w6) (w8 := w8) (o := o) (x1 := x1) (x2 := x2) (vl' := vl') (vr' := vr') (v8 := v8) hk hn64 hbk hgl hx hlow (keep_drewN (keep_drewN (Below.refl wr.heap.size wr) nq) 1))
            have LS := Lib.hid (S.out.ls.keep (keep_drewN (keep_drewN (Below.refl wr.heap.size wr) nq) 1))
            have DIS := Lib.hid S.out.dis
            have RIN := Lib.hid S.out.rd.inS
            have hvl : vs.length ≤ 64 := by have := S.out.ls.len; have := S.out.el; omega
            have hwz : w.heap.size ≤ wr.heap.size := S.out.tu.size
            have hglr : gl < wr.heap.size := by omega
            have BX := Lib.hid S.out.box
            have DON := Lib.hid S.out.rd.doneOf
            clear hx hlow herr t1 t1' NX NXW S' S c1 c2
            go_region_law (first
              | (refine step_appZ eltTE zE_ok rfl (.tmp 14) (.tmp 17) rfl w.heap.size (.slice ay ny cy) vs (by simp [Act.eval]) (LS6.out.own.keep ((Below.refl _ _).alloc (Nat.le_refl _) _)) (some ⟨w6.heap.size, 0, none⟩) 1 1 [((ak, nk, ck), (av, nv, cv))] (by simp [Act.eval]) (SlT.lit1 _ _ _ _ rfl) (by unfold maxLen; omega) (by omega) (by simp <;> omega) (vs ++ [((ak, nk, ck), (av, nv, cv))]) rfl ?_; intro v8 w8 h8 hg8 hv8 hb8; obtain ⟨a8, n8, c8, rfl, -, -⟩ := h8.t.slE; obtain ⟨cc, ff, hS8⟩ := STP.out w6 w8 _ _ _ _ _ _ T6.out R6.out S6.out O1.out O2.out D6.out h8 hg8 hv8; have S8 := Lib.hid hS8; clear hS8 h8 hg8 hv8 hb8)
              | (go_simp; go_at_call 126; refine HO.out.mono ?_; rintro r w6 ⟨ak, nk, ck, av, nv, cv, vl', vr', rfl, o1, o2, hR6, hS6, hD6, hT6⟩; have O1 := Lib.hid o1; have O2 := Lib.hid o2; have R6 := Lib.hid hR6; have S6 := Lib.hid hS6; have D6 := Lib.hid hD6; have T6 := Lib.hid hT6; have LS6 := Lib.hid (LS.out.turns hT6 fun j hj => DIS.out j hj); have bx6 := cell_of (hT6.heap BX.out fun h => by have := (RIN.out gl h).1; omega) 0 rfl; have hz6 : wr.heap.size ≤ w6.heap.size := hT6.size; have hg6 : gl < w6.heap.size := (by omega); have hg6' : gl ≠ w6.heap.size := (by omega); clear o1 o2 hR6 hS6 hD6 hT6))
            all_goals
              go_wp2_with fail
              go_roundw
              case rel => exact ⟨_, _, _, _, _, _, _, _, S8.out⟩
              case measure =>
                rw [S8.out.rd.doneOf, DON.out]
                omega
        · have t1 : decide ((k : Int) < (n : Nat)) = false := decide_eq_false (by omega)
          have t1' : decide (k < n) = false := decide_eq_false hk
          obtain rfl : k = n := by have := S.out.kn; omega
          have hX := S.out.eq
          rw [Nat.sub_self] at hX
          have BE2 := Lib.hid (BE.out.trans hX.symm)
          have hk64 : k ≤ 64 := by have := HN.out; omega
          have ND := Lib.hid (fun nq : Nat => bend_any w.heap.size g ab b.length cb k k m vl vr (bst es).last (bruns 0 ps) b (wr.drewN nq) hb S.out.mb (by have := bruns_len 0 ps; have := S.out.pl; omega) (fun x hx => S.out.pr x (bruns_mem _ _ _ hx)) (S.out.rd.drewN nq) (B.out.drewN nq) fun bb oo e e2 => (HAB.out bb oo e e2).2)
          clear hX
          go_wp2_with fail
          go_quiet (fail)
          go_wp2_with fail
          refine (ND.out nq).mono ?_
          rintro r w2 ⟨hT, p1, p2⟩
          obtain ⟨⟨q2, e2⟩, hbt⟩ : ∃ R, btable b (bwant (bruns 0 ps)) m = R := ⟨_, rfl⟩
          rw [hbt] at p1 p2
          have TF := S.out.tu.trans_below (keep_drewN (Below.refl _ _) nq) |>.trans hT fun j hj e => by have := (S.out.rd.low); omega
          by_cases he2 : e2 = 0
          · subst he2
            obtain rfl := p1 rfl
            have hbr := bread_ok BE2.out hbt
            have bx2 : w2.heap[gl]? = some (.cells #[.slice ay ny cy] 22 (0, 0)) := hT.heap S.out.box fun e => by have := S.out.rd.low; omega
            have ls2 := (S.out.ls.keep (keep_drewN (Below.refl _ _) nq)).turns hT fun j hj e => S.out.dis j hj (.inl e)
            have FIN := Lib.hid (show DoPost w gl b 0 0 w2 from ⟨by rw [hbr], by rw [hbr]; rfl, TF, fun _ => ⟨_, vs, bx2, by rw [hbr]; exact ls2⟩⟩)
            clear hbt hbr bx2 ls2 TF p1 p2 hT
            go_wp2_with fail
            go_end0
            exact ⟨0, 0, .inl ⟨rfl, rfl, rfl⟩, FIN.out⟩
          · obtain rfl := p2 he2
            have hbr := bread_tab (p' := 0) BE2.out hbt he2
            have FIN := Lib.hid (show DoPost w gl b e2 q2 w2 from ⟨by rw [hbr], by rw [hbr], TF, fun e => absurd e he2⟩)
            unfold wrongBy
            clear hbt hbr TF p1 p2 hT
            go_wp2_with fail
            exact ⟨rfl, e2, q2, .inr rfl, FIN.out⟩
  · obtain rfl := h1 hz
    have hbr := bread_no (bentries_no hrd hz) hz
    unfold wrongBy
    go_wp2_with fail
    exact ⟨rfl, er, q, .inr rfl, by rw [hbr], by rw [hbr], .of_below hb1, fun e => absurd e hz⟩
theorem RdL.low {w : World} {lo lo' : Nat} {y : Value} {vs : List (Sv × Sv)} {es : List Ent} (h : RdL w lo y vs es) (hl : lo' ≤ lo) : RdL w lo' y vs es :=
  ⟨⟨h.own.base hl, h.len, fun i x e hx he => ⟨(h.txt i x e hx he).1.base hl, (h.txt i x e hx he).2.base hl⟩, h.off⟩, h.apt⟩
/-- behind Read -/
def BrdPost (w : World) (b : List UInt8) (r : Ending) (w' : World) : Prop :=
  Below w.heap.size w w' ∧ ∃ y vs, r = .returned (.tuple #[y, .int .i64 (bread b).2.2, .int .i64 ((bread b).2.1 : Nat)]) ∧ RdL w' w.heap.size y vs (bread b).1
theorem bread_zero {b : List UInt8} : ((bread b).2.2 = 0 → (bread b).2.1 = 0) ∧ ((bread b).2.2 ≠ 0 → (bread b).1 = []) := by
  unfold bread
  split
  · rename_i h; exact ⟨fun e => absurd e h, fun _ => rfl⟩
  · split
    · rename_i h; exact ⟨fun e => absurd e h, fun _ => rfl⟩
    · exact ⟨fun _ => rfl, fun h => absurd rfl h⟩
set_option maxRecDepth 100000 in
set_option maxHeartbeats 8000000 in
theorem bread_any (ab : Option Addr) (nb cb : Nat) (b : List UInt8) (w : World) (hb : nb ≤ 140737499999999) (hB : Sl Bf w ab nb cb b) :
    Calls Try.prog 106 #[.slice ab nb cb] w (BrdPost w b) := by
  have hmf : ∀ (fn : Fn) (first cap : Array Value) (w : World), (Instr.makeFunc fn first cap).run Try.prog w = .ok (.func fn first cap) w := fun _ _ _ _ => rfl
  obtain ⟨w2, hw2⟩ : ∃ w2, (w.alloc (.cells #[.slice ab nb cb] 25)).alloc (.cells #[.slice none 0 0] 22) = w2 := ⟨_, rfl⟩
  have hs2 : w2.heap.size = w.heap.size + 2 := by rw [← hw2]; simp
  have hb2 : Below w.heap.size w w2 := by rw [← hw2]; exact ((Below.refl _ _).alloc (Nat.le_refl _) _).alloc (by simp) _
  have hg1 : w2.heap[w.heap.size]? = some (.cells #[.slice ab nb cb] 25 (0, 0)) := by
    rw [← hw2]
    exact (((Below.refl _ (w.alloc (.cells #[.slice ab nb cb] 25))).alloc (Nat.le_refl _) _).block w.heap.size (by simp)).trans (heap_new w _)
  have hg2 : w2.heap[w.heap.size + 1]? = some (.cells #[.slice none 0 0] 22 (0, 0)) := by
    have := heap_new (w.alloc (.cells #[.slice ab nb cb] 25)) (.cells #[.slice none 0 0] 22)
    rw [show (w.alloc (.cells #[.slice ab nb cb] 25)).heap.size = w.heap.size + 1 by simp] at this
    rw [← hw2]; exact this
  obtain ⟨w3, hw3⟩ : ∃ w3, w2.alloc (.cells #[.int .i64 0, .int .i64 0] 162) = w3 := ⟨_, rfl⟩
  have hb3 : Below w2.heap.size w2 w3 := by rw [← hw3]; exact (Below.refl _ _).alloc (Nat.le_refl _) _
  have hW : WB w3 w2.heap.size 0 0 := by rw [← hw3]; exact heap_new w2 _
  have hs3 : w3.heap.size = w.heap.size + 3 := by rw [← hw3]; simp [hs2]
  have hlt : ∀ bb oo, ab = some ⟨bb, oo, none⟩ → 0 < nb → bb < w.heap.size := fun bb oo e h => by subst e; exact hB.blt h
  have TR := Lib.hid (tried_any 124 #[.pointer (some ⟨w.heap.size, 0, none⟩), .pointer (some ⟨w.heap.size + 1, 0, none⟩)] (DoPost w3 (w.heap.size + 1) b) w2 (fun args W => MuLone.run_callFunc_enter Try.func124 (by kernel_rfl) rfl args W) (by
    rw [hw3]
    refine (bdo_any w.heap.size (w.heap.size + 1) ab nb cb b w3 hb ((hB.keep hb2).keep hb3) ((hb3.block _ (by omega)).trans hg1) ((hb3.block _ (by omega)).trans hg2) (by omega) ?_).mono ?_
    · exact fun bb oo e h => ⟨by have := hlt bb oo e h; omega, by have := hlt bb oo e h; omega⟩
    · rintro r w' ⟨e, q, h1, h2⟩
      exact ⟨e, q, h1, h2, h2.2.2.1.heap hW (by omega)⟩))
  have HS := Lib.hid (And.intro hs2 hs3)
  have HB2 := Lib.hid hb2
  have HB3 := Lib.hid hb3
  clear hg1 hg2 hW hs2 hs3 hb2 hb3 hw3 hlt hB
  go_enter Try.func106, Try.ntmps106
  go_wp2_with fail
  try (rw [hw2])
  refine TR.out.mono ?_
  rintro r w5 ⟨e, q, w4, rfl, ⟨he, hq, hT, hL⟩, hT5⟩
  have hz : w3.heap.size ≤ w5.heap.size := Nat.le_trans hT.size hT5.size
  have T35 : Turns (fun j => j = w.heap.size + 1 ∨ j = w2.heap.size) w3 w5 := (hT.mono fun j _ h => .inl h).trans hT5 fun j _ h => .inr h
  have hs2 := HS.out.1
  have hs3 := HS.out.2
  have BF := Lib.hid (T35.below (HB2.out.trans (HB3.out.mono (by omega))) (by omega) (fun j h => by omega))
  have HE := Lib.hid he
  have HQ := Lib.hid hq
  have hsz : w.heap.size + 3 ≤ w5.heap.size := by omega
  by_cases hz0 : e = 0
  · subst hz0
    obtain ⟨y, vs, hbx, hls⟩ := hL rfl
    obtain ⟨ay, ny, cy, rfl, -, -⟩ := hls.own.t.slE
    have LS := Lib.hid ((hls.turns hT5 fun j hj e => by have := (hls.inB j hj).1; omega).low (show w.heap.size ≤ w3.heap.size by omega))
    have BX := Lib.hid (hT5.heap hbx (by omega))
    have bx := cell_of BX.out 0 rfl
    have h51 : w.heap.size + 1 < w5.heap.size := by omega
    have h52 : w.heap.size + 1 ≠ w5.heap.size := by omega
    clear hbx hls hL hT hT5 T35 he hq hs2 hs3
    go_wp2_with fail
    go_ret3
    have ha : ∀ o, Below w5.heap.size w5 (w5.alloc o) := fun o => (Below.refl _ _).alloc (Nat.le_refl _) o
    exact ⟨BF.out.trans ((ha _).mono (by omega)), .slice ay ny cy, vs, by rw [← HE.out, bread_zero.1 HE.out.symm]; rfl, LS.out.keep (ha _)⟩
  · have t1 : (e != 0) = true := by rw [bne_iff_ne]; exact hz0
    have HZ := Lib.hid hz0
    clear hL hT hT5 T35 he hq hs2 hs3 hz0
    go_wp2_with fail
    go_quiet (fail)
    go_wp2_with fail
    go_ret3
    have ha : ∀ o, Below w5.heap.size w5 (w5.alloc o) := fun o => (Below.refl _ _).alloc (Nat.le_refl _) o
    exact ⟨keep_drewN (BF.out.trans ((ha _).mono (by omega))) _, .slice none 0 0, [], by rw [← HE.out, ← HQ.out]; rfl, by rw [bread_zero.2 (by rw [← HE.out]; exact HZ.out)]; exact RdL.nil _ _⟩
end Go.Proofs.Ytljcogimeimknaa
/- A reader of streams: its foot: contract. Conditions: the reader's budget, its rows and the places within reach. -/
namespace Go.Proofs.Ytljcogimeimknaa
open Go.RowKit Go.Shelf
set_option linter.unusedVariables false
set_option linter.unusedSimpArgs false

/-- a value's own block is nobody's -/
def Apt (who : Nat → Nat) (w : World) (v : Value) : Prop := ∀ j, v.ownBlock = some j → j < w.heap.size ∧ who j = 0
theorem Apt.gr {who who' : Nat → Nat} {w w' : World} {v : Value} (h : Apt who w v) (hG : Gr w w' who who') : Apt who' w' v :=
  fun j hj => ⟨Nat.lt_of_lt_of_le (h j hj).1 hG.t.size, (hG.o j (h j hj).1).trans (h j hj).2⟩
theorem Sl.gr {who who' : Nat → Nat} {w w' : World} {a : Option Addr} {n c : Nat} {xs : List UInt8} (h : Sl Bf w a n c xs) (ha : Apt who w (.slice a n c)) (hG : Gr w w' who who') : Sl Bf w' a n c xs :=
  h.turns hG.t fun b o e _ hn => hn (ha b (by subst e; rfl)).2
theorem OwT.apt {w1 : World} {lo : Nat} {t : TypeId} {v : Value} {xs : List UInt8} {who : Nat → Nat} (h : OwT fB w1 lo t v xs) (hl : ∀ j, who j ≠ 0 → j < lo) : Apt who w1 v :=
  fun j hj => ⟨(h.lt j hj).2, by have := (h.lt j hj).1; by_cases e : who j = 0; (exact e); (have := hl j e; omega)⟩
theorem dif_at : ∀ {k : Nat} {xs ys : List UInt8} {x y : UInt8}, xs.take k = ys.take k → xs[k]? = some x → ys[k]? = some y → x ≠ y → dif xs ys = some k
  | 0, a :: r, b :: t, x, y, _, hx, hy, hn => by
    simp only [List.getElem?_cons_zero, Option.some.injEq] at hx hy
    subst hx; subst hy
    unfold dif; rw [if_pos hn]
  | k + 1, a :: r, b :: t, x, y, h, hx, hy, hn => by
    simp only [List.take_succ_cons, List.cons.injEq] at h
    simp only [List.getElem?_cons_succ] at hx hy
    unfold dif
    rw [if_neg (by simpa using h.1), dif_at h.2 hx hy hn]; rfl
  | _, [], _, _, _, _, hx, _, _ => by simp at hx
  | _, _ :: _, [], _, _, _, _, hy, _ => by simp at hy
theorem dif_self : ∀ (xs : List UInt8), dif xs xs = none
  | [] => rfl
  | x :: r => by unfold dif; rw [if_neg (by simp), dif_self r]; rfl
theorem bodyM_len {L Bd n : Nat} {c : CIn Src} (hO : OkayC srcM (SrcR L) mxI Bd c) (h : (bodyM mxI c n).2.1 = 0) : (bodyM mxI c n).1.length = n := by
  have q := (hO.bytes (n := (n : Int)) src_muR (src_leR L)).2.1
  revert h
  unfold bodyM bdB
  split
  · intro h; rename_i h2; exact absurd h h2
  · rename_i h2
    have := (q (Classical.not_not.1 h2)).2
    unfold bdS
    split
    · intro h; rename_i h3; exact absurd h h3
    split
    · intro h; rename_i h3; exact absurd h h3
    · intro _; rw [this]; simp
theorem OkayC.body {L Bd n : Nat} {c : CIn Src} (hO : OkayC srcM (SrcR L) mxI Bd c) : OkayC srcM (SrcR L) mxI (Bd + 64) (bodyM mxI c n).2.2.2 := by
  have q := (hO.bytes (n := (n : Int)) src_muR (src_leR L)).1
  have q2 := (q.bytes (n := 4) src_muR (src_leR L)).1
  unfold bodyM bdB
  split
  · exact q.mono (by omega)
  unfold bdS
  split
  · exact q2
  split
  · exact q2
  · exact q2
def ftM (M : Int) (s : RS) (b : Nat) : RX := ftN M s b s.c.pl (numM srcM M s.c)

section
variable {w w1 : World} {lo gs g gi : Nat} {S S1 : Nat → Prop} {lv rv : Value} {vs : List RV} {s s1 : RS} {who who1 : Nat → Nat}
/-- behind a frame -/
def RXPost (lo gs g gi : Nat) (lv : Value) (who : Nat → Nat) (w : World) (X : RX) (r : Ending) (w' : World) : Prop :=
  ∃ y es S' rv' vs' who', r = .returned (.tuple #[y, .bool X.1.2]) ∧ RdL w' w.heap.size y es X.1.1 ∧ (∀ j, RLB y es j → who' j = 0) ∧ Rdp w' lo gs g gi S' lv rv' vs' X.2 who' ∧ Gr w w' who who'
theorem RLB_nil {j : Nat} (h : RLB (.slice none 0 0) [] j) : False := by
  rcases h with h | ⟨i, x, hx, _⟩
  · cases h
  · simp at hx
theorem fail_post (h : Rdp w1 lo gs g gi S1 lv rv vs s1 who1) (hG : Gr w w1 who who1) (hr : s1.rows = s.rows) (e : Int) (p : Nat) :
    Calls Try.prog 82 #[.pointer (some ⟨g, 0, none⟩), .int .i64 e, .int .i64 (p : Nat)] w1 fun r w' => r = .returned (.tuple #[.slice none 0 0, .bool false]) ∧ RXPost lo gs g gi lv who w (s.fail s1.c e p) (.returned (.tuple #[.slice none 0 0, .bool false])) w' := by
  refine (rfails_any h e p).mono ?_
  rintro r w' ⟨rfl, hR, hG2⟩
  rw [hr] at hR
  exact ⟨rfl, _, [], S1, rv, vs, who1, rfl, RdL.nil _ _, fun j hj => (RLB_nil hj).elim, hR, hG.trans hG2⟩
variable {L Bd : Nat}
set_option maxRecDepth 100000 in
set_option maxHeartbeats 4000000 in
theorem rfoot_any (h : Rdp w lo gs g gi S lv rv vs s who) (hO : OkayC srcM (SrcR L) mxI Bd s.c) (hBd : Bd + 3000 ≤ 4611686018427387904) (hL : L ≤ 140737488351232) (hmany : s.rows.length ≤ 8388608) (hfit : FitR 140737488351232 s.rows) (b : Nat) (hb : b ≤ 1000000000000000) (hpl : s.c.pl ≤ 1000000000000000) (he0 : s.c.er = 0) :
    Calls Try.prog 103 #[.pointer (some ⟨g, 0, none⟩), .int .i64 (b : Nat)] w (RXPost lo gs g gi lv who w (ftM mxI s b)) := by
  obtain ⟨F, hF⟩ : ∃ F, fbs s.rows = F := ⟨_, rfl⟩
  have hFl : F.length ≤ 873000000 := by rw [← hF]; exact fbs_le s.rows
  obtain ⟨⟨nn, e1, k1⟩, hX1⟩ : ∃ X, numM srcM mxI s.c = X := ⟨_, rfl⟩
  obtain ⟨⟨b2, e2, p2, k2⟩, hX2⟩ : ∃ X, bodyM mxI k1 F.length = X := ⟨_, rfl⟩
  obtain ⟨⟨t, e3, k3⟩, hX3⟩ : ∃ X, bytesM srcM mxI 12 k2 = X := ⟨_, rfl⟩
  obtain ⟨⟨ov, e4, k4⟩, hX4⟩ : ∃ X, endM srcM k3 = X := ⟨_, rfl⟩
  obtain ⟨Y, hY⟩ : ∃ Y, ftM mxI s b = Y := ⟨_, rfl⟩
  have hM : Y = if e1 ≠ 0 then s.fail k1 e1 s.c.pl else if nn ≠ F.length then s.fail k1 84 s.c.pl else if e2 ≠ 0 then s.fail k2 e2 p2 else
      match dif b2 F with
      | some i => s.fail k2 84 (k1.pl + i)
      | none => if e3 ≠ 0 then s.fail k3 e3 k2.pl else if t ≠ tailB b then s.fail k3 85 k2.pl else if e4 ≠ 0 then s.fail k4 e4 k3.pl else if ov = false then s.fail k4 86 k3.pl else (([], false), ⟨k4, 2, s.rows, s.er, s.pt⟩) := by
    rw [← hY]; unfold ftM ftN; rw [hX1, hF]; dsimp only; rw [hX2]; unfold ftD; rw [hF]; dsimp only; rw [hX3]; unfold ftT ftE; dsimp only; rw [hX4]; try rfl
  rw [hY]
  clear hY
  have hO1 := hO.num src_muR (src_leR L)
  rw [hX1] at hO1
  have hp1 := numM_pl (M := mxI) he0
  rw [hX1] at hp1
  have hO2 := hO1.body (n := F.length)
  rw [hX2] at hO2
  have hB2 := bodyM_len (n := F.length) hO1
  rw [hX2] at hB2
  have hO3 := (hO2.bytes (n := 12) src_muR (src_leR L)).1
  rw [hX3] at hO3
  dsimp only at hO1 hO2 hO3 hp1 hB2
  obtain ⟨aR, nR, cR, hrv, hsp⟩ := h.spv
  subst hrv
  have hnR : nR ≤ 8388608 := by rw [← hsp.spans.1]; exact hmany
  have c0 := h.c0
  have c3 := h.c3
  obtain ⟨q1, hq1⟩ : ∃ q, (fchk s.rows).2 = q := ⟨_, rfl⟩
  obtain ⟨q2, hq2⟩ : ∃ q, (fchk s.rows).1 = q := ⟨_, rfl⟩
  have FB := ffbytes_any aR nR cR s.rows w (by omega) hfit hsp.spans
  rw [hF, hq1, hq2] at FB
  replace FB := Lib.hid FB
  have H := Lib.hid h
  have HM := Lib.hid hM
  have O0 := Lib.hid hO
  have O1 := Lib.hid hO1
  have O2 := Lib.hid hO2
  have O3 := Lib.hid hO3
  have B2 := Lib.hid hB2
  have HP1 : Hid (k1.pl ≤ 2000000000000000) := Lib.hid (by omega)
  have HX1 := Lib.hid hX1
  have HX2 := Lib.hid hX2
  have HX3 := Lib.hid hX3
  have HX4 := Lib.hid hX4
  have LOW := Lib.hid (fun j (hj : who j ≠ 0) => (h.low j hj).2)
  have eF := u64_n F.length (by omega)
  obtain ⟨pl, hpl2⟩ : ∃ p, s.c.pl = p := ⟨_, rfl⟩
  have PL := Lib.hid hpl2
  rw [hpl2] at HM
  have hb0 := hb
  clear hb
  clear hsp hq1 hq2 hM hO hO1 hO2 hO3 hB2 hX1 hX2 hX3 hX4 hF hp1 hpl hpl2 he0 hmany hfit h
  go_enter Try.func103, Try.ntmps103
  go_wp2_with fail
  refine FB.out.mono ?_
  rintro r w1 ⟨x1, rfl, ho1, hb1⟩
  obtain ⟨aW, nW, cW, rfl, zW⟩ := ho1.slN
  obtain rfl : F.length = nW := zW.len
  have AW := Lib.hid (ho1.apt LOW.out)
  have ZW := Lib.hid zW
  have R1 := Lib.hid (H.out.keep hb1)
  have G1 := Lib.hid (Gr.below (who := who) hb1)
  have c0 := R1.out.c0
  have AT1 := Lib.hid (inAt_any R1.out)
  rw [PL.out] at AT1
  clear ho1 zW hb1 FB c3 H
  go_wp2_with (go_at_call 101; refine AT1.out.mono ?_; rintro r w2 ⟨rfl, rfl⟩)
  have NM := inNum_any R1.out O0.out (by omega)
  rw [HX1.out] at NM
  refine NM.mono ?_
  rintro r w2 ⟨S2, who2, rfl, hR2, hG2⟩
  have R2 := Lib.hid hR2
  have G2 := Lib.hid (G1.out.trans hG2)
  have ZW2 := Lib.hid (ZW.out.gr AW.out hG2)
  have AW2 := Lib.hid (AW.out.gr hG2)
  have c0 := hR2.c0
  clear hR2 hG2 NM R1 G1 AT1 ZW AW
  by_cases h1 : e1 = 0
  case neg =>
    have t1 : (e1 != 0) = true := by rw [bne_iff_ne]; exact h1
    have FIN := Lib.hid (show Y = s.fail k1 e1 pl by rw [HM.out, if_pos h1])
    have FL := Lib.hid (fail_post (s := s) R2.out G2.out rfl e1 pl)
    clear h1
    go_wp2_with (go_at_call 82; refine FL.out.mono ?_; rintro r w9 ⟨rfl, hp9⟩; have P9 := Lib.hid hp9; clear hp9)
    go_ret2
    rw [FIN.out]
    exact P9.out
  subst h1
  have t1 : ((0 : Int) != 0) = false := by decide
  by_cases h2 : nn = F.length
  case neg =>
    have t2 : (nn != F.length) = true := by rw [bne_iff_ne]; exact h2
    have t2' : ((nn : Int) != (F.length : Int)) = true := by rw [bne_iff_ne]; omega
    have FIN := Lib.hid (show Y = s.fail k1 84 pl by rw [HM.out, if_neg (by simp), if_pos h2])
    have FL := Lib.hid (fail_post (s := s) R2.out G2.out rfl 84 pl)
    clear h2
    go_wp2_with (go_at_call 82; refine FL.out.mono ?_; rintro r w9 ⟨rfl, hp9⟩; have P9 := Lib.hid hp9; clear hp9)
    go_ret2
    rw [FIN.out]
    exact P9.out
  subst h2
  have t2 : (F.length != F.length) = false := by simp
  have t2' : ((F.length : Int) != (F.length : Int)) = false := by simp
  have AT2 := Lib.hid (inAt_any R2.out)
  dsimp only at AT2
  obtain ⟨pl1, hpl1⟩ : ∃ p, k1.pl = p := ⟨_, rfl⟩
  rw [hpl1] at AT2 HM HP1
  have PL1 := Lib.hid hpl1
  clear hpl1
  go_wp2_with (go_at_call 101; refine AT2.out.mono ?_; rintro r w3 ⟨rfl, rfl⟩)
  have BD := rbody_any R2.out O1.out (by omega) hL F.length (by omega)
  dsimp only at BD
  rw [HX2.out] at BD
  refine BD.mono ?_
  rintro r w3 ⟨bv, S3, who3, rfl, ho3, hz3, hR3, hG3⟩
  have R3 := Lib.hid hR3
  have G3 := Lib.hid (G2.out.trans hG3)
  have ZW3 := Lib.hid (ZW2.out.gr AW2.out hG3)
  have c0 := hR3.c0
  obtain ⟨a3, n3, m3, rfl, z3⟩ := ho3.slN
  have Z3 := Lib.hid z3
  clear hR3 hG3 BD R2 G2 AT2 ZW2 AW2 ho3 hz3 z3
  by_cases h3 : e2 = 0
  case neg =>
    have t3 : (e2 != 0) = true := by rw [bne_iff_ne]; exact h3
    have FIN := Lib.hid (show Y = s.fail k2 e2 p2 by rw [HM.out, if_neg (by simp), if_neg (by simp), if_pos h3])
    have FL := Lib.hid (fail_post (s := s) R3.out G3.out rfl e2 p2)
    clear h3
    go_wp2_with (go_at_call 82; refine FL.out.mono ?_; rintro r w9 ⟨rfl, hp9⟩; have P9 := Lib.hid hp9; clear hp9)
    go_ret2
    rw [FIN.out]
    exact P9.out
  subst h3
  have t3 : ((0 : Int) != 0) = false := by decide
  have hbl : b2.length = F.length := B2.out rfl
  obtain rfl : F.length = n3 := by rw [← hbl]; exact Z3.out.len
  have HBL := Lib.hid hbl
  clear hbl
  go_wp2_with fail
  go_loopw [86] (fun i wr => ∃ k : Nat, k ≤ F.length ∧ i = .int .i64 k ∧ b2.take k = F.take k ∧ Below w3.heap.size w3 wr) (fun i _ => F.length - (intOf i).toNat)
  case atStart => exact ⟨0, Nat.zero_le _, rfl, by simp, Below.refl _ _⟩
  case round =>
    obtain ⟨k, hk, rfl, he, hb⟩ := hrel
    have HE := Lib.hid he; clear he
    have HB := Lib.hid hb; clear hb
    by_cases hlt : k < F.length
    · obtain ⟨x, bb, o, hx, rfl, hc⟩ := (Z3.out.keep HB.out).at k hlt
      obtain ⟨y, b', o', hy, rfl, hc'⟩ := (ZW3.out.keep HB.out).at k hlt
      have hc : wr.cell? ⟨bb, o + k, none⟩ = some (.int .u8 (B x)) := hc
      have hc' : wr.cell? ⟨b', o' + k, none⟩ = some (.int .u8 (B y)) := hc'
      have HX := Lib.hid hx; clear hx
      have HY := Lib.hid hy; clear hy
      by_cases hxy : x = y
      · subst hxy
        go_wp2_with fail
        go_quiet (fail)
        go_wp2_with fail
        go_roundw
        case rel => exact ⟨k + 1, by omega, by go_num, (take_eq_snoc HX.out HY.out HE.out).2 rfl, keep_drewN HB.out _⟩
        case measure => simp [intOf]; omega
      · have hne : (B x != B y) = true := by rw [bne_iff_ne]; exact fun e => hxy (B_inj e)
        have r1 : IntKind.i64.wrap ((pl1 : Int) + (k : Int)) = ((pl1 + k : Nat) : Int) := by rw [IntWalk.i64_in _ (by have := HP1.out; omega)]; omega
        have FIN := Lib.hid (show Y = s.fail k2 84 (pl1 + k) by rw [HM.out, if_neg (by simp), if_neg (by simp), if_neg (by simp), dif_at HE.out HX.out HY.out hxy])
        clear hxy
        go_wp2_with fail
        go_quiet (fail)
        go_wp2_with (go_at_call 82; refine (fail_post (s := s) (R3.out.keep (keep_drewN HB.out _)) (G3.out.trans (Gr.below (keep_drewN HB.out _))) rfl 84 (pl1 + k)).mono ?_; rintro r w9 ⟨rfl, hp9⟩; have P9 := Lib.hid hp9; clear hp9)
        go_ret2
        rw [FIN.out]
        exact P9.out
    · obtain rfl : k = F.length := by omega
      have hbF : b2 = F := by
        have := HE.out
        rwa [← HBL.out, List.take_length, HBL.out, List.take_length] at this
      subst hbF
      have R4 := Lib.hid (R3.out.keep HB.out)
      have G4 := Lib.hid (G3.out.trans (Gr.below HB.out))
      replace HM := Lib.hid (show Y = if e3 ≠ 0 then s.fail k3 e3 k2.pl else if t ≠ tailB b then s.fail k3 85 k2.pl else if e4 ≠ 0 then s.fail k4 e4 k3.pl else if ov = false then s.fail k4 86 k3.pl else (([], false), ⟨k4, 2, s.rows, s.er, s.pt⟩) by rw [HM.out, if_neg (by simp), if_neg (by simp), if_neg (by simp), dif_self])
      have c0 := R4.out.c0
      have AT4 := Lib.hid (inAt_any R4.out)
      dsimp only at AT4
      obtain ⟨pl2, hpl2⟩ : ∃ p, k2.pl = p := ⟨_, rfl⟩
      rw [hpl2] at AT4 HM
      clear hpl2 HE HB R3 G3 Z3 ZW3 B2 HBL
      go_wp2_with (go_at_call 101; refine AT4.out.mono ?_; rintro r w5 ⟨rfl, rfl⟩)
      have BT := inBytes_any R4.out O2.out (by omega) hL 12 (by omega)
      dsimp only at BT
      rw [show (((12 : Nat) : Int)) = 12 from rfl, HX3.out] at BT
      refine BT.mono ?_
      rintro r w6 ⟨bv, S6, who6, rfl, ho6, hz6, hR6, hG6⟩
      have R6 := Lib.hid hR6
      have G6 := Lib.hid (G4.out.trans hG6)
      have c0 := hR6.c0
      obtain ⟨a6, n6, m6, rfl, z6⟩ := ho6.slN
      have T6 := Lib.hid z6
      clear hR6 hG6 BT R4 G4 AT4 ho6 hz6 z6
      by_cases h5 : e3 = 0
      case neg =>
        have t5 : (e3 != 0) = true := by rw [bne_iff_ne]; exact h5
        have FIN := Lib.hid (show Y = s.fail k3 e3 pl2 by rw [HM.out, if_pos h5])
        clear h5
        go_wp2_with (go_at_call 82; refine (fail_post (s := s) R6.out G6.out rfl e3 pl2).mono ?_; rintro r w9 ⟨rfl, hp9⟩; have P9 := Lib.hid hp9; clear hp9)
        go_ret2
        rw [FIN.out]
        exact P9.out
      subst h5
      have t5 : ((0 : Int) != 0) = false := by decide
      obtain ⟨d, hd⟩ : ∃ d, decide (t = tailB b) = d := ⟨_, rfl⟩
      have HD := Lib.hid hd
      cases d with
      | false =>
        have FIN := Lib.hid (show Y = s.fail k3 85 pl2 by rw [HM.out, if_neg (by simp), if_pos (of_decide_eq_false hd)])
        clear hd
        go_wp2_with (first
        | (go_at_call 49; refine (stail_any b _ hb0).mono ?_; rintro r w7 ⟨x7, rfl, ho7, hb7⟩; obtain ⟨a7, n7, c7, rfl, z7⟩ := ho7.slN; have Z7 := Lib.hid z7; have R7 := Lib.hid (R6.out.keep hb7); have G7 := Lib.hid (G6.out.trans (Gr.below hb7)); have T7 := Lib.hid (T6.out.keep hb7); clear ho7 hb7 z7)
        | (go_at_call 117; refine (bequal_any _ _ _ _ _ _ _ _ _ T7.out Z7.out).mono ?_; rintro r w8 ⟨rfl, rfl⟩; rw [HD.out]; have c0 := R7.out.c0; have AT8 := Lib.hid (inAt_any R7.out))
        | (go_at_call 101; refine AT8.out.mono ?_; rintro r w9 ⟨rfl, rfl⟩)
        | (go_at_call 82; refine (fail_post (s := s) R7.out G7.out rfl 85 pl2).mono ?_; rintro r w9 ⟨rfl, hp9⟩; have P9 := Lib.hid hp9; clear hp9))
        go_ret2
        rw [FIN.out]
        exact P9.out
      | true =>
        have HM2 := Lib.hid (show Y = if e4 ≠ 0 then s.fail k4 e4 k3.pl else if ov = false then s.fail k4 86 k3.pl else (([], false), ⟨k4, 2, s.rows, s.er, s.pt⟩) by rw [HM.out, if_neg (by simp), if_neg (by simpa using of_decide_eq_true hd)])
        clear hd HM
        go_wp2_with (first
        | (go_at_call 49; refine (stail_any b _ hb0).mono ?_; rintro r w7 ⟨x7, rfl, ho7, hb7⟩; obtain ⟨a7, n7, c7, rfl, z7⟩ := ho7.slN; have Z7 := Lib.hid z7; have R7 := Lib.hid (R6.out.keep hb7); have G7 := Lib.hid (G6.out.trans (Gr.below hb7)); have T7 := Lib.hid (T6.out.keep hb7); clear ho7 hb7 z7)
        | (go_at_call 117; refine (bequal_any _ _ _ _ _ _ _ _ _ T7.out Z7.out).mono ?_; rintro r w8 ⟨rfl, rfl⟩; rw [HD.out]; have c0 := R7.out.c0; have AT8 := Lib.hid (inAt_any R7.out))
        | (go_at_call 101; refine AT8.out.mono ?_; rintro r w9 ⟨rfl, rfl⟩))
        have EN := inEnd_any R7.out O3.out (by omega)
        dsimp only at EN
        rw [HX4.out] at EN
        refine EN.mono ?_
        rintro r w8 ⟨S8, who8, rfl, hR8, hG8⟩
        have R8 := Lib.hid hR8
        have G8 := Lib.hid (G7.out.trans hG8)
        have c1 := hR8.c1
        have f1 := hR8.free 1
        obtain ⟨q, hq⟩ : ∃ q, nextV g s.ph = .func (.func q) #[.pointer (some ⟨g, 0, none⟩)] #[] := ⟨_, rfl⟩
        dsimp only at c1
        rw [hq] at c1
        clear hR8 hG8 EN R7 G7 AT8 T7 Z7 T6 R6 G6 hq
        by_cases h7 : e4 = 0
        case neg =>
          have t7 : (e4 != 0) = true := by rw [bne_iff_ne]; exact h7
          have FIN := Lib.hid (show Y = s.fail k4 e4 k3.pl by rw [HM2.out, if_pos h7])
          clear h7
          go_wp2_with (go_at_call 82; refine (fail_post (s := s) R8.out G8.out rfl e4 k3.pl).mono ?_; rintro r w9 ⟨rfl, hp9⟩; have P9 := Lib.hid hp9; clear hp9)
          go_ret2
          rw [FIN.out]
          exact P9.out
        subst h7
        have t7 : ((0 : Int) != 0) = false := by decide
        cases ov with
        | false =>
          have FIN := Lib.hid (show Y = s.fail k4 86 k3.pl by rw [HM2.out, if_neg (by simp), if_pos rfl])
          go_wp2_with (go_at_call 82; refine (fail_post (s := s) R8.out G8.out rfl 86 k3.pl).mono ?_; rintro r w9 ⟨rfl, hp9⟩; have P9 := Lib.hid hp9; clear hp9)
          go_ret2
          rw [FIN.out]
          exact P9.out
        | true =>
          have FIN := Lib.hid (show Y = (([], false), ⟨k4, 2, s.rows, s.er, s.pt⟩) by rw [HM2.out, if_neg (by simp), if_neg (by simp)])
          have hmf : ∀ (fn : Fn) (first cap : Array Value) (w : World), (Instr.makeFunc fn first cap).run Try.prog w = .ok (.func fn first cap) w := fun _ _ _ _ => rfl
          go_wp2_with fail
          go_ret2
          rw [FIN.out]
          obtain ⟨hR9, hG9⟩ := R8.out.updG (Turns.set (S := fun j => j = g) w8 (i := 1) rfl (nextV g 2)) (lv' := lv) (ph := 2) (er := s.er) (pt := s.pt) (set_block R8.out.blk _)
          exact ⟨_, [], S8, _, _, who8, rfl, RdL.nil _ _, fun j hj => (RLB_nil hj).elim, hR9, G8.out.trans hG9⟩
end
end Go.Proofs.Ytljcogimeimknaa
/- A reader of streams: what stands behind a block: plain. No condition. -/
namespace Go.Proofs.Ytljcogimeimknaa
open Go.RowKit Go.Shelf
set_option linter.unusedVariables false
set_option linter.unusedSimpArgs false

theorem lastK_at' {l : List Ent} {j : Nat} {e : Ent} (hj : l.length = j + 1) (h : l[j]? = some e) : lastK l = e.1 := by
  unfold lastK
  obtain ⟨M, x, rfl⟩ : ∃ M x, l = M ++ [x] := by
    have hne : l ≠ [] := by intro e; rw [e] at hj; simp at hj
    exact ⟨l.dropLast, l.getLast hne, (List.dropLast_concat_getLast _).symm⟩
  rw [bst_snoc]
  simp only [List.length_append, List.length_cons, List.length_nil] at hj
  rw [List.getElem?_append_right (by omega)] at h
  simp [show j - M.length = 0 by omega] at h
  subst h; rfl
theorem lastR_at {rs : List Row} {j : Nat} {r : Row} (hj : rs.length = j + 1) (h : rs[j]? = some r) : lastR rs = r.1 := by
  unfold lastR
  rw [List.getLast?_eq_getElem?, show rs.length - 1 = j by omega, h]
theorem RdL.gr {who who' : Nat → Nat} {w w' : World} {lo : Nat} {y : Value} {vs : List (Sv × Sv)} {es : List Ent} (h : RdL w lo y vs es) (ha : ∀ j, RLB y vs j → who j = 0) (hG : Gr w w' who who') : RdL w' lo y vs es ∧ ∀ j, RLB y vs j → who' j = 0 :=
  ⟨h.turns hG.t fun j hj e => e (ha j hj), fun j hj => by rw [hG.o j (h.inB j hj).2]; exact ha j hj⟩
/-- what reading a block gives -/
theorem bread_good {b : List UInt8} {l : List Ent} {q : Nat} (hb : b.length ≤ 1000000000) (h : bread b = (l, q, 0)) : 1 ≤ l.length ∧ l.length ≤ 64 ∧ ∀ e, e ∈ l → 0 < e.1.length ∧ e.1.length ≤ 64 := by
  obtain ⟨h1, h2, _⟩ := bread_back (by omega) h
  refine ⟨by omega, by omega, fun e he => ?_⟩
  have := chk_zero (srt_okay h2 e he)
  exact ⟨this.1, this.2.1⟩

theorem RXPost.trans {lo gs g gi : Nat} {lv : Value} {who who1 : Nat → Nat} {w w1 w' : World} {X : RX} {r : Ending} (hG : Gr w w1 who who1) (h : RXPost lo gs g gi lv who1 w1 X r w') : RXPost lo gs g gi lv who w X r w' := by
  obtain ⟨y, es, S', rv', vs', who', e, hl, hz, hR, hG2⟩ := h
  exact ⟨y, es, S', rv', vs', who', e, hl.low hG.t.size, hz, hR, hG.trans hG2⟩
theorem bodyM_pl {M : Int} {c : CIn Src} {n : Nat} : (bodyM M c n).2.2.2.pl ≤ c.pl + n + 4 := by
  unfold bodyM bdB
  have q1 := bytesM_pl (M := M) (n := (n : Int)) (c := c)
  split
  · show (bytesM srcM M _ c).2.2.pl ≤ _; omega
  · have q2 := bytesM_pl (M := M) (n := 4) (c := (bytesM srcM M (n : Int) c).2.2)
    unfold bdS
    split
    · dsimp only; omega
    split
    · dsimp only; omega
    · dsimp only; omega
/-- one more block: what stands behind it -/
theorem rdframe_fin {w w5 wc w6 w7 : World} {lo gs g gi nR cR n6 c6 n7 c7 : Nat} {S5 : Nat → Prop} {lv y : Value} {aR a6 a7 : Option Addr} {vs : List RV} {s : RS} {k3 : CIn Src} {who who3 : Nat → Nat} {vl : List (Sv × Sv)} {l : List Ent} {xk : List UInt8} {P D N : Int} {o : Obj}
    (hR : Rdp w5 lo gs g gi S5 lv (.slice aR nR cR) vs { s with c := k3 } who3) (hG : Gr w w5 who who3) (hL : RdL w5 w.heap.size y vl l) (hZ : ∀ j, RLB y vl j → who3 j = 0) (hc : Below w5.heap.size w5 wc) (hz : Sl Bf w6 a6 n6 c6 xk)
    (ho6 : ∀ j, Value.ownBlock (.slice a6 n6 c6) = some j → wc.heap.size ≤ j ∧ j < w6.heap.size) (h7 : OwT fR w7 lo 89 (.slice a7 n7 c7) (vs ++ [((a6, n6, c6), (P, D, N))]))
    (hv : Value.ownBlock (.slice a7 n7 c7) = Value.ownBlock (.slice aR nR cR) ∨ Value.ownBlock (.slice a7 n7 c7) = some (w6.alloc o).heap.size) (hg : (w6.alloc o).grownBy w7 (Value.ownBlock (.slice aR nR cR))) (h6 : Below w5.heap.size w5 w6)
    (ht : Turns (fun j => Value.ownBlock (.slice aR nR cR) = some j) w5 w7) :
    RXPost lo gs g gi lv who w ((l, true), ⟨k3, s.ph, s.rows ++ [(xk, (P, D, N))], s.er, s.pt⟩) (.returned (.tuple #[y, .bool true])) (w7.setCell ⟨g, 3, none⟩ (.slice a7 n7 c7)) := by
  have hrow : ∀ j, Value.ownBlock (.slice aR nR cR) = some j → j < w5.heap.size := fun j hj => (hR.rw.lt j hj).2
  have hcs := hc.size
  have h6s := h6.size
  have hz7 : Sl Bf w7 a6 n6 c6 xk := (hz.keep ((Below.refl _ _).alloc (Nat.le_refl _) o)).turns (S := fun j => Value.ownBlock (.slice aR nR cR) = some j) (.of_grown hg fun j e => e) fun b o' e _ hs => by
    have h1 := (ho6 b (by subst e; rfl)).1
    have h2 := hrow b hs
    omega
  obtain ⟨who7, hR7, hG7, -⟩ := hR.setR ht hz7 (x := .slice a7 n7 c7) (fun b o' e => by
    have h1 := ho6 b (by subst e; rfl)
    refine ⟨by omega, fun h => ?_⟩
    rcases hv with e2 | e2
    · have := hrow b (e2 ▸ h); omega
    · rw [e2] at h; injection h with h; simp at h; omega) h7 (fun j hj => by
    rcases hv with e2 | e2
    · exact .inl (e2 ▸ hj)
    · rw [e2] at hj; injection hj with hj; exact .inr (by simp at hj; omega))
  obtain ⟨hL7, hZ7⟩ := hL.gr hZ hG7
  exact ⟨y, vl, S5, _, _, who7, rfl, hL7, hZ7, hR7, hG.trans hG7⟩
end Go.Proofs.Ytljcogimeimknaa
