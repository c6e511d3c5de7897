/- Blocks of entries: plain words: what a builder holds, what it makes, may an entry stand behind. No condition. -/
import Derived.Test.YteedjgjkldbbcaaPairBytes
import Derived.Test.YteedjgjkldbbcaaEntM
namespace Go.Proofs.Yteedjgjkldbbcaa

/-- what a builder holds: the entries' bytes, the table, the last key, how many -/
structure BS where
  body : List UInt8
  tab : List UInt8
  last : List UInt8
  n : Nat
def BS0 : BS := ⟨[], [], [], 0⟩
def bP (n : Nat) (last : List UInt8) : List UInt8 := if n % 8 = 0 then [] else last
def bMark (n at' : Nat) : List UInt8 := if n % 8 = 0 then [UInt8.ofNat at', UInt8.ofNat (at' / 256)] else []
def bAdd (s : BS) (e : Ent) : BS := ⟨s.body ++ ebytes (bP s.n s.last) e, s.tab ++ bMark s.n (s.body.length + 1), e.1, s.n + 1⟩
def bst (l : List Ent) : BS := l.foldl bAdd BS0
theorem bst_nil : bst [] = BS0 := rfl
theorem bst_snoc (l : List Ent) (e : Ent) : bst (l ++ [e]) = bAdd (bst l) e := by unfold bst; rw [List.foldl_append]; rfl
theorem bst_n (l : List Ent) : (bst l).n = l.length := by
  have : ∀ (l : List Ent) (s : BS), (l.foldl bAdd s).n = s.n + l.length := by
    intro l
    induction l with
    | nil => intro s; rfl
    | cons e r ih => intro s; rw [List.foldl_cons, ih, List.length_cons]; show s.n + 1 + _ = _; omega
  have := this l BS0
  unfold bst; rw [this]; show 0 + _ = _; omega
theorem bst_last (l : List Ent) : (bst l).last = (match l.getLast? with | none => [] | some e => e.1) := by
  rcases List.eq_nil_or_concat l with rfl | ⟨r, e, rfl⟩
  · rfl
  · rw [List.concat_eq_append, bst_snoc, List.getLast?_append]; rfl
theorem bst_take {l : List Ent} {k : Nat} {e : Ent} (h : l[k]? = some e) : bst (l.take (k + 1)) = bAdd (bst (l.take k)) e := by
  rw [List.take_add_one, h]; exact bst_snoc _ _
theorem ebytes_le (p : List UInt8) (e : Ent) (h : e.1.length + e.2.length ≤ 140737488351232) : (ebytes p e).length ≤ 30 + e.1.length + e.2.length := by
  unfold ebytes
  have h1 := com_le p e.1
  have a := vb_ten (n := com p e.1) (by omega)
  have b := vb_ten (n := e.1.length - com p e.1) (by omega)
  have c := vb_ten (n := e.2.length) (by omega)
  simp only [List.length_append, List.length_drop]
  omega
theorem keyN_zero {n : Nat} (h : keyN n = 0) : 0 < n ∧ n ≤ 64 := by unfold keyN at h; split at h <;> omega
theorem valN_zero {n : Nat} (h : valN n = 0) : n ≤ 256 := by unfold valN at h; split at h <;> omega
theorem chk_zero {e : Ent} (h : chk e = 0) : 0 < e.1.length ∧ e.1.length ≤ 64 ∧ e.2.length ≤ 256 := by
  unfold chk chkN at h
  have a : keyN e.1.length = 0 := by omega
  have b : valN e.2.length = 0 := by omega
  exact ⟨(keyN_zero a).1, (keyN_zero a).2, valN_zero b⟩
theorem chk_cases (e : Ent) : chk e = 0 ∨ chk e = 3 := by
  unfold chk chkN
  have a : keyN e.1.length = 0 ∨ keyN e.1.length = 3 := by unfold keyN; split <;> simp
  have b : valN e.2.length = 0 ∨ valN e.2.length = 3 := by unfold valN; split <;> simp
  omega
/-- each entry may be -/
def Okay (l : List Ent) : Prop := ∀ e, e ∈ l → chk e = 0
theorem Okay.take {l : List Ent} (h : Okay l) (k : Nat) : Okay (l.take k) := fun e he => h e (List.mem_of_mem_take he)
theorem Okay.snoc {l : List Ent} (h : Okay l) {e : Ent} (he : chk e = 0) : Okay (l ++ [e]) := fun x hx => by
  rcases List.mem_append.1 hx with h1 | h1
  · exact h x h1
  · obtain rfl := List.mem_singleton.1 h1; exact he
theorem bst_le : ∀ (l : List Ent), Okay l → (bst l).body.length ≤ 350 * l.length ∧ (bst l).tab.length ≤ 2 * l.length ∧ (bst l).last.length ≤ 64 := by
  intro l h
  have : ∀ k, k ≤ l.length → (bst (l.take k)).body.length ≤ 350 * k ∧ (bst (l.take k)).tab.length ≤ 2 * k ∧ (bst (l.take k)).last.length ≤ 64 := by
    intro k
    induction k with
    | zero => intro _; exact ⟨Nat.le_refl _, Nat.le_refl _, Nat.zero_le _⟩
    | succ k ih =>
      intro hk
      obtain ⟨e, he⟩ : ∃ e, l[k]? = some e := ⟨_, List.getElem?_eq_getElem hk⟩
      have hc := chk_zero (h e (List.mem_of_getElem? he))
      obtain ⟨h1, h2, h3⟩ := ih (by omega)
      rw [bst_take he]
      refine ⟨?_, ?_, hc.2.1⟩
      · show (_ ++ ebytes _ e).length ≤ _
        have := ebytes_le (bP (bst (l.take k)).n (bst (l.take k)).last) e (by omega)
        rw [List.length_append]; omega
      · show (_ ++ bMark _ _).length ≤ _
        rw [List.length_append]
        have : (bMark (bst (l.take k)).n ((bst (l.take k)).body.length + 1)).length ≤ 2 := by unfold bMark; split <;> simp
        omega
  have := this l.length (Nat.le_refl _)
  rwa [List.take_length] at this
/-- what a block of entries is -/
def bld (l : List Ent) : List UInt8 := if l = [] then [] else vb l.length ++ (bst l).body ++ (bst l).tab
theorem bld_nil : bld [] = [] := rfl
theorem bld_some {l : List Ent} (h : l ≠ []) : bld l = vb l.length ++ (bst l).body ++ (bst l).tab := by unfold bld; rw [if_neg h]
/-- may an entry stand behind entries? -/
def addE (l : List Ent) (e : Ent) : Nat := if chk e ≠ 0 then chk e else if l.length = 64 then 61 else if 0 < l.length ∧ 0 ≤ cmp (bst l).last e.1 then 51 else 0
theorem addE_chk {l : List Ent} {e : Ent} (h : chk e ≠ 0) : addE l e = chk e := by unfold addE; rw [if_pos h]
theorem addE_full {l : List Ent} {e : Ent} (h : chk e = 0) (h2 : l.length = 64) : addE l e = 61 := by unfold addE; rw [if_neg (by omega), if_pos h2]
theorem addE_cmp {l : List Ent} {e : Ent} (h : chk e = 0) (h2 : l.length ≠ 64) (h3 : 0 < l.length ∧ 0 ≤ cmp (bst l).last e.1) : addE l e = 51 := by unfold addE; rw [if_neg (by omega), if_neg h2, if_pos h3]
theorem addE_ok {l : List Ent} {e : Ent} (h : chk e = 0) (h2 : l.length ≠ 64) (h3 : ¬ (0 < l.length ∧ 0 ≤ cmp (bst l).last e.1)) : addE l e = 0 := by unfold addE; rw [if_neg (by omega), if_neg h2, if_neg h3]
theorem addE_zero {l : List Ent} {e : Ent} (h : addE l e = 0) : chk e = 0 ∧ l.length ≠ 64 ∧ ¬ (0 < l.length ∧ 0 ≤ cmp (bst l).last e.1) := by
  by_cases h1 : chk e = 0
  · by_cases h2 : l.length = 64
    · rw [addE_full h1 h2] at h; cases h
    · by_cases h3 : 0 < l.length ∧ 0 ≤ cmp (bst l).last e.1
      · rw [addE_cmp h1 h2 h3] at h; cases h
      · exact ⟨h1, h2, h3⟩
  · rw [addE_chk h1] at h; exact absurd h h1
/-- of rising entries that may be each stands rightly behind those ahead of it -/
theorem srt_adds {es : List Ent} (h : (srt es).2 = 0) : ∀ k e, es[k]? = some e → chk e = 0 ∧ ¬ (0 < k ∧ 0 ≤ cmp (bst (es.take k)).last e.1) := by
  have main : ∀ (r : List Ent) (i : Nat) (p : List Ent), i = p.length → (srtFrom i (bst p).last r).2 = 0 → ∀ k e, r[k]? = some e → chk e = 0 ∧ ¬ (0 < i + k ∧ 0 ≤ cmp (bst (p ++ r.take k)).last e.1) := by
    intro r
    induction r with
    | nil => intro i p _ _ k e he; simp at he
    | cons x r ih =>
      intro i p hi hs k e he
      by_cases h1 : chk x ≠ 0
      · rw [srt_chk h1] at hs; exact absurd hs h1
      by_cases h2 : 0 < i ∧ 0 ≤ cmp (bst p).last x.1
      · rw [srt_cmp h1 h2] at hs; cases hs
      rw [srt_go h1 h2] at hs
      have hl : (bst (p ++ [x])).last = x.1 := by rw [bst_snoc]; rfl
      rw [← hl] at hs
      cases k with
      | zero =>
        simp at he; subst he
        refine ⟨by omega, ?_⟩
        rw [List.take_zero, List.append_nil]
        exact h2
      | succ k =>
        simp at he
        have := ih (i + 1) (p ++ [x]) (by rw [List.length_append, hi]; rfl) hs k e he
        rw [List.append_assoc] at this
        rw [show i + (k + 1) = i + 1 + k by omega]
        exact this
  intro k e he
  have := main es 0 [] rfl h k e he
  simpa using this
theorem srt_okay {es : List Ent} (h : (srt es).2 = 0) : Okay es := fun e he => by
  obtain ⟨k, hk⟩ := List.getElem?_of_mem he
  exact (srt_adds h k e hk).1
/-- entries into a block: its bytes, the place, the error -/
def bbuild (es : List Ent) : List UInt8 × Nat × Nat := if es.length < 1 ∨ 64 < es.length then ([], 61, 0) else if (srt es).2 ≠ 0 then ([], (srt es).2, (srt es).1) else (bld es, 0, 0)
theorem bbuild_count {es : List Ent} (h : es.length < 1 ∨ 64 < es.length) : bbuild es = ([], 61, 0) := by unfold bbuild; rw [if_pos h]
theorem bbuild_srt {es : List Ent} (h : ¬ (es.length < 1 ∨ 64 < es.length)) (h2 : (srt es).2 ≠ 0) : bbuild es = ([], (srt es).2, (srt es).1) := by unfold bbuild; rw [if_neg h, if_pos h2]
theorem bbuild_ok {es : List Ent} (h : ¬ (es.length < 1 ∨ 64 < es.length)) (h2 : (srt es).2 = 0) : bbuild es = (bld es, 0, 0) := by unfold bbuild; rw [if_neg h, if_neg (by omega)]
end Go.Proofs.Yteedjgjkldbbcaa
