/- A foot there and back: plain words. No condition. -/
import Derived.Test.YtpmijgeakmmieaaFootReadN
namespace Go.Proofs.Ytpmijgeakmmieaa

theorem rd_vbF (m : Nat) (rest : List UInt8) (hm : m < 18446744073709551616) : rd (vb m ++ rest) 0 0 = (m, (vb m).length, 0) := by
  have := rd_vb m 0 0 rest (by omega) (by simpa using hm) (.inl rfl)
  simpa using this
/-- the last key -/
def lastK (rs : List Row) : List UInt8 := match rs.getLast? with
  | some r => r.1
  | none => []
theorem lastK_snoc (rs : List Row) (r : Row) : lastK (rs ++ [r]) = r.1 := by unfold lastK; simp
theorem up_last (pre : List Row) (k : List UInt8) : (0 < pre.length ∧ 0 ≤ cmp (lastK pre) k) ↔ upR pre k = false := by
  rcases List.eq_nil_or_concat pre with rfl | ⟨r, x, rfl⟩
  · rw [upR_nil]; simp
  · rw [List.concat_eq_append, upR_snoc, lastK_snoc, decide_eq_false_iff_not]
    simp
/-- what is asked of the next row -/
def Nxt (pre : List Row) (r : Row) : Prop := (1 ≤ r.1.length ∧ r.1.length ≤ 64) ∧ upR pre r.1 = true ∧ r.2.1 = endR pre ∧ (1 ≤ r.2.2.1 ∧ r.2.2.1 ≤ 131072) ∧ (1 ≤ r.2.2.2 ∧ r.2.2.2 ≤ 64)
theorem fck_next {pre : List Row} {r : Row} {rs : List Row} : (fck pre.length (endR pre) (lastK pre) (r :: rs)).2 = 0 ↔ Nxt pre r ∧ (fck (pre ++ [r]).length (endR (pre ++ [r])) (lastK (pre ++ [r])) rs).2 = 0 := by
  obtain ⟨k, x, y, z⟩ := r
  have hu := up_last pre k
  rw [endR_snoc, lastK_snoc, List.length_append]
  show _ ↔ ((1 ≤ k.length ∧ k.length ≤ 64) ∧ upR pre k = true ∧ x = endR pre ∧ (1 ≤ y ∧ y ≤ 131072) ∧ (1 ≤ z ∧ z ≤ 64)) ∧ (fck (pre.length + 1) (x + y) k rs).2 = 0
  by_cases h0 : (k.length = 0 ∨ 64 < k.length) ∨ (0 < pre.length ∧ 0 ≤ cmp (lastK pre) k)
  · rw [fck_key h0]
    constructor
    · intro h; cases h
    · rintro ⟨⟨h1, h2, _⟩, _⟩
      rcases h0 with h0 | h0
      · omega
      · rw [hu.1 h0] at h2; cases h2
  · have hup : upR pre k = true := by
      rcases e : upR pre k with _ | _
      · exact absurd (.inr (hu.2 e)) h0
      · rfl
    by_cases h1 : x = endR pre
    · by_cases h2 : y < 1 ∨ 131072 < y
      · rw [fck_len h0 h1 h2]
        constructor
        · intro h; cases h
        · rintro ⟨⟨_, _, _, h, _⟩, _⟩; omega
      by_cases h3 : z < 1 ∨ 64 < z
      · rw [fck_ent h0 h1 h2 h3]
        constructor
        · intro h; cases h
        · rintro ⟨⟨_, _, _, _, h⟩, _⟩; omega
      rw [fck_go h0 h1 h2 h3, h1]
      exact ⟨fun h => ⟨⟨by omega, hup, rfl, by omega, by omega⟩, h⟩, fun h => h.2⟩
    · rw [fck_at h0 h1]
      constructor
      · intro h; cases h
      · rintro ⟨⟨_, _, h, _⟩, _⟩; exact absurd h h1
theorem frow_of {b A rest : List UInt8} {pre : List Row} {r : Row} (hb : b = A ++ (rowB r ++ rest)) (hN : Nxt pre r) (hA : 0 ≤ endR pre ∧ endR pre < 18446744073709551616) : frow b pre A.length = (r, A.length + (rowB r).length, 0) := by
  obtain ⟨k, x, y, z⟩ := r
  obtain ⟨⟨h1, h2⟩, h3, h4, ⟨h5, h6⟩, ⟨h7, h8⟩⟩ := hN
  dsimp only at h1 h2 h3 h4 h5 h6 h7 h8
  obtain ⟨Y, rfl⟩ := Int.eq_ofNat_of_zero_le (show 0 ≤ y by omega)
  obtain ⟨Z, rfl⟩ := Int.eq_ofNat_of_zero_le (show 0 ≤ z by omega)
  obtain ⟨X, rfl⟩ := Int.eq_ofNat_of_zero_le (show 0 ≤ x by omega)
  have hrow : rowB (k, (X : Int), (Y : Int), (Z : Int)) = vb k.length ++ (k ++ (vb X ++ (vb Y ++ vb Z))) := by unfold rowB vbs; simp
  rw [hrow] at hb ⊢
  have e0 : b.drop A.length = vb k.length ++ (k ++ (vb X ++ (vb Y ++ (vb Z ++ rest)))) := by rw [hb]; simp
  have e1 : b.drop (A.length + (vb k.length).length) = k ++ (vb X ++ (vb Y ++ (vb Z ++ rest))) := by rw [← List.drop_drop, e0, List.drop_left]
  have e2 : b.drop (A.length + (vb k.length).length + k.length) = vb X ++ (vb Y ++ (vb Z ++ rest)) := by rw [← List.drop_drop, e1, List.drop_left]
  have e3 : b.drop (A.length + (vb k.length).length + k.length + (vb X).length) = vb Y ++ (vb Z ++ rest) := by rw [← List.drop_drop, e2, List.drop_left]
  have e4 : b.drop (A.length + (vb k.length).length + k.length + (vb X).length + (vb Y).length) = vb Z ++ rest := by rw [← List.drop_drop, e3, List.drop_left]
  have hbl : b.length = A.length + (vb k.length).length + k.length + (vb X).length + (vb Y).length + (vb Z).length + rest.length := by rw [hb]; simp; omega
  have hk : fky b pre A.length = (k, A.length + (vb k.length).length + k.length, 0) := by
    have hr : rd (b.drop A.length) 0 0 = (k.length, (vb k.length).length, 0) := by rw [e0]; exact rd_vbF _ _ (by omega)
    have := fky_ok (rs := pre) hr (by omega) (by omega) (by rw [e1, List.take_left]; exact h3)
    rw [e1, List.take_left] at this
    exact this
  rw [frow_go hk]
  have r1 : rd (b.drop (A.length + (vb k.length).length + k.length)) 0 0 = (X, (vb X).length, 0) := by rw [e2]; exact rd_vbF _ _ (by omega)
  have r2 : rd (b.drop (A.length + (vb k.length).length + k.length + (vb X).length)) 0 0 = (Y, (vb Y).length, 0) := by rw [e3]; exact rd_vbF _ _ (by omega)
  have r3 : rd (b.drop (A.length + (vb k.length).length + k.length + (vb X).length + (vb Y).length)) 0 0 = (Z, (vb Z).length, 0) := by rw [e4]; exact rd_vbF _ _ (by omega)
  rw [fr3_ok r1 h4, fr2_ok r2 (by omega), fr1_ok r3 (by omega), ← h4]
  simp
  omega
theorem frd_of : ∀ (rs : List Row) {b A rest : List UInt8} {pre : List Row}, b = A ++ (rs.flatMap rowB ++ rest) → (fck pre.length (endR pre) (lastK pre) rs).2 = 0 → 8 ≤ endR pre → endR pre + 131072 * (rs.length : Int) ≤ 4611686018427387904 → frd b rs.length pre A.length = (pre ++ rs, A.length + (rs.flatMap rowB).length, 0)
  | [], b, A, rest, pre, _, _, _, _ => by
    show (pre, A.length, (0 : Int)) = _
    simp
  | r :: rs, b, A, rest, pre, hb, hc, h8, hE => by
    obtain ⟨hN, hc2⟩ := fck_next.1 hc
    have hb2 : b = A ++ (rowB r ++ (rs.flatMap rowB ++ rest)) := by rw [hb]; simp
    have hlen : ((r :: rs).length : Int) = rs.length + 1 := by simp
    have hN' := hN
    obtain ⟨_, _, hN3, ⟨hN4, hN5⟩, _⟩ := hN'
    have hf := frow_of hb2 hN ⟨by omega, by omega⟩
    have he : endR (pre ++ [r]) = endR pre + r.2.2.1 := by rw [endR_snoc, hN3]
    have := frd_of rs (b := b) (A := A ++ rowB r) (rest := rest) (pre := pre ++ [r]) (by rw [hb2]; simp) hc2 (by omega) (by omega)
    rw [List.length_cons, frd_go hf]
    rw [List.length_append] at this
    rw [this]
    simp
    omega
theorem fread_of {rs : List Row} (h : (fchk rs).2 = 0) (more : List UInt8) : fread (fbytes rs ++ more) = if more = [] then (rs, 0, 0) else ([], (fbytes rs).length, 78) := by
  obtain ⟨hm, hw⟩ := fchk_all h
  have hc : (fck 0 8 [] rs).2 = 0 := by unfold fchk at h; rw [if_neg (by omega)] at h; exact h
  have hb : fbytes rs ++ more = vb rs.length ++ (rs.flatMap rowB ++ (vb (totU rs) ++ more)) := by unfold fbytes; simp
  have r0 : rd (fbytes rs ++ more) 0 0 = (rs.length, (vb rs.length).length, 0) := by rw [hb]; exact rd_vbF _ _ (by omega)
  have hf := frd_of rs (pre := []) hb hc (by rw [endR_nil]; omega) (by rw [endR_nil]; omega)
  rw [List.nil_append] at hf
  rw [fread_go r0 (by omega) hf]
  have e1 : (fbytes rs ++ more).drop ((vb rs.length).length + (rs.flatMap rowB).length) = vb (totU rs) ++ more := by
    rw [hb, ← List.drop_drop, List.drop_left, List.drop_left]
  have r1 : rd ((fbytes rs ++ more).drop ((vb rs.length).length + (rs.flatMap rowB).length)) 0 0 = (totU rs, (vb (totU rs)).length, 0) := by rw [e1]; exact rd_vbF _ _ (totU_lt rs)
  have hl : (fbytes rs).length = (vb rs.length).length + (rs.flatMap rowB).length + (vb (totU rs)).length := by unfold fbytes; simp; omega
  by_cases hmo : more = []
  · rw [if_pos hmo, ftl_ok r1 rfl (by rw [List.length_append, hmo, List.length_nil]; omega)]
  · have : 0 < more.length := List.length_pos_iff.2 hmo
    rw [if_neg hmo, ftl_rest r1 rfl (by rw [List.length_append]; omega), hl]
theorem frd_back {b : List UInt8} : ∀ (j : Nat) (pre : List Row) (p : Nat) (l : List Row) (q : Nat), 0 ≤ endR pre → p ≤ b.length → frd b j pre p = (l, q, 0) →
    ∃ rs, l = pre ++ rs ∧ rs.length = j ∧ (fck pre.length (endR pre) (lastK pre) rs).2 = 0 ∧ p ≤ q ∧ q ≤ b.length ∧ (b.drop p).take (q - p) = rs.flatMap rowB
  | 0, pre, p, l, q, _, hp, h => by
    have h : (pre, p, (0 : Int)) = (l, q, 0) := h
    simp only [Prod.mk.injEq] at h
    obtain ⟨rfl, rfl, _⟩ := h
    exact ⟨[], by simp, rfl, rfl, Nat.le_refl _, hp, by simp⟩
  | j + 1, pre, p, l, q, hA, hp, h => by
    obtain ⟨⟨r, m, e1⟩, hr⟩ : ∃ X, frow b pre p = X := ⟨_, rfl⟩
    by_cases he : e1 = 0
    · subst he
      rw [frd_go hr] at h
      obtain ⟨g1, g2, g3, g4, g5, g6, g7, g8⟩ := frow_in hA hp hr
      have hA2 : 0 ≤ endR (pre ++ [r]) := by rw [endR_snoc]; omega
      obtain ⟨rs, rfl, hl, hc, k1, k2, k3⟩ := frd_back j (pre ++ [r]) m l q hA2 g1 h
      refine ⟨r :: rs, by simp, by simp [hl], fck_next.2 ⟨⟨g3, g4, g5, g6, g7⟩, hc⟩, by omega, k2, ?_⟩
      rw [show q - p = (m - p) + (q - m) by omega, List.take_add, g8, List.drop_drop, show p + (m - p) = m by omega, k3, List.flatMap_cons]
    · rw [frd_no hr he] at h
      simp only [Prod.mk.injEq] at h
      exact absurd h.2.2 he
theorem fread_back {b : List UInt8} {rs : List Row} {q : Nat} (h : fread b = (rs, q, 0)) : (fchk rs).2 = 0 ∧ fbytes rs = b := by
  obtain ⟨⟨M, d, e0⟩, hr⟩ : ∃ X, rd b 0 0 = X := ⟨_, rfl⟩
  by_cases he : e0 = 0
  · subst he
    have hr' : rd (b.drop 0) 0 0 = (M, d, 0) := by rw [List.drop_zero]; exact hr
    obtain ⟨g1, g2, g3, g4⟩ := rd_drop_in (Nat.zero_le _) hr'
    rw [List.drop_zero] at g3
    by_cases hb : 8388608 < M
    · rw [fread_many hr hb] at h; simp only [Prod.mk.injEq] at h; exact absurd h.2.2 (by decide)
    obtain ⟨⟨l, p, e1⟩, hl⟩ : ∃ X, frd b M [] d = X := ⟨_, rfl⟩
    by_cases he1 : e1 = 0
    · subst he1
      rw [fread_go hr hb hl] at h
      obtain ⟨rs', hrs, hM, hc, k1, k2, k3⟩ := frd_back M [] d l p (by rw [endR_nil]; omega) (by omega) hl
      rw [List.nil_append] at hrs
      obtain rfl : rs' = l := hrs.symm
      obtain ⟨⟨v, dv, e2⟩, hv⟩ : ∃ X, rd (b.drop p) 0 0 = X := ⟨_, rfl⟩
      by_cases he2 : e2 = 0
      · subst he2
        obtain ⟨m1, m2, m3, m4⟩ := rd_drop_in k2 hv
        by_cases h2 : v = totU rs'
        · by_cases h3 : p + dv < b.length
          · rw [ftl_rest hv h2 h3] at h; simp only [Prod.mk.injEq] at h; exact absurd h.2.2 (by decide)
          · rw [ftl_ok hv h2 h3] at h
            simp only [Prod.mk.injEq] at h
            obtain ⟨rfl, _⟩ := h
            refine ⟨?_, ?_⟩
            · unfold fchk
              rw [if_neg (by omega)]
              exact hc
            · unfold fbytes
              rw [hM, ← g3, ← k3, ← h2, ← m3]
              have e1 : (b.drop p).take dv = b.drop p := List.take_of_length_le (by rw [List.length_drop]; omega)
              rw [e1]
              have e3 : b.drop p = (b.drop d).drop (p - d) := by rw [List.drop_drop, show d + (p - d) = p by omega]
              rw [e3, List.take_append_drop, List.take_append_drop]
        · rw [ftl_bad hv h2] at h; simp only [Prod.mk.injEq] at h; exact absurd h.2.2 (by decide)
      · rw [ftl_no hv he2] at h; simp only [Prod.mk.injEq] at h; exact absurd h.2.2 he2
    · rw [fread_bad hr hb hl he1] at h; simp only [Prod.mk.injEq] at h; exact absurd h.2.2 he1
  · rw [fread_no hr he] at h; simp only [Prod.mk.injEq] at h; exact absurd h.2.2 he
/-- no beginning of a foot is a foot -/
theorem fread_short {rs : List Row} (h : (fchk rs).2 = 0) {n : Nat} (hn : n < (fbytes rs).length) : (fread ((fbytes rs).take n)).2.2 ≠ 0 := by
  intro he
  obtain ⟨⟨l, q, e⟩, hf⟩ : ∃ X, fread ((fbytes rs).take n) = X := ⟨_, rfl⟩
  rw [hf] at he
  have he : e = 0 := he
  subst he
  obtain ⟨h1, h2⟩ := fread_back hf
  have h3 := fread_of h1 ((fbytes rs).drop n)
  have h4 := fread_of h []
  rw [h2, List.take_append_drop, if_neg (by intro e; have := congrArg List.length e; rw [List.length_drop] at this; simp at this; omega)] at h3
  rw [List.append_nil, if_pos rfl, h3] at h4
  simp only [Prod.mk.injEq] at h4
  exact absurd h4.2.2 (by decide)
end Go.Proofs.Ytpmijgeakmmieaa
