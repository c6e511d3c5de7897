/- Entries there and back: what is written is read, what is read is written just so: plain words, no program. No condition. -/
import Derived.Test.YteedjgjkldbbcaaPairReadM
import Derived.Test.YteedjgjkldbbcaaPairBytes
import Derived.Test.YteedjgjkldbbcaaVintNumsM
namespace Go.Proofs.Yteedjgjkldbbcaa

theorem rd_vb1 (m : Nat) (rest : List UInt8) (hm : m < 18446744073709551616) : rd (vb m ++ rest) 0 0 = (m, (vb m).length, 0) := by
  have := rd_vb m 0 0 rest (by omega) (by omega) (.inl rfl)
  rw [this, Nat.pow_zero, Nat.mul_one, Nat.zero_add, Nat.zero_add]
/-- three numbers that were written are read -/
theorem pr3_vbs (A R : List UInt8) (s m l : Nat) (hs : s < 18446744073709551616) (hm : m < 18446744073709551616) (hl : l < 18446744073709551616) :
    pr3 (A ++ (vb s ++ (vb m ++ (vb l ++ R)))) 3 [] A.length = ([s, m, l], A.length + (vb s).length + (vb m).length + (vb l).length, 0) := by
  have h0 : rd ((A ++ (vb s ++ (vb m ++ (vb l ++ R)))).drop A.length) 0 0 = (s, (vb s).length, 0) := by rw [List.drop_left]; exact rd_vb1 s _ hs
  have h1 : rd ((A ++ (vb s ++ (vb m ++ (vb l ++ R)))).drop (A.length + (vb s).length)) 0 0 = (m, (vb m).length, 0) := by
    rw [← List.drop_drop, List.drop_left, List.drop_left]; exact rd_vb1 m _ hm
  have h2 : rd ((A ++ (vb s ++ (vb m ++ (vb l ++ R)))).drop (A.length + (vb s).length + (vb m).length)) 0 0 = (l, (vb l).length, 0) := by
    rw [← List.drop_drop, ← List.drop_drop, List.drop_left, List.drop_left, List.drop_left]; exact rd_vb1 l _ hl
  exact pr3_ok h0 h1 h2
theorem drop3 (A R : List UInt8) (s m l : Nat) : (A ++ (vb s ++ (vb m ++ (vb l ++ R)))).drop (A.length + (vb s).length + (vb m).length + (vb l).length) = R := by
  rw [← List.drop_drop, ← List.drop_drop, ← List.drop_drop, List.drop_left, List.drop_left, List.drop_left, List.drop_left]
theorem take_com (p k : List UInt8) : p.take (com p k) ++ k.drop (com p k) = k := by rw [com_take p k, List.take_append_drop]
/-- of what is written for an entry, ahead and behind of it whatever stands -/
theorem written (p k v A R : List UInt8) (hp : p.length < 18446744073709551616) (hk : k.length < 18446744073709551616) (hv : v.length < 18446744073709551616) :
    pread p (A ++ (ebytes p (k, v) ++ R)) A.length = if chk (k, v) = 0 ∧ (p.length = 0 ∨ cmp p k < 0) then ((k, v), A.length + (ebytes p (k, v)).length, 0) else pread p (A ++ (ebytes p (k, v) ++ R)) A.length := by
  split
  · rename_i h
    obtain ⟨hc, hr⟩ := h
    have hle := com_le p k
    have e0 : ebytes p (k, v) ++ R = vb (com p k) ++ (vb (k.length - com p k) ++ (vb v.length ++ (k.drop (com p k) ++ (v ++ R)))) := by unfold ebytes; simp
    have e1 : (ebytes p (k, v)).length = (vb (com p k)).length + (vb (k.length - com p k)).length + (vb v.length).length + (k.length - com p k) + v.length := by unfold ebytes; simp; omega
    have h3 := pr3_vbs A (k.drop (com p k) ++ (v ++ R)) (com p k) (k.length - com p k) v.length (by omega) (by omega) (by omega)
    have hd := drop3 A (k.drop (com p k) ++ (v ++ R)) (com p k) (k.length - com p k) v.length
    rw [e0, pread_ok h3]
    have hcN : k.length ≠ 0 ∧ k.length ≤ 64 ∧ v.length ≤ 256 := by
      unfold chk chkN keyN valN at hc
      simp only at hc
      split at hc <;> split at hc <;> simp at hc <;> omega
    have hkd : (k.drop (com p k) ++ (v ++ R)).take (k.length - com p k) = k.drop (com p k) := List.take_left' (by simp)
    have hkey : p.take (com p k) ++ ((A ++ (vb (com p k) ++ (vb (k.length - com p k) ++ (vb v.length ++ (k.drop (com p k) ++ (v ++ R)))))).drop (A.length + (vb (com p k)).length + (vb (k.length - com p k)).length + (vb v.length).length)).take (k.length - com p k) = k := by
      rw [hd, hkd, take_com]
    have hval : ((A ++ (vb (com p k) ++ (vb (k.length - com p k) ++ (vb v.length ++ (k.drop (com p k) ++ (v ++ R)))))).drop (A.length + (vb (com p k)).length + (vb (k.length - com p k)).length + (vb v.length).length + (k.length - com p k))).take v.length = v := by
      rw [← List.drop_drop, hd, List.drop_left' (by simp)]; exact List.take_left' rfl
    have hlen : (A ++ (vb (com p k) ++ (vb (k.length - com p k) ++ (vb v.length ++ (k.drop (com p k) ++ (v ++ R)))))).length - (A.length + (vb (com p k)).length + (vb (k.length - com p k)).length + (vb v.length).length) = (k.length - com p k) + v.length + R.length := by
      simp; omega
    rw [pend_ok (by omega) (by omega) (by rw [hlen]; omega) (by rw [hkey]) (by rw [hkey]; intro h; omega), hkey, hval, e1]
    congr 2
    omega
  · rfl
theorem written_yes {p k v : List UInt8} (A R : List UInt8) (hp : p.length < 18446744073709551616) (hk : k.length < 18446744073709551616) (hv : v.length < 18446744073709551616) (h : chk (k, v) = 0 ∧ (p.length = 0 ∨ cmp p k < 0)) :
    pread p (A ++ (ebytes p (k, v) ++ R)) A.length = ((k, v), A.length + (ebytes p (k, v)).length, 0) := by rw [written p k v A R hp hk hv, if_pos h]
/-- what may not be is not read -/
theorem written_no {p k v : List UInt8} (A R : List UInt8) (hp : p.length < 18446744073709551616) (hk : k.length < 18446744073709551616) (hv : v.length < 18446744073709551616) (h : ¬ (chk (k, v) = 0 ∧ (p.length = 0 ∨ cmp p k < 0))) :
    (pread p (A ++ (ebytes p (k, v) ++ R)) A.length).2.2 ≠ 0 := by
  have hle := com_le p k
  have e0 : ebytes p (k, v) ++ R = vb (com p k) ++ (vb (k.length - com p k) ++ (vb v.length ++ (k.drop (com p k) ++ (v ++ R)))) := by unfold ebytes; simp
  have h3 := pr3_vbs A (k.drop (com p k) ++ (v ++ R)) (com p k) (k.length - com p k) v.length (by omega) (by omega) (by omega)
  have hd := drop3 A (k.drop (com p k) ++ (v ++ R)) (com p k) (k.length - com p k) v.length
  rw [e0, pread_ok h3]
  by_cases hc : 64 < k.length - com p k ∨ 256 < v.length ∨ com p k + (k.length - com p k) = 0 ∨ 64 < com p k + (k.length - com p k)
  · rw [pend_long (by omega) hc]; show (3 : Int) ≠ 0; decide
  · have hkd : (k.drop (com p k) ++ (v ++ R)).take (k.length - com p k) = k.drop (com p k) := List.take_left' (by simp)
    have hkey : p.take (com p k) ++ ((A ++ (vb (com p k) ++ (vb (k.length - com p k) ++ (vb v.length ++ (k.drop (com p k) ++ (v ++ R)))))).drop (A.length + (vb (com p k)).length + (vb (k.length - com p k)).length + (vb v.length).length)).take (k.length - com p k) = k := by
      rw [hd, hkd, take_com]
    have hlen : (A ++ (vb (com p k) ++ (vb (k.length - com p k) ++ (vb v.length ++ (k.drop (com p k) ++ (v ++ R)))))).length - (A.length + (vb (com p k)).length + (vb (k.length - com p k)).length + (vb v.length).length) = (k.length - com p k) + v.length + R.length := by
      simp; omega
    have hz : chk (k, v) = 0 := by
      unfold chk chkN keyN valN
      rw [if_neg (by show ¬ (k.length = 0 ∨ 64 < k.length); omega), if_neg (by show ¬ 256 < v.length; omega)]; rfl
    rw [pend_cmp (by omega) hc (by rw [hlen]; omega) (by rw [hkey]) (by rw [hkey]; refine ⟨?_, ?_⟩ <;> (have := fun x y => h ⟨x, y⟩; have := this hz; omega))]
    show (51 : Int) ≠ 0; decide
/-- what is read is written just so -/
theorem read_back {p b k v : List UInt8} {q : Nat} (hb : b.length < 18446744073709551616) (h : pread p b 0 = ((k, v), q, 0)) : chk (k, v) = 0 ∧ q ≤ b.length ∧ ebytes p (k, v) = b.take q := by
  obtain ⟨⟨x, a3, e⟩, hr⟩ : ∃ R, pr3 b 3 [] 0 = R := ⟨_, rfl⟩
  by_cases he : e = 0
  · subst he
    obtain ⟨⟨s, i, e1⟩, h0⟩ : ∃ R, rd (b.drop 0) 0 0 = R := ⟨_, rfl⟩
    by_cases f1 : e1 = 0
    · subst f1
      obtain ⟨⟨m, j, e2⟩, h1⟩ : ∃ R, rd (b.drop (0 + i)) 0 0 = R := ⟨_, rfl⟩
      by_cases f2 : e2 = 0
      · subst f2
        obtain ⟨⟨l, t, e3⟩, h2⟩ : ∃ R, rd (b.drop (0 + i + j)) 0 0 = R := ⟨_, rfl⟩
        by_cases f3 : e3 = 0
        · subst f3
          have h3 := pr3_ok h0 h1 h2
          rw [pread_ok h3] at h
          obtain ⟨l0, t0, n0⟩ := rd_vbs h0
          obtain ⟨l1, t1, n1⟩ := rd_vbs h1
          obtain ⟨l2, t2, n2⟩ := rd_vbs h2
          have s0 := (rd_in h0).2
          simp only [List.length_drop] at l0 l1 l2
          obtain ⟨z, hz⟩ : ∃ z, 0 + i + j + t = z := ⟨_, rfl⟩
          rw [hz] at h
          have hbz : b.take z = vb s ++ (vb m ++ vb l) := by
            have e1 : z = i + (j + t) := by omega
            rw [e1, List.take_add, List.take_add, ← t0, ← t1, ← t2]
            simp
          by_cases c1 : p.length < s
          · rw [pend_s c1] at h; simp at h
          by_cases c2 : 64 < m ∨ 256 < l ∨ s + m = 0 ∨ 64 < s + m
          · rw [pend_long c1 c2] at h; simp at h
          by_cases c3 : b.length - z < m + l
          · rw [pend_short c1 c2 c3] at h; simp at h
          by_cases c4 : com p (p.take s ++ (b.drop z).take m) = s
          · by_cases c5 : 0 < p.length ∧ 0 ≤ cmp p (p.take s ++ (b.drop z).take m)
            · rw [pend_cmp c1 c2 c3 c4 c5] at h; simp at h
            · rw [pend_ok c1 c2 c3 c4 c5] at h
              simp only [Prod.mk.injEq] at h
              obtain ⟨⟨rfl, rfl⟩, rfl, _⟩ := h
              have lk : (p.take s ++ (b.drop z).take m).length = s + m := by simp; omega
              have lv : ((b.drop (z + m)).take l).length = l := by simp; omega
              refine ⟨?_, by omega, ?_⟩
              · unfold chk chkN keyN valN
                rw [lk, lv, if_neg (by omega), if_neg (by omega)]; rfl
              · unfold ebytes
                simp only
                rw [c4, lk, lv, Nat.add_sub_cancel_left, List.drop_left' (by simp; omega), Nat.add_assoc z m l, List.take_add, List.take_add, hbz, List.drop_drop]
                simp
          · rw [pend_com c1 c2 c3 c4] at h; simp at h
        · rw [pr3_go h0, pr3_go h1, pr3_no h2 f3] at hr
          simp only [Prod.mk.injEq] at hr
          exact absurd hr.2.2 f3
      · rw [pr3_go h0, pr3_no h1 f2] at hr
        simp only [Prod.mk.injEq] at hr
        exact absurd hr.2.2 f2
    · rw [pr3_no h0 f1] at hr
      simp only [Prod.mk.injEq] at hr
      exact absurd hr.2.2 f1
  · rw [pread_no hr he] at h
    simp only [Prod.mk.injEq] at h
    exact absurd h.2.2 he
end Go.Proofs.Yteedjgjkldbbcaa
