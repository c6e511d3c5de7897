/- VintApart: the walk: the law's Go text returns true and writes nothing that was there. Conditions: the numbers fit; the slice within reach. -/
import Derived.Test.YthiebpiohkfjgaaVintReads
import Derived.Test.YthiebpiohkfjgaaVintPut
namespace Go.Proofs.Ythiebpiohkfjgaa
open Go.RowKit

theorem vbytes_any (n : Nat) (w : World) (hn : n < 18446744073709551616) :
    Calls Try.prog 16 #[.int .u64 n] w fun e w' => ∃ v, e = .returned v ∧ OwT fB w' w.heap.size 5 v (vb n) ∧ Below w.heap.size w w' := by
  have HN := Lib.hid hn; clear hn
  go_enter Try.func16, Try.ntmps16
  go_wp2_with fail
  refine (vput_any _ [] w.heap.size n _ (Nat.le_refl _) (by simp) HN.out (OwT.nil _ _ _ _)).mono ?_
  rintro e w' ⟨v, rfl, hv, hb⟩
  go_wp2_with fail
  go_ret
  exact ⟨_, rfl, hv, hb⟩
theorem rd_vb0 (m : Nat) (rest : List UInt8) (hm : m < 18446744073709551616) : rd (vb m ++ rest) 0 0 = (m, (vb m).length, 0) := by
  have := rd_vb m 0 0 rest (by omega) (by omega) (.inl rfl)
  rw [this, Nat.pow_zero, Nat.mul_one, Nat.zero_add, Nat.zero_add]
theorem vb_apart {m n : Nat} (hm : m < 18446744073709551616) (hn : n < 18446744073709551616) (h : m ≠ n) : decide (vb m = (vb n).take (vb m).length) = false :=
  decide_eq_false fun e => h (vb_inj hm hn e)

set_option maxHeartbeats 1000000 in
set_option maxRecDepth 100000 in
theorem vintApart_nat (m n : Nat) (hm : m < 18446744073709551616) (hn : n < 18446744073709551616) (a : Option Addr) (l c : Nat) (xs : List UInt8) (w : World) (hl : l ≤ 140737488351232) (h : Sl Bf w a l c xs) :
    Calls Try.prog 4 #[.int .u64 m, .int .u64 n, .slice a l c] w fun e w' => e = .returned (.bool true) ∧ Below w.heap.size w w' := by
  obtain rfl : l = xs.length := h.len.symm
  have H := Lib.hid h; clear h
  have hrd := rd_vb0 m xs hm
  have hta := vb_ten hm
  have htb := vb_ten hn
  have HM := Lib.hid hm; clear hm
  have HN := Lib.hid hn; clear hn
  obtain ⟨la, hla⟩ : ∃ la, (vb m).length = la := ⟨_, rfl⟩
  obtain ⟨lb, hlb⟩ : ∃ lb, (vb n).length = lb := ⟨_, rfl⟩
  rw [hla] at hrd hta
  rw [hlb] at htb
  have HLA := Lib.hid hla; clear hla
  have HLB := Lib.hid hlb; clear hlb
  have HRD := Lib.hid hrd; clear hrd
  go_enter Try.func4, Try.ntmps4
  go_wp2_with fail
  refine (lives_any _).mono ?_
  rintro e w1 ⟨rfl, hb⟩
  have G := Lib.hid hb; clear hb
  go_wp2_with fail
  refine (vbytes_any m _ HM.out).mono ?_
  rintro e w2 ⟨va, rfl, hva, hb⟩
  replace G := Lib.hid (keep_trans G.out hb); clear hb
  obtain ⟨aa, na, ca, rfl, za⟩ := hva.slN
  obtain rfl : na = la := by rw [← za.len, HLA.out]
  have OA := Lib.hid hva; clear hva za
  go_wp2_with fail
  refine (vbytes_any n _ HN.out).mono ?_
  rintro e w3 ⟨vbb, rfl, hvb, hb⟩
  replace G := Lib.hid (keep_trans G.out hb)
  replace OA := Lib.hid (OA.out.keep hb); clear hb
  obtain ⟨ab, nb, cb, rfl, zb⟩ := hvb.slN
  obtain rfl : nb = lb := by rw [← zb.len, HLB.out]
  have OB := Lib.hid hvb; clear hvb zb
  go_wp2_with (first
    | (at_builtin; refine wpList_appT eltTB rfl (.tmp 20) (.tmp 21) rfl w3.heap.size _ [] (by rfl) (OwT.lit fB _ w3.heap.size _ _ [] 0 rfl rfl (Nat.le_refl _) (Nat.zero_le _)) aa na ca (vb m) (by rfl) (OA.out.slI.keep ((Below.refl _ _).alloc (Nat.le_refl _) _)).toT (by unfold maxLen; simp; omega) (by simp; omega) (by simp) (vb m) rfl ?_; intro v4 w4 h4 hg4 hv4 hb4; have hb4 := ((Below.refl w3.heap.size w3).alloc (Nat.le_refl _) _).trans hb4)
    | (at_builtin; refine wpList_appT eltTB rfl (.tmp 22) (.tmp 23) rfl w3.heap.size _ (vb m) (by rfl) h4 a xs.length c xs (by rfl) ((H.out.keep G.out).keep hb4).toT (by have := HLA.out; unfold maxLen; omega) (by have := HLA.out; omega) hb4.size (vb m ++ xs) rfl ?_; intro v5 w5 h5 hg5 hv5 hb5; obtain ⟨a5, n5, c5, rfl, z5⟩ := h5.slN))
  have hn5 : n5 ≤ 140737488351242 := by rw [← z5.len, List.length_append, HLA.out]; omega
  have Z5 := Lib.hid z5; clear z5 h5
  have BB := Lib.hid (hb4.trans hb5)
  clear h4 hg4 hv4 hb4 hg5 hv5 hb5
  replace G := Lib.hid (keep_trans G.out BB.out)
  replace OA := Lib.hid (OA.out.keep BB.out)
  replace OB := Lib.hid (OB.out.keep BB.out)
  clear BB
  have hv := vread_any _ _ _ (vb m ++ xs) 0 _ (by omega) (Nat.zero_le _) Z5.out
  rw [List.drop_zero, HRD.out] at hv
  refine hv.mono ?_
  rintro e w6 ⟨rfl, hb⟩
  clear hv hn5 Z5
  replace G := Lib.hid (keep_trans G.out hb)
  replace OA := Lib.hid (OA.out.keep hb)
  replace OB := Lib.hid (OB.out.keep hb); clear hb
  rw [show (((0 + na : Nat)) : Int) = (na : Int) by rw [Nat.zero_add]]
  have lea := OA.out.slI.le
  have leb := OB.out.slI.le
  by_cases hmn : m = n
  · subst hmn
    obtain rfl : na = nb := by rw [← HLA.out, ← HLB.out]
    go_wp2_with fail
    refine (same_any _ _ _ (vb m) _ _ _ (vb m) _ (by omega) (by omega) OA.out.slI OB.out.slI).mono ?_
    rintro e w7 ⟨rfl, hb⟩
    replace G := Lib.hid (keep_trans G.out hb); clear hb
    rw [decide_eq_true rfl]
    go_wp2_with fail
    go_ret
    exact ⟨ret_bool rfl, G.out⟩
  · have f1 : ((m : Int) == (n : Int)) = false := by rw [beq_eq_false_iff_ne]; omega
    have f2 : (m == n) = false := by rw [beq_eq_false_iff_ne]; omega
    have hap1 := vb_apart HM.out HN.out hmn
    have hap2 := vb_apart HN.out HM.out (fun e => hmn e.symm)
    rw [HLA.out] at hap1
    rw [HLB.out] at hap2
    have AP1 := Lib.hid hap1; clear hap1
    have AP2 := Lib.hid hap2; clear hap2
    by_cases hlt : (m : Int) < n
    · have hle : na ≤ nb := by rw [← HLA.out, ← HLB.out]; exact vb_len n m (by omega)
      have hgt : ¬ (n : Int) < m := by omega
      have hc := fun (W : World) => run_cutto eltB W ab nb cb .i64 na (by omega)
      clear hmn
      go_wp2_with fail
      refine (same_any _ _ _ (vb m) _ _ _ ((vb n).take na) _ (by omega) (by omega) OA.out.slI (OB.out.slI.upto na hle)).mono ?_
      rintro e w7 ⟨rfl, hb⟩
      replace G := Lib.hid (keep_trans G.out hb); clear hb
      rw [AP1.out]
      go_wp2_with fail
      go_ret
      exact ⟨ret_bool rfl, G.out⟩
    · have hgt : (n : Int) < m := by omega
      have hle : nb ≤ na := by rw [← HLA.out, ← HLB.out]; exact vb_len m n (by omega)
      clear hmn
      by_cases hab : nb < na
      · have hc := fun (W : World) => run_cutto eltB W aa na ca .i64 nb (by omega)
        go_wp2_with fail
        refine (same_any _ _ _ (vb n) _ _ _ ((vb m).take nb) _ (by omega) (by omega) OB.out.slI (OA.out.slI.upto nb hle)).mono ?_
        rintro e w7 ⟨rfl, hb⟩
        replace G := Lib.hid (keep_trans G.out hb); clear hb
        rw [AP2.out]
        go_wp2_with fail
        go_ret
        exact ⟨ret_bool rfl, G.out⟩
      · have hle2 : na ≤ nb := by omega
        have hc := fun (W : World) => run_cutto eltB W ab nb cb .i64 na (by omega)
        go_wp2_with fail
        refine (same_any _ _ _ (vb m) _ _ _ ((vb n).take na) _ (by omega) (by omega) OA.out.slI (OB.out.slI.upto na hle2)).mono ?_
        rintro e w7 ⟨rfl, hb⟩
        replace G := Lib.hid (keep_trans G.out hb); clear hb
        rw [AP1.out]
        go_wp2_with fail
        go_ret
        exact ⟨ret_bool rfl, G.out⟩
theorem vintApart_walk (x y : Int) (hx : 0 ≤ x ∧ x < 18446744073709551616) (hy : 0 ≤ y ∧ y < 18446744073709551616) (a : Option Addr) (l c : Nat) (xs : List UInt8) (w : World) (hl : l ≤ 140737488351232) (h : Sl Bf w a l c xs) :
    Calls Try.prog 4 #[.int .u64 x, .int .u64 y, .slice a l c] w fun e w' => e = .returned (.bool true) ∧ Below w.heap.size w w' := by
  obtain ⟨m, rfl⟩ : ∃ m : Nat, x = m := ⟨x.toNat, by omega⟩
  obtain ⟨n, rfl⟩ : ∃ n : Nat, y = n := ⟨y.toNat, by omega⟩
  exact vintApart_nat m n (by omega) (by omega) a l c xs w hl h
end Go.Proofs.Ythiebpiohkfjgaa
