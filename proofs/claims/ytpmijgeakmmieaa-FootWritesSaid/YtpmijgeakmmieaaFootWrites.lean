/- FootWrites: the walk. Conditions: the rows within reach. -/
import Derived.Test.YtpmijgeakmmieaaFootKept
namespace Go.Proofs.Ytpmijgeakmmieaa
open Go.RowKit

set_option maxHeartbeats 2000000 in
set_option maxRecDepth 100000 in
theorem footWrites_walk (a : Option Addr) (n c : Nat) (rs : List Row) (w : World) (hn : n ≤ 2932031007317) (hf : FitR 140737488351232 rs) (h : Spans w a n c rs) :
    Calls Try.prog 3 #[.slice a n c] w fun e w' => e = .returned (.bool true) ∧ Below w.heap.size w w' := by
  obtain rfl : n = rs.length := h.1.symm
  have HF := Lib.hid hf; clear hf
  have S := Lib.hid ((Stab.spans h).and (Stab.below (Below.refl w.heap.size w))); clear h
  obtain ⟨eb, heb⟩ : ∃ eb, fbs rs = eb := ⟨_, rfl⟩
  have hl : eb.length ≤ 873000000 := by
    rw [← heb]
    by_cases hz : (fchk rs).2 = 0
    · rw [fbs_yes hz]; exact fbytes_len hz
    · rw [fbs_no hz]; simp
  have HEB := Lib.hid heb; clear heb
  obtain ⟨⟨r0, r1⟩, hr⟩ : ∃ R, fchk rs = R := ⟨_, rfl⟩
  have HR := Lib.hid hr; clear hr
  go_enter Try.func3, Try.ntmps3
  go_wp2_with fail
  refine (lives_any _).mono ?_
  rintro e w1 ⟨rfl, hb⟩
  replace S := Lib.hid (S.out.keep hb); clear hb
  go_wp2_with fail
  refine (rows_any a rs.length c rs w1 hn HF.out S.out.now.1).mono ?_
  rintro e w2 ⟨a2, c2, rfl, hR, hb⟩
  replace S := Lib.hid ((S.out.keep hb).and (show Stab w2 (fun W => Rws W w1.heap.size w2.heap.size a2 rs.length c2 rs ∧ w2.heap.size ≤ W.heap.size) from fun W hb => ⟨hR.keep hb (Nat.le_refl _), hb.size⟩))
  clear hb hR
  go_wp2_with fail
  have HC := fcheck_any a2 rs.length c2 rs w2 (by omega) HF.out S.out.now.2.1.spans
  rw [HR.out] at HC
  refine HC.mono ?_
  rintro e w3 ⟨rfl, hb⟩
  replace S := Lib.hid (S.out.keep hb); clear hb HC
  go_wp2_with fail
  have HC := frcheck_any a rs.length c rs w3 (by omega) HF.out S.out.now.1.1
  rw [HR.out] at HC
  refine HC.mono ?_
  rintro e w4 ⟨rfl, hb⟩
  replace S := Lib.hid (S.out.keep hb); clear hb HC
  go_wp2_with fail
  have HC := ffbytes_any a2 rs.length c2 rs w4 (by omega) HF.out S.out.now.2.1.spans
  rw [HR.out, HEB.out] at HC
  refine HC.mono ?_
  rintro e w5 ⟨_, rfl, ho, hb⟩
  obtain ⟨aA, nA, cA, rfl, zA⟩ := ho.slN
  obtain rfl : eb.length = nA := zA.len
  have B := Lib.hid hb
  have LA := Lib.hid ho.lt
  have OA := Lib.hid ho; clear ho zA hb HC
  go_wp2_with fail
  have HC := ffbytes_any a2 rs.length c2 rs w5 (by omega) HF.out (S.out.keep B.out).now.2.1.spans
  rw [HR.out, HEB.out] at HC
  refine HC.mono ?_
  rintro e w6 ⟨_, rfl, ho, hb⟩
  obtain ⟨aB, nB, cB, rfl, zB⟩ := ho.slN
  obtain rfl : eb.length = nB := zB.len
  have s5 := B.out.size
  have s6 := hb.size
  replace B := Lib.hid (keep_trans B.out hb)
  replace OA := Lib.hid (OA.out.keep hb)
  have LB := Lib.hid ho.lt
  have OB := Lib.hid ho; clear ho zB hb HC
  go_wp2_with fail
  have HC := frbytes_any a rs.length c rs w6 (by omega) HF.out (S.out.keep B.out).now.1.1
  rw [HR.out, HEB.out] at HC
  refine HC.mono ?_
  rintro e w7 ⟨_, rfl, ho, hb⟩
  obtain ⟨aW, nW, cW, rfl, zW⟩ := ho.slN
  obtain rfl : eb.length = nW := zW.len
  have s7 := hb.size
  replace B := Lib.hid (keep_trans B.out hb)
  replace OA := Lib.hid (OA.out.keep hb)
  replace OB := Lib.hid (OB.out.keep hb)
  have LW := Lib.hid ho.lt
  have OW := Lib.hid ho; clear ho zW hb HC
  go_wp2_with fail
  refine (same_any _ _ _ eb _ _ _ eb _ (by omega) (by omega) OA.out.slI OW.out.slI).mono ?_
  rintro e w8 ⟨rfl, hb⟩
  rw [decide_eq_true rfl]
  have s8 := hb.size
  replace B := Lib.hid (keep_trans B.out hb)
  replace OA := Lib.hid (OA.out.keep hb)
  replace OB := Lib.hid (OB.out.keep hb)
  replace OW := Lib.hid (OW.out.keep hb)
  clear hb
  go_wp2_with fail
  refine (spoil_any _ _ _ _ OA.out.capB.2.2 OA.out.soft).mono ?_
  rintro e w9 ⟨rfl, hg⟩
  have s9 := hg.size
  have hrow : ∀ j, aA.map (·.block) = some j → w4.heap.size ≤ j ∧ j < w5.heap.size := fun j hj => LA.out j (by rw [own_map]; exact hj)
  replace B := Lib.hid (B.out.grown hg B.out.size (fun j hj => (hrow j hj).1))
  replace OB := Lib.hid (OB.out.grown hg (other_row LA.out LB.out (by omega)))
  replace OW := Lib.hid (OW.out.grown hg (other_row LA.out LW.out (by omega)))
  clear OA hrow hg LA LB LW
  go_wp2_with fail
  refine (same_any _ _ _ eb _ _ _ eb _ (by omega) (by omega) OB.out.slI OW.out.slI).mono ?_
  rintro e w10 ⟨rfl, hb⟩
  rw [decide_eq_true rfl]
  replace B := Lib.hid (keep_trans B.out hb)
  replace S := Lib.hid (S.out.keep B.out)
  clear hb OB OW B
  go_wp2_with fail
  refine (keptRows_any a2 rs.length c2 a c rs _ _ w10 hn HF.out S.out.now.2.1 S.out.now.2.2 S.out.now.1.1).mono ?_
  rintro e w11 ⟨rfl, hb⟩
  have FB := Lib.hid (S.out.keep hb).now.1.2
  clear hb
  go_wp2_with fail
  go_ret
  exact ⟨ret_bool (by simp), FB.out⟩
end Go.Proofs.Ytpmijgeakmmieaa
