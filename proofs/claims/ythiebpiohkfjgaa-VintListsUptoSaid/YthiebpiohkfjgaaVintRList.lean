/- List, the reference's: contract. Condition: the numbers within reach. -/
import Derived.Test.YthiebpiohkfjgaaVintList
import Derived.Test.YthiebpiohkfjgaaVintRRead
namespace Go.Proofs.Ythiebpiohkfjgaa
open Go.RowKit

set_option maxHeartbeats 1000000 in
theorem vrlist_any (a : Option Addr) (c : Nat) (b : List UInt8) (w : World) (hn : b.length ≤ 140737488351232) (hm : (nums b).length ≤ 20000000000000) (h : Sl Bf w a b.length c b) :
    Calls Try.prog 30 #[.slice a b.length c] w fun e w' => ∃ v, e = .returned (.tuple #[v, .int .i64 (lst b).2.1, .int .i64 ((lst b).2.2 : Nat)]) ∧ OwT fN w' w.heap.size 26 v (lst b).1 ∧ Below w.heap.size w w' := by
  have H := Lib.hid h; clear h
  have hlst : ∀ pre f k, Left b pre k f → numsF b f k = [] → b.length ≤ k → lst b = (pre.map (·.2), 0, 0) := by
    intro pre f k hL hn hk
    have h1 := hL.done hn; have h2 := hL.at_; have h3 := hL.le
    rw [h1] at h2
    unfold lst; rw [if_pos (by omega), h1]
  have hlst2 : ∀ pre f k n j e, Left b pre k f → k < b.length → rd (b.drop k) 0 0 = (n, j, e) → e ≠ 0 → lst b = ([], e, k + j) := by
    intro pre f k n j e hL hk hr he
    have h1 := hL.done (numsF_no hr he); have h2 := hL.at_
    rw [h1] at h2
    unfold lst; rw [if_neg (by omega), ← h2, hr]
  have L1 := Lib.hid hlst; clear hlst
  have L2 := Lib.hid hlst2; clear hlst2
  go_enter Try.func30, Try.ntmps30
  go_wp2_with fail
  go_loopw [5, 6] (fun s i wr => ∃ (k f : Nat) (pre : List (Nat × Nat)), i = .int .i64 k ∧ Left b pre k f ∧ OwT fN wr w.heap.size 26 s (pre.map (·.2)) ∧ Below w.heap.size w wr) (fun _ i _ => b.length - (intOf i).toNat)
  case atStart => exact ⟨0, _, [], rfl, Left.start b, OwT.nil _ _ _ _, Below.refl _ _⟩
  case round =>
    obtain ⟨k, f, pre, rfl, hL, ho, hb⟩ := hrel
    have L := Lib.hid hL; clear hL
    have O := Lib.hid ho; clear ho
    have B := Lib.hid hb; clear hb
    have hsz := B.out.size
    by_cases hlt : k < b.length
    · obtain ⟨⟨v, j, e⟩, hr⟩ : ∃ R, rd (b.drop k) 0 0 = R := ⟨_, rfl⟩
      have hv := rread_any _ _ _ b k wr (by omega) (by omega) (H.out.keep B.out)
      rw [hr] at hv
      dsimp only at hv
      have HV := Lib.hid hv; clear hv
      by_cases he : e = 0
      · subst he
        obtain ⟨f', rfl, hL'⟩ := L.out.go hlt hr
        have hpl : (pre.map (·.2)).length + 1 ≤ 20000000000000 := by
          have h2 := hL'.pre.length_le
          simp at h2 ⊢; omega
        have hj1 : 1 ≤ j := by have := (rd_vbs hr).2.2; have := vb_pos v; omega
        have hkj := hL'.le
        have L' := Lib.hid hL'; clear hL' hr
        have PL := Lib.hid hpl; clear hpl
        go_wp2_with fail
        refine HV.out.mono ?_
        rintro e2 w' ⟨rfl, rfl⟩
        go_wp2_with (at_builtin; refine wpList_appG eltTN rfl _ _ rfl w.heap.size _ (pre.map (·.2)) (by rfl) (O.out.alloc _) _ 1 1 [v] (by rfl) (Sl.lit _ _ _ _ _ rfl rfl).toT (by have := PL.out; unfold maxLen; omega) (by have := PL.out; exact .wide (by omega)) (Nat.le_trans hsz (by simp)) ((pre ++ [(k, v)]).map (·.2)) (by simp) ?_; intro v5 w5 h5 hg5 hv5 hb5; have O5 := Lib.hid h5; have B5 := Lib.hid ((B.out.alloc hsz _).trans hb5); clear h5 hg5 hv5 hb5)
        go_roundw
        case rel => exact ⟨k + j, f', _, by go_num, L'.out, O5.out, B5.out⟩
        case measure => simp [intOf]; omega
      · have f1 : (e != 0) = true := by rw [bne_iff_ne]; exact he
        have HL := Lib.hid (L2.out _ _ _ _ _ _ L.out hlt hr he); clear hr he
        go_wp2_with fail
        refine HV.out.mono ?_
        rintro e2 w' ⟨rfl, rfl⟩
        go_wp2_with fail
        go_ret3
        exact ⟨_, by rw [HL.out]; rfl, by rw [HL.out]; exact OwT.nil _ _ _ _, B.out⟩
    · have HL := Lib.hid (L1.out _ _ _ L.out (numsF_end (by omega)) (by omega))
      go_wp2_with fail
      go_ret3
      exact ⟨_, by rw [HL.out]; rfl, by rw [HL.out]; exact O.out, B.out⟩
end Go.Proofs.Ythiebpiohkfjgaa
