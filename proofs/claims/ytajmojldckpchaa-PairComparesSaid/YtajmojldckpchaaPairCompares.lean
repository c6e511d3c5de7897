/- PairCompares: the walk: the law's Go text returns true and writes nothing that was there. Conditions: the slices within reach. Written by a program of this place (gen_PairCompares.py). -/
import Derived.Test.YtajmojldckpchaaPairAft
namespace Go.Proofs.Ytajmojldckpchaa
open Go.RowKit

theorem bet_le {xs ys : List UInt8} {n : Nat} (h : ys.length ≤ 140737488351232) (hn : (bet xs ys).length = n) : n ≤ 9223372036854775807 := by
  subst hn; unfold bet
  split
  · rw [List.length_take]; omega
  · simp
theorem aft_le {xs : List UInt8} {n : Nat} (h : xs.length ≤ 140737488351232) (hn : (aftV xs).length = n) : n ≤ 9223372036854775807 := by
  subst hn; unfold aftV
  split
  · rw [List.length_append]; simp; omega
  · split
    · simp
    · unfold bump; rw [List.length_set, List.length_take]; omega

set_option maxHeartbeats 1000000 in
set_option maxRecDepth 100000 in
theorem pairCompares_walk (a : Option Addr) (n c : Nat) (xs : List UInt8) (a' : Option Addr) (n' c' : Nat) (ys : List UInt8) (w : World) (hn : n ≤ 140737488351232) (hn' : n' ≤ 140737488351232) (h : Sl Bf w a n c xs) (h' : Sl Bf w a' n' c' ys) :
    Calls Try.prog 5 #[.slice a n c, .slice a' n' c'] w fun e w' => e = .returned (.bool true) ∧ Below w.heap.size w w' := by
  obtain rfl : n = xs.length := h.len.symm
  obtain rfl : n' = ys.length := h'.len.symm
  have hn0 := hn
  have hn1 := hn'
  have H := Lib.hid h; clear h
  have H' := Lib.hid h'; clear h'
  go_enter Try.func5, Try.ntmps5
  go_wp2_with fail
  refine (lives_any _).mono ?_
  rintro e w1 ⟨rfl, hb⟩
  have G := Lib.hid hb
  clear hb
  go_wp2_with fail
  refine (lent_any _ _ _ xs _ (by omega) (H.out.keep G.out)).mono ?_
  rintro e w2 ⟨g, rfl, hgs, hL, hb⟩
  have N := Lib.hid hL; clear hL
  have M := Lib.hid (Below.refl w2.heap.size w2)
  replace G := Lib.hid (keep_trans G.out hb)
  clear hb
  have lw2 : w.heap.size ≤ w2.heap.size := G.out.size
  go_wp2_with fail
  refine (lent_any _ _ _ ys _ (by omega) (H'.out.keep G.out)).mono ?_
  rintro e w3 ⟨g', rfl, hgs', hL, hb⟩
  have N' := Lib.hid hL; clear hL
  have lw3 : w2.heap.size ≤ w3.heap.size := hb.size
  have M' := Lib.hid (Below.refl w3.heap.size w3)
  replace G := Lib.hid (keep_trans G.out hb)
  replace M := Lib.hid (keep_trans M.out hb)
  clear hb
  go_wp2_with fail
  refine (compare_any _ _ _ xs _ _ _ ys _ (N.out.keep M.out).sl (N'.out.keep M'.out).sl).mono ?_
  rintro e w' ⟨rfl, rfl⟩
  go_wp2_with fail
  refine (common_any _ _ _ xs _ _ _ ys _ (by omega) (by omega) (N.out.keep M.out).sl (N'.out.keep M'.out).sl).mono ?_
  rintro e w4 ⟨rfl, hb⟩
  have lw4 : w3.heap.size ≤ w4.heap.size := hb.size
  replace G := Lib.hid (keep_trans G.out hb)
  replace M := Lib.hid (keep_trans M.out hb)
  replace M' := Lib.hid (keep_trans M'.out hb)
  clear hb
  go_wp2_with fail
  refine (between_any _ _ _ xs _ _ _ ys _ (by omega) (by omega) (N.out.keep M.out).sl (N'.out.keep M'.out).sl).mono ?_
  rintro e w5 ⟨s, rfl, hs, hb⟩
  obtain ⟨ads, nns, cps, rfl, zs⟩ := hs.slN; clear zs
  have Os := Lib.hid hs
  have Rs := Lib.hid hs.lt; clear hs
  have lw5 : w4.heap.size ≤ w5.heap.size := hb.size
  replace G := Lib.hid (keep_trans G.out hb)
  replace M := Lib.hid (keep_trans M.out hb)
  replace M' := Lib.hid (keep_trans M'.out hb)
  clear hb
  go_wp2_with fail
  refine (between_any _ _ _ xs _ _ _ ys _ (by omega) (by omega) (N.out.keep M.out).sl (N'.out.keep M'.out).sl).mono ?_
  rintro e w6 ⟨t, rfl, ht, hb⟩
  obtain ⟨adt, nnt, cpt, rfl, zt⟩ := ht.slN; clear zt
  have Ot := Lib.hid ht
  have Rt := Lib.hid ht.lt; clear ht
  have lw6 : w5.heap.size ≤ w6.heap.size := hb.size
  replace G := Lib.hid (keep_trans G.out hb)
  replace M := Lib.hid (keep_trans M.out hb)
  replace M' := Lib.hid (keep_trans M'.out hb)
  replace Os := Lib.hid (Os.out.keep hb)
  clear hb
  go_wp2_with fail
  refine (rbetween_any _ _ _ xs _ _ _ ys _ (by omega) (by omega) (H.out.keep G.out) (H'.out.keep G.out)).mono ?_
  rintro e w7 ⟨z, rfl, hz, hb⟩
  obtain ⟨adz, nnz, cpz, rfl, zz⟩ := hz.slN; clear zz
  have Oz := Lib.hid hz
  have Rz := Lib.hid hz.lt; clear hz
  have lw7 : w6.heap.size ≤ w7.heap.size := hb.size
  replace G := Lib.hid (keep_trans G.out hb)
  replace M := Lib.hid (keep_trans M.out hb)
  replace M' := Lib.hid (keep_trans M'.out hb)
  replace Os := Lib.hid (Os.out.keep hb)
  replace Ot := Lib.hid (Ot.out.keep hb)
  clear hb
  go_wp2_with fail
  refine (after_any _ _ _ xs _ (by omega) (N.out.keep M.out).sl).mono ?_
  rintro e w8 ⟨k, rfl, hk, hb⟩
  obtain ⟨adk, nnk, cpk, rfl, zk⟩ := hk.slN; clear zk
  have Ok := Lib.hid hk
  have Rk := Lib.hid hk.lt; clear hk
  have lw8 : w7.heap.size ≤ w8.heap.size := hb.size
  replace G := Lib.hid (keep_trans G.out hb)
  replace M := Lib.hid (keep_trans M.out hb)
  replace M' := Lib.hid (keep_trans M'.out hb)
  replace Os := Lib.hid (Os.out.keep hb)
  replace Ot := Lib.hid (Ot.out.keep hb)
  replace Oz := Lib.hid (Oz.out.keep hb)
  clear hb
  go_wp2_with fail
  refine (after_any _ _ _ xs _ (by omega) (N.out.keep M.out).sl).mono ?_
  rintro e w9 ⟨l, rfl, hl, hb⟩
  obtain ⟨adl, nnl, cpl, rfl, zl⟩ := hl.slN; clear zl
  have Ol := Lib.hid hl
  have Rl := Lib.hid hl.lt; clear hl
  have lw9 : w8.heap.size ≤ w9.heap.size := hb.size
  replace G := Lib.hid (keep_trans G.out hb)
  replace M := Lib.hid (keep_trans M.out hb)
  replace M' := Lib.hid (keep_trans M'.out hb)
  replace Os := Lib.hid (Os.out.keep hb)
  replace Ot := Lib.hid (Ot.out.keep hb)
  replace Oz := Lib.hid (Oz.out.keep hb)
  replace Ok := Lib.hid (Ok.out.keep hb)
  clear hb
  go_wp2_with fail
  refine (rafter_any _ _ _ xs _ (by omega) (H.out.keep G.out)).mono ?_
  rintro e w10 ⟨m, rfl, hm, hb⟩
  obtain ⟨adm, nnm, cpm, rfl, zm⟩ := hm.slN; clear zm
  have Om := Lib.hid hm
  have Rm := Lib.hid hm.lt; clear hm
  have lw10 : w9.heap.size ≤ w10.heap.size := hb.size
  replace G := Lib.hid (keep_trans G.out hb)
  replace M := Lib.hid (keep_trans M.out hb)
  replace M' := Lib.hid (keep_trans M'.out hb)
  replace Os := Lib.hid (Os.out.keep hb)
  replace Ot := Lib.hid (Ot.out.keep hb)
  replace Oz := Lib.hid (Oz.out.keep hb)
  replace Ok := Lib.hid (Ok.out.keep hb)
  replace Ol := Lib.hid (Ol.out.keep hb)
  clear hb
  go_wp2_with fail
  refine (same_any _ _ _ _ _ _ _ _ _ (bet_le hn1 (Os.out.slI).len) (bet_le hn1 (Oz.out.slI).len) (Os.out.slI) (Oz.out.slI)).mono ?_
  rintro e w11 ⟨rfl, hb⟩
  have hd : decide (bet xs ys = bet xs ys) = true := by simp
  rw [hd]; clear hd
  replace G := Lib.hid (keep_trans G.out hb)
  replace M := Lib.hid (keep_trans M.out hb)
  replace M' := Lib.hid (keep_trans M'.out hb)
  replace Os := Lib.hid (Os.out.keep hb)
  replace Ot := Lib.hid (Ot.out.keep hb)
  replace Oz := Lib.hid (Oz.out.keep hb)
  replace Ok := Lib.hid (Ok.out.keep hb)
  replace Ol := Lib.hid (Ol.out.keep hb)
  replace Om := Lib.hid (Om.out.keep hb)
  clear hb
  go_wp2_with fail
  refine (same_any _ _ _ _ _ _ _ _ _ (aft_le hn0 (Ok.out.slI).len) (aft_le hn0 (Om.out.slI).len) (Ok.out.slI) (Om.out.slI)).mono ?_
  rintro e w12 ⟨rfl, hb⟩
  have hd : decide (aftV xs = aftV xs) = true := by simp
  rw [hd]; clear hd
  replace G := Lib.hid (keep_trans G.out hb)
  replace M := Lib.hid (keep_trans M.out hb)
  replace M' := Lib.hid (keep_trans M'.out hb)
  replace Os := Lib.hid (Os.out.keep hb)
  replace Ot := Lib.hid (Ot.out.keep hb)
  replace Oz := Lib.hid (Oz.out.keep hb)
  replace Ok := Lib.hid (Ok.out.keep hb)
  replace Ol := Lib.hid (Ol.out.keep hb)
  replace Om := Lib.hid (Om.out.keep hb)
  clear hb
  go_wp2_with fail
  refine (spoil_any _ _ _ _ Os.out.capB.2.2 Os.out.soft).mono ?_
  rintro e w13 ⟨rfl, hg⟩
  replace G := Lib.hid (G.out.grown hg G.out.size (fun j hj => by have := (Rs.out j ((own_map _ _ _).trans hj)).1; omega))
  replace M := Lib.hid (M.out.grown hg M.out.size (fun j hj => by have := (Rs.out j ((own_map _ _ _).trans hj)).1; omega))
  replace M' := Lib.hid (M'.out.grown hg M'.out.size (fun j hj => by have := (Rs.out j ((own_map _ _ _).trans hj)).1; omega))
  replace Ot := Lib.hid (Ot.out.grown hg (other_row Rs.out Rt.out (by omega)))
  replace Oz := Lib.hid (Oz.out.grown hg (other_row Rs.out Rz.out (by omega)))
  replace Ok := Lib.hid (Ok.out.grown hg (other_row Rs.out Rk.out (by omega)))
  replace Ol := Lib.hid (Ol.out.grown hg (other_row Rs.out Rl.out (by omega)))
  replace Om := Lib.hid (Om.out.grown hg (other_row Rs.out Rm.out (by omega)))
  clear hg
  go_wp2_with fail
  refine (spoil_any _ _ _ _ Ok.out.capB.2.2 Ok.out.soft).mono ?_
  rintro e w14 ⟨rfl, hg⟩
  replace G := Lib.hid (G.out.grown hg G.out.size (fun j hj => by have := (Rk.out j ((own_map _ _ _).trans hj)).1; omega))
  replace M := Lib.hid (M.out.grown hg M.out.size (fun j hj => by have := (Rk.out j ((own_map _ _ _).trans hj)).1; omega))
  replace M' := Lib.hid (M'.out.grown hg M'.out.size (fun j hj => by have := (Rk.out j ((own_map _ _ _).trans hj)).1; omega))
  replace Ot := Lib.hid (Ot.out.grown hg (other_row' Rk.out Rt.out (by omega)))
  replace Oz := Lib.hid (Oz.out.grown hg (other_row' Rk.out Rz.out (by omega)))
  replace Ol := Lib.hid (Ol.out.grown hg (other_row Rk.out Rl.out (by omega)))
  replace Om := Lib.hid (Om.out.grown hg (other_row Rk.out Rm.out (by omega)))
  clear hg
  go_wp2_with fail
  refine (same_any _ _ _ _ _ _ _ _ _ (bet_le hn1 (Ot.out.slI).len) (bet_le hn1 (Oz.out.slI).len) (Ot.out.slI) (Oz.out.slI)).mono ?_
  rintro e w15 ⟨rfl, hb⟩
  have hd : decide (bet xs ys = bet xs ys) = true := by simp
  rw [hd]; clear hd
  replace G := Lib.hid (keep_trans G.out hb)
  replace M := Lib.hid (keep_trans M.out hb)
  replace M' := Lib.hid (keep_trans M'.out hb)
  replace Ot := Lib.hid (Ot.out.keep hb)
  replace Oz := Lib.hid (Oz.out.keep hb)
  replace Ol := Lib.hid (Ol.out.keep hb)
  replace Om := Lib.hid (Om.out.keep hb)
  clear hb
  go_wp2_with fail
  refine (same_any _ _ _ _ _ _ _ _ _ (aft_le hn0 (Ol.out.slI).len) (aft_le hn0 (Om.out.slI).len) (Ol.out.slI) (Om.out.slI)).mono ?_
  rintro e w16 ⟨rfl, hb⟩
  have hd : decide (aftV xs = aftV xs) = true := by simp
  rw [hd]; clear hd
  replace G := Lib.hid (keep_trans G.out hb)
  replace M := Lib.hid (keep_trans M.out hb)
  replace M' := Lib.hid (keep_trans M'.out hb)
  replace Ot := Lib.hid (Ot.out.keep hb)
  replace Oz := Lib.hid (Oz.out.keep hb)
  replace Ol := Lib.hid (Ol.out.keep hb)
  replace Om := Lib.hid (Om.out.keep hb)
  clear hb
  go_wp2_with fail
  refine (kept_any g _ _ _ xs _ (by omega) (N.out.keep M.out) (H.out.keep G.out)).mono ?_
  rintro e w17 ⟨rfl, hb⟩
  replace G := Lib.hid (keep_trans G.out hb)
  replace M := Lib.hid (keep_trans M.out hb)
  replace M' := Lib.hid (keep_trans M'.out hb)
  replace Ot := Lib.hid (Ot.out.keep hb)
  replace Oz := Lib.hid (Oz.out.keep hb)
  replace Ol := Lib.hid (Ol.out.keep hb)
  replace Om := Lib.hid (Om.out.keep hb)
  clear hb
  go_wp2_with fail
  refine (kept_any g' _ _ _ ys _ (by omega) (N'.out.keep M'.out) (H'.out.keep G.out)).mono ?_
  rintro e w18 ⟨rfl, hb⟩
  replace G := Lib.hid (keep_trans G.out hb)
  replace M := Lib.hid (keep_trans M.out hb)
  replace M' := Lib.hid (keep_trans M'.out hb)
  replace Ot := Lib.hid (Ot.out.keep hb)
  replace Oz := Lib.hid (Oz.out.keep hb)
  replace Ol := Lib.hid (Ol.out.keep hb)
  replace Om := Lib.hid (Om.out.keep hb)
  clear hb
  go_wp2_with fail
  refine (rcompare_any _ _ _ xs _ _ _ ys _ (by omega) (by omega) (H.out.keep G.out) (H'.out.keep G.out)).mono ?_
  rintro e w19 ⟨rfl, hb⟩
  replace G := Lib.hid (keep_trans G.out hb)
  replace M := Lib.hid (keep_trans M.out hb)
  replace M' := Lib.hid (keep_trans M'.out hb)
  replace Ot := Lib.hid (Ot.out.keep hb)
  replace Oz := Lib.hid (Oz.out.keep hb)
  replace Ol := Lib.hid (Ol.out.keep hb)
  replace Om := Lib.hid (Om.out.keep hb)
  clear hb
  go_wp2_with fail
  refine (rcommon_any _ _ _ xs _ _ _ ys _ (by omega) (by omega) (H.out.keep G.out) (H'.out.keep G.out)).mono ?_
  rintro e w20 ⟨rfl, hb⟩
  replace G := Lib.hid (keep_trans G.out hb)
  replace M := Lib.hid (keep_trans M.out hb)
  replace M' := Lib.hid (keep_trans M'.out hb)
  replace Ot := Lib.hid (Ot.out.keep hb)
  replace Oz := Lib.hid (Oz.out.keep hb)
  replace Ol := Lib.hid (Ol.out.keep hb)
  replace Om := Lib.hid (Om.out.keep hb)
  clear hb
  go_wp2_with fail
  go_ret
  exact ⟨ret_bool (by simp), G.out⟩
end Go.Proofs.Ytajmojldckpchaa
