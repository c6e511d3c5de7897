/- CrcSeals: the walk: the law's Go text returns true and writes nothing that was there. Conditions: the slice within reach. Written by a program of this place (gen_CrcSeals.py). -/
import Derived.Test.YtaablclccklhnaaCrcSums
import Derived.Test.YtaablclccklhnaaCrc3
namespace Go.Proofs.Ytaablclccklhnaa
open Go.RowKit

theorem OwT.slI {w : World} {base : Nat} {e : TypeId} {a : Option Addr} {n c : Nat} {xs : List UInt8} (h : OwT fB w base e (.slice a n c) xs) : Sl Bf w a n c xs := by
  obtain ⟨a', c', hv, hs⟩ := h.slB
  cases hv; exact hs
theorem own_map (a : Option Addr) (n c : Nat) : Value.ownBlock (.slice a n c) = a.map (·.block) := by cases a <;> rfl
theorem other_row {a a' : Option Addr} {n c n' c' l1 h1 l2 h2 : Nat} (hs : ∀ j, Value.ownBlock (.slice a n c) = some j → l1 ≤ j ∧ j < h1) (ht : ∀ j, Value.ownBlock (.slice a' n' c') = some j → l2 ≤ j ∧ j < h2) (h : h1 ≤ l2) :
    Value.ownBlock (.slice a' n' c') = none ∨ a.map (·.block) ≠ Value.ownBlock (.slice a' n' c') := by
  rw [← own_map a n c]
  cases hx : Value.ownBlock (.slice a' n' c') with
  | none => exact .inl rfl
  | some j => exact .inr fun e => by have := hs j e; have := ht j hx; omega
theorem other_row' {a a' : Option Addr} {n c n' c' l1 h1 l2 h2 : Nat} (hs : ∀ j, Value.ownBlock (.slice a n c) = some j → l1 ≤ j ∧ j < h1) (ht : ∀ j, Value.ownBlock (.slice a' n' c') = some j → l2 ≤ j ∧ j < h2) (h : h2 ≤ l1) :
    Value.ownBlock (.slice a' n' c') = none ∨ a.map (·.block) ≠ Value.ownBlock (.slice a' n' c') := by
  rw [← own_map a n c]
  cases hx : Value.ownBlock (.slice a' n' c') with
  | none => exact .inl rfl
  | some j => exact .inr fun e => by have := hs j e; have := ht j hx; omega
theorem OwT.slN {w : World} {base : Nat} {e : TypeId} {v : Value} {xs : List UInt8} (h : OwT fB w base e v xs) : ∃ a n c, v = .slice a n c ∧ Sl Bf w a n c xs := by
  obtain ⟨a, c, hv, hs⟩ := h.slB
  exact ⟨a, _, c, hv, hs⟩
theorem openV_le {xs : List UInt8} {n : Nat} (h : xs.length ≤ 140737488351232) (hn : (openV xs).length = n) : n ≤ 9223372036854775807 := by
  subst hn
  unfold openV
  split
  · simp
  · split
    · simp; omega
    · simp
theorem four_length (s : BitVec 32) : (four s).length = 4 := rfl
theorem four_le {xs : List UInt8} {s : BitVec 32} {n : Nat} (h : xs.length ≤ 140737488351232) (hn : (xs ++ four s).length = n) : n ≤ 9223372036854775807 := by
  subst hn; rw [List.length_append, four_length]; omega
theorem four_le2 {xs : List UInt8} {s : BitVec 32} {n : Nat} (h : xs.length ≤ 140737488351232) (hn : (xs ++ four s).length = n) : n ≤ 140737488351300 := by
  subst hn; rw [List.length_append, four_length]; omega
theorem open_seal (xs : List UInt8) : openE (xs ++ four (sum xs)) = 0 ∧ openV (xs ++ four (sum xs)) = xs := by
  have hl : (xs ++ four (sum xs)).length = xs.length + 4 := by rw [List.length_append, four_length]
  unfold openE openV
  have h4 : ¬ (xs.length + 4 < 4) := by omega
  rw [hl, if_neg h4, if_neg h4, show xs.length + 4 - 4 = xs.length by omega, List.take_left, List.drop_left]
  simp

set_option maxHeartbeats 1000000 in
set_option maxRecDepth 100000 in
theorem crcSeals_walk (a : Option Addr) (n c : Nat) (xs : List UInt8) (w : World) (hn : n ≤ 140737488351232) (h : Sl Bf w a n c xs) :
    Calls Try.prog 6 #[.slice a n c] w fun e w' => e = .returned (.bool true) ∧ Below w.heap.size w w' := by
  obtain rfl : n = xs.length := h.len.symm
  have hn0 := hn
  have H := Lib.hid h; clear h
  go_enter Try.func6, Try.ntmps6
  go_wp2_with fail
  refine (lives_any _).mono ?_
  rintro e w1 ⟨rfl, hb⟩
  have G := Lib.hid hb
  clear hb
  go_wp2_with fail
  refine (lent_any _ _ _ xs _ (by omega) (H.out.keep G.out)).mono ?_
  rintro e w2 ⟨g, rfl, hgs, hL, hb⟩
  have N := Lib.hid hL; clear hL
  have M := Lib.hid (Below.refl w2.heap.size w2)
  replace G := Lib.hid (keep_trans G.out hb)
  clear hb
  have lw2 : w.heap.size ≤ w2.heap.size := G.out.size
  go_wp2_with fail
  refine (seal_any _ _ _ xs _ (by omega) (N.out.keep M.out).sl).mono ?_
  rintro e w3 ⟨s, rfl, hs, hb⟩
  obtain ⟨ads, nns, cps, rfl, zs⟩ := hs.slN; clear zs
  have Os := Lib.hid hs
  have Rs := Lib.hid hs.lt; clear hs
  have lw3 : w2.heap.size ≤ w3.heap.size := hb.size
  replace G := Lib.hid (keep_trans G.out hb)
  replace M := Lib.hid (keep_trans M.out hb)
  clear hb
  go_wp2_with fail
  refine (seal_any _ _ _ xs _ (by omega) (N.out.keep M.out).sl).mono ?_
  rintro e w4 ⟨t, rfl, ht, hb⟩
  obtain ⟨adt, nnt, cpt, rfl, zt⟩ := ht.slN; clear zt
  have Ot := Lib.hid ht
  have Rt := Lib.hid ht.lt; clear ht
  have lw4 : w3.heap.size ≤ w4.heap.size := hb.size
  replace G := Lib.hid (keep_trans G.out hb)
  replace M := Lib.hid (keep_trans M.out hb)
  replace Os := Lib.hid (Os.out.keep hb)
  clear hb
  go_wp2_with fail
  refine (open_any _ _ _ xs _ (by omega) (N.out.keep M.out).sl).mono ?_
  rintro e w5 ⟨o, rfl, ho, hb⟩
  obtain ⟨ado, nno, cpo, rfl, zo⟩ := ho.slN; clear zo
  have Oo := Lib.hid ho
  have Ro := Lib.hid ho.lt; clear ho
  have lw5 : w4.heap.size ≤ w5.heap.size := hb.size
  replace G := Lib.hid (keep_trans G.out hb)
  replace M := Lib.hid (keep_trans M.out hb)
  replace Os := Lib.hid (Os.out.keep hb)
  replace Ot := Lib.hid (Ot.out.keep hb)
  clear hb
  go_wp2_with fail
  refine (open_any _ _ _ xs _ (by omega) (N.out.keep M.out).sl).mono ?_
  rintro e w6 ⟨p, rfl, hp, hb⟩
  obtain ⟨adp, nnp, cpp, rfl, zp⟩ := hp.slN; clear zp
  have Op := Lib.hid hp
  have Rp := Lib.hid hp.lt; clear hp
  have lw6 : w5.heap.size ≤ w6.heap.size := hb.size
  replace G := Lib.hid (keep_trans G.out hb)
  replace M := Lib.hid (keep_trans M.out hb)
  replace Os := Lib.hid (Os.out.keep hb)
  replace Ot := Lib.hid (Ot.out.keep hb)
  replace Oo := Lib.hid (Oo.out.keep hb)
  clear hb
  go_wp2_with fail
  refine (ropen_any _ _ _ xs _ (by omega) (H.out.keep G.out)).mono ?_
  rintro e w7 ⟨q, rfl, hq, hb⟩
  obtain ⟨adq, nnq, cpq, rfl, zq⟩ := hq.slN; clear zq
  have Oq := Lib.hid hq
  have Rq := Lib.hid hq.lt; clear hq
  have lw7 : w6.heap.size ≤ w7.heap.size := hb.size
  replace G := Lib.hid (keep_trans G.out hb)
  replace M := Lib.hid (keep_trans M.out hb)
  replace Os := Lib.hid (Os.out.keep hb)
  replace Ot := Lib.hid (Ot.out.keep hb)
  replace Oo := Lib.hid (Oo.out.keep hb)
  replace Op := Lib.hid (Op.out.keep hb)
  clear hb
  go_wp2_with fail
  refine (kept_any g _ _ _ xs _ (by omega) (N.out.keep M.out) (H.out.keep G.out)).mono ?_
  rintro e w8 ⟨rfl, hb⟩
  replace G := Lib.hid (keep_trans G.out hb)
  replace M := Lib.hid (keep_trans M.out hb)
  replace Os := Lib.hid (Os.out.keep hb)
  replace Ot := Lib.hid (Ot.out.keep hb)
  replace Oo := Lib.hid (Oo.out.keep hb)
  replace Op := Lib.hid (Op.out.keep hb)
  replace Oq := Lib.hid (Oq.out.keep hb)
  clear hb
  go_wp2_with fail
  refine (rseal_any _ _ _ xs _ (by omega) (H.out.keep G.out)).mono ?_
  rintro e w9 ⟨u, rfl, hu, hb⟩
  obtain ⟨au, nu, cu, rfl, zu⟩ := hu.slN; clear hu
  have Zu := Lib.hid zu; clear zu
  replace G := Lib.hid (keep_trans G.out hb)
  replace M := Lib.hid (keep_trans M.out hb)
  replace Os := Lib.hid (Os.out.keep hb)
  replace Ot := Lib.hid (Ot.out.keep hb)
  replace Oo := Lib.hid (Oo.out.keep hb)
  replace Op := Lib.hid (Op.out.keep hb)
  replace Oq := Lib.hid (Oq.out.keep hb)
  clear hb
  go_wp2_with fail
  refine (same_any _ _ _ _ _ _ _ _ _ (four_le hn (Os.out.slI).len) (four_le hn Zu.out.len) (Os.out.slI) Zu.out).mono ?_
  rintro e w10 ⟨rfl, hb⟩
  have hd : decide (xs ++ four (sum xs) = xs ++ four (sum xs)) = true := by simp
  rw [hd]; clear hd Zu
  replace G := Lib.hid (keep_trans G.out hb)
  replace M := Lib.hid (keep_trans M.out hb)
  replace Os := Lib.hid (Os.out.keep hb)
  replace Ot := Lib.hid (Ot.out.keep hb)
  replace Oo := Lib.hid (Oo.out.keep hb)
  replace Op := Lib.hid (Op.out.keep hb)
  replace Oq := Lib.hid (Oq.out.keep hb)
  clear hb
  go_wp2_with fail
  refine (same_any _ _ _ _ _ _ _ _ _ (openV_le hn (Oo.out.slI).len) (openV_le hn (Oq.out.slI).len) (Oo.out.slI) (Oq.out.slI)).mono ?_
  rintro e w11 ⟨rfl, hb⟩
  have hd : decide (openV xs = openV xs) = true := by simp
  rw [hd]; clear hd
  replace G := Lib.hid (keep_trans G.out hb)
  replace M := Lib.hid (keep_trans M.out hb)
  replace Os := Lib.hid (Os.out.keep hb)
  replace Ot := Lib.hid (Ot.out.keep hb)
  replace Oo := Lib.hid (Oo.out.keep hb)
  replace Op := Lib.hid (Op.out.keep hb)
  replace Oq := Lib.hid (Oq.out.keep hb)
  clear hb
  go_wp2_with fail
  refine (spoil_any _ _ _ _ Os.out.capB.2.2 Os.out.soft).mono ?_
  rintro e w12 ⟨rfl, hg⟩
  replace G := Lib.hid (G.out.grown hg G.out.size (fun j hj => by have := (Rs.out j ((own_map _ _ _).trans hj)).1; omega))
  replace M := Lib.hid (M.out.grown hg M.out.size (fun j hj => by have := (Rs.out j ((own_map _ _ _).trans hj)).1; omega))
  replace Ot := Lib.hid (Ot.out.grown hg (other_row Rs.out Rt.out (by omega)))
  replace Oo := Lib.hid (Oo.out.grown hg (other_row Rs.out Ro.out (by omega)))
  replace Op := Lib.hid (Op.out.grown hg (other_row Rs.out Rp.out (by omega)))
  replace Oq := Lib.hid (Oq.out.grown hg (other_row Rs.out Rq.out (by omega)))
  clear hg
  go_wp2_with fail
  refine (spoil_any _ _ _ _ Oo.out.capB.2.2 Oo.out.soft).mono ?_
  rintro e w13 ⟨rfl, hg⟩
  replace G := Lib.hid (G.out.grown hg G.out.size (fun j hj => by have := (Ro.out j ((own_map _ _ _).trans hj)).1; omega))
  replace M := Lib.hid (M.out.grown hg M.out.size (fun j hj => by have := (Ro.out j ((own_map _ _ _).trans hj)).1; omega))
  replace Ot := Lib.hid (Ot.out.grown hg (other_row' Ro.out Rt.out (by omega)))
  replace Op := Lib.hid (Op.out.grown hg (other_row Ro.out Rp.out (by omega)))
  replace Oq := Lib.hid (Oq.out.grown hg (other_row Ro.out Rq.out (by omega)))
  clear hg
  go_wp2_with fail
  refine (kept_any g _ _ _ xs _ (by omega) (N.out.keep M.out) (H.out.keep G.out)).mono ?_
  rintro e w14 ⟨rfl, hb⟩
  replace G := Lib.hid (keep_trans G.out hb)
  replace M := Lib.hid (keep_trans M.out hb)
  replace Ot := Lib.hid (Ot.out.keep hb)
  replace Op := Lib.hid (Op.out.keep hb)
  replace Oq := Lib.hid (Oq.out.keep hb)
  clear hb
  go_wp2_with fail
  refine (rseal_any _ _ _ xs _ (by omega) (H.out.keep G.out)).mono ?_
  rintro e w15 ⟨u, rfl, hu, hb⟩
  obtain ⟨au, nu, cu, rfl, zu⟩ := hu.slN; clear hu
  have Zu := Lib.hid zu; clear zu
  replace G := Lib.hid (keep_trans G.out hb)
  replace M := Lib.hid (keep_trans M.out hb)
  replace Ot := Lib.hid (Ot.out.keep hb)
  replace Op := Lib.hid (Op.out.keep hb)
  replace Oq := Lib.hid (Oq.out.keep hb)
  clear hb
  go_wp2_with fail
  refine (same_any _ _ _ _ _ _ _ _ _ (four_le hn (Ot.out.slI).len) (four_le hn Zu.out.len) (Ot.out.slI) Zu.out).mono ?_
  rintro e w16 ⟨rfl, hb⟩
  have hd : decide (xs ++ four (sum xs) = xs ++ four (sum xs)) = true := by simp
  rw [hd]; clear hd Zu
  replace G := Lib.hid (keep_trans G.out hb)
  replace M := Lib.hid (keep_trans M.out hb)
  replace Ot := Lib.hid (Ot.out.keep hb)
  replace Op := Lib.hid (Op.out.keep hb)
  replace Oq := Lib.hid (Oq.out.keep hb)
  clear hb
  go_wp2_with fail
  refine (same_any _ _ _ _ _ _ _ _ _ (openV_le hn (Op.out.slI).len) (openV_le hn (Oq.out.slI).len) (Op.out.slI) (Oq.out.slI)).mono ?_
  rintro e w17 ⟨rfl, hb⟩
  have hd : decide (openV xs = openV xs) = true := by simp
  rw [hd]; clear hd
  replace G := Lib.hid (keep_trans G.out hb)
  replace M := Lib.hid (keep_trans M.out hb)
  replace Ot := Lib.hid (Ot.out.keep hb)
  replace Op := Lib.hid (Op.out.keep hb)
  replace Oq := Lib.hid (Oq.out.keep hb)
  clear hb
  go_wp2_with fail
  refine (open_any _ _ _ (xs ++ four (sum xs)) _ (four_le2 hn0 (Ot.out.slI).len) (Ot.out.slI)).mono ?_
  rintro e w18 ⟨v, rfl, hv, hb⟩
  rw [(open_seal xs).1]
  rw [(open_seal xs).2] at hv
  obtain ⟨av, nv, cv, rfl, zv⟩ := hv.slN; clear hv
  have Zv := Lib.hid zv; clear zv
  replace G := Lib.hid (keep_trans G.out hb)
  replace M := Lib.hid (keep_trans M.out hb)
  replace Ot := Lib.hid (Ot.out.keep hb)
  replace Op := Lib.hid (Op.out.keep hb)
  replace Oq := Lib.hid (Oq.out.keep hb)
  clear hb
  go_wp2_with fail
  refine (same_any _ _ _ _ _ _ _ _ _ (by have := Zv.out.len; omega) (by omega) Zv.out (H.out.keep G.out)).mono ?_
  rintro e w19 ⟨rfl, hb⟩
  replace G := Lib.hid (keep_trans G.out hb)
  replace M := Lib.hid (keep_trans M.out hb)
  replace Ot := Lib.hid (Ot.out.keep hb)
  replace Op := Lib.hid (Op.out.keep hb)
  replace Oq := Lib.hid (Oq.out.keep hb)
  clear hb
  go_wp2_with fail
  go_ret
  exact ⟨ret_bool (by simp), G.out⟩
end Go.Proofs.Ytaablclccklhnaa
