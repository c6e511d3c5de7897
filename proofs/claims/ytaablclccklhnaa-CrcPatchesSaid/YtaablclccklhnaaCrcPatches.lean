/- CrcPatches: the walk: the law's Go text returns true and writes nothing that was there. Conditions: the slice within reach. Written by a program of this place (gen_CrcPatches.py). -/
import Derived.Test.YtaablclccklhnaaCrcRPatch
namespace Go.Proofs.Ytaablclccklhnaa
open Go.RowKit

theorem put4_le {xs : List UInt8} {m n : Nat} {q : BitVec 32} (hm : m + 4 ≤ xs.length) (h : xs.length ≤ 140737488351232) (hn : (put4 xs m q).length = n) : n ≤ 9223372036854775807 := by
  subst hn; rw [put4_length xs m q hm]; omega
theorem Sl.none0 (w : World) : Sl Bf w none 0 0 [] := ⟨rfl, Nat.le_refl _, fun _ => rfl, by simp⟩

set_option maxHeartbeats 1000000 in
set_option maxRecDepth 100000 in
theorem crcPatches_bad (a : Option Addr) (n c : Nat) (xs : List UInt8) (x : Int) (hx : x < 0 ∨ n < 4 ∨ (n : Int) - 4 < x) (want : BitVec 32) (w : World) (hn : n ≤ 140737488351232) (h : Sl Bf w a n c xs) :
    Calls Try.prog 8 #[.slice a n c, .int .i64 x, .int .u32 (U want)] w fun e w' => e = .returned (.bool true) ∧ Below w.heap.size w w' := by
  obtain rfl : n = xs.length := h.len.symm
  have hn0 := hn
  have H := Lib.hid h; clear h
  go_enter Try.func8, Try.ntmps8
  go_wp2_with fail
  refine (lives_any _).mono ?_
  rintro e w1 ⟨rfl, hb⟩
  have G := Lib.hid hb
  clear hb
  go_wp2_with fail
  refine (lent_any _ _ _ xs _ (by omega) (H.out.keep G.out)).mono ?_
  rintro e w2 ⟨g, rfl, hgs, hL, hb⟩
  have N := Lib.hid hL; clear hL
  have M := Lib.hid (Below.refl w2.heap.size w2)
  replace G := Lib.hid (keep_trans G.out hb)
  clear hb
  go_wp2_with fail
  refine (patch_bad _ _ _ x want _ (by omega) hx).mono ?_
  rintro e w' ⟨rfl, rfl⟩
  go_wp2_with fail
  refine (patch_bad _ _ _ x want _ (by omega) hx).mono ?_
  rintro e w' ⟨rfl, rfl⟩
  go_wp2_with fail
  refine (rpatch_bad _ _ _ x want _ (by omega) hx).mono ?_
  rintro e w' ⟨rfl, rfl⟩
  go_wp2_with fail
  refine (same_any _ _ _ _ _ _ _ _ _ (by omega) (by omega) (Sl.none0 _) (Sl.none0 _)).mono ?_
  rintro e w3 ⟨rfl, hb⟩
  have hd : decide (([] : List UInt8) = []) = true := by simp
  rw [hd]; clear hd
  replace G := Lib.hid (keep_trans G.out hb)
  replace M := Lib.hid (keep_trans M.out hb)
  clear hb
  go_wp2_with fail
  refine (spoil_any none 0 0 _ (by omega) (fun i hi => absurd hi (by omega))).mono ?_
  rintro e w4 ⟨rfl, hg⟩
  replace G := Lib.hid (G.out.grown hg G.out.size (fun j hj => by cases hj))
  replace M := Lib.hid (M.out.grown hg M.out.size (fun j hj => by cases hj))
  clear hg
  go_wp2_with fail
  refine (same_any _ _ _ _ _ _ _ _ _ (by omega) (by omega) (Sl.none0 _) (Sl.none0 _)).mono ?_
  rintro e w5 ⟨rfl, hb⟩
  have hd : decide (([] : List UInt8) = []) = true := by simp
  rw [hd]; clear hd
  replace G := Lib.hid (keep_trans G.out hb)
  replace M := Lib.hid (keep_trans M.out hb)
  clear hb
  go_wp2_with fail
  refine (kept_any g _ _ _ xs _ (by omega) (N.out.keep M.out) (H.out.keep G.out)).mono ?_
  rintro e w6 ⟨rfl, hb⟩
  replace G := Lib.hid (keep_trans G.out hb)
  replace M := Lib.hid (keep_trans M.out hb)
  clear hb
  go_wp2_with fail
  go_ret
  exact ⟨ret_bool (by simp), G.out⟩

set_option maxHeartbeats 1000000 in
set_option maxRecDepth 100000 in
theorem crcPatches_good (a : Option Addr) (n c : Nat) (xs : List UInt8) (m : Nat) (hm : m + 4 ≤ n) (want : BitVec 32) (w : World) (hn : n ≤ 140737488351232) (h : Sl Bf w a n c xs) :
    Calls Try.prog 8 #[.slice a n c, .int .i64 m, .int .u32 (U want)] w fun e w' => e = .returned (.bool true) ∧ Below w.heap.size w w' := by
  obtain rfl : n = xs.length := h.len.symm
  have hn0 := hn
  have H := Lib.hid h; clear h
  go_enter Try.func8, Try.ntmps8
  go_wp2_with fail
  refine (lives_any _).mono ?_
  rintro e w1 ⟨rfl, hb⟩
  have G := Lib.hid hb
  clear hb
  go_wp2_with fail
  refine (lent_any _ _ _ xs _ (by omega) (H.out.keep G.out)).mono ?_
  rintro e w2 ⟨g, rfl, hgs, hL, hb⟩
  have N := Lib.hid hL; clear hL
  have M := Lib.hid (Below.refl w2.heap.size w2)
  replace G := Lib.hid (keep_trans G.out hb)
  clear hb
  have lw2 : w.heap.size ≤ w2.heap.size := G.out.size
  go_wp2_with fail
  refine (patch_any _ _ _ xs m want _ (by omega) hm (N.out.keep M.out).sl).mono ?_
  rintro e w3 ⟨x, qx, rfl, hx, hsx, hb⟩
  obtain ⟨adx, nnx, cpx, rfl, zx⟩ := hx.slN; clear zx
  have Ox := Lib.hid hx
  have Rx := Lib.hid hx.lt; clear hx
  have Sx := Lib.hid hsx; clear hsx
  have lw3 : w2.heap.size ≤ w3.heap.size := hb.size
  replace G := Lib.hid (keep_trans G.out hb)
  replace M := Lib.hid (keep_trans M.out hb)
  clear hb
  go_wp2_with fail
  refine (patch_any _ _ _ xs m want _ (by omega) hm (N.out.keep M.out).sl).mono ?_
  rintro e w4 ⟨y, qy, rfl, hy, hsy, hb⟩
  obtain ⟨ady, nny, cpy, rfl, zy⟩ := hy.slN; clear zy
  have Oy := Lib.hid hy
  have Ry := Lib.hid hy.lt; clear hy
  have Sy := Lib.hid hsy; clear hsy
  have lw4 : w3.heap.size ≤ w4.heap.size := hb.size
  replace G := Lib.hid (keep_trans G.out hb)
  replace M := Lib.hid (keep_trans M.out hb)
  replace Ox := Lib.hid (Ox.out.keep hb)
  clear hb
  go_wp2_with fail
  refine (rpatch_any _ _ _ xs m want _ (by omega) hm (H.out.keep G.out)).mono ?_
  rintro e w5 ⟨z, qz, rfl, hz, hsz, hb⟩
  obtain ⟨adz, nnz, cpz, rfl, zz⟩ := hz.slN; clear zz
  have Oz := Lib.hid hz
  have Rz := Lib.hid hz.lt; clear hz
  have Sz := Lib.hid hsz; clear hsz
  have lw5 : w4.heap.size ≤ w5.heap.size := hb.size
  replace G := Lib.hid (keep_trans G.out hb)
  replace M := Lib.hid (keep_trans M.out hb)
  replace Ox := Lib.hid (Ox.out.keep hb)
  replace Oy := Lib.hid (Oy.out.keep hb)
  clear hb
  obtain rfl : qx = qz := put4_inj xs m (Sx.out.trans Sz.out.symm)
  obtain rfl : qy = qx := put4_inj xs m (Sy.out.trans Sz.out.symm)
  go_wp2_with fail
  refine (same_any _ _ _ _ _ _ _ _ _ (put4_le hm hn (Ox.out.slI).len) (put4_le hm hn (Oz.out.slI).len) (Ox.out.slI) (Oz.out.slI)).mono ?_
  rintro e w6 ⟨rfl, hb⟩
  have hd : decide (put4 xs m qy = put4 xs m qy) = true := by simp
  rw [hd]; clear hd
  replace G := Lib.hid (keep_trans G.out hb)
  replace M := Lib.hid (keep_trans M.out hb)
  replace Ox := Lib.hid (Ox.out.keep hb)
  replace Oy := Lib.hid (Oy.out.keep hb)
  replace Oz := Lib.hid (Oz.out.keep hb)
  clear hb
  go_wp2_with fail
  refine (spoil_any _ _ _ _ Ox.out.capB.2.2 Ox.out.soft).mono ?_
  rintro e w7 ⟨rfl, hg⟩
  replace G := Lib.hid (G.out.grown hg G.out.size (fun j hj => by have := (Rx.out j ((own_map _ _ _).trans hj)).1; omega))
  replace M := Lib.hid (M.out.grown hg M.out.size (fun j hj => by have := (Rx.out j ((own_map _ _ _).trans hj)).1; omega))
  replace Oy := Lib.hid (Oy.out.grown hg (other_row Rx.out Ry.out (by omega)))
  replace Oz := Lib.hid (Oz.out.grown hg (other_row Rx.out Rz.out (by omega)))
  clear hg
  go_wp2_with fail
  refine (same_any _ _ _ _ _ _ _ _ _ (put4_le hm hn (Oy.out.slI).len) (put4_le hm hn (Oz.out.slI).len) (Oy.out.slI) (Oz.out.slI)).mono ?_
  rintro e w8 ⟨rfl, hb⟩
  have hd : decide (put4 xs m qy = put4 xs m qy) = true := by simp
  rw [hd]; clear hd
  replace G := Lib.hid (keep_trans G.out hb)
  replace M := Lib.hid (keep_trans M.out hb)
  replace Oy := Lib.hid (Oy.out.keep hb)
  replace Oz := Lib.hid (Oz.out.keep hb)
  clear hb
  go_wp2_with fail
  refine (kept_any g _ _ _ xs _ (by omega) (N.out.keep M.out) (H.out.keep G.out)).mono ?_
  rintro e w9 ⟨rfl, hb⟩
  replace G := Lib.hid (keep_trans G.out hb)
  replace M := Lib.hid (keep_trans M.out hb)
  replace Oy := Lib.hid (Oy.out.keep hb)
  replace Oz := Lib.hid (Oz.out.keep hb)
  clear hb
  go_wp2_with fail
  go_ret
  exact ⟨ret_bool (by simp), G.out⟩

theorem crcPatches_walk (a : Option Addr) (n c : Nat) (xs : List UInt8) (x : Int) (want : BitVec 32) (w : World) (hn : n ≤ 140737488351232) (h : Sl Bf w a n c xs) :
    Calls Try.prog 8 #[.slice a n c, .int .i64 x, .int .u32 (U want)] w fun e w' => e = .returned (.bool true) ∧ Below w.heap.size w w' := by
  by_cases hx : x < 0 ∨ n < 4 ∨ (n : Int) - 4 < x
  · exact crcPatches_bad a n c xs x hx want w hn h
  · obtain ⟨m, rfl⟩ : ∃ m : Nat, x = m := ⟨x.toNat, by omega⟩
    exact crcPatches_good a n c xs m (by omega) want w hn h
end Go.Proofs.Ytaablclccklhnaa
