/- PairNames: the walk. No condition. Written by a program of this place (gen_PairNames.py). -/
import Derived.Test.YtajmojldckpchaaPairReads
import Derived.Test.YtajmojldckpchaaPairBytes
namespace Go.Proofs.Ytajmojldckpchaa
open Go.RowKit

theorem nm_b : ebytes [97, 98, 99] ([97, 98, 120], [49, 50]) = [2, 1, 2, 120, 49, 50] := by
  unfold ebytes
  rw [show com [97, 98, 99] ([97, 98, 120], [49, 50]).1 = 2 by decide]
  show vb 2 ++ vb 1 ++ vb 2 ++ [120] ++ [49, 50] = _
  rw [vb_lt (by decide), vb_lt (by decide)]; rfl
theorem nm_1 : erd [97, 98] [2, 1, 2, 120, 49, 50] 0 = (([97, 98, 120], [49, 50]), 6, 0) := by decide +kernel
theorem nm_2 : erd [97, 98, 120] [2, 1, 2, 120, 49, 50] 0 = (([], []), 0, 52) := by decide +kernel
theorem nm_3 : erd [98] [0, 1, 0, 97] 0 = (([], []), 0, 51) := by decide +kernel
theorem nm_4 : erd [] [0, 1, 5, 97] 0 = (([], []), 4, 53) := by decide +kernel
theorem nm_5 : erd [] [0, 0, 0] 0 = (([], []), 0, 3) := by decide +kernel
theorem nm_6 : bet [97, 98, 99] [97, 98, 120] = [97, 98, 120] ∧ betE [97, 98, 99] [97, 98, 120] = 0 := by decide +kernel
theorem nm_7 : bet [98] [97] = [] ∧ betE [98] [97] = 51 := by decide +kernel
theorem keyN0 : keyN 0 = 3 := rfl

set_option maxHeartbeats 4000000 in
set_option maxRecDepth 100000 in
theorem pairNames_walk (w : World) : Calls Try.prog 9 #[] w fun e w' => e = .returned (.bool true) ∧ Below w.heap.size w w' := by
  have kc := fun (w : World) (C : Array Value) (n c : Nat) => Lib.run_convert_bytes_const (P := Try.prog) w 22 5 C n c Try.underlying22 Try.underlying5
  have kc2 := conv2
  go_enter Try.func9, Try.ntmps9
  go_wp2_with fail
  refine (lives_any _).mono ?_
  rintro e w1 ⟨rfl, hb⟩
  have G := Lib.hid hb; clear hb
  have hba : Below w1.heap.size w1 (((w1.alloc (.cells #[.int .u8 97, .int .u8 98, .int .u8 120] 5 (3, 4))).alloc (.cells #[.int .u8 49, .int .u8 50] 5 (2, 3))).alloc (.cells #[.slice (some ⟨w1.heap.size, 0, none⟩) 3 3, .slice (some ⟨w1.heap.size + 1, 0, none⟩) 2 2] 29)) := (((Below.refl w1.heap.size w1).alloc (Nat.le_refl _) (.cells #[.int .u8 97, .int .u8 98, .int .u8 120] 5 (3, 4))).alloc (by simp) (.cells #[.int .u8 49, .int .u8 50] 5 (2, 3))).alloc (by simp; omega) (.cells #[.slice (some ⟨w1.heap.size, 0, none⟩) 3 3, .slice (some ⟨w1.heap.size + 1, 0, none⟩) 2 2] 29)
  have hh0 := heap_new w1 (.cells #[.int .u8 97, .int .u8 98, .int .u8 120] 5 (3, 4))
  replace hh0 := (show (((w1.alloc (.cells #[.int .u8 97, .int .u8 98, .int .u8 120] 5 (3, 4))).alloc (.cells #[.int .u8 49, .int .u8 50] 5 (2, 3))).alloc (.cells #[.slice (some ⟨w1.heap.size, 0, none⟩) 3 3, .slice (some ⟨w1.heap.size + 1, 0, none⟩) 2 2] 29)).heap[w1.heap.size]? = _ from ((((Below.refl (w1.alloc (.cells #[.int .u8 97, .int .u8 98, .int .u8 120] 5 (3, 4))).heap.size (w1.alloc (.cells #[.int .u8 97, .int .u8 98, .int .u8 120] 5 (3, 4)))).alloc (Nat.le_refl _) (.cells #[.int .u8 49, .int .u8 50] 5 (2, 3))).alloc (by simp) (.cells #[.slice (some ⟨w1.heap.size, 0, none⟩) 3 3, .slice (some ⟨w1.heap.size + 1, 0, none⟩) 2 2] 29)).block _ (by simp)).trans hh0)
  have hh1 := heap_new (w1.alloc (.cells #[.int .u8 97, .int .u8 98, .int .u8 120] 5 (3, 4))) (.cells #[.int .u8 49, .int .u8 50] 5 (2, 3))
  rw [World.size_alloc] at hh1
  replace hh1 := (show (((w1.alloc (.cells #[.int .u8 97, .int .u8 98, .int .u8 120] 5 (3, 4))).alloc (.cells #[.int .u8 49, .int .u8 50] 5 (2, 3))).alloc (.cells #[.slice (some ⟨w1.heap.size, 0, none⟩) 3 3, .slice (some ⟨w1.heap.size + 1, 0, none⟩) 2 2] 29)).heap[w1.heap.size + 1]? = _ from (((Below.refl ((w1.alloc (.cells #[.int .u8 97, .int .u8 98, .int .u8 120] 5 (3, 4))).alloc (.cells #[.int .u8 49, .int .u8 50] 5 (2, 3))).heap.size ((w1.alloc (.cells #[.int .u8 97, .int .u8 98, .int .u8 120] 5 (3, 4))).alloc (.cells #[.int .u8 49, .int .u8 50] 5 (2, 3)))).alloc (Nat.le_refl _) (.cells #[.slice (some ⟨w1.heap.size, 0, none⟩) 3 3, .slice (some ⟨w1.heap.size + 1, 0, none⟩) 2 2] 29)).block _ (by simp)).trans hh1)
  have hh2 := heap_new ((w1.alloc (.cells #[.int .u8 97, .int .u8 98, .int .u8 120] 5 (3, 4))).alloc (.cells #[.int .u8 49, .int .u8 50] 5 (2, 3))) (.cells #[.slice (some ⟨w1.heap.size, 0, none⟩) 3 3, .slice (some ⟨w1.heap.size + 1, 0, none⟩) 2 2] 29)
  rw [World.size_alloc, World.size_alloc] at hh2
  have Tk : Hid (Sl Bf (((w1.alloc (.cells #[.int .u8 97, .int .u8 98, .int .u8 120] 5 (3, 4))).alloc (.cells #[.int .u8 49, .int .u8 50] 5 (2, 3))).alloc (.cells #[.slice (some ⟨w1.heap.size, 0, none⟩) 3 3, .slice (some ⟨w1.heap.size + 1, 0, none⟩) 2 2] 29)) (some ⟨w1.heap.size, 0, none⟩) 3 3 [97, 98, 120]) := Lib.hid (Sl.of_row [97, 98, 120] 3 3 hh0 rfl (Nat.le_refl _) rfl)
  have Tv : Hid (Sl Bf (((w1.alloc (.cells #[.int .u8 97, .int .u8 98, .int .u8 120] 5 (3, 4))).alloc (.cells #[.int .u8 49, .int .u8 50] 5 (2, 3))).alloc (.cells #[.slice (some ⟨w1.heap.size, 0, none⟩) 3 3, .slice (some ⟨w1.heap.size + 1, 0, none⟩) 2 2] 29)) (some ⟨w1.heap.size + 1, 0, none⟩) 2 2 [49, 50]) := Lib.hid (Sl.of_row [49, 50] 2 2 hh1 rfl (Nat.le_refl _) rfl)
  have E1 : Hid (Eb (((w1.alloc (.cells #[.int .u8 97, .int .u8 98, .int .u8 120] 5 (3, 4))).alloc (.cells #[.int .u8 49, .int .u8 50] 5 (2, 3))).alloc (.cells #[.slice (some ⟨w1.heap.size, 0, none⟩) 3 3, .slice (some ⟨w1.heap.size + 1, 0, none⟩) 2 2] 29)) (w1.heap.size + 1 + 1) (.slice (some ⟨w1.heap.size, 0, none⟩) 3 3) (.slice (some ⟨w1.heap.size + 1, 0, none⟩) 2 2)) := Lib.hid hh2
  replace G := Lib.hid (keep_trans G.out hba)
  have sz0 : w1.heap.size ≤ (((w1.alloc (.cells #[.int .u8 97, .int .u8 98, .int .u8 120] 5 (3, 4))).alloc (.cells #[.int .u8 49, .int .u8 50] 5 (2, 3))).alloc (.cells #[.slice (some ⟨w1.heap.size, 0, none⟩) 3 3, .slice (some ⟨w1.heap.size + 1, 0, none⟩) 2 2] 29)).heap.size := hba.size
  clear hba hh0 hh1 hh2
  go_upto_region 3 with (fail)
  generalize hgw : (((w1.alloc (.cells #[.int .u8 97, .int .u8 98, .int .u8 120] 5 (3, 4))).alloc (.cells #[.int .u8 49, .int .u8 50] 5 (2, 3))).alloc (.cells #[.slice (some ⟨w1.heap.size, 0, none⟩) 3 3, .slice (some ⟨w1.heap.size + 1, 0, none⟩) 2 2] 29)) = v0 at *
  clear hgw
  obtain ⟨ge, hge⟩ : ∃ g, w1.heap.size + 1 + 1 = g := ⟨_, rfl⟩
  obtain ⟨gk, hgk⟩ : ∃ g, w1.heap.size = g := ⟨_, rfl⟩
  obtain ⟨gv, hgv⟩ : ∃ g, w1.heap.size + 1 = g := ⟨_, rfl⟩
  rw [hge, hgv, hgk] at E1
  rw [hgk] at Tk
  rw [hgv] at Tv
  rw [hge]
  try rw [hgv]
  try rw [hgk]
  clear hge hgk hgv
  have lge := E1.out.lt
  have p0 := E1.out.c0
  have p1 := E1.out.c1
  have hba : Below v0.heap.size v0 (v0.alloc (.cells #[.int .u8 97, .int .u8 98, .int .u8 99] 5 (3, 4))) := (Below.refl v0.heap.size v0).alloc (Nat.le_refl _) (.cells #[.int .u8 97, .int .u8 98, .int .u8 99] 5 (3, 4))
  have hh0 := heap_new v0 (.cells #[.int .u8 97, .int .u8 98, .int .u8 99] 5 (3, 4))
  have T3 : Hid (Sl Bf (v0.alloc (.cells #[.int .u8 97, .int .u8 98, .int .u8 99] 5 (3, 4))) (some ⟨v0.heap.size, 0, none⟩) 3 3 [97, 98, 99]) := Lib.hid (Sl.of_row [97, 98, 99] 3 3 hh0 rfl (Nat.le_refl _) rfl)
  replace G := Lib.hid (keep_trans G.out hba)
  replace Tk := Lib.hid (Tk.out.keep hba)
  replace Tv := Lib.hid (Tv.out.keep hba)
  replace E1 : Hid (Eb (v0.alloc (.cells #[.int .u8 97, .int .u8 98, .int .u8 99] 5 (3, 4))) ge (.slice (some ⟨gk, 0, none⟩) 3 3) (.slice (some ⟨gv, 0, none⟩) 2 2)) := Lib.hid ((hba.block ge (E1.out.lt)).trans E1.out)
  have sz1 : v0.heap.size ≤ (v0.alloc (.cells #[.int .u8 97, .int .u8 98, .int .u8 99] 5 (3, 4))).heap.size := hba.size
  clear hba hh0
  go_wp2_with fail
  generalize hgw : (v0.alloc (.cells #[.int .u8 97, .int .u8 98, .int .u8 99] 5 (3, 4))) = v1 at *
  clear hgw
  refine (pbytes_any _ 3 _ [97, 98, 99] _ 3 _ [97, 98, 120] _ 2 _ [49, 50] _ (by omega) (by omega) T3.out Tk.out Tv.out).mono ?_
  rintro e w2 ⟨_, rfl, ho, hb⟩
  have s2 : v1.heap.size ≤ w2.heap.size := hb.size
  rw [nm_b] at ho
  clear p0 p1 lge
  have lge : ge < w2.heap.size := by have := E1.out.lt; have := hb.size; omega
  obtain ⟨aOb, nOb, cOb, rfl, zOb⟩ := ho.slN
  obtain rfl : 6 = nOb := by exact zOb.len
  have ObL := Lib.hid ho.lt
  have Ob := Lib.hid ho; clear ho zOb
  replace G := Lib.hid (keep_trans G.out hb)
  replace Tk := Lib.hid (Tk.out.keep hb)
  replace Tv := Lib.hid (Tv.out.keep hb)
  replace E1 : Hid (Eb w2 ge (.slice (some ⟨gk, 0, none⟩) 3 3) (.slice (some ⟨gv, 0, none⟩) 2 2)) := Lib.hid ((hb.block ge (E1.out.lt)).trans E1.out)
  replace T3 := Lib.hid (T3.out.keep hb)
  clear hb
  clear T3
  have hba : Below w2.heap.size w2 (w2.alloc (.cells #[.int .u8 97, .int .u8 98] 5 (2, 3))) := (Below.refl w2.heap.size w2).alloc (Nat.le_refl _) (.cells #[.int .u8 97, .int .u8 98] 5 (2, 3))
  have hh0 := heap_new w2 (.cells #[.int .u8 97, .int .u8 98] 5 (2, 3))
  have T1 : Hid (Sl Bf (w2.alloc (.cells #[.int .u8 97, .int .u8 98] 5 (2, 3))) (some ⟨w2.heap.size, 0, none⟩) 2 2 [97, 98]) := Lib.hid (Sl.of_row [97, 98] 2 2 hh0 rfl (Nat.le_refl _) rfl)
  replace G := Lib.hid (keep_trans G.out hba)
  replace Tk := Lib.hid (Tk.out.keep hba)
  replace Tv := Lib.hid (Tv.out.keep hba)
  replace E1 : Hid (Eb (w2.alloc (.cells #[.int .u8 97, .int .u8 98] 5 (2, 3))) ge (.slice (some ⟨gk, 0, none⟩) 3 3) (.slice (some ⟨gv, 0, none⟩) 2 2)) := Lib.hid ((hba.block ge (E1.out.lt)).trans E1.out)
  replace Ob := Lib.hid (Ob.out.keep hba)
  have sz2 : w2.heap.size ≤ (w2.alloc (.cells #[.int .u8 97, .int .u8 98] 5 (2, 3))).heap.size := hba.size
  clear hba hh0
  go_wp2_with fail
  generalize hgw : (w2.alloc (.cells #[.int .u8 97, .int .u8 98] 5 (2, 3))) = v2 at *
  clear hgw
  have hrd := epread_z _ 2 _ [97, 98] _ 6 _ [2, 1, 2, 120, 49, 50] 0 _ (by omega) (by omega) T1.out Ob.out.slI
  rw [nm_1] at hrd
  dsimp only at hrd
  refine hrd.mono ?_
  rintro e w3 ⟨vk, vv, mid, rfl, hk1, hv1, hkm, hm1, hb⟩
  have s3 : v2.heap.size ≤ w3.heap.size := hb.size
  obtain ⟨akx, nk, ckx, rfl, zk⟩ := hk1.slN
  obtain ⟨avx, nv, cvx, rfl, zv⟩ := hv1.slN
  obtain rfl : 3 = nk := zk.len
  obtain rfl : 2 = nv := zv.len
  clear hrd hk1 hv1 hkm hm1
  have lge2 : ge < w3.heap.size := by have := E1.out.lt; omega
  replace G := Lib.hid (keep_trans G.out hb)
  replace Tk := Lib.hid (Tk.out.keep hb)
  replace Tv := Lib.hid (Tv.out.keep hb)
  replace E1 : Hid (Eb w3 ge (.slice (some ⟨gk, 0, none⟩) 3 3) (.slice (some ⟨gv, 0, none⟩) 2 2)) := Lib.hid ((hb.block ge (E1.out.lt)).trans E1.out)
  replace Ob := Lib.hid (Ob.out.keep hb)
  replace T1 := Lib.hid (T1.out.keep hb)
  clear hb lge
  have lge := lge2
  clear lge2
  have Xk := Lib.hid zk
  have Xv := Lib.hid zv
  clear zk zv
  have hba : Below w3.heap.size w3 (w3.alloc (.cells #[.slice akx 3 ckx, .slice avx 2 cvx] 29)) := (Below.refl _ _).alloc (Nat.le_refl _) _
  have E2 : Hid (Eb (w3.alloc (.cells #[.slice akx 3 ckx, .slice avx 2 cvx] 29)) w3.heap.size (.slice akx 3 ckx) (.slice avx 2 cvx)) := Lib.hid (heap_new w3 _)
  replace G := Lib.hid (keep_trans G.out hba)
  replace Tk := Lib.hid (Tk.out.keep hba)
  replace Tv := Lib.hid (Tv.out.keep hba)
  replace E1 : Hid (Eb (w3.alloc (.cells #[.slice akx 3 ckx, .slice avx 2 cvx] 29)) ge (.slice (some ⟨gk, 0, none⟩) 3 3) (.slice (some ⟨gv, 0, none⟩) 2 2)) := Lib.hid ((hba.block ge (E1.out.lt)).trans E1.out)
  replace Ob := Lib.hid (Ob.out.keep hba)
  replace T1 := Lib.hid (T1.out.keep hba)
  replace Xk := Lib.hid (Xk.out.keep hba)
  replace Xv := Lib.hid (Xv.out.keep hba)
  replace lge : ge < (w3.alloc (.cells #[.slice akx 3 ckx, .slice avx 2 cvx] 29)).heap.size := by have := hba.size; omega
  clear hba
  go_upto_region 5 with (fail)
  obtain ⟨gx, hgx⟩ : ∃ g, w3.heap.size = g := ⟨_, rfl⟩
  rw [hgx] at E2 ⊢
  clear hgx
  generalize hgw : (w3.alloc (.cells #[.slice akx 3 ckx, .slice avx 2 cvx] 29)) = v3 at *
  clear hgw
  clear T1
  have hba : Below v3.heap.size v3 (v3.alloc (.cells #[.int .u8 97, .int .u8 98, .int .u8 120] 5 (3, 4))) := (Below.refl v3.heap.size v3).alloc (Nat.le_refl _) (.cells #[.int .u8 97, .int .u8 98, .int .u8 120] 5 (3, 4))
  have hh0 := heap_new v3 (.cells #[.int .u8 97, .int .u8 98, .int .u8 120] 5 (3, 4))
  have T1 : Hid (Sl Bf (v3.alloc (.cells #[.int .u8 97, .int .u8 98, .int .u8 120] 5 (3, 4))) (some ⟨v3.heap.size, 0, none⟩) 3 3 [97, 98, 120]) := Lib.hid (Sl.of_row [97, 98, 120] 3 3 hh0 rfl (Nat.le_refl _) rfl)
  replace G := Lib.hid (keep_trans G.out hba)
  replace Tk := Lib.hid (Tk.out.keep hba)
  replace Tv := Lib.hid (Tv.out.keep hba)
  replace E1 : Hid (Eb (v3.alloc (.cells #[.int .u8 97, .int .u8 98, .int .u8 120] 5 (3, 4))) ge (.slice (some ⟨gk, 0, none⟩) 3 3) (.slice (some ⟨gv, 0, none⟩) 2 2)) := Lib.hid ((hba.block ge (E1.out.lt)).trans E1.out)
  replace Ob := Lib.hid (Ob.out.keep hba)
  replace Xk := Lib.hid (Xk.out.keep hba)
  replace Xv := Lib.hid (Xv.out.keep hba)
  replace E2 : Hid (Eb (v3.alloc (.cells #[.int .u8 97, .int .u8 98, .int .u8 120] 5 (3, 4))) gx (.slice akx 3 ckx) (.slice avx 2 cvx)) := Lib.hid ((hba.block gx (E2.out.lt)).trans E2.out)
  have sz4 : v3.heap.size ≤ (v3.alloc (.cells #[.int .u8 97, .int .u8 98, .int .u8 120] 5 (3, 4))).heap.size := hba.size
  clear hba hh0
  go_wp2_with fail
  generalize hgw : (v3.alloc (.cells #[.int .u8 97, .int .u8 98, .int .u8 120] 5 (3, 4))) = v4 at *
  clear hgw
  have hrd := epread_z _ 3 _ [97, 98, 120] _ 6 _ [2, 1, 2, 120, 49, 50] 0 _ (by omega) (by omega) T1.out Ob.out.slI
  rw [nm_2] at hrd
  dsimp only at hrd
  refine hrd.mono ?_
  rintro e w4 ⟨vk, vv, mid, rfl, hk1, hv1, hkm, hm1, hb⟩
  have s4 : v4.heap.size ≤ w4.heap.size := hb.size
  obtain ⟨ak, nk, ck, rfl, zk⟩ := hk1.slN
  obtain ⟨av, nv, cv, rfl, zv⟩ := hv1.slN
  obtain rfl : 0 = nk := zk.len
  obtain rfl : 0 = nv := zv.len
  clear hrd hk1 hv1 hkm hm1
  have lge2 : ge < w4.heap.size := by have := E1.out.lt; omega
  replace G := Lib.hid (keep_trans G.out hb)
  replace Tk := Lib.hid (Tk.out.keep hb)
  replace Tv := Lib.hid (Tv.out.keep hb)
  replace E1 : Hid (Eb w4 ge (.slice (some ⟨gk, 0, none⟩) 3 3) (.slice (some ⟨gv, 0, none⟩) 2 2)) := Lib.hid ((hb.block ge (E1.out.lt)).trans E1.out)
  replace Ob := Lib.hid (Ob.out.keep hb)
  replace Xk := Lib.hid (Xk.out.keep hb)
  replace Xv := Lib.hid (Xv.out.keep hb)
  replace E2 : Hid (Eb w4 gx (.slice akx 3 ckx) (.slice avx 2 cvx)) := Lib.hid ((hb.block gx (E2.out.lt)).trans E2.out)
  replace T1 := Lib.hid (T1.out.keep hb)
  clear hb lge
  have lge := lge2
  clear lge2
  clear zk zv
  have hba : Below w4.heap.size w4 (w4.alloc (.cells #[.slice ak 0 ck, .slice av 0 cv] 29)) := (Below.refl _ _).alloc (Nat.le_refl _) _
  replace G := Lib.hid (keep_trans G.out hba)
  replace Tk := Lib.hid (Tk.out.keep hba)
  replace Tv := Lib.hid (Tv.out.keep hba)
  replace E1 : Hid (Eb (w4.alloc (.cells #[.slice ak 0 ck, .slice av 0 cv] 29)) ge (.slice (some ⟨gk, 0, none⟩) 3 3) (.slice (some ⟨gv, 0, none⟩) 2 2)) := Lib.hid ((hba.block ge (E1.out.lt)).trans E1.out)
  replace Ob := Lib.hid (Ob.out.keep hba)
  replace Xk := Lib.hid (Xk.out.keep hba)
  replace Xv := Lib.hid (Xv.out.keep hba)
  replace E2 : Hid (Eb (w4.alloc (.cells #[.slice ak 0 ck, .slice av 0 cv] 29)) gx (.slice akx 3 ckx) (.slice avx 2 cvx)) := Lib.hid ((hba.block gx (E2.out.lt)).trans E2.out)
  replace T1 := Lib.hid (T1.out.keep hba)
  replace lge : ge < (w4.alloc (.cells #[.slice ak 0 ck, .slice av 0 cv] 29)).heap.size := by have := hba.size; omega
  clear hba
  go_upto_region 6 with (fail)
  generalize hgw : (w4.alloc (.cells #[.slice ak 0 ck, .slice av 0 cv] 29)) = v5 at *
  clear hgw
  clear T1
  have hba : Below v5.heap.size v5 ((v5.alloc (.cells #[.int .u8 98] 5 (1, 2))).alloc (.cells #[.int .u8 0, .int .u8 1, .int .u8 0, .int .u8 97] 5)) := ((Below.refl v5.heap.size v5).alloc (Nat.le_refl _) (.cells #[.int .u8 98] 5 (1, 2))).alloc (by simp) (.cells #[.int .u8 0, .int .u8 1, .int .u8 0, .int .u8 97] 5)
  have hh0 := heap_new v5 (.cells #[.int .u8 98] 5 (1, 2))
  replace hh0 := (show ((v5.alloc (.cells #[.int .u8 98] 5 (1, 2))).alloc (.cells #[.int .u8 0, .int .u8 1, .int .u8 0, .int .u8 97] 5)).heap[v5.heap.size]? = _ from (((Below.refl (v5.alloc (.cells #[.int .u8 98] 5 (1, 2))).heap.size (v5.alloc (.cells #[.int .u8 98] 5 (1, 2)))).alloc (Nat.le_refl _) (.cells #[.int .u8 0, .int .u8 1, .int .u8 0, .int .u8 97] 5)).block _ (by simp)).trans hh0)
  have hh1 := heap_new (v5.alloc (.cells #[.int .u8 98] 5 (1, 2))) (.cells #[.int .u8 0, .int .u8 1, .int .u8 0, .int .u8 97] 5)
  rw [World.size_alloc] at hh1
  have T1 : Hid (Sl Bf ((v5.alloc (.cells #[.int .u8 98] 5 (1, 2))).alloc (.cells #[.int .u8 0, .int .u8 1, .int .u8 0, .int .u8 97] 5)) (some ⟨v5.heap.size, 0, none⟩) 1 1 [98]) := Lib.hid (Sl.of_row [98] 1 1 hh0 rfl (Nat.le_refl _) rfl)
  have T2 : Hid (Sl Bf ((v5.alloc (.cells #[.int .u8 98] 5 (1, 2))).alloc (.cells #[.int .u8 0, .int .u8 1, .int .u8 0, .int .u8 97] 5)) (some ⟨v5.heap.size + 1, 0, none⟩) 4 4 [0, 1, 0, 97]) := Lib.hid (Sl.of_row [0, 1, 0, 97] 4 4 hh1 rfl (Nat.le_refl _) rfl)
  replace G := Lib.hid (keep_trans G.out hba)
  replace Tk := Lib.hid (Tk.out.keep hba)
  replace Tv := Lib.hid (Tv.out.keep hba)
  replace E1 : Hid (Eb ((v5.alloc (.cells #[.int .u8 98] 5 (1, 2))).alloc (.cells #[.int .u8 0, .int .u8 1, .int .u8 0, .int .u8 97] 5)) ge (.slice (some ⟨gk, 0, none⟩) 3 3) (.slice (some ⟨gv, 0, none⟩) 2 2)) := Lib.hid ((hba.block ge (E1.out.lt)).trans E1.out)
  replace Ob := Lib.hid (Ob.out.keep hba)
  replace Xk := Lib.hid (Xk.out.keep hba)
  replace Xv := Lib.hid (Xv.out.keep hba)
  replace E2 : Hid (Eb ((v5.alloc (.cells #[.int .u8 98] 5 (1, 2))).alloc (.cells #[.int .u8 0, .int .u8 1, .int .u8 0, .int .u8 97] 5)) gx (.slice akx 3 ckx) (.slice avx 2 cvx)) := Lib.hid ((hba.block gx (E2.out.lt)).trans E2.out)
  have sz6 : v5.heap.size ≤ ((v5.alloc (.cells #[.int .u8 98] 5 (1, 2))).alloc (.cells #[.int .u8 0, .int .u8 1, .int .u8 0, .int .u8 97] 5)).heap.size := hba.size
  clear hba hh0 hh1
  go_wp2_with fail
  generalize hgw : ((v5.alloc (.cells #[.int .u8 98] 5 (1, 2))).alloc (.cells #[.int .u8 0, .int .u8 1, .int .u8 0, .int .u8 97] 5)) = v6 at *
  clear hgw
  have hrd := epread_z _ 1 _ [98] _ 4 _ [0, 1, 0, 97] 0 _ (by omega) (by omega) T1.out T2.out
  rw [nm_3] at hrd
  dsimp only at hrd
  refine hrd.mono ?_
  rintro e w5 ⟨vk, vv, mid, rfl, hk1, hv1, hkm, hm1, hb⟩
  have s5 : v6.heap.size ≤ w5.heap.size := hb.size
  obtain ⟨ak, nk, ck, rfl, zk⟩ := hk1.slN
  obtain ⟨av, nv, cv, rfl, zv⟩ := hv1.slN
  obtain rfl : 0 = nk := zk.len
  obtain rfl : 0 = nv := zv.len
  clear hrd hk1 hv1 hkm hm1
  have lge2 : ge < w5.heap.size := by have := E1.out.lt; omega
  replace G := Lib.hid (keep_trans G.out hb)
  replace Tk := Lib.hid (Tk.out.keep hb)
  replace Tv := Lib.hid (Tv.out.keep hb)
  replace E1 : Hid (Eb w5 ge (.slice (some ⟨gk, 0, none⟩) 3 3) (.slice (some ⟨gv, 0, none⟩) 2 2)) := Lib.hid ((hb.block ge (E1.out.lt)).trans E1.out)
  replace Ob := Lib.hid (Ob.out.keep hb)
  replace Xk := Lib.hid (Xk.out.keep hb)
  replace Xv := Lib.hid (Xv.out.keep hb)
  replace E2 : Hid (Eb w5 gx (.slice akx 3 ckx) (.slice avx 2 cvx)) := Lib.hid ((hb.block gx (E2.out.lt)).trans E2.out)
  replace T1 := Lib.hid (T1.out.keep hb)
  replace T2 := Lib.hid (T2.out.keep hb)
  clear hb lge
  have lge := lge2
  clear lge2
  clear zk zv
  have hba : Below w5.heap.size w5 (w5.alloc (.cells #[.slice ak 0 ck, .slice av 0 cv] 29)) := (Below.refl _ _).alloc (Nat.le_refl _) _
  replace G := Lib.hid (keep_trans G.out hba)
  replace Tk := Lib.hid (Tk.out.keep hba)
  replace Tv := Lib.hid (Tv.out.keep hba)
  replace E1 : Hid (Eb (w5.alloc (.cells #[.slice ak 0 ck, .slice av 0 cv] 29)) ge (.slice (some ⟨gk, 0, none⟩) 3 3) (.slice (some ⟨gv, 0, none⟩) 2 2)) := Lib.hid ((hba.block ge (E1.out.lt)).trans E1.out)
  replace Ob := Lib.hid (Ob.out.keep hba)
  replace Xk := Lib.hid (Xk.out.keep hba)
  replace Xv := Lib.hid (Xv.out.keep hba)
  replace E2 : Hid (Eb (w5.alloc (.cells #[.slice ak 0 ck, .slice av 0 cv] 29)) gx (.slice akx 3 ckx) (.slice avx 2 cvx)) := Lib.hid ((hba.block gx (E2.out.lt)).trans E2.out)
  replace T1 := Lib.hid (T1.out.keep hba)
  replace T2 := Lib.hid (T2.out.keep hba)
  replace lge : ge < (w5.alloc (.cells #[.slice ak 0 ck, .slice av 0 cv] 29)).heap.size := by have := hba.size; omega
  clear hba
  go_upto_region 7 with (fail)
  generalize hgw : (w5.alloc (.cells #[.slice ak 0 ck, .slice av 0 cv] 29)) = v7 at *
  clear hgw
  clear T1 T2
  have hba : Below v7.heap.size v7 (v7.alloc (.cells #[.int .u8 0, .int .u8 1, .int .u8 5, .int .u8 97] 5)) := (Below.refl v7.heap.size v7).alloc (Nat.le_refl _) (.cells #[.int .u8 0, .int .u8 1, .int .u8 5, .int .u8 97] 5)
  have hh0 := heap_new v7 (.cells #[.int .u8 0, .int .u8 1, .int .u8 5, .int .u8 97] 5)
  have T1 : Hid (Sl Bf (v7.alloc (.cells #[.int .u8 0, .int .u8 1, .int .u8 5, .int .u8 97] 5)) (some ⟨v7.heap.size, 0, none⟩) 4 4 [0, 1, 5, 97]) := Lib.hid (Sl.of_row [0, 1, 5, 97] 4 4 hh0 rfl (Nat.le_refl _) rfl)
  replace G := Lib.hid (keep_trans G.out hba)
  replace Tk := Lib.hid (Tk.out.keep hba)
  replace Tv := Lib.hid (Tv.out.keep hba)
  replace E1 : Hid (Eb (v7.alloc (.cells #[.int .u8 0, .int .u8 1, .int .u8 5, .int .u8 97] 5)) ge (.slice (some ⟨gk, 0, none⟩) 3 3) (.slice (some ⟨gv, 0, none⟩) 2 2)) := Lib.hid ((hba.block ge (E1.out.lt)).trans E1.out)
  replace Ob := Lib.hid (Ob.out.keep hba)
  replace Xk := Lib.hid (Xk.out.keep hba)
  replace Xv := Lib.hid (Xv.out.keep hba)
  replace E2 : Hid (Eb (v7.alloc (.cells #[.int .u8 0, .int .u8 1, .int .u8 5, .int .u8 97] 5)) gx (.slice akx 3 ckx) (.slice avx 2 cvx)) := Lib.hid ((hba.block gx (E2.out.lt)).trans E2.out)
  have sz8 : v7.heap.size ≤ (v7.alloc (.cells #[.int .u8 0, .int .u8 1, .int .u8 5, .int .u8 97] 5)).heap.size := hba.size
  clear hba hh0
  go_wp2_with fail
  generalize hgw : (v7.alloc (.cells #[.int .u8 0, .int .u8 1, .int .u8 5, .int .u8 97] 5)) = v8 at *
  clear hgw
  have hrd := epread_z _ 0 _ [] _ 4 _ [0, 1, 5, 97] 0 _ (by omega) (by omega) (Sl.nil _ _) T1.out
  rw [nm_4] at hrd
  dsimp only at hrd
  refine hrd.mono ?_
  rintro e w6 ⟨vk, vv, mid, rfl, hk1, hv1, hkm, hm1, hb⟩
  have s6 : v8.heap.size ≤ w6.heap.size := hb.size
  obtain ⟨ak, nk, ck, rfl, zk⟩ := hk1.slN
  obtain ⟨av, nv, cv, rfl, zv⟩ := hv1.slN
  obtain rfl : 0 = nk := zk.len
  obtain rfl : 0 = nv := zv.len
  clear hrd hk1 hv1 hkm hm1
  have lge2 : ge < w6.heap.size := by have := E1.out.lt; omega
  replace G := Lib.hid (keep_trans G.out hb)
  replace Tk := Lib.hid (Tk.out.keep hb)
  replace Tv := Lib.hid (Tv.out.keep hb)
  replace E1 : Hid (Eb w6 ge (.slice (some ⟨gk, 0, none⟩) 3 3) (.slice (some ⟨gv, 0, none⟩) 2 2)) := Lib.hid ((hb.block ge (E1.out.lt)).trans E1.out)
  replace Ob := Lib.hid (Ob.out.keep hb)
  replace Xk := Lib.hid (Xk.out.keep hb)
  replace Xv := Lib.hid (Xv.out.keep hb)
  replace E2 : Hid (Eb w6 gx (.slice akx 3 ckx) (.slice avx 2 cvx)) := Lib.hid ((hb.block gx (E2.out.lt)).trans E2.out)
  replace T1 := Lib.hid (T1.out.keep hb)
  clear hb lge
  have lge := lge2
  clear lge2
  clear zk zv
  have hba : Below w6.heap.size w6 (w6.alloc (.cells #[.slice ak 0 ck, .slice av 0 cv] 29)) := (Below.refl _ _).alloc (Nat.le_refl _) _
  replace G := Lib.hid (keep_trans G.out hba)
  replace Tk := Lib.hid (Tk.out.keep hba)
  replace Tv := Lib.hid (Tv.out.keep hba)
  replace E1 : Hid (Eb (w6.alloc (.cells #[.slice ak 0 ck, .slice av 0 cv] 29)) ge (.slice (some ⟨gk, 0, none⟩) 3 3) (.slice (some ⟨gv, 0, none⟩) 2 2)) := Lib.hid ((hba.block ge (E1.out.lt)).trans E1.out)
  replace Ob := Lib.hid (Ob.out.keep hba)
  replace Xk := Lib.hid (Xk.out.keep hba)
  replace Xv := Lib.hid (Xv.out.keep hba)
  replace E2 : Hid (Eb (w6.alloc (.cells #[.slice ak 0 ck, .slice av 0 cv] 29)) gx (.slice akx 3 ckx) (.slice avx 2 cvx)) := Lib.hid ((hba.block gx (E2.out.lt)).trans E2.out)
  replace T1 := Lib.hid (T1.out.keep hba)
  replace lge : ge < (w6.alloc (.cells #[.slice ak 0 ck, .slice av 0 cv] 29)).heap.size := by have := hba.size; omega
  clear hba
  go_upto_region 8 with (fail)
  generalize hgw : (w6.alloc (.cells #[.slice ak 0 ck, .slice av 0 cv] 29)) = v9 at *
  clear hgw
  clear T1
  have hba : Below v9.heap.size v9 (v9.alloc (.cells #[.int .u8 0, .int .u8 0, .int .u8 0] 5)) := (Below.refl v9.heap.size v9).alloc (Nat.le_refl _) (.cells #[.int .u8 0, .int .u8 0, .int .u8 0] 5)
  have hh0 := heap_new v9 (.cells #[.int .u8 0, .int .u8 0, .int .u8 0] 5)
  have T1 : Hid (Sl Bf (v9.alloc (.cells #[.int .u8 0, .int .u8 0, .int .u8 0] 5)) (some ⟨v9.heap.size, 0, none⟩) 3 3 [0, 0, 0]) := Lib.hid (Sl.of_row [0, 0, 0] 3 3 hh0 rfl (Nat.le_refl _) rfl)
  replace G := Lib.hid (keep_trans G.out hba)
  replace Tk := Lib.hid (Tk.out.keep hba)
  replace Tv := Lib.hid (Tv.out.keep hba)
  replace E1 : Hid (Eb (v9.alloc (.cells #[.int .u8 0, .int .u8 0, .int .u8 0] 5)) ge (.slice (some ⟨gk, 0, none⟩) 3 3) (.slice (some ⟨gv, 0, none⟩) 2 2)) := Lib.hid ((hba.block ge (E1.out.lt)).trans E1.out)
  replace Ob := Lib.hid (Ob.out.keep hba)
  replace Xk := Lib.hid (Xk.out.keep hba)
  replace Xv := Lib.hid (Xv.out.keep hba)
  replace E2 : Hid (Eb (v9.alloc (.cells #[.int .u8 0, .int .u8 0, .int .u8 0] 5)) gx (.slice akx 3 ckx) (.slice avx 2 cvx)) := Lib.hid ((hba.block gx (E2.out.lt)).trans E2.out)
  have sz10 : v9.heap.size ≤ (v9.alloc (.cells #[.int .u8 0, .int .u8 0, .int .u8 0] 5)).heap.size := hba.size
  clear hba hh0
  go_wp2_with fail
  generalize hgw : (v9.alloc (.cells #[.int .u8 0, .int .u8 0, .int .u8 0] 5)) = v10 at *
  clear hgw
  have hrd := epread_z _ 0 _ [] _ 3 _ [0, 0, 0] 0 _ (by omega) (by omega) (Sl.nil _ _) T1.out
  rw [nm_5] at hrd
  dsimp only at hrd
  refine hrd.mono ?_
  rintro e w7 ⟨vk, vv, mid, rfl, hk1, hv1, hkm, hm1, hb⟩
  have s7 : v10.heap.size ≤ w7.heap.size := hb.size
  obtain ⟨ak, nk, ck, rfl, zk⟩ := hk1.slN
  obtain ⟨av, nv, cv, rfl, zv⟩ := hv1.slN
  obtain rfl : 0 = nk := zk.len
  obtain rfl : 0 = nv := zv.len
  clear hrd hk1 hv1 hkm hm1
  have lge2 : ge < w7.heap.size := by have := E1.out.lt; omega
  replace G := Lib.hid (keep_trans G.out hb)
  replace Tk := Lib.hid (Tk.out.keep hb)
  replace Tv := Lib.hid (Tv.out.keep hb)
  replace E1 : Hid (Eb w7 ge (.slice (some ⟨gk, 0, none⟩) 3 3) (.slice (some ⟨gv, 0, none⟩) 2 2)) := Lib.hid ((hb.block ge (E1.out.lt)).trans E1.out)
  replace Ob := Lib.hid (Ob.out.keep hb)
  replace Xk := Lib.hid (Xk.out.keep hb)
  replace Xv := Lib.hid (Xv.out.keep hb)
  replace E2 : Hid (Eb w7 gx (.slice akx 3 ckx) (.slice avx 2 cvx)) := Lib.hid ((hb.block gx (E2.out.lt)).trans E2.out)
  replace T1 := Lib.hid (T1.out.keep hb)
  clear hb lge
  have lge := lge2
  clear lge2
  clear zk zv
  have hba : Below w7.heap.size w7 (w7.alloc (.cells #[.slice ak 0 ck, .slice av 0 cv] 29)) := (Below.refl _ _).alloc (Nat.le_refl _) _
  replace G := Lib.hid (keep_trans G.out hba)
  replace Tk := Lib.hid (Tk.out.keep hba)
  replace Tv := Lib.hid (Tv.out.keep hba)
  replace E1 : Hid (Eb (w7.alloc (.cells #[.slice ak 0 ck, .slice av 0 cv] 29)) ge (.slice (some ⟨gk, 0, none⟩) 3 3) (.slice (some ⟨gv, 0, none⟩) 2 2)) := Lib.hid ((hba.block ge (E1.out.lt)).trans E1.out)
  replace Ob := Lib.hid (Ob.out.keep hba)
  replace Xk := Lib.hid (Xk.out.keep hba)
  replace Xv := Lib.hid (Xv.out.keep hba)
  replace E2 : Hid (Eb (w7.alloc (.cells #[.slice ak 0 ck, .slice av 0 cv] 29)) gx (.slice akx 3 ckx) (.slice avx 2 cvx)) := Lib.hid ((hba.block gx (E2.out.lt)).trans E2.out)
  replace T1 := Lib.hid (T1.out.keep hba)
  replace lge : ge < (w7.alloc (.cells #[.slice ak 0 ck, .slice av 0 cv] 29)).heap.size := by have := hba.size; omega
  clear hba
  go_upto_region 9 with (fail)
  generalize hgw : (w7.alloc (.cells #[.slice ak 0 ck, .slice av 0 cv] 29)) = v11 at *
  clear hgw
  clear T1
  go_wp2_with fail
  refine (keyn_any _ _ _ _ (by omega)).mono ?_
  rintro e w' ⟨rfl, hww⟩
  obtain rfl := hww.symm
  rw [keyN0]
  have hba : Below v11.heap.size v11 ((v11.alloc (.cells #[.int .u8 97, .int .u8 98, .int .u8 99] 5 (3, 4))).alloc (.cells #[.int .u8 97, .int .u8 98, .int .u8 120] 5 (3, 4))) := ((Below.refl v11.heap.size v11).alloc (Nat.le_refl _) (.cells #[.int .u8 97, .int .u8 98, .int .u8 99] 5 (3, 4))).alloc (by simp) (.cells #[.int .u8 97, .int .u8 98, .int .u8 120] 5 (3, 4))
  have hh0 := heap_new v11 (.cells #[.int .u8 97, .int .u8 98, .int .u8 99] 5 (3, 4))
  replace hh0 := (show ((v11.alloc (.cells #[.int .u8 97, .int .u8 98, .int .u8 99] 5 (3, 4))).alloc (.cells #[.int .u8 97, .int .u8 98, .int .u8 120] 5 (3, 4))).heap[v11.heap.size]? = _ from (((Below.refl (v11.alloc (.cells #[.int .u8 97, .int .u8 98, .int .u8 99] 5 (3, 4))).heap.size (v11.alloc (.cells #[.int .u8 97, .int .u8 98, .int .u8 99] 5 (3, 4)))).alloc (Nat.le_refl _) (.cells #[.int .u8 97, .int .u8 98, .int .u8 120] 5 (3, 4))).block _ (by simp)).trans hh0)
  have hh1 := heap_new (v11.alloc (.cells #[.int .u8 97, .int .u8 98, .int .u8 99] 5 (3, 4))) (.cells #[.int .u8 97, .int .u8 98, .int .u8 120] 5 (3, 4))
  rw [World.size_alloc] at hh1
  have T1 : Hid (Sl Bf ((v11.alloc (.cells #[.int .u8 97, .int .u8 98, .int .u8 99] 5 (3, 4))).alloc (.cells #[.int .u8 97, .int .u8 98, .int .u8 120] 5 (3, 4))) (some ⟨v11.heap.size, 0, none⟩) 3 3 [97, 98, 99]) := Lib.hid (Sl.of_row [97, 98, 99] 3 3 hh0 rfl (Nat.le_refl _) rfl)
  have T2 : Hid (Sl Bf ((v11.alloc (.cells #[.int .u8 97, .int .u8 98, .int .u8 99] 5 (3, 4))).alloc (.cells #[.int .u8 97, .int .u8 98, .int .u8 120] 5 (3, 4))) (some ⟨v11.heap.size + 1, 0, none⟩) 3 3 [97, 98, 120]) := Lib.hid (Sl.of_row [97, 98, 120] 3 3 hh1 rfl (Nat.le_refl _) rfl)
  replace G := Lib.hid (keep_trans G.out hba)
  replace Tk := Lib.hid (Tk.out.keep hba)
  replace Tv := Lib.hid (Tv.out.keep hba)
  replace E1 : Hid (Eb ((v11.alloc (.cells #[.int .u8 97, .int .u8 98, .int .u8 99] 5 (3, 4))).alloc (.cells #[.int .u8 97, .int .u8 98, .int .u8 120] 5 (3, 4))) ge (.slice (some ⟨gk, 0, none⟩) 3 3) (.slice (some ⟨gv, 0, none⟩) 2 2)) := Lib.hid ((hba.block ge (E1.out.lt)).trans E1.out)
  replace Ob := Lib.hid (Ob.out.keep hba)
  replace Xk := Lib.hid (Xk.out.keep hba)
  replace Xv := Lib.hid (Xv.out.keep hba)
  replace E2 : Hid (Eb ((v11.alloc (.cells #[.int .u8 97, .int .u8 98, .int .u8 99] 5 (3, 4))).alloc (.cells #[.int .u8 97, .int .u8 98, .int .u8 120] 5 (3, 4))) gx (.slice akx 3 ckx) (.slice avx 2 cvx)) := Lib.hid ((hba.block gx (E2.out.lt)).trans E2.out)
  have sz12 : v11.heap.size ≤ ((v11.alloc (.cells #[.int .u8 97, .int .u8 98, .int .u8 99] 5 (3, 4))).alloc (.cells #[.int .u8 97, .int .u8 98, .int .u8 120] 5 (3, 4))).heap.size := hba.size
  clear hba hh0 hh1
  go_wp2_with fail
  generalize hgw : ((v11.alloc (.cells #[.int .u8 97, .int .u8 98, .int .u8 99] 5 (3, 4))).alloc (.cells #[.int .u8 97, .int .u8 98, .int .u8 120] 5 (3, 4))) = v12 at *
  clear hgw
  have hbt := between_any _ 3 _ [97, 98, 99] _ 3 _ [97, 98, 120] _ (by omega) (by omega) T1.out T2.out
  rw [nm_6.1, nm_6.2] at hbt
  refine (hbt).mono ?_
  rintro e w8 ⟨_, rfl, ho, hb⟩
  have s8 : v12.heap.size ≤ w8.heap.size := hb.size
  clear hbt lge
  obtain ⟨aOm, nOm, cOm, rfl, zOm⟩ := ho.slN
  obtain rfl : 3 = nOm := by exact zOm.len
  have OmL := Lib.hid ho.lt
  have Om := Lib.hid ho; clear ho zOm
  replace G := Lib.hid (keep_trans G.out hb)
  replace Tk := Lib.hid (Tk.out.keep hb)
  replace Tv := Lib.hid (Tv.out.keep hb)
  replace E1 : Hid (Eb w8 ge (.slice (some ⟨gk, 0, none⟩) 3 3) (.slice (some ⟨gv, 0, none⟩) 2 2)) := Lib.hid ((hb.block ge (E1.out.lt)).trans E1.out)
  replace Ob := Lib.hid (Ob.out.keep hb)
  replace Xk := Lib.hid (Xk.out.keep hb)
  replace Xv := Lib.hid (Xv.out.keep hb)
  replace E2 : Hid (Eb w8 gx (.slice akx 3 ckx) (.slice avx 2 cvx)) := Lib.hid ((hb.block gx (E2.out.lt)).trans E2.out)
  replace T1 := Lib.hid (T1.out.keep hb)
  replace T2 := Lib.hid (T2.out.keep hb)
  clear hb
  clear T1 T2
  have hba : Below w8.heap.size w8 ((w8.alloc (.cells #[.int .u8 98] 5 (1, 2))).alloc (.cells #[.int .u8 97] 5 (1, 2))) := ((Below.refl w8.heap.size w8).alloc (Nat.le_refl _) (.cells #[.int .u8 98] 5 (1, 2))).alloc (by simp) (.cells #[.int .u8 97] 5 (1, 2))
  have hh0 := heap_new w8 (.cells #[.int .u8 98] 5 (1, 2))
  replace hh0 := (show ((w8.alloc (.cells #[.int .u8 98] 5 (1, 2))).alloc (.cells #[.int .u8 97] 5 (1, 2))).heap[w8.heap.size]? = _ from (((Below.refl (w8.alloc (.cells #[.int .u8 98] 5 (1, 2))).heap.size (w8.alloc (.cells #[.int .u8 98] 5 (1, 2)))).alloc (Nat.le_refl _) (.cells #[.int .u8 97] 5 (1, 2))).block _ (by simp)).trans hh0)
  have hh1 := heap_new (w8.alloc (.cells #[.int .u8 98] 5 (1, 2))) (.cells #[.int .u8 97] 5 (1, 2))
  rw [World.size_alloc] at hh1
  have T1 : Hid (Sl Bf ((w8.alloc (.cells #[.int .u8 98] 5 (1, 2))).alloc (.cells #[.int .u8 97] 5 (1, 2))) (some ⟨w8.heap.size, 0, none⟩) 1 1 [98]) := Lib.hid (Sl.of_row [98] 1 1 hh0 rfl (Nat.le_refl _) rfl)
  have T2 : Hid (Sl Bf ((w8.alloc (.cells #[.int .u8 98] 5 (1, 2))).alloc (.cells #[.int .u8 97] 5 (1, 2))) (some ⟨w8.heap.size + 1, 0, none⟩) 1 1 [97]) := Lib.hid (Sl.of_row [97] 1 1 hh1 rfl (Nat.le_refl _) rfl)
  replace G := Lib.hid (keep_trans G.out hba)
  replace Tk := Lib.hid (Tk.out.keep hba)
  replace Tv := Lib.hid (Tv.out.keep hba)
  replace E1 : Hid (Eb ((w8.alloc (.cells #[.int .u8 98] 5 (1, 2))).alloc (.cells #[.int .u8 97] 5 (1, 2))) ge (.slice (some ⟨gk, 0, none⟩) 3 3) (.slice (some ⟨gv, 0, none⟩) 2 2)) := Lib.hid ((hba.block ge (E1.out.lt)).trans E1.out)
  replace Ob := Lib.hid (Ob.out.keep hba)
  replace Xk := Lib.hid (Xk.out.keep hba)
  replace Xv := Lib.hid (Xv.out.keep hba)
  replace E2 : Hid (Eb ((w8.alloc (.cells #[.int .u8 98] 5 (1, 2))).alloc (.cells #[.int .u8 97] 5 (1, 2))) gx (.slice akx 3 ckx) (.slice avx 2 cvx)) := Lib.hid ((hba.block gx (E2.out.lt)).trans E2.out)
  replace Om := Lib.hid (Om.out.keep hba)
  have sz13 : w8.heap.size ≤ ((w8.alloc (.cells #[.int .u8 98] 5 (1, 2))).alloc (.cells #[.int .u8 97] 5 (1, 2))).heap.size := hba.size
  clear hba hh0 hh1
  go_wp2_with fail
  generalize hgw : ((w8.alloc (.cells #[.int .u8 98] 5 (1, 2))).alloc (.cells #[.int .u8 97] 5 (1, 2))) = v13 at *
  clear hgw
  have hbt := between_any _ 1 _ [98] _ 1 _ [97] _ (by omega) (by omega) T1.out T2.out
  rw [nm_7.1, nm_7.2] at hbt
  refine (hbt).mono ?_
  rintro e w9 ⟨_, rfl, ho, hb⟩
  have s9 : v13.heap.size ≤ w9.heap.size := hb.size
  clear hbt
  obtain ⟨aOn, nOn, cOn, rfl, zOn⟩ := ho.slN
  obtain rfl : 0 = nOn := by exact zOn.len
  have OnL := Lib.hid ho.lt
  have On := Lib.hid ho; clear ho zOn
  replace G := Lib.hid (keep_trans G.out hb)
  replace Tk := Lib.hid (Tk.out.keep hb)
  replace Tv := Lib.hid (Tv.out.keep hb)
  replace E1 : Hid (Eb w9 ge (.slice (some ⟨gk, 0, none⟩) 3 3) (.slice (some ⟨gv, 0, none⟩) 2 2)) := Lib.hid ((hb.block ge (E1.out.lt)).trans E1.out)
  replace Ob := Lib.hid (Ob.out.keep hb)
  replace Xk := Lib.hid (Xk.out.keep hb)
  replace Xv := Lib.hid (Xv.out.keep hb)
  replace E2 : Hid (Eb w9 gx (.slice akx 3 ckx) (.slice avx 2 cvx)) := Lib.hid ((hb.block gx (E2.out.lt)).trans E2.out)
  replace Om := Lib.hid (Om.out.keep hb)
  replace T1 := Lib.hid (T1.out.keep hb)
  replace T2 := Lib.hid (T2.out.keep hb)
  clear hb
  clear T1 T2 On
  have hba : Below w9.heap.size w9 (w9.alloc (.cells #[.int .u8 2, .int .u8 1, .int .u8 2, .int .u8 120, .int .u8 49, .int .u8 50] 5)) := (Below.refl w9.heap.size w9).alloc (Nat.le_refl _) (.cells #[.int .u8 2, .int .u8 1, .int .u8 2, .int .u8 120, .int .u8 49, .int .u8 50] 5)
  have hh0 := heap_new w9 (.cells #[.int .u8 2, .int .u8 1, .int .u8 2, .int .u8 120, .int .u8 49, .int .u8 50] 5)
  have T1 : Hid (Sl Bf (w9.alloc (.cells #[.int .u8 2, .int .u8 1, .int .u8 2, .int .u8 120, .int .u8 49, .int .u8 50] 5)) (some ⟨w9.heap.size, 0, none⟩) 6 6 [2, 1, 2, 120, 49, 50]) := Lib.hid (Sl.of_row [2, 1, 2, 120, 49, 50] 6 6 hh0 rfl (Nat.le_refl _) rfl)
  replace G := Lib.hid (keep_trans G.out hba)
  replace Tk := Lib.hid (Tk.out.keep hba)
  replace Tv := Lib.hid (Tv.out.keep hba)
  replace E1 : Hid (Eb (w9.alloc (.cells #[.int .u8 2, .int .u8 1, .int .u8 2, .int .u8 120, .int .u8 49, .int .u8 50] 5)) ge (.slice (some ⟨gk, 0, none⟩) 3 3) (.slice (some ⟨gv, 0, none⟩) 2 2)) := Lib.hid ((hba.block ge (E1.out.lt)).trans E1.out)
  replace Ob := Lib.hid (Ob.out.keep hba)
  replace Xk := Lib.hid (Xk.out.keep hba)
  replace Xv := Lib.hid (Xv.out.keep hba)
  replace E2 : Hid (Eb (w9.alloc (.cells #[.int .u8 2, .int .u8 1, .int .u8 2, .int .u8 120, .int .u8 49, .int .u8 50] 5)) gx (.slice akx 3 ckx) (.slice avx 2 cvx)) := Lib.hid ((hba.block gx (E2.out.lt)).trans E2.out)
  replace Om := Lib.hid (Om.out.keep hba)
  have sz14 : w9.heap.size ≤ (w9.alloc (.cells #[.int .u8 2, .int .u8 1, .int .u8 2, .int .u8 120, .int .u8 49, .int .u8 50] 5)).heap.size := hba.size
  clear hba hh0
  go_wp2_with fail
  generalize hgw : (w9.alloc (.cells #[.int .u8 2, .int .u8 1, .int .u8 2, .int .u8 120, .int .u8 49, .int .u8 50] 5)) = v14 at *
  clear hgw
  refine (same_any _ 6 _ [2, 1, 2, 120, 49, 50] _ 6 _ [2, 1, 2, 120, 49, 50] _ (by decide) (by decide) Ob.out.slI T1.out).mono ?_
  rintro e w10 ⟨rfl, hb⟩
  have s10 : v14.heap.size ≤ w10.heap.size := hb.size
  rw [decide_eq_true rfl]
  replace G := Lib.hid (keep_trans G.out hb)
  replace Tk := Lib.hid (Tk.out.keep hb)
  replace Tv := Lib.hid (Tv.out.keep hb)
  replace E1 : Hid (Eb w10 ge (.slice (some ⟨gk, 0, none⟩) 3 3) (.slice (some ⟨gv, 0, none⟩) 2 2)) := Lib.hid ((hb.block ge (E1.out.lt)).trans E1.out)
  replace Ob := Lib.hid (Ob.out.keep hb)
  replace Xk := Lib.hid (Xk.out.keep hb)
  replace Xv := Lib.hid (Xv.out.keep hb)
  replace E2 : Hid (Eb w10 gx (.slice akx 3 ckx) (.slice avx 2 cvx)) := Lib.hid ((hb.block gx (E2.out.lt)).trans E2.out)
  replace Om := Lib.hid (Om.out.keep hb)
  replace T1 := Lib.hid (T1.out.keep hb)
  clear hb
  clear T1
  have hba : Below w10.heap.size w10 (w10.alloc (.cells #[.int .u8 97, .int .u8 98, .int .u8 120] 5 (3, 4))) := (Below.refl w10.heap.size w10).alloc (Nat.le_refl _) (.cells #[.int .u8 97, .int .u8 98, .int .u8 120] 5 (3, 4))
  have hh0 := heap_new w10 (.cells #[.int .u8 97, .int .u8 98, .int .u8 120] 5 (3, 4))
  have T1 : Hid (Sl Bf (w10.alloc (.cells #[.int .u8 97, .int .u8 98, .int .u8 120] 5 (3, 4))) (some ⟨w10.heap.size, 0, none⟩) 3 3 [97, 98, 120]) := Lib.hid (Sl.of_row [97, 98, 120] 3 3 hh0 rfl (Nat.le_refl _) rfl)
  replace G := Lib.hid (keep_trans G.out hba)
  replace Tk := Lib.hid (Tk.out.keep hba)
  replace Tv := Lib.hid (Tv.out.keep hba)
  replace E1 : Hid (Eb (w10.alloc (.cells #[.int .u8 97, .int .u8 98, .int .u8 120] 5 (3, 4))) ge (.slice (some ⟨gk, 0, none⟩) 3 3) (.slice (some ⟨gv, 0, none⟩) 2 2)) := Lib.hid ((hba.block ge (E1.out.lt)).trans E1.out)
  replace Ob := Lib.hid (Ob.out.keep hba)
  replace Xk := Lib.hid (Xk.out.keep hba)
  replace Xv := Lib.hid (Xv.out.keep hba)
  replace E2 : Hid (Eb (w10.alloc (.cells #[.int .u8 97, .int .u8 98, .int .u8 120] 5 (3, 4))) gx (.slice akx 3 ckx) (.slice avx 2 cvx)) := Lib.hid ((hba.block gx (E2.out.lt)).trans E2.out)
  replace Om := Lib.hid (Om.out.keep hba)
  have sz15 : w10.heap.size ≤ (w10.alloc (.cells #[.int .u8 97, .int .u8 98, .int .u8 120] 5 (3, 4))).heap.size := hba.size
  clear hba hh0
  go_wp2_with fail
  generalize hgw : (w10.alloc (.cells #[.int .u8 97, .int .u8 98, .int .u8 120] 5 (3, 4))) = v15 at *
  clear hgw
  refine (same_any _ 3 _ [97, 98, 120] _ 3 _ [97, 98, 120] _ (by decide) (by decide) Om.out.slI T1.out).mono ?_
  rintro e w11 ⟨rfl, hb⟩
  have s11 : v15.heap.size ≤ w11.heap.size := hb.size
  rw [decide_eq_true rfl]
  replace G := Lib.hid (keep_trans G.out hb)
  replace Tk := Lib.hid (Tk.out.keep hb)
  replace Tv := Lib.hid (Tv.out.keep hb)
  replace E1 : Hid (Eb w11 ge (.slice (some ⟨gk, 0, none⟩) 3 3) (.slice (some ⟨gv, 0, none⟩) 2 2)) := Lib.hid ((hb.block ge (E1.out.lt)).trans E1.out)
  replace Ob := Lib.hid (Ob.out.keep hb)
  replace Xk := Lib.hid (Xk.out.keep hb)
  replace Xv := Lib.hid (Xv.out.keep hb)
  replace E2 : Hid (Eb w11 gx (.slice akx 3 ckx) (.slice avx 2 cvx)) := Lib.hid ((hb.block gx (E2.out.lt)).trans E2.out)
  replace Om := Lib.hid (Om.out.keep hb)
  replace T1 := Lib.hid (T1.out.keep hb)
  clear hb
  clear T1
  have p0 := E1.out.c0
  have p1 := E1.out.c1
  have r0 := E2.out.c0
  have r1 := E2.out.c1
  go_wp2_with fail
  refine (esame_any _ _ _ _ _ _ _ _ _ _ _ _ [97, 98, 120] [49, 50] [97, 98, 120] [49, 50] _ Xk.out Xv.out Tk.out Tv.out).mono ?_
  rintro e w12 ⟨rfl, hb⟩
  have s12 : w11.heap.size ≤ w12.heap.size := hb.size
  rw [decide_eq_true rfl, decide_eq_true rfl, Bool.true_and]
  replace G := Lib.hid (keep_trans G.out hb)
  replace Tk := Lib.hid (Tk.out.keep hb)
  replace Tv := Lib.hid (Tv.out.keep hb)
  replace E1 : Hid (Eb w12 ge (.slice (some ⟨gk, 0, none⟩) 3 3) (.slice (some ⟨gv, 0, none⟩) 2 2)) := Lib.hid ((hb.block ge (E1.out.lt)).trans E1.out)
  replace Ob := Lib.hid (Ob.out.keep hb)
  replace Xk := Lib.hid (Xk.out.keep hb)
  replace Xv := Lib.hid (Xv.out.keep hb)
  replace E2 : Hid (Eb w12 gx (.slice akx 3 ckx) (.slice avx 2 cvx)) := Lib.hid ((hb.block gx (E2.out.lt)).trans E2.out)
  replace Om := Lib.hid (Om.out.keep hb)
  clear hb
  go_wp2_with fail
  go_ret
  exact ⟨ret_bool (by simp), G.out⟩
end Go.Proofs.Ytajmojldckpchaa
