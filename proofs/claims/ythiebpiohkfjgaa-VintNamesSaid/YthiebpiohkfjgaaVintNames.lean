/- VintNames: the walk. No condition. Written by a program of this place (gen_VintNames.py). -/
import Derived.Test.YthiebpiohkfjgaaVintRList
namespace Go.Proofs.Ythiebpiohkfjgaa
open Go.RowKit

theorem vb_max : vb 18446744073709551615 = [255, 255, 255, 255, 255, 255, 255, 255, 255, 1] := by
  rw [vb_ge (show ¬ 18446744073709551615 < 128 by decide), show 18446744073709551615 / 128 = 144115188075855871 from rfl]
  rw [vb_ge (show ¬ 144115188075855871 < 128 by decide), show 144115188075855871 / 128 = 1125899906842623 from rfl]
  rw [vb_ge (show ¬ 1125899906842623 < 128 by decide), show 1125899906842623 / 128 = 8796093022207 from rfl]
  rw [vb_ge (show ¬ 8796093022207 < 128 by decide), show 8796093022207 / 128 = 68719476735 from rfl]
  rw [vb_ge (show ¬ 68719476735 < 128 by decide), show 68719476735 / 128 = 536870911 from rfl]
  rw [vb_ge (show ¬ 536870911 < 128 by decide), show 536870911 / 128 = 4194303 from rfl]
  rw [vb_ge (show ¬ 4194303 < 128 by decide), show 4194303 / 128 = 32767 from rfl]
  rw [vb_ge (show ¬ 32767 < 128 by decide), show 32767 / 128 = 255 from rfl]
  rw [vb_ge (show ¬ 255 < 128 by decide), show 255 / 128 = 1 from rfl]
  rw [vb_lt (show 1 < 128 by decide)]
  rfl
theorem vb_128 : vb 128 = [128, 1] := by
  rw [vb_ge (by decide), vb_lt (by decide)]; rfl
theorem vb_300 : vb 300 = [172, 2] := by
  rw [vb_ge (by decide), vb_lt (by decide)]; rfl
theorem vnm_1 : rd ([172, 2, 7].drop 2) 0 0 = (7, 1, 0) := by decide +kernel
theorem vnm_2 : rd ([128, 0].drop 0) 0 0 = (0, 1, 13) := by decide +kernel
theorem vnm_3 : rd ([128].drop 0) 0 0 = (0, 1, 11) := by decide +kernel
theorem vnm_4 : rd ([255, 255, 255, 255, 255, 255, 255, 255, 255, 2].drop 0) 0 0 = (0, 9, 12) := by decide +kernel
theorem vnm_5 : nums [5, 172, 2, 128, 0] = [(0, 5), (1, 300)] := by decide +kernel
theorem vnm_6 : lst [5, 172, 2, 128, 0] = ([], 13, 4) := by
  have ha : aft (nums [5, 172, 2, 128, 0]) = 3 := by
    rw [vnm_5, show ([(0, 5), (1, 300)] : List (Nat × Nat)) = [(0, 5)] ++ [(1, 300)] from rfl, aft_snoc]
    show 1 + (vb 300).length = 3
    rw [vb_300]; rfl
  unfold lst
  rw [ha, if_neg (by decide)]
  decide +kernel
theorem vbytes_lit {x : Int} (n : Nat) (w : World) (hx : x = (n : Int)) (hn : n < 18446744073709551616) (bs : List UInt8) (hb : vb n = bs) :
    Calls Try.prog 16 #[.int .u64 x] w fun e w' => ∃ v, e = .returned v ∧ OwT fB w' w.heap.size 5 v bs ∧ Below w.heap.size w w' := by
  subst hx hb; exact vbytes_any n w hn
theorem vread_lit {x : Int} (a : Option Addr) (c : Nat) (xs : List UInt8) (n m : Nat) (w : World) (v k : Nat) (er : Int) (hl : xs.length = n) (hx : x = (m : Int)) (hn : n ≤ 1000) (hm : m ≤ n) (hr : rd (xs.drop m) 0 0 = (v, k, er)) (h : Sl Bf w a n c xs) :
    Calls Try.prog 13 #[.slice a n c, .int .i64 x] w fun e w' => e = .returned (.tuple #[.int .u64 v, .int .i64 ((m + k : Nat) : Int), .int .i64 er]) ∧ Below w.heap.size w w' := by
  subst hx
  have := vread_any a n c xs m w (by omega) hm h
  rw [hr] at this; exact this

theorem vlist_lit {w : World} {a : Option Addr} {c : Nat} (h : Sl Bf w a 5 c [5, 172, 2, 128, 0]) :
    Calls Try.prog 29 #[.slice a 5 c] w fun e w' => ∃ v, e = .returned (.tuple #[v, .int .i64 13, .int .i64 4]) ∧ OwT fN w' w.heap.size 26 v [] ∧ Below w.heap.size w w' := by
  have := vlist_any a c [5, 172, 2, 128, 0] w (by decide) (by rw [vnm_5]; decide) h
  rw [vnm_6] at this; exact this

set_option maxHeartbeats 4000000 in
set_option maxRecDepth 100000 in
theorem vintNames_walk (w : World) : Calls Try.prog 9 #[] w fun e w' => e = .returned (.bool true) ∧ Below w.heap.size w w' := by
  go_enter Try.func9, Try.ntmps9
  go_wp2_with fail
  refine (lives_any _).mono ?_
  rintro e w1 ⟨rfl, hb⟩
  have G := Lib.hid hb; clear hb
  go_wp2_with fail
  refine (vbytes_lit 128 _ rfl (by decide) _ vb_128).mono ?_
  rintro e w2 ⟨_, rfl, ho, hb⟩
  have s2 : w1.heap.size ≤ w2.heap.size := hb.size
  obtain ⟨aOa, nOa, cOa, rfl, zOa⟩ := ho.slN
  obtain rfl : 2 = nOa := by exact zOa.len
  have OaL := Lib.hid ho.lt
  have Oa := Lib.hid ho; clear ho zOa
  replace G := Lib.hid (keep_trans G.out hb)
  clear hb
  go_wp2_with fail
  refine (vbytes_lit 18446744073709551615 _ rfl (by decide) _ vb_max).mono ?_
  rintro e w3 ⟨_, rfl, ho, hb⟩
  have s3 : w2.heap.size ≤ w3.heap.size := hb.size
  obtain ⟨aOb, nOb, cOb, rfl, zOb⟩ := ho.slN
  obtain rfl : 10 = nOb := by exact zOb.len
  have ObL := Lib.hid ho.lt
  have Ob := Lib.hid ho; clear ho zOb
  replace G := Lib.hid (keep_trans G.out hb)
  replace Oa := Lib.hid (Oa.out.keep hb)
  clear hb
  go_wp2_with fail
  have hba : Below w3.heap.size w3 (w3.alloc (.cells #[.int .u8 172, .int .u8 2, .int .u8 7] 5)) := (Below.refl _ _).alloc (Nat.le_refl _) _
  have hS : Sl Bf (w3.alloc (.cells #[.int .u8 172, .int .u8 2, .int .u8 7] 5)) (some ⟨w3.heap.size, 0, none⟩) 3 3 [172, 2, 7] := Sl.lit _ _ _ _ _ rfl rfl
  have SS := Lib.hid hS; clear hS
  replace G := Lib.hid (keep_trans G.out hba)
  replace Oa := Lib.hid (Oa.out.keep hba)
  replace Ob := Lib.hid (Ob.out.keep hba)
  clear hba
  generalize (w3.alloc (.cells #[.int .u8 172, .int .u8 2, .int .u8 7] 5)) = v0 at *
  refine (vread_lit _ _ [172, 2, 7] 3 2 _ 7 1 0 rfl rfl (by decide) (by decide) vnm_1 SS.out).mono ?_
  rintro e w4 ⟨rfl, hb⟩
  have s4 : v0.heap.size ≤ w4.heap.size := hb.size
  replace G := Lib.hid (keep_trans G.out hb)
  replace Oa := Lib.hid (Oa.out.keep hb)
  replace Ob := Lib.hid (Ob.out.keep hb)
  clear hb
  go_wp2_with fail
  have hba : Below w4.heap.size w4 (w4.alloc (.cells #[.int .u8 128, .int .u8 0] 5)) := (Below.refl _ _).alloc (Nat.le_refl _) _
  have hS : Sl Bf (w4.alloc (.cells #[.int .u8 128, .int .u8 0] 5)) (some ⟨w4.heap.size, 0, none⟩) 2 2 [128, 0] := Sl.lit _ _ _ _ _ rfl rfl
  have SS := Lib.hid hS; clear hS
  replace G := Lib.hid (keep_trans G.out hba)
  replace Oa := Lib.hid (Oa.out.keep hba)
  replace Ob := Lib.hid (Ob.out.keep hba)
  clear hba
  generalize (w4.alloc (.cells #[.int .u8 128, .int .u8 0] 5)) = v1 at *
  refine (vread_lit _ _ [128, 0] 2 0 _ 0 1 13 rfl rfl (by decide) (by decide) vnm_2 SS.out).mono ?_
  rintro e w5 ⟨rfl, hb⟩
  have s5 : v1.heap.size ≤ w5.heap.size := hb.size
  replace G := Lib.hid (keep_trans G.out hb)
  replace Oa := Lib.hid (Oa.out.keep hb)
  replace Ob := Lib.hid (Ob.out.keep hb)
  clear hb
  go_wp2_with fail
  have hba : Below w5.heap.size w5 (w5.alloc (.cells #[.int .u8 128] 5)) := (Below.refl _ _).alloc (Nat.le_refl _) _
  have hS : Sl Bf (w5.alloc (.cells #[.int .u8 128] 5)) (some ⟨w5.heap.size, 0, none⟩) 1 1 [128] := Sl.lit _ _ _ _ _ rfl rfl
  have SS := Lib.hid hS; clear hS
  replace G := Lib.hid (keep_trans G.out hba)
  replace Oa := Lib.hid (Oa.out.keep hba)
  replace Ob := Lib.hid (Ob.out.keep hba)
  clear hba
  generalize (w5.alloc (.cells #[.int .u8 128] 5)) = v2 at *
  refine (vread_lit _ _ [128] 1 0 _ 0 1 11 rfl rfl (by decide) (by decide) vnm_3 SS.out).mono ?_
  rintro e w6 ⟨rfl, hb⟩
  have s6 : v2.heap.size ≤ w6.heap.size := hb.size
  replace G := Lib.hid (keep_trans G.out hb)
  replace Oa := Lib.hid (Oa.out.keep hb)
  replace Ob := Lib.hid (Ob.out.keep hb)
  clear hb
  go_wp2_with fail
  have hba : Below w6.heap.size w6 (w6.alloc (.cells #[.int .u8 255, .int .u8 255, .int .u8 255, .int .u8 255, .int .u8 255, .int .u8 255, .int .u8 255, .int .u8 255, .int .u8 255, .int .u8 2] 5)) := (Below.refl _ _).alloc (Nat.le_refl _) _
  have hS : Sl Bf (w6.alloc (.cells #[.int .u8 255, .int .u8 255, .int .u8 255, .int .u8 255, .int .u8 255, .int .u8 255, .int .u8 255, .int .u8 255, .int .u8 255, .int .u8 2] 5)) (some ⟨w6.heap.size, 0, none⟩) 10 10 [255, 255, 255, 255, 255, 255, 255, 255, 255, 2] := Sl.lit _ _ _ _ _ rfl rfl
  have SS := Lib.hid hS; clear hS
  replace G := Lib.hid (keep_trans G.out hba)
  replace Oa := Lib.hid (Oa.out.keep hba)
  replace Ob := Lib.hid (Ob.out.keep hba)
  clear hba
  generalize (w6.alloc (.cells #[.int .u8 255, .int .u8 255, .int .u8 255, .int .u8 255, .int .u8 255, .int .u8 255, .int .u8 255, .int .u8 255, .int .u8 255, .int .u8 2] 5)) = v3 at *
  refine (vread_lit _ _ [255, 255, 255, 255, 255, 255, 255, 255, 255, 2] 10 0 _ 0 9 12 rfl rfl (by decide) (by decide) vnm_4 SS.out).mono ?_
  rintro e w7 ⟨rfl, hb⟩
  have s7 : v3.heap.size ≤ w7.heap.size := hb.size
  replace G := Lib.hid (keep_trans G.out hb)
  replace Oa := Lib.hid (Oa.out.keep hb)
  replace Ob := Lib.hid (Ob.out.keep hb)
  clear hb
  go_wp2_with fail
  have hba : Below w7.heap.size w7 (w7.alloc (.cells #[.int .u8 5, .int .u8 172, .int .u8 2, .int .u8 128, .int .u8 0] 5)) := (Below.refl _ _).alloc (Nat.le_refl _) _
  have hS : Sl Bf (w7.alloc (.cells #[.int .u8 5, .int .u8 172, .int .u8 2, .int .u8 128, .int .u8 0] 5)) (some ⟨w7.heap.size, 0, none⟩) 5 5 [5, 172, 2, 128, 0] := Sl.lit _ _ _ _ _ rfl rfl
  have SS := Lib.hid hS; clear hS
  replace G := Lib.hid (keep_trans G.out hba)
  replace Oa := Lib.hid (Oa.out.keep hba)
  replace Ob := Lib.hid (Ob.out.keep hba)
  clear hba
  generalize (w7.alloc (.cells #[.int .u8 5, .int .u8 172, .int .u8 2, .int .u8 128, .int .u8 0] 5)) = v4 at *
  refine (vlist_lit SS.out).mono ?_
  rintro e w8 ⟨_, rfl, ho, hb⟩
  have s8 : v4.heap.size ≤ w8.heap.size := hb.size
  obtain ⟨al, nl, cl, rfl, zl⟩ := ho.slM
  obtain rfl : 0 = nl := zl.len
  clear ho zl
  replace G := Lib.hid (keep_trans G.out hb)
  replace Oa := Lib.hid (Oa.out.keep hb)
  replace Ob := Lib.hid (Ob.out.keep hb)
  clear hb
  go_wp2_with fail
  have hba : Below w8.heap.size w8 (w8.alloc (.cells #[.int .u8 128, .int .u8 1] 5)) := (Below.refl _ _).alloc (Nat.le_refl _) _
  have hS : Sl Bf (w8.alloc (.cells #[.int .u8 128, .int .u8 1] 5)) (some ⟨w8.heap.size, 0, none⟩) 2 2 [128, 1] := Sl.lit _ _ _ _ _ rfl rfl
  have SS := Lib.hid hS; clear hS
  replace G := Lib.hid (keep_trans G.out hba)
  replace Oa := Lib.hid (Oa.out.keep hba)
  replace Ob := Lib.hid (Ob.out.keep hba)
  clear hba
  generalize (w8.alloc (.cells #[.int .u8 128, .int .u8 1] 5)) = v5 at *
  refine (same_any _ 2 _ [128, 1] _ 2 _ [128, 1] _ (by decide) (by decide) Oa.out.slI SS.out).mono ?_
  rintro e w9 ⟨rfl, hb⟩
  have s9 : v5.heap.size ≤ w9.heap.size := hb.size
  rw [decide_eq_true rfl]
  replace G := Lib.hid (keep_trans G.out hb)
  replace Oa := Lib.hid (Oa.out.keep hb)
  replace Ob := Lib.hid (Ob.out.keep hb)
  clear hb
  obtain ⟨b9, o9, rfl, h9⟩ := Ob.out.slI.2.2.2 9 1 rfl
  have h9 : w9.cell? ⟨b9, o9 + 9, none⟩ = some (.int .u8 1) := h9
  go_wp2_with fail
  go_ret
  exact ⟨ret_bool (by simp), G.out⟩
end Go.Proofs.Ythiebpiohkfjgaa
