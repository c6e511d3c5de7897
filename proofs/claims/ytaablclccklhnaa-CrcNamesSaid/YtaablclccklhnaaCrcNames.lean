/- CrcNames: the walk: the law's Go text returns true and writes nothing that was there. No condition. Written by a program of this place (gen_CrcNames.py). -/
import Derived.Test.YtaablclccklhnaaCrcParts
import Derived.Test.YtaablclccklhnaaCrcSeals
import Derived.Test.YtaablclccklhnaaCrcPatchP
import Derived.Lib.SlBytesConst
import Derived.Deep.DeepCutAuto
namespace Go.Proofs.Ytaablclccklhnaa
open Go.RowKit

theorem sl_const (w : World) (E : TypeId) (cur : Array Value) (fr : Nat × Nat) (xs : List UInt8) (n : Nat) (hl : xs.length = n) (hx : cur.toList = xs.map Bf) :
    Sl Bf (w.alloc (.cells cur E fr)) (some ⟨w.heap.size, 0, none⟩) n n xs :=
  Sl.of_row xs n n (g := w.heap.size) (E := E) (fr := fr) (cur := cur) (heap_new w _) hl (Nat.le_refl _) (by rw [hx, List.take_of_length_le (by simp [hl])])

theorem names_fact : sum [49, 50, 51, 52, 53, 54, 55, 56, 57] = 0xcbf43926#32 := by decide +kernel
theorem join_negI (a b : BitVec 32) {x y n : Int} (hx : x = U a) (hy : y = U b) (w : World) (hn : n < 0) :
    Calls Try.prog 34 #[.int .u32 x, .int .u32 y, .int .i64 n] w fun e w' => e = .returned (.tuple #[.int .u32 0, .int .i64 1]) ∧ Below w.heap.size w w' := by
  subst hx; subst hy
  refine (join_neg a b n w hn).mono ?_
  rintro e w' ⟨rfl, rfl⟩
  exact ⟨rfl, Below.refl _ _⟩
theorem open3 (a : Option Addr) (w : World) (h : Sl Bf w a 3 3 [1, 2, 3]) :
    Calls Try.prog 27 #[.slice a 3 3] w fun e w' => ∃ v, e = .returned (.tuple #[v, .int .i64 21]) ∧ Below w.heap.size w w' := by
  refine (open_any a 3 3 _ w (by decide) h).mono ?_
  rintro e w' ⟨v, rfl, _, hb⟩
  exact ⟨v, rfl, hb⟩
theorem open5_fact : openE [97, 67, 190, 183, 233] = 22 := by decide +kernel
theorem open5 (a : Option Addr) (w : World) (h : Sl Bf w a 5 5 [97, 67, 190, 183, 233]) :
    Calls Try.prog 27 #[.slice a 5 5] w fun e w' => ∃ v, e = .returned (.tuple #[v, .int .i64 22]) ∧ Below w.heap.size w w' := by
  refine (open_any a 5 5 _ w (by decide) h).mono ?_
  rintro e w' ⟨v, rfl, _, hb⟩
  exact ⟨v, by rw [open5_fact], hb⟩
theorem patch_fact : sum (put4 [49, 50, 51, 52] 0 0x6dd90a9d#32) = 0#32 := by decide +kernel
theorem put_fact : put4 [49, 50, 51, 52] 0 0x6dd90a9d#32 = [157, 10, 217, 109] := by decide +kernel
theorem patch_lit (a : Option Addr) (w : World) (h : Sl Bf w a 4 4 [49, 50, 51, 52]) :
    Calls Try.prog 32 #[.slice a 4 4, .int .i64 0, .int .u32 0] w fun e w' => ∃ v, e = .returned (.tuple #[v, .int .i64 0]) ∧ OwT fB w' w.heap.size 5 v [157, 10, 217, 109] ∧ Below w.heap.size w w' := by
  refine (patch_any a 4 4 _ 0 0#32 w (by decide) (by decide) h).mono ?_
  rintro e w' ⟨v, q, rfl, hv, hs, hb⟩
  obtain rfl : q = 0x6dd90a9d#32 := put4_inj _ _ (hs.trans patch_fact.symm)
  rw [put_fact] at hv
  exact ⟨v, rfl, hv, hb⟩

set_option maxHeartbeats 1000000 in
set_option maxRecDepth 100000 in
theorem crcNames_walk (w : World) :
    Calls Try.prog 12 #[] w fun e w' => e = .returned (.bool true) ∧ Below w.heap.size w w' := by
  have kc := fun (w : World) (C : Array Value) (n c : Nat) => Lib.run_convert_bytes_const (P := Try.prog) w 22 5 C n c Try.underlying22 Try.underlying5
  go_enter Try.func12, Try.ntmps12
  go_wp2_with fail
  refine (lives_any _).mono ?_
  rintro e w1 ⟨rfl, hb⟩
  have G := Lib.hid hb
  clear hb
  have hs9 := sl_const w1 5 #[.int .u8 49, .int .u8 50, .int .u8 51, .int .u8 52, .int .u8 53, .int .u8 54, .int .u8 55, .int .u8 56, .int .u8 57] (9, 10) [49, 50, 51, 52, 53, 54, 55, 56, 57] 9 rfl rfl
  have hb9 : Below w1.heap.size w1 (w1.alloc (.cells #[.int .u8 49, .int .u8 50, .int .u8 51, .int .u8 52, .int .u8 53, .int .u8 54, .int .u8 55, .int .u8 56, .int .u8 57] 5 (9, 10))) := (Below.refl _ _).alloc (Nat.le_refl _) _
  have S9 := Lib.hid hs9; clear hs9
  have Z9 := Lib.hid hb9; clear hb9
  go_wp2_with fail
  refine (sum_any _ 9 9 [49, 50, 51, 52, 53, 54, 55, 56, 57] _ (by decide) S9.out).mono ?_
  rintro e w2 ⟨rfl, rfl⟩
  replace G := Lib.hid (keep_trans G.out Z9.out); clear Z9
  go_upto_region 4 with (fail)
  have S4 := Lib.hid (S9.out.upto 4 (by decide))
  have S5 := Lib.hid (S9.out.from 4 (by decide))
  generalize w1.alloc (.cells #[.int .u8 49, .int .u8 50, .int .u8 51, .int .u8 52, .int .u8 53, .int .u8 54, .int .u8 55, .int .u8 56, .int .u8 57] 5 (9, 10)) = w2 at *
  generalize w1.heap.size = g at *
  go_cut [4, 5] from 20 to 29 (fun x y wx => x = .int .u32 (U (sum [49, 50, 51, 52, 53, 54, 55, 56, 57])) ∧ y = .int .i64 0 ∧ Below w2.heap.size w2 wx)
  case first =>
    go_region_with (first
      | (go_at_call 14; refine (sum_any _ 4 9 [49, 50, 51, 52] _ (by decide) S4.out.drew).mono ?_; rintro e w' ⟨rfl, rfl⟩)
      | (go_at_call 14; refine (sum_any _ 5 5 [53, 54, 55, 56, 57] _ (by decide) S5.out.drew).mono ?_; rintro e w' ⟨rfl, rfl⟩)
      | (go_at_call 34; refine (join_sums [49, 50, 51, 52] [53, 54, 55, 56, 57] rfl (by decide) _).mono ?_; rintro e w3 ⟨rfl, hb⟩))
    all_goals go_wp2_with fail
    all_goals go_meet
    all_goals exact ⟨rfl, rfl, (Below.refl _ _).drew.trans hb⟩
  case rest =>
    obtain ⟨rfl, rfl, hb⟩ := hcut
    replace G := Lib.hid (keep_trans G.out hb)
    clear hb S4 S5 S9
    generalize wc = w3 at *
    go_wp2_with fail
    refine (join_negI 1#32 1#32 rfl rfl _ (by decide)).mono ?_
    rintro e w4 ⟨rfl, hb⟩
    replace G := Lib.hid (keep_trans G.out hb)
    clear hb
    have hs := sl_const w4 5 #[.int .u8 1, .int .u8 2, .int .u8 3] (0, 0) [1, 2, 3] 3 rfl rfl
    have hz : Below w4.heap.size w4 (w4.alloc (.cells #[.int .u8 1, .int .u8 2, .int .u8 3] 5)) := (Below.refl _ _).alloc (Nat.le_refl _) _
    have S := Lib.hid hs; clear hs
    have Z := Lib.hid hz; clear hz
    go_wp2_with fail
    replace G := Lib.hid (keep_trans G.out Z.out)
    refine (open3 _ _ S.out).mono ?_
    rintro e w5 ⟨v3, rfl, hb⟩
    replace G := Lib.hid (keep_trans G.out hb)
    clear hb
    clear S Z
    have hs := sl_const w5 5 #[.int .u8 97, .int .u8 67, .int .u8 190, .int .u8 183, .int .u8 233] (0, 0) [97, 67, 190, 183, 233] 5 rfl rfl
    have hz : Below w5.heap.size w5 (w5.alloc (.cells #[.int .u8 97, .int .u8 67, .int .u8 190, .int .u8 183, .int .u8 233] 5)) := (Below.refl _ _).alloc (Nat.le_refl _) _
    have S := Lib.hid hs; clear hs
    have Z := Lib.hid hz; clear hz
    go_wp2_with fail
    replace G := Lib.hid (keep_trans G.out Z.out)
    refine (open5 _ _ S.out).mono ?_
    rintro e w6 ⟨v5, rfl, hb⟩
    replace G := Lib.hid (keep_trans G.out hb)
    clear hb
    clear S Z
    have hs := sl_const w6 5 #[.int .u8 49, .int .u8 50, .int .u8 51, .int .u8 52] (4, 5) [49, 50, 51, 52] 4 rfl rfl
    have hz : Below w6.heap.size w6 (w6.alloc (.cells #[.int .u8 49, .int .u8 50, .int .u8 51, .int .u8 52] 5 (4, 5))) := (Below.refl _ _).alloc (Nat.le_refl _) _
    have S := Lib.hid hs; clear hs
    have Z := Lib.hid hz; clear hz
    go_wp2_with fail
    replace G := Lib.hid (keep_trans G.out Z.out)
    refine (patch_lit _ _ S.out).mono ?_
    rintro e w7 ⟨v, rfl, hv, hb⟩
    have O := Lib.hid hv; clear hv
    replace G := Lib.hid (keep_trans G.out hb)
    clear hb
    clear S Z
    obtain ⟨ad, nn, cp, rfl, zv⟩ := O.out.slN; clear zv
    have hs := sl_const w7 5 #[.int .u8 157, .int .u8 10, .int .u8 217, .int .u8 109] (0, 0) [157, 10, 217, 109] 4 rfl rfl
    have hz : Below w7.heap.size w7 (w7.alloc (.cells #[.int .u8 157, .int .u8 10, .int .u8 217, .int .u8 109] 5)) := (Below.refl _ _).alloc (Nat.le_refl _) _
    have S := Lib.hid hs; clear hs
    have Z := Lib.hid hz; clear hz
    go_wp2_with fail
    replace G := Lib.hid (keep_trans G.out Z.out)
    replace O := Lib.hid (O.out.keep Z.out)
    refine (same_any _ _ _ _ _ _ _ _ _ (by have := O.out.slI.len; simp at this; omega) (by decide) O.out.slI S.out).mono ?_
    rintro e w8 ⟨rfl, hb⟩
    replace G := Lib.hid (keep_trans G.out hb)
    replace O := Lib.hid (O.out.keep hb)
    clear hb
    clear S Z
    go_wp2_with fail
    go_ret
    exact ⟨ret_bool (by simp), G.out⟩
end Go.Proofs.Ytaablclccklhnaa
