/- Copy of a source into a sink; lives. Conditions: numbers within reach. -/
import Derived.Test.YtjkgncogpefnbaaPipeCopy
namespace Go.Proofs.Ytjkgncogpefnbaa
open Go.RowKit Go.Shelf
set_option linter.unusedVariables false

theorem methR (g : Nat) (w : World) : (method 215 27 (.pointer (some ⟨g, 0, none⟩)) "Read").run Try.prog w = .ok (16, .pointer (some ⟨g, 0, none⟩)) w := by kernel_rfl
theorem methW (g : Nat) (w : World) : (method 215 31 (.pointer (some ⟨g, 0, none⟩)) "Write").run Try.prog w = .ok (21, .pointer (some ⟨g, 0, none⟩)) w := by kernel_rfl
theorem copySS_any (g lo : Nat) (s : Src) (S : Nat → Prop) (g2 lo2 : Nat) (t : Snk) (U : Nat → Prop) (size : Nat) (w : World) (hs1 : 1 ≤ size) (hs2 : size ≤ 4096) (hS : SrcP g lo s S w) (hU : SnkP g2 lo2 t U w) (hd : ∀ j, S j → ¬ U j)
    (hc : s.calls ≤ 1000000000000000000) (hc2 : t.calls ≤ 1000000000000000000) (hl : s.left.length ≤ 140737488351232) (hl2 : t.took.length + s.left.length ≤ 140737488355328) :
    Calls Try.prog 14 #[.iface 31 (.pointer (some ⟨g2, 0, none⟩)), .iface 27 (.pointer (some ⟨g, 0, none⟩)), .int .i64 (size : Nat)] w (CopyPost (SrcP g lo) (SnkP g2 lo2) (cpyT srcM snkM size s t) S U w) :=
  copy_any (srcR g lo) (snkW g2 lo2) 27 31 (methR g) (enters_of Try.func16 (by kernel_rfl) rfl) (methW g2) (enters_of Try.func21 (by kernel_rfl) rfl) size w hs1 hs2 s S t U hS hU hd
    (show s.calls + (s.left.length * 17 + 17) < 4611686018427387904 by omega) (show t.calls + s.left.length * 17 + (s.left.length * 17 + 17) * 17 < 4611686018427387904 by omega) (show t.took.length + s.left.length ≤ 140737488355328 by omega) (show s.left.length ≤ 4611686018427387904 by omega) (Nat.zero_le _) (fun _ _ => Nat.zero_le _) (fun _ _ => Nat.zero_le _)
/-- Copy with a size that may not be -/
theorem copy_wrong (TW TR : TypeId) (vw vr : Value) (size : Int) (w : World) (hs : size < 1 ∨ 4096 < size) :
    Calls Try.prog 14 #[.iface TW vw, .iface TR vr, .int .i64 size] w fun e w' => e = .returned (.tuple #[.int .i64 0, .int .i64 1]) ∧ Below w.heap.size w w' := by
  have WRG := Lib.hid (fun W : World => wrong_any size W)
  have t0d : decide (size < 1 ∨ 4096 < size) = true := decide_eq_true hs
  rw [t0d] at WRG
  clear t0d hs
  refine (callsIn_wide (n := 4)).1 ?_
  refine callsIn_of_wp_marks Try.func14 rfl trivial ?_ rfl
  simp only [Try.ntmps14, List.size_toArray, List.length_cons, List.length_nil, Nat.reduceAdd, Nat.reduceSub, Array.replicate_succ, Array.replicate_zero, List.push_toArray, List.append_toArray, List.nil_append, List.cons_append]
  gi_wp2
  refine ⟨trivial, ?_⟩
  refine (callsIn_wide.2 (WRG.out _)).mono ?_
  rintro e w1 ⟨rfl, rfl⟩
  have hA := allocs_get w [.cells #[.iface TW vw] 76, .cells #[.int .i64 0] 3, .cells #[.int .i64 1] 35]
  have c6 : (((w.alloc (.cells #[.iface TW vw] 76)).alloc (.cells #[.int .i64 0] 3)).alloc (.cells #[.int .i64 1] 35)).cell? ⟨w.heap.size + 1, 0, none⟩ = some (.int .i64 0) := cell_of (hA.2.2 1 _ rfl) 0 rfl
  have c7 : (((w.alloc (.cells #[.iface TW vw] 76)).alloc (.cells #[.int .i64 0] 3)).alloc (.cells #[.int .i64 1] 35)).cell? ⟨w.heap.size + 1 + 1, 0, none⟩ = some (.int .i64 1) := cell_of (hA.2.2 2 _ rfl) 0 rfl
  have HB := Lib.hid hA.2.1
  clear hA
  gi_wp2
  exact ⟨.tuple #[.int .i64 0, .int .i64 1], by simp [results, Try.results14, go_sem, c6, c7], rfl, HB.out⟩
theorem lives_cpy : cpyT srcM snkM 5 ⟨[], 0, 0, [7, 8], false⟩ ⟨[], 0, 0, []⟩ = (2, 0, ⟨[], 0, 2, [], false⟩, ⟨[], 0, 1, [7, 8]⟩) := by rfl
set_option maxRecDepth 100000 in
set_option maxHeartbeats 2000000 in
theorem lives_any (w : World) : Calls Try.prog 11 #[] w fun e w' => e = .returned (.bool true) ∧ Below w.heap.size w w' := by
  have hlit := Sl.lit (f := Bf) w 5 #[.int .u8 7, .int .u8 8] [7, 8] 2 rfl rfl
  have hb0 : Below w.heap.size w (w.alloc (.cells #[.int .u8 7, .int .u8 8] 5)) := (Below.refl _ _).alloc (Nat.le_refl _) _
  have NS := Lib.hid (newSource_any (some ⟨w.heap.size, 0, none⟩) 2 2 [7, 8] none 0 0 [] 0 false _ (by omega) (by omega) (fun x h => by cases h) hlit (Sl.nil _ _))
  have B0 := Lib.hid hb0
  clear hlit hb0
  go_enter Try.func11, Try.ntmps11
  go_wp2_with fail
  refine NS.out.mono ?_
  rintro e w1 ⟨g, S, rfl, hs, hb1⟩
  have SP := Lib.hid hs
  have B1 := Lib.hid (B0.out.trans (hb1.mono B0.out.size))
  clear hs hb1 NS
  go_wp2_with fail
  refine (newSink_any none 0 0 [] 0 w1 (by omega) (fun x h => by cases h) (Sl.nil _ _)).mono ?_
  rintro e w2 ⟨g2, U, rfl, hu, hb2⟩
  have UP := Lib.hid hu
  have SP2 := Lib.hid (SP.out.keep hb2)
  have B2 := Lib.hid (keep_trans B1.out hb2)
  have DS := Lib.hid (show ∀ j, S j → ¬ U j from fun j hj h => by have := (SP.out.inS j hj).2; have := (hu.inS j h).1; omega)
  clear hu hb2
  go_wp2_with fail
  refine (copySS_any g _ _ S g2 _ _ U 5 w2 (by omega) (by omega) SP2.out UP.out DS.out (by decide) (by decide) (by decide) (by decide)).mono ?_
  rintro e w3 ⟨rfl, S3, U3, hs3, hu3, -, -, -, hT⟩
  rw [lives_cpy] at hs3 hu3 ⊢
  have UP3 := Lib.hid hu3
  have B3 := Lib.hid (hT.below B2.out B2.out.size fun j hj => by
    rcases hj with h | h
    · have := (SP.out.inS j h).1; have := B0.out.size; omega
    · have := (UP.out.inS j h).1; have := B1.out.size; omega)
  clear hs3 hu3 hT
  dsimp only
  go_wp2_with fail
  refine (kbytes_any g2 _ _ U3 w3 UP3.out (by decide)).mono ?_
  rintro e w4 ⟨v, rfl, ho, hb⟩
  obtain ⟨a, n, c, rfl, hsl⟩ := ho.slN
  obtain rfl : 2 = n := hsl.len
  obtain ⟨x, b, o, hx, rfl, hc⟩ := hsl.at 1 (by omega)
  have hx8 : (8 : UInt8) = x := by simpa using hx
  subst hx8
  have B4 := Lib.hid (keep_trans B3.out hb)
  clear ho hb hsl hx
  have hc' : w4.cell? ⟨b, o + 1, none⟩ = some (.int .u8 8) := hc
  clear hc
  go_wp2_with fail
  go_ret
  exact ⟨rfl, B4.out⟩
end Go.Proofs.Ytjkgncogpefnbaa
