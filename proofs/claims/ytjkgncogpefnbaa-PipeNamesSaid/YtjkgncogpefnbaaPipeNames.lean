/- Law PipeNames: the walk. No condition. -/
import Derived.Test.YtjkgncogpefnbaaPipeRefK
import Derived.Test.YtjkgncogpefnbaaPipeReadNil
import Derived.Test.YtjkgncogpefnbaaPipeLives
import Derived.Test.YtjkgncogpefnbaaSameS
import Derived.Lib.SlBytesConst
namespace Go.Proofs.Ytjkgncogpefnbaa
open Go.RowKit Go.Shelf
set_option linter.unusedVariables false
set_option linter.unusedSimpArgs false

/-- Copy into nothing -/
theorem copy_nil (TR : TypeId) (vr : Value) (size : Int) (w : World) :
    Calls Try.prog 14 #[.nilIface, .iface TR vr, .int .i64 size] w fun e w' => e = .returned (.tuple #[.int .i64 0, .int .i64 1]) ∧ Below w.heap.size w w' := by
  refine (callsIn_wide (n := 4)).1 ?_
  refine callsIn_of_wp_marks Try.func14 rfl trivial ?_ rfl
  simp only [Try.ntmps14, List.size_toArray, List.length_cons, List.length_nil, Nat.reduceAdd, Nat.reduceSub, Array.replicate_succ, Array.replicate_zero, List.push_toArray, List.append_toArray, List.nil_append, List.cons_append]
  have hA := allocs_get w [.cells #[.nilIface] 76, .cells #[.int .i64 0] 3, .cells #[.int .i64 1] 35]
  have c6 : (((w.alloc (.cells #[.nilIface] 76)).alloc (.cells #[.int .i64 0] 3)).alloc (.cells #[.int .i64 1] 35)).cell? ⟨w.heap.size + 1, 0, none⟩ = some (.int .i64 0) := cell_of (hA.2.2 1 _ rfl) 0 rfl
  have c7 : (((w.alloc (.cells #[.nilIface] 76)).alloc (.cells #[.int .i64 0] 3)).alloc (.cells #[.int .i64 1] 35)).cell? ⟨w.heap.size + 1 + 1, 0, none⟩ = some (.int .i64 1) := cell_of (hA.2.2 2 _ rfl) 0 rfl
  have HB := Lib.hid hA.2.1
  clear hA
  gi_wp2
  refine ⟨trivial, ?_⟩
  gi_wp2
  exact ⟨.tuple #[.int .i64 0, .int .i64 1], by simp [results, Try.results14, go_sem, c6, c7], rfl, HB.out⟩
theorem names_cpy : cpyT srcM snkM 4 ⟨[2, 0, 3], 0, 0, [97, 98, 99, 100, 101, 102], false⟩ ⟨[1, 0], 4, 0, []⟩ = (2, 32, ⟨[2, 0, 3], 0, 3, [102], false⟩, ⟨[1, 0], 4, 4, [97, 98]⟩) := by rfl
set_option maxRecDepth 100000 in
set_option maxHeartbeats 4000000 in
theorem pipeNames_walk (w : World) : Calls Try.prog 3 #[] w fun e w' => e = .returned (.bool true) ∧ Below w.heap.size w w' := by
  go_enter Try.func3, Try.ntmps3
  go_wp2_with fail
  refine (lives_any _).mono ?_
  rintro e w1 ⟨rfl, hb⟩
  have B1 := Lib.hid hb
  clear hb
  have kc := fun (w : World) (C : Array Value) (n c : Nat) => Lib.run_convert_bytes_const (P := Try.prog) w 23 5 C n c Try.underlying23 Try.underlying5
  go_wp2_with fail
  have BA := Lib.hid (show Below w1.heap.size w1 (((w1.alloc (.cells #[.int .u8 97, .int .u8 98, .int .u8 99, .int .u8 100, .int .u8 101, .int .u8 102] 5 (6, 7))).alloc (.cells #[.int .i64 2, .int .i64 0, .int .i64 3] 3)).alloc (.cells #[.slice (some ⟨w1.heap.size, 0, none⟩) 6 6, .slice (some ⟨w1.heap.size + 1, 0, none⟩) 3 3, .int .i64 0, .bool false] 26)) from (((Below.refl _ _).alloc (Nat.le_refl _) _).alloc (by simp) _).alloc (by simp; omega) _)
  have hA := allocs_get w1 [.cells #[.int .u8 97, .int .u8 98, .int .u8 99, .int .u8 100, .int .u8 101, .int .u8 102] 5 (6, 7), .cells #[.int .i64 2, .int .i64 0, .int .i64 3] 3, .cells #[.slice (some ⟨w1.heap.size, 0, none⟩) 6 6, .slice (some ⟨w1.heap.size + 1, 0, none⟩) 3 3, .int .i64 0, .bool false] 26]
  have SB := Lib.hid (Sl.of_row [97, 98, 99, 100, 101, 102] 6 6 (g := w1.heap.size) (hA.2.2 0 _ rfl) rfl (Nat.le_refl _) rfl : Sl Bf _ _ 6 6 [97, 98, 99, 100, 101, 102])
  have SG := Lib.hid (Sl.of_row [2, 0, 3] 3 3 (g := w1.heap.size + 1) (hA.2.2 1 _ rfl) rfl (Nat.le_refl _) rfl : Sl fZ _ _ 3 3 [2, 0, 3])
  clear hA
  simp only [List.foldl] at SB SG
  generalize ((w1.alloc (.cells #[.int .u8 97, .int .u8 98, .int .u8 99, .int .u8 100, .int .u8 101, .int .u8 102] 5 (6, 7))).alloc (.cells #[.int .i64 2, .int .i64 0, .int .i64 3] 3)).alloc (.cells #[.slice (some ⟨w1.heap.size, 0, none⟩) 6 6, .slice (some ⟨w1.heap.size + 1, 0, none⟩) 3 3, .int .i64 0, .bool false] 26) = w2 at *
  refine (source_any _ 6 6 [97, 98, 99, 100, 101, 102] _ 3 3 [2, 0, 3] 0 false w2 (by omega) (by omega) (by intro x hx; simp at hx; omega) SB.out SG.out).mono ?_
  rintro e w3 ⟨g, S, gr, rfl, hs3, -, -, -, hb⟩
  have B3 := Lib.hid (keep_trans (keep_trans B1.out BA.out) hb)
  have SP3 := Lib.hid hs3
  have hw2 : w.heap.size ≤ w2.heap.size := Nat.le_trans B1.out.size BA.out.size
  clear hs3 hb SB SG BA B1
  go_wp2_with fail
  have ba := (Below.refl w3.heap.size w3).alloc (Nat.le_refl _) (.cells #[.int .i64 1, .int .i64 0] 3)
  have SP4 := Lib.hid (SP3.out.keep ba)
  have B4 := Lib.hid (keep_trans B3.out ba)
  have ST := Lib.hid (Sl.of_row [1, 0] 2 2 (g := w3.heap.size) (heap_new w3 (.cells #[.int .i64 1, .int .i64 0] 3)) rfl (Nat.le_refl _) rfl : Sl fZ _ _ 2 2 [1, 0])
  have hz4 : (w3.alloc (.cells #[.int .i64 1, .int .i64 0] 3)).heap.size = w3.heap.size + 1 := by simp
  have lt3 := Lib.hid SP3.out.inS
  clear ba SP3 B3
  generalize w3.alloc (.cells #[.int .i64 1, .int .i64 0] 3) = w4 at *
  refine (sink_any _ 2 2 [1, 0] 4 w4 (by omega) (by intro x hx; simp at hx; omega) ST.out w4.heap.size (Nat.le_refl _) (fun b o e _ => by injection e with e; injection e with e; omega)).mono ?_
  rintro e w5 ⟨g2, U, gx, rfl, hu5, -, -, -, hb⟩
  have SP5 := Lib.hid (SP4.out.keep hb)
  have UP5 := Lib.hid hu5
  have B5 := Lib.hid (keep_trans B4.out hb)
  have DS := Lib.hid (show ∀ j, S j → ¬ U j from fun j hj h => by have := (SP4.out.inS j hj).2; have := (hu5.inS j h).1; omega)
  have hw4 : w.heap.size ≤ w4.heap.size := B4.out.size
  clear hu5 hb SP4 B4 ST
  go_wp2_with fail
  refine (copySS_any g _ _ S g2 _ _ U 4 w5 (by omega) (by omega) SP5.out UP5.out DS.out (by decide) (by decide) (by decide) (by decide)).mono ?_
  rintro e w6 ⟨rfl, S6, U6, hs6, hu6, -, -, -, hT⟩
  rw [names_cpy] at hs6 hu6 ⊢
  have UP6 := Lib.hid hu6
  have B6 := Lib.hid (hT.below B5.out B5.out.size fun j hj => by
    rcases hj with h | h
    · have := (lt3.out j h).1; omega
    · have := (UP5.out.inS j h).1; omega)
  clear hs6 hu6 hT SP5 UP5 B5 DS
  dsimp only
  go_wp2_with fail
  refine (kbytes_any g2 _ _ U6 w6 UP6.out (by decide)).mono ?_
  rintro e w7 ⟨v, rfl, ho, hb⟩
  obtain ⟨a, n, c, rfl, hsl⟩ := ho.slN
  obtain rfl : 2 = n := hsl.len
  have SL := Lib.hid hsl
  have B7 := Lib.hid (keep_trans B6.out hb)
  clear ho hsl hb UP6 B6
  go_wp2_with fail
  refine (copy_wrong _ _ _ _ 0 w7 (by omega)).mono ?_
  rintro e w8 ⟨rfl, hb⟩
  have B8 := Lib.hid (keep_trans B7.out hb)
  have SL8 := Lib.hid (SL.out.keep hb)
  clear hb SL B7
  go_wp2_with fail
  refine (copy_nil _ _ 1 w8).mono ?_
  rintro e w9 ⟨rfl, hb⟩
  have B9 := Lib.hid (keep_trans B8.out hb)
  have SL9 := Lib.hid (SL8.out.keep hb)
  clear hb SL8 B8
  go_wp2_with fail
  refine (source_any none 0 0 [] none 0 0 [] 1 false w9 (by omega) (by omega) (fun x h => by cases h) (Sl.nil _ _) (Sl.nil _ _)).mono ?_
  rintro e w10 ⟨h1, S1, hr1, rfl, hs, -, -, -, hb⟩
  have SP1 := Lib.hid hs
  have B10 := Lib.hid (keep_trans B9.out hb)
  have SL10 := Lib.hid (SL9.out.keep hb)
  have l10 : w.heap.size ≤ w9.heap.size := B9.out.size
  have L9 := Lib.hid (show ∀ b o, a = some ⟨b, o, none⟩ → 0 < 2 → b < w9.heap.size from fun b o e hn => by subst e; exact SL9.out.blt hn)
  clear hs hb SL9 B9
  go_wp2_with fail
  refine (sread_nil h1 _ _ S1 w10 SP1.out (by decide) (.inl rfl)).mono ?_
  rintro e w11 ⟨rfl, hT⟩
  have B11 := Lib.hid (hT.below B10.out B10.out.size fun j e => by have := (SP1.out.inS _ SP1.out.own).1; omega)
  have SL11 := Lib.hid (SL10.out.turns hT fun b o e hn h => by have := L9.out b o e hn; have := (SP1.out.inS _ SP1.out.own).1; omega)
  have e32 : (Src.err ⟨[], 1, 0, [], false⟩ 0 : Nat) = 32 := rfl
  rw [e32]
  clear hT SP1 SL10 B10 e32
  go_wp2_with fail
  refine (source_any none 0 0 [] none 0 0 [] 0 false w11 (by omega) (by omega) (fun x h => by cases h) (Sl.nil _ _) (Sl.nil _ _)).mono ?_
  rintro e w12 ⟨h2, S2, hr2, rfl, hs, -, -, -, hb⟩
  have SP2 := Lib.hid hs
  have B12 := Lib.hid (keep_trans B11.out hb)
  have SL12 := Lib.hid (SL11.out.keep hb)
  have l12 : w.heap.size ≤ w11.heap.size := B11.out.size
  have L11 := Lib.hid (show ∀ b o, a = some ⟨b, o, none⟩ → 0 < 2 → b < w11.heap.size from fun b o e hn => by subst e; exact SL11.out.blt hn)
  clear hs hb SL11 B11 L9
  go_wp2_with fail
  refine (sread_nil h2 _ _ S2 w12 SP2.out (by decide) (.inr rfl)).mono ?_
  rintro e w13 ⟨rfl, hT⟩
  have B13 := Lib.hid (hT.below B12.out B12.out.size fun j e => by have := (SP2.out.inS _ SP2.out.own).1; omega)
  have SL13 := Lib.hid (SL12.out.turns hT fun b o e hn h => by have := L11.out b o e hn; have := (SP2.out.inS _ SP2.out.own).1; omega)
  have e31 : (Src.err ⟨[], 0, 0, [], false⟩ 0 : Nat) = 31 := rfl
  rw [e31]
  clear hT SP2 SL12 B12 e31 L11
  go_wp2_with fail
  have ba := (Below.refl w13.heap.size w13).alloc (Nat.le_refl _) (.cells #[.int .u8 97, .int .u8 98] 5 (2, 3))
  have B14 := Lib.hid (keep_trans B13.out ba)
  have SL14 := Lib.hid (SL13.out.keep ba)
  have SM := Lib.hid (Sl.of_row [97, 98] 2 2 (g := w13.heap.size) (heap_new w13 (.cells #[.int .u8 97, .int .u8 98] 5 (2, 3))) rfl (Nat.le_refl _) rfl : Sl Bf _ _ 2 2 [97, 98])
  clear ba SL13 B13
  refine (sameD_any a 2 c _ _ 2 2 _ _ (by omega) (by omega) SL14.out SM.out).mono ?_
  rw [decide_eq_true rfl]
  rintro e w15 ⟨rfl, m, rfl⟩
  have B15 := Lib.hid (keep_drewN B14.out m)
  clear B14 SL14 SM
  go_wp2_with fail
  go_ret
  exact ⟨rfl, B15.out⟩
end Go.Proofs.Ytjkgncogpefnbaa
