/- FootNames: the walk. No condition. -/
import Derived.Test.YtpmijgeakmmieaaFootNamesM
import Derived.Lib.SlBytesConst
import Derived.Deep.DeepCutAuto
namespace Go.Proofs.Ytpmijgeakmmieaa
open Go.RowKit

/-- the rows of the examples in memory -/
def Two (w : World) (g g1 g2 : Nat) (v0 : Value) (x0 y0 z0 x1 : Int) : Prop :=
  w.heap[g]? = some (.cells #[v0, .int .i64 x0, .int .i64 y0, .int .i64 z0, .slice (some ⟨g2, 0, none⟩) 1 1, .int .i64 x1, .int .i64 15, .int .i64 1] 49 (0, 0)) ∧
  w.heap[g1]? = some (.cells #[.int .u8 97, .int .u8 98] 5 (2, 3)) ∧ w.heap[g2]? = some (.cells #[.int .u8 99] 5 (1, 2))
theorem Two.spans {w : World} {g g1 g2 : Nat} {x0 y0 z0 x1 : Int} (h : Two w g g1 g2 (.slice (some ⟨g1, 0, none⟩) 2 2) x0 y0 z0 x1) : Spans w (some ⟨g, 0, none⟩) 2 2 [([97, 98], x0, y0, z0), ([99], x1, 15, 1)] := by
  obtain ⟨h0, h1, h2⟩ := h
  refine ⟨rfl, Nat.le_refl _, by simp, fun i k x y z hi => ?_⟩
  have hl : i < 2 := (List.getElem?_eq_some_iff.1 hi).1
  rcases (by omega : i = 0 ∨ i = 1) with e | e <;> subst e <;> (simp at hi; obtain ⟨rfl, rfl, rfl, rfl⟩ := hi)
  · exact ⟨g, 0, _, _, _, rfl, cell_of h0 0 rfl, cell_of h0 1 rfl, cell_of h0 2 rfl, cell_of h0 3 rfl, Sl.of_row [97, 98] 2 2 h1 rfl (Nat.le_refl _) rfl⟩
  · exact ⟨g, 0, _, _, _, rfl, cell_of h0 4 rfl, cell_of h0 5 rfl, cell_of h0 6 rfl, cell_of h0 7 rfl, Sl.of_row [99] 1 1 h2 rfl (Nat.le_refl _) rfl⟩
theorem Two.spansN {w : World} {g g1 g2 : Nat} {x0 y0 z0 x1 : Int} (h : Two w g g1 g2 (.slice none 0 0) x0 y0 z0 x1) : Spans w (some ⟨g, 0, none⟩) 2 2 [([], x0, y0, z0), ([99], x1, 15, 1)] := by
  obtain ⟨h0, h1, h2⟩ := h
  refine ⟨rfl, Nat.le_refl _, by simp, fun i k x y z hi => ?_⟩
  have hl : i < 2 := (List.getElem?_eq_some_iff.1 hi).1
  rcases (by omega : i = 0 ∨ i = 1) with e | e <;> subst e <;> (simp at hi; obtain ⟨rfl, rfl, rfl, rfl⟩ := hi)
  · exact ⟨g, 0, _, _, _, rfl, cell_of h0 0 rfl, cell_of h0 1 rfl, cell_of h0 2 rfl, cell_of h0 3 rfl, Sl.nil _ _⟩
  · exact ⟨g, 0, _, _, _, rfl, cell_of h0 4 rfl, cell_of h0 5 rfl, cell_of h0 6 rfl, cell_of h0 7 rfl, Sl.of_row [99] 1 1 h2 rfl (Nat.le_refl _) rfl⟩
theorem Two.keep {w w' : World} {g g1 g2 : Nat} {v0 : Value} {x0 y0 z0 x1 : Int} (h : Two w g g1 g2 v0 x0 y0 z0 x1) (hb : Below w.heap.size w w') : Two w' g g1 g2 v0 x0 y0 z0 x1 :=
  ⟨(Stab.block h.1).keep hb |>.now, (Stab.block h.2.1).keep hb |>.now, (Stab.block h.2.2).keep hb |>.now⟩
theorem fconv2 (w : World) (o : Obj) (C : Array Value) (n c : Nat) : Sem.run Try.prog (convert 28 28 (.slice (some ⟨w.heap.size + 1, 0, none⟩) n c)) ((w.alloc o).alloc (.cells C 5)) =
    .ok (.slice (some ⟨w.heap.size + 1, 0, none⟩) n c) ((w.alloc o).alloc (.cells C 5 (C.size, C.size + 1))) := by
  have := Lib.run_convert_bytes_const (P := Try.prog) (w.alloc o) 28 5 C n c Try.underlying28 Try.underlying5
  rwa [World.size_alloc] at this
theorem two_any (w : World) : Calls Try.prog 27 #[] w fun e w' => ∃ g g1 g2, e = .returned (.slice (some ⟨g, 0, none⟩) 2 2) ∧ Two w' g g1 g2 (.slice (some ⟨g1, 0, none⟩) 2 2) 8 20 2 28 ∧ (w.heap.size ≤ g ∧ w.heap.size ≤ g1 ∧ w.heap.size ≤ g2) ∧ g1 ≠ g ∧ g2 ≠ g ∧ Below w.heap.size w w' := by
  have kc := fun (w : World) (C : Array Value) (n c : Nat) => Lib.run_convert_bytes_const (P := Try.prog) w 28 5 C n c Try.underlying28 Try.underlying5
  have kc2 := fconv2
  go_enter Try.func27, Try.ntmps27
  go_wp2_with fail
  go_ret
  refine ⟨w.heap.size + 1 + 1, w.heap.size, w.heap.size + 1, rfl, ⟨?_, ?_, ?_⟩, ⟨by omega, by omega, by omega⟩, by omega, by omega, ?_⟩
  · have := heap_new ((w.alloc (.cells #[.int .u8 97, .int .u8 98] 5 (2, 3))).alloc (.cells #[.int .u8 99] 5 (1, 2))) (.cells #[.slice (some ⟨w.heap.size, 0, none⟩) 2 2, .int .i64 8, .int .i64 20, .int .i64 2, .slice (some ⟨w.heap.size + 1, 0, none⟩) 1 1, .int .i64 28, .int .i64 15, .int .i64 1] 49)
    rwa [World.size_alloc, World.size_alloc] at this
  · exact (Below.heap_alloc _ _ _ (by simp; omega)).trans ((Below.heap_alloc _ _ _ (by simp)).trans (heap_new w _))
  · have := heap_new (w.alloc (.cells #[.int .u8 97, .int .u8 98] 5 (2, 3))) (.cells #[.int .u8 99] 5 (1, 2))
    rw [World.size_alloc] at this
    exact (Below.heap_alloc _ _ _ (by simp)).trans this
  · exact (((Below.refl _ w).alloc (Nat.le_refl _) _).alloc (by simp) _).alloc (by simp; omega) _
section
variable {w : World} {g g1 g2 : Nat} {v0 : Value} {x0 y0 z0 x1 : Int}
theorem Two.lt (h : Two w g g1 g2 v0 x0 y0 z0 x1) : g < w.heap.size ∧ g1 < w.heap.size ∧ g2 < w.heap.size := ⟨(Array.getElem?_eq_some_iff.1 h.1).1, (Array.getElem?_eq_some_iff.1 h.2.1).1, (Array.getElem?_eq_some_iff.1 h.2.2).1⟩
theorem Two.keepB {w' : World} {b : Nat} (h : Two w g g1 g2 v0 x0 y0 z0 x1) (hb : Below b w w') (hl : g < b ∧ g1 < b ∧ g2 < b) : Two w' g g1 g2 v0 x0 y0 z0 x1 :=
  ⟨(hb.block g hl.1).trans h.1, (hb.block g1 hl.2.1).trans h.2.1, (hb.block g2 hl.2.2).trans h.2.2⟩
theorem Two.free (h : Two w g g1 g2 v0 x0 y0 z0 x1) (i : Nat) : w.frozen? ⟨g, i, none⟩ = false := free_block h.1 i
theorem Two.at (h : Two w g g1 g2 v0 x0 y0 z0 x1) (i : Nat) {v : Value} (hv : (#[v0, .int .i64 x0, .int .i64 y0, .int .i64 z0, .slice (some ⟨g2, 0, none⟩) 1 1, .int .i64 x1, .int .i64 15, .int .i64 1] : Array Value)[i]? = some v) : w.cell? ⟨g, i, none⟩ = some v := cell_of h.1 i hv
theorem Two.set5 (h : Two w g g1 g2 v0 x0 y0 z0 x1) (a : g1 ≠ g) (b : g2 ≠ g) (v : Int) : Two (w.setCell ⟨g, 5, none⟩ (.int .i64 v)) g g1 g2 v0 x0 y0 z0 v := ⟨set_block (i := 5) h.1 _, (Below.heap_setCell _ _ _ _ a).trans h.2.1, (Below.heap_setCell _ _ _ _ b).trans h.2.2⟩
theorem Two.set3 (h : Two w g g1 g2 v0 x0 y0 z0 x1) (a : g1 ≠ g) (b : g2 ≠ g) (v : Int) : Two (w.setCell ⟨g, 3, none⟩ (.int .i64 v)) g g1 g2 v0 x0 y0 v x1 := ⟨set_block (i := 3) h.1 _, (Below.heap_setCell _ _ _ _ a).trans h.2.1, (Below.heap_setCell _ _ _ _ b).trans h.2.2⟩
theorem Two.set2 (h : Two w g g1 g2 v0 x0 y0 z0 x1) (a : g1 ≠ g) (b : g2 ≠ g) (v : Int) : Two (w.setCell ⟨g, 2, none⟩ (.int .i64 v)) g g1 g2 v0 x0 v z0 x1 := ⟨set_block (i := 2) h.1 _, (Below.heap_setCell _ _ _ _ a).trans h.2.1, (Below.heap_setCell _ _ _ _ b).trans h.2.2⟩
theorem Two.set0 (h : Two w g g1 g2 v0 x0 y0 z0 x1) (a : g1 ≠ g) (b : g2 ≠ g) (v : Value) : Two (w.setCell ⟨g, 0, none⟩ v) g g1 g2 v x0 y0 z0 x1 := ⟨set_block (i := 0) h.1 _, (Below.heap_setCell _ _ _ _ a).trans h.2.1, (Below.heap_setCell _ _ _ _ b).trans h.2.2⟩
end
set_option maxHeartbeats 4000000 in
set_option maxRecDepth 100000 in
theorem footNames_walk (w : World) : Calls Try.prog 7 #[] w fun e w' => e = .returned (.bool true) ∧ Below w.heap.size w w' := by
  have kc := fun (w : World) (C : Array Value) (n c : Nat) => Lib.run_convert_bytes_const (P := Try.prog) w 28 5 C n c Try.underlying28 Try.underlying5
  go_enter Try.func7, Try.ntmps7
  go_wp2_with fail
  refine (lives_any _).mono ?_
  rintro e w1 ⟨rfl, hb⟩
  have FB := Lib.hid hb
  have q0 := hb.size
  clear hb
  go_wp2_with fail
  refine (two_any _).mono ?_
  rintro e w2 ⟨g, g1, g2, rfl, hT, ⟨l0, l1, l2⟩, n1, n2, hb⟩
  have hlt := hT.lt
  have T := Lib.hid hT
  replace FB := Lib.hid (keep_trans FB.out hb)
  have q2 := hb.size
  clear hT hb
  go_wp2_with fail
  have HC := ffbytes_any (some ⟨g, 0, none⟩) 2 2 fnT w2 (by omega) (fn_fit (by decide) (by decide) (by decide) (by decide) (by decide)) T.out.spans
  rw [fn_chk, fn_bytes] at HC
  dsimp only at HC
  refine HC.mono ?_
  rintro e w3 ⟨_, rfl, ho, hb⟩
  obtain ⟨aB, nB, cB, rfl, zB⟩ := ho.slN
  obtain rfl : 13 = nB := zB.len
  have B := Lib.hid ho
  replace T := Lib.hid (T.out.keep hb)
  replace FB := Lib.hid (keep_trans FB.out hb)
  have q3 := hb.size
  clear HC ho zB hb
  go_wp2_with fail
  have SL := Lib.hid (Sl.lit (f := Bf) w3 5 #[.int .u8 2, .int .u8 2, .int .u8 97, .int .u8 98, .int .u8 8, .int .u8 20, .int .u8 2, .int .u8 1, .int .u8 99, .int .u8 28, .int .u8 15, .int .u8 1, .int .u8 3] [2, 2, 97, 98, 8, 20, 2, 1, 99, 28, 15, 1, 3] 13 rfl rfl)
  refine (same_any aB 13 cB [2, 2, 97, 98, 8, 20, 2, 1, 99, 28, 15, 1, 3] _ 13 13 [2, 2, 97, 98, 8, 20, 2, 1, 99, 28, 15, 1, 3] _ (by decide) (by decide) (B.out.slI.keep ((Below.refl _ _).alloc (Nat.le_refl _) _)) SL.out).mono ?_
  rintro e w4 ⟨rfl, hb4⟩
  rw [decide_eq_true rfl]
  have hb := keep_trans ((Below.refl _ w3).alloc (Nat.le_refl _) _) hb4
  replace T := Lib.hid (T.out.keep hb)
  replace FB := Lib.hid (keep_trans FB.out hb)
  replace B := Lib.hid (B.out.keep hb)
  have q4 := hb.size
  have hcut := fun W : World => run_cutto eltB W aB 13 cB .i64 12 (by have := B.out.slI.le; omega)
  push_cast at hcut
  have Z12 := Lib.hid (B.out.slI.upto 12 (by omega))
  clear hb hb4 SL
  go_wp2_with (first
    | (at_builtin; refine wpList_appT eltTB rfl (.tmp 48) (.tmp 50) rfl w4.heap.size _ [] (by rfl) (OwT.lit fB w4 w4.heap.size _ _ [] 0 rfl rfl (Nat.le_refl _) (Nat.zero_le _)) aB 12 cB _ (by rfl) (Z12.out.keep ((Below.refl _ _).alloc (Nat.le_refl _) _)).toT (by unfold maxLen; simp) (by simp) (by simp) _ rfl ?_; intro v5 w5 h5 hg5 hv5 hb5; have O5 := Lib.hid h5; have hb5 := ((Below.refl _ w4).alloc (Nat.le_refl _) _).trans hb5; have H5 := Lib.hid hb5; have q5 := hb5.size; clear h5 hg5 hv5 hb5)
    | (at_builtin; (refine wpList_appT eltTB rfl (.tmp 51) (.tmp 52) rfl w4.heap.size _ _ (by rfl) (O5.out.alloc _) _ 1 1 [4] (by rfl) (Sl.lit _ _ _ _ _ rfl rfl).toT (by unfold maxLen; simp) (by simp) (by simp; omega) [2, 2, 97, 98, 8, 20, 2, 1, 99, 28, 15, 1, 4] rfl ?_; intro v6 w6 h6 hg6 hv6 hb6; obtain ⟨a6, n6, c6, rfl, z6⟩ := h6.slN; obtain rfl : 13 = n6 := z6.len; have Z6 := Lib.hid z6; have hb := (H5.out.alloc q5 _).trans hb6; have T := Lib.hid (T.out.keep hb); have FB := Lib.hid (keep_trans FB.out hb); have B := Lib.hid (B.out.keep hb); have q6 := hb.size; clear h6 hg6 hv6 hb6 hb z6)))
  clear O5 H5 Z12 hcut
  have HC := fpread_any a6 13 c6 [2, 2, 97, 98, 8, 20, 2, 1, 99, 28, 15, 1, 4] w6 (by omega) Z6.out
  rw [fn_r1] at HC
  refine HC.mono ?_
  rintro e w7 ⟨a7, n7, c7, vs7, rfl, _, _, hb⟩
  replace T := Lib.hid (T.out.keep hb)
  replace FB := Lib.hid (keep_trans FB.out hb)
  replace B := Lib.hid (B.out.keep hb)
  have q7 := hb.size
  clear HC hb Z6
  go_wp2_with (at_builtin; refine wpList_appT eltTB rfl (.tmp 61) (.tmp 62) rfl w2.heap.size _ [2, 2, 97, 98, 8, 20, 2, 1, 99, 28, 15, 1, 3] (by rfl) (B.out.alloc _) _ 1 1 [0] (by rfl) (Sl.lit _ _ _ _ _ rfl rfl).toT (by unfold maxLen; simp) (by simp) (by simp; omega) [2, 2, 97, 98, 8, 20, 2, 1, 99, 28, 15, 1, 3, 0] rfl ?_; intro v8 w8 h8 hg8 hv8 hb8; obtain ⟨a8, n8, c8, rfl, z8⟩ := h8.slN; obtain rfl : 14 = n8 := z8.len; have Z8 := Lib.hid z8; have hb := ((Below.refl w2.heap.size w7).alloc (by omega) _).trans hb8; have T := Lib.hid (T.out.keepB hb hlt); have FB := Lib.hid (FB.out.trans (hb.mono (by omega))); have q8 := hb.size; clear h8 hg8 hv8 hb8 hb z8)
  clear B
  have HC := fpread_any a8 14 c8 [2, 2, 97, 98, 8, 20, 2, 1, 99, 28, 15, 1, 3, 0] w8 (by omega) Z8.out
  rw [fn_r2] at HC
  refine HC.mono ?_
  rintro e w9 ⟨a9, n9, c9, vs9, rfl, _, _, hb⟩
  replace T := Lib.hid (T.out.keep hb)
  replace FB := Lib.hid (keep_trans FB.out hb)
  have q9 := hb.size
  clear HC hb Z8
  have cc := T.out.at 5 rfl
  have ff := T.out.free 5
  go_wp2_with fail
  replace T := Lib.hid (T.out.set5 n1 n2 29)
  replace FB := Lib.hid (FB.out.setCell (p := ⟨g, 5, none⟩) (show w.heap.size ≤ g by omega) (.int .i64 29))
  have q10 : w2.heap.size ≤ (w9.setCell ⟨g, 5, none⟩ (.int .i64 29)).heap.size := by simp; omega
  clear cc ff
  generalize w9.setCell ⟨g, 5, none⟩ (.int .i64 29) = w10 at *
  have HC := fcheck_any (some ⟨g, 0, none⟩) 2 2 _ w10 (by omega) (fn_fit (by decide) (by decide) (by decide) (by decide) (by decide)) T.out.spans
  rw [fn_c1] at HC
  dsimp only at HC
  refine HC.mono ?_
  rintro e w11 ⟨rfl, hb⟩
  replace T := Lib.hid (T.out.keep hb)
  replace FB := Lib.hid (keep_trans FB.out hb)
  have q11' := hb.size
  clear HC hb
  have cc := T.out.at 3 rfl
  have ff := T.out.free 3
  go_wp2_with fail
  replace T := Lib.hid (T.out.set3 n1 n2 65)
  replace FB := Lib.hid (FB.out.setCell (p := ⟨g, 3, none⟩) (show w.heap.size ≤ g by omega) (.int .i64 65))
  have q12 : w2.heap.size ≤ (w11.setCell ⟨g, 3, none⟩ (.int .i64 65)).heap.size := by simp; omega
  clear cc ff
  generalize w11.setCell ⟨g, 3, none⟩ (.int .i64 65) = w12 at *
  have HC := fcheck_any (some ⟨g, 0, none⟩) 2 2 _ w12 (by omega) (fn_fit (by decide) (by decide) (by decide) (by decide) (by decide)) T.out.spans
  rw [fn_c2] at HC
  dsimp only at HC
  refine HC.mono ?_
  rintro e w13 ⟨rfl, hb⟩
  replace T := Lib.hid (T.out.keep hb)
  replace FB := Lib.hid (keep_trans FB.out hb)
  have q13' := hb.size
  clear HC hb
  have cc := T.out.at 2 rfl
  have ff := T.out.free 2
  go_wp2_with fail
  replace T := Lib.hid (T.out.set2 n1 n2 0)
  replace FB := Lib.hid (FB.out.setCell (p := ⟨g, 2, none⟩) (show w.heap.size ≤ g by omega) (.int .i64 0))
  have q14 : w2.heap.size ≤ (w13.setCell ⟨g, 2, none⟩ (.int .i64 0)).heap.size := by simp; omega
  clear cc ff
  generalize w13.setCell ⟨g, 2, none⟩ (.int .i64 0) = w14 at *
  have HC := fcheck_any (some ⟨g, 0, none⟩) 2 2 _ w14 (by omega) (fn_fit (by decide) (by decide) (by decide) (by decide) (by decide)) T.out.spans
  rw [fn_c3] at HC
  dsimp only at HC
  refine HC.mono ?_
  rintro e w15 ⟨rfl, hb⟩
  replace T := Lib.hid (T.out.keep hb)
  replace FB := Lib.hid (keep_trans FB.out hb)
  have q15' := hb.size
  clear HC hb
  have cc := T.out.at 0 rfl
  have ff := T.out.free 0
  go_wp2_with fail
  replace T := Lib.hid (T.out.set0 n1 n2 (.slice none 0 0))
  replace FB := Lib.hid (FB.out.setCell (p := ⟨g, 0, none⟩) (show w.heap.size ≤ g by omega) (.slice none 0 0))
  have q16 : w2.heap.size ≤ (w15.setCell ⟨g, 0, none⟩ (.slice none 0 0)).heap.size := by simp; omega
  clear cc ff
  generalize w15.setCell ⟨g, 0, none⟩ (.slice none 0 0) = w16 at *
  have HC := fcheck_any (some ⟨g, 0, none⟩) 2 2 _ w16 (by omega) (fn_fit (by decide) (by decide) (by decide) (by decide) (by decide)) T.out.spansN
  rw [fn_c4] at HC
  dsimp only at HC
  refine HC.mono ?_
  rintro e w17 ⟨rfl, hb⟩
  replace T := Lib.hid (T.out.keep hb)
  replace FB := Lib.hid (keep_trans FB.out hb)
  have q17' := hb.size
  clear HC hb
  go_wp2_with fail
  have SL := Lib.hid (Sl.lit (f := Bf) w17 5 #[.int .u8 1, .int .u8 2, .int .u8 97] [1, 2, 97] 3 rfl rfl)
  have HC := fpread_any _ 3 3 [1, 2, 97] _ (by omega) SL.out
  rw [fn_r3] at HC
  refine HC.mono ?_
  rintro e x1 ⟨_, _, _, _, rfl, _, _, hb⟩
  replace FB := Lib.hid (keep_trans (FB.out.alloc (by omega) _) hb)
  clear HC hb SL T
  go_wp2_with fail
  refine (two_any _).mono ?_
  rintro e x2 ⟨h0, h1, h2, rfl, hT, _, _, _, hb⟩
  have T := Lib.hid hT
  replace FB := Lib.hid (keep_trans FB.out hb)
  clear hT hb
  have hkb : Below x2.heap.size x2 (x2.alloc (.cells #[.int .u8 98] 5 (1, 2))) := (Below.refl _ _).alloc (Nat.le_refl _) _
  have K := Lib.hid hkb
  have SL := Lib.hid (Sl.of_row [98] 1 1 (g := x2.heap.size) (E := 5) (fr := (1, 2)) (cur := #[.int .u8 98]) (heap_new x2 (.cells #[.int .u8 98] 5 (1, 2))) rfl (Nat.le_refl _) rfl : Sl Bf _ _ 1 1 [98])
  clear hkb
  go_wp2_with fail
  refine (find_any (some ⟨h0, 0, none⟩) 2 2 fnT _ 1 1 [98] _ (by omega) (T.out.spans.keep K.out) SL.out).mono ?_
  rintro e x3 ⟨⟨r, rfl, r1, r2, r3⟩, hb⟩
  obtain rfl := fn_find r1 r2 r3
  replace FB := Lib.hid (keep_trans (keep_trans FB.out K.out) hb)
  clear hb K SL T r1 r2 r3
  go_wp2_with fail
  refine (two_any _).mono ?_
  rintro e x4 ⟨k0, k1, k2, rfl, hT, _, _, _, hb⟩
  have T := Lib.hid hT
  replace FB := Lib.hid (keep_trans FB.out hb)
  clear hT hb
  go_wp2_with fail
  have HC := total_any (some ⟨k0, 0, none⟩) 2 2 fnT x4 (by omega) T.out.spans
  rw [fn_tot] at HC
  refine HC.mono ?_
  rintro e x5 ⟨rfl, hb⟩
  replace FB := Lib.hid (keep_trans FB.out hb)
  clear HC hb T
  go_wp2_with fail
  go_ret
  exact ⟨rfl, FB.out⟩
end Go.Proofs.Ytpmijgeakmmieaa
