/- StreamParses: the walk. Condition: the bytes within reach. -/
import Derived.Test.YtljcogimeimknaaGreatRdRParse
import Derived.Test.YtljcogimeimknaaGreatRdParse
import Derived.Test.YtljcogimeimknaaGreatK8y
namespace Go.Proofs.YtljcogimeimknaaGreat
open Go.RowKit Go.Shelf
set_option maxRecDepth 100000
set_option linter.unusedVariables false
set_option linter.unusedSimpArgs false

/-- the program's Parse, so -/
theorem sparse2_any {m : Nat} (hm : 1000000000 ≤ m) (a : Option Addr) (n c : Nat) (bs : List UInt8) (w : World) (hn : n ≤ 140737488351232) (h : Sl Bf w a n c bs) :
    Calls Tryz.prog 29 #[.slice a n c] w fun e w' => ∃ ay ny cy vs es s', takeM m (RS0 ⟨[], 0, 0, bs, false⟩) [] = (es, s', [], true) ∧
      e = .returned (.tuple #[.slice ay ny cy, .int .i64 (paM es s').2.1, .int .i64 (paM es s').2.2]) ∧ RdW w' w.heap.size (.slice ay ny cy) vs (paM es s').1 ∧ Below w.heap.size w w' := by
  refine (sparse_any a n c bs w hn h).mono ?_
  rintro e w' ⟨y, vs, k, es, s', htk, hk, rfl, hl, hb⟩
  have ht := takeM_more k m _ _ _ _ _ htk (by omega)
  by_cases he : s'.er = 0
  · obtain ⟨ay, cy, rfl, -⟩ := hl.ents
    exact ⟨ay, _, cy, vs, es, s', ht, by rw [paM_ok he, if_pos he, if_pos he, he], by rw [paM_ok he]; exact hl, hb⟩
  · exact ⟨none, 0, 0, [], es, s', ht, by rw [paM_er he, if_neg he, if_neg he], by rw [paM_er he]; exact (RdL.nil _ _).toRdW, hb⟩
set_option maxHeartbeats 8000000 in
theorem streamParses_walk (a : Option Addr) (n c : Nat) (xs : List UInt8) (w : World) (hn : n ≤ 140737488351232) (h : Sl Bf w a n c xs) :
    Calls Tryz.prog 5 #[.slice a n c] w fun e w' => e = .returned (.bool true) ∧ Below w.heap.size w w' := by
  have H := Lib.hid h
  obtain ⟨m, hm⟩ : ∃ m : Nat, (4611686018427387904 : Int) = (m : Nat) := ⟨4611686018427387904, rfl⟩
  have hm1 : 1000000000 ≤ m := by omega
  have HM := Lib.hid hm
  clear h hm
  go_enter Tryz.func5, Tryz.ntmps5
  go_wp2_with fail
  refine (lives_any _).mono ?_
  rintro e w1 ⟨rfl, hb1⟩
  have H1 := Lib.hid (H.out.keep hb1)
  have B1 := Lib.hid hb1
  clear hb1
  go_wp2_with fail
  refine (lent_any a n c xs w1 hn H1.out).mono ?_
  rintro e w2 ⟨g, rfl, hg2, hl2, hb2⟩
  have L2 := Lib.hid hl2
  have B2 := Lib.hid (keep_trans B1.out hb2)
  have H2 := Lib.hid (H1.out.keep hb2)
  have P1 := Lib.hid (sparse2_any hm1 (some ⟨g, 0, none⟩) n (n + 2) xs w2 hn (by have := H.out.len; subst this; exact hl2.sl))
  clear hl2 hb2 H1
  go_wp2_with fail
  refine P1.out.mono ?_
  rintro e w3 ⟨a3, n3, c3, vs3, es3, s3, ht3, rfl, hr3, hb3⟩
  have R3 := Lib.hid hr3
  have T3 := Lib.hid ht3
  have B3 := Lib.hid (keep_trans B2.out hb3)
  have L3 := Lib.hid (L2.out.keep hb3)
  have H3 := Lib.hid (H2.out.keep hb3)
  have S23 := Lib.hid hb3.size
  have RB3 := Lib.hid hr3.inB
  have P2 := Lib.hid (sparse2_any hm1 (some ⟨g, 0, none⟩) n (n + 2) xs w3 hn (by have := H.out.len; subst this; exact L3.out.sl))
  clear hr3 ht3 hb3 P1
  go_wp2_with fail
  refine P2.out.mono ?_
  rintro e w4 ⟨a4, n4, c4, vs4, es4, s4, ht4, rfl, hr4, hb4⟩
  have e34 : (es4, s4, ([] : List Ent), true) = (es3, s3, [], true) := ht4.symm.trans T3.out
  injection e34 with q1 q2
  injection q2 with q2 q3
  subst q1 q2
  have R4 := Lib.hid hr4
  have R34 := Lib.hid (R3.out.keep hb4)
  have B4 := Lib.hid (keep_trans B3.out hb4)
  have L4 := Lib.hid (L3.out.keep hb4)
  have S34 := Lib.hid hb4.size
  have RB4 := Lib.hid hr4.inB
  have P3 := Lib.hid (rparse8_any HM.out a n c xs w4 hn (H3.out.keep hb4))
  have H4 := Lib.hid (H3.out.keep hb4)
  clear hr4 ht4 hb4 P2 R3 q3
  go_wp2_with fail
  refine P3.out.mono ?_
  rintro e w5 ⟨a5, n5, c5, es5, s5, l5, b5, who5, ht5, rfl, hl5, hw5, hb5⟩
  have e35 : (es5, s5, l5, b5) = (es4, s4, [], true) := ht5.symm.trans T3.out
  injection e35 with q1 q2
  injection q2 with q2 q3
  subst q1 q2
  have LF5 := Lib.hid hl5
  have W5 := Lib.hid hw5
  have R35 := Lib.hid (R34.out.keep hb5)
  have R45 := Lib.hid (R4.out.keep hb5)
  have B5 := Lib.hid (keep_trans B4.out hb5)
  have L5 := Lib.hid (L4.out.keep hb5)
  have H5 := Lib.hid (H4.out.keep hb5)
  have S45 := Lib.hid hb5.size
  clear hl5 hw5 ht5 hb5 P3 R34 R4 T3 q3
  obtain ⟨⟨esx, er, pt⟩, hpa⟩ : ∃ X, paM es5 s5 = X := ⟨_, rfl⟩
  rw [hpa] at LF5 R35 R45 ⊢
  dsimp only at LF5 R35 R45 ⊢
  have en5 := LF5.out.ents
  obtain ⟨a3', c3', hy3, hE3⟩ := R35.out.ents
  obtain ⟨a4', c4', hy4, hE4⟩ := R45.out.ents
  obtain ⟨nl, hnl⟩ : ∃ k, esx.length = k := ⟨_, rfl⟩
  rw [hnl] at hy3 hE3 hy4 hE4
  injection hy3 with p1 p2 p3
  injection hy4 with p4 p5 p6
  subst p1 p2 p3 p4 p5 p6
  obtain rfl : n4 = n5 := by rw [← hnl]; exact en5.1
  have HNL := Lib.hid hnl
  have hn9 : n4 ≤ 9223372036854775807 := by rw [← hnl]; exact R35.out.lenLe
  have SA := Lib.hid (sameAll_any a3 n4 c3 a5 n4 c5 esx esx w5 hn9 hn9 hE3 en5)
  clear en5 hE3 hE4 hpa hnl
  go_wp2_with fail
  refine SA.out.mono ?_
  rintro e w6 ⟨rfl, hb6⟩
  rw [show decide True = true from rfl]
  have SP := Lib.hid (espoilP_any a3 n4 c3 _ w6 (R35.out.keep hb6).spoilP)
  have R46 := Lib.hid (R45.out.keep hb6)
  have LF6 := Lib.hid (LF5.out.turn (Turns.of_below (S := fun _ => False) hb6) (fun _ e => e.elim) (fun _ _ e => e))
  have B6 := Lib.hid (keep_trans B5.out hb6)
  have L6 := Lib.hid (L5.out.keep hb6)
  have H6 := Lib.hid (H5.out.keep hb6)
  have S56 := Lib.hid hb6.size
  clear hb6 SA R45 LF5 L5 H5
  go_wp2_with fail
  refine SP.out.mono ?_
  rintro e w7 ⟨rfl, ht7⟩
  have hlo2 : w.heap.size ≤ w2.heap.size := B2.out.size
  have R47 := Lib.hid (R46.out.turns ht7 fun j hj hs => by have := (RB4.out j hj).1; have := (RB3.out j hs).2; omega)
  have LF7 := Lib.hid (LF6.out.turn ht7 (fun j hs e => by have h1 := W5.out j (by rw [e]; decide); have := (RB3.out j hs).2; have := S34.out; omega) (fun _ _ e => e))
  have L7 : Hid (Lent w7 g xs) := Lib.hid (ht7.heap L6.out (fun hs => by have := (RB3.out g hs).1; have := L2.out.lt; omega))
  have H7 := Lib.hid (H6.out.turns ht7 fun b o ha h0 hs => by subst ha; have := (RB3.out b hs).1; have := H.out.blt h0; omega)
  have B7 := Lib.hid (ht7.below B6.out B6.out.size fun j hs => by have := (RB3.out j hs).1; omega)
  clear ht7 R46 LF6 L6 H6 SP
  have en7 := LF7.out.ents
  obtain ⟨a4'', c4'', hy4, hE4⟩ := R47.out.ents
  rw [HNL.out] at hy4 hE4
  injection hy4 with p4 p5 p6
  subst p4 p6
  have SA := Lib.hid (sameAll_any a4 n4 c4 a5 n4 c5 esx esx w7 hn9 hn9 hE4 en7)
  clear en7 hE4 p5
  go_wp2_with fail
  refine SA.out.mono ?_
  rintro e w8 ⟨rfl, hb8⟩
  rw [show decide True = true from rfl]
  have KP := Lib.hid (kept_any g n a c xs w8 hn (L7.out.keep hb8) (H7.out.keep hb8))
  have B8 := Lib.hid (keep_trans B7.out hb8)
  clear hb8 SA
  go_wp2_with fail
  refine KP.out.mono ?_
  rintro e w9 ⟨rfl, hb9⟩
  have B9 := Lib.hid (keep_trans B8.out hb9)
  clear hb9 KP
  have t1 : ((er : Int) == er) = true := by simp
  have t2 : ((pt : Int) == pt) = true := by simp
  go_wp2_with fail
  go_ret
  exact ⟨rfl, B9.out⟩
end Go.Proofs.YtljcogimeimknaaGreat
