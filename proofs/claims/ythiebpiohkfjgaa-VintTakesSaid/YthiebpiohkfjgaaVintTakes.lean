/- VintTakes: the walk. Conditions: the slices within reach. Written by a program of this place (gen_VintTakes.py). -/
import Derived.Test.YthiebpiohkfjgaaVintTakesM
import Derived.StillTailTactics
import Derived.Deep.RegionLaw
namespace Go.Proofs.Ythiebpiohkfjgaa
open Go.RowKit

abbrev Of (x : Bool) : Value := .bool x
set_option maxHeartbeats 2000000 in
set_option maxRecDepth 100000 in
theorem vintTakes_walk (a : Option Addr) (n c : Nat) (xs : List UInt8) (a' : Option Addr) (n' c' : Nat) (zs : List Bool) (w : World) (hn : n ≤ 140737488351232) (hn' : n' ≤ 140737488351232) (h : Sl Bf w a n c xs) (h' : Sl Of w a' n' c' zs) :
    Calls Try.prog 5 #[.slice a n c, .slice a' n' c'] w fun e w' => e = .returned (.bool true) ∧ Below w.heap.size w w' := by
  obtain rfl : n = xs.length := h.len.symm
  obtain rfl : n' = zs.length := h'.len.symm
  have H := Lib.hid h; clear h
  have H' := Lib.hid h'; clear h'
  go_enter Try.func5, Try.ntmps5
  go_wp2_with fail
  refine (lives_any _).mono ?_
  rintro e w1 ⟨rfl, hb⟩
  have G := Lib.hid hb; clear hb
  go_wp2_with fail
  refine (new_any _).mono ?_
  rintro e w2 ⟨rfl, hd0, hb⟩
  have G2 := Lib.hid (keep_trans G.out hb); clear hb
  obtain ⟨g0, hg0⟩ : ∃ g0, w1.heap.size = g0 := ⟨_, rfl⟩
  have lw1 : w.heap.size ≤ g0 := hg0 ▸ G.out.size
  rw [hg0] at hd0 ⊢
  clear hg0
  have hd0lt := hd0.lt
  have D0 := Lib.hid hd0; clear hd0
  go_wp2_with fail
  refine (new_any _).mono ?_
  rintro e w3 ⟨rfl, hd1, hb⟩
  replace D0 := Lib.hid (D0.out.keep hb)
  have G3 := Lib.hid (keep_trans G2.out hb); clear hb
  have lg : g0 < w2.heap.size := hd0lt
  obtain ⟨g1, hg1⟩ : ∃ g1, w2.heap.size = g1 := ⟨_, rfl⟩
  rw [hg1] at lg
  rw [hg1] at hd1 ⊢
  clear hg1 G G2
  have D1 := Lib.hid hd1; clear hd1
  have hg1lt := D1.out.lt
  go_wp2_with fail
  obtain ⟨gx, hgx⟩ : ∃ gx, w3.heap.size = gx := ⟨_, rfl⟩
  have hpx : Two2 (w3.alloc (.cells #[.pointer (some ⟨g0, 0, none⟩), .pointer (some ⟨g1, 0, none⟩)] 35)) w3.heap.size 35 (fun i => if i = 0 then .pointer (some ⟨g0, 0, none⟩) else .pointer (some ⟨g1, 0, none⟩)) := heap_new w3 _
  have hb4 : Below w3.heap.size w3 (w3.alloc (.cells #[.pointer (some ⟨g0, 0, none⟩), .pointer (some ⟨g1, 0, none⟩)] 35)) := (Below.refl _ _).alloc (Nat.le_refl _) _
  have hs4 : (w3.alloc (.cells #[.pointer (some ⟨g0, 0, none⟩), .pointer (some ⟨g1, 0, none⟩)] 35)).heap.size = gx + 1 := by rw [World.size_alloc, hgx]
  have lw3 : w.heap.size ≤ w3.heap.size := G3.out.size
  rw [hgx] at hpx lw3 hg1lt ⊢
  have d0 := D0.out.keep hb4
  have d1 := D1.out.keep hb4
  have g4 := keep_trans G3.out hb4
  clear hgx hb4 G3 D0 D1
  generalize w3.alloc (.cells #[.pointer (some ⟨g0, 0, none⟩), .pointer (some ⟨g1, 0, none⟩)] 35) = w4 at *
  have hb5 : Below w4.heap.size w4 (w4.alloc (.cells #[.slice none 0 0, .int .i64 0, .slice none 0 0, .int .i64 0] 40)) := (Below.refl _ _).alloc (Nat.le_refl _) _
  have hrt : Rt (w4.alloc (.cells #[.slice none 0 0, .int .i64 0, .slice none 0 0, .int .i64 0] 40)) (gx + 1) (fun _ => .slice none 0 0) (fun _ => 0) := by rw [← hs4]; exact heap_new w4 _
  have lgx : gx < w4.heap.size := by omega
  have g5 := keep_trans g4 hb5
  have hst : TS (w4.alloc (.cells #[.slice none 0 0, .int .i64 0, .slice none 0 0, .int .i64 0] 40)) (fun k => if k = 0 then g0 else g1) gx (gx + 1) (fun _ => []) (fun _ => 0) (fun _ => 0) (fun _ => .slice none 0 0) := by
    refine ⟨fun k hk => ?_, ?_, hrt, fun k hk => OwT.nil _ _ _ _, (fun j hj => by cases hj), fun k hk => Inv.start, fun k hk => ?_, by omega, ?_⟩
    · rcases (by omega : k = 0 ∨ k = 1) with e | e <;> subst e
      · exact d0.keep hb5
      · exact d1.keep hb5
    · exact (hb5.block gx lgx).trans hpx
    · rcases (by omega : k = 0 ∨ k = 1) with e | e <;> subst e
      · show g0 < gx; omega
      · exact hg1lt
    · show g0 ≠ g1; omega
  have ST := Lib.hid hst; clear hst
  have G5 := Lib.hid g5
  clear hs4 g4 g5 hb5 hpx d0 d1 hrt
  generalize w4.alloc (.cells #[.slice none 0 0, .int .i64 0, .slice none 0 0, .int .i64 0] 40) = w5 at *
  have lg0 : w.heap.size ≤ g1 := by omega
  clear lgx lw3
  obtain ⟨gy, hgy⟩ : ∃ gy, gx + 1 = gy := ⟨_, rfl⟩
  rw [hgy] at ST ⊢
  have lgy : g1 < gy := by omega
  clear hgy
  go_loopw [8] (fun i wr => ∃ (k : Nat) (bs : Nat → List UInt8) (n s : Nat → Nat) (v : Nat → Value), k ≤ xs.length ∧ i = .int .i64 k ∧ TS wr (fun k => if k = 0 then g0 else g1) gx gy bs n s v ∧ Below w.heap.size w wr) (fun i _ => xs.length - (intOf i).toNat)
  case atStart => exact ⟨0, _, _, _, _, Nat.zero_le _, rfl, ST.out, G5.out⟩
  case round =>
    obtain ⟨k, bs, n, s, v, hk, rfl, hst, hb⟩ := hrel
    replace ST := Lib.hid hst; clear hst
    have G := Lib.hid hb; clear hb G5
    by_cases hlt : k < xs.length
    · obtain ⟨x, b, o, hx, rfl, hc⟩ := (H.out.keep G.out).at k hlt
      have hc : wr.cell? ⟨b, o + k, none⟩ = some (.int .u8 (B x)) := hc
      have hbw : b < w.heap.size := H.out.blt (by omega)
      clear hx
      by_cases hzl : k < zs.length
      · obtain ⟨q, bq, oq, hq, rfl, hcq⟩ := (H'.out.keep G.out).at k hzl
        have hcq : wr.cell? ⟨bq, oq + k, none⟩ = some (.bool q) := hcq
        clear hq
        cases q with
        | true =>
          obtain ⟨⟨d, er, n2, s2, b2⟩, hq⟩ : ∃ R, tq (s 1) (n 1) (bs 1) x = R := ⟨_, rfl⟩
          have HQ := Lib.hid hq; clear hq
          have p1 : wr.cell? ⟨gx, 1, none⟩ = some (.pointer (some ⟨g1, 0, none⟩)) := ST.out.ptr.cell 1 (by omega)
          have t1 : Tk wr g1 (n 1) (bs 1).length (s 1) := ST.out.tk 1 (by omega)
          have T1 := Lib.hid t1; clear t1
          have hgk : g1 < gx := ST.out.gs 1 (by omega)
          have hgy : gy < wr.heap.size := ST.out.rt.lt
          have hgxy : gx < gy := ST.out.xy
          go_upto_region 12 with (fail)
          replace T1 := Lib.hid T1.out.drew
          replace ST := Lib.hid (ST.out.same (w' := wr.drew) (fun b hb => rfl))
          replace G := Lib.hid G.out.drew
          have hc' : wr.drew.cell? ⟨b, o + k, none⟩ = some (.int .u8 (B x)) := hc
          have HC := Lib.hid hc'; clear hc'
          have hgy : gy < wr.drew.heap.size := hgy
          go_region_with (go_at_call 19; refine (ptake_any g1 _ _ _ _ _ _ _ _ _ _ HQ.out (ST.out.inv 1 (by omega)) T1.out).mono ?_; rintro e w7 ⟨rfl, ht7, hg7⟩)
          all_goals
            replace hc := HC.out; clear HC
            generalize wr.drew = w6 at *
            have hs7 := hg7.size
            have hob : ∀ j, (v 1).ownBlock = some j → gy + 1 ≤ j ∧ j < w6.heap.size := (ST.out.row 1 (by omega)).lt
            have hr7 : Rt w7 gy v s := ST.out.rt.grown hg7 (by intro e; injection e; omega)
            have ho7 : OwT fB w7 (gy + 1) 5 (v 1) (bs 1) := (ST.out.row 1 (by omega)).of_block fun j hj => hg7.block j (hob j hj).2 (by have := hob j hj; intro e; injection e; omega)
            have G7 := Lib.hid (G.out.grown hg7 G.out.size (fun j hj => by cases hj; omega))
            have hgy7 : gy + 1 ≤ w7.heap.size := by omega
            have hc7 : w7.cell? ⟨b, o + k, none⟩ = some (.int .u8 (B x)) := (World.cell?_of_block (a := ⟨b, o + k, none⟩) (hg7.block b (by omega) (by intro e; injection e; omega))).trans hc
            have TT7 := Lib.hid ht7; clear ht7
            have RR7 := Lib.hid hr7; clear hr7
            have OO7 := Lib.hid ho7; clear ho7
            have HG7 := Lib.hid hg7; clear hg7
            have HOB := Lib.hid hob; clear hob
            clear p1 hc T1
            go_upto_region 13 with (fail)
            replace TT7 : Hid (Tk w7.drew g1 n2 b2.length s2) := Lib.hid TT7.out.drew
            replace RR7 : Hid (Rt w7.drew gy v s) := RR7
            replace OO7 := Lib.hid OO7.out.drew
            replace HG7 : Hid (w6.grownBy w7.drew (some g1)) := Lib.hid (grown_drw HG7.out)
            replace G7 := Lib.hid G7.out.drew
            have hs7 : w6.heap.size ≤ w7.drew.heap.size := hs7
            have hgy7 : gy + 1 ≤ w7.drew.heap.size := hgy7
            go_region_with (go_at_call 20; refine (qtake_any gy 1 (gy + 1) s v _ _ _ _ _ _ _ _ _ (by omega) HQ.out (ST.out.inv 1 (by omega)) (by omega) hgy7 RR7.out OO7.out).mono ?_; rintro e w9 ⟨rfl, y, ho, hr, hc, hy⟩)
            all_goals
              clear hc7
              generalize w7.drew = w8 at *
              have st9 := ST.out.step 1 (by omega) HQ.out HG7.out TT7.out y ho hr hc hy
              have lw9 : w8.heap.size ≤ w9.heap.size := hc.2.2.2.1
              have g9 : Below w.heap.size w w9 := by
                refine ⟨hc.1.trans G7.out.os, hc.2.1.trans G7.out.tape, hc.2.2.1.trans G7.out.output, Nat.le_trans G7.out.size lw9, fun j hj => ?_⟩
                rw [hc.2.2.2.2 j (by omega) (by omega) (fun e => by have := HOB.out j e.symm; omega)]
                exact G7.out.block j hj
              have ST9 := Lib.hid st9; clear st9
              have G9 := Lib.hid g9; clear g9 hc ho hr hy
              obtain ⟨bs', hbs'⟩ : ∃ f, f = fun i => if i = 1 then b2 else bs i := ⟨_, rfl⟩
              obtain ⟨n', hn'⟩ : ∃ f, f = fun i => if i = 1 then n2 else n i := ⟨_, rfl⟩
              obtain ⟨s', hs'⟩ : ∃ f, f = fun i => if i = 1 then s2 else s i := ⟨_, rfl⟩
              obtain ⟨v', hv'⟩ : ∃ f, f = fun i => if i = 1 then y else v i := ⟨_, rfl⟩
              rw [← hbs', ← hn', ← hs', ← hv'] at ST9
              clear hbs' hn' hs' hv'
              have p1 : w9.cell? ⟨gx, 1, none⟩ = some (.pointer (some ⟨g1, 0, none⟩)) := ST9.out.ptr.cell 1 (by omega)
              have t9 : Tk w9 g1 (n' 1) (bs' 1).length (s' 1) := ST9.out.tk 1 (by omega)
              have T9 := Lib.hid t9; clear t9
              clear ST G G7 TT7 RR7 OO7 HG7 HOB HQ hs7 hgy7 lw9
              go_wp2_with fail
              refine (pnumber_any _ _ _ _ _ T9.out).mono ?_
              rintro e w' ⟨rfl, rfl⟩
              go_wp2_with fail
              refine (qnumber_any gy 1 (gy + 1) s' v' _ _ _ (by omega) (ST9.out.inv 1 (by omega)) ST9.out.rt (ST9.out.row 1 (by omega))).mono ?_
              rintro e w' ⟨rfl, rfl⟩
              go_wp2_with fail
              refine (taken_any _ _ _ _ _ T9.out).mono ?_
              rintro e w' ⟨rfl, rfl⟩
              obtain ⟨ay, ny, cy, hvy, zy⟩ := (ST9.out.row 1 (by omega)).slN
              obtain rfl : ny = (bs' 1).length := zy.len.symm
              have y1 : w9.cell? ⟨gy, 2 * 1, none⟩ = some (.slice ay (bs' 1).length cy) := hvy ▸ ST9.out.rt.c0 1 (by omega)
              clear hvy zy
              go_wp2_with fail
              go_roundw
              case rel => exact ⟨k + 1, bs', n', s', v', by omega, by go_num, ST9.out, G9.out⟩
              case measure => simp [intOf]; omega
        | false =>
          obtain ⟨⟨d, er, n2, s2, b2⟩, hq⟩ : ∃ R, tq (s 0) (n 0) (bs 0) x = R := ⟨_, rfl⟩
          have HQ := Lib.hid hq; clear hq
          have p1 : wr.cell? ⟨gx, 0, none⟩ = some (.pointer (some ⟨g0, 0, none⟩)) := ST.out.ptr.cell 0 (by omega)
          have t1 : Tk wr g0 (n 0) (bs 0).length (s 0) := ST.out.tk 0 (by omega)
          have T1 := Lib.hid t1; clear t1
          have hgk : g0 < gx := ST.out.gs 0 (by omega)
          have hgy : gy < wr.heap.size := ST.out.rt.lt
          have hgxy : gx < gy := ST.out.xy
          go_upto_region 12 with (fail)
          replace T1 := Lib.hid T1.out.drew
          replace ST := Lib.hid (ST.out.same (w' := wr.drew) (fun b hb => rfl))
          replace G := Lib.hid G.out.drew
          have hc' : wr.drew.cell? ⟨b, o + k, none⟩ = some (.int .u8 (B x)) := hc
          have HC := Lib.hid hc'; clear hc'
          have hgy : gy < wr.drew.heap.size := hgy
          go_region_with (go_at_call 19; refine (ptake_any g0 _ _ _ _ _ _ _ _ _ _ HQ.out (ST.out.inv 0 (by omega)) T1.out).mono ?_; rintro e w7 ⟨rfl, ht7, hg7⟩)
          all_goals
            replace hc := HC.out; clear HC
            generalize wr.drew = w6 at *
            have hs7 := hg7.size
            have hob : ∀ j, (v 0).ownBlock = some j → gy + 1 ≤ j ∧ j < w6.heap.size := (ST.out.row 0 (by omega)).lt
            have hr7 : Rt w7 gy v s := ST.out.rt.grown hg7 (by intro e; injection e; omega)
            have ho7 : OwT fB w7 (gy + 1) 5 (v 0) (bs 0) := (ST.out.row 0 (by omega)).of_block fun j hj => hg7.block j (hob j hj).2 (by have := hob j hj; intro e; injection e; omega)
            have G7 := Lib.hid (G.out.grown hg7 G.out.size (fun j hj => by cases hj; omega))
            have hgy7 : gy + 1 ≤ w7.heap.size := by omega
            have hc7 : w7.cell? ⟨b, o + k, none⟩ = some (.int .u8 (B x)) := (World.cell?_of_block (a := ⟨b, o + k, none⟩) (hg7.block b (by omega) (by intro e; injection e; omega))).trans hc
            have TT7 := Lib.hid ht7; clear ht7
            have RR7 := Lib.hid hr7; clear hr7
            have OO7 := Lib.hid ho7; clear ho7
            have HG7 := Lib.hid hg7; clear hg7
            have HOB := Lib.hid hob; clear hob
            clear p1 hc T1
            go_upto_region 13 with (fail)
            replace TT7 : Hid (Tk w7.drew g0 n2 b2.length s2) := Lib.hid TT7.out.drew
            replace RR7 : Hid (Rt w7.drew gy v s) := RR7
            replace OO7 := Lib.hid OO7.out.drew
            replace HG7 : Hid (w6.grownBy w7.drew (some g0)) := Lib.hid (grown_drw HG7.out)
            replace G7 := Lib.hid G7.out.drew
            have hs7 : w6.heap.size ≤ w7.drew.heap.size := hs7
            have hgy7 : gy + 1 ≤ w7.drew.heap.size := hgy7
            go_region_with (go_at_call 20; refine (qtake_any gy 0 (gy + 1) s v _ _ _ _ _ _ _ _ _ (by omega) HQ.out (ST.out.inv 0 (by omega)) (by omega) hgy7 RR7.out OO7.out).mono ?_; rintro e w9 ⟨rfl, y, ho, hr, hc, hy⟩)
            all_goals
              clear hc7
              generalize w7.drew = w8 at *
              have st9 := ST.out.step 0 (by omega) HQ.out HG7.out TT7.out y ho hr hc hy
              have lw9 : w8.heap.size ≤ w9.heap.size := hc.2.2.2.1
              have g9 : Below w.heap.size w w9 := by
                refine ⟨hc.1.trans G7.out.os, hc.2.1.trans G7.out.tape, hc.2.2.1.trans G7.out.output, Nat.le_trans G7.out.size lw9, fun j hj => ?_⟩
                rw [hc.2.2.2.2 j (by omega) (by omega) (fun e => by have := HOB.out j e.symm; omega)]
                exact G7.out.block j hj
              have ST9 := Lib.hid st9; clear st9
              have G9 := Lib.hid g9; clear g9 hc ho hr hy
              obtain ⟨bs', hbs'⟩ : ∃ f, f = fun i => if i = 0 then b2 else bs i := ⟨_, rfl⟩
              obtain ⟨n', hn'⟩ : ∃ f, f = fun i => if i = 0 then n2 else n i := ⟨_, rfl⟩
              obtain ⟨s', hs'⟩ : ∃ f, f = fun i => if i = 0 then s2 else s i := ⟨_, rfl⟩
              obtain ⟨v', hv'⟩ : ∃ f, f = fun i => if i = 0 then y else v i := ⟨_, rfl⟩
              rw [← hbs', ← hn', ← hs', ← hv'] at ST9
              clear hbs' hn' hs' hv'
              have p1 : w9.cell? ⟨gx, 0, none⟩ = some (.pointer (some ⟨g0, 0, none⟩)) := ST9.out.ptr.cell 0 (by omega)
              have t9 : Tk w9 g0 (n' 0) (bs' 0).length (s' 0) := ST9.out.tk 0 (by omega)
              have T9 := Lib.hid t9; clear t9
              clear ST G G7 TT7 RR7 OO7 HG7 HOB HQ hs7 hgy7 lw9
              go_wp2_with fail
              refine (pnumber_any _ _ _ _ _ T9.out).mono ?_
              rintro e w' ⟨rfl, rfl⟩
              go_wp2_with fail
              refine (qnumber_any gy 0 (gy + 1) s' v' _ _ _ (by omega) (ST9.out.inv 0 (by omega)) ST9.out.rt (ST9.out.row 0 (by omega))).mono ?_
              rintro e w' ⟨rfl, rfl⟩
              go_wp2_with fail
              refine (taken_any _ _ _ _ _ T9.out).mono ?_
              rintro e w' ⟨rfl, rfl⟩
              obtain ⟨ay, ny, cy, hvy, zy⟩ := (ST9.out.row 0 (by omega)).slN
              obtain rfl : ny = (bs' 0).length := zy.len.symm
              have y1 : w9.cell? ⟨gy, 2 * 0, none⟩ = some (.slice ay (bs' 0).length cy) := hvy ▸ ST9.out.rt.c0 0 (by omega)
              clear hvy zy
              go_wp2_with fail
              go_roundw
              case rel => exact ⟨k + 1, bs', n', s', v', by omega, by go_num, ST9.out, G9.out⟩
              case measure => simp [intOf]; omega
      · have hzd : decide (k < zs.length) = false := decide_eq_false hzl
        obtain ⟨⟨d, er, n2, s2, b2⟩, hq⟩ : ∃ R, tq (s 0) (n 0) (bs 0) x = R := ⟨_, rfl⟩
        have HQ := Lib.hid hq; clear hq
        have p1 : wr.cell? ⟨gx, 0, none⟩ = some (.pointer (some ⟨g0, 0, none⟩)) := ST.out.ptr.cell 0 (by omega)
        have t1 : Tk wr g0 (n 0) (bs 0).length (s 0) := ST.out.tk 0 (by omega)
        have T1 := Lib.hid t1; clear t1
        have hgk : g0 < gx := ST.out.gs 0 (by omega)
        have hgy : gy < wr.heap.size := ST.out.rt.lt
        have hgxy : gx < gy := ST.out.xy
        go_upto_region 12 with (fail)
        replace T1 := Lib.hid T1.out.drew
        replace ST := Lib.hid (ST.out.same (w' := wr.drew) (fun b hb => rfl))
        replace G := Lib.hid G.out.drew
        have hc' : wr.drew.cell? ⟨b, o + k, none⟩ = some (.int .u8 (B x)) := hc
        have HC := Lib.hid hc'; clear hc'
        have hgy : gy < wr.drew.heap.size := hgy
        go_region_with (go_at_call 19; refine (ptake_any g0 _ _ _ _ _ _ _ _ _ _ HQ.out (ST.out.inv 0 (by omega)) T1.out).mono ?_; rintro e w7 ⟨rfl, ht7, hg7⟩)
        all_goals
          replace hc := HC.out; clear HC
          generalize wr.drew = w6 at *
          have hs7 := hg7.size
          have hob : ∀ j, (v 0).ownBlock = some j → gy + 1 ≤ j ∧ j < w6.heap.size := (ST.out.row 0 (by omega)).lt
          have hr7 : Rt w7 gy v s := ST.out.rt.grown hg7 (by intro e; injection e; omega)
          have ho7 : OwT fB w7 (gy + 1) 5 (v 0) (bs 0) := (ST.out.row 0 (by omega)).of_block fun j hj => hg7.block j (hob j hj).2 (by have := hob j hj; intro e; injection e; omega)
          have G7 := Lib.hid (G.out.grown hg7 G.out.size (fun j hj => by cases hj; omega))
          have hgy7 : gy + 1 ≤ w7.heap.size := by omega
          have hc7 : w7.cell? ⟨b, o + k, none⟩ = some (.int .u8 (B x)) := (World.cell?_of_block (a := ⟨b, o + k, none⟩) (hg7.block b (by omega) (by intro e; injection e; omega))).trans hc
          have TT7 := Lib.hid ht7; clear ht7
          have RR7 := Lib.hid hr7; clear hr7
          have OO7 := Lib.hid ho7; clear ho7
          have HG7 := Lib.hid hg7; clear hg7
          have HOB := Lib.hid hob; clear hob
          clear p1 hc T1
          go_upto_region 13 with (fail)
          replace TT7 : Hid (Tk w7.drew g0 n2 b2.length s2) := Lib.hid TT7.out.drew
          replace RR7 : Hid (Rt w7.drew gy v s) := RR7
          replace OO7 := Lib.hid OO7.out.drew
          replace HG7 : Hid (w6.grownBy w7.drew (some g0)) := Lib.hid (grown_drw HG7.out)
          replace G7 := Lib.hid G7.out.drew
          have hs7 : w6.heap.size ≤ w7.drew.heap.size := hs7
          have hgy7 : gy + 1 ≤ w7.drew.heap.size := hgy7
          go_region_with (go_at_call 20; refine (qtake_any gy 0 (gy + 1) s v _ _ _ _ _ _ _ _ _ (by omega) HQ.out (ST.out.inv 0 (by omega)) (by omega) hgy7 RR7.out OO7.out).mono ?_; rintro e w9 ⟨rfl, y, ho, hr, hc, hy⟩)
          all_goals
            clear hc7
            generalize w7.drew = w8 at *
            have st9 := ST.out.step 0 (by omega) HQ.out HG7.out TT7.out y ho hr hc hy
            have lw9 : w8.heap.size ≤ w9.heap.size := hc.2.2.2.1
            have g9 : Below w.heap.size w w9 := by
              refine ⟨hc.1.trans G7.out.os, hc.2.1.trans G7.out.tape, hc.2.2.1.trans G7.out.output, Nat.le_trans G7.out.size lw9, fun j hj => ?_⟩
              rw [hc.2.2.2.2 j (by omega) (by omega) (fun e => by have := HOB.out j e.symm; omega)]
              exact G7.out.block j hj
            have ST9 := Lib.hid st9; clear st9
            have G9 := Lib.hid g9; clear g9 hc ho hr hy
            obtain ⟨bs', hbs'⟩ : ∃ f, f = fun i => if i = 0 then b2 else bs i := ⟨_, rfl⟩
            obtain ⟨n', hn'⟩ : ∃ f, f = fun i => if i = 0 then n2 else n i := ⟨_, rfl⟩
            obtain ⟨s', hs'⟩ : ∃ f, f = fun i => if i = 0 then s2 else s i := ⟨_, rfl⟩
            obtain ⟨v', hv'⟩ : ∃ f, f = fun i => if i = 0 then y else v i := ⟨_, rfl⟩
            rw [← hbs', ← hn', ← hs', ← hv'] at ST9
            clear hbs' hn' hs' hv'
            have p1 : w9.cell? ⟨gx, 0, none⟩ = some (.pointer (some ⟨g0, 0, none⟩)) := ST9.out.ptr.cell 0 (by omega)
            have t9 : Tk w9 g0 (n' 0) (bs' 0).length (s' 0) := ST9.out.tk 0 (by omega)
            have T9 := Lib.hid t9; clear t9
            clear ST G G7 TT7 RR7 OO7 HG7 HOB HQ hs7 hgy7 lw9
            go_wp2_with fail
            refine (pnumber_any _ _ _ _ _ T9.out).mono ?_
            rintro e w' ⟨rfl, rfl⟩
            go_wp2_with fail
            refine (qnumber_any gy 0 (gy + 1) s' v' _ _ _ (by omega) (ST9.out.inv 0 (by omega)) ST9.out.rt (ST9.out.row 0 (by omega))).mono ?_
            rintro e w' ⟨rfl, rfl⟩
            go_wp2_with fail
            refine (taken_any _ _ _ _ _ T9.out).mono ?_
            rintro e w' ⟨rfl, rfl⟩
            obtain ⟨ay, ny, cy, hvy, zy⟩ := (ST9.out.row 0 (by omega)).slN
            obtain rfl : ny = (bs' 0).length := zy.len.symm
            have y1 : w9.cell? ⟨gy, 2 * 0, none⟩ = some (.slice ay (bs' 0).length cy) := hvy ▸ ST9.out.rt.c0 0 (by omega)
            clear hvy zy
            go_wp2_with fail
            go_roundw
            case rel => exact ⟨k + 1, bs', n', s', v', by omega, by go_num, ST9.out, G9.out⟩
            case measure => simp [intOf]; omega

    · have p1 : wr.cell? ⟨gx, 1, none⟩ = some (.pointer (some ⟨g1, 0, none⟩)) := ST.out.ptr.cell 1 (by omega)
      have t1 : Tk wr g1 (n 1) (bs 1).length (s 1) := ST.out.tk 1 (by omega)
      have T1 := Lib.hid t1; clear t1
      go_wp2_with fail
      refine (pnumber_any _ _ _ _ _ T1.out).mono ?_
      rintro e w' ⟨rfl, rfl⟩
      go_wp2_with fail
      refine (qnumber_any gy 1 (gy + 1) s v _ _ _ (by omega) (ST.out.inv 1 (by omega)) ST.out.rt (ST.out.row 1 (by omega))).mono ?_
      rintro e w' ⟨rfl, rfl⟩
      go_wp2_with fail
      go_ret
      exact ⟨ret_bool (by simp), G.out⟩
end Go.Proofs.Ythiebpiohkfjgaa

