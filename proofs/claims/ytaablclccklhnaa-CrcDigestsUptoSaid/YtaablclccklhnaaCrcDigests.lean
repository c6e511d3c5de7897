/- CrcDigests: the walk (under way). Conditions: the script's bulk within reach. -/
import Derived.Test.YtaablclccklhnaaCrcSums
import Derived.Test.YtaablclccklhnaaCrcSeals
import Derived.Test.YtaablclccklhnaaCrcDigSt
import Derived.Test.YtaablclccklhnaaOpenOps
import Derived.Deep.DeepCutAuto
import Derived.BigRegion
import Derived.Deep.RegionLaw
namespace Go.Proofs.Ytaablclccklhnaa
open Go.RowKit

theorem sum_take (l : List Nat) : ∀ k, (l.take k).sum ≤ l.sum := by
  induction l with
  | nil => intro k; simp
  | cons x r ih =>
    intro k
    cases k with
    | zero => simp
    | succ k => have := ih k; simp; omega
theorem sum_next {os : List OpT} {k : Nat} {q : OpT} (h : os[k]? = some q) : ((os.take (k + 1)).map (·.2.2.length)).sum = ((os.take k).map (·.2.2.length)).sum + q.2.2.length := by
  rw [List.take_add_one, h]; simp

set_option maxHeartbeats 2000000 in
set_option maxRecDepth 100000 in
theorem crcDigests_walk (a : Option Addr) (n c : Nat) (os : List OpT) (w : World) (hn : n ≤ 1048576) (hsum : (os.map (·.2.2.length)).sum ≤ 1048576) (h : Ops w a n c os) :
    Calls Try.prog 5 #[.slice a n c] w fun e w' => e = .returned (.bool true) ∧ Below w.heap.size w w' := by
  obtain rfl : n = os.length := h.1.symm
  have H := Lib.hid h; clear h
  have HSum := Lib.hid hsum; clear hsum
  go_enter Try.func5, Try.ntmps5
  go_wp2_with fail
  refine (lives_any _).mono ?_
  rintro e w1 ⟨rfl, hb⟩
  have G := Lib.hid hb; clear hb
  go_wp2_with fail
  refine (new_any _).mono ?_
  rintro e w2 ⟨rfl, hd0, hb⟩
  have G2 := Lib.hid (keep_trans G.out hb); clear hb
  obtain ⟨g0, hg0⟩ : ∃ g0, w1.heap.size = g0 := ⟨_, rfl⟩
  have lw1 : w.heap.size ≤ g0 := hg0 ▸ G.out.size
  rw [hg0] at hd0 ⊢
  clear hg0
  have hd0lt := hd0.lt
  have D0 := Lib.hid hd0; clear hd0
  go_wp2_with fail
  refine (new_any _).mono ?_
  rintro e w3 ⟨rfl, hd1, hb⟩
  replace D0 := Lib.hid (D0.out.keep hb)
  have G3 := Lib.hid (keep_trans G2.out hb); clear hb
  have lg : g0 < w2.heap.size := by have := hd0lt; exact this
  obtain ⟨g1, hg1⟩ : ∃ g1, w2.heap.size = g1 := ⟨_, rfl⟩
  rw [hg1] at lg
  rw [hg1] at hd1 ⊢
  clear hg1 G G2
  have D1 := Lib.hid hd1; clear hd1
  have hx0 : Two2 (w3.alloc (.cells #[.pointer (some ⟨g0, 0, none⟩), .pointer (some ⟨g1, 0, none⟩)] 32)) w3.heap.size 32 (fun i => if i = 0 then .pointer (some ⟨g0, 0, none⟩) else .pointer (some ⟨g1, 0, none⟩)) := heap_new w3 _
  have X0 := Lib.hid hx0; clear hx0
  go_upto_region 3 with (fail)
  obtain ⟨gx, hgx⟩ : ∃ gx, w3.heap.size = gx := ⟨_, rfl⟩
  have hb4 : Below w3.heap.size w3 (w3.alloc (.cells #[.pointer (some ⟨g0, 0, none⟩), .pointer (some ⟨g1, 0, none⟩)] 32)) := (Below.refl _ _).alloc (Nat.le_refl _) _
  have lx0 : g0 < w3.heap.size := D0.out.lt
  have lx1 : g1 < w3.heap.size := D1.out.lt
  have lw3 : w.heap.size ≤ w3.heap.size := G3.out.size
  replace D0 := Lib.hid (D0.out.keep hb4)
  replace D1 := Lib.hid (D1.out.keep hb4)
  have G4 := Lib.hid (keep_trans G3.out hb4)
  have hs4 : (w3.alloc (.cells #[.pointer (some ⟨g0, 0, none⟩), .pointer (some ⟨g1, 0, none⟩)] 32)).heap.size = gx + 1 := by rw [World.size_alloc, hgx]
  rw [hgx] at X0 lx0 lx1 lw3 ⊢
  clear hgx hb4 G3
  generalize w3.alloc (.cells #[.pointer (some ⟨g0, 0, none⟩), .pointer (some ⟨g1, 0, none⟩)] 32) = w4 at *
  have hb5 : Below w4.heap.size w4 (w4.alloc (.cells #[.slice none 0 0, .slice none 0 0] 35)) := (Below.refl _ _).alloc (Nat.le_refl _) _
  have hy0 : Two2 (w4.alloc (.cells #[.slice none 0 0, .slice none 0 0] 35)) w4.heap.size 35 (fun _ => .slice none 0 0) := heap_new w4 _
  rw [hs4] at hy0
  have Y0 := Lib.hid hy0; clear hy0
  replace D0 := Lib.hid (D0.out.keep hb5)
  replace D1 := Lib.hid (D1.out.keep hb5)
  replace X0 := Lib.hid (X0.out.keep hb5)
  have G5 := Lib.hid (keep_trans G4.out hb5); clear hb5 G4
  have x0 := X0.out.cell 0 (by omega)
  have x1 := X0.out.cell 1 (by omega)
  rw [if_pos rfl] at x0
  rw [if_neg (by omega)] at x1
  have hst : St (w4.alloc (.cells #[.slice none 0 0, .slice none 0 0] 35)) (fun k => if k = 0 then g0 else g1) gx (fun _ => []) (fun _ => []) (fun _ => .slice none 0 0) := by
    have hz : sum [] = 0#32 := by decide
    refine ⟨fun k hk => ?_, ?_, Y0.out, fun k hk => OwT.nil _ _ _ _, (fun j hj => by cases hj), fun k hk => ?_, ?_⟩
    · rcases (by omega : k = 0 ∨ k = 1) with e | e <;> subst e <;> rw [hz]
      · exact D0.out
      · exact D1.out
    · exact X0.out
    · rcases (by omega : k = 0 ∨ k = 1) with e | e <;> subst e
      · exact lx0
      · exact lx1
    · show g0 ≠ g1; omega
  have ST := Lib.hid hst; clear hst
  have lgx : w.heap.size ≤ gx := lw3
  go_upto_region 6 with (fail)
  clear x0 x1 D0 D1 X0 Y0 hs4
  generalize w4.alloc (.cells #[.slice none 0 0, .slice none 0 0] 35) = w5 at *
  go_wp2_with fail
  go_loopw [6] (fun i wr => ∃ (k : Nat) (ys : Nat → List UInt8) (v : Nat → Value), k ≤ os.length ∧ i = .int .i64 k ∧ (ys 0).length + (ys 1).length ≤ ((os.take k).map (·.2.2.length)).sum ∧
    St wr (fun k => if k = 0 then g0 else g1) gx ys ys v ∧ Below w.heap.size w wr) (fun i _ => os.length - (intOf i).toNat)
  case atStart => exact ⟨0, _, _, Nat.zero_le _, rfl, by simp, ST.out, G5.out⟩
  case round =>
    obtain ⟨k, ys, v, hk, rfl, hlen, hst, hb⟩ := hrel
    have HLen := Lib.hid hlen; clear hlen
    replace ST := Lib.hid hst; clear hst
    have G := Lib.hid hb; clear hb G5
    by_cases hlt : k < os.length
    · obtain ⟨q, hq⟩ : ∃ q, os[k]? = some q := ⟨_, List.getElem?_eq_getElem hlt⟩
      obtain ⟨b, o, av, nv, cv, rfl, hc0, hc1, hc2, hsb⟩ := H.out.2.2.2 k q hq
      have hbl : b < w.heap.size := cell_lt hc0
      have e0 : wr.heap[b]? = w.heap[b]? := G.out.block b hbl
      have hc0 := (World.cell?_of_block (a := ⟨b, o + k * 3, none⟩) e0).trans hc0
      have hc1 := (World.cell?_of_block (a := ⟨b, o + k * 3 + 1, none⟩) e0).trans hc1
      have hc2 := (World.cell?_of_block (a := ⟨b, o + k * 3 + 2, none⟩) e0).trans hc2
      have SB := Lib.hid hsb; clear hsb
      have HQ := Lib.hid hq; clear hq
      obtain ⟨p, kd, bs⟩ := q
      dsimp only at hc0 hc1 hc2
      go_upto_region 10 with (fail)
      have lgo : gx + 1 < wr.heap.size := ST.out.arr.lt
      replace ST := Lib.hid (ST.out.keep ((Below.refl _ _).alloc (Nat.le_refl _) (.cells #[.bool p, .int .i64 kd, .slice av nv cv] 37)))
      have G6 := Lib.hid (keep_trans G.out ((Below.refl _ _).alloc (Nat.le_refl _) (.cells #[.bool p, .int .i64 kd, .slice av nv cv] 37)))
      have hop : (wr.alloc (.cells #[.bool p, .int .i64 kd, .slice av nv cv] 37)).heap[wr.heap.size]? = some (.cells #[.bool p, .int .i64 kd, .slice av nv cv] 37 (0, 0)) := heap_new wr _
      obtain ⟨go, hgo⟩ : ∃ go, wr.heap.size = go := ⟨_, rfl⟩
      rw [hgo] at hop lgo ⊢
      clear hgo hc0 hc1 hc2 e0 hbl G
      generalize wr.alloc (.cells #[.bool p, .int .i64 kd, .slice av nv cv] 37) = w6 at *
      have o0 : w6.cell? ⟨go, 0, none⟩ = some (.bool p) := by simp [World.cell?, hop]
      have o1 : w6.cell? ⟨go, 1, none⟩ = some (.int .i64 kd) := by simp [World.cell?, hop]
      have o2 : w6.cell? ⟨go, 2, none⟩ = some (.slice av nv cv) := by simp [World.cell?, hop]
      have HOp := Lib.hid hop; clear hop
      by_cases hk0 : (kd == 0) = true
      · cases p with
        | true =>
          have x1 := ST.out.ptr.cell 1 (by omega)
          have hrow : ∀ i, i < 2 → ∀ j, (v i).ownBlock = some j → j < w6.heap.size := fun i hi j hj => ((ST.out.row i hi).lt j hj).2
          have hgx6 : gx + 1 < w6.heap.size := ST.out.arr.lt
          have hgk : g1 < gx := ST.out.gs 1 (by omega)
          have hgo6 : go < w6.heap.size := (Array.getElem?_eq_some_iff.1 HOp.out).1
          have lw6 : w.heap.size ≤ w6.heap.size := G6.out.size
          have hnb : bs.length ≤ 1048576 := by
            have h1 := sum_next HQ.out
            have h2 := HSum.out
            have h3 := sum_take (os.map (·.2.2.length)) (k + 1)
            rw [← List.map_take] at h3
            have h4 : (true, kd, bs).2.2.length = bs.length := rfl
            omega
          have hyb : (ys 1).length ≤ 1048576 := by
            have h1 := HLen.out
            have h2 := HSum.out
            have h3 := sum_take (os.map (·.2.2.length)) k
            rw [← List.map_take] at h3
            omega
          obtain rfl : nv = bs.length := SB.out.len.symm
          have OP := Lib.hid HOp.out
          go_wp2_with fail
          refine (lent_any _ _ _ bs _ (by omega) (SB.out.keep G6.out)).mono ?_
          rintro e w7 ⟨gl, rfl, hgl, hL, hb⟩
          have hgol : go ≠ gl := by omega
          replace ST := Lib.hid (ST.out.keep hb)
          replace OP := Lib.hid ((hb.block go (by have := (Array.getElem?_eq_some_iff.1 OP.out).1; omega)).trans OP.out)
          have G7 := Lib.hid (keep_trans G6.out hb); clear hb
          have L := Lib.hid hL; clear hL
          have x1 := ST.out.ptr.cell 1 (by omega)
          have x1 : w7.cell? ⟨gx, 1, none⟩ = some (.pointer (some ⟨g1, 0, none⟩)) := x1
          have hd := ST.out.dig 1 (by omega)
          have hd : Dig w7 g1 (sum (ys 1)) ((ys 1).length : Nat) := hd
          have HD := Lib.hid hd; clear hd
          clear o1
          have o2 : w7.cell? ⟨go, 2, none⟩ = some (.slice av bs.length cv) := by have := OP.out; simp [World.cell?, this]
          go_wp2_with fail
          refine (write_any g1 (sum (ys 1)) (ys 1).length _ bs.length _ bs _ (by omega) (by omega) HD.out L.out.sl).mono ?_
          rintro e w8 ⟨rfl, hd, hg⟩
          rw [more_sum] at hd
          replace ST := Lib.hid (ST.out.turn 1 (by omega) (ys 1 ++ bs) hg (by rw [List.length_append]; exact hd))
          replace OP := Lib.hid ((hg.block go (Array.getElem?_eq_some_iff.1 OP.out).1 (by intro e; injection e; omega)).trans OP.out)
          replace L := Lib.hid ((hg.block gl L.out.lt (by intro e; injection e; omega)).trans L.out)
          have L : Hid (Lent w8 gl bs) := L
          have G8 := Lib.hid (G7.out.grown hg G7.out.size (fun j hj => by cases hj; omega)); clear hg hd HD x1
          have o2 : w8.cell? ⟨go, 2, none⟩ = some (.slice av bs.length cv) := by have := OP.out; simp [World.cell?, this]
          go_wp2_with fail
          refine (kept_any gl _ _ _ bs _ (by omega) L.out (SB.out.keep G8.out)).mono ?_
          rintro e w9 ⟨rfl, hb⟩
          replace ST := Lib.hid (ST.out.keep hb)
          replace OP := Lib.hid ((hb.block go (Array.getElem?_eq_some_iff.1 OP.out).1).trans OP.out)
          replace L := Lib.hid (L.out.keep hb)
          have G9 := Lib.hid (keep_trans G8.out hb); clear hb
          go_wp2_with fail
          refine (spoil_any _ _ _ _ (by omega) L.out.soft).mono ?_
          rintro e w10 ⟨rfl, hg⟩
          replace ST := Lib.hid (ST.out.away (j := gl) hg (by omega) (fun i hi e => by have := hrow i hi gl e; omega))
          replace OP := Lib.hid ((hg.block go (Array.getElem?_eq_some_iff.1 OP.out).1 (fun e => hgol (Option.some.inj e))).trans OP.out)
          have G10 := Lib.hid (G9.out.grown hg G9.out.size (fun j hj => by have hj : some gl = some j := hj; cases hj; omega)); clear hg L
          have o2 : w10.cell? ⟨go, 2, none⟩ = some (.slice av bs.length cv) := by have := OP.out; simp [World.cell?, this]
          have y1 := ST.out.arr.cell 1 (by omega)
          have y1f := ST.out.arr.free 1
          have hrk := ST.out.row 1 (by omega)
          obtain ⟨a1, n1, c1, hv1, z1⟩ := hrk.slN
          obtain rfl : n1 = (ys 1).length := z1.len.symm
          have RK := Lib.hid (hv1 ▸ hrk); clear hrk z1
          rw [hv1] at y1
          have lst : gx + 2 ≤ w10.heap.size := ST.out.arr.lt
          go_upto_region 21 with (fail)
          go_region_law (refine step_appT eltTB rfl (.tmp 69) (.tmp 71) rfl (gx + 2) (.slice a1 (ys 1).length c1) (ys 1) (by simp [Act.eval]) RK.out.drew av bs.length cv bs (by simp [Act.eval]) (SB.out.keep G10.out.drew).toT (by unfold maxLen; omega) (by omega) lst (ys 1 ++ bs) rfl ?_; intro v' w11 h11 hg11 hv11 hb11; obtain ⟨a2, n2, c2, rfl, z2⟩ := h11.slN; have arr11 : Two2 w11 (gx + 1) 35 v := (hb11.block (gx + 1) (by omega)).trans ST.out.arr; have y11 := arr11.cell 1 (by omega); have f11 := arr11.free 1)
          all_goals
            have hg12 : w10.grownBy w11 (v 1).ownBlock := by rw [hv1]; exact ⟨hg11.os, hg11.tape, hg11.output, hg11.size, hg11.block⟩
            have hst2 := ST.out.text 1 (by omega) (ys 1 ++ bs) (.slice a2 n2 c2) hg12 h11 (by rw [hv1]; exact .inr hv11)
            have ST := Lib.hid hst2
            have G11 := Lib.hid (G10.out.drew.trans (hb11.mono (by omega)))
            have G12 := Lib.hid (G11.out.setCell (p := ⟨gx + 1, 1, none⟩) (by show w.heap.size ≤ gx + 1; omega) (.slice a2 n2 c2))
            generalize w11.setCell ⟨gx + 1, 1, none⟩ (.slice a2 n2 c2) = w12 at *
            clear hst2 hg11 hg12 hb11 hv11 h11 z2 y11 f11 arr11 y1 y1f o2
            obtain ⟨ys2, hys2⟩ : ∃ f, f = fun i => if i = 1 then ys 1 ++ bs else ys i := ⟨_, rfl⟩
            rw [← hys2] at ST
            have HL2 := Lib.hid (show (ys2 0).length + (ys2 1).length ≤ ((os.take (k + 1)).map (·.2.2.length)).sum by
              have h1 := HLen.out
              have h2 := sum_next HQ.out
              have h4 : (true, kd, bs).2.2.length = bs.length := rfl
              have e0 : (ys2 1).length = (ys 1).length + bs.length := by rw [hys2]; simp
              have e1 : ys2 0 = ys 0 := by rw [hys2]; rfl
              rw [e1]
              omega)
            clear hys2
            obtain ⟨v2, hv2⟩ : ∃ f, f = fun i => if i = 1 then Value.slice a2 n2 c2 else v i := ⟨_, rfl⟩
            rw [← hv2] at ST
            clear hv2
            have x1 := ST.out.ptr.cell 1 (by omega)
            have y1 := ST.out.arr.cell 1 (by omega)
            have hd := ST.out.dig 1 (by omega)
            obtain ⟨a1, n1, c1, hv1, z1⟩ := (ST.out.row 1 (by omega)).slN
            obtain rfl : n1 = (ys2 1).length := z1.len.symm
            rw [hv1] at y1
            have hlb : (ys2 1).length ≤ 1048576 := by
              have h1 := HL2.out
              have h2 := HSum.out
              have h3 := sum_take (os.map (·.2.2.length)) (k + 1)
              rw [← List.map_take] at h3
              omega
            have x1 : w12.cell? ⟨gx, 1, none⟩ = some (.pointer (some ⟨g1, 0, none⟩)) := x1
            have hd : Dig w12 g1 (sum (ys2 1)) ((ys2 1).length : Nat) := hd
            have HD := Lib.hid hd; clear hd
            have Z1 := Lib.hid z1; clear z1
            go_wp2_with fail
            refine (dsum_any _ _ _ _ HD.out).mono ?_
            rintro e w' ⟨rfl, rfl⟩
            go_wp2_with fail
            refine (dlen_any _ _ _ _ HD.out).mono ?_
            rintro e w' ⟨rfl, rfl⟩
            go_wp2_with fail
            refine (rsum_any _ _ _ (ys2 1) _ (by omega) Z1.out).mono ?_
            rintro e w' ⟨rfl, rfl⟩
            go_wp2_with fail
            go_roundw
            case rel => exact ⟨k + 1, ys2, v2, by omega, by go_num, HL2.out, ST.out, G12.out⟩
            case measure => simp [intOf]; omega
        | false =>
          have x1 := ST.out.ptr.cell 0 (by omega)
          have hrow : ∀ i, i < 2 → ∀ j, (v i).ownBlock = some j → j < w6.heap.size := fun i hi j hj => ((ST.out.row i hi).lt j hj).2
          have hgx6 : gx + 1 < w6.heap.size := ST.out.arr.lt
          have hgk : g0 < gx := ST.out.gs 0 (by omega)
          have hgo6 : go < w6.heap.size := (Array.getElem?_eq_some_iff.1 HOp.out).1
          have lw6 : w.heap.size ≤ w6.heap.size := G6.out.size
          have hnb : bs.length ≤ 1048576 := by
            have h1 := sum_next HQ.out
            have h2 := HSum.out
            have h3 := sum_take (os.map (·.2.2.length)) (k + 1)
            rw [← List.map_take] at h3
            have h4 : (false, kd, bs).2.2.length = bs.length := rfl
            omega
          have hyb : (ys 0).length ≤ 1048576 := by
            have h1 := HLen.out
            have h2 := HSum.out
            have h3 := sum_take (os.map (·.2.2.length)) k
            rw [← List.map_take] at h3
            omega
          obtain rfl : nv = bs.length := SB.out.len.symm
          have OP := Lib.hid HOp.out
          go_wp2_with fail
          refine (lent_any _ _ _ bs _ (by omega) (SB.out.keep G6.out)).mono ?_
          rintro e w7 ⟨gl, rfl, hgl, hL, hb⟩
          have hgol : go ≠ gl := by omega
          replace ST := Lib.hid (ST.out.keep hb)
          replace OP := Lib.hid ((hb.block go (by have := (Array.getElem?_eq_some_iff.1 OP.out).1; omega)).trans OP.out)
          have G7 := Lib.hid (keep_trans G6.out hb); clear hb
          have L := Lib.hid hL; clear hL
          have x1 := ST.out.ptr.cell 0 (by omega)
          have x1 : w7.cell? ⟨gx, 0, none⟩ = some (.pointer (some ⟨g0, 0, none⟩)) := x1
          have hd := ST.out.dig 0 (by omega)
          have hd : Dig w7 g0 (sum (ys 0)) ((ys 0).length : Nat) := hd
          have HD := Lib.hid hd; clear hd
          clear o1
          have o2 : w7.cell? ⟨go, 2, none⟩ = some (.slice av bs.length cv) := by have := OP.out; simp [World.cell?, this]
          go_wp2_with fail
          refine (write_any g0 (sum (ys 0)) (ys 0).length _ bs.length _ bs _ (by omega) (by omega) HD.out L.out.sl).mono ?_
          rintro e w8 ⟨rfl, hd, hg⟩
          rw [more_sum] at hd
          replace ST := Lib.hid (ST.out.turn 0 (by omega) (ys 0 ++ bs) hg (by rw [List.length_append]; exact hd))
          replace OP := Lib.hid ((hg.block go (Array.getElem?_eq_some_iff.1 OP.out).1 (by intro e; injection e; omega)).trans OP.out)
          replace L := Lib.hid ((hg.block gl L.out.lt (by intro e; injection e; omega)).trans L.out)
          have L : Hid (Lent w8 gl bs) := L
          have G8 := Lib.hid (G7.out.grown hg G7.out.size (fun j hj => by cases hj; omega)); clear hg hd HD x1
          have o2 : w8.cell? ⟨go, 2, none⟩ = some (.slice av bs.length cv) := by have := OP.out; simp [World.cell?, this]
          go_wp2_with fail
          refine (kept_any gl _ _ _ bs _ (by omega) L.out (SB.out.keep G8.out)).mono ?_
          rintro e w9 ⟨rfl, hb⟩
          replace ST := Lib.hid (ST.out.keep hb)
          replace OP := Lib.hid ((hb.block go (Array.getElem?_eq_some_iff.1 OP.out).1).trans OP.out)
          replace L := Lib.hid (L.out.keep hb)
          have G9 := Lib.hid (keep_trans G8.out hb); clear hb
          go_wp2_with fail
          refine (spoil_any _ _ _ _ (by omega) L.out.soft).mono ?_
          rintro e w10 ⟨rfl, hg⟩
          replace ST := Lib.hid (ST.out.away (j := gl) hg (by omega) (fun i hi e => by have := hrow i hi gl e; omega))
          replace OP := Lib.hid ((hg.block go (Array.getElem?_eq_some_iff.1 OP.out).1 (fun e => hgol (Option.some.inj e))).trans OP.out)
          have G10 := Lib.hid (G9.out.grown hg G9.out.size (fun j hj => by have hj : some gl = some j := hj; cases hj; omega)); clear hg L
          have o2 : w10.cell? ⟨go, 2, none⟩ = some (.slice av bs.length cv) := by have := OP.out; simp [World.cell?, this]
          have y1 := ST.out.arr.cell 0 (by omega)
          have y1f := ST.out.arr.free 0
          have hrk := ST.out.row 0 (by omega)
          obtain ⟨a1, n1, c1, hv1, z1⟩ := hrk.slN
          obtain rfl : n1 = (ys 0).length := z1.len.symm
          have RK := Lib.hid (hv1 ▸ hrk); clear hrk z1
          rw [hv1] at y1
          have lst : gx + 2 ≤ w10.heap.size := ST.out.arr.lt
          go_upto_region 21 with (fail)
          go_region_law (refine step_appT eltTB rfl (.tmp 69) (.tmp 71) rfl (gx + 2) (.slice a1 (ys 0).length c1) (ys 0) (by simp [Act.eval]) RK.out.drew av bs.length cv bs (by simp [Act.eval]) (SB.out.keep G10.out.drew).toT (by unfold maxLen; omega) (by omega) lst (ys 0 ++ bs) rfl ?_; intro v' w11 h11 hg11 hv11 hb11; obtain ⟨a2, n2, c2, rfl, z2⟩ := h11.slN; have arr11 : Two2 w11 (gx + 1) 35 v := (hb11.block (gx + 1) (by omega)).trans ST.out.arr; have y11 := arr11.cell 0 (by omega); have f11 := arr11.free 0)
          all_goals
            have hg12 : w10.grownBy w11 (v 0).ownBlock := by rw [hv1]; exact ⟨hg11.os, hg11.tape, hg11.output, hg11.size, hg11.block⟩
            have hst2 := ST.out.text 0 (by omega) (ys 0 ++ bs) (.slice a2 n2 c2) hg12 h11 (by rw [hv1]; exact .inr hv11)
            have ST := Lib.hid hst2
            have G11 := Lib.hid (G10.out.drew.trans (hb11.mono (by omega)))
            have G12 := Lib.hid (G11.out.setCell (p := ⟨gx + 1, 0, none⟩) (by show w.heap.size ≤ gx + 1; omega) (.slice a2 n2 c2))
            generalize w11.setCell ⟨gx + 1, 0, none⟩ (.slice a2 n2 c2) = w12 at *
            clear hst2 hg11 hg12 hb11 hv11 h11 z2 y11 f11 arr11 y1 y1f o2
            obtain ⟨ys2, hys2⟩ : ∃ f, f = fun i => if i = 0 then ys 0 ++ bs else ys i := ⟨_, rfl⟩
            rw [← hys2] at ST
            have HL2 := Lib.hid (show (ys2 0).length + (ys2 1).length ≤ ((os.take (k + 1)).map (·.2.2.length)).sum by
              have h1 := HLen.out
              have h2 := sum_next HQ.out
              have h4 : (false, kd, bs).2.2.length = bs.length := rfl
              have e0 : (ys2 0).length = (ys 0).length + bs.length := by rw [hys2]; simp
              have e1 : ys2 1 = ys 1 := by rw [hys2]; rfl
              rw [e1]
              omega)
            clear hys2
            obtain ⟨v2, hv2⟩ : ∃ f, f = fun i => if i = 0 then Value.slice a2 n2 c2 else v i := ⟨_, rfl⟩
            rw [← hv2] at ST
            clear hv2
            have x1 := ST.out.ptr.cell 0 (by omega)
            have y1 := ST.out.arr.cell 0 (by omega)
            have hd := ST.out.dig 0 (by omega)
            obtain ⟨a1, n1, c1, hv1, z1⟩ := (ST.out.row 0 (by omega)).slN
            obtain rfl : n1 = (ys2 0).length := z1.len.symm
            rw [hv1] at y1
            have hlb : (ys2 0).length ≤ 1048576 := by
              have h1 := HL2.out
              have h2 := HSum.out
              have h3 := sum_take (os.map (·.2.2.length)) (k + 1)
              rw [← List.map_take] at h3
              omega
            have x1 : w12.cell? ⟨gx, 0, none⟩ = some (.pointer (some ⟨g0, 0, none⟩)) := x1
            have hd : Dig w12 g0 (sum (ys2 0)) ((ys2 0).length : Nat) := hd
            have HD := Lib.hid hd; clear hd
            have Z1 := Lib.hid z1; clear z1
            go_wp2_with fail
            refine (dsum_any _ _ _ _ HD.out).mono ?_
            rintro e w' ⟨rfl, rfl⟩
            go_wp2_with fail
            refine (dlen_any _ _ _ _ HD.out).mono ?_
            rintro e w' ⟨rfl, rfl⟩
            go_wp2_with fail
            refine (rsum_any _ _ _ (ys2 0) _ (by omega) Z1.out).mono ?_
            rintro e w' ⟨rfl, rfl⟩
            go_wp2_with fail
            go_roundw
            case rel => exact ⟨k + 1, ys2, v2, by omega, by go_num, HL2.out, ST.out, G12.out⟩
            case measure => simp [intOf]; omega
      · have hk0 := eq_false_of_ne_true hk0
        by_cases hk1 : (kd == 1) = true
        · cases p with
          | true =>
            have x1 := ST.out.ptr.cell 1 (by omega)
            have x1 : w6.cell? ⟨gx, 1, none⟩ = some (.pointer (some ⟨g1, 0, none⟩)) := x1
            have hd := ST.out.dig 1 (by omega)
            have hd : Dig w6 g1 (sum (ys 1)) ((ys 1).length : Nat) := hd
            have HD := Lib.hid hd; clear hd
            go_wp2_with fail
            refine (reset_any _ _ _ _ HD.out).mono ?_
            rintro e w7 ⟨rfl, hd, hg⟩
            have hz : sum [] = 0#32 := by decide
            replace ST := Lib.hid (ST.out.turn 1 (by omega) [] hg (by rw [hz]; exact hd))
            have G7 := Lib.hid (G6.out.grown hg G6.out.size (fun j hj => by cases hj; omega)); clear hg hd hz HD x1
            have y1 := ST.out.arr.cell 1 (by omega)
            have f1 := ST.out.arr.free 1
            go_upto_region 25 with (fail)
            replace ST := Lib.hid (ST.out.text 1 (by omega) [] (.slice none 0 0) (World.grownBy.refl _ _) (OwT.nil _ _ _ _) (.inl rfl))
            have G8 := Lib.hid (G7.out.setCell (p := ⟨gx + 1, 1, none⟩) (by show w.heap.size ≤ gx + 1; omega) (.slice none 0 0))
            generalize w7.setCell ⟨gx + 1, 1, none⟩ (.slice none 0 0) = w8 at *
            clear y1 f1
            obtain ⟨ys2, hys2⟩ : ∃ f, f = fun i => if i = 1 then [] else ys i := ⟨_, rfl⟩
            rw [← hys2] at ST
            have HL2 := Lib.hid (show (ys2 0).length + (ys2 1).length ≤ ((os.take (k + 1)).map (·.2.2.length)).sum by have h1 := HLen.out; have h2 := sum_next HQ.out; have e0 : (ys2 0).length ≤ (ys 0).length := (by rw [hys2]; dsimp only; split <;> simp); have e1 : (ys2 1).length ≤ (ys 1).length := (by rw [hys2]; dsimp only; split <;> simp); omega)
            clear hys2
            obtain ⟨v2, hv2⟩ : ∃ f, f = fun i => if i = 1 then Value.slice none 0 0 else v i := ⟨_, rfl⟩
            rw [← hv2] at ST
            clear hv2

            have x1 := ST.out.ptr.cell 1 (by omega)
            have y1 := ST.out.arr.cell 1 (by omega)
            have hd := ST.out.dig 1 (by omega)
            obtain ⟨a1, n1, c1, hv1, z1⟩ := (ST.out.row 1 (by omega)).slN
            obtain rfl : n1 = (ys2 1).length := z1.len.symm
            rw [hv1] at y1
            have hlb : (ys2 1).length ≤ 1048576 := by
              have h1 := HL2.out
              have h2 := HSum.out
              have h3 := sum_take (os.map (·.2.2.length)) (k + 1)
              rw [← List.map_take] at h3
              omega
            have x1 : w8.cell? ⟨gx, 1, none⟩ = some (.pointer (some ⟨g1, 0, none⟩)) := x1
            have hd : Dig w8 g1 (sum (ys2 1)) ((ys2 1).length : Nat) := hd
            have HD := Lib.hid hd; clear hd
            have Z1 := Lib.hid z1; clear z1
            go_wp2_with fail
            refine (dsum_any _ _ _ _ HD.out).mono ?_
            rintro e w' ⟨rfl, rfl⟩
            go_wp2_with fail
            refine (dlen_any _ _ _ _ HD.out).mono ?_
            rintro e w' ⟨rfl, rfl⟩
            go_wp2_with fail
            refine (rsum_any _ _ _ (ys2 1) _ (by omega) Z1.out).mono ?_
            rintro e w' ⟨rfl, rfl⟩
            go_wp2_with fail
            go_roundw
            case rel => exact ⟨k + 1, ys2, v2, by omega, by go_num, HL2.out, ST.out, G8.out⟩
            case measure => simp [intOf]; omega
          | false =>
            have x1 := ST.out.ptr.cell 0 (by omega)
            have x1 : w6.cell? ⟨gx, 0, none⟩ = some (.pointer (some ⟨g0, 0, none⟩)) := x1
            have hd := ST.out.dig 0 (by omega)
            have hd : Dig w6 g0 (sum (ys 0)) ((ys 0).length : Nat) := hd
            have HD := Lib.hid hd; clear hd
            go_wp2_with fail
            refine (reset_any _ _ _ _ HD.out).mono ?_
            rintro e w7 ⟨rfl, hd, hg⟩
            have hz : sum [] = 0#32 := by decide
            replace ST := Lib.hid (ST.out.turn 0 (by omega) [] hg (by rw [hz]; exact hd))
            have G7 := Lib.hid (G6.out.grown hg G6.out.size (fun j hj => by cases hj; omega)); clear hg hd hz HD x1
            have y1 := ST.out.arr.cell 0 (by omega)
            have f1 := ST.out.arr.free 0
            go_upto_region 25 with (fail)
            replace ST := Lib.hid (ST.out.text 0 (by omega) [] (.slice none 0 0) (World.grownBy.refl _ _) (OwT.nil _ _ _ _) (.inl rfl))
            have G8 := Lib.hid (G7.out.setCell (p := ⟨gx + 1, 0, none⟩) (by show w.heap.size ≤ gx + 1; omega) (.slice none 0 0))
            generalize w7.setCell ⟨gx + 1, 0, none⟩ (.slice none 0 0) = w8 at *
            clear y1 f1
            obtain ⟨ys2, hys2⟩ : ∃ f, f = fun i => if i = 0 then [] else ys i := ⟨_, rfl⟩
            rw [← hys2] at ST
            have HL2 := Lib.hid (show (ys2 0).length + (ys2 1).length ≤ ((os.take (k + 1)).map (·.2.2.length)).sum by have h1 := HLen.out; have h2 := sum_next HQ.out; have e0 : (ys2 0).length ≤ (ys 0).length := (by rw [hys2]; dsimp only; split <;> simp); have e1 : (ys2 1).length ≤ (ys 1).length := (by rw [hys2]; dsimp only; split <;> simp); omega)
            clear hys2
            obtain ⟨v2, hv2⟩ : ∃ f, f = fun i => if i = 0 then Value.slice none 0 0 else v i := ⟨_, rfl⟩
            rw [← hv2] at ST
            clear hv2

            have x1 := ST.out.ptr.cell 0 (by omega)
            have y1 := ST.out.arr.cell 0 (by omega)
            have hd := ST.out.dig 0 (by omega)
            obtain ⟨a1, n1, c1, hv1, z1⟩ := (ST.out.row 0 (by omega)).slN
            obtain rfl : n1 = (ys2 0).length := z1.len.symm
            rw [hv1] at y1
            have hlb : (ys2 0).length ≤ 1048576 := by
              have h1 := HL2.out
              have h2 := HSum.out
              have h3 := sum_take (os.map (·.2.2.length)) (k + 1)
              rw [← List.map_take] at h3
              omega
            have x1 : w8.cell? ⟨gx, 0, none⟩ = some (.pointer (some ⟨g0, 0, none⟩)) := x1
            have hd : Dig w8 g0 (sum (ys2 0)) ((ys2 0).length : Nat) := hd
            have HD := Lib.hid hd; clear hd
            have Z1 := Lib.hid z1; clear z1
            go_wp2_with fail
            refine (dsum_any _ _ _ _ HD.out).mono ?_
            rintro e w' ⟨rfl, rfl⟩
            go_wp2_with fail
            refine (dlen_any _ _ _ _ HD.out).mono ?_
            rintro e w' ⟨rfl, rfl⟩
            go_wp2_with fail
            refine (rsum_any _ _ _ (ys2 0) _ (by omega) Z1.out).mono ?_
            rintro e w' ⟨rfl, rfl⟩
            go_wp2_with fail
            go_roundw
            case rel => exact ⟨k + 1, ys2, v2, by omega, by go_num, HL2.out, ST.out, G8.out⟩
            case measure => simp [intOf]; omega
        · have hk1 := eq_false_of_ne_true hk1
          cases p with
          | true =>
            have HL2 := Lib.hid (show (ys 0).length + (ys 1).length ≤ ((os.take (k + 1)).map (·.2.2.length)).sum by have h1 := HLen.out; have h2 := sum_next HQ.out; omega)

            have x1 := ST.out.ptr.cell 1 (by omega)
            have y1 := ST.out.arr.cell 1 (by omega)
            have hd := ST.out.dig 1 (by omega)
            obtain ⟨a1, n1, c1, hv1, z1⟩ := (ST.out.row 1 (by omega)).slN
            obtain rfl : n1 = (ys 1).length := z1.len.symm
            rw [hv1] at y1
            have hlb : (ys 1).length ≤ 1048576 := by
              have h1 := HL2.out
              have h2 := HSum.out
              have h3 := sum_take (os.map (·.2.2.length)) (k + 1)
              rw [← List.map_take] at h3
              omega
            have x1 : w6.cell? ⟨gx, 1, none⟩ = some (.pointer (some ⟨g1, 0, none⟩)) := x1
            have hd : Dig w6 g1 (sum (ys 1)) ((ys 1).length : Nat) := hd
            have HD := Lib.hid hd; clear hd
            have Z1 := Lib.hid z1; clear z1
            go_wp2_with fail
            refine (dsum_any _ _ _ _ HD.out).mono ?_
            rintro e w' ⟨rfl, rfl⟩
            go_wp2_with fail
            refine (dlen_any _ _ _ _ HD.out).mono ?_
            rintro e w' ⟨rfl, rfl⟩
            go_wp2_with fail
            refine (rsum_any _ _ _ (ys 1) _ (by omega) Z1.out).mono ?_
            rintro e w' ⟨rfl, rfl⟩
            go_wp2_with fail
            go_roundw
            case rel => exact ⟨k + 1, ys, v, by omega, by go_num, HL2.out, ST.out, G6.out⟩
            case measure => simp [intOf]; omega
          | false =>
            have HL2 := Lib.hid (show (ys 0).length + (ys 1).length ≤ ((os.take (k + 1)).map (·.2.2.length)).sum by have h1 := HLen.out; have h2 := sum_next HQ.out; omega)

            have x1 := ST.out.ptr.cell 0 (by omega)
            have y1 := ST.out.arr.cell 0 (by omega)
            have hd := ST.out.dig 0 (by omega)
            obtain ⟨a1, n1, c1, hv1, z1⟩ := (ST.out.row 0 (by omega)).slN
            obtain rfl : n1 = (ys 0).length := z1.len.symm
            rw [hv1] at y1
            have hlb : (ys 0).length ≤ 1048576 := by
              have h1 := HL2.out
              have h2 := HSum.out
              have h3 := sum_take (os.map (·.2.2.length)) (k + 1)
              rw [← List.map_take] at h3
              omega
            have x1 : w6.cell? ⟨gx, 0, none⟩ = some (.pointer (some ⟨g0, 0, none⟩)) := x1
            have hd : Dig w6 g0 (sum (ys 0)) ((ys 0).length : Nat) := hd
            have HD := Lib.hid hd; clear hd
            have Z1 := Lib.hid z1; clear z1
            go_wp2_with fail
            refine (dsum_any _ _ _ _ HD.out).mono ?_
            rintro e w' ⟨rfl, rfl⟩
            go_wp2_with fail
            refine (dlen_any _ _ _ _ HD.out).mono ?_
            rintro e w' ⟨rfl, rfl⟩
            go_wp2_with fail
            refine (rsum_any _ _ _ (ys 0) _ (by omega) Z1.out).mono ?_
            rintro e w' ⟨rfl, rfl⟩
            go_wp2_with fail
            go_roundw
            case rel => exact ⟨k + 1, ys, v, by omega, by go_num, HL2.out, ST.out, G6.out⟩
            case measure => simp [intOf]; omega
    · have hk2 : k = os.length := by omega
      have xa := ST.out.ptr.cell 0 (by omega)
      have xb := ST.out.ptr.cell 1 (by omega)
      have xa : wr.cell? ⟨gx, 0, none⟩ = some (.pointer (some ⟨g0, 0, none⟩)) := xa
      have xb : wr.cell? ⟨gx, 1, none⟩ = some (.pointer (some ⟨g1, 0, none⟩)) := xb
      have ya := ST.out.arr.cell 0 (by omega)
      have yb := ST.out.arr.cell 1 (by omega)
      have hda : Dig wr g0 (sum (ys 0)) ((ys 0).length : Nat) := ST.out.dig 0 (by omega)
      have hdb : Dig wr g1 (sum (ys 1)) ((ys 1).length : Nat) := ST.out.dig 1 (by omega)
      obtain ⟨aa, na, ca, hva, za⟩ := (ST.out.row 0 (by omega)).slN
      obtain ⟨ab, nb, cb, hvb, zb⟩ := (ST.out.row 1 (by omega)).slN
      rw [hva] at ya
      rw [hvb] at yb
      have hla : na + nb ≤ 1048576 := by
        have h1 := HLen.out
        have h2 := HSum.out
        have h3 := sum_take (os.map (·.2.2.length)) k
        rw [← List.map_take] at h3
        rw [← za.len, ← zb.len]
        omega
      have HDA := Lib.hid hda; clear hda
      have HDB := Lib.hid hdb; clear hdb
      have ZA := Lib.hid za; clear za
      have ZB := Lib.hid zb; clear zb hk2
      go_wp2_with fail
      refine (dsum_any _ _ _ _ HDA.out).mono ?_
      rintro e w' ⟨rfl, rfl⟩
      go_wp2_with fail
      refine (dsum_any _ _ _ _ HDB.out).mono ?_
      rintro e w' ⟨rfl, rfl⟩
      go_wp2_with fail
      refine (rsum_any _ _ _ (ys 0) _ (by omega) ZA.out).mono ?_
      rintro e w' ⟨rfl, rfl⟩
      go_wp2_with fail
      refine (rsum_any _ _ _ (ys 1) _ (by omega) ZB.out).mono ?_
      rintro e w' ⟨rfl, rfl⟩
      go_wp2_with fail
      go_ret
      exact ⟨ret_bool (by simp), G.out⟩
end Go.Proofs.Ytaablclccklhnaa
