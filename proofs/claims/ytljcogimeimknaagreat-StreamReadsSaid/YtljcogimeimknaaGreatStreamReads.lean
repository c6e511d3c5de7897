/- StreamReads: the walk. Conditions: what it is handed within reach. -/
import Derived.Test.YtljcogimeimknaaGreatK8w
import Derived.Test.YtljcogimeimknaaGreatRdRBlk
import Derived.Test.YtljcogimeimknaaGreatRdRNew
import Derived.Test.YtljcogimeimknaaGreatK8p
import Derived.Test.YtljcogimeimknaaGreatK8y
namespace Go.Proofs.YtljcogimeimknaaGreat
open Go.RowKit Go.Shelf
set_option maxRecDepth 100000
set_option linter.unusedVariables false
set_option linter.unusedSimpArgs false

/-- how many rows a reader has, read in memory -/
def rowsN (g : Nat) (w : World) : Nat := match w.cell? ⟨g, 3, none⟩ with | some (.slice _ n _) => n | _ => 0
theorem Rdp.rowsN {w : World} {lo gs g gi : Nat} {S : Nat → Prop} {lv rv : Value} {vs : List RV} {s : RS} {who : Nat → Nat} (h : Rdp w lo gs g gi S lv rv vs s who) : rowsN g w = s.rows.length := by
  obtain ⟨a, n, c, e, hs⟩ := h.spv
  have c3 := h.c3
  unfold Go.Proofs.YtljcogimeimknaaGreat.rowsN
  rw [c3, e]
  exact hs.spans.1.symm
set_option maxHeartbeats 8000000 in
theorem streamReads_walk (ab : Option Addr) (nb cb : Nat) (bs : List UInt8) (ag : Option Addr) (ng cg : Nat) (gs : List Int) (xf : Int) (eager : Bool) (w : World)
    (hnb : nb ≤ 140737488351232) (hng : ng ≤ 17592186043904) (hI : Ints gs) (hB : Sl Bf w ab nb cb bs) (hG : Sl fZ w ag ng cg gs) :
    Calls Tryz.prog 4 #[.agg #[.slice ab nb cb, .slice ag ng cg, .int .i64 xf, .bool eager]] w fun e w' => e = .returned (.bool true) ∧ Below w.heap.size w w' := by
  obtain rfl : bs.length = nb := hB.len
  have HB := Lib.hid hB
  have HG := Lib.hid hG
  have HI := Lib.hid hI
  clear hB hG hI
  obtain ⟨w0, hw0⟩ : ∃ V, w.alloc (.cells #[.slice ab bs.length cb, .slice ag ng cg, .int .i64 xf, .bool eager] 57) = V := ⟨_, rfl⟩
  have b0 : Below w.heap.size w w0 := hw0 ▸ (Below.refl _ _).alloc (Nat.le_refl _) _
  have x0 : w0.heap[w.heap.size]? = some (.cells #[.slice ab bs.length cb, .slice ag ng cg, .int .i64 xf, .bool eager] 57 (0, 0)) := hw0 ▸ heap_new w _
  obtain ⟨gx, hgx⟩ : ∃ gx, w.heap.size = gx := ⟨_, rfl⟩
  have HGX := Lib.hid hgx
  have X0 := Lib.hid (show w0.heap[gx]? = some (.cells #[.slice ab bs.length cb, .slice ag ng cg, .int .i64 xf, .bool eager] 57 (0, 0)) by rw [← hgx]; exact x0)
  have B0 := Lib.hid b0
  have HW0 := Lib.hid hw0
  clear b0 x0 hgx hw0
  go_enter Tryz.func4, Tryz.ntmps4
  go_wp2_with fail
  rw [HW0.out, HGX.out]
  refine (lives_any _).mono ?_
  rintro e w1 ⟨rfl, hb⟩
  have B1 := Lib.hid (keep_trans B0.out hb)
  have X1 := Lib.hid ((hb.block gx (Array.getElem?_eq_some_iff.1 X0.out).1).trans X0.out)
  clear hb
  have y0 := cell_of X1.out 0 rfl
  have y1 := cell_of X1.out 1 rfl
  have y2 := cell_of X1.out 2 rfl
  have y3 := cell_of X1.out 3 rfl
  have NS := Lib.hid (newSource_any ab bs.length cb bs ag ng cg gs xf eager w1 hnb hng HI.out (HB.out.keep B1.out) (HG.out.keep B1.out))
  go_wp2_with fail
  refine NS.out.mono ?_
  rintro e w2 ⟨gq, S, rfl, hs, hb⟩
  have SP2 := Lib.hid hs
  have B2 := Lib.hid (keep_trans B1.out hb)
  have X2 := Lib.hid (blk_keep X1.out hb)
  have hlo : w1.heap.size ≤ w2.heap.size := hb.size
  obtain ⟨lo, hlo2⟩ : ∃ lo, w1.heap.size = lo := ⟨_, rfl⟩
  rw [hlo2] at SP2 hlo
  have hl0 : w.heap.size ≤ lo := by rw [← hlo2]; exact B1.out.size
  have hxl : gx < lo := by rw [← hlo2]; exact (Array.getElem?_eq_some_iff.1 X1.out).1
  clear hs hb NS y0 y1 y2 y3 hlo2
  have y0 := cell_of X2.out 0 rfl
  have y1 := cell_of X2.out 1 rfl
  have y2 := cell_of X2.out 2 rfl
  have y3 := cell_of X2.out 3 rfl
  obtain ⟨w3, hw3⟩ : ∃ V, w2.alloc (.cells (rcells ab bs.length cb ag ng cg xf eager 0 0) 65) = V := ⟨_, rfl⟩
  have b3 : Below w2.heap.size w2 w3 := hw3 ▸ (Below.refl _ _).alloc (Nat.le_refl _) _
  have gt3 : w3.heap[w2.heap.size]? = some (.cells (rcells ab bs.length cb ag ng cg xf eager 0 0) 65 (0, 0)) := hw3 ▸ heap_new w2 _
  have hz3 : w3.heap.size = w2.heap.size + 1 := by rw [← hw3]; simp
  have HW3 := Lib.hid (show w2.alloc (.cells #[.slice ab bs.length cb, .slice ag ng cg, .int .i64 xf, .bool eager, .int .i64 0, .int .i64 0, .bool false, .slice none 0 0, .slice none 0 0, .int .u8 0, .int .u8 0, .slice none 0 0] 65) = w3 from hw3)
  clear hw3
  go_wp2_with fail
  refine (rdnil_any w2).mono ?_
  rintro e w9 ⟨rfl, rfl⟩
  go_wp2_with fail
  rw [HW3.out]
  have RN := rdnew_any (SP2.out.keep b3) (by omega)
  refine RN.mono ?_
  rintro e w4 ⟨g, gi, who, rfl, hR4, hb4, hwo⟩
  have gt4 := blk_keep gt3 hb4
  obtain ⟨gt, hgt⟩ : ∃ gt, w2.heap.size = gt := ⟨_, rfl⟩
  have HGT := Lib.hid hgt
  rw [hgt] at gt3 gt4 hz3 hlo
  have hlb : ∀ b o, ab = some ⟨b, o, none⟩ → 0 < bs.length → b < lo := fun b o e hn => by subst e; have := HB.out.blt hn; omega
  have hlg : ∀ b o, ag = some ⟨b, o, none⟩ → 0 < ng → b < lo := fun b o e hn => by subst e; have := HG.out.blt hn; omega
  have b24 := keep_trans b3 hb4
  have B4 := Lib.hid (keep_trans B2.out b24)
  have RW := refnew_any (HB.out.keep B4.out) (HG.out.keep B4.out) HI.out hlb hlg gt4 hlo
  have hin := SP2.out.inS
  have RW4 := Lib.hid RW
  have R4 := Lib.hid hR4
  have WO4 := Lib.hid (show ∀ j, who j ≠ 0 → j ≠ gt from fun j hj => by
    rcases hwo j hj with e | e
    · have := (hin j e).2; omega
    · omega)
  have B24 := Lib.hid b24
  clear hR4 hb4 b3 gt3 gt4 hlb hlg RW hin RN hwo b24 hgt y0 y1 y2 y3
  rw [HGT.out]
  go_wp2_with fail
  refine RW4.out.mono ?_
  rintro e w5 ⟨g2, gi2, who2, rfl, hR5, hb5, hwo5⟩
  have D5 := Lib.hid (show RDuo w2 w5 bs lo gq g gi gt g2 gi2 false S (fun j => j = gt ∨ j = gi2) (.slice none 0 0) (.slice none 0 0) (.slice none 0 0) (.slice none 0 0) [] [] (RS0 ⟨gs, xf, 0, bs, eager⟩) (RS0 ⟨gs, xf, 0, bs, eager⟩) who who2 from
    { l := R4.out.keep hb5, r := hR5
      d := fun j hj => Classical.byContradiction fun e => by
        rcases hwo5 j e with q | q
        · exact WO4.out j hj q
        · have := (R4.out.low j hj).2; omega
      b := (keep_trans B24.out hb5).mono (by rw [HGT.out]; exact hlo) })
  have hB0 : Below w.heap.size w w2 := B2.out
  have OK5 := Lib.hid (RS0.ok (L := bs.length) (x := ⟨gs, xf, 0, bs, eager⟩) (show bs.length ≤ bs.length from Nat.le_refl _) rfl)
  clear hR5 hb5 hwo5 R4 RW4 WO4 B24 SP2 X2 HB HG HI HGT HW3
  go_wp2_with fail
  go_loopw [9] (fun i wr => ∃ (k : Nat) (bg : Bool) (S S' : Nat → Prop) (rv rv' : Value) (vs vs' : List RV) (s : RS) (who who' : Nat → Nat), i = .int .i64 (k : Nat) ∧ k ≤ 2 ∧ RDuo w2 wr bs lo gq g gi gt g2 gi2 bg S S' (.slice none 0 0) rv (.slice none 0 0) rv' vs vs' s s who who' ∧ s.Ok bs.length) (fun i wr => 2 - (intOf i).toNat + (8388608 - rowsN g wr))
  case atStart => exact ⟨0, _, _, _, _, _, _, _, _, _, _, rfl, Nat.zero_le _, D5.out, OK5.out⟩
  case round =>
    clear D5 OK5
    obtain ⟨k, bg, S, S', rv, rv', vs, vs', s, who, who', rfl, hk, hd, hok⟩ := hrel
    have D := Lib.hid hd
    have OK := Lib.hid hok
    have ROW0 := Lib.hid (hd.l.rowsN)
    have NEW := Lib.hid hd.new
    clear hd hok
    by_cases hlt : k < 2
    · have BK := Lib.hid (rdblock_any none 0 D.out.l OK.out hnb)
      go_wp2_with fail
      refine BK.out.mono ?_
      rintro e w6 ⟨y, es, S1, rv1, vs1, who1, rfl, hRL, hz, hR, hG⟩
      have D6 := Lib.hid (D.out.left hnb hR hG)
      have HZ := Lib.hid (show ∀ j, RLB y es j → who1 j = 0 ∧ who' j = 0 ∧ lo ≤ j from fun j hj => ⟨hz j hj, (NEW.out j (hRL.inB j hj).1).2, Nat.le_trans D.out.l.lw (hRL.inB j hj).1⟩)
      have RL6 := Lib.hid hRL
      have BD := rblk08_any hnb 0 none D6.out.r OK.out hnb
      rw [OK.out.same] at BD
      have BD6 := Lib.hid BD
      clear hRL hz hR hG BD BK D NEW
      go_wp2_with fail
      refine BD6.out.mono ?_
      rintro e w7 ⟨y2, es2, bg2, S2, rv2, vs2, who2, rfl, hRL2, -, hR2, hG2⟩
      have OKN := Lib.hid OK.out.next
      have GRW := Lib.hid (nxM_grows mxI s).len
      obtain ⟨⟨⟨l, ok⟩, s1⟩, hX⟩ : ∃ X, nxM mxI s = X := ⟨_, rfl⟩
      rw [hX] at hRL2 hR2 RL6 D6 OKN GRW
      rw [hX]
      dsimp only at hRL2 hR2 RL6 D6 OKN GRW ⊢
      have D7 := Lib.hid (D6.out.right hR2 hG2)
      have RL7 := Lib.hid (RL6.out.turns hG2.t fun j hj e => e.1 ((HZ.out j hj).2.1))
      have HZ7 := Lib.hid (show ∀ j, RLB y es j → who1 j = 0 ∧ who2 j = 0 ∧ lo ≤ j from fun j hj => ⟨(HZ.out j hj).1, hG2.zero (RL6.out.inB j hj).2 (HZ.out j hj).2.1, (HZ.out j hj).2.2⟩)
      obtain ⟨a1, c1, hy1, hE1⟩ := RL7.out.ents
      obtain ⟨a2, c2, hy2, hE2⟩ := hRL2.ents
      obtain ⟨nl, hnl⟩ : ∃ n, l.length = n := ⟨_, rfl⟩
      rw [hnl] at hy1 hE1 hy2 hE2
      subst hy1
      subst hy2
      have hnl9 : nl ≤ 9223372036854775807 := by rw [← hnl]; exact RL7.out.lenLe
      have SA := Lib.hid (sameAll_any a1 nl c1 a2 nl c2 l l w7 hnl9 hnl9 hE1 hE2)
      clear hRL2 hR2 hG2 hE1 hE2 hX D6 RL6 HZ BD6
      go_wp2_with fail
      refine SA.out.mono ?_
      rintro e w8 ⟨rfl, hb8⟩
      rw [show decide True = true from rfl]
      have D8 := Lib.hid (D7.out.keep hnb hb8)
      have SPO := Lib.hid (espoilP_any a1 nl c1 _ w8 (RL7.out.keep hb8).spoilP)
      clear hb8 SA D7 RL7
      go_wp2_with fail
      refine SPO.out.mono ?_
      rintro e w9 ⟨rfl, ht9⟩
      have D9 := Lib.hid (D8.out.turn hnb ht9 HZ7.out)
      have ST := Lib.hid (stands_any hnb D9.out OKN.out)
      clear ht9 D8 SPO HZ7
      go_wp2_with fail
      refine ST.out.mono ?_
      rintro e w10 ⟨rfl, hb10⟩
      have D10 := Lib.hid (D9.out.keep hnb hb10)
      have ROW1 := Lib.hid (D10.out.l.rowsN)
      clear hb10 D9 ST
      have hm := OKN.out.many
      have u1 : (ok != ok) = false := by simp
      cases ok with
      | true =>
        go_wp2_with fail
        go_roundw
        case rel => exact ⟨k, _, _, _, _, _, _, _, _, _, _, rfl, hk, D10.out, OKN.out⟩
        case measure =>
          have g1 := GRW.out
          have r0 := ROW0.out
          have r1 := ROW1.out
          simp [intOf] at g1 ⊢
          omega
      | false =>
        go_wp2_with fail
        go_roundw
        case rel => exact ⟨k + 1, _, _, _, _, _, _, _, _, _, _, by go_num, by omega, D10.out, OKN.out⟩
        case measure =>
          have g1 := GRW.out
          have r0 := ROW0.out
          have r1 := ROW1.out
          simp [intOf] at g1 ⊢
          omega
    · go_wp2_with fail
      go_ret
      exact ⟨rfl, hB0.trans (D.out.b.mono hl0)⟩
end Go.Proofs.YtljcogimeimknaaGreat
