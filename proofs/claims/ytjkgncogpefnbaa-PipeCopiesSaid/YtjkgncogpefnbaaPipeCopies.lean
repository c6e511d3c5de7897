/- PipeCopies: the walk: any source into any sink, and once more. Conditions: what it is handed within reach. -/
import Derived.Test.YtjkgncogpefnbaaPipeRCopy
import Derived.Test.YtjkgncogpefnbaaPipeGrowM
import Derived.Test.YtjkgncogpefnbaaPipeLives
import Derived.Test.YtjkgncogpefnbaaSameS
namespace Go.Proofs.Ytjkgncogpefnbaa
open Go.RowKit
set_option linter.unusedVariables false
set_option linter.unusedSimpArgs false

/-- Copy with any size -/
def cps (size : Int) (s : Src) (t : Snk) : Nat × Int × Src × Snk := if 1 ≤ size ∧ size ≤ 4096 then cpyT srcM snkM size.toNat s t else (0, 1, s, t)
theorem cps_grow (size : Int) (s : Src) (t : Snk) : (cps size s t).2.2.1.left.length + (cps size s t).2.2.2.took.length ≤ s.left.length + t.took.length ∧ (cps size s t).2.2.1.calls ≤ s.calls + (s.left.length * 17 + 17) ∧ (cps size s t).2.2.2.calls ≤ t.calls + s.left.length * 17 + (s.left.length * 17 + 17) * 17 := by
  unfold cps
  split
  · exact cpyT_grow _ s t
  · exact ⟨Nat.le_refl _, Nat.le_add_right _ _, by show t.calls ≤ _; omega⟩
theorem copyI_any (g lo : Nat) (s : Src) (S : Nat → Prop) (g2 lo2 : Nat) (t : Snk) (U : Nat → Prop) (size : Int) (w : World) (hS : SrcP g lo s S w) (hU : SnkP g2 lo2 t U w) (hd : ∀ j, S j → ¬ U j)
    (hc : s.calls ≤ 1000000000000000000) (hc2 : t.calls ≤ 1000000000000000000) (hl : s.left.length ≤ 140737488351232) (hl2 : t.took.length + s.left.length ≤ 140737488355328) :
    Calls Try.prog 14 #[.iface 31 (.pointer (some ⟨g2, 0, none⟩)), .iface 27 (.pointer (some ⟨g, 0, none⟩)), .int .i64 size] w (CopyPost (SrcP g lo) (SnkP g2 lo2) (cps size s t) S U w) := by
  by_cases hs : 1 ≤ size ∧ size ≤ 4096
  · obtain ⟨k, rfl⟩ : ∃ k : Nat, size = k := ⟨size.toNat, by omega⟩
    unfold cps
    rw [if_pos hs, Int.toNat_natCast]
    exact copySS_any g lo s S g2 lo2 t U k w (by omega) (by omega) hS hU hd hc hc2 hl hl2
  · unfold cps
    rw [if_neg hs]
    exact (copy_wrong _ _ _ _ size w (by omega)).mono fun e w' ⟨he, hb⟩ => ⟨he, S, U, hS.keep hb, hU.keep hb, hd, fun j h => .inl h, fun j h => .inl h, .of_below hb⟩
theorem rcopyI_any (gr gx lo : Nat) (bs : List UInt8) (s : Src) (S : Nat → Prop) (t : Snk) (U : Nat → Prop) (size : Int) (w : World) (hlo : lo ≤ w.heap.size) (hbl : bs.length ≤ 140737488351232) (hS : StR gr lo bs s S w) (hU : StK gx lo t U w) (hd : ∀ j, S j → ¬ U j)
    (hc : s.calls ≤ 1000000000000000000) (hc2 : t.calls ≤ 1000000000000000000) (hl : s.left.length ≤ 140737488351232) (hl2 : t.took.length + s.left.length ≤ 140737488355328) :
    Calls Try.prog 18 #[.pointer (some ⟨gx, 0, none⟩), .pointer (some ⟨gr, 0, none⟩), .int .i64 size] w (CopyPost (StR gr lo bs) (StK gx lo) (cps size s t) S U w) := by
  by_cases hs : 1 ≤ size ∧ size ≤ 4096
  · obtain ⟨k, rfl⟩ : ∃ k : Nat, size = k := ⟨size.toNat, by omega⟩
    unfold cps
    rw [if_pos hs, Int.toNat_natCast]
    exact rcopy_any (rsrcL gr lo bs hbl) (rsnkL gx lo) k w (by omega) (by omega) hlo s t hS hU hd (show s.calls + (s.left.length * 17 + 17) < 2305843009213693952 by omega) (show t.calls + s.left.length * 17 + (s.left.length * 17 + 17) * 17 < 2305843009213693952 by omega) (show t.took.length + s.left.length ≤ 140737488355328 by omega) (show s.left.length ≤ 4611686018427387904 by omega)
  · unfold cps
    rw [if_neg hs]
    refine (rcopy_wrong gx gr size w (by omega)).mono ?_
    rintro e w' ⟨rfl, rfl⟩
    exact ⟨rfl, S, U, hS, hU, hd, fun j h => .inl h, fun j h => .inl h, .refl _ _⟩
/-- behind k rounds -/
structure CoSt (w W : World) (lo g lo1 g2 lo2 gr gx : Nat) (bs : List UInt8) (k : Nat) (s : Src) (t : Snk) (S U R Q : Nat → Prop) : Prop where
  sp : SrcP g lo1 s S W
  up : SnkP g2 lo2 t U W
  rp : StR gr lo bs s R W
  qp : StK gx lo t Q W
  d1 : ∀ j, S j → ¬ U j
  d2 : ∀ j, R j → ¬ Q j
  d3 : ∀ j, S j ∨ U j → ¬ (R j ∨ Q j)
  sc : s.calls ≤ k * 100000000000000000
  tc : t.calls ≤ k * 100000000000000000
  lt : s.left.length + t.took.length ≤ bs.length
  low : ∀ j, S j ∨ U j → lo ≤ j
  bel : Below w.heap.size w W
set_option maxRecDepth 100000 in
set_option maxHeartbeats 4000000 in
theorem pipeCopies_walk (ab : Option Addr) (nb cb : Nat) (bs : List UInt8) (ag : Option Addr) (ng cg : Nat) (gs : List Int) (xf : Int) (eager : Bool) (at' : Option Addr) (nt ct : Nat) (ts : List Int) (wf size : Int) (w : World)
    (hnb : nb ≤ 140737488351232) (hng : ng ≤ 17592186043904) (hnt : nt ≤ 17592186043904) (hI : Ints gs) (hI2 : Ints ts) (hB : Sl Bf w ab nb cb bs) (hG : Sl fZ w ag ng cg gs) (hT : Sl fZ w at' nt ct ts) :
    Calls Try.prog 10 #[.agg #[.slice ab nb cb, .slice ag ng cg, .int .i64 xf, .bool eager, .slice at' nt ct, .int .i64 wf, .int .i64 size]] w fun e w' => e = .returned (.bool true) ∧ Below w.heap.size w w' := by
  obtain rfl : bs.length = nb := hB.len
  have b0 : Below w.heap.size w (w.alloc (.cells #[.slice ab bs.length cb, .slice ag ng cg, .int .i64 xf, .bool eager, .slice at' nt ct, .int .i64 wf, .int .i64 size] 67)) := (Below.refl _ _).alloc (Nat.le_refl _) _
  have BX := Lib.hid (heap_new w (.cells #[.slice ab bs.length cb, .slice ag ng cg, .int .i64 xf, .bool eager, .slice at' nt ct, .int .i64 wf, .int .i64 size] 67))
  have HB := Lib.hid hB; have HG := Lib.hid hG; have HT := Lib.hid hT
  have HI := Lib.hid hI; have HI2 := Lib.hid hI2
  have B0 := Lib.hid b0
  clear hB hG hT hI hI2 b0
  go_enter Try.func10, Try.ntmps10
  go_wp2_with fail
  generalize w.alloc (.cells #[.slice ab bs.length cb, .slice ag ng cg, .int .i64 xf, .bool eager, .slice at' nt ct, .int .i64 wf, .int .i64 size] 67) = w0 at *
  refine (lives_any _).mono ?_
  rintro e w1 ⟨rfl, hb⟩
  have B1 := Lib.hid (keep_trans B0.out hb)
  have BX1 := Lib.hid (blk_keep BX.out hb)
  have hz1 : w.heap.size < w1.heap.size := (Array.getElem?_eq_some_iff.1 BX1.out).1
  have c0 := cell_of BX1.out 0 rfl
  have c1 := cell_of BX1.out 1 rfl
  have c2 := cell_of BX1.out 2 rfl
  have c3 := cell_of BX1.out 3 rfl
  clear hb
  go_wp2_with fail
  refine (source_any ab bs.length cb bs ag ng cg gs xf eager w1 hnb hng HI.out (HB.out.keep B1.out) (HG.out.keep B1.out)).mono ?_
  rintro e w2 ⟨g, S, gr, rfl, hs2, hr2, hSr, hgr, hb⟩
  have B2 := Lib.hid (keep_trans B1.out hb)
  have BX2 := Lib.hid (blk_keep BX1.out hb)
  have hz2 : w1.heap.size ≤ w2.heap.size := hb.size
  have hgrl : gr < w2.heap.size := (Array.getElem?_eq_some_iff.1 hr2).1
  have SP2 := Lib.hid hs2
  have NSR := Lib.hid hSr
  have RP2 := Lib.hid (show StR gr w1.heap.size bs ⟨gs, xf, 0, bs, eager⟩ (fun j => j = gr) w2 from
    ⟨fun j => Iff.rfl, ⟨⟨ab, bs.length, cb, ag, ng, cg, 0, hr2, ⟨_, _, _, rfl, HG.out.keep B2.out, fun b o e hn => have h : b < w.heap.size := (by subst e; exact HG.out.blt hn); ⟨.inl (by omega), by omega⟩⟩, ⟨_, _, _, rfl, HB.out.keep B2.out, fun b o e hn => have h : b < w.heap.size := (by subst e; exact HB.out.blt hn); ⟨.inl (by omega), by omega⟩⟩, Nat.zero_le _, rfl⟩, .inr rfl, fun j hj => by rcases hj with h | h <;> omega, HI.out⟩, hgr⟩)
  have d4 := cell_of BX2.out 4 rfl
  have d5 := cell_of BX2.out 5 rfl
  clear hs2 hr2 hSr hb c0 c1 c2 c3
  go_wp2_with fail
  refine (sink_any at' nt ct ts wf w2 hnt HI2.out (HT.out.keep B2.out) w1.heap.size hz2 (fun b o e hn => Nat.lt_trans (show b < w.heap.size by subst e; exact HT.out.blt hn) hz1)).mono ?_
  rintro e w3 ⟨g2, U, gx, rfl, hu3, hk3, hUx, hgx, hb⟩
  have B3 := Lib.hid (keep_trans B2.out hb)
  have BX3 := Lib.hid (blk_keep BX2.out hb)
  have ST0 := Lib.hid (show CoSt w w3 w1.heap.size g w1.heap.size g2 w2.heap.size gr gx bs 0 ⟨gs, xf, 0, bs, eager⟩ ⟨ts, wf, 0, []⟩ S U (fun j => j = gr) (fun j => j = gx) from
    ⟨SP2.out.keep hb, hu3, (rsrcL gr w1.heap.size bs hnb).frame _ _ (fun _ => False) _ _ RP2.out (.of_below hb) (fun _ _ e => e) (fun _ e => e.elim), ⟨hk3, Nat.le_trans hz2 hb.size⟩, fun j hj h => by have := (SP2.out.inS j hj).2; have := (hu3.inS j h).1; omega, fun j hj h => by omega,
      fun j hj h => by
        rcases hj with hj | hj <;> rcases h with h | h
        · exact NSR.out (h ▸ hj)
        · have := (SP2.out.inS j hj).2; omega
        · have := (hu3.inS j hj).1; omega
        · exact hUx (h ▸ hj), Nat.zero_le _, Nat.zero_le _, Nat.le_refl _, fun j hj => by
        rcases hj with hj | hj
        · exact (SP2.out.inS j hj).1
        · have := (hu3.inS j hj).1; omega, B3.out⟩)
  clear hu3 hk3 hUx hgx hb d4 d5 SP2 RP2
  go_wp2_with fail
  go_loopw [8] (fun i wr => ∃ (k : Nat) (s : Src) (t : Snk) (S U R Q : Nat → Prop), k ≤ 2 ∧ i = .int .i64 (k : Nat) ∧ CoSt w wr w1.heap.size g w1.heap.size g2 w2.heap.size gr gx bs k s t S U R Q ∧ wr.heap[w.heap.size]? = some (.cells #[.slice ab bs.length cb, .slice ag ng cg, .int .i64 xf, .bool eager, .slice at' nt ct, .int .i64 wf, .int .i64 size] 67 (0, 0))) (fun i _ => 2 - (intOf i).toNat)
  case atStart => exact ⟨0, _, _, S, U, _, _, by omega, rfl, ST0.out, BX3.out⟩
  case round =>
    obtain ⟨k, s, t, S1, U1, R1, Q1, hk, rfl, hst, hbx⟩ := hrel
    have ST := Lib.hid hst
    have BXR := Lib.hid hbx
    have hsc := hst.sc
    have htc := hst.tc
    have hlt := hst.lt
    clear hst hbx ST0
    by_cases hk2 : k < 2
    · have d6 := cell_of BXR.out 6 rfl
      have t0 : decide ((k : Int) < 2) = true := decide_eq_true (by omega)
      go_wp2_with fail
      refine (copyI_any g _ s S1 g2 _ t U1 size wr ST.out.sp ST.out.up ST.out.d1 (by omega) (by omega) (by omega) (by omega)).mono ?_
      obtain ⟨⟨m, f, s', t'⟩, hX⟩ : ∃ X, cps size s t = X := ⟨_, rfl⟩
      have hgw := cps_grow size s t
      rw [hX] at hgw ⊢
      obtain ⟨hg1, hg2, hg3⟩ := hgw
      replace hg1 : s'.left.length + t'.took.length ≤ s.left.length + t.took.length := hg1
      replace hg2 : s'.calls ≤ s.calls + (s.left.length * 17 + 17) := hg2
      replace hg3 : t'.calls ≤ t.calls + s.left.length * 17 + (s.left.length * 17 + 17) * 17 := hg3
      have HXX := Lib.hid hX
      clear hX
      rintro e w4 ⟨rfl, S2, U2, hs4, hu4, hd4, hSs, hUs, hT4⟩
      have SP4 := Lib.hid (show SrcP g w1.heap.size s' S2 w4 from hs4)
      have UP4 := Lib.hid (show SnkP g2 w2.heap.size t' U2 w4 from hu4)
      dsimp only
      have SS4 := Lib.hid hSs
      have US4 := Lib.hid hUs
      have DD4 := Lib.hid hd4
      have RP4 := Lib.hid ((rsrcL gr w1.heap.size bs hnb).frame _ _ _ _ _ ST.out.rp hT4 (fun j hj e => ST.out.d3 j e (.inl hj)) (fun j e => ST.out.low j e))
      have QP4 := Lib.hid ((rsnkL gx w1.heap.size).frame _ _ _ _ _ ST.out.qp hT4 (fun j hj e => ST.out.d3 j e (.inr hj)) (fun j e => ST.out.low j e))
      have BL4 := Lib.hid (hT4.below ST.out.bel ST.out.bel.size fun j e => by have := ST.out.low j e; omega)
      have BX4 := Lib.hid (hT4.heap BXR.out fun e => by have := ST.out.low _ e; omega)
      have hz4 : wr.heap.size ≤ w4.heap.size := hT4.size
      have hzr : w1.heap.size ≤ wr.heap.size := Nat.le_trans (ST.out.low g (.inl ST.out.sp.own)) (Nat.le_of_lt (ST.out.sp.inS g ST.out.sp.own).2)
      have e6 := cell_of BX4.out 6 rfl
      clear hs4 hu4 hd4 hSs hUs hT4 d6
      go_wp2_with fail
      refine (rcopyI_any gr gx w1.heap.size bs s R1 t Q1 size w4 (by omega) hnb RP4.out QP4.out ST.out.d2 (by omega) (by omega) (by omega) (by omega)).mono ?_
      rw [HXX.out]
      rintro e w5 ⟨rfl, R2, Q2, hr5, hq5, hd5, hRs, hQs, hT5⟩
      have lR : ∀ j, R1 j → w1.heap.size ≤ j ∧ j < wr.heap.size := (rsrcL gr w1.heap.size bs hnb).inS _ _ _ ST.out.rp
      have lQ : ∀ j, Q1 j → w1.heap.size ≤ j ∧ j < wr.heap.size := (rsnkL gx w1.heap.size).inS _ _ _ ST.out.qp
      have dS : ∀ j, S2 j ∨ U2 j → ¬ (R1 j ∨ Q1 j) := fun j hj h => by
        have hlt2 : j < wr.heap.size := by rcases h with h | h; (exact (lR j h).2); (exact (lQ j h).2)
        rcases hj with hj | hj
        · rcases SS4.out j hj with e | e
          · exact ST.out.d3 j (.inl e) h
          · omega
        · rcases US4.out j hj with e | e
          · exact ST.out.d3 j (.inr e) h
          · omega
      have SP5 := Lib.hid (SP4.out.turns hT5 fun j hj h => dS j (.inl hj) h)
      have UP5 := Lib.hid (UP4.out.turns hT5 fun j hj h => dS j (.inr hj) h)
      have l4 : ∀ j, S2 j ∨ U2 j → j < w4.heap.size := fun j hj => by rcases hj with hj | hj; (exact (SP4.out.inS j hj).2); (exact (UP4.out.inS j hj).2)
      have D3 := Lib.hid (show ∀ j, S2 j ∨ U2 j → ¬ (R2 j ∨ Q2 j) from fun j hj h => by
        have := l4 j hj
        rcases h with h | h
        · rcases hRs j h with e | e
          · exact dS j hj (.inl e)
          · omega
        · rcases hQs j h with e | e
          · exact dS j hj (.inr e)
          · omega)
      have LOW := Lib.hid (show ∀ j, S2 j ∨ U2 j → w1.heap.size ≤ j from fun j hj => by
        rcases hj with hj | hj
        · exact (SP4.out.inS j hj).1
        · have := (UP4.out.inS j hj).1; omega)
      have RP5 := Lib.hid (show StR gr w1.heap.size bs s' R2 w5 from hr5)
      have QP5 := Lib.hid (show StK gx w1.heap.size t' Q2 w5 from hq5)
      have D2 := Lib.hid hd5
      have lRQ : ∀ j, R1 j ∨ Q1 j → w.heap.size < j := fun j h => by rcases h with h | h; (have := lR j h; omega); (have := lQ j h; omega)
      have BL5 := Lib.hid (hT5.below BL4.out BL4.out.size fun j e => by have := lRQ j e; omega)
      have BX5 := Lib.hid (hT5.heap BX4.out fun e => by have := lRQ _ e; omega)
      have htk : t'.took.length ≤ 140737488351232 := by omega
      clear hr5 hq5 hd5 hRs hQs hT5 lR lQ dS l4 lRQ e6
      dsimp only
      go_wp2_with fail
      refine (kbytes_any g2 _ t' U2 w5 UP5.out htk).mono ?_
      rintro e w6 ⟨v, rfl, ho, hb⟩
      obtain ⟨a19, n19, c19, rfl, hs19⟩ := ho.slN
      have hn19 : n19 ≤ 140737488351232 := by have := hs19.len; omega
      have F6 := Lib.hid (show CoSt w w6 w1.heap.size g w1.heap.size g2 w2.heap.size gr gx bs (k + 1) s' t' S2 U2 R2 Q2 from
        ⟨SP5.out.keep hb, UP5.out.keep hb, (rsrcL gr w1.heap.size bs hnb).frame _ _ (fun _ => False) _ _ RP5.out (.of_below hb) (fun _ _ e => e) (fun _ e => e.elim), (rsnkL gx w1.heap.size).frame _ _ (fun _ => False) _ _ QP5.out (.of_below hb) (fun _ _ e => e) (fun _ e => e.elim), DD4.out, D2.out, D3.out, by omega, by omega, by omega, LOW.out, keep_trans BL5.out hb⟩)
      have BX6 := Lib.hid (blk_keep BX5.out hb)
      obtain ⟨am, nm, cm, vt, hbk, -, -, hot, -⟩ := F6.out.qp.1.blk
      obtain ⟨a20, n20, c20, rfl, hs20⟩ := hot.slN
      have hn20 : n20 ≤ 140737488351232 := by have := hs20.len; omega
      have y3 := cell_of hbk 3 (v := .slice a20 n20 c20) rfl
      have SMD := Lib.hid (show Calls Try.prog 17 #[.slice a19 n19 c19, .slice a20 n20 c20] w6 (fun e w' => e = .returned (.bool true) ∧ Drw w6 w') from by have := sameD_any a19 n19 c19 _ a20 n20 c20 _ w6 (by omega) (by omega) hs19 hs20; rwa [decide_eq_true rfl] at this)
      clear ho hs19 hb hbk hot hs20
      go_wp2_with fail
      refine SMD.out.mono ?_
      rintro e w7 ⟨rfl, m7, rfl⟩
      clear SMD y3
      obtain ⟨w7, hw7⟩ : ∃ V, w6.drewN m7 = V := ⟨_, rfl⟩
      have HB7 := Lib.hid (show Below w6.heap.size w6 w7 from hw7 ▸ keep_drewN (Below.refl _ _) m7)
      rw [hw7]
      clear hw7
      have F7 := Lib.hid (show CoSt w w7 w1.heap.size g w1.heap.size g2 w2.heap.size gr gx bs (k + 1) s' t' S2 U2 R2 Q2 from
        ⟨F6.out.sp.keep HB7.out, F6.out.up.keep HB7.out, (rsrcL gr w1.heap.size bs hnb).frame _ _ (fun _ => False) _ _ F6.out.rp (.of_below HB7.out) (fun _ _ e => e) (fun _ e => e.elim), (rsnkL gx w1.heap.size).frame _ _ (fun _ => False) _ _ F6.out.qp (.of_below HB7.out) (fun _ _ e => e) (fun _ e => e.elim), DD4.out, D2.out, D3.out, F6.out.sc, F6.out.tc, F6.out.lt, LOW.out, keep_trans F6.out.bel HB7.out⟩)
      have BX7 := Lib.hid (blk_keep BX6.out HB7.out)
      go_wp2_with fail
      refine (calls_any g _ s' S2 w7 F7.out.sp).mono ?_
      rintro e w8 ⟨rfl, rfl⟩
      go_wp2_with fail
      refine (kcalls_any g2 _ t' U2 w7 F7.out.up).mono ?_
      rintro e w8 ⟨rfl, rfl⟩
      obtain ⟨am, nm, cm, vt, hbk, -⟩ := F7.out.qp.1.blk
      obtain ⟨ab', nb', cb', ag', ng', cg', i, hbr, -⟩ := F7.out.rp.2.1.blk
      obtain ⟨cc, hcc⟩ : ∃ c, s'.calls = c := ⟨_, rfl⟩
      obtain ⟨kk, hkk⟩ : ∃ c, t'.calls = c := ⟨_, rfl⟩
      rw [hcc] at hbr ⊢
      rw [hkk] at hbk ⊢
      have y2 := cell_of hbk 2 (v := .int .i64 (kk : Nat)) rfl
      have y4 := cell_of hbr 4 (v := .int .i64 (cc : Nat)) rfl
      have u1 : ((m : Int) != (m : Int)) = false := by simp
      have u2 : (f != f) = false := by simp
      have u3 : ((cc : Int) != (cc : Int)) = false := by simp
      have u4 : ((kk : Int) != (kk : Int)) = false := by simp
      clear hbk hbr hcc hkk
      go_wp2_with fail
      exact ⟨⟨k + 1, s', t', S2, U2, R2, Q2, by omega, by go_num, F7.out, BX7.out⟩, by simp [intOf]; omega⟩
    · have t0 : decide ((k : Int) < 2) = false := decide_eq_false (by omega)
      go_wp2_with fail
      go_ret
      exact ⟨rfl, ST.out.bel⟩
end Go.Proofs.Ytjkgncogpefnbaa
