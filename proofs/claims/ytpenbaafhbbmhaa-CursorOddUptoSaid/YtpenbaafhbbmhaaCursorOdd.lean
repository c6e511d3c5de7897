/- CursorOdd: the walk. Conditions: what it is handed is small together. -/
import Derived.Test.YtpenbaafhbbmhaaCurTold
import Derived.Test.YtpenbaafhbbmhaaCurLives
import Derived.Test.YtpenbaafhbbmhaaCurScript
import Derived.Test.YtpenbaafhbbmhaaK4o
import Derived.Test.YtpenbaafhbbmhaaSameS
namespace Go.Proofs.Ytpenbaafhbbmhaa
open Go.RowKit Go.Shelf
set_option maxRecDepth 100000
set_option linter.unusedVariables false
set_option linter.unusedSimpArgs false

theorem odd_mu : ∀ (s : Od) (n : Nat), oddM.mu (oddM.nxt s n) ≤ oddM.mu s := fun s n => by
  show s.n.length - (s.calls + 1) ≤ s.n.length - s.calls
  omega
/-- no more numbers than that -/
def OdLe (L : Nat) (s : Od) : Prop := s.n.length ≤ L
theorem od_le (L : Nat) : ∀ (s : Od) (n : Nat), OdLe L s → OdLe L (oddM.nxt s n) := fun s n h => h
theorem half_mul {a b : Nat} (h : a + b ≤ 1048576) : a * b ≤ 549755813888 := by
  by_cases ha : a ≤ 524288
  · exact Nat.le_trans (Nat.mul_le_mul ha (show b ≤ 1048576 by omega)) (by decide)
  · exact Nat.le_trans (Nat.mul_le_mul (show a ≤ 1048576 by omega) (show b ≤ 524288 by omega)) (by decide)
set_option maxHeartbeats 8000000 in
theorem cursorOdd_walk (ag : Option Addr) (ng cg : Nat) (gs : List Int) (ae : Option Addr) (ne ce : Nat) (es : List Int) (aa : Option Addr) (na ca : Nat) (asks : List (Int × Int)) (al : Option Addr) (nl cl : Nat) (lays : List (Int × List UInt8)) (w : World)
    (hng : ng ≤ 1048576) (hna : na ≤ 1048576) (hnl : nl + (laySum lays + 1) ≤ 1048576) (hI : Ints gs) (hG : Sl fZ w ag ng cg gs) (hE : Sl fZ w ae ne ce es) (hA : Asks w aa na ca asks) (hAW : AsksW asks) (hL : Lays w al nl cl lays) :
    Calls Try.prog 6 #[.agg #[.slice ag ng cg, .slice ae ne ce, .slice aa na ca, .slice al nl cl]] w fun e w' => e = .returned (.bool true) ∧ Below w.heap.size w w' := by
  obtain rfl : gs.length = ng := hG.len
  obtain rfl : es.length = ne := hE.len
  obtain rfl : asks.length = na := hA.1
  obtain rfl : lays.length = nl := hL.1
  have NG := Lib.hid (show ∀ W, Below w.heap.size w W → Nums W w.heap.size (.slice ag gs.length cg) gs from fun W hb => ⟨_, _, rfl, hG.keep hb, fun b o e hn => by subst e; exact hG.blt hn⟩)
  have NE := Lib.hid (show ∀ W, Below w.heap.size w W → Nums W w.heap.size (.slice ae es.length ce) es from fun W hb => ⟨_, _, rfl, hE.keep hb, fun b o e hn => by subst e; exact hE.blt hn⟩)
  have HA := Lib.hid hA
  have HAW := Lib.hid hAW
  have HL := Lib.hid hL
  have HI := Lib.hid hI
  have HMM := Lib.hid (half_mul hnl)
  clear hG hE hA hAW hL
  obtain ⟨w0, hw0⟩ : ∃ V, w.alloc (.cells #[.slice ag gs.length cg, .slice ae es.length ce, .slice aa asks.length ca, .slice al lays.length cl] 79) = V := ⟨_, rfl⟩
  have b0 : Below w.heap.size w w0 := hw0 ▸ (Below.refl _ _).alloc (Nat.le_refl _) _
  have x0 : w0.heap[w.heap.size]? = some (.cells #[.slice ag gs.length cg, .slice ae es.length ce, .slice aa asks.length ca, .slice al lays.length cl] 79 (0, 0)) := hw0 ▸ heap_new w _
  obtain ⟨gx, hgx⟩ : ∃ gx, w.heap.size = gx := ⟨_, rfl⟩
  have HGX := Lib.hid hgx
  have X0 := Lib.hid (show w0.heap[gx]? = some (.cells #[.slice ag gs.length cg, .slice ae es.length ce, .slice aa asks.length ca, .slice al lays.length cl] 79 (0, 0)) by rw [← hgx]; exact x0)
  have B0 := Lib.hid b0
  have HW0 := Lib.hid hw0
  clear b0 x0 hgx hw0
  go_enter Try.func6, Try.ntmps6
  go_wp2_with fail
  rw [HW0.out, HGX.out]
  refine (lives_any _).mono ?_
  rintro e w1 ⟨rfl, hb⟩
  have B1 := Lib.hid (keep_trans B0.out hb)
  have X1 := Lib.hid ((hb.block gx (Array.getElem?_eq_some_iff.1 X0.out).1).trans X0.out)
  clear hb X0 B0
  have KA := Lib.hid (fun (W : World) (h : Below w1.heap.size w1 W) => blk_keep X1.out h)
  obtain ⟨oa, hoa⟩ : ∃ o : Obj, o = .cells #[.slice ag gs.length cg, .slice ae es.length ce, .int .i64 0, .slice none 0 0, .int .u8 0, .slice none 0 0] 82 := ⟨_, rfl⟩
  obtain ⟨ob, hob⟩ : ∃ o : Obj, o = .cells #[.slice none 0 0, .slice none 0 0, .int .i64 0, .bool false, .int .i64 0, .int .i64 0, .bool true, .slice ag gs.length cg, .slice ae es.length ce, .int .u8 37, .int .u8 0, .slice none 0 0] 33 := ⟨_, rfl⟩
  have ka : Below w1.heap.size w1 (w1.alloc oa) := (Below.refl _ _).alloc (Nat.le_refl _) _
  have kb : Below w1.heap.size w1 ((w1.alloc oa).alloc ob) := ka.alloc (by simp) _
  have p0 := cell_of (KA.out w1 (Below.refl _ _)) 0 rfl
  have p1 := cell_of (KA.out w1 (Below.refl _ _)) 1 rfl
  have a0 := cell_of (KA.out _ ka) 0 rfl
  have a1 := cell_of (KA.out _ ka) 1 rfl
  have KB := Lib.hid kb
  have GA := Lib.hid (show ((w1.alloc oa).alloc ob).heap[w1.heap.size]? = some oa from blk_keep (heap_new w1 oa) ((Below.refl _ _).alloc (Nat.le_refl _) _))
  have GB := Lib.hid (show ((w1.alloc oa).alloc ob).heap[w1.heap.size + 1]? = some ob from by have := heap_new (w1.alloc oa) ob; simpa using this)
  have hz2 : ((w1.alloc oa).alloc ob).heap.size = w1.heap.size + 2 := by simp
  subst hoa hob
  clear ka kb
  go_wp2_with fail
  generalize (w1.alloc (.cells #[.slice ag gs.length cg, .slice ae es.length ce, .int .i64 0, .slice none 0 0, .int .u8 0, .slice none 0 0] 82)).alloc (.cells #[.slice none 0 0, .slice none 0 0, .int .i64 0, .bool false, .int .i64 0, .int .i64 0, .bool true, .slice ag gs.length cg, .slice ae es.length ce, .int .u8 37, .int .u8 0, .slice none 0 0] 33) = w2 at *
  obtain ⟨lo, hlo⟩ : ∃ lo, w1.heap.size = lo := ⟨_, rfl⟩
  have HLO := Lib.hid hlo
  have B2 := Lib.hid (keep_trans B1.out KB.out)
  rw [hlo] at GA GB hz2 ⊢
  have hl0 : w.heap.size ≤ lo := by rw [← hlo]; exact B1.out.size
  have hxl : gx < lo := by rw [← hlo]; exact (Array.getElem?_eq_some_iff.1 X1.out).1
  have X2 := Lib.hid (KA.out _ KB.out)
  clear hlo p0 p1 a0 a1 KA
  obtain ⟨m, hm⟩ : ∃ m : Int, (1048576 : Int) = m := ⟨_, rfl⟩
  have NI := Lib.hid (newIn_any 80 (.pointer (some ⟨lo, 0, none⟩)) 1048576 w2 (by decide))
  have hmx : max 0 (1048576 : Int) = m := by omega
  rw [hmx] at NI
  have hm1 : 0 ≤ m ∧ m ≤ 9223372036854775807 ∧ m.toNat = 1048576 := by omega
  have HM := Lib.hid hm
  clear hm hmx
  refine NI.out.mono ?_
  rintro e w4 ⟨rfl, hIn, hb4⟩
  have ga4 := blk_keep GA.out hb4
  have gb4 := blk_keep GB.out hb4
  have hz4 : w2.heap.size < w4.heap.size := hIn.lt
  obtain ⟨gc, hgc⟩ : ∃ gc, w2.heap.size = gc := ⟨_, rfl⟩
  rw [hgc] at hIn hz4 hz2
  obtain ⟨w5, hw5⟩ : ∃ V, w4.alloc (.cells #[.pointer (some ⟨lo + 1, 0, none⟩), .int .i64 m, .int .i64 0, .int .i64 0, .slice none 0 0, .int .i64 0] 39) = V := ⟨_, rfl⟩
  have HW5 := Lib.hid (show w4.alloc (.cells #[.pointer (some ⟨lo + 1, 0, none⟩), .int .i64 1048576, .int .i64 0, .int .i64 0, .slice none 0 0, .int .i64 0] 39) = w5 by rw [HM.out]; exact hw5)
  have b5 : Below w4.heap.size w4 w5 := hw5 ▸ (Below.refl _ _).alloc (Nat.le_refl _) _
  have gd5 : w5.heap[w4.heap.size]? = some (.cells #[.pointer (some ⟨lo + 1, 0, none⟩), .int .i64 m, .int .i64 0, .int .i64 0, .slice none 0 0, .int .i64 0] 39 (0, 0)) := hw5 ▸ heap_new w4 _
  obtain ⟨gd, hgd⟩ : ∃ gd, w4.heap.size = gd := ⟨_, rfl⟩
  rw [hgd] at gd5 hz4
  have b25 : Below w2.heap.size w2 w5 := keep_trans hb4 b5
  have B5 := Lib.hid (keep_trans B2.out b25)
  have X5 := Lib.hid (blk_keep X2.out b25)
  have ga5 := blk_keep ga4 b5
  have gb5 := blk_keep gb4 b5
  have ld5 := (Array.getElem?_eq_some_iff.1 gd5).1
  have nm : ∀ (v : Value) (l : List Int), (∀ W, Below w.heap.size w W → Nums W w.heap.size v l) → Nums w5 lo v l := fun v l h => by
    obtain ⟨q1, q2, q3, q4, q5⟩ := h w5 B5.out
    exact ⟨q1, q2, q3, q4, fun b o e hn => by have := q5 b o e hn; omega⟩
  have D5 := Lib.hid (show Duo (OdP lo lo lo) gc m (.iface 80 (.pointer (some ⟨lo, 0, none⟩))) (RoP (lo + 1) lo) lo gd (.pointer (some ⟨lo + 1, 0, none⟩)) ⟨⟨gs, es, 0, 0, [], [], HI.out, rfl⟩, 0, 0, 0, []⟩ (fun j => j = lo) (fun j => j = lo + 1 ∨ j = gd) w5 from
    { io := hIn.turns (Turns.of_below (S := fun _ => False) b5) id
      st := ⟨⟨_, _, _, _, ga5, nm _ _ NG.out, nm _ _ NE.out, .nil _ _ _ _, (fun j hj => by cases hj), .nil _ _ _ _, (fun j hj => by cases hj), fun j hj => by cases hj⟩, rfl, fun j hj => by subst hj; exact ⟨Nat.le_refl _, by omega⟩, Nat.le_refl _⟩
      ng := fun h => by have h : gc = lo := h; omega
      r := ⟨fun j => j = lo + 1, .slice none 0 0, { io := gd5, ow := OwT.nil _ _ _ _, st := ⟨⟨_, _, _, gb5, nm _ _ NG.out, nm _ _ NE.out, .nil _ _ _ _, fun j hj => by cases hj⟩, rfl, fun j hj => by subst hj; exact ⟨by omega, by omega⟩⟩
                                                    sr := fun j hj => .inl hj, sg := .inr rfl, ng := fun e => by have e : gd = lo + 1 := e; omega, hs := fun j e => (by cases e), inS := fun j hj => by rcases hj with e | e <;> omega }⟩
      dis := fun j hj => ⟨fun h => by have h : j = lo := h; omega, by omega⟩, low := fun j hj => by rcases hj with h | h; (have h : j = lo := h; omega); (omega) })
  have hz5 : lo ≤ w5.heap.size := by omega
  have HGT := Lib.hid (And.intro hgc hgd)
  clear hIn hb4 b5 hw5 b25 nm hgc hgd B2 X2 ga4 gb4 ga5 gb5 gd5 GA GB KB NI ld5 hz2 hz4
  rw [HGT.out.1]
  go_wp2_with fail
  rw [HW5.out, HGT.out.2]
  clear HW5 HGT
  go_loopw [8] (fun i wr => ∃ (k : Nat) (c : CIn Od) (S Sd : Nat → Prop), i = .int .i64 (k : Nat) ∧ k ≤ asks.length ∧ Duo (OdP lo lo lo) gc m (.iface 80 (.pointer (some ⟨lo, 0, none⟩))) (RoP (lo + 1) lo) lo gd (.pointer (some ⟨lo + 1, 0, none⟩)) c S Sd wr ∧ Okay oddM (OdLe 1048576) m (17825792 + 352 * k) c ∧ Below lo w5 wr) (fun i _ => asks.length - (intOf i).toNat)
  case atStart => exact ⟨0, _, _, _, rfl, Nat.zero_le _, D5.out, { idle := fun _ => Nat.zero_le _, id2 := Nat.zero_le _, pl := hm1.1, held := Nat.zero_le _, p := hng, bud := by show 0 + (gs.length - 0) * 17 ≤ _; omega }, Below.refl _ _⟩
  case round =>
    obtain ⟨k, c, S, Sd, rfl, hk, hd, hok, hb⟩ := hrel
    have D := Lib.hid hd
    have OK := Lib.hid hok
    have B := Lib.hid hb
    have BW := Lib.hid (B5.out.trans (hb.mono hl0))
    have XR := Lib.hid ((hb.block gx hxl).trans X5.out)
    have y2 := cell_of XR.out 2 rfl
    clear hd hok hb D5
    by_cases hlt : k < asks.length
    · obtain ⟨⟨kd, n⟩, hx⟩ : ∃ x, asks[k]? = some x := ⟨_, List.getElem?_eq_getElem hlt⟩
      obtain ⟨bx, ox, rfl, e1, e2⟩ := (HA.out.keep BW.out).2.2 k _ hx
      have hnb2 := HAW.out _ (List.mem_of_getElem? hx)
      dsimp only at e1 e2 hnb2
      have hok2 := OK.out.ask (most := m) (kind := kd) (n := n) odd_mu (od_le 1048576)
      have OK2 := Lib.hid hok2
      have ASK := Lib.hid (asked_any (oddR lo lo lo) 80 (fun w => methOR lo w) (enters_of Try.func79 (by kernel_rfl) rfl) (roddL (lo + 1) lo) odd_mu gc gd m kd n c S Sd wr (OdLe 1048576) (od_le 1048576) (17825792 + 352 * k) (Nat.le_refl _)
        { ok := OK.out, bud := by omega, bud2 := by omega, nb := hnb2, mb := hm1.2.1, cap := fun _ _ => .inl (by omega) } D.out)
      have HLW := Lib.hid D.out.low
      have HIN := Lib.hid D.out.r.inS
      have hzr : lo ≤ wr.heap.size := Nat.le_trans hz5 B.out.size
      clear hx hok2
      go_wp2_with fail
      refine ASK.out.mono ?_
      rintro e w6 ⟨rfl, S6, Sd6, hD6, -, -, hT6⟩
      obtain ⟨c6, hc6⟩ : ∃ c6, askM oddM m kd n c = c6 := ⟨_, rfl⟩
      rw [hc6] at hD6 OK2
      have D6 := Lib.hid hD6
      have B6 := Lib.hid (hT6.below B.out hzr fun j e => by
        rcases e with e | e | e
        · exact HLW.out j (.inl e)
        · exact HLW.out j (.inr e)
        · exact (HIN.out j e).1)
      clear hD6 hT6 hc6 D ASK
      go_wp2_with fail
      go_roundw
      case rel => exact ⟨k + 1, c6, S6, Sd6, by go_num, by omega, D6.out, OK2.out.mono (by omega), B6.out⟩
      case measure => simp [intOf]; omega
    · have t1 : decide ((k : Int) < (asks.length : Int)) = false := decide_eq_false (by omega)
      have t1' : decide (k < asks.length) = false := decide_eq_false hlt
      obtain ⟨va, vb, vs, vt, hca, -, -, hvs, -⟩ := D.out.st.blk
      obtain ⟨Sr, hv, hR⟩ := D.out.r
      obtain ⟨wa, wb, ws, hcb, -, -, hws, -⟩ := hR.st.blk
      obtain ⟨as1, cs1, rfl, hsl1⟩ := hvs.slZ
      obtain ⟨as2, cs2, rfl, hsl2⟩ := hws.slZ
      have hcn : c.s.sz.length ≤ 1000000000 := by have h1 := OK.out.bud; have h2 : oddM.cnt c.s = c.s.calls := rfl; rw [h2] at h1; rw [c.s.okz]; omega
      have z1 : wr.cell? ⟨lo, 3, none⟩ = some (.slice as1 c.s.sz.length cs1) := cell_of hca 3 rfl
      have z2 : wr.cell? ⟨lo + 1, 11, none⟩ = some (.slice as2 c.s.sz.length cs2) := cell_of hcb 11 rfl
      have AL := Lib.hid (fun (V : World) (hV : Drw wr V) => alike_any as1 c.s.sz.length cs1 c.s.sz as2 c.s.sz.length cs2 V (by omega) (hsl1.keep hV.below) (hsl2.keep hV.below))
      clear hca hcb hvs hws hR hsl1 hsl2 hlt D OK
      go_wp2_with fail
      go_quiet ((go_at_call 27; exact Calls.quiet_of_drw (AL.out _ (by first | exact Drw.refl _ | exact (Drw.refl _).more _ | exact ((Drw.refl _).more _).more _))))
      have BV := Lib.hid (keep_drewN BW.out nq)
      have XV := Lib.hid (show (wr.drewN nq).heap[gx]? = _ from XR.out)
      have hzV : lo ≤ (wr.drewN nq).heap.size := Nat.le_trans hz5 B.out.size
      clear AL XR BW y2 z1 z2 B t1 t1' B5 X5 X1 B1
      generalize wr.drewN nq = V at *
      have KA := Lib.hid (fun (W : World) (h : Below V.heap.size V W) => blk_keep XV.out h)
      obtain ⟨oa, hoa⟩ : ∃ o : Obj, o = .cells #[.slice ag gs.length cg, .slice ae es.length ce, .int .i64 0, .slice none 0 0, .int .u8 0, .slice none 0 0] 82 := ⟨_, rfl⟩
      obtain ⟨ob, hob⟩ : ∃ o : Obj, o = .cells #[.slice none 0 0, .int .i64 0, .int .i64 0, .slice none 0 0, .bool true, .slice ag gs.length cg, .slice ae es.length ce, .slice none 0 0] 66 := ⟨_, rfl⟩
      have ka : Below V.heap.size V (V.alloc oa) := (Below.refl _ _).alloc (Nat.le_refl _) _
      have kb : Below V.heap.size V ((V.alloc oa).alloc ob) := ka.alloc (by simp) _
      have p0 := cell_of (KA.out V (Below.refl _ _)) 0 rfl
      have p1 := cell_of (KA.out V (Below.refl _ _)) 1 rfl
      have a0 := cell_of (KA.out _ ka) 0 rfl
      have a1 := cell_of (KA.out _ ka) 1 rfl
      have KB := Lib.hid kb
      have GA := Lib.hid (show ((V.alloc oa).alloc ob).heap[V.heap.size]? = some oa from blk_keep (heap_new V oa) ((Below.refl _ _).alloc (Nat.le_refl _) _))
      have GB := Lib.hid (show ((V.alloc oa).alloc ob).heap[V.heap.size + 1]? = some ob from by have := heap_new (V.alloc oa) ob; simpa using this)
      have hz2 : ((V.alloc oa).alloc ob).heap.size = V.heap.size + 2 := by simp
      subst hoa hob
      clear ka kb
      go_wp2_with fail
      generalize (V.alloc (.cells #[.slice ag gs.length cg, .slice ae es.length ce, .int .i64 0, .slice none 0 0, .int .u8 0, .slice none 0 0] 82)).alloc (.cells #[.slice none 0 0, .int .i64 0, .int .i64 0, .slice none 0 0, .bool true, .slice ag gs.length cg, .slice ae es.length ce, .slice none 0 0] 66) = V2 at *
      obtain ⟨lq, hlq⟩ : ∃ lq, V.heap.size = lq := ⟨_, rfl⟩
      have B2 := Lib.hid (keep_trans BV.out KB.out)
      have X2 := Lib.hid (KA.out _ KB.out)
      rw [hlq] at GA GB hz2 hzV ⊢
      have hl1 : w.heap.size ≤ lq := Nat.le_trans hl0 hzV
      clear hlq p0 p1 a0 a1 KA KB BV XV
      refine (newOut_any 80 (.pointer (some ⟨lq, 0, none⟩)) V2).mono ?_
      rintro e V4 ⟨rfl, hOut, hb4⟩
      have ga4 := blk_keep GA.out hb4
      have gb4 := blk_keep GB.out hb4
      have hz4 : V2.heap.size < V4.heap.size := hOut.lt
      obtain ⟨hc, hhc⟩ : ∃ hc, V2.heap.size = hc := ⟨_, rfl⟩
      rw [hhc] at hOut hz4 hz2
      obtain ⟨V5, hw5⟩ : ∃ W, V4.alloc (.cells #[.pointer (some ⟨lq + 1, 0, none⟩), .slice none 0 0, .int .i64 0, .int .i64 0, .int .i64 0] 71) = W := ⟨_, rfl⟩
      have HW5 := Lib.hid hw5
      have b5 : Below V4.heap.size V4 V5 := hw5 ▸ (Below.refl _ _).alloc (Nat.le_refl _) _
      have gd5 : V5.heap[V4.heap.size]? = some (.cells #[.pointer (some ⟨lq + 1, 0, none⟩), .slice none 0 0, .int .i64 0, .int .i64 0, .int .i64 0] 71 (0, 0)) := hw5 ▸ heap_new V4 _
      obtain ⟨hd, hhd⟩ : ∃ hd, V4.heap.size = hd := ⟨_, rfl⟩
      rw [hhd] at gd5 hz4
      have b25 : Below V2.heap.size V2 V5 := keep_trans hb4 b5
      have B5 := Lib.hid (keep_trans B2.out b25)
      have X5 := Lib.hid (blk_keep X2.out b25)
      have ga5 := blk_keep ga4 b5
      have gb5 := blk_keep gb4 b5
      have ld5 := (Array.getElem?_eq_some_iff.1 gd5).1
      have nm : ∀ (v : Value) (l : List Int), (∀ W, Below w.heap.size w W → Nums W w.heap.size v l) → Nums V5 lq v l := fun v l h => by
        obtain ⟨q1, q2, q3, q4, q5⟩ := h V5 B5.out
        exact ⟨q1, q2, q3, q4, fun b o e hn => by have := q5 b o e hn; omega⟩
      have D5 := Lib.hid (show ODuo (OdP lq lq lq) (KoP (lq + 1) lq) lq hc (.iface 80 (.pointer (some ⟨lq, 0, none⟩))) hd (.pointer (some ⟨lq + 1, 0, none⟩)) ⟨⟨gs, es, 0, 0, [], [], HI.out, rfl⟩, [], 0, 0, 0⟩ (fun j => j = lq ∨ j = hc) (fun j => j = lq + 1 ∨ j = hd) V5 from
        ⟨⟨fun j => j = lq, .slice none 0 0, { io := hOut.turns (Turns.of_below (S := fun _ => False) b5) id, q := QuB.nil _ _
                                              st := ⟨⟨_, _, _, _, ga5, nm _ _ NG.out, nm _ _ NE.out, .nil _ _ _ _, (fun j hj => by cases hj), .nil _ _ _ _, (fun j hj => by cases hj), fun j hj => by cases hj⟩, rfl, fun j hj => by subst hj; exact ⟨Nat.le_refl _, by omega⟩, Nat.le_refl _⟩
                                              sr := fun j hj => .inl hj, sg := .inr rfl, ng := fun h => by have h : hc = lq := h; omega, hq := fun j e => (by cases e), inS := fun j hj => by rcases hj with h | h <;> omega }⟩,
         ⟨fun j => j = lq + 1, .slice none 0 0, { io := gd5, q := QuB.nil _ _
                                                  st := ⟨⟨_, _, _, _, gb5, nm _ _ NG.out, nm _ _ NE.out, .nil _ _ _ _, (fun j hj => by cases hj), .nil _ _ _ _, (fun j hj => by cases hj), fun j hj => by cases hj⟩, rfl, fun j hj => by subst hj; exact ⟨by omega, by omega⟩⟩
                                                  sr := fun j hj => .inl hj, sg := .inr rfl, ng := fun e => by have e : hd = lq + 1 := e; omega, hq := fun j e => (by cases e), inS := fun j hj => by rcases hj with h | h <;> omega }⟩,
         fun j hj h => by rcases hj with e | e <;> rcases h with h | h <;> omega⟩)
      have hz5 : lq ≤ V5.heap.size := by omega
      have HGT := Lib.hid (And.intro hhc hhd)
      clear hOut hb4 b5 hw5 b25 nm hhc hhd B2 X2 ga4 gb4 ga5 gb5 gd5 GA GB ld5 hz2 hz4 NG NE HA HAW
      rw [HGT.out.1]
      go_wp2_with fail
      rw [HW5.out, HGT.out.2]
      clear HW5 HGT
      obtain ⟨Mx, hMx⟩ : ∃ Mx, laySum lays * 17 + 17 = Mx := ⟨_, rfl⟩
      have HMX := Lib.hid (show lays.length * Mx ≤ 9345848836096 by
        have h := HMM.out
        have e : lays.length * Mx = lays.length * (laySum lays + 1) * 17 := by rw [← hMx, show laySum lays * 17 + 17 = (laySum lays + 1) * 17 by omega, Nat.mul_assoc]
        rw [e]; omega)
      have hls : laySum lays ≤ 1048576 := by omega
      go_loopw [14] (fun i wr => ∃ (k : Nat) (c : COut Od) (S Sd : Nat → Prop), i = .int .i64 (k : Nat) ∧ k ≤ lays.length ∧ ODuo (OdP lq lq lq) (KoP (lq + 1) lq) lq hc (.iface 80 (.pointer (some ⟨lq, 0, none⟩))) hd (.pointer (some ⟨lq + 1, 0, none⟩)) c S Sd wr ∧ OOk oddW (laySum (lays.take k)) (k * Mx) c ∧ Below lq V5 wr) (fun i _ => lays.length - (intOf i).toNat)
      case atStart => exact ⟨0, _, _, _, rfl, Nat.zero_le _, D5.out, ⟨fun _ => Nat.zero_le _, Nat.zero_le _, Nat.zero_le _, fun _ => Nat.zero_le _, Nat.zero_le _⟩, Below.refl _ _⟩
      case round =>
        obtain ⟨k, c, S, Sd, rfl, hk, hd', hok, hb⟩ := hrel
        have D := Lib.hid hd'
        have OK := Lib.hid hok
        have B := Lib.hid hb
        have BW := Lib.hid (B5.out.trans (hb.mono hl1))
        have XR := Lib.hid ((hb.block gx (by omega)).trans X5.out)
        have y3 := cell_of XR.out 3 rfl
        clear hd' hok hb D5
        by_cases hlt : k < lays.length
        · obtain ⟨⟨kd, xs⟩, hx⟩ : ∃ x, lays[k]? = some x := ⟨_, List.getElem?_eq_getElem hlt⟩
          obtain ⟨bx, ox, ax, nx, cx, rfl, f1, f2, f3⟩ := HL.out.2.2 k _ hx
          dsimp only at f1 f2 f3
          have e1 := (World.cell?_of_block (a := ⟨bx, ox + k * 2, none⟩) (BW.out.block bx (cell_lt f1))).trans f1
          have e2 := (World.cell?_of_block (a := ⟨bx, ox + k * 2 + 1, none⟩) (BW.out.block bx (cell_lt f2))).trans f2
          have hsx := f3.keep BW.out
          have hst := laySum_take hx
          have hle := laySum_le lays (k + 1)
          dsimp only at hst
          have hnx : xs.length = nx := hsx.len
          have hpl := D.out.p.inS
          have hrl := D.out.r.inS
          have hxb : ∀ b o, ax = some ⟨b, o, none⟩ → 0 < nx → ¬ S b ∧ ¬ Sd b := fun b o e hn => by
            have hbw : b < w.heap.size := by subst e; exact f3.blt hn
            exact ⟨fun h => by have := (hpl b h).1; omega, fun h => by have := (hrl b h).1; omega⟩
          have HPL := Lib.hid hpl
          have HRL := Lib.hid hrl
          have hkm : (k + 1) * Mx ≤ 9345848836096 := Nat.le_trans (Nat.mul_le_mul_right _ hlt) HMX.out
          rw [Nat.succ_mul] at hkm
          have OK2 := Lib.hid (OK.out.tell (kind := kd) (xs := xs))
          have TOLD := Lib.hid (told_any (oddWr lq lq lq) 80 (fun w => methOW lq w) (enters_of Try.func80 (by kernel_rfl) rfl) (koddL (lq + 1) lq) hc hd (Nat.le_refl _) kd ax nx cx xs c S Sd wr (laySum (lays.take k)) (k * Mx) OK.out D.out hsx (Nat.le_trans hz5 B.out.size) hxb (by omega) (by omega) (by omega))
          have hzr : lq ≤ wr.heap.size := Nat.le_trans hz5 B.out.size
          have HST := Lib.hid hst
          have HBD := Lib.hid (show k * Mx + (laySum (lays.take k) * 17 + 17) ≤ (k + 1) * Mx by rw [Nat.succ_mul]; omega)
          clear hx hpl hrl hxb hsx hst f1 f2 f3 hkm hle
          go_wp2_with fail
          refine TOLD.out.mono ?_
          rintro e V6 ⟨rfl, S6, Sd6, hD6, -, -, hT6⟩
          obtain ⟨c6, hc6⟩ : ∃ c6, tellM oddW kd xs c = c6 := ⟨_, rfl⟩
          rw [hc6] at hD6 OK2
          have D6 := Lib.hid hD6
          have B6 := Lib.hid (hT6.below B.out hzr fun j e => by
            rcases e with e | e
            · exact (HPL.out j e).1
            · exact (HRL.out j e).1)
          clear hD6 hT6 hc6 D TOLD
          go_wp2_with fail
          go_roundw
          case rel => exact ⟨k + 1, c6, S6, Sd6, by go_num, by omega, D6.out, by rw [HST.out]; exact OK2.out.mono (Nat.le_refl _) HBD.out, B6.out⟩
          case measure => simp [intOf]; omega
        · have t1 : decide ((k : Int) < (lays.length : Int)) = false := decide_eq_false (by omega)
          have t1' : decide (k < lays.length) = false := decide_eq_false hlt
          obtain ⟨Sp, qp, hP⟩ := D.out.p
          obtain ⟨Sr, qr, hR⟩ := D.out.r
          obtain ⟨va, vb, vs, vt, hca, -, -, hvs, -, hvt, -⟩ := hP.st.blk
          obtain ⟨wa, wb, wt, ws, hcb, -, -, hws, -, hwt, -⟩ := hR.st.blk
          obtain ⟨as1, cs1, rfl, hsl1⟩ := hvs.slZ
          obtain ⟨as2, cs2, rfl, hsl2⟩ := hws.slZ
          obtain ⟨at1, nt1, ct1, rfl, htl1⟩ := hvt.slN
          obtain ⟨at2, nt2, ct2, rfl, htl2⟩ := hwt.slN
          have hcn : c.t.sz.length ≤ 1000000000000000 := by
            have h1 := OK.out.cnt
            have h2 : oddW.cnt c.t = c.t.calls := rfl
            have h3 : k * Mx ≤ 9345848836096 := Nat.le_trans (Nat.mul_le_mul_right _ hk) HMX.out
            rw [h2] at h1; rw [c.t.okz]; omega
          have z1 : wr.cell? ⟨lq, 3, none⟩ = some (.slice as1 c.t.sz.length cs1) := cell_of hca 3 rfl
          have z2 : wr.cell? ⟨lq + 1, 7, none⟩ = some (.slice as2 c.t.sz.length cs2) := cell_of hcb 7 rfl
          have z3 : wr.cell? ⟨lq, 5, none⟩ = some (.slice at1 nt1 ct1) := cell_of hca 5 rfl
          have z4 : wr.cell? ⟨lq + 1, 3, none⟩ = some (.slice at2 nt2 ct2) := cell_of hcb 3 rfl
          have q1 := hvt.capB
          have q2 := hwt.capB
          have AL := Lib.hid (fun (V : World) (hV : Drw wr V) => alike_any as1 c.t.sz.length cs1 c.t.sz as2 c.t.sz.length cs2 V (by omega) (hsl1.keep hV.below) (hsl2.keep hV.below))
          have SM := Lib.hid (show ∀ V, Drw wr V → Calls Try.prog 26 #[.slice at1 nt1 ct1, .slice at2 nt2 ct2] V (fun e w' => e = .returned (.bool true) ∧ Drw V w') from fun V hV => by
            have := sameD_any at1 nt1 ct1 c.t.took at2 nt2 ct2 c.t.took V (by omega) (by omega) (htl1.keep hV.below) (htl2.keep hV.below)
            rwa [decide_eq_true rfl] at this)
          clear hca hcb hvs hws hR hP hsl1 hsl2 hvt hwt htl1 htl2 q1 q2 hlt D OK
          go_wp2_with fail
          go_quiet (first | (go_at_call 27; exact Calls.quiet_of_drw (AL.out _ (by first | exact Drw.refl _ | exact (Drw.refl _).more _ | exact ((Drw.refl _).more _).more _))) | (go_at_call 26; exact Calls.quiet_of_drw (SM.out _ (by first | exact Drw.refl _ | exact (Drw.refl _).more _ | exact ((Drw.refl _).more _).more _))))
          go_wp2_with fail
          go_ret
          exact ⟨rfl, keep_drewN BW.out _⟩
end Go.Proofs.Ytpenbaafhbbmhaa
