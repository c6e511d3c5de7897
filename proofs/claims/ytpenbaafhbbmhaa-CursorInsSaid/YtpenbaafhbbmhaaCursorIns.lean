/- CursorIns: the walk. Conditions: what it is handed within reach. -/
import Derived.Test.YtpenbaafhbbmhaaCurLives
import Derived.Test.YtpenbaafhbbmhaaCurScript
namespace Go.Proofs.Ytpenbaafhbbmhaa
open Go.RowKit Go.Shelf
set_option maxRecDepth 100000
set_option linter.unusedVariables false
set_option linter.unusedSimpArgs false

/-- the reference's In made over the document's source -/
theorem robj_new {w : World} {gt gd lo : Nat} {bs : List UInt8} {ab : Option Addr} {nb cb : Nat} {ag : Option Addr} {ng cg : Nat} {gs : List Int} {xf most : Int} {eager : Bool}
    (hS : Sl Bf w ab nb cb bs) (hG : Sl fZ w ag ng cg gs) (hI : Ints gs) (hb : ∀ b o, ab = some ⟨b, o, none⟩ → 0 < nb → b < lo) (hg : ∀ b o, ag = some ⟨b, o, none⟩ → 0 < ng → b < lo) (ht : w.heap[gt]? = some (.cells (rcells ab nb cb ag ng cg xf eager 0 0) 33 (0, 0)))
    (hd : w.heap[gd]? = some (.cells #[.pointer (some ⟨gt, 0, none⟩), .int .i64 most, .int .i64 0, .int .i64 0, .slice none 0 0, .int .i64 0] 39 (0, 0))) (hlt : lo ≤ gt) (hld : lo ≤ gd) (hne : gt ≠ gd) :
    RObj (StR gt lo bs) lo gd most (.pointer (some ⟨gt, 0, none⟩)) ⟨⟨gs, xf, 0, bs, eager⟩, 0, 0, 0, []⟩ (fun j => j = gt ∨ j = gd) w := by
  have lt := (Array.getElem?_eq_some_iff.1 ht).1
  have ld := (Array.getElem?_eq_some_iff.1 hd).1
  exact ⟨fun j => j = gt, .slice none 0 0,
    { io := hd, ow := OwT.nil _ _ _ _
      st := ⟨fun j => Iff.rfl, { blk := ⟨ab, nb, cb, ag, ng, cg, 0, ht, ⟨ag, ng, cg, rfl, hG, fun b o e h0 => ⟨.inl (hg b o e h0), by have := hg b o e h0; omega⟩⟩, ⟨ab, nb, cb, rfl, hS, fun b o e h0 => ⟨.inl (hb b o e h0), by have := hb b o e h0; omega⟩⟩, Nat.zero_le _, rfl⟩
                                 own := .inr rfl, inS := fun j hj => by rcases hj with e | e <;> omega, ints := hI }, hlt⟩
      sr := fun j hj => .inl hj, sg := .inr rfl, ng := fun e => hne e.symm, hs := fun j e => (by cases e), inS := fun j hj => by rcases hj with e | e <;> omega }⟩
set_option maxHeartbeats 8000000 in
theorem cursorIns_walk (ab : Option Addr) (nb cb : Nat) (bs : List UInt8) (ag : Option Addr) (ng cg : Nat) (gs : List Int) (xf : Int) (eager : Bool) (most : Int) (asx : Option Addr) (ns cs : Nat) (script : List (Int × Int)) (w : World)
    (hnb : nb ≤ 140737488351232) (hng : ng ≤ 17592186043904) (hns : ns ≤ 140737488351232) (hI : Ints gs) (hmo : -9223372036854775808 ≤ most ∧ most ≤ 9223372036854775807) (hB : Sl Bf w ab nb cb bs) (hG : Sl fZ w ag ng cg gs) (hA : Asks w asx ns cs script) (hW : AsksW script) :
    Calls Try.prog 3 #[.agg #[.slice ab nb cb, .slice ag ng cg, .int .i64 xf, .bool eager], .int .i64 most, .slice asx ns cs] w fun e w' => e = .returned (.bool true) ∧ Below w.heap.size w w' := by
  obtain rfl : bs.length = nb := hB.len
  obtain rfl : script.length = ns := hA.1
  have HB := Lib.hid hB
  have HG := Lib.hid hG
  have HA := Lib.hid hA
  have HW := Lib.hid hW
  have HI := Lib.hid hI
  obtain ⟨m, hm⟩ : ∃ m, max 0 most = m := ⟨_, rfl⟩
  have hM1 : (if most > 0 then most else 0) = m := by split <;> omega
  have hM2 : (if 0 < most then most else 0) = m := by split <;> omega
  have hM3 : max 0 most = m := hm
  have hm1 : 0 ≤ m ∧ m ≤ 9223372036854775807 := by omega
  have HM := Lib.hid hm
  clear hB hG hA hW hI hm
  obtain ⟨w0, hw0⟩ : ∃ V, w.alloc (.cells #[.slice ab bs.length cb, .slice ag ng cg, .int .i64 xf, .bool eager] 25) = V := ⟨_, rfl⟩
  have b0 : Below w.heap.size w w0 := hw0 ▸ (Below.refl _ _).alloc (Nat.le_refl _) _
  have x0 : w0.heap[w.heap.size]? = some (.cells #[.slice ab bs.length cb, .slice ag ng cg, .int .i64 xf, .bool eager] 25 (0, 0)) := hw0 ▸ heap_new w _
  obtain ⟨gx, hgx⟩ : ∃ gx, w.heap.size = gx := ⟨_, rfl⟩
  have HGX := Lib.hid hgx
  have X0 := Lib.hid (show w0.heap[gx]? = some (.cells #[.slice ab bs.length cb, .slice ag ng cg, .int .i64 xf, .bool eager] 25 (0, 0)) by rw [← hgx]; exact x0)
  have B0 := Lib.hid b0
  have HW0 := Lib.hid hw0
  clear b0 x0 hgx hw0
  go_enter Try.func3, Try.ntmps3
  go_wp2_with fail
  rw [HW0.out, HGX.out]
  refine (lives_any _).mono ?_
  rintro e w1 ⟨rfl, hb⟩
  have B1 := Lib.hid (keep_trans B0.out hb)
  have X1 := Lib.hid ((hb.block gx (Array.getElem?_eq_some_iff.1 X0.out).1).trans X0.out)
  clear hb
  have y0 := cell_of X1.out 0 rfl
  have y1 := cell_of X1.out 1 rfl
  have y2 := cell_of X1.out 2 rfl
  have y3 := cell_of X1.out 3 rfl
  have NS := Lib.hid (newSource_any ab bs.length cb bs ag ng cg gs xf eager w1 hnb hng HI.out (HB.out.keep B1.out) (HG.out.keep B1.out))
  go_wp2_with fail
  refine NS.out.mono ?_
  rintro e w2 ⟨g, S, rfl, hs, hb⟩
  have SP2 := Lib.hid hs
  have B2 := Lib.hid (keep_trans B1.out hb)
  have X2 := Lib.hid (blk_keep X1.out hb)
  have hlo : w1.heap.size ≤ w2.heap.size := hb.size
  obtain ⟨lo, hlo2⟩ : ∃ lo, w1.heap.size = lo := ⟨_, rfl⟩
  rw [hlo2] at SP2 hlo
  have hl0 : w.heap.size ≤ lo := by rw [← hlo2]; exact B1.out.size
  have hxl : gx < lo := by rw [← hlo2]; exact (Array.getElem?_eq_some_iff.1 X1.out).1
  clear hs hb NS y0 y1 y2 y3 hlo2
  have y0 := cell_of X2.out 0 rfl
  have y1 := cell_of X2.out 1 rfl
  have y2 := cell_of X2.out 2 rfl
  have y3 := cell_of X2.out 3 rfl
  obtain ⟨w3, hw3⟩ : ∃ V, w2.alloc (.cells (rcells ab bs.length cb ag ng cg xf eager 0 0) 33) = V := ⟨_, rfl⟩
  have b3 : Below w2.heap.size w2 w3 := hw3 ▸ (Below.refl _ _).alloc (Nat.le_refl _) _
  have gt3 : w3.heap[w2.heap.size]? = some (.cells (rcells ab bs.length cb ag ng cg xf eager 0 0) 33 (0, 0)) := hw3 ▸ heap_new w2 _
  have hz3 : w3.heap.size = w2.heap.size + 1 := by rw [← hw3]; simp
  have HW3 := Lib.hid (show w2.alloc (.cells #[.slice ab bs.length cb, .slice ag ng cg, .int .i64 xf, .bool eager, .int .i64 0, .int .i64 0, .bool false, .slice none 0 0, .slice none 0 0, .int .u8 0, .int .u8 0, .slice none 0 0] 33) = w3 from hw3)
  clear hw3
  go_wp2_with fail
  rw [HW3.out]
  refine (newIn_any 28 (.pointer (some ⟨g, 0, none⟩)) most w3 hmo.2).mono ?_
  rintro e w4 ⟨rfl, hIn, hb4⟩
  rw [HM.out] at hIn
  have gt4 := blk_keep gt3 hb4
  have hz4 : w3.heap.size < w4.heap.size := hIn.lt
  obtain ⟨gt, hgt⟩ : ∃ gt, w2.heap.size = gt := ⟨_, rfl⟩
  obtain ⟨gc, hgc⟩ : ∃ gc, w3.heap.size = gc := ⟨_, rfl⟩
  rw [hgt] at gt3 gt4 hz3 hlo
  rw [hgc] at hIn hz4
  obtain ⟨w5, hw5⟩ : ∃ V, w4.alloc (.cells #[.pointer (some ⟨gt, 0, none⟩), .int .i64 m, .int .i64 0, .int .i64 0, .slice none 0 0, .int .i64 0] 39) = V := ⟨_, rfl⟩
  have b5 : Below w4.heap.size w4 w5 := hw5 ▸ (Below.refl _ _).alloc (Nat.le_refl _) _
  have gd5 : w5.heap[w4.heap.size]? = some (.cells #[.pointer (some ⟨gt, 0, none⟩), .int .i64 m, .int .i64 0, .int .i64 0, .slice none 0 0, .int .i64 0] 39 (0, 0)) := hw5 ▸ heap_new w4 _
  obtain ⟨gd, hgd⟩ : ∃ gd, w4.heap.size = gd := ⟨_, rfl⟩
  rw [hgd] at gd5 hz4
  have b25 : Below w2.heap.size w2 w5 := keep_trans (keep_trans b3 hb4) b5
  have B5 := Lib.hid (keep_trans B2.out b25)
  have X5 := Lib.hid (blk_keep X2.out b25)
  have hlb : ∀ b o, ab = some ⟨b, o, none⟩ → 0 < bs.length → b < lo := fun b o e hn => by subst e; have := HB.out.blt hn; omega
  have hlg : ∀ b o, ag = some ⟨b, o, none⟩ → 0 < ng → b < lo := fun b o e hn => by subst e; have := HG.out.blt hn; omega
  have RO := robj_new (xf := xf) (most := m) (eager := eager) (HB.out.keep B5.out) (HG.out.keep B5.out) HI.out hlb hlg (blk_keep gt4 b5) gd5 (by omega) (by omega) (by omega)
  have hin := SP2.out.inS
  have D5 := Lib.hid (show Duo (SrcP g lo) gc m (.iface 28 (.pointer (some ⟨g, 0, none⟩))) (StR gt lo bs) lo gd (.pointer (some ⟨gt, 0, none⟩)) ⟨⟨gs, xf, 0, bs, eager⟩, 0, 0, 0, []⟩ S (fun j => j = gt ∨ j = gd) w5 from
    { io := hIn.turns (Turns.of_below (S := fun _ => False) b5) id, st := SP2.out.keep b25, ng := fun h => by have := (hin _ h).2; omega, r := RO
      dis := fun j hj => ⟨fun h => by have := (hin j h).2; omega, by omega⟩, low := fun j hj => by rcases hj with h | h; (exact (hin j h).1); (omega) })
  have hz5 : lo ≤ w5.heap.size := by have := b5.size; omega
  have HW5 := Lib.hid hw5
  have HGT := Lib.hid (And.intro hgt (And.intro hgc hgd))
  clear hIn hb4 b3 gt3 gt4 gd5 b5 hw5 b25 RO hin hlb hlg hgt hgc hgd X2 B2 SP2 y0 y1 y2 y3
  rw [HGT.out.1, HGT.out.2.1]
  go_wp2_with fail
  rw [HW5.out, HGT.out.2.2]
  go_loopw [12] (fun i wr => ∃ (k : Nat) (c : CIn Src) (S Sd : Nat → Prop), i = .int .i64 (k : Nat) ∧ k ≤ script.length ∧ Duo (SrcP g lo) gc m (.iface 28 (.pointer (some ⟨g, 0, none⟩))) (StR gt lo bs) lo gd (.pointer (some ⟨gt, 0, none⟩)) c S Sd wr ∧ Okay srcM (SrcLe bs.length) m (17 * bs.length + 352 * k) c ∧ Below lo w5 wr) (fun i _ => script.length - (intOf i).toNat)
  case atStart => exact ⟨0, _, _, _, rfl, Nat.zero_le _, D5.out, { idle := fun _ => Nat.zero_le _, id2 := Nat.zero_le _, pl := hm1.1, held := Nat.zero_le _, p := Nat.le_refl _, bud := by show 0 + bs.length * 17 ≤ _; omega }, Below.refl _ _⟩
  case round =>
    obtain ⟨k, c, S, Sd, rfl, hk, hd, hok, hb⟩ := hrel
    have D := Lib.hid hd
    have OK := Lib.hid hok
    have B := Lib.hid hb
    have BW := Lib.hid (B5.out.trans (hb.mono hl0))
    clear hd hok hb D5
    by_cases hlt : k < script.length
    · obtain ⟨⟨kd, n⟩, hx⟩ : ∃ x, script[k]? = some x := ⟨_, List.getElem?_eq_getElem hlt⟩
      obtain ⟨bx, ox, rfl, e1, e2⟩ := (HA.out.keep BW.out).2.2 k _ hx
      have hnb2 := HW.out _ (List.mem_of_getElem? hx)
      dsimp only at e1 e2 hnb2
      have hok2 := OK.out.ask (most := m) (kind := kd) (n := n) src_mu (src_le bs.length)
      have OK2 := Lib.hid hok2
      have ASK := Lib.hid (asked_any (srcR g lo) 28 (fun w => methR g w) (enters_of Try.func75 (by kernel_rfl) rfl) (rsrcL gt lo bs hnb) src_mu gc gd m kd n c S Sd wr (SrcLe bs.length) (src_le bs.length) (17 * bs.length + 352 * k) (Nat.zero_le _)
        { ok := OK.out, bud := by omega, bud2 := by omega, nb := hnb2, mb := hm1.2, cap := fun _ _ => src_caps OK.out.p hnb _ } D.out)
      have hlw := D.out.low
      have hin := D.out.r.inS
      have HLW := Lib.hid hlw
      have HIN := Lib.hid hin
      have hzr : lo ≤ wr.heap.size := Nat.le_trans hz5 B.out.size
      clear hx hok2 hlw hin
      go_wp2_with fail
      refine ASK.out.mono ?_
      rintro e w6 ⟨rfl, S6, Sd6, hD6, -, -, hT6⟩
      obtain ⟨c6, hc6⟩ : ∃ c6, askM srcM m kd n c = c6 := ⟨_, rfl⟩
      rw [hc6] at hD6 OK2
      have D6 := Lib.hid hD6
      have B6 := Lib.hid (hT6.below B.out hzr fun j e => by
        rcases e with e | e | e
        · exact HLW.out j (.inl e)
        · exact HLW.out j (.inr e)
        · exact (HIN.out j e).1)
      have X6 := (B6.out.block gx hxl).trans X5.out
      have y0 := cell_of X6 0 rfl
      obtain ⟨Sr, hv, hR⟩ := hD6.r
      obtain ⟨hsr, hrs, -⟩ := hR.st
      obtain ⟨ab9, nb9, cb9, ag9, ng9, cg9, i9, hc9, -, -, hi9, hl9⟩ := hrs.blk
      have z1 : w6.cell? ⟨gt, 4, none⟩ = some (.int .i64 (c6.s.calls : Nat)) := cell_of hc9 4 rfl
      have z2 : w6.cell? ⟨gt, 5, none⟩ = some (.int .i64 (i9 : Nat)) := cell_of hc9 5 rfl
      have HL9 := Lib.hid (show c6.s.left.length = bs.length - i9 by rw [hl9, List.length_drop])
      have CL := Lib.hid (calls_any g lo c6.s S6 w6 hD6.st)
      have LF := Lib.hid (left_any g lo c6.s S6 w6 hD6.st)
      clear hD6 hT6 hc6 hR hsr hrs hc9 hl9 X6 D ASK
      go_wp2_with fail
      refine CL.out.mono ?_
      rintro e w7 ⟨rfl, rfl⟩
      go_wp2_with fail
      refine LF.out.mono ?_
      rintro e w7 ⟨rfl, rfl⟩
      have r1 : IntKind.i64.wrap ((bs.length : Int) - (i9 : Int)) = (c6.s.left.length : Nat) := by rw [IntWalk.i64_in _ (by omega), HL9.out]; omega
      have u1 : ((c6.s.calls : Int) != (c6.s.calls : Int)) = false := by simp
      have u2 : ((c6.s.left.length : Int) != (c6.s.left.length : Int)) = false := by simp
      go_wp2_with fail
      go_quiet (fail)
      go_wp2_with fail
      go_roundw
      case rel => exact ⟨k + 1, c6, S6, Sd6, by go_num, by omega, D6.out.turns (srcR g lo) (rsrcL gt lo bs hnb) (Nat.zero_le _) (T := fun _ => False) (.of_below (keep_drewN (Below.refl _ _) _)) (fun _ _ e => e) (fun _ e => e.elim), OK2.out.mono (by omega), keep_drewN B6.out _⟩
      case measure => simp [intOf]; omega
    · go_wp2_with fail
      go_ret
      exact ⟨rfl, BW.out⟩
end Go.Proofs.Ytpenbaafhbbmhaa
