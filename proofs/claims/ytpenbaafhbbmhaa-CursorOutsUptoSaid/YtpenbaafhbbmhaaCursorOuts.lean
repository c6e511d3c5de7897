/- CursorOuts: the walk. Conditions: what it is handed is small together. -/
import Derived.Test.YtpenbaafhbbmhaaCurTold
import Derived.Test.YtpenbaafhbbmhaaCurLives
import Derived.Test.YtpenbaafhbbmhaaCurScript
namespace Go.Proofs.Ytpenbaafhbbmhaa
open Go.RowKit Go.Shelf
set_option maxRecDepth 100000
set_option linter.unusedVariables false
set_option linter.unusedSimpArgs false

/-- what a sink took and what waits -/
def TkI (M : Nat) (c : COut Snk) : Prop := c.t.took.length + c.q.length ≤ M
theorem TkI.push {M : Nat} {c : COut Snk} (h : TkI M c) : TkI M (pushM snkM c).2.2 := by
  by_cases he : c.er ≠ 0
  · rw [push_er he]; exact h
  have he : c.er = 0 := by simpa using he
  by_cases hq : c.q = []
  · rw [push_nil he hq]; exact h
  obtain ⟨p, hp⟩ : ∃ p, c.q.take 4096 = p := ⟨_, rfl⟩
  have hk : snkM.num c.t p = ((c.t.takes p.length : Nat) : Int) := rfl
  obtain ⟨k, hk2⟩ : ∃ k, c.t.takes p.length = k := ⟨_, rfl⟩
  have hkp : k ≤ p.length := by rw [← hk2]; exact c.t.takes_le _
  have hpq : p.length ≤ c.q.length := by rw [← hp, List.length_take]; omega
  rw [hk2] at hk
  have ht : (snkM.nxt c.t p).took.length = c.t.took.length + k := by
    show (c.t.took ++ p.take (c.t.takes p.length)).length = _
    rw [hk2, List.length_append, List.length_take]; omega
  have hd : (c.q.drop k).length = c.q.length - k := List.length_drop
  unfold TkI at h ⊢
  by_cases h0 : snkM.er c.t p = 0
  · by_cases h16 : waitN c.idle (decide (0 < k)) = 16
    · rw [push_idle he hq hp hk hkp h0 h16]; dsimp only; omega
    · rw [push_go he hq hp hk hkp h0 h16]; dsimp only; omega
  · rw [push_err he hq hp hk hkp rfl h0]; dsimp only; omega
theorem TkI.flushG {M : Nat} : ∀ (F : Nat) (c : COut Snk), TkI M c → TkI M (flushG snkM F c)
  | 0, c, h => h
  | F + 1, c, h => by
    unfold Go.Proofs.Ytpenbaafhbbmhaa.flushG
    split
    · exact h
    · exact TkI.flushG F _ h.push
theorem TkI.tell {M : Nat} {c : COut Snk} {kind : Int} {xs : List UInt8} (h : TkI M c) : TkI (M + xs.length) (tellM snkM kind xs c) := by
  unfold tellM
  split
  · unfold layM
    split
    · unfold TkI at h ⊢; dsimp only; rw [List.length_append]; omega
    · unfold TkI at h ⊢; omega
  split
  · have := h.push; unfold TkI at this ⊢; omega
  split
  · have := TkI.flushG (c.q.length * 17 + 17) c h; unfold TkI at this; show TkI _ (flushM snkM c); unfold TkI flushM; omega
  · unfold TkI at h ⊢; omega
set_option maxHeartbeats 8000000 in
theorem cursorOuts_walk (ag : Option Addr) (ng cg : Nat) (gs : List Int) (fail : Int) (asx : Option Addr) (ns cs : Nat) (script : List (Int × List UInt8)) (w : World)
    (hng : ng ≤ 1048576) (hns : ns ≤ 1048576) (hI : Ints gs) (hG : Sl fZ w ag ng cg gs) (hA : Lays w asx ns cs script) (hsum : laySum script ≤ 1048576) :
    Calls Try.prog 5 #[.slice ag ng cg, .int .i64 fail, .slice asx ns cs] w fun e w' => e = .returned (.bool true) ∧ Below w.heap.size w w' := by
  obtain rfl : script.length = ns := hA.1
  have HG := Lib.hid hG
  have HA := Lib.hid hA
  have HI := Lib.hid hI
  clear hG hA hI
  go_enter Try.func5, Try.ntmps5
  go_wp2_with fail
  refine (lives_any _).mono ?_
  rintro e w1 ⟨rfl, hb⟩
  have B1 := Lib.hid hb
  have NS := Lib.hid (newSink_any ag ng cg gs fail w1 (by omega) HI.out (HG.out.keep hb))
  have hl0 : w.heap.size ≤ w1.heap.size := hb.size
  clear hb
  go_wp2_with fail
  refine NS.out.mono ?_
  rintro e w2 ⟨g, S, rfl, hs, hb⟩
  have SP2 := Lib.hid hs
  have B2 := Lib.hid (keep_trans B1.out hb)
  have hlo : w1.heap.size ≤ w2.heap.size := hb.size
  obtain ⟨lo, hlo2⟩ : ∃ lo, w1.heap.size = lo := ⟨_, rfl⟩
  rw [hlo2] at SP2 hlo hl0
  clear hs hb NS hlo2
  obtain ⟨w3, hw3⟩ : ∃ V, w2.alloc (.cells (kcells ag ng cg fail 0 (.slice none 0 0)) 66) = V := ⟨_, rfl⟩
  have b3 : Below w2.heap.size w2 w3 := hw3 ▸ (Below.refl _ _).alloc (Nat.le_refl _) _
  have gt3 : w3.heap[w2.heap.size]? = some (.cells (kcells ag ng cg fail 0 (.slice none 0 0)) 66 (0, 0)) := hw3 ▸ heap_new w2 _
  have hz3 : w3.heap.size = w2.heap.size + 1 := by rw [← hw3]; simp
  have HW3 := Lib.hid (show w2.alloc (.cells #[.slice ag ng cg, .int .i64 fail, .int .i64 0, .slice none 0 0, .bool false, .slice none 0 0, .slice none 0 0, .slice none 0 0] 66) = w3 from hw3)
  clear hw3
  go_wp2_with fail
  rw [HW3.out]
  refine (newOut_any 62 (.pointer (some ⟨g, 0, none⟩)) w3).mono ?_
  rintro e w4 ⟨rfl, hOut, hb4⟩
  have gt4 := blk_keep gt3 hb4
  have hz4 : w3.heap.size < w4.heap.size := hOut.lt
  obtain ⟨gt, hgt⟩ : ∃ gt, w2.heap.size = gt := ⟨_, rfl⟩
  obtain ⟨gc, hgc⟩ : ∃ gc, w3.heap.size = gc := ⟨_, rfl⟩
  rw [hgt] at gt3 gt4 hz3 hlo
  rw [hgc] at hOut hz4
  obtain ⟨w5, hw5⟩ : ∃ V, w4.alloc (.cells #[.pointer (some ⟨gt, 0, none⟩), .slice none 0 0, .int .i64 0, .int .i64 0, .int .i64 0] 71) = V := ⟨_, rfl⟩
  have b5 : Below w4.heap.size w4 w5 := hw5 ▸ (Below.refl _ _).alloc (Nat.le_refl _) _
  have gd5 : w5.heap[w4.heap.size]? = some (.cells #[.pointer (some ⟨gt, 0, none⟩), .slice none 0 0, .int .i64 0, .int .i64 0, .int .i64 0] 71 (0, 0)) := hw5 ▸ heap_new w4 _
  obtain ⟨gd, hgd⟩ : ∃ gd, w4.heap.size = gd := ⟨_, rfl⟩
  rw [hgd] at gd5 hz4
  have b25 : Below w2.heap.size w2 w5 := keep_trans (keep_trans b3 hb4) b5
  have B5 := Lib.hid (keep_trans B2.out b25)
  have hlg : ∀ b o, ag = some ⟨b, o, none⟩ → 0 < ng → b < lo := fun b o e hn => by subst e; have := HG.out.blt hn; omega
  have hin := SP2.out.inS
  have lt5 := (Array.getElem?_eq_some_iff.1 (blk_keep gt4 b5)).1
  have ld5 := (Array.getElem?_eq_some_iff.1 gd5).1
  have D5 := Lib.hid (show ODuo (SnkP g lo) (StK gt lo) lo gc (.iface 62 (.pointer (some ⟨g, 0, none⟩))) gd (.pointer (some ⟨gt, 0, none⟩)) ⟨⟨gs, fail, 0, []⟩, [], 0, 0, 0⟩ (fun j => S j ∨ j = gc) (fun j => j = gt ∨ j = gd) w5 from
    ⟨⟨S, .slice none 0 0, { io := hOut.turns (Turns.of_below (S := fun _ => False) b5) id, q := QuB.nil _ _, st := SP2.out.keep b25, sr := fun j hj => .inl hj, sg := .inr rfl, ng := fun h => by have := (hin _ h).2; omega, hq := fun j e => (by cases e), inS := fun j hj => by rcases hj with h | h; (have := hin j h; omega); (omega) }⟩,
     ⟨fun j => j = gt, .slice none 0 0, { io := gd5, q := QuB.nil _ _, st := ⟨{ blk := ⟨ag, ng, cg, .slice none 0 0, blk_keep gt4 b5, HG.out.keep B5.out, hlg, OwT.nil _ _ _ _, fun j e => (by cases e)⟩, own := rfl, inS := fun j hj => by have hj : j = gt := hj; omega, ints := HI.out }, by omega⟩, sr := fun j hj => .inl hj, sg := .inr rfl, ng := fun e => by have e : gd = gt := e; omega, hq := fun j e => (by cases e), inS := fun j hj => by rcases hj with h | h <;> omega }⟩,
     fun j hj h => by rcases hj with e | e; (have := (hin j e).2; omega); (omega)⟩)
  have hz5 : lo ≤ w5.heap.size := by have := b5.size; omega
  have HW5 := Lib.hid hw5
  have HGT := Lib.hid (And.intro hgt (And.intro hgc hgd))
  clear hOut hb4 b3 gt3 gt4 gd5 b5 hw5 b25 hin hlg hgt hgc hgd B2 SP2 lt5 ld5
  rw [HGT.out.1, HGT.out.2.1]
  go_wp2_with fail
  rw [HW5.out, HGT.out.2.2]
  go_loopw [12] (fun i wr => ∃ (k : Nat) (c : COut Snk) (S Sd : Nat → Prop), i = .int .i64 (k : Nat) ∧ k ≤ script.length ∧ ODuo (SnkP g lo) (StK gt lo) lo gc (.iface 62 (.pointer (some ⟨g, 0, none⟩))) gd (.pointer (some ⟨gt, 0, none⟩)) c S Sd wr ∧ OOk snkM (laySum (script.take k)) (k * 17825809) c ∧ TkI (laySum (script.take k)) c ∧ Below lo w5 wr) (fun i _ => script.length - (intOf i).toNat)
  case atStart => exact ⟨0, _, _, _, rfl, Nat.zero_le _, D5.out, ⟨fun _ => Nat.zero_le _, Nat.zero_le _, Nat.zero_le _, fun _ => Nat.zero_le _, Nat.zero_le _⟩, Nat.zero_le _, Below.refl _ _⟩
  case round =>
    obtain ⟨k, c, S, Sd, rfl, hk, hd, hok, hti, hb⟩ := hrel
    have D := Lib.hid hd
    have OK := Lib.hid hok
    have TI := Lib.hid hti
    have B := Lib.hid hb
    have BW := Lib.hid (B5.out.trans (hb.mono hl0))
    clear hd hok hti hb D5
    by_cases hlt : k < script.length
    · obtain ⟨⟨kd, xs⟩, hx⟩ : ∃ x, script[k]? = some x := ⟨_, List.getElem?_eq_getElem hlt⟩
      obtain ⟨bx, ox, ax, nx, cx, rfl, f1, f2, f3⟩ := HA.out.2.2 k _ hx
      dsimp only at f1 f2 f3
      have e1 := (World.cell?_of_block (a := ⟨bx, ox + k * 2, none⟩) (BW.out.block bx (cell_lt f1))).trans f1
      have e2 := (World.cell?_of_block (a := ⟨bx, ox + k * 2 + 1, none⟩) (BW.out.block bx (cell_lt f2))).trans f2
      have hsx := f3.keep BW.out
      have hst := laySum_take hx
      have hle := laySum_le script (k + 1)
      dsimp only at hst
      have hnx : xs.length = nx := hsx.len
      have hpl := D.out.p.inS
      have hrl := D.out.r.inS
      have hxb : ∀ b o, ax = some ⟨b, o, none⟩ → 0 < nx → ¬ S b ∧ ¬ Sd b := fun b o e hn => by
        have hbw : b < w.heap.size := by subst e; exact f3.blt hn
        exact ⟨fun h => by have := (hpl b h).1; omega, fun h => by have := (hrl b h).1; omega⟩
      have HPL := Lib.hid hpl
      have HRL := Lib.hid hrl
      have OK2 := Lib.hid (OK.out.tell (kind := kd) (xs := xs))
      have TI2 := Lib.hid (TI.out.tell (kind := kd) (xs := xs))
      have TOLD := Lib.hid (told_any (snkW g lo) 62 (fun w => methW g w) (enters_of Try.func78 (by kernel_rfl) rfl) (rsnkL gt lo) gc gd (Nat.zero_le _) kd ax nx cx xs c S Sd wr (laySum (script.take k)) (k * 17825809) OK.out D.out hsx (Nat.le_trans hz5 B.out.size) hxb (by omega) (by omega) (by omega))
      have hzr : lo ≤ wr.heap.size := Nat.le_trans hz5 B.out.size
      have HST := Lib.hid hst
      clear hx hpl hrl hxb hsx hst f1 f2 f3
      go_wp2_with fail
      refine TOLD.out.mono ?_
      rintro e w6 ⟨rfl, S6, Sd6, hD6, -, -, hT6⟩
      obtain ⟨c6, hc6⟩ : ∃ c6, tellM snkM kd xs c = c6 := ⟨_, rfl⟩
      rw [hc6] at hD6 OK2 TI2
      have D6 := Lib.hid hD6
      have B6 := Lib.hid (hT6.below B.out hzr fun j e => by
        rcases e with e | e
        · exact (HPL.out j e).1
        · exact (HRL.out j e).1)
      obtain ⟨Sp, qp, hP⟩ := hD6.p
      obtain ⟨Sr, qr, hR⟩ := hD6.r
      have htk : c6.t.took.length ≤ 1048576 := by have := TI2.out; unfold TkI at this; have := HST.out; omega
      obtain ⟨⟨am, nm, cm, vt, hc9, -, -, hvt, -⟩, -⟩ := hR.st.1
      have CL := Lib.hid (kcalls_any g lo c6.t Sp w6 hP.st)
      have BY := Lib.hid (kbytes_any g lo c6.t Sp w6 hP.st (by omega))
      have z1 : w6.cell? ⟨gt, 2, none⟩ = some (.int .i64 (c6.t.calls : Nat)) := cell_of hc9 2 rfl
      have VT := Lib.hid hvt
      obtain ⟨at9, nt9, ct9, rfl, -⟩ := hvt.slN
      have z2 : w6.cell? ⟨gt, 3, none⟩ = some (.slice at9 nt9 ct9) := cell_of hc9 3 rfl
      have hgl : gt < w6.heap.size := (Array.getElem?_eq_some_iff.1 hc9).1
      clear hD6 hT6 hc6 hR hP hc9 hvt D TOLD
      go_wp2_with fail
      refine CL.out.mono ?_
      rintro e w7 ⟨rfl, rfl⟩
      go_wp2_with fail
      refine BY.out.mono ?_
      rintro e w7 ⟨bv, rfl, hbo, hb7⟩
      obtain ⟨a7, n7, c7, rfl, -⟩ := hbo.slN
      have B7 := Lib.hid hb7
      have q1 := hbo.capB
      have q2 := VT.out.capB
      have hn7 : n7 ≤ c7 := q1.2.1
      have hn9 : nt9 ≤ ct9 := q2.2.1
      have SM := Lib.hid (same_any a7 n7 c7 c6.t.took at9 nt9 ct9 c6.t.took w7 (by omega) (by omega) hbo.slI (VT.out.keep hb7).slI)
      rw [decide_eq_true rfl] at SM
      have y1 := (World.cell?_of_block (a := ⟨gt, 2, none⟩) (hb7.block gt hgl)).trans z1
      have y2 := (World.cell?_of_block (a := ⟨gt, 3, none⟩) (hb7.block gt hgl)).trans z2
      have hz7 := hb7.size
      clear hbo hb7 q1 q2 z1 z2 BY CL
      go_wp2_with fail
      refine SM.out.mono ?_
      rintro e w8 ⟨rfl, hb8⟩
      have B8 := Lib.hid hb8
      have x1 := (World.cell?_of_block (a := ⟨gt, 2, none⟩) (hb8.block gt (by show gt < _; omega))).trans y1
      have u1 : ((c6.t.calls : Int) != (c6.t.calls : Int)) = false := by simp
      clear hb8 y1 y2 SM
      go_wp2_with fail
      go_roundw
      case rel => exact ⟨k + 1, c6, S6, Sd6, by go_num, by omega, D6.out.turns (out_frm (snkW g lo) _ gc (Nat.zero_le _)) (rout_frm (rsnkL gt lo) gd) (T := fun _ => False) (.of_below (keep_trans B7.out B8.out)) (fun _ _ e => e) (fun _ e => e.elim), by rw [HST.out]; exact OK2.out.mono (Nat.le_refl _) (by have := laySum_le script k; omega), by rw [HST.out]; exact TI2.out, B6.out.trans ((keep_trans B7.out B8.out).mono (by have := B6.out.size; omega))⟩
      case measure => simp [intOf]; omega
    · go_wp2_with fail
      go_ret
      exact ⟨rfl, BW.out⟩
end Go.Proofs.Ytpenbaafhbbmhaa
