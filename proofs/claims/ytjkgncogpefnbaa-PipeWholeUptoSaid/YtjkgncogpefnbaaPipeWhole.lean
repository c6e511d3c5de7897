/- PipeWhole: the walk. Conditions: what it is handed within reach, together too. -/
import Derived.Test.YtjkgncogpefnbaaPipeLives
import Derived.Test.YtjkgncogpefnbaaPipeWholeM
import Derived.Deep.RegionHeld3
namespace Go.Proofs.Ytjkgncogpefnbaa
open Go.RowKit
set_option linter.unusedVariables false

/-- behind Copy of a source into a sink, whatever the size -/
def CwPost (g lo g2 lo2 : Nat) (s : Src) (t : Snk) (S U : Nat → Prop) (w : World) (e : Ending) (w' : World) : Prop :=
  ∃ m f s' t' S' U', e = .returned (.tuple #[.int .i64 (m : Nat), .int .i64 f]) ∧ m ≤ s.left.length ∧ t'.took = t.took ++ s.left.take m ∧ (f = 0 → m = s.left.length ∧ s'.left = []) ∧ SrcP g lo s' S' w' ∧ SnkP g2 lo2 t' U' w' ∧ Turns (fun j => S j ∨ U j) w w'
theorem copyW_any (g lo : Nat) (s : Src) (S : Nat → Prop) (g2 lo2 : Nat) (t : Snk) (U : Nat → Prop) (size : Int) (w : World) (hS : SrcP g lo s S w) (hU : SnkP g2 lo2 t U w) (hd : ∀ j, S j → ¬ U j)
    (hc : s.calls ≤ 1000000000000000000) (hc2 : t.calls ≤ 1000000000000000000) (hl : s.left.length ≤ 140737488351232) (hl2 : t.took.length + s.left.length ≤ 140737488355328) :
    Calls Try.prog 14 #[.iface 31 (.pointer (some ⟨g2, 0, none⟩)), .iface 27 (.pointer (some ⟨g, 0, none⟩)), .int .i64 size] w (CwPost g lo g2 lo2 s t S U w) := by
  by_cases hs : size < 1 ∨ 4096 < size
  · exact (copy_wrong _ _ _ _ size w hs).mono fun e w' ⟨he, hb⟩ => ⟨0, 1, s, t, S, U, he, Nat.zero_le _, by simp, fun e => absurd e (by decide), hS.keep hb, hU.keep hb, .of_below hb⟩
  · obtain ⟨k, rfl⟩ : ∃ k : Nat, size = k := ⟨size.toNat, by omega⟩
    refine (copySS_any g lo s S g2 lo2 t U k w (by omega) (by omega) hS hU hd hc hc2 hl hl2).mono ?_
    rintro e w' ⟨he, S', U', h1, h2, h3, h4, h5, h6⟩
    obtain ⟨m, k1, k2, k3, k4⟩ := cpyT_src k s t
    rw [k1] at he
    exact ⟨m, _, _, _, S', U', he, k2, k3, k4, h1, h2, h6⟩
set_option maxRecDepth 100000 in
set_option maxHeartbeats 4000000 in
theorem pipeWhole_walk (ab : Option Addr) (nb cb : Nat) (bs : List UInt8) (ag : Option Addr) (ng cg : Nat) (gs : List Int) (xf : Int) (eager : Bool) (at' : Option Addr) (nt ct : Nat) (ts : List Int) (wf size : Int) (af : Option Addr) (nf cf : Nat) (fs : List UInt8) (w : World)
    (hnb : nb ≤ 140737488351232) (hng : ng ≤ 17592186043904) (hnt : nt ≤ 17592186043904) (hnf : nf ≤ 140737488351232) (hsum : nb + nf ≤ 140737488351232) (hI : Ints gs) (hI2 : Ints ts) (hB : Sl Bf w ab nb cb bs) (hG : Sl fZ w ag ng cg gs) (hT : Sl fZ w at' nt ct ts) (hF : Sl Bf w af nf cf fs) :
    Calls Try.prog 8 #[.agg #[.slice ab nb cb, .slice ag ng cg, .int .i64 xf, .bool eager, .slice at' nt ct, .int .i64 wf, .int .i64 size], .slice af nf cf] w fun e w' => e = .returned (.bool true) ∧ Below w.heap.size w w' := by
  obtain rfl : bs.length = nb := hB.len
  obtain rfl : fs.length = nf := hF.len
  have b0 : Below w.heap.size w (w.alloc (.cells #[.slice ab bs.length cb, .slice ag ng cg, .int .i64 xf, .bool eager, .slice at' nt ct, .int .i64 wf, .int .i64 size] 67)) := (Below.refl _ _).alloc (Nat.le_refl _) _
  have BX := Lib.hid (heap_new w (.cells #[.slice ab bs.length cb, .slice ag ng cg, .int .i64 xf, .bool eager, .slice at' nt ct, .int .i64 wf, .int .i64 size] 67))
  have HB := Lib.hid hB; have HG := Lib.hid hG; have HT := Lib.hid hT; have HF := Lib.hid hF
  have HI := Lib.hid hI; have HI2 := Lib.hid hI2
  have B0 := Lib.hid b0
  clear hB hG hT hF hI hI2 b0
  go_enter Try.func8, Try.ntmps8
  go_wp2_with fail
  generalize w.alloc (.cells #[.slice ab bs.length cb, .slice ag ng cg, .int .i64 xf, .bool eager, .slice at' nt ct, .int .i64 wf, .int .i64 size] 67) = w0 at *
  refine (lives_any _).mono ?_
  rintro e w1 ⟨rfl, hb⟩
  have B1 := Lib.hid (keep_trans B0.out hb)
  have BX1 := Lib.hid (blk_keep BX.out hb)
  have c0 := cell_of BX1.out 0 rfl
  have c1 := cell_of BX1.out 1 rfl
  have c2 := cell_of BX1.out 2 rfl
  have c3 := cell_of BX1.out 3 rfl
  clear hb
  go_wp2_with fail
  refine (newSource_any ab bs.length cb bs ag ng cg gs xf eager w1 hnb hng HI.out (HB.out.keep B1.out) (HG.out.keep B1.out)).mono ?_
  rintro e w2 ⟨g, S, rfl, hs, hb⟩
  have SP := Lib.hid hs
  have B2 := Lib.hid (keep_trans B1.out hb)
  have BX2 := Lib.hid (blk_keep BX1.out hb)
  have d4 := cell_of BX2.out 4 rfl
  have d5 := cell_of BX2.out 5 rfl
  clear hs hb c0 c1 c2 c3
  go_wp2_with fail
  refine (newSink_any at' nt ct ts wf w2 hnt HI2.out (HT.out.keep B2.out)).mono ?_
  rintro e w3 ⟨g2, U, rfl, hu, hb⟩
  have UP := Lib.hid hu
  have SP3 := Lib.hid (SP.out.keep hb)
  have B3 := Lib.hid (keep_trans B2.out hb)
  have BX3 := Lib.hid (blk_keep BX2.out hb)
  have DS := Lib.hid (show ∀ j, S j → ¬ U j from fun j hj h => by have := (SP.out.inS j hj).2; have := (hu.inS j h).1; omega)
  have FK := Lib.hid (HF.out.keep B3.out)
  have FD := Lib.hid (show ∀ b o, af = some ⟨b, o, none⟩ → 0 < fs.length → ¬ U b from fun b o e hn h => by
    have h1 : b < w.heap.size := by subst e; exact HF.out.blt hn
    have := (hu.inS b h).1; have := B2.out.size; omega)
  clear hu hb d4 d5
  go_wp2_with fail
  refine (swrite_any g2 _ _ U af fs.length cf fs w3 UP.out (Nat.zero_le _) (by show 0 + fs.length ≤ _; omega) FK.out FD.out).mono ?_
  rintro e w4 ⟨rfl, U4, hu4, hU4, hT4⟩
  obtain ⟨t1, ht1⟩ : ∃ t1, (⟨ts, wf, 0, []⟩ : Snk).next fs = t1 := ⟨_, rfl⟩
  rw [ht1] at hu4
  have hc1 : t1.calls = 1 := by rw [← ht1]; rfl
  have hl1 : t1.took.length ≤ fs.length := by rw [← ht1]; show ([] ++ fs.take _).length ≤ _; rw [List.nil_append, List.length_take]; omega
  have UP4 := Lib.hid hu4
  have hU4b : ∀ j, U j → w2.heap.size ≤ j := fun j hj => (UP.out.inS j hj).1
  have hSl : ∀ j, S j → w.heap.size < j ∧ j < w2.heap.size := fun j hj => by have := SP.out.inS j hj; have := BX1.out; have := B1.out.size; have h3 := (Array.getElem?_eq_some_iff.1 BX1.out).1; omega
  have hgb : w.heap.size < w1.heap.size := (Array.getElem?_eq_some_iff.1 BX1.out).1
  have hz12 : w1.heap.size ≤ w2.heap.size := by have := SP.out.inS; have h := (SP.out.inS g SP.out.own); omega
  have hz23 : w2.heap.size ≤ w3.heap.size := by have h := (UP.out.inS g2 UP.out.own); omega
  have SP4 := Lib.hid (SP3.out.turns hT4 DS.out)
  have B4 := Lib.hid (hT4.below B3.out B3.out.size fun j hj => by have := hU4b j hj; have := B2.out.size; omega)
  have BX4 := Lib.hid (hT4.heap BX3.out fun h => by have := hU4b _ h; omega)
  have hU4r : ∀ j, U4 j → w2.heap.size ≤ j ∧ j < w4.heap.size := fun j hj => by
    have h1 := (hu4.inS j hj).2
    rcases hU4 j hj with h | h
    · exact ⟨hU4b j h, h1⟩
    · exact ⟨by omega, h1⟩
  have HU4 := Lib.hid hU4r
  have HSL := Lib.hid hSl
  have hz34 : w3.heap.size ≤ w4.heap.size := hT4.size
  clear hu4 hT4 hU4 hU4r hSl hU4b ht1
  go_wp2_with fail
  refine (kbytes_any g2 _ _ U4 w4 UP4.out (by omega)).mono ?_
  rintro e w5 ⟨v, rfl, ho, hb⟩
  obtain ⟨a8, n8, c8, rfl, hs8⟩ := ho.slN
  obtain rfl : t1.took.length = n8 := hs8.len
  have O5 := Lib.hid ho
  have UP5 := Lib.hid (UP4.out.keep hb)
  have SP5 := Lib.hid (SP4.out.keep hb)
  have B5 := Lib.hid (keep_trans B4.out hb)
  have BX5 := Lib.hid (blk_keep BX4.out hb)
  have d6 := cell_of BX5.out 6 rfl
  have hz45 := hb.size
  clear ho hb hs8
  go_wp2_with fail
  refine (copyW_any g _ _ S g2 _ t1 U4 size w5 SP5.out UP5.out (fun j hj h => by have := HSL.out j hj; have := HU4.out j h; omega) (Nat.zero_le _) (by rw [hc1]; decide) hnb (by show t1.took.length + bs.length ≤ _; omega)).mono ?_
  rintro e w6 ⟨m, f, s', t', S', U', rfl, hm, htk, hfz, hs6, hu6, hT6⟩
  have hm : m ≤ bs.length := hm
  have htk : t'.took = t1.took ++ bs.take m := htk
  have hfz : f = 0 → m = bs.length ∧ s'.left = [] := hfz
  have TK := Lib.hid htk
  have FZ := Lib.hid hfz
  have O6 := Lib.hid (O5.out.turns hT6 fun j hj e => by
    have := (O5.out.lt j hj).1
    rcases e with e | e
    · have := HSL.out j e; omega
    · have := HU4.out j e; omega)
  have BX6 := Lib.hid (hT6.heap BX5.out fun e => by
    rcases e with e | e
    · have := HSL.out _ e; omega
    · have := HU4.out _ e; omega)
  have B6 := Lib.hid (hT6.below B5.out B5.out.size fun j hj => by
    rcases hj with e | e
    · have := HSL.out _ e; omega
    · have := HU4.out _ e; omega)
  have SP6 := Lib.hid hs6
  have UP6 := Lib.hid hu6
  have htl : t'.took.length = t1.took.length + m := by rw [htk, List.length_append, List.length_take]; omega
  have HTL := Lib.hid htl
  have htb : t'.took.length ≤ 140737488351232 := by omega
  clear hs6 hu6 hT6 htk hfz d6 htl
  dsimp only
  go_wp2_with fail
  refine (kbytes_any g2 _ _ U' w6 UP6.out htb).mono ?_
  rintro e w7 ⟨v, rfl, ho, hb⟩
  obtain ⟨a11, n11, c11, rfl, hs11⟩ := ho.slN
  obtain rfl : t1.took.length + m = n11 := by rw [← hs11.len, HTL.out]
  have S7 := Lib.hid hs11
  have hc11 := hs11.le
  have O7 := Lib.hid (O6.out.keep hb)
  have SP7 := Lib.hid (SP6.out.keep hb)
  have B7 := Lib.hid (keep_trans B6.out hb)
  have BX7 := Lib.hid (blk_keep BX6.out hb)
  clear ho hb hs11
  go_wp2_with fail
  refine (left_any g _ _ S' w7 SP7.out).mono ?_
  rintro e w8 ⟨rfl, rfl⟩
  have c0 := cell_of BX7.out 0 rfl
  have t1f : decide ((m : Int) < 0) = false := decide_eq_false (by omega)
  have t2f : decide ((m : Int) > (bs.length : Int)) = false := decide_eq_false (by omega)
  have t2f' : decide (bs.length < m) = false := decide_eq_false (by omega)
  obtain ⟨q, hq⟩ : ∃ q, t1.took.length = q := ⟨_, rfl⟩
  have HQ := Lib.hid hq
  rw [hq] at S7 hc11 ⊢
  have hq2 : q ≤ 140737488351232 := by omega
  have r1 : IntKind.i64.wrap ((q : Int) + (m : Int)) = (q : Int) + (m : Int) := IntWalk.i64_in _ (by omega)
  have hcut1 := fun W : World => run_cutto eltB W a11 (q + m) c11 .i64 q (by omega)
  have hcut2 := fun W : World => run_cutfrom eltB W a11 (q + m) c11 .i64 q (by omega)
  have hcut3 := fun W : World => run_cutto eltB W ab bs.length cb .i64 m (by have := HB.out.le; omega)
  clear hq
  have SA := Lib.hid (show Sl Bf w7 a11 q c11 t1.took by have := S7.out.upto q (by omega); rw [show t'.took.take q = t1.took by rw [TK.out, ← HQ.out, List.take_left]] at this; exact this)
  have SB := Lib.hid (show Sl Bf w7 (adv a11 c11 q) (q + m - q) (c11 - q) (bs.take m) by have := S7.out.from q (by omega); rw [show t'.took.drop q = bs.take m by rw [TK.out, ← HQ.out, List.drop_left]] at this; exact this)
  have SC := Lib.hid (show Sl Bf w7 ab m cb (bs.take m) from (HB.out.keep B7.out).upto m hm)
  have SD := Lib.hid (show Sl Bf w7 a8 q c8 t1.took by have := O7.out.slI; rwa [HQ.out] at this)
  have SM1 := Lib.hid (fun W : World => fun (hW : Below w7.heap.size w7 W) => (show Calls Try.prog 17 #[.slice a11 q c11, .slice a8 q c8] W fun e w' => e = .returned (.bool true) ∧ Below W.heap.size W w' from by have := same_any a11 q c11 t1.took a8 q c8 t1.took W (by omega) (by omega) (SA.out.keep hW) (SD.out.keep hW); rwa [decide_eq_true rfl] at this))
  have SM2 := Lib.hid (fun W : World => fun (hW : Below w7.heap.size w7 W) => (show Calls Try.prog 17 #[.slice (adv a11 c11 q) (q + m - q) (c11 - q), .slice ab m cb] W fun e w' => e = .returned (.bool true) ∧ Below W.heap.size W w' from by have := same_any (adv a11 c11 q) (q + m - q) (c11 - q) (bs.take m) ab m cb (bs.take m) W (by omega) (by omega) (SB.out.keep hW) (SC.out.keep hW); rwa [decide_eq_true rfl] at this))
  have e1 : q + m - q = m := by omega
  rw [e1] at SM2
  have BW := Lib.hid (Below.refl w7.heap.size w7)
  have BX8 := Lib.hid BX7.out
  clear e1
  go_wp2_with fail
  obtain ⟨gb, hgb2⟩ : ∃ gb, w.heap.size = gb := ⟨_, rfl⟩
  have HGB := Lib.hid hgb2
  rw [hgb2] at c0 BX7 BX8 ⊢
  clear hgb2 hgb
  go_region_held3 (fun w' => w'.cell? ⟨gb, 0, none⟩ = some (.slice ab bs.length cb)) (first | go_keep | assumption) (first
    | ((go_at_call 17; (with_reducible refine (SM1.out _ ?_).mono ?_); exact (Below.refl _ _).drew; rintro e w9 ⟨rfl, hb⟩; have H9 : Hid (Below w7.heap.size w7 w9) := Lib.hid (((Below.refl _ _).drew).trans hb); have BX9 := Lib.hid (blk_keep BX7.out H9.out); have c9 := cell_of BX9.out 0 rfl; clear hb))
    | ((go_at_call 17; (with_reducible refine (SM2.out _ H9.out).mono ?_); rintro e w10 ⟨rfl, hb⟩; have H10 := Lib.hid (keep_trans H9.out hb); have BX10 := Lib.hid (blk_keep BX9.out hb); have c10 := cell_of BX10.out 0 rfl; clear hb)))
  have B10 := Lib.hid (keep_trans B7.out H10.out)
  have HF0 := Lib.hid FZ.out
  by_cases hf : f = 0
  · obtain ⟨h1, h2⟩ := FZ.out hf
    have h3 : s'.left.length = 0 := by rw [h2]; rfl
    have u1 : (f != 0) = false := by rw [bne_eq_false_iff_eq]; exact hf
    have u2 : ((m : Int) == (bs.length : Int)) = true := by rw [beq_iff_eq]; omega
    have u2' : (m == bs.length) = true := by rw [beq_iff_eq]; exact h1
    have u3 : ((s'.left.length : Int) == 0) = true := by rw [beq_iff_eq]; omega
    have u3' : (s'.left.length == 0) = true := by rw [beq_iff_eq]; exact h3
    clear hf h1 h2 h3
    go_wp2_with fail
    go_ret
    exact ⟨rfl, by rw [HGB.out]; exact (by have := B10.out; rwa [HGB.out] at this)⟩
  · have u1 : (f != 0) = true := by rw [bne_iff_ne]; exact hf
    clear hf
    go_wp2_with fail
    go_ret
    exact ⟨rfl, by rw [HGB.out]; exact (by have := B10.out; rwa [HGB.out] at this)⟩
end Go.Proofs.Ytjkgncogpefnbaa
