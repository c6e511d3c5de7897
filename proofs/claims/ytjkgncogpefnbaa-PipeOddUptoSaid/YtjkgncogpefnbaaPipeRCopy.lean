/- The document's Copy over any reader and writer of its own: contract. Conditions: numbers within reach, the size from 1 to 4096. -/
import Derived.Test.YtjkgncogpefnbaaPipeRefGen
import Derived.Test.YtjkgncogpefnbaaPipeCopy
import Derived.Deep.LoopGhost
import Derived.Deep.DeepCutAuto
namespace Go.Proofs.Ytjkgncogpefnbaa
open Go.RowKit
set_option linter.unusedVariables false
set_option linter.unusedSimpArgs false

set_option maxRecDepth 100000 in
theorem rcopy_wrong (gx gr : Nat) (size : Int) (w : World) (hs : size < 1 ∨ 4096 < size) :
    Calls Try.prog 18 #[.pointer (some ⟨gx, 0, none⟩), .pointer (some ⟨gr, 0, none⟩), .int .i64 size] w fun e w' => e = .returned (.tuple #[.int .i64 0, .int .i64 1]) ∧ w' = w := by
  by_cases h : size < 1
  · have t1 : decide (size < 1) = true := decide_eq_true h
    clear h hs
    go_enter Try.func18, Try.ntmps18
    go_wp2_with fail
    go_ret2
    exact ⟨rfl, rfl⟩
  · have t1 : decide (size < 1) = false := decide_eq_false h
    have t2 : decide (size > 4096) = true := decide_eq_true (by omega)
    have t2' : decide (4096 < size) = true := decide_eq_true (by omega)
    clear h hs
    go_enter Try.func18, Try.ntmps18
    go_wp2_with fail
    go_ret2
    exact ⟨rfl, rfl⟩
/-- in the midst of it -/
structure RcM {σ τ : Type} (St : σ → (Nat → Prop) → World → Prop) (Wt : τ → (Nat → Prop) → World → Prop) (w : World) (S0 U0 : Nat → Prop) (s : σ) (S : Nat → Prop) (t : τ) (U : Nat → Prop) (W : World) : Prop where
  st : St s S W
  wr : Wt t U W
  dis : ∀ j, S j → ¬ U j
  sO : ∀ j, S j → S0 j ∨ w.heap.size ≤ j
  uO : ∀ j, U j → U0 j ∨ w.heap.size ≤ j
  tu : Turns (fun j => S0 j ∨ U0 j) w W
section
variable {σ τ : Type} {R : Rm σ} {V : Wm τ} {vr vw : Value} {lo Br Bw Rmx : Nat} {St : σ → (Nat → Prop) → World → Prop} {Wt : τ → (Nat → Prop) → World → Prop} {w W W1 Wv : World} {S0 U0 S S' U U' : Nat → Prop} {s s' : σ} {t t' : τ} {gp : Nat}
/-- behind Read -/
theorem RcM.rd (h : RcM St Wt w S0 U0 s S t U W) (RD : RdrL R vr lo Br St) (WR : WrtL V vw lo Bw Rmx Wt) (hlo : lo ≤ w.heap.size) (hgp : W.heap.size ≤ gp) (ht : Turns (fun j => S j ∨ j = gp) W W1) (hs : St s' S' W1) (hS : ∀ j, S' j → S j ∨ W.heap.size ≤ j) : RcM St Wt w S0 U0 s' S' t U W1 :=
  { st := hs
    wr := WR.frame _ _ _ _ _ h.wr ht (fun j hj e => by
      rcases e with e | e
      · exact h.dis j e hj
      · have := (WR.inS _ _ _ h.wr j hj).2; omega) (fun j e => by
      rcases e with e | e
      · exact (RD.inS _ _ _ h.st j e).1
      · have := h.tu.size; omega)
    dis := fun j hj hu => by
      rcases hS j hj with e | e
      · exact h.dis j e hu
      · have := (WR.inS _ _ _ h.wr j hu).2; omega
    sO := fun j hj => by
      rcases hS j hj with e | e
      · exact h.sO j e
      · exact .inr (Nat.le_trans h.tu.size e)
    uO := h.uO
    tu := h.tu.trans ht fun j hj e => by
      rcases e with e | e
      · rcases h.sO j e with e2 | e2
        · exact .inl e2
        · omega
      · have := h.tu.size; omega }
/-- behind writing -/
theorem RcM.wrt (h : RcM St Wt w S0 U0 s S t U W) (RD : RdrL R vr lo Br St) (WR : WrtL V vw lo Bw Rmx Wt) (ht : Turns U W W1) (hs : Wt t' U' W1) (hU : ∀ j, U' j → U j ∨ W.heap.size ≤ j) : RcM St Wt w S0 U0 s S t' U' W1 :=
  { st := RD.frame _ _ _ _ _ h.st ht (fun j hj e => h.dis j hj e) (fun j e => (WR.inS _ _ _ h.wr j e).1)
    wr := hs
    dis := fun j hj hu => by
      rcases hU j hu with e | e
      · exact h.dis j hj e
      · have := (RD.inS _ _ _ h.st j hj).2; omega
    sO := h.sO
    uO := fun j hj => by
      rcases hU j hj with e | e
      · exact h.uO j e
      · exact .inr (Nat.le_trans h.tu.size e)
    tu := h.tu.trans ht fun j hj e => by
      rcases h.uO j e with e2 | e2
      · exact .inr e2
      · omega }
theorem RcM.fin {X : Nat × Int × σ × τ} {tk : Nat} {f : Int} (h : RcM St Wt w S0 U0 s S t U W) (hX : X = (tk, f, s, t)) : CopyPost St Wt X S0 U0 w (.returned (.tuple #[.int .i64 (tk : Nat), .int .i64 f])) W := by
  subst hX
  exact ⟨rfl, S, U, h.st, h.wr, h.dis, h.sO, h.uO, h.tu⟩
set_option maxRecDepth 100000 in
set_option maxHeartbeats 4000000 in
theorem rcopy_any {gr gx : Nat} (RD : RdrL R (.pointer (some ⟨gr, 0, none⟩)) lo Br St) (WR : WrtL V (.pointer (some ⟨gx, 0, none⟩)) lo Bw Rmx Wt)
    (size : Nat) (w : World) (hs1 : 1 ≤ size) (hs2 : size ≤ 4096) (hlo : lo ≤ w.heap.size) (s0 : σ) (t0 : τ) (hS : St s0 S0 w) (hU : Wt t0 U0 w) (hd : ∀ j, S0 j → ¬ U0 j)
    (hcr : R.cnt s0 + (R.mu s0 * 17 + 17) < Br) (hcw : V.cnt t0 + R.vol s0 size * 17 + (R.mu s0 * 17 + 17) * 17 < Bw) (hrm : V.room t0 + R.vol s0 size ≤ Rmx) (hvb : R.vol s0 size ≤ 4611686018427387904) :
    Calls Try.prog 18 #[.pointer (some ⟨gx, 0, none⟩), .pointer (some ⟨gr, 0, none⟩), .int .i64 (size : Nat)] w (CopyPost St Wt (cpyT R V size s0 t0) S0 U0 w) := by
  obtain ⟨X, hX⟩ : ∃ X, cpyT R V size s0 t0 = X := ⟨_, rfl⟩
  rw [hX]
  have M0 := Lib.hid (show RcM St Wt w S0 U0 s0 S0 t0 U0 w from ⟨hS, hU, hd, fun j h => .inl h, fun j h => .inl h, .refl _ _⟩)
  have N0 := Lib.hid (show CpN R V size Bw Rmx X s0 0 t0 0 0 (R.mu s0 * 17 + 17) from ⟨hX, by omega, by omega, by omega, hcw, hrm, by omega⟩)
  have t1 : decide ((size : Int) < 1) = false := decide_eq_false (by omega)
  have t2 : decide ((size : Int) > 4096) = false := decide_eq_false (by omega)
  have t2' : decide (4096 < size) = false := decide_eq_false (by omega)
  have HCR := Lib.hid hcr
  clear hX hS hU hd hcr hcw hrm hvb
  go_enter Try.func18, Try.ntmps18
  go_wp2_with fail
  clear t1 t2 t2'
  go_loopg [8, 9, 10] (R.mu s0 * 17 + 17) (fun n x8 x9 x10 wr => ∃ (s : σ) (t : τ) (S U : Nat → Prop) (tk gv wt : Nat), x8 = .int .i64 (tk : Nat) ∧ x9 = .int .i64 (gv : Nat) ∧ x10 = .int .i64 (wt : Nat) ∧ RcM St Wt w S0 U0 s S t U wr ∧ CpN R V size Bw Rmx X s gv t tk wt n ∧ R.cnt s + n < Br)
  case atStart => exact ⟨s0, t0, S0, U0, 0, 0, 0, rfl, rfl, rfl, M0.out, N0.out, HCR.out⟩
  case round =>
    obtain ⟨s, t, S, U, tk, gv, wt, rfl, rfl, rfl, hm, hn, hcb⟩ := hrel
    have M := Lib.hid hm
    have N := Lib.hid hn
    have HCB := Lib.hid hcb
    have hgl := hn.gl
    have hwl := hn.wl
    clear hm hn hcb M0 N0 HCR
    go_wp2_with (refine wpList_mkT eltTB rfl (.tmp 30) (.tmp 30) rfl 0 size size (Nat.le_refl _) (by rfl) (by rfl) rfl rfl (by omega) (by simp only [maxLen]; omega) (Nat.zero_le _) ?_; intro x0 wp hp _ _ hbp; have HP := Lib.hid (show wp.heap[wr.heap.size]? = some (.cells ((List.replicate size x0).map Bf).toArray 5 (0, 0)) by rw [← flat_fB]; exact hp); have HBP := Lib.hid hbp; clear hp hbp)
    have hgp : ¬ S wr.heap.size := fun h => by have := (RD.inS _ _ _ M.out.st _ h).2; omega
    have hlw : lo ≤ wr.heap.size := Nat.le_trans hlo M.out.tu.size
    have hnb := R.numB s size (by omega)
    have hlayN := R.layN s size
    have hlayE := R.layE s size
    have STP := Lib.hid (RD.frame _ _ (fun _ => False) _ _ M.out.st (.of_below HBP.out) (fun _ _ e => e) (fun _ e => e.elim))
    refine (RD.read s S wp wr.heap.size size size (List.replicate size x0) STP.out (by have := HCB.out; have := N.out.fl; omega) (by simp) (Nat.le_refl _) (by omega) HP.out hgp hlw).mono ?_
    rintro e W1 ⟨rfl, S1, hst1, hS1, hT1, hr1⟩
    have T1 := (Turns.of_below (S := fun j => S j ∨ j = wr.heap.size) HBP.out).trans hT1 fun _ _ e => e
    have M1 := Lib.hid (M.out.rd RD WR hlo (Nat.le_refl _) T1 hst1 fun j hj => by
      rcases hS1 j hj with e | e
      · exact .inl e
      · exact .inr (Nat.le_trans HBP.out.size e))
    have R1 := Lib.hid hr1
    have hgpl : wr.heap.size < wp.heap.size := (Array.getElem?_eq_some_iff.1 HP.out).1
    have NGP := Lib.hid (show ¬ U wr.heap.size from fun h => by have := (WR.inS _ _ _ M.out.wr _ h).2; omega)
    obtain ⟨F, hF⟩ : ∃ F, gk = F + 1 := ⟨gk - 1, by have := N.out.fl; omega⟩
    subst hF
    obtain ⟨z, hz⟩ : ∃ z, R.num s size = z := ⟨_, rfl⟩
    obtain ⟨ee, hee⟩ : ∃ ee, R.er s size = ee := ⟨_, rfl⟩
    have HZ := Lib.hid hz
    have HEE := Lib.hid hee
    have EQ := Lib.hid N.out.eq
    rw [hz] at hnb hlayE
    rw [hz, hee]
    clear hz hee T1 hst1 hS1 hT1 hr1 STP HP HBP hgp
    by_cases hbad : z < 0 ∨ (size : Int) < z
    · have FIN := Lib.hid (M1.out.fin (X := X) (tk := tk) (f := 34) (by rw [← EQ.out]; exact cpy_bad (by rw [HZ.out]; exact hbad)))
      rcases hbad with h | h
      · have t1 : decide (z < 0) = true := decide_eq_true h
        clear h
        go_wp2_with fail
        go_ret2
        exact FIN.out
      · have t1 : decide (z < 0) = false := decide_eq_false (by omega)
        have t2 : decide (z > (size : Int)) = true := decide_eq_true h
        have t2' : decide ((size : Int) < z) = true := decide_eq_true h
        clear h
        go_wp2_with fail
        go_ret2
        exact FIN.out
    · obtain ⟨k, rfl⟩ : ∃ k : Nat, z = k := ⟨z.toNat, by omega⟩
      have hks : k ≤ size := by omega
      have hlk : (R.lay s size).length = k := by have := hlayE (by omega) (by omega); omega
      obtain ⟨P, hP⟩ : ∃ P, R.lay s size = P := ⟨_, rfl⟩
      rw [hP] at R1 hlk
      have HPP := Lib.hid hP
      have R1S := Lib.hid R1.out
      have HLK := Lib.hid hlk
      have NB := Lib.hid (show ¬ (R.num s size < 0 ∨ (size : Int) < R.num s size) by rw [HZ.out]; omega)
      have LTK := Lib.hid (show (R.lay s size).take (R.num s size).toNat = P by rw [hP, HZ.out, Int.toNat_natCast]; exact List.take_of_length_le (by omega))
      have hcut := fun W : World => run_cutto eltB W (some ⟨wr.heap.size, 0, none⟩) size size .i64 k hks
      have SL1 := Lib.hid (show Sl Bf W1 (some ⟨wr.heap.size, 0, none⟩) k size P from Sl.of_row _ _ _ R1.out hlk hks (by rw [List.map_append, List.take_left' (by rw [List.length_map]; exact hlk)]))
      have t1 : decide ((k : Int) < 0) = false := decide_eq_false (by omega)
      have t2 : decide ((k : Int) > (size : Int)) = false := decide_eq_false (by omega)
      have t2' : decide (size < k) = false := decide_eq_false (by omega)
      have r1 : IntKind.i64.wrap ((gv : Int) + 1) = (gv : Int) + 1 := IntWalk.i64_in _ (by omega)
      obtain ⟨gp, hgpe⟩ : ∃ gp, wr.heap.size = gp := ⟨_, rfl⟩
      rw [hgpe] at NGP SL1 hcut R1S ⊢
      clear hP hlk hlayN hlayE hbad hnb hgpe hgpl R1 hlw
      obtain ⟨gv2, hgv2⟩ : ∃ g2 : Nat, (if 0 < k ∨ ee ≠ 0 then 0 else gv + 1) = g2 := ⟨_, rfl⟩
      have HGV := Lib.hid hgv2
      obtain ⟨bb, hbb⟩ : ∃ bb, decide (0 < k ∨ ee ≠ 0) = bb := ⟨_, rfl⟩
      have HBB := Lib.hid hbb
      clear hgv2 hbb
      go_upto_region 11 with (fail)
      go_cut [53] (fun b wx => b = .bool bb ∧ wx = W1)
      case first =>
        by_cases hk0 : 0 < k
        · have u1 : decide ((k : Int) > 0) = true := decide_eq_true (by omega)
          have u1' : decide (0 < k) = true := decide_eq_true hk0
          have e1 : bb = true := by rw [← HBB.out]; exact decide_eq_true (.inl hk0)
          have E1 := Lib.hid e1
          clear hk0 e1
          go_wp2_with fail
          go_meet
          exact ⟨by rw [E1.out], rfl⟩
        · have u1 : decide ((k : Int) > 0) = false := decide_eq_false (by omega)
          have u1' : decide (0 < k) = false := decide_eq_false hk0
          by_cases he0 : ee = 0
          · have u2 : (ee != 0) = false := by rw [bne_eq_false_iff_eq]; exact he0
            have e1 : bb = false := by rw [← HBB.out]; exact decide_eq_false (fun h => by rcases h with h | h; (exact hk0 h); (exact h he0))
            have E1 := Lib.hid e1
            clear hk0 e1 he0
            go_wp2_with fail
            go_meet
            exact ⟨by rw [E1.out], rfl⟩
          · have u2 : (ee != 0) = true := by rw [bne_iff_ne]; exact he0
            have e1 : bb = true := by rw [← HBB.out]; exact decide_eq_true (.inr he0)
            have E1 := Lib.hid e1
            clear hk0 e1 he0
            go_wp2_with fail
            go_meet
            exact ⟨by rw [E1.out], rfl⟩
      obtain ⟨rfl, hcw⟩ := hcut
      replace hcw := hcw.symm
      subst hcw
      go_upto_if 53 with (fail)
      go_cut [9] (fun b wx => b = .int .i64 (gv2 : Nat) ∧ wx = W1)
      case first =>
        cases bb with
        | true =>
          have e2 := Lib.hid (show gv2 = 0 by rw [← HGV.out]; exact if_pos (of_decide_eq_true HBB.out))
          go_wp2_with fail
          go_meet
          exact ⟨by rw [e2.out]; rfl, rfl⟩
        | false =>
          have e2 := Lib.hid (show gv2 = gv + 1 by rw [← HGV.out]; exact if_neg (of_decide_eq_false HBB.out))
          go_wp2_with fail
          go_meet
          exact ⟨by rw [e2.out]; rfl, rfl⟩
      obtain ⟨rfl, hcw⟩ := hcut
      replace hcw := hcw.symm
      subst hcw
      clear t1 t2 t2' r1
      obtain ⟨Y, hY⟩ : ∃ Y, hndT V t P wt tk = Y := ⟨_, rfl⟩
      have HY := Lib.hid hY
      clear hY
      have hvS := R.volS s size (by rw [HZ.out]; omega) (by rw [HZ.out]; omega)
      rw [HZ.out, Int.toNat_natCast] at hvS
      have hNcn := N.out.cn
      have hNrm := N.out.rm
      have hNtb := N.out.tb
      have XEQ := Lib.hid (show ∀ (tk' : Nat) (f : Int) (t' : τ) (wt' : Nat), Y = (tk', f, t', wt') → (0 < k ∨ ee ≠ 0) → X = if f ≠ 0 then (tk', f, R.nxt s size, t') else if ee = 31 then (tk', 0, R.nxt s size, t') else if ee ≠ 0 then (tk', ee, R.nxt s size, t') else cpy R V size F (R.nxt s size) t' 0 wt' tk' from fun tk' f t' wt' hy hm => by
        have := cpy_hand (R := R) (V := V) (F := F) (gv := gv) (tk := tk) (wt := wt) (t := t) NB.out (by rw [HZ.out, HEE.out]; rcases hm with h | h; (exact .inl (by omega)); (exact .inr h)) (show _ = (tk', f, t', wt') by rw [LTK.out, HY.out, hy])
        rw [EQ.out, HEE.out] at this
        exact this)
      go_wp2_with fail
      go_loopg [8, 10, 11] (k * 17 + 17 - wt) (fun n y8 y10 y11 wr => ∃ (a : Option Addr) (m cc tk1 wt1 : Nat) (ys : List UInt8) (t1 : τ) (U1 : Nat → Prop), y8 = .int .i64 (tk1 : Nat) ∧ y10 = .int .i64 (wt1 : Nat) ∧ y11 = .slice a m cc ∧ Sl Bf wr a m cc ys ∧ (∀ b o, a = some ⟨b, o, none⟩ → b = gp) ∧
        RcM St Wt w S0 U0 (R.nxt s size) S1 t1 U1 wr ∧ ¬ U1 gp ∧ wt1 ≤ 15 ∧ hnd V n t1 ys wt1 tk1 = Y ∧ ys.length * 17 + 16 - wt1 < n ∧ V.cnt t1 + n ≤ V.cnt t + (k * 17 + 17) ∧ V.room t1 + ys.length ≤ V.room t + k ∧ tk1 + ys.length = tk + k ∧ ys.length ≤ k ∧ gp < wr.heap.size)
      case atStart => exact ⟨_, k, size, tk, wt, P, t, U, rfl, rfl, rfl, SL1.out, fun b o e => by injection e with e; injection e with e; exact e.symm, M1.out, NGP.out, hwl, by rw [← HY.out]; unfold hndT; rw [HLK.out], by rw [HLK.out]; omega, by omega, by rw [HLK.out]; exact Nat.le_refl _, by rw [HLK.out], by rw [HLK.out]; exact Nat.le_refl _, by have := (Array.getElem?_eq_some_iff.1 R1S.out).1; omega⟩
      case round =>
        obtain ⟨a, m, cc, tk1, wt1, ys, t1, U1, rfl, rfl, rfl, hsl, hag, hM, hng, hw15, hE, hF2, hc1, hr1, htk, hyk, hgl2⟩ := hrel
        obtain rfl : ys.length = m := hsl.len
        obtain ⟨F2, rfl⟩ : ∃ F', gk = F' + 1 := ⟨gk - 1, by omega⟩
        have SL := Lib.hid hsl
        have AG := Lib.hid hag
        have MM := Lib.hid hM
        have NG := Lib.hid hng
        have E1 := Lib.hid hE
        have TK := Lib.hid htk
        clear hsl hag hM hng hE htk M1 SL1
        by_cases h0 : ys.length = 0
        · have h00 : ys = [] := List.eq_nil_of_length_eq_zero h0
          have HE := Lib.hid (show Y = (tk1, 0, t1, wt1) by rw [← E1.out, h00]; exact hnd_nil)
          have t1f : decide ((ys.length : Int) > 0) = false := decide_eq_false (by omega)
          have t1f' : decide (0 < ys.length) = false := decide_eq_false (by omega)
          clear h00
          by_cases h31 : ee = 31
          · have FIN := Lib.hid (MM.out.fin (X := X) (tk := tk1) (f := 0) (by rw [XEQ.out _ _ _ _ HE.out (.inr (by omega)), if_neg (by decide), if_pos h31]))
            have u1 : (ee == 31) = true := by rw [beq_iff_eq]; exact h31
            clear h31
            go_wp2_with fail
            go_ret2
            exact FIN.out
          · have u1 : (ee == 31) = false := by rw [beq_eq_false_iff_ne]; exact h31
            by_cases he0 : ee = 0
            · have u2 : (ee != 0) = false := by rw [bne_eq_false_iff_eq]; exact he0
              by_cases hk0 : 0 < k
              · have G2 := Lib.hid (show gv2 = 0 by rw [← HGV.out]; exact if_pos (.inl hk0))
                have u3 : ((gv2 : Int) == 16) = false := by rw [beq_eq_false_iff_ne, G2.out]; decide
                have u3' : (gv2 == 16) = false := by rw [beq_eq_false_iff_ne, G2.out]; decide
                have XE := Lib.hid (show cpy R V size F (R.nxt s size) t1 0 wt1 tk1 = X by rw [XEQ.out _ _ _ _ HE.out (.inl hk0), if_neg (by decide), if_neg h31, if_neg (by rw [he0]; decide)])
                have hmu := R.muL s size (by rw [HEE.out]; exact he0) (by rw [HZ.out]; omega) (by rw [HZ.out]; omega)
                have hfl := N.out.fl
                have hcS := R.cntS s size
                clear he0 h31
                go_wp2_with fail
                go_roundg F
                case measure => omega
                case rel => exact ⟨R.nxt s size, t1, S1, U1, tk1, 0, wt1, rfl, by rw [G2.out], rfl, MM.out, ⟨XE.out, by omega, by omega, hw15, by omega, by omega, by have := TK.out; omega⟩, by have := HCB.out; omega⟩
              · have hk00 : k = 0 := by omega
                have G2 := Lib.hid (show gv2 = gv + 1 by rw [← HGV.out]; exact if_neg (fun h => by rcases h with h | h; (exact hk0 h); (exact h he0)))
                have hP0 : P = [] := List.eq_nil_of_length_eq_zero (by rw [HLK.out]; exact hk00)
                have hYY : Y = (tk, 0, t, wt) := by rw [← HY.out, hP0]; exact hndT_nil (by omega)
                have hYE := HE.out.symm.trans hYY
                simp only [Prod.mk.injEq] at hYE
                obtain ⟨y1, -, y2, y3⟩ := hYE
                have NM : ¬ (0 < R.num s size ∨ R.er s size ≠ 0) := fun h => by
                  rw [HZ.out, HEE.out] at h
                  rcases h with h | h
                  · omega
                  · exact h he0
                have hmu := R.muE s size (by rw [HEE.out]; exact he0)
                have hfl := N.out.fl
                have hcS := R.cntS s size
                by_cases h16 : gv + 1 = 16
                · have FIN := Lib.hid (MM.out.fin (X := X) (tk := tk1) (f := 33) (by rw [← EQ.out, cpy_idle NB.out NM h16, y1, y2]))
                  have u3 : ((gv2 : Int) == 16) = true := by rw [beq_iff_eq, G2.out]; omega
                  have u3' : (gv2 == 16) = true := by rw [beq_iff_eq, G2.out]; exact h16
                  clear he0 h31 hk00 hP0 hYY y1 y2 y3 NM h16
                  go_wp2_with fail
                  go_ret2
                  exact FIN.out
                · have XE := Lib.hid (show cpy R V size F (R.nxt s size) t1 (gv + 1) wt1 tk1 = X by rw [← EQ.out, cpy_wait NB.out NM h16, y1, y2, y3])
                  have u3 : ((gv2 : Int) == 16) = false := by rw [beq_eq_false_iff_ne, G2.out]; omega
                  have u3' : (gv2 == 16) = false := by rw [beq_eq_false_iff_ne, G2.out]; exact h16
                  clear he0 h31 hP0 hYY y1 y2 y3 NM
                  go_wp2_with fail
                  go_roundg F
                  case measure => omega
                  case rel => exact ⟨R.nxt s size, t1, S1, U1, tk1, gv + 1, wt1, rfl, by rw [G2.out], rfl, MM.out, ⟨XE.out, by omega, by omega, hw15, by omega, by omega, by have := TK.out; omega⟩, by have := HCB.out; omega⟩
            · have u2 : (ee != 0) = true := by rw [bne_iff_ne]; exact he0
              have FIN := Lib.hid (MM.out.fin (X := X) (tk := tk1) (f := ee) (by rw [XEQ.out _ _ _ _ HE.out (.inr he0), if_neg (by decide), if_neg h31, if_pos he0]))
              clear h31 he0
              go_wp2_with fail
              go_ret2
              exact FIN.out
        · have hne : ys ≠ [] := fun e => h0 (by rw [e]; rfl)
          have NE := Lib.hid hne
          have hk0 : 0 < k := by omega
          have t1f : decide ((ys.length : Int) > 0) = true := decide_eq_true (by omega)
          have t1f' : decide (0 < ys.length) = true := decide_eq_true (by omega)
          have hnb := V.numB t1 ys (by omega)
          have hcS := V.cntS t1 ys
          have hrS := V.roomS t1 ys
          have WC := Lib.hid (WR.write t1 U1 wr a ys.length cc ys MM.out.wr (by omega) (by omega) (by omega) SL.out (fun b o e hn h => NG.out (AG.out b o e ▸ h)))
          clear hne
          go_wp2_with fail
          refine WC.out.mono ?_
          rintro e W2 ⟨rfl, U2, hwt2, hU2, hT2⟩
          have M2 := Lib.hid (MM.out.wrt RD WR hT2 hwt2 hU2)
          have NG2 := Lib.hid (show ¬ U2 gp from fun h => by
            rcases hU2 gp h with h | h
            · exact NG.out h
            · omega)
          have SL2 := Lib.hid (SL.out.turns hT2 fun b o e hn h => NG.out (AG.out b o e ▸ h))
          have hz2 : wr.heap.size ≤ W2.heap.size := hT2.size
          obtain ⟨z2, hz2e⟩ : ∃ z, V.num t1 ys = z := ⟨_, rfl⟩
          obtain ⟨e2, he2e⟩ : ∃ z, V.er t1 ys = z := ⟨_, rfl⟩
          have Z2 := Lib.hid hz2e
          have E2 := Lib.hid he2e
          rw [hz2e] at hnb hrS
          rw [hz2e, he2e]
          clear hwt2 hU2 hT2 hz2e he2e WC
          by_cases hbad : z2 < 0 ∨ (ys.length : Int) < z2
          · have FIN := Lib.hid (M2.out.fin (X := X) (tk := tk1) (f := 34) (by
              rw [XEQ.out tk1 34 (V.nxt t1 ys) wt1 (by rw [← E1.out]; exact hnd_bad NE.out (by rw [Z2.out]; exact hbad)) (.inl hk0), if_pos (by decide)]))
            rcases hbad with h | h
            · have u1 : decide (z2 < 0) = true := decide_eq_true h
              clear h
              go_wp2_with fail
              go_ret2
              exact FIN.out
            · have u1 : decide (z2 < 0) = false := decide_eq_false (by omega)
              have u2 : decide (z2 > (ys.length : Int)) = true := decide_eq_true h
              have u2' : decide ((ys.length : Int) < z2) = true := decide_eq_true h
              clear h
              go_wp2_with fail
              go_ret2
              exact FIN.out
          · obtain ⟨j, rfl⟩ : ∃ j : Nat, z2 = j := ⟨z2.toNat, by omega⟩
            have hjy : j ≤ ys.length := by omega
            have NB2 := Lib.hid (show ¬ (V.num t1 ys < 0 ∨ (ys.length : Int) < V.num t1 ys) by rw [Z2.out]; omega)
            have NT := Lib.hid (show (V.num t1 ys).toNat = j by rw [Z2.out, Int.toNat_natCast])
            have hrS2 : V.room (V.nxt t1 ys) ≤ V.room t1 + j := by have := hrS (by omega) (by omega); rwa [Int.toNat_natCast] at this
            have htk := TK.out
            have u1 : decide ((j : Int) < 0) = false := decide_eq_false (by omega)
            have u2 : decide ((j : Int) > (ys.length : Int)) = false := decide_eq_false (by omega)
            have u2' : decide (ys.length < j) = false := decide_eq_false (by omega)
            have r1 : IntKind.i64.wrap ((tk1 : Int) + (j : Int)) = ((tk1 + j : Nat) : Int) := by rw [IntWalk.i64_in _ (by omega)]; omega
            have r2 : IntKind.i64.wrap ((wt1 : Int) + 1) = ((wt1 + 1 : Nat) : Int) := by rw [IntWalk.i64_in _ (by omega)]; omega
            have hcutf := fun W : World => run_cutfrom eltB W a ys.length cc .i64 j hjy
            have SL3 := Lib.hid (SL2.out.from j hjy)
            have AG3 := Lib.hid (show ∀ b o, adv a cc j = some ⟨b, o, none⟩ → b = gp from fun b o e => by
              cases a with
              | none => unfold adv at e; split at e <;> simp at e
              | some ad =>
                obtain ⟨b0, o0, e0, _⟩ := SL2.out.lt (by omega)
                have hb0 : b = b0 := by
                  unfold adv at e
                  split at e
                  · rw [e0] at e; injection e with e; injection e with e; exact e.symm
                  · rw [e0] at e; simp only [Option.map_some, Addr.add] at e; split at e <;> (injection e with e; injection e with e; exact e.symm)
                subst hb0
                exact AG.out b o0 e0)
            clear hrS hnb htk hbad
            by_cases he0 : e2 = 0
            · have u3 : (e2 != 0) = false := by rw [bne_eq_false_iff_eq]; exact he0
              have HE0 := Lib.hid (show V.er t1 ys = 0 by rw [E2.out]; exact he0)
              clear he0
              by_cases hj0 : 0 < j
              · have u4 : decide ((j : Int) > 0) = true := decide_eq_true (by omega)
                have u4' : decide (0 < j) = true := decide_eq_true hj0
                have WN := Lib.hid (show waitN wt1 (decide (0 < V.num t1 ys)) = 0 by rw [Z2.out, decide_eq_true (by omega : (0 : Int) < (j : Nat))]; rfl)
                have YE := Lib.hid (show hnd V F2 (V.nxt t1 ys) (ys.drop j) 0 (tk1 + j) = Y by rw [← E1.out, hnd_go NE.out NB2.out HE0.out (by rw [WN.out]; decide), WN.out, NT.out])
                go_wp2_with fail
                go_roundg F2
                case measure => omega
                case rel => exact ⟨_, _, _, tk1 + j, 0, ys.drop j, _, U2, by go_num, rfl, rfl, SL3.out, AG3.out, M2.out, NG2.out, by omega, YE.out, by rw [List.length_drop]; omega, by omega, by rw [List.length_drop]; omega, by rw [List.length_drop]; have := TK.out; omega, by rw [List.length_drop]; omega, by omega⟩
              · have hj00 : j = 0 := by omega
                have u4 : decide ((j : Int) > 0) = false := decide_eq_false (by omega)
                have u4' : decide (0 < j) = false := decide_eq_false hj0
                have WN := Lib.hid (show waitN wt1 (decide (0 < V.num t1 ys)) = wt1 + 1 by rw [Z2.out, decide_eq_false (by omega : ¬ (0 : Int) < (j : Nat))]; rfl)
                by_cases h16 : wt1 + 1 = 16
                · have FIN := Lib.hid (M2.out.fin (X := X) (tk := tk1 + j) (f := 33) (by
                    rw [XEQ.out (tk1 + j) 33 (V.nxt t1 ys) 16 (by rw [← E1.out, hnd_idle NE.out NB2.out HE0.out (by rw [WN.out]; exact h16), NT.out]) (.inl hk0), if_pos (by decide)]))
                  have u5 : (((wt1 + 1 : Nat) : Int) == 16) = true := by rw [beq_iff_eq]; omega
                  have u5' : ((wt1 : Int) + 1 == 16) = true := by rw [beq_iff_eq]; omega
                  clear h16 hj00
                  go_wp2_with fail
                  go_ret2
                  exact FIN.out
                · have YE := Lib.hid (show hnd V F2 (V.nxt t1 ys) (ys.drop j) (wt1 + 1) (tk1 + j) = Y by rw [← E1.out, hnd_go NE.out NB2.out HE0.out (by rw [WN.out]; exact h16), WN.out, NT.out])
                  have u5 : (((wt1 + 1 : Nat) : Int) == 16) = false := by rw [beq_eq_false_iff_ne]; omega
                  have u5' : ((wt1 : Int) + 1 == 16) = false := by rw [beq_eq_false_iff_ne]; omega
                  clear hj00
                  go_wp2_with fail
                  go_roundg F2
                  case measure => omega
                  case rel => exact ⟨_, _, _, tk1 + j, wt1 + 1, ys.drop j, _, U2, by go_num, by go_num, rfl, SL3.out, AG3.out, M2.out, NG2.out, by omega, YE.out, by rw [List.length_drop]; omega, by omega, by rw [List.length_drop]; omega, by rw [List.length_drop]; have := TK.out; omega, by rw [List.length_drop]; omega, by omega⟩
            · have u3 : (e2 != 0) = true := by rw [bne_iff_ne]; exact he0
              have FIN := Lib.hid (M2.out.fin (X := X) (tk := tk1 + j) (f := e2) (by
                rw [XEQ.out (tk1 + j) e2 (V.nxt t1 ys) wt1 (by rw [← E1.out, hnd_err NE.out NB2.out (by rw [E2.out]; exact he0), NT.out, E2.out]) (.inl hk0), if_pos he0]))
              clear he0
              go_wp2_with fail
              go_ret2
              exact FIN.out
end
end Go.Proofs.Ytjkgncogpefnbaa
