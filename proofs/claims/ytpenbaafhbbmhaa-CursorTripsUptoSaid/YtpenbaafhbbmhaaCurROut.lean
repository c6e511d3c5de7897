/- The document's Out: Lay, Push, Flush: contracts over any writer of the document's. Conditions: numbers and what is laid within reach. -/
import Derived.Test.YtpenbaafhbbmhaaCurFlush
import Derived.Test.YtpenbaafhbbmhaaPipeRefGen
namespace Go.Proofs.Ytpenbaafhbbmhaa
open Go.RowKit Go.Shelf
set_option maxRecDepth 100000
set_option linter.unusedVariables false
set_option linter.unusedSimpArgs false

/-- the document's Out in block g -/
def ROutB (g : Nat) (wp : Value) (w : World) (pl : Nat) (er : Int) (i : Nat) (qv : Value) : Prop :=
  w.heap[g]? = some (.cells #[wp, qv, .int .i64 (pl : Nat), .int .i64 er, .int .i64 (i : Nat)] 71 (0, 0))
section
variable {w w' : World} {g pl i : Nat} {er : Int} {wp qv : Value}
theorem ROutB.c0 (h : ROutB g wp w pl er i qv) : w.cell? ⟨g, 0, none⟩ = some wp := cell_of h 0 rfl
theorem ROutB.c1 (h : ROutB g wp w pl er i qv) : w.cell? ⟨g, 1, none⟩ = some qv := cell_of h 1 rfl
theorem ROutB.c2 (h : ROutB g wp w pl er i qv) : w.cell? ⟨g, 2, none⟩ = some (.int .i64 (pl : Nat)) := cell_of h 2 rfl
theorem ROutB.c3 (h : ROutB g wp w pl er i qv) : w.cell? ⟨g, 3, none⟩ = some (.int .i64 er) := cell_of h 3 rfl
theorem ROutB.c4 (h : ROutB g wp w pl er i qv) : w.cell? ⟨g, 4, none⟩ = some (.int .i64 (i : Nat)) := cell_of h 4 rfl
theorem ROutB.free (h : ROutB g wp w pl er i qv) (k : Nat) : w.frozen? ⟨g, k, none⟩ = false := free_block h k
theorem ROutB.lt (h : ROutB g wp w pl er i qv) : g < w.heap.size := (Array.getElem?_eq_some_iff.1 h).1
theorem ROutB.turns {T : Nat → Prop} (h : ROutB g wp w pl er i qv) (ht : Turns T w w') (hs : ¬ T g) : ROutB g wp w' pl er i qv := ht.heap h hs
theorem ROutB.s1 (h : ROutB g wp w pl er i qv) (x : Value) : ROutB g wp (w.setCell ⟨g, 1, none⟩ x) pl er i x := set_block (i := 1) h _
theorem ROutB.s2 (h : ROutB g wp w pl er i qv) (k : Nat) : ROutB g wp (w.setCell ⟨g, 2, none⟩ (.int .i64 (k : Nat))) k er i qv := set_block (i := 2) h _
theorem ROutB.s3 (h : ROutB g wp w pl er i qv) (e : Int) : ROutB g wp (w.setCell ⟨g, 3, none⟩ (.int .i64 e)) pl e i qv := set_block (i := 3) h _
theorem ROutB.s4 (h : ROutB g wp w pl er i qv) (k : Nat) : ROutB g wp (w.setCell ⟨g, 4, none⟩ (.int .i64 (k : Nat))) pl er k qv := set_block (i := 4) h _
end
section
variable {τ : Type} {V : Wm τ} {v : Value} {Bw Rmx lo : Nat} {St : τ → (Nat → Prop) → World → Prop}
theorem rout_frm (WR : WrtL V v lo Bw Rmx St) (g : Nat) : Frm (ROutB g v) St lo g :=
  ⟨fun _ _ _ _ _ _ _ h ht hg => h.turns ht hg, WR.frame⟩
set_option maxHeartbeats 2000000 in
theorem rolay_any (g : Nat) (F : Frm (ROutB g v) St lo g) (c : COut τ) (S : Nat → Prop) (w : World) (ax : Option Addr) (nx cx : Nat) (xs : List UInt8) (hO : OObj (ROutB g v) St lo g c S w) (hx : Sl Bf w ax nx cx xs) (hb : c.q.length + nx ≤ 140737488355328) :
    Calls Try.prog 44 #[.pointer (some ⟨g, 0, none⟩), .slice ax nx cx] w fun r w' => r = .returned (.int .i64 c.er) ∧ OAns (ROutB g v) St lo g S w (layM xs c) w' := by
  have SAME := Lib.hid (OAns.same F hO (Below.refl _ w))
  obtain ⟨Sr, qv, h⟩ := hO
  have H := Lib.hid h
  have HX := Lib.hid hx
  have c3 := h.io.c3
  have c1 := h.io.c1
  have lg := h.io.lt
  have hlg := (h.inS g h.sg).1
  by_cases he : c.er = 0
  · have t1 : (c.er == 0) = true := by rw [beq_iff_eq]; exact he
    have LE := Lib.hid (show layM xs c = { c with q := c.q ++ xs } by unfold layM; rw [if_pos he])
    clear h hx he
    go_enter Try.func44, Try.ntmps44
    go_wp2_with (at_builtin; refine wpList_appQ rfl (.tmp 14) (.tmp 15) rfl lo qv c.q (by rfl) H.out.q ax nx cx xs (by rfl) HX.out hb (by omega) _ rfl ?_; intro v9 w9 h9 hg9 hv9; obtain ⟨a9, n9, c9, rfl, -⟩ := h9.slN; have Q9 := Lib.hid h9; have G9 := Lib.hid (Turns.of_grown (S := fun j => qv.ownBlock = some j) hg9 fun j e => e); have V9 := Lib.hid hv9; have I9 := Lib.hid (H.out.io.turns G9.out fun e => (H.out.hq g e).2.2 rfl); have d3 := I9.out.c3; have d1 := I9.out.c1; have f1 := I9.out.free 1; have k3 := (I9.out.s1 (.slice a9 n9 c9)).c3; clear h9 hg9 hv9)
    go_ret
    refine ⟨rfl, ?_⟩
    rw [LE.out]
    have hst9 := F.st _ _ _ _ _ H.out.st G9.out (fun j hj e => (H.out.hq j e).2.1 hj) (fun j e => (H.out.q.lt j e).1)
    have TT := setO (g := g) w9 1 (.slice a9 n9 c9)
    have hin := Q9.out.lt
    have hown : ∀ j, Value.ownBlock (.slice a9 n9 c9) = some j → (S j ∧ ¬ Sr j ∧ j ≠ g) ∨ w.heap.size ≤ j ∧ ¬ Sr j ∧ j ≠ g := fun j hj => by
      rcases V9.out with e | e
      · exact .inl (H.out.hq j (e ▸ hj))
      · rw [e] at hj
        injection hj with hj
        subst hj
        exact .inr ⟨Nat.le_refl _, fun q => by have := (H.out.inS _ (H.out.sr _ q)).2; omega, by omega⟩
    refine ⟨fun j => S j ∨ Value.ownBlock (.slice a9 n9 c9) = some j, ⟨Sr, .slice a9 n9 c9, { io := I9.out.s1 _, q := Q9.out.turns TT fun j hj e => ?_, st := F.st _ _ _ _ _ hst9 TT (fun j hj e => by have e : j = g := e; subst e; exact H.out.ng hj) (fun j e => by have e : j = g := e; omega), sr := fun j hj => .inl (H.out.sr j hj), sg := .inl H.out.sg, ng := H.out.ng, hq := fun j hj => ?_, inS := fun j hj => ?_ }⟩, fun j hj => ?_, ?_⟩
    · rcases hown j hj with q | q
      · exact q.2.2 e
      · exact q.2.2 e
    · rcases hown j hj with q | q
      · exact ⟨.inr hj, q.2⟩
      · exact ⟨.inr hj, q.2⟩
    · rcases hj with hj | hj
      · have := H.out.inS j hj
        have := G9.out.size
        simp; omega
      · have := hin j hj
        simp; omega
    · rcases hj with hj | hj
      · exact .inl hj
      · rcases hown j hj with q | q
        · exact .inl q.1
        · exact .inr q.1
    · exact (G9.out.mono (T := S) fun j _ e => (H.out.hq j e).1).trans TT fun j _ e => by have e : j = g := e; subst e; exact H.out.sg
  · have t1 : (c.er == 0) = false := by rw [beq_eq_false_iff_ne]; exact he
    have LE := Lib.hid (show layM xs c = c by unfold layM; rw [if_neg he])
    clear h hx he c1
    go_enter Try.func44, Try.ntmps44
    go_wp2_with fail
    go_ret
    rw [LE.out]
    exact ⟨rfl, SAME.out⟩
set_option maxHeartbeats 8000000 in
theorem ropush_any (WR : WrtL V v lo Bw Rmx St)
    (g : Nat) (c : COut τ) (S : Nat → Prop) (w : World) (M Bd : Nat) (hK : OOk V M Bd c) (hO : OObj (ROutB g v) St lo g c S w) (hM : M ≤ 1099511627776) (hMr : M ≤ Rmx) (hB : Bd < Bw) :
    Calls Try.prog 46 #[.pointer (some ⟨g, 0, none⟩)] w (PushPost (ROutB g v) St lo g (pushM V c) S w) := by
  obtain ⟨X, hX⟩ : ∃ X, pushM V c = X := ⟨_, rfl⟩
  rw [hX]
  have F := rout_frm WR g
  have SAME := Lib.hid (fun (W : World) (hW : Below w.heap.size w W) => OAns.same F hO hW)
  have OB := Lib.hid hO
  obtain ⟨Sr, qv, h⟩ := hO
  have H := Lib.hid h
  have HX := Lib.hid hX
  have HK := Lib.hid hK
  have c3 := h.io.c3
  have c1 := h.io.c1
  have lg := h.io.lt
  have hlg := (h.inS g h.sg).1
  obtain ⟨aq, cq, rfl, hsl⟩ := h.q.sl
  have QS := Lib.hid hsl
  have hql := hsl.le
  clear h hX hK hsl
  by_cases he : c.er ≠ 0
  · have XE := Lib.hid (show X = (0, c.er, c) by rw [← HX.out]; exact push_er he)
    have t1 : (c.er != 0) = true := by rw [bne_iff_ne]; exact he
    clear he c1
    go_enter Try.func46, Try.ntmps46
    go_wp2_with fail
    go_quiet (fail)
    go_wp2_with fail
    go_ret2
    rw [XE.out]
    exact ⟨rfl, SAME.out _ (keep_drewN (Below.refl _ _) _)⟩
  have he : c.er = 0 := by simpa using he
  have t1 : (c.er != 0) = false := by rw [bne_eq_false_iff_eq]; exact he
  obtain ⟨L, hL⟩ : ∃ L, c.q.length = L := ⟨_, rfl⟩
  rw [hL] at c1 hql QS
  by_cases hq : c.q = []
  · have XE := Lib.hid (show X = (0, 0, c) by rw [← HX.out]; exact push_nil he hq)
    have hL0 : L = 0 := by rw [← hL, hq]; rfl
    have t2 : ((L : Int) == 0) = true := by rw [hL0]; rfl
    have t2' : (L == 0) = true := by rw [hL0]; rfl
    clear he hq hL hL0
    go_enter Try.func46, Try.ntmps46
    go_wp2_with fail
    go_ret2
    rw [XE.out]
    exact ⟨rfl, SAME.out _ (Below.refl _ _)⟩
  have hL0 : L ≠ 0 := fun e => hq (List.length_eq_zero_iff.1 (by omega))
  have t2 : ((L : Int) == 0) = false := by rw [beq_eq_false_iff_ne]; omega
  have t2' : (L == 0) = false := by rw [beq_eq_false_iff_ne]; exact hL0
  obtain ⟨m, hm⟩ : ∃ m, min L 4096 = m := ⟨_, rfl⟩
  have hM3 : min (L : Int) 4096 = (m : Nat) := by omega
  have hM1 : (if (L : Int) < 4096 then (L : Int) else 4096) = (m : Nat) := by split <;> omega
  have hM2 : (if 4096 < (L : Int) then 4096 else (L : Int)) = (m : Nat) := by split <;> omega
  obtain ⟨p, hp⟩ : ∃ p, c.q.take 4096 = p := ⟨_, rfl⟩
  have hpm : c.q.take m = p := by
    rw [← hp, ← hm, ← hL]
    rcases Nat.le_total c.q.length 4096 with h | h
    · rw [Nat.min_eq_left h, List.take_of_length_le (Nat.le_refl _), List.take_of_length_le h]
    · rw [Nat.min_eq_right h]
  have hpl : p.length = m := by rw [← hpm, List.length_take, hL]; omega
  have hml : m ≤ L ∧ 1 ≤ m ∧ m ≤ 4096 := by omega
  have hcut := fun W : World => run_cutto eltB W aq L cq .i64 m (by omega)
  have PS := Lib.hid (hpm ▸ QS.out.upto m hml.1)
  have HP := Lib.hid hp
  have HPL := Lib.hid hpl
  have HQ := Lib.hid hq
  have HE := Lib.hid he
  have HL := Lib.hid hL
  clear he hq hL hp hpm hpl hm
  go_enter Try.func46, Try.ntmps46
  go_wp2_with fail
  go_quiet (fail)
  have B1 := Lib.hid (keep_drewN (Below.refl w.heap.size w) nq)
  have H1 := Lib.hid (H.out.turns F (T := fun _ => False) (.of_below B1.out) (fun _ _ e => e) (fun _ e => e.elim))
  have PS1 := Lib.hid (PS.out.drewN nq)
  generalize w.drewN nq = w1 at *
  have d3 := H1.out.io.c0
  clear c1 c3 hM1 hM2 hM3 t1 t2 t2' hcut
  go_upto_region 6 with (fail)
  have hgw := H1.out.io.lt
  have hne : g ≠ w1.heap.size := by omega
  have WRT := Lib.hid (fun (W : World) (hW : Below w1.heap.size w1 W) (a' : Option Addr) (n' c' : Nat) (hS : Sl Bf W a' n' c' p) (hn : n' = m) (hb : ∀ b o, a' = some ⟨b, o, none⟩ → 0 < n' → ¬ Sr b) =>
    WR.write c.t Sr W a' n' c' p (F.st _ _ (fun _ => False) _ _ H1.out.st (.of_below hW) (fun _ _ e => e) (fun _ e => e.elim)) (Nat.lt_of_le_of_lt HK.out.cnt hB) (by have := HK.out.room HE.out; have := HL.out; omega) (by omega) hS hb)
  go_cut [5, 6] (fun v5 v6 wx => ∃ S2 : Nat → Prop, v5 = .int .i64 (V.num c.t p) ∧ v6 = .int .i64 (V.er c.t p) ∧ St (V.nxt c.t p) S2 wx ∧ (∀ j, S2 j → Sr j ∨ w1.heap.size ≤ j) ∧ Turns Sr w1 wx)
  case first =>
    go_region_law (first
      | (refine step_appT eltTB rfl (.tmp 38) (.tmp 39) rfl w1.heap.size _ [] (by simp [Act.eval, Act.put]) (OwT.lit fB _ w1.heap.size _ #[] [] 0 rfl rfl (Nat.le_refl _) (Nat.zero_le _)) aq m cq p (by simp [Act.eval, Act.put]) (PS1.out.drew.keep ((Below.refl _ _).alloc (Nat.le_refl _) _)).toT (by unfold maxLen; simp; omega) (by simp; omega) (by simp) p rfl ?_; intro v9 w9 h9 hg9 hv9 hb9; obtain ⟨a9, n9, c9, rfl, z9⟩ := h9.slN; have B9 := Lib.hid (show Below w1.heap.size w1 w9 from ((keep_drewN (Below.refl w1.heap.size w1) 1).alloc (Nat.le_refl _) (.cells #[] 5)).trans hb9); have O9 := Lib.hid h9; have Z9 := Lib.hid z9; have d3' := (H1.out.io.turns (Turns.of_below (S := fun _ => False) B9.out) id).c0; clear h9 hg9 hv9 hb9 z9)
      | (go_simp; go_at_call 53; refine (WRT.out w9 B9.out a9 n9 c9 Z9.out (by have := Z9.out.len; have := HPL.out; omega) (fun b o e hn hb => by have h1 := (O9.out.lt b (by rw [e]; rfl)).1; have := (H1.out.inS b (H1.out.sr b hb)).2; omega)).mono ?_; rintro e w2 ⟨rfl, S2, hst2, hsub2, htu2⟩; have ST2 := Lib.hid hst2; have SUB2 := Lib.hid hsub2; have TU2 := Lib.hid htu2; clear hst2 hsub2 htu2))
    all_goals
      go_wp2_with fail
      go_meet
      exact ⟨S2, rfl, rfl, ST2.out, fun j hj => by rcases SUB2.out j hj with e | e; (exact .inl e); (exact .inr (Nat.le_trans B9.out.size e)), (Turns.of_below (S := Sr) B9.out).trans TU2.out fun _ _ e => e⟩
  case rest =>
    obtain ⟨w5, rfl⟩ : ∃ w6, w6 = wc := ⟨_, rfl⟩
    obtain ⟨S2, rfl, rfl, hst, hsub, htu⟩ := hcut
    have IO5 := Lib.hid (H1.out.io.turns htu H1.out.ng)
    have Q5 := Lib.hid (H1.out.q.turns htu fun j hj => (H1.out.hq j hj).2.1)
    rw [HL.out] at IO5 Q5
    have TU5 := Lib.hid ((Turns.of_below (S := S) B1.out).trans htu fun j _ e => H1.out.sr j e)
    have hz1 : w.heap.size ≤ w1.heap.size := B1.out.size
    have hz5 := htu.size
    have hin2 := WR.inS _ _ _ hst
    have MK := Lib.hid (fun (W : World) (c9 : COut τ) (qv9 : Value) (h1 : ROutB g v W c9.pl c9.er c9.idle qv9) (h2 : QuB W lo qv9 c9.q) (h3 : c9.t = V.nxt c.t p) (h4 : ∀ j, qv9.ownBlock = some j → Value.ownBlock (.slice aq L cq) = some j) (h5 : Turns (fun j => j = g) w5 W) =>
      show OAns (ROutB g v) St lo g S w c9 W from by
        have hq0 := H1.out.q.lt
        have hhq : ∀ j, qv9.ownBlock = some j → S j ∧ ¬ Sr j ∧ j ≠ g := fun j hj => H1.out.hq j (by have := h4 j hj; rw [HL.out]; exact this)
        have hng : ¬ S2 g := fun e => by rcases hsub g e with q | q; (exact H1.out.ng q); (omega)
        refine ⟨fun j => S2 j ∨ S j, ⟨S2, qv9, { io := h1, q := h2, st := by rw [h3]; exact F.st _ _ _ _ _ hst h5 (fun j hj e => by have e : j = g := e; subst e; exact hng hj) (fun j e => by have e : j = g := e; omega), sr := fun j hj => .inl hj, sg := .inr H1.out.sg, ng := hng, hq := fun j hj => ⟨.inr (hhq j hj).1, fun e => ?_, (hhq j hj).2.2⟩, inS := fun j hj => ?_ }⟩, fun j hj => ?_, TU5.out.trans h5 fun j _ e => by have e : j = g := e; subst e; exact H1.out.sg⟩
        · rcases hsub j e with q | q
          · exact (hhq j hj).2.1 q
          · have := (H1.out.inS j (hhq j hj).1).2; omega
        · have hsz := h5.size
          rcases hj with hj | hj
          · refine ⟨?_, by have := (hin2 j hj).2; omega⟩
            rcases hsub j hj with q | q
            · exact (H1.out.inS j (H1.out.sr j q)).1
            · omega
          · have := H1.out.inS j hj
            omega
        · rcases hj with hj | hj
          · rcases hsub j hj with q | q
            · exact .inl (H1.out.sr j q)
            · exact .inr (by omega)
          · exact .inl hj)
    obtain ⟨z, hz⟩ : ∃ z, V.num c.t p = z := ⟨_, rfl⟩
    obtain ⟨ee, hee⟩ : ∃ ee, V.er c.t p = ee := ⟨_, rfl⟩
    have HZ := Lib.hid hz
    have HEE := Lib.hid hee
    have hnb := V.numB c.t p (by have := HPL.out; omega)
    rw [hz] at hnb
    rw [hz, hee]
    have hlen := HK.out.len
    rw [HL.out] at hlen
    clear hz hee hst hsub htu hin2 d3 WRT H1 OB SAME
    by_cases hbad : z < 0 ∨ (m : Int) < z
    · have XE := Lib.hid (show X = (0, 34, { c with t := V.nxt c.t p, er := 34 }) by rw [← HX.out]; exact push_bad HE.out HQ.out HP.out (by rw [HZ.out, HPL.out]; exact hbad))
      have d3 := IO5.out.c3
      have f3 := IO5.out.free 3
      have I6 := Lib.hid (IO5.out.s3 34)
      have e3 := I6.out.c3
      have T6 := Lib.hid (setO (g := g) w5 3 (.int .i64 34))
      have FIN := Lib.hid (MK.out (w5.setCell ⟨g, 3, none⟩ (.int .i64 34)) { c with t := V.nxt c.t p, er := 34 } (.slice aq L cq) I6.out (Q5.out.turns T6.out fun j hj e => (H.out.hq j (by rw [HL.out]; exact hj)).2.2 e) rfl (fun j hj => hj) T6.out)
      rcases hbad with h | h
      case' inl =>
        have u1 : decide (z < 0) = true := decide_eq_true h
        clear h
      case' inr =>
        have u1 : decide (z < 0) = false := decide_eq_false (by omega)
        have u2 : decide (z > (m : Int)) = true := decide_eq_true h
        have u2' : decide ((m : Int) < z) = true := decide_eq_true h
        clear h
      all_goals
        go_wp2_with fail
        go_quiet (fail)
        go_wp2_with fail
        go_ret2
        rw [XE.out]
        exact ⟨rfl, FIN.out.keep F (keep_drewN (Below.refl _ _) _)⟩
    · obtain ⟨k, rfl⟩ : ∃ k : Nat, z = k := ⟨z.toNat, by omega⟩
      have hkm : k ≤ m := by omega
      have v1 : decide ((k : Int) < 0) = false := decide_eq_false (by omega)
      have v2 : decide ((k : Int) > (m : Int)) = false := decide_eq_false (by omega)
      have v2' : decide (m < k) = false := decide_eq_false (by omega)
      have hcutf := fun W : World => run_cutfrom eltB W aq L cq .i64 k (by omega)
      have r1 : IntKind.i64.wrap ((c.pl : Int) + (k : Int)) = (c.pl : Int) + (k : Int) := IntWalk.i64_in _ (by omega)
      obtain ⟨a6, ha6⟩ : ∃ a, adv aq cq k = a := ⟨_, rfl⟩
      obtain ⟨n6, hn6⟩ : ∃ n, L - k = n := ⟨_, rfl⟩
      obtain ⟨k6, hk6⟩ : ∃ n, cq - k = n := ⟨_, rfl⟩
      have Q6 := Lib.hid (show QuB w5 lo (.slice a6 n6 k6) (c.q.drop k) by have h0 := Q5.out; rw [← ha6, ← hn6, ← hk6]; exact h0.cut k (by omega))
      have OW6 := Lib.hid (show ∀ j, Value.ownBlock (.slice a6 n6 k6) = some j → Value.ownBlock (.slice aq L cq) = some j from fun j hj => by rw [← ha6] at hj; exact adv_own hj)
      rw [ha6, hn6, hk6] at hcutf
      have d1 := IO5.out.c1
      have f1 := IO5.out.free 1
      have I6 := Lib.hid (IO5.out.s1 (.slice a6 n6 k6))
      have T6 := Lib.hid (setO (g := g) w5 1 (.slice a6 n6 k6))
      have c62 := I6.out.c2
      have f62 := I6.out.free 2
      obtain ⟨w7, hw7⟩ : ∃ W, (w5.setCell ⟨g, 1, none⟩ (.slice a6 n6 k6)).setCell ⟨g, 2, none⟩ (.int .i64 ((c.pl : Int) + (k : Int))) = W := ⟨_, rfl⟩
      have I7 := Lib.hid (show ROutB g v w7 (c.pl + k) c.er c.idle (.slice a6 n6 k6) by rw [← hw7]; exact I6.out.s2 (c.pl + k))
      have T7 := Lib.hid (show Turns (fun j => j = g) w5 w7 by rw [← hw7]; exact T6.out.trans (setO (g := g) (w5.setCell ⟨g, 1, none⟩ (.slice a6 n6 k6)) 2 (.int .i64 ((c.pl : Int) + (k : Int)))) fun _ _ e => e)
      have NQ := Lib.hid (show ∀ j, Value.ownBlock (.slice a6 n6 k6) = some j → ¬ j = g from fun j hj e => (H.out.hq j (by rw [HL.out]; exact OW6.out j hj)).2.2 e)
      have hkp : k ≤ p.length := by rw [HPL.out]; exact hkm
      have HW7 := Lib.hid hw7
      clear hbad hnb ha6 hn6 hk6 hlen hw7
      go_upto_region 12 with (fail)
      rw [HW7.out]
      clear d1 f1 c62 f62 hcutf r1 v1 v2 v2'
      by_cases h0 : ee = 0
      · have t5 : (ee != 0) = false := by rw [bne_eq_false_iff_eq]; exact h0
        have hidl := HK.out.id2
        have E0 := Lib.hid (show V.er c.t p = 0 by rw [HEE.out]; exact h0)
        have r2 : IntKind.i64.wrap ((c.idle : Int) + 1) = (c.idle : Int) + 1 := IntWalk.i64_in _ (by omega)
        have c74 := I7.out.c4
        have f74 := I7.out.free 4
        have I8 := Lib.hid (show ROutB g v (w7.setCell ⟨g, 4, none⟩ (.int .i64 ((c.idle : Int) + 1))) (c.pl + k) c.er (c.idle + 1) (.slice a6 n6 k6) from I7.out.s4 (c.idle + 1))
        have T8 := Lib.hid (T7.out.trans (setO (g := g) w7 4 (.int .i64 ((c.idle : Int) + 1))) fun _ _ e => e)
        have c84 : (w7.setCell ⟨g, 4, none⟩ (.int .i64 ((c.idle : Int) + 1))).cell? ⟨g, 4, none⟩ = some (.int .i64 ((c.idle : Int) + 1)) := I8.out.c4
        have f84 := I8.out.free 4
        clear h0
        by_cases hk0 : 0 < k
        · have u4 : decide ((k : Int) > 0) = true := decide_eq_true (by omega)
          have u4' : decide (0 < k) = true := decide_eq_true hk0
          have hw0 : waitN c.idle (decide (0 < k)) = 0 := by rw [u4']; rfl
          have XE := Lib.hid (show X = (k, 0, ⟨V.nxt c.t p, c.q.drop k, c.pl + k, 0, 0⟩) by rw [← HX.out, push_go HE.out HQ.out HP.out HZ.out hkp E0.out (by rw [hw0]; decide), hw0])
          have I9 := Lib.hid (show ROutB g v ((w7.setCell ⟨g, 4, none⟩ (.int .i64 ((c.idle : Int) + 1))).setCell ⟨g, 4, none⟩ (.int .i64 0)) (c.pl + k) c.er 0 (.slice a6 n6 k6) from I8.out.s4 0)
          have T9 := Lib.hid (T8.out.trans (setO (g := g) (w7.setCell ⟨g, 4, none⟩ (.int .i64 ((c.idle : Int) + 1))) 4 (.int .i64 0)) fun _ _ e => e)
          have c94 : ((w7.setCell ⟨g, 4, none⟩ (.int .i64 ((c.idle : Int) + 1))).setCell ⟨g, 4, none⟩ (.int .i64 0)).cell? ⟨g, 4, none⟩ = some (.int .i64 0) := I9.out.c4
          have c93 : ((w7.setCell ⟨g, 4, none⟩ (.int .i64 ((c.idle : Int) + 1))).setCell ⟨g, 4, none⟩ (.int .i64 0)).cell? ⟨g, 3, none⟩ = some (.int .i64 0) := by rw [I9.out.c3, HE.out]
          have FIN := Lib.hid (MK.out _ ⟨V.nxt c.t p, c.q.drop k, c.pl + k, 0, 0⟩ (.slice a6 n6 k6) (by have := I9.out; rw [HE.out] at this; exact this) (Q6.out.turns T9.out NQ.out) rfl OW6.out T9.out)
          clear hk0 hw0
          go_wp2_with fail
          go_quiet (fail)
          go_wp2_with fail
          go_ret2
          rw [XE.out]
          exact ⟨rfl, FIN.out.keep F (keep_drewN (Below.refl _ _) _)⟩
        · have u4 : decide ((k : Int) > 0) = false := decide_eq_false (by omega)
          have u4' : decide (0 < k) = false := decide_eq_false hk0
          have hw0 : waitN c.idle (decide (0 < k)) = c.idle + 1 := by rw [u4']; rfl
          by_cases h16 : c.idle + 1 = 16
          · have XE := Lib.hid (show X = (k, 33, ⟨V.nxt c.t p, c.q.drop k, c.pl + k, 33, 16⟩) by rw [← HX.out]; exact push_idle HE.out HQ.out HP.out HZ.out hkp E0.out (by rw [hw0]; exact h16))
            have t6 : ((c.idle : Int) + 1 == 16) = true := by rw [beq_iff_eq]; omega
            have c83 := I8.out.c3
            have f83 := I8.out.free 3
            have I9 := Lib.hid (I8.out.s3 33)
            have T9 := Lib.hid (T8.out.trans (setO (g := g) (w7.setCell ⟨g, 4, none⟩ (.int .i64 ((c.idle : Int) + 1))) 3 (.int .i64 33)) fun _ _ e => e)
            have c93 := I9.out.c3
            have FIN := Lib.hid (MK.out _ ⟨V.nxt c.t p, c.q.drop k, c.pl + k, 33, 16⟩ (.slice a6 n6 k6) (by have := I9.out; rw [h16] at this; exact this) (Q6.out.turns T9.out NQ.out) rfl OW6.out T9.out)
            clear hk0 hw0 h16
            go_wp2_with fail
            go_quiet (fail)
            go_wp2_with fail
            go_ret2
            rw [XE.out]
            exact ⟨rfl, FIN.out.keep F (keep_drewN (Below.refl _ _) _)⟩
          · have XE := Lib.hid (show X = (k, 0, ⟨V.nxt c.t p, c.q.drop k, c.pl + k, 0, c.idle + 1⟩) by rw [← HX.out, push_go HE.out HQ.out HP.out HZ.out hkp E0.out (by rw [hw0]; exact h16), hw0])
            have t6 : ((c.idle : Int) + 1 == 16) = false := by rw [beq_eq_false_iff_ne]; omega
            have c83 : (w7.setCell ⟨g, 4, none⟩ (.int .i64 ((c.idle : Int) + 1))).cell? ⟨g, 3, none⟩ = some (.int .i64 0) := by rw [I8.out.c3, HE.out]
            have FIN := Lib.hid (MK.out _ ⟨V.nxt c.t p, c.q.drop k, c.pl + k, 0, c.idle + 1⟩ (.slice a6 n6 k6) (by have := I8.out; rw [HE.out] at this; exact this) (Q6.out.turns T8.out NQ.out) rfl OW6.out T8.out)
            clear hk0 hw0 h16
            go_wp2_with fail
            go_quiet (fail)
            go_wp2_with fail
            go_ret2
            rw [XE.out]
            exact ⟨rfl, FIN.out.keep F (keep_drewN (Below.refl _ _) _)⟩
      · have t5 : (ee != 0) = true := by rw [bne_iff_ne]; exact h0
        have XE := Lib.hid (show X = (k, ee, ⟨V.nxt c.t p, c.q.drop k, c.pl + k, ee, c.idle⟩) by rw [← HX.out]; exact push_err HE.out HQ.out HP.out HZ.out hkp HEE.out h0)
        have c73 := I7.out.c3
        have f73 := I7.out.free 3
        have I9 := Lib.hid (I7.out.s3 ee)
        have T9 := Lib.hid (T7.out.trans (setO (g := g) w7 3 (.int .i64 ee)) fun _ _ e => e)
        have FIN := Lib.hid (MK.out _ ⟨V.nxt c.t p, c.q.drop k, c.pl + k, ee, c.idle⟩ (.slice a6 n6 k6) I9.out (Q6.out.turns T9.out NQ.out) rfl OW6.out T9.out)
        clear h0
        go_wp2_with fail
        go_ret2
        rw [XE.out]
        exact ⟨rfl, FIN.out⟩
set_option maxHeartbeats 4000000 in
theorem roflush_any (WR : WrtL V v lo Bw Rmx St)
    (g : Nat) (c : COut τ) (S : Nat → Prop) (w : World) (M Bd : Nat) (hK : OOk V M Bd c) (hO : OObj (ROutB g v) St lo g c S w) (hM : M ≤ 1099511627776) (hMr : M ≤ Rmx) (hB : Bd + (M * 17 + 17) < Bw) :
    Calls Try.prog 47 #[.pointer (some ⟨g, 0, none⟩)] w (FlushPost (ROutB g v) St lo g (flushM V c) S w) := by
  obtain ⟨X, hX⟩ : ∃ X, flushM V c = X := ⟨_, rfl⟩
  rw [hX]
  have HX := Lib.hid hX
  have HK := Lib.hid hK
  have OB := Lib.hid hO
  obtain ⟨F0, hF0⟩ : ∃ F0, c.q.length * 17 + 17 = F0 := ⟨_, rfl⟩
  have hF0M : F0 ≤ M * 17 + 17 := by have := hK.len; omega
  have M0 := Lib.hid (show FlM V (ROutB g v) St lo g M Bd F0 X S w F0 c S w from
    { eq := by rw [← hX, ← hF0]; rfl, ob := hO, sub := fun j hj => .inl hj, tu := .refl _ _, ok := hK.mono (Nat.le_refl _) (by omega), fl := ⟨Nat.le_refl _, .inr (.inr (by omega))⟩ })
  clear hX hK hO hF0
  go_enter Try.func47, Try.ntmps47
  go_wp2_with fail
  go_loopg [] F0 (fun F wr => ∃ c' S', FlM V (ROutB g v) St lo g M Bd F0 X S w F c' S' wr)
  case atStart => exact ⟨_, _, M0.out⟩
  case round =>
    obtain ⟨c', S', hM2⟩ := hrel
    have MM := Lib.hid hM2
    obtain ⟨Sr, qv, hR⟩ := hM2.ob
    have c3 := hR.io.c3
    have c1 := hR.io.c1
    obtain ⟨aq, cq, rfl, -⟩ := hR.q.sl
    obtain ⟨L, hL⟩ : ∃ L, c'.q.length = L := ⟨_, rfl⟩
    rw [hL] at c1
    clear hM2 hR M0
    by_cases hq : c'.q = []
    · have hL0 : L = 0 := by rw [← hL, hq]; rfl
      have t1 : decide ((L : Int) > 0) = false := decide_eq_false (by omega)
      have t1' : decide (0 < L) = false := decide_eq_false (by omega)
      have XE := Lib.hid (show X = c' by rw [← MM.out.eq]; exact flush_end (.inl hq))
      clear hq hL hL0
      go_wp2_with fail
      go_ret
      rw [XE.out]
      exact ⟨rfl, S', MM.out.ob, MM.out.sub, MM.out.tu⟩
    · have hL0 : 0 < L := by rw [← hL]; exact List.length_pos_iff.2 hq
      have t1 : decide ((L : Int) > 0) = true := decide_eq_true (by omega)
      have t1' : decide (0 < L) = true := decide_eq_true hL0
      by_cases he : c'.er = 0
      · have t2 : (c'.er == 0) = true := by rw [beq_iff_eq]; exact he
        have hfl : F0 ≥ gk ∧ c'.q.length * 17 + 16 - c'.idle < gk := by
          have := MM.out.fl
          rcases this.2 with h | h | h
          · exact absurd h hq
          · exact absurd he h
          · exact ⟨this.1, h⟩
        obtain ⟨F, hF⟩ : ∃ F, gk = F + 1 := ⟨gk - 1, by omega⟩
        subst hF
        have EQ := Lib.hid (show flushG V F (pushM V c').2.2 = X by rw [← MM.out.eq, flush_go hq he])
        have PL := Lib.hid (fun h => push_less (V := V) he hq (MM.out.ok.id he) h)
        have OK2 := Lib.hid (MM.out.ok.push)
        have PU := Lib.hid (ropush_any WR g c' S' wr M (Bd + (F0 - (F + 1))) MM.out.ok MM.out.ob hM hMr (by omega))
        clear hq he hL
        go_wp2_with fail
        refine PU.out.mono ?_
        rintro r w2 ⟨rfl, S2, ho2, hs2, ht2⟩
        have GO := Lib.hid (show FlM V (ROutB g v) St lo g M Bd F0 X S w F (pushM V c').2.2 S2 w2 from
          { eq := EQ.out, ob := ho2, sub := fun j hj => by
              rcases hs2 j hj with e | e
              · exact MM.out.sub j e
              · exact .inr (Nat.le_trans MM.out.tu.size e)
            tu := MM.out.tu.trans ht2 fun j hj e => by
              rcases MM.out.sub j e with q | q
              · exact q
              · omega
            ok := OK2.out.mono (Nat.le_refl _) (by omega), fl := ⟨by omega, by
              by_cases h : (pushM V c').2.2.er = 0
              · have := (PL.out h).1
                exact .inr (.inr (by omega))
              · exact .inr (.inl h)⟩ })
        clear ho2 hs2 ht2 PU
        go_wp2_with fail
        go_roundg F
        case measure => omega
        case rel => exact ⟨_, _, GO.out⟩
      · have t2 : (c'.er == 0) = false := by rw [beq_eq_false_iff_ne]; exact he
        have XE := Lib.hid (show X = c' by rw [← MM.out.eq]; exact flush_end (.inr he))
        clear hq he hL
        go_wp2_with fail
        go_ret
        rw [XE.out]
        exact ⟨rfl, S', MM.out.ob, MM.out.sub, MM.out.tu⟩
end
end Go.Proofs.Ytpenbaafhbbmhaa
