/- The program's Out: Push, Flush: contracts over any writer. Conditions: numbers and what is laid within reach. -/
import Derived.Test.YtpenbaafhbbmhaaCurOut
import Derived.BigRegion
import Derived.Deep.DeepMust
namespace Go.Proofs.Ytpenbaafhbbmhaa
open Go.RowKit Go.Shelf
set_option maxRecDepth 100000
set_option linter.unusedVariables false
set_option linter.unusedSimpArgs false
attribute [local go_sem] Oper.semAt_some

/-- behind Push -/
def PushPost {τ : Type} (B : World → Nat → Int → Nat → Value → Prop) (St : τ → (Nat → Prop) → World → Prop) (lo g : Nat) (X : Nat × Int × COut τ) (S : Nat → Prop) (w : World) (r : Ending) (w' : World) : Prop :=
  r = .returned (.tuple #[.int .i64 (X.1 : Nat), .int .i64 X.2.1]) ∧ OAns B St lo g S w X.2.2 w'
theorem adv_own {a : Option Addr} {n n' c c' k j : Nat} (h : Value.ownBlock (.slice (adv a c k) n c') = some j) : Value.ownBlock (.slice a n' c) = some j := by
  rw [own_map] at h ⊢
  unfold adv at h
  split at h
  · exact h
  · cases a with
    | none => simp at h
    | some q =>
      obtain ⟨b, o, s⟩ := q
      have : ((⟨b, o, s⟩ : Addr).add k).block = b := by unfold Addr.add; split <;> rfl
      simpa [this] using h
section
variable {τ : Type} {V : Wm τ} {fn : FuncId} {v : Value} {lo2 Bw Rmx bd lo : Nat} {St : τ → (Nat → Prop) → World → Prop}
set_option maxHeartbeats 8000000 in
theorem opush_any (WR : Writer V fn v lo2 Bw Rmx St bd) (T : TypeId) (hme : ∀ w, (method 249 T v "Write").run Try.prog w = .ok (fn, v) w) (hen : ∀ (args : Array Value) (W : World), (callFunc fn args).run Try.prog W = .ok (.enter fn args) W)
    (g : Nat) (hbl : bd ≤ lo) (c : COut τ) (S : Nat → Prop) (w : World) (M Bd : Nat) (hK : OOk V M Bd c) (hO : OObj (OutB g (.iface T v)) St lo g c S w) (hM : M ≤ 1099511627776) (hMr : M ≤ Rmx) (hB : Bd < Bw) :
    Calls Try.prog 45 #[.pointer (some ⟨g, 0, none⟩)] w (PushPost (OutB g (.iface T v)) St lo g (pushM V c) S w) := by
  obtain ⟨X, hX⟩ : ∃ X, pushM V c = X := ⟨_, rfl⟩
  rw [hX]
  have F := out_frm WR T g hbl
  have SAME := Lib.hid (fun (W : World) (hW : Below w.heap.size w W) => OAns.same F hO hW)
  have OB := Lib.hid hO
  obtain ⟨Sr, qv, h⟩ := hO
  have H := Lib.hid h
  have HX := Lib.hid hX
  have HK := Lib.hid hK
  have c1 := h.io.c1
  have c4 := h.io.c4
  have lg := h.io.lt
  have hlg := (h.inS g h.sg).1
  obtain ⟨aq, cq, rfl, hsl⟩ := h.q.sl
  have QS := Lib.hid hsl
  have hql := hsl.le
  clear h hX hK hsl
  by_cases he : c.er ≠ 0
  · have XE := Lib.hid (show X = (0, c.er, c) by rw [← HX.out]; exact push_er he)
    have t1 : (c.er != 0) = true := by rw [bne_iff_ne]; exact he
    clear he c4
    go_enter Try.func45, Try.ntmps45
    go_wp2_with fail
    go_quiet (fail)
    go_wp2_with fail
    go_ret2
    rw [XE.out]
    exact ⟨rfl, SAME.out _ (keep_drewN (Below.refl _ _) _)⟩
  have he : c.er = 0 := by simpa using he
  have t1 : (c.er != 0) = false := by rw [bne_eq_false_iff_eq]; exact he
  obtain ⟨L, hL⟩ : ∃ L, c.q.length = L := ⟨_, rfl⟩
  rw [hL] at c4 hql QS
  by_cases hq : c.q = []
  · have XE := Lib.hid (show X = (0, c.er, c) by rw [← HX.out, he]; exact push_nil he hq)
    have hL0 : L = 0 := by rw [← hL, hq]; rfl
    have t2 : ((L : Int) == 0) = true := by rw [hL0]; rfl
    have t2' : (L == 0) = true := by rw [hL0]; rfl
    clear he hq hL hL0
    go_enter Try.func45, Try.ntmps45
    go_wp2_with fail
    go_quiet (fail)
    go_wp2_with fail
    go_ret2
    rw [XE.out]
    exact ⟨rfl, SAME.out _ (keep_drewN (Below.refl _ _) _)⟩
  have hL0 : L ≠ 0 := fun e => hq (List.length_eq_zero_iff.1 (by omega))
  have t2 : ((L : Int) == 0) = false := by rw [beq_eq_false_iff_ne]; omega
  have t2' : (L == 0) = false := by rw [beq_eq_false_iff_ne]; exact hL0
  obtain ⟨m, hm⟩ : ∃ m, min L 4096 = m := ⟨_, rfl⟩
  have hM3 : min (L : Int) 4096 = (m : Nat) := by omega
  have hM1 : (if (L : Int) < 4096 then (L : Int) else 4096) = (m : Nat) := by split <;> omega
  have hM2 : (if 4096 < (L : Int) then 4096 else (L : Int)) = (m : Nat) := by split <;> omega
  obtain ⟨p, hp⟩ : ∃ p, c.q.take 4096 = p := ⟨_, rfl⟩
  have hpm : c.q.take m = p := by
    rw [← hp, ← hm, ← hL]
    rcases Nat.le_total c.q.length 4096 with h | h
    · rw [Nat.min_eq_left h, List.take_of_length_le (Nat.le_refl _), List.take_of_length_le h]
    · rw [Nat.min_eq_right h]
  have hpl : p.length = m := by rw [← hpm, List.length_take, hL]; omega
  have hml : m ≤ L ∧ 1 ≤ m ∧ m ≤ 4096 := by omega
  have hcut := fun W : World => run_cutto eltB W aq L cq .i64 m (by omega)
  have PS := Lib.hid (hpm ▸ QS.out.upto m hml.1)
  have HP := Lib.hid hp
  have HPL := Lib.hid hpl
  have HQ := Lib.hid hq
  have HE := Lib.hid he
  have HL := Lib.hid hL
  clear he hq hL hp hpm hpl hm
  go_enter Try.func45, Try.ntmps45
  go_wp2_with fail
  go_quiet (fail)
  have B1 := Lib.hid (keep_drewN (Below.refl w.heap.size w) nq)
  have H1 := Lib.hid (H.out.turns F (T := fun _ => False) (.of_below B1.out) (fun _ _ e => e) (fun _ e => e.elim))
  have PS1 := Lib.hid (PS.out.drewN nq)
  generalize w.drewN nq = w1 at *
  have d3 := H1.out.io.c3
  clear c1 c4 hM1 hM2 hM3 t1 t2 t2' hcut
  go_upto_region 4 with (fail)
  have hgw := H1.out.io.lt
  have hne : g ≠ w1.heap.size := by omega
  have WRT := Lib.hid (fun (W : World) (hW : Below w1.heap.size w1 W) (a' : Option Addr) (n' c' : Nat) (hS : Sl Bf W a' n' c' p) (hn : n' = m) (hb : ∀ b o, a' = some ⟨b, o, none⟩ → 0 < n' → ¬ Sr b) =>
    WR.write c.t Sr W a' n' c' p (F.st _ _ (fun _ => False) _ _ H1.out.st (.of_below hW) (fun _ _ e => e) (fun _ e => e.elim)) (Nat.lt_of_le_of_lt HK.out.cnt hB) (by have := HK.out.room HE.out; have := HL.out; omega) (by omega) hS hb)
  go_cut [5, 6] (fun v5 v6 wx => ∃ S2 : Nat → Prop, v5 = .int .i64 (V.num c.t p) ∧ v6 = .int .i64 (V.er c.t p) ∧ St (V.nxt c.t p) S2 wx ∧ (∀ j, S2 j → Sr j ∨ w1.heap.size ≤ j) ∧ Turns Sr w1 wx)
  case first =>
    go_region_law (first
      | (refine step_appT eltTB rfl (.tmp 42) (.tmp 43) rfl w1.heap.size _ [] (by simp [Act.eval, Act.put]) (OwT.lit fB _ w1.heap.size _ #[] [] 0 rfl rfl (Nat.le_refl _) (Nat.zero_le _)) aq m cq p (by simp [Act.eval, Act.put]) (PS1.out.drew.keep ((Below.refl _ _).alloc (Nat.le_refl _) _)).toT (by unfold maxLen; simp; omega) (by simp; omega) (by simp) p rfl ?_; intro v9 w9 h9 hg9 hv9 hb9; obtain ⟨a9, n9, c9, rfl, z9⟩ := h9.slN; have B9 := Lib.hid (show Below w1.heap.size w1 w9 from ((keep_drewN (Below.refl w1.heap.size w1) 1).alloc (Nat.le_refl _) (.cells #[] 5)).trans hb9); have O9 := Lib.hid h9; have Z9 := Lib.hid z9; have d3' := (H1.out.io.turns (Turns.of_below (S := fun _ => False) B9.out) id).c3; clear h9 hg9 hv9 hb9 z9)
      | (go_simp; refine (WRT.out w9 B9.out a9 n9 c9 Z9.out (by have := Z9.out.len; have := HPL.out; omega) (fun b o e hn hb => by have h1 := (O9.out.lt b (by rw [e]; rfl)).1; have := (H1.out.inS b (H1.out.sr b hb)).2; omega)).mono ?_; rintro e w2 ⟨rfl, S2, hst2, hsub2, htu2⟩; have ST2 := Lib.hid hst2; have SUB2 := Lib.hid hsub2; have TU2 := Lib.hid htu2; clear hst2 hsub2 htu2))
    all_goals
      go_wp2_with fail
      go_meet
      exact ⟨S2, rfl, rfl, ST2.out, fun j hj => by rcases SUB2.out j hj with e | e; (exact .inl e); (exact .inr (Nat.le_trans B9.out.size e)), (Turns.of_below (S := Sr) B9.out).trans TU2.out fun _ _ e => e⟩
  case rest =>
    obtain ⟨w5, rfl⟩ : ∃ w6, w6 = wc := ⟨_, rfl⟩
    obtain ⟨S2, rfl, rfl, hst, hsub, htu⟩ := hcut
    have IO5 := Lib.hid (H1.out.io.turns htu H1.out.ng)
    have Q5 := Lib.hid (H1.out.q.turns htu fun j hj => (H1.out.hq j hj).2.1)
    rw [HL.out] at IO5 Q5
    have TU5 := Lib.hid ((Turns.of_below (S := S) B1.out).trans htu fun j _ e => H1.out.sr j e)
    have hz1 : w.heap.size ≤ w1.heap.size := B1.out.size
    have hz5 := htu.size
    have hin2 := WR.inS _ _ _ hst
    have MK := Lib.hid (fun (W : World) (c9 : COut τ) (qv9 : Value) (h1 : OutB g (.iface T v) W c9.pl c9.er c9.idle qv9) (h2 : QuB W lo qv9 c9.q) (h3 : c9.t = V.nxt c.t p) (h4 : ∀ j, qv9.ownBlock = some j → Value.ownBlock (.slice aq L cq) = some j) (h5 : Turns (fun j => j = g) w5 W) =>
      show OAns (OutB g (.iface T v)) St lo g S w c9 W from by
        have hq0 := H1.out.q.lt
        have hhq : ∀ j, qv9.ownBlock = some j → S j ∧ ¬ Sr j ∧ j ≠ g := fun j hj => H1.out.hq j (by have := h4 j hj; rw [HL.out]; exact this)
        have hng : ¬ S2 g := fun e => by rcases hsub g e with q | q; (exact H1.out.ng q); (omega)
        refine ⟨fun j => S2 j ∨ S j, ⟨S2, qv9, { io := h1, q := h2, st := by rw [h3]; exact F.st _ _ _ _ _ hst h5 (fun j hj e => by have e : j = g := e; subst e; exact hng hj) (fun j e => by have e : j = g := e; omega), sr := fun j hj => .inl hj, sg := .inr H1.out.sg, ng := hng, hq := fun j hj => ⟨.inr (hhq j hj).1, fun e => ?_, (hhq j hj).2.2⟩, inS := fun j hj => ?_ }⟩, fun j hj => ?_, TU5.out.trans h5 fun j _ e => by have e : j = g := e; subst e; exact H1.out.sg⟩
        · rcases hsub j e with q | q
          · exact (hhq j hj).2.1 q
          · have := (H1.out.inS j (hhq j hj).1).2; omega
        · have hsz := h5.size
          rcases hj with hj | hj
          · refine ⟨?_, by have := (hin2 j hj).2; omega⟩
            rcases hsub j hj with q | q
            · exact (H1.out.inS j (H1.out.sr j q)).1
            · omega
          · have := H1.out.inS j hj
            omega
        · rcases hj with hj | hj
          · rcases hsub j hj with q | q
            · exact .inl (H1.out.sr j q)
            · exact .inr (by omega)
          · exact .inl hj)
    obtain ⟨z, hz⟩ : ∃ z, V.num c.t p = z := ⟨_, rfl⟩
    obtain ⟨ee, hee⟩ : ∃ ee, V.er c.t p = ee := ⟨_, rfl⟩
    have HZ := Lib.hid hz
    have HEE := Lib.hid hee
    have hnb := V.numB c.t p (by have := HPL.out; omega)
    rw [hz] at hnb
    rw [hz, hee]
    have hQ5 := Q5.out
    have d4 := IO5.out.c4
    have f4 := IO5.out.free 4
    have hlen := HK.out.len
    rw [HL.out] at hlen
    clear hz hee hst hsub htu hin2 hQ5 d3 WRT H1 OB SAME
    by_cases hbad : z < 0 ∨ (m : Int) < z
    · have XE := Lib.hid (show X = (0, 34, { c with t := V.nxt c.t p, er := 34 }) by rw [← HX.out]; exact push_bad HE.out HQ.out HP.out (by rw [HZ.out, HPL.out]; exact hbad))
      have ND := Lib.hid (oends_any g (.iface T v) c.pl c.er 34 c.idle _ w5 IO5.out)
      rcases hbad with h | h
      case' inl =>
        have u1 : decide (z < 0) = true := decide_eq_true h
        clear h
      case' inr =>
        have u1 : decide (z < 0) = false := decide_eq_false (by omega)
        have u2 : decide (z > (m : Int)) = true := decide_eq_true h
        have u2' : decide ((m : Int) < z) = true := decide_eq_true h
        clear h
      all_goals
        go_wp2_with fail
        refine ND.out.mono ?_
        rintro r w6 ⟨rfl, h6, t6⟩
        have FIN := Lib.hid (MK.out w6 { c with t := V.nxt c.t p, er := 34 } (.slice aq L cq) h6 (Q5.out.turns t6 fun j hj e => (H.out.hq j (by rw [HL.out]; exact hj)).2.2 e) rfl (fun j hj => hj) t6)
        clear h6 t6
        go_wp2_with fail
        go_ret2
        rw [XE.out]
        exact ⟨rfl, FIN.out⟩
    · obtain ⟨k, rfl⟩ : ∃ k : Nat, z = k := ⟨z.toNat, by omega⟩
      have hkm : k ≤ m := by omega
      have v1 : decide ((k : Int) < 0) = false := decide_eq_false (by omega)
      have v2 : decide ((k : Int) > (m : Int)) = false := decide_eq_false (by omega)
      have v2' : decide (m < k) = false := decide_eq_false (by omega)
      have hcutf := fun W : World => run_cutfrom eltB W aq L cq .i64 k (by omega)
      have r1 : IntKind.i64.wrap ((c.pl : Int) + (k : Int)) = (c.pl : Int) + (k : Int) := IntWalk.i64_in _ (by omega)
      obtain ⟨a6, ha6⟩ : ∃ a, adv aq cq k = a := ⟨_, rfl⟩
      obtain ⟨n6, hn6⟩ : ∃ n, L - k = n := ⟨_, rfl⟩
      obtain ⟨k6, hk6⟩ : ∃ n, cq - k = n := ⟨_, rfl⟩
      have Q6 := Lib.hid (show QuB w5 lo (.slice a6 n6 k6) (c.q.drop k) by have h0 := Q5.out; rw [← ha6, ← hn6, ← hk6]; exact h0.cut k (by omega))
      have OW6 := Lib.hid (show ∀ j, Value.ownBlock (.slice a6 n6 k6) = some j → Value.ownBlock (.slice aq L cq) = some j from fun j hj => by rw [← ha6] at hj; exact adv_own hj)
      rw [ha6, hn6, hk6] at hcutf
      have I6 := Lib.hid (IO5.out.s4 (.slice a6 n6 k6))
      have T6 := Lib.hid (setO (g := g) w5 4 (.slice a6 n6 k6))
      have c60 := I6.out.c0
      have f60 := I6.out.free 0
      have I7 := Lib.hid (show OutB g (.iface T v) ((w5.setCell ⟨g, 4, none⟩ (.slice a6 n6 k6)).setCell ⟨g, 0, none⟩ (.int .i64 ((c.pl : Int) + (k : Int)))) (c.pl + k) c.er c.idle (.slice a6 n6 k6) from I6.out.s0 (c.pl + k))
      have T7 := Lib.hid (T6.out.trans (setO (g := g) (w5.setCell ⟨g, 4, none⟩ (.slice a6 n6 k6)) 0 (.int .i64 ((c.pl : Int) + (k : Int)))) fun _ _ e => e)
      have NQ := Lib.hid (show ∀ j, Value.ownBlock (.slice a6 n6 k6) = some j → ¬ j = g from fun j hj e => (H.out.hq j (by rw [HL.out]; exact OW6.out j hj)).2.2 e)
      have hkp : k ≤ p.length := by rw [HPL.out]; exact hkm
      clear hbad hnb ha6 hn6 hk6 hlen
      by_cases h0 : ee = 0
      · have t5 : (ee != 0) = false := by rw [bne_eq_false_iff_eq]; exact h0
        obtain ⟨bi, hbi⟩ : ∃ bi, decide (waitN c.idle (decide (0 < k)) = 16) = bi := ⟨_, rfl⟩
        have HBI := Lib.hid hbi
        have hidl := HK.out.id2
        have WT := Lib.hid (owaits_any g (.iface T v) (c.pl + k) c.er c.idle (.slice a6 n6 k6) (decide (0 < k)) _ I7.out (by omega))
        rw [hbi] at WT
        obtain ⟨mv, hmv⟩ : ∃ mv, decide (0 < k) = mv := ⟨_, rfl⟩
        have u4 : decide ((k : Int) > 0) = mv := by rw [← hmv, Bool.eq_iff_iff]; simp
        have u4' : decide (0 < k) = mv := hmv
        have HMV := Lib.hid hmv
        rw [hmv] at WT
        have E0 := Lib.hid (show V.er c.t p = 0 by rw [HEE.out]; exact h0)
        clear h0 hbi hmv
        go_wp2_with fail
        refine WT.out.mono ?_
        rintro r w8 ⟨rfl, h8, t8⟩
        have T8 := Lib.hid (T7.out.trans t8 fun _ _ e => e)
        have Q8 := Lib.hid (Q6.out.turns T8.out NQ.out)
        have I8 := Lib.hid h8
        have c81 := h8.c1
        have f81 := h8.free 1
        clear h8 t8 WT
        cases bi
        · have h16 : ¬ waitN c.idle (decide (0 < k)) = 16 := of_decide_eq_false HBI.out
          have XE := Lib.hid (show X = (k, 0, ⟨V.nxt c.t p, c.q.drop k, c.pl + k, 0, waitN c.idle (decide (0 < k))⟩) by rw [← HX.out]; exact push_go HE.out HQ.out HP.out HZ.out hkp E0.out h16)
          have FIN := Lib.hid (MK.out w8 ⟨V.nxt c.t p, c.q.drop k, c.pl + k, 0, waitN c.idle (decide (0 < k))⟩ (.slice a6 n6 k6) (by have := I8.out; rw [HE.out] at this; rw [HMV.out]; exact this) Q8.out rfl OW6.out T8.out)
          have c81' : w8.cell? ⟨g, 1, none⟩ = some (.int .i64 0) := by rw [c81, HE.out]
          clear h16 c81
          go_wp2_with fail
          go_quiet (fail)
          go_wp2_with fail
          go_ret2
          rw [XE.out]
          exact ⟨rfl, FIN.out.keep F (keep_drewN (Below.refl _ _) _)⟩
        · have h16 : waitN c.idle (decide (0 < k)) = 16 := of_decide_eq_true HBI.out
          have XE := Lib.hid (show X = (k, 33, ⟨V.nxt c.t p, c.q.drop k, c.pl + k, 33, 16⟩) by rw [← HX.out]; exact push_idle HE.out HQ.out HP.out HZ.out hkp E0.out h16)
          have I9 := Lib.hid (I8.out.s1 33)
          have T9 := Lib.hid (T8.out.trans (setO (g := g) w8 1 (.int .i64 33)) fun _ _ e => e)
          have FIN := Lib.hid (MK.out (w8.setCell ⟨g, 1, none⟩ (.int .i64 33)) ⟨V.nxt c.t p, c.q.drop k, c.pl + k, 33, 16⟩ (.slice a6 n6 k6) (by have := I9.out; rw [← HMV.out, h16] at this; exact this) (Q6.out.turns T9.out NQ.out) rfl OW6.out T9.out)
          have c91 := I9.out.c1
          clear h16
          go_wp2_with fail
          go_quiet (fail)
          go_wp2_with fail
          go_ret2
          rw [XE.out]
          exact ⟨rfl, FIN.out.keep F (keep_drewN (Below.refl _ _) _)⟩
      · have t5 : (ee != 0) = true := by rw [bne_iff_ne]; exact h0
        have XE := Lib.hid (show X = (k, ee, ⟨V.nxt c.t p, c.q.drop k, c.pl + k, ee, c.idle⟩) by rw [← HX.out]; exact push_err HE.out HQ.out HP.out HZ.out hkp HEE.out h0)
        have I9 := Lib.hid (I7.out.s1 ee)
        have c71 := I7.out.c1
        have f71 := I7.out.free 1
        have T9 := Lib.hid (T7.out.trans (setO (g := g) _ 1 (.int .i64 ee)) fun _ _ e => e)
        have FIN := Lib.hid (MK.out _ ⟨V.nxt c.t p, c.q.drop k, c.pl + k, ee, c.idle⟩ (.slice a6 n6 k6) I9.out (Q6.out.turns T9.out NQ.out) rfl OW6.out T9.out)
        have c91 := I9.out.c1
        clear h0
        go_wp2_with fail
        go_quiet (fail)
        go_wp2_with fail
        go_ret2
        rw [XE.out]
        exact ⟨rfl, FIN.out.keep F (keep_drewN (Below.refl _ _) _)⟩
end
end Go.Proofs.Ytpenbaafhbbmhaa
