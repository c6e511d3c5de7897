/- The document's In: Bytes, Byte, End: contracts over any reader of the document's. Conditions: numbers and what is taken within reach. -/
import Derived.Test.YtpenbaafhbbmhaaCurRWant
namespace Go.Proofs.Ytpenbaafhbbmhaa
open Go.RowKit Go.Shelf
set_option maxRecDepth 100000
set_option linter.unusedVariables false
set_option linter.unusedSimpArgs false

section
variable {σ : Type} {R : Rm σ} {v : Value} {lo Br : Nat} {St : σ → (Nat → Prop) → World → Prop}
/-- the document's In in memory: block g, its reader, the row held; its blocks are S -/
structure RIn (St : σ → (Nat → Prop) → World → Prop) (lo g : Nat) (most : Int) (v : Value) (c : CIn σ) (S Sr : Nat → Prop) (hv : Value) (w : World) : Prop where
  io : RInB w g most v c.pl c.er c.idle hv
  ow : OwT fB w lo 5 hv c.held
  st : St c.s Sr w
  sr : ∀ j, Sr j → S j
  sg : S g
  ng : ¬ Sr g
  hs : ∀ j, hv.ownBlock = some j → S j ∧ ¬ Sr j ∧ j ≠ g
  inS : ∀ j, S j → lo ≤ j ∧ j < w.heap.size
def RObj (St : σ → (Nat → Prop) → World → Prop) (lo g : Nat) (most : Int) (v : Value) (c : CIn σ) (S : Nat → Prop) (w : World) : Prop := ∃ Sr hv, RIn St lo g most v c S Sr hv w
/-- behind an answer of the document's In -/
def RAns (St : σ → (Nat → Prop) → World → Prop) (lo g : Nat) (most : Int) (v : Value) (S : Nat → Prop) (w : World) (c' : CIn σ) (w' : World) : Prop :=
  ∃ S', RObj St lo g most v c' S' w' ∧ (∀ j, S' j → S j ∨ w.heap.size ≤ j) ∧ Turns S w w'
variable {g : Nat} {most : Int} {c c2 c3 : CIn σ} {S S2 T : Nat → Prop} {w w1 w2 : World}
theorem RIn.turns (RL : RdrL R v lo Br St) {Sr : Nat → Prop} {hv : Value} (h : RIn St lo g most v c S Sr hv w) (ht : Turns T w w1) (hd : ∀ j, S j → ¬ T j) (hl : ∀ j, T j → lo ≤ j) : RIn St lo g most v c S Sr hv w1 where
  io := h.io.turns ht (hd g h.sg)
  ow := h.ow.turns ht fun j hj => hd j (h.hs j hj).1
  st := RL.frame _ _ _ _ _ h.st ht (fun j hj => hd j (h.sr j hj)) hl
  sr := h.sr
  sg := h.sg
  ng := h.ng
  hs := h.hs
  inS j hj := ⟨(h.inS j hj).1, Nat.lt_of_lt_of_le (h.inS j hj).2 ht.size⟩
theorem RObj.turns (RL : RdrL R v lo Br St) (h : RObj St lo g most v c S w) (ht : Turns T w w1) (hd : ∀ j, S j → ¬ T j) (hl : ∀ j, T j → lo ≤ j) : RObj St lo g most v c S w1 := by
  obtain ⟨Sr, hv, h⟩ := h
  exact ⟨Sr, hv, h.turns RL ht hd hl⟩
theorem RObj.inS (h : RObj St lo g most v c S w) : ∀ j, S j → lo ≤ j ∧ j < w.heap.size := by
  obtain ⟨Sr, hv, h⟩ := h
  exact h.inS
theorem RAns.same (RL : RdrL R v lo Br St) (h : RObj St lo g most v c S w) (hb : Below w.heap.size w w1) : RAns St lo g most v S w c w1 :=
  ⟨S, h.turns RL (T := fun _ => False) (.of_below hb) (fun _ _ e => e) (fun _ e => e.elim), fun j hj => .inl hj, .of_below hb⟩
theorem RAns.step (h : RAns St lo g most v S w c2 w1) (k : ∀ S2, RObj St lo g most v c2 S2 w1 → RAns St lo g most v S2 w1 c3 w2) : RAns St lo g most v S w c3 w2 := by
  obtain ⟨S2, h1, h2, h3⟩ := h
  obtain ⟨S3, k1, k2, k3⟩ := k S2 h1
  refine ⟨S3, k1, fun j hj => ?_, h3.trans k3 fun j hj e => ?_⟩
  · rcases k2 j hj with e | e
    · exact h2 j e
    · exact .inr (Nat.le_trans h3.size e)
  · rcases h2 j e with q | q
    · exact q
    · omega
/-- behind Bytes of the document's -/
def RBytesPost (St : σ → (Nat → Prop) → World → Prop) (X : List UInt8 × Int × CIn σ) (S : Nat → Prop) (lo g : Nat) (most : Int) (v : Value) (w : World) (r : Ending) (w' : World) : Prop :=
  ∃ bv, r = .returned (.tuple #[bv, .int .i64 X.2.1]) ∧ OwT fB w' lo 5 bv X.1 ∧ RAns St lo g most v S w X.2.2 w'
set_option maxHeartbeats 4000000 in
theorem rbytes_any (RL : RdrL R v lo Br St) (hmu : ∀ s n, R.mu (R.nxt s n) ≤ R.mu s)
    (g : Nat) (most n : Int) (c : CIn σ) (S : Nat → Prop) (w : World) (P : σ → Prop) (hP : ∀ s n, P s → P (R.nxt s n)) (Bd : Nat) (hO : Okay R P most Bd c) (hI : RObj St lo g most v c S w)
    (hn : -9223372036854775808 ≤ n ∧ n ≤ 9223372036854775807) (hm : most ≤ 9223372036854775807) (hc : Bd + 32 ≤ Br) (hcap : 0 ≤ n → n ≤ most → Caps R c.s n.toNat) :
    Calls Try.prog 35 #[.pointer (some ⟨g, 0, none⟩), .int .i64 n] w (RBytesPost St (bytesM R most n c) S lo g most v w) := by
  obtain ⟨X, hX⟩ : ∃ X, bytesM R most n c = X := ⟨_, rfl⟩
  rw [hX]
  have SAME := Lib.hid (fun (W : World) (hW : Below w.heap.size w W) => RAns.same RL hI hW)
  obtain ⟨Sr, hv, hR⟩ := hI
  have c1 := hR.io.c1
  have c2 := hR.io.c2
  have c3 := hR.io.c3
  have RI := Lib.hid hR
  have HX := Lib.hid hX
  have HO := Lib.hid hO
  have hpl := hO.pl
  have lg := hR.io.lt
  have hlg := (hR.inS g hR.sg).1
  have hlw : lo ≤ w.heap.size := by omega
  clear hX hR hO
  by_cases he : c.er ≠ 0
  · have XE := Lib.hid (show X = ([], c.er, c) by rw [← HX.out]; exact bytes_er he)
    have t1 : (c.er != 0) = true := by rw [bne_iff_ne]; exact he
    clear he hcap c1 c2
    go_enter Try.func35, Try.ntmps35
    go_wp2_with fail
    go_quiet (fail)
    go_wp2_with fail
    go_ret2
    rw [XE.out]
    exact ⟨.slice none 0 0, rfl, OwT.nil _ _ _ _, SAME.out _ (keep_drewN (Below.refl _ _) _)⟩
  have he : c.er = 0 := by simpa using he
  have t1 : (c.er != 0) = false := by rw [bne_eq_false_iff_eq]; exact he
  by_cases hneg : n < 0
  · have XE := Lib.hid (show X = ([], 1, c) by rw [← HX.out]; exact bytes_neg he hneg)
    have t2 : decide (n < 0) = true := decide_eq_true hneg
    clear he hcap c1 c2
    go_enter Try.func35, Try.ntmps35
    go_wp2_with fail
    go_ret2
    rw [XE.out]
    exact ⟨.slice none 0 0, rfl, OwT.nil _ _ _ _, SAME.out _ (Below.refl _ _)⟩
  have t2 : decide (n < 0) = false := decide_eq_false hneg
  have r1 : IntKind.i64.wrap (most - (c.pl : Int)) = most - (c.pl : Int) := IntWalk.i64_in _ (by omega)
  by_cases hmo : most - c.pl < n
  · have XE := Lib.hid (show X = ([], 42, { c with er := 42 }) by rw [← HX.out]; exact bytes_most he hneg hmo)
    have t3 : decide (n > most - (c.pl : Int)) = true := decide_eq_true hmo
    have t3' : decide (most - (c.pl : Int) < n) = true := decide_eq_true hmo
    clear he hcap hneg hmo
    go_enter Try.func35, Try.ntmps35
    go_wp2_with fail
    go_quiet (fail)
    have RI1 := Lib.hid (RI.out.turns RL (T := fun _ => False) (.of_below (keep_drewN (Below.refl w.heap.size w) nq)) (fun _ _ e => e) (fun _ e => e.elim))
    have B1 := Lib.hid (keep_drewN (Below.refl w.heap.size w) nq)
    generalize w.drewN nq = w1 at *
    have d3 := RI1.out.io.c3
    have f3 := RI1.out.io.free 3
    have e3 := (RI1.out.io.s3 42).c3
    have FIN := Lib.hid (show RIn St lo g most v { c with er := 42 } S Sr hv (w1.setCell ⟨g, 3, none⟩ (.int .i64 42)) from
      { io := RI1.out.io.s3 42, ow := RI1.out.ow.turns (setT w1 3 _) fun j hj e => (RI1.out.hs j hj).2.2 e, st := RL.frame _ _ _ _ _ RI1.out.st (setT w1 3 _) (fun j hj e => by have e : j = g := e; subst e; exact RI1.out.ng hj) (fun j e => by have e : j = g := e; omega)
        sr := RI1.out.sr, sg := RI1.out.sg, ng := RI1.out.ng, hs := RI1.out.hs, inS := fun j hj => by have := RI1.out.inS j hj; simpa using this })
    have TT := Lib.hid ((Turns.of_below (S := S) B1.out).trans (setT w1 3 (.int .i64 42)) fun j _ e => by have e : j = g := e; subst e; exact RI1.out.sg)
    clear c1 c2 c3
    go_wp2_with fail
    go_quiet (fail)
    go_wp2_with fail
    go_ret2
    rw [XE.out]
    exact ⟨.slice none 0 0, rfl, OwT.nil _ _ _ _, S, ⟨Sr, hv, FIN.out.turns RL (T := fun _ => False) (.of_below (keep_drewN (Below.refl _ _) _)) (fun _ _ e => e) (fun _ e => e.elim)⟩, fun j hj => .inl hj, TT.out.drewN _⟩
  have t3 : decide (n > most - (c.pl : Int)) = false := decide_eq_false hmo
  have t3' : decide (most - (c.pl : Int) < n) = false := decide_eq_false hmo
  obtain ⟨k, rfl⟩ : ∃ k : Nat, n = (k : Nat) := ⟨n.toNat, by omega⟩
  by_cases hk0 : k = 0
  · subst hk0
    have XE := Lib.hid (show X = ([], 0, c) by
      rw [← HX.out]
      have h := bytes_take (R := R) he hneg hmo (b := []) (e := 0) (s' := c.s) (i' := c.idle) (hd := c.held) rfl
      rw [h, if_pos rfl]
      obtain ⟨s, pl, er, idle, held⟩ := c
      simp only at he
      subst he
      rfl)
    have t4 : (((0 : Nat) : Int) == 0) = true := rfl
    clear he hcap hneg hmo
    go_enter Try.func35, Try.ntmps35
    go_wp2_with fail
    go_quiet (fail)
    go_wp2_with fail
    go_ret2
    rw [XE.out]
    exact ⟨.slice none 0 0, rfl, OwT.nil _ _ _ _, SAME.out _ (keep_drewN (Below.refl _ _) _)⟩
  obtain ⟨⟨b, e, s', i'⟩, hK⟩ : ∃ Y, tk R (R.mu c.s * 17 + 17) c.s c.idle c.held k = Y := ⟨_, rfl⟩
  have XE := Lib.hid (show X = if e = 0 then (b, 0, ⟨s', c.pl + k, 0, i', []⟩) else ([], e, ⟨s', c.pl, e, i', []⟩) by
    have hK2 : tkH R c.s c.idle c.held (k : Int).toNat = (b, e, s', i', []) := by rw [Int.toNat_natCast]; unfold tkH; rw [if_neg hk0, hK]
    have h := bytes_take he hneg hmo hK2
    rw [Int.toNat_natCast] at h
    rw [← HX.out]; exact h)
  have hid := HO.out.idle he
  have hbu := HO.out.bud
  have r2 : IntKind.i64.wrap ((c.pl : Int) + (k : Int)) = (c.pl : Int) + (k : Int) := IntWalk.i64_in _ (by omega)
  have t4 : ((k : Int) == 0) = false := by rw [beq_eq_false_iff_ne]; omega
  have t4' : (k == 0) = false := by rw [beq_eq_false_iff_ne]; exact hk0
  have CAP := Lib.hid (show Caps R c.s k from hcap (by omega) (by omega))
  have KE := Lib.hid hK
  clear hcap hneg hmo hK
  go_enter Try.func35, Try.ntmps35
  go_wp2_with fail
  go_quiet (fail)
  have RI1 := Lib.hid (RI.out.turns RL (T := fun _ => False) (.of_below (keep_drewN (Below.refl w.heap.size w) nq)) (fun _ _ e => e) (fun _ e => e.elim))
  have B1 := Lib.hid (keep_drewN (Below.refl w.heap.size w) nq)
  generalize w.drewN nq = w1 at *
  have WT := (rwant_any RL hmu g most c.pl c.er c.s Sr c.idle c.held hv k w1 RI1.out.io RI1.out.ow (fun j hj => (RI1.out.hs j hj).2) RI1.out.st RI1.out.ng hlg HO.out.held (by omega) (by omega) hid (by omega) CAP.out)
  rw [KE.out] at WT
  have WTH := Lib.hid WT
  clear WT c1 c2 c3 he hk0
  go_wp2_with fail
  refine WTH.out.mono ?_
  rintro r w2 ⟨bv, S2, b', rfl, hb', ho, hio, hst, hsub, hdis, htu⟩
  dsimp only at hb' hio hst ⊢
  obtain ⟨ab, nb, cb, rfl, -⟩ := ho.slN
  have hw1 : w.heap.size ≤ w1.heap.size := B1.out.size
  have ng2 : ¬ S2 g := fun h => by rcases hsub g h with e | e; (exact RI1.out.ng e); (have := RI1.out.io.lt; omega)
  have TU2 := Lib.hid (show Turns S w w2 from (Turns.of_below (S := S) B1.out).trans htu fun j hj e => by
    rcases e with e | e | e
    · exact RI1.out.sr j e
    · subst e; exact RI1.out.sg
    · exact (RI1.out.hs j e).1)
  have SUB := Lib.hid (show ∀ j, (S2 j ∨ j = g) → S j ∨ w.heap.size ≤ j from fun j hj => by
    rcases hj with hj | hj
    · rcases hsub j hj with e | e
      · exact .inl (RI1.out.sr j e)
      · exact .inr (by omega)
    · subst hj; exact .inl RI1.out.sg)
  have INS := Lib.hid (show ∀ j, (S2 j ∨ j = g) → lo ≤ j ∧ j < w2.heap.size from fun j hj => by
    rcases hj with hj | hj
    · exact RL.inS _ _ _ hst j hj
    · subst hj; exact ⟨hlg, hio.lt⟩)
  have IO2 := Lib.hid hio
  have ST2 := Lib.hid hst
  have O2 := Lib.hid ho
  have NG2 := Lib.hid ng2
  have NOW := Lib.hid (show ∀ j, Value.ownBlock (.slice ab nb cb) = some j → j ≠ g from fun j hj => (hdis j hj).2.1)
  clear ho hio hst hsub hdis htu ng2 WTH
  by_cases h0 : e = 0
  · obtain rfl := hb' h0
    have t5 : (e != 0) = false := by rw [bne_eq_false_iff_eq]; exact h0
    have d2 := IO2.out.c2
    have f2 := IO2.out.free 2
    have hce : c.er = 0 := by rwa [bne_eq_false_iff_eq] at t1
    have FIN := Lib.hid (show RAns St lo g most v S w ⟨s', c.pl + k, 0, i', []⟩ (w2.setCell ⟨g, 2, none⟩ (.int .i64 ((c.pl : Int) + (k : Int)))) from
      ⟨fun j => S2 j ∨ j = g, ⟨S2, .slice none 0 0, { io := by have := IO2.out.s2 (c.pl + k); rw [hce] at this; exact this, ow := OwT.nil _ _ _ _, st := RL.frame _ _ _ _ _ ST2.out (setT w2 2 _) (fun j hj e => by have e : j = g := e; subst e; exact NG2.out hj) (fun j e => by have e : j = g := e; omega), sr := fun j hj => .inl hj, sg := .inr rfl, ng := NG2.out, hs := fun j e => (by cases e), inS := fun j hj => by have := INS.out j hj; simpa using this }⟩, SUB.out, TU2.out.trans (setT w2 2 _) fun j _ e => by have e : j = g := e; subst e; exact RI1.out.sg⟩)
    have OF := Lib.hid (O2.out.turns (setT w2 2 (.int .i64 ((c.pl : Int) + (k : Int)))) fun j hj e => NOW.out j hj e)
    have XF := Lib.hid (show X = (b', 0, ⟨s', c.pl + k, 0, i', []⟩) by rw [XE.out, if_pos h0])
    clear h0 hb' hce
    go_wp2_with fail
    go_ret2
    rw [XF.out]
    exact ⟨_, rfl, OF.out, FIN.out⟩
  · have t5 : (e != 0) = true := by rw [bne_iff_ne]; exact h0
    have XF := Lib.hid (show X = ([], e, ⟨s', c.pl, e, i', []⟩) by rw [XE.out, if_neg h0])
    have d3 := IO2.out.c3
    have f3 := IO2.out.free 3
    have FIN := Lib.hid (show RAns St lo g most v S w ⟨s', c.pl, e, i', []⟩ (w2.setCell ⟨g, 3, none⟩ (.int .i64 e)) from
      ⟨fun j => S2 j ∨ j = g, ⟨S2, .slice none 0 0, { io := IO2.out.s3 e, ow := OwT.nil _ _ _ _, st := RL.frame _ _ _ _ _ ST2.out (setT w2 3 _) (fun j hj e => by have e : j = g := e; subst e; exact NG2.out hj) (fun j e => by have e : j = g := e; omega), sr := fun j hj => .inl hj, sg := .inr rfl, ng := NG2.out, hs := fun j e => (by cases e), inS := fun j hj => by have := INS.out j hj; simpa using this }⟩, SUB.out, TU2.out.trans (setT w2 3 _) fun j _ e => by have e : j = g := e; subst e; exact RI1.out.sg⟩)
    clear h0 hb'
    go_wp2_with fail
    go_ret2
    rw [XF.out]
    exact ⟨.slice none 0 0, rfl, OwT.nil _ _ _ _, FIN.out⟩
end
end Go.Proofs.Ytpenbaafhbbmhaa
