/- The program's In and the document's side by side; asked: contract. Conditions: numbers and what is taken within reach. -/
import Derived.Test.YtpenbaafhbbmhaaCurRNum
import Derived.Test.YtpenbaafhbbmhaaHelpS
import Derived.Deep.CutBlock
namespace Go.Proofs.Ytpenbaafhbbmhaa
open Go.RowKit Go.Shelf
set_option maxRecDepth 100000
set_option linter.unusedVariables false
set_option linter.unusedSimpArgs false

/-- what an In is when it was asked -/
def askM {σ : Type} (R : Rm σ) (most kind n : Int) (c : CIn σ) : CIn σ :=
  if kind = 0 then (byteM R most c).2.2 else if kind = 1 then (bytesM R most n c).2.2 else if kind = 2 then (numM R most c).2.2 else if kind = 3 then (endM R c).2.2 else c
section
variable {σ : Type} {R : Rm σ} {fn : FuncId} {v v2 : Value} {lo lo2 Br Br2 bd : Nat} {St St2 : σ → (Nat → Prop) → World → Prop} {g g2 : Nat} {most : Int} {rv : Value} {c c' : CIn σ} {S S1 Sd T : Nat → Prop} {w w1 w2 : World}
/-- both in memory -/
structure Duo (St : σ → (Nat → Prop) → World → Prop) (g : Nat) (most : Int) (rv : Value) (St2 : σ → (Nat → Prop) → World → Prop) (lo2 g2 : Nat) (v2 : Value) (c : CIn σ) (S Sd : Nat → Prop) (w : World) : Prop where
  io : InP w g most rv c.pl c.er c.idle c.held
  st : St c.s S w
  ng : ¬ S g
  r : RObj St2 lo2 g2 most v2 c Sd w
  dis : ∀ j, Sd j → ¬ S j ∧ j ≠ g
  low : ∀ j, (S j ∨ j = g) → lo2 ≤ j
def DuoAns (St : σ → (Nat → Prop) → World → Prop) (g : Nat) (most : Int) (rv : Value) (St2 : σ → (Nat → Prop) → World → Prop) (lo2 g2 : Nat) (v2 : Value) (S Sd : Nat → Prop) (w : World) (c' : CIn σ) (w' : World) : Prop :=
  ∃ S' Sd', Duo St g most rv St2 lo2 g2 v2 c' S' Sd' w' ∧ (∀ j, S' j → S j ∨ w.heap.size ≤ j) ∧ (∀ j, Sd' j → Sd j ∨ w.heap.size ≤ j) ∧ Turns (fun j => S j ∨ j = g ∨ Sd j) w w'
/-- behind the program's answer the document's stands as it stood -/
theorem Duo.mid (RL : RdrL R v2 lo2 Br2 St2) (h : Duo St g most rv St2 lo2 g2 v2 c S Sd w) (hA : InA St g most rv w S c' S1 w1) : RObj St2 lo2 g2 most v2 c Sd w1 :=
  h.r.turns RL hA.tu (fun j hj e => by rcases e with e | e; (exact (h.dis j hj).1 e); (exact (h.dis j hj).2 e)) fun j e => h.low j e
theorem Duo.ansX (RD : Reader R fn v lo Br St bd) (hbl : bd ≤ lo2) (h : Duo St g most rv St2 lo2 g2 v2 c S Sd w) (hA : InA St g most rv w S c' S1 w1) {Sd2 : Nat → Prop} (k1 : RObj St2 lo2 g2 most v2 c' Sd2 w2) (k2 : ∀ j, Sd2 j → Sd j ∨ w1.heap.size ≤ j) (k3 : Turns Sd w1 w2) :
    Duo St g most rv St2 lo2 g2 v2 c' S1 Sd2 w2 ∧ (∀ j, S1 j → S j ∨ w.heap.size ≤ j) ∧ (∀ j, Sd2 j → Sd j ∨ w.heap.size ≤ j) ∧ Turns (fun j => S j ∨ j = g ∨ Sd j) w w2 := by
  have hz := hA.tu.size
  have hg := h.io.lt
  have hS1 : ∀ j, Sd j → ¬ S1 j ∧ j ≠ g := fun j hj => ⟨fun e => by
    rcases hA.sub j e with q | q
    · exact (h.dis j hj).1 q
    · have := (h.r.inS j hj).2; omega, (h.dis j hj).2⟩
  have hin := RD.inS _ _ _ hA.st
  refine ⟨{ io := hA.io.turns k3 fun e => (hS1 g e).2 rfl, st := RD.frame _ _ _ _ _ hA.st k3 (fun j hj e => (hS1 j e).1 hj) (fun j e => by have := (h.r.inS j e).1; omega), ng := fun e => by rcases hA.sub g e with q | q; (exact h.ng q); (omega), r := k1, dis := fun j hj => ?_, low := fun j e => ?_ }, hA.sub, fun j hj => ?_, ?_⟩
  · rcases k2 j hj with e | e
    · exact hS1 j e
    · exact ⟨fun q => by have := (hin j q).2; omega, by omega⟩
  · rcases e with e | e
    · rcases hA.sub j e with q | q
      · exact h.low j (.inl q)
      · have := h.low g (.inr rfl); omega
    · exact h.low j (.inr e)
  · rcases k2 j hj with e | e
    · exact .inl e
    · exact .inr (by omega)
  · refine (hA.tu.mono (T := fun j => S j ∨ j = g ∨ Sd j) fun j _ e => by rcases e with e | e; (exact .inl e); (exact .inr (.inl e))).trans k3 fun j _ e => .inr (.inr e)
theorem Duo.ans (RD : Reader R fn v lo Br St bd) (hbl : bd ≤ lo2) (h : Duo St g most rv St2 lo2 g2 v2 c S Sd w) (hA : InA St g most rv w S c' S1 w1) (hB : RAns St2 lo2 g2 most v2 Sd w1 c' w2) : DuoAns St g most rv St2 lo2 g2 v2 S Sd w c' w2 := by
  obtain ⟨Sd2, k1, k2, k3⟩ := hB
  exact ⟨S1, Sd2, h.ansX RD hbl hA k1 k2 k3⟩
theorem Duo.turns (RD : Reader R fn v lo Br St bd) (RL : RdrL R v2 lo2 Br2 St2) (hbl : bd ≤ lo2) (h : Duo St g most rv St2 lo2 g2 v2 c S Sd w) (ht : Turns T w w1) (h1 : ∀ j, (S j ∨ j = g ∨ Sd j) → ¬ T j) (h2 : ∀ j, T j → lo2 ≤ j) : Duo St g most rv St2 lo2 g2 v2 c S Sd w1 :=
  { io := h.io.turns ht fun e => h1 g (.inr (.inl rfl)) e, st := RD.frame _ _ _ _ _ h.st ht (fun j hj => h1 j (.inl hj)) (fun j e => by have := h2 j e; omega), ng := h.ng, r := h.r.turns RL ht (fun j hj => h1 j (.inr (.inr hj))) h2, dis := h.dis, low := h.low }
theorem DuoAns.turns (RD : Reader R fn v lo Br St bd) (RL : RdrL R v2 lo2 Br2 St2) (hbl : bd ≤ lo2) (h : DuoAns St g most rv St2 lo2 g2 v2 S Sd w c w1) (ht : Turns T w1 w2) (h1 : ∀ j, T j → lo2 ≤ j) (h3 : ∀ j, T j → w.heap.size ≤ j)
    (h4 : ∀ S' Sd', Duo St g most rv St2 lo2 g2 v2 c S' Sd' w1 → (∀ j, S' j → S j ∨ w.heap.size ≤ j) → (∀ j, Sd' j → Sd j ∨ w.heap.size ≤ j) → ∀ j, (S' j ∨ j = g ∨ Sd' j) → ¬ T j) : DuoAns St g most rv St2 lo2 g2 v2 S Sd w c w2 := by
  obtain ⟨S', Sd', k1, k2, k3, k4⟩ := h
  exact ⟨S', Sd', k1.turns RD RL hbl ht (h4 S' Sd' k1 k2 k3) h1, k2, k3, k4.trans ht fun j hj e => by have := h3 j e; omega⟩
theorem DuoAns.keep (RD : Reader R fn v lo Br St bd) (RL : RdrL R v2 lo2 Br2 St2) (hbl : bd ≤ lo2) (h : DuoAns St g most rv St2 lo2 g2 v2 S Sd w c w1) (hb : Below w1.heap.size w1 w2) : DuoAns St g most rv St2 lo2 g2 v2 S Sd w c w2 :=
  h.turns RD RL hbl (T := fun _ => False) (.of_below hb) (fun _ e => e.elim) (fun _ e => e.elim) fun _ _ _ _ _ _ _ e => e
theorem DuoAns.base (hb : Below w.heap.size w w1) (h : DuoAns St g most rv St2 lo2 g2 v2 S Sd w1 c w2) : DuoAns St g most rv St2 lo2 g2 v2 S Sd w c w2 := by
  obtain ⟨S', Sd', k1, k2, k3, k4⟩ := h
  have hz := hb.size
  exact ⟨S', Sd', k1, fun j hj => by rcases k2 j hj with e | e; (exact .inl e); (exact .inr (by omega)), fun j hj => by rcases k3 j hj with e | e; (exact .inl e); (exact .inr (by omega)), (Turns.of_below (S := fun j => S j ∨ j = g ∨ Sd j) hb).trans k4 fun _ _ e => e⟩
end
/-- a contract in the lives of both: what is asked -/
structure AskOk {σ : Type} (R : Rm σ) (P : σ → Prop) (most : Int) (Bd Br Br2 : Nat) (n : Int) (c : CIn σ) : Prop where
  ok : Okay R P most Bd c
  bud : Bd + 400 ≤ Br
  bud2 : Bd + 400 ≤ Br2
  nb : -9223372036854775808 ≤ n ∧ n ≤ 9223372036854775807
  mb : most ≤ 9223372036854775807
  cap : 0 ≤ n → n ≤ most → Caps R c.s n.toNat
theorem askM_0 {σ : Type} {R : Rm σ} {most n : Int} {c : CIn σ} : askM R most 0 n c = (byteM R most c).2.2 := by unfold askM; rw [if_pos rfl]
theorem askM_1 {σ : Type} {R : Rm σ} {most n : Int} {c : CIn σ} : askM R most 1 n c = (bytesM R most n c).2.2 := by unfold askM; rw [if_neg (by decide), if_pos rfl]
theorem askM_2 {σ : Type} {R : Rm σ} {most n : Int} {c : CIn σ} : askM R most 2 n c = (numM R most c).2.2 := by unfold askM; rw [if_neg (by decide), if_neg (by decide), if_pos rfl]
theorem askM_3 {σ : Type} {R : Rm σ} {most n : Int} {c : CIn σ} : askM R most 3 n c = (endM R c).2.2 := by unfold askM; rw [if_neg (by decide), if_neg (by decide), if_neg (by decide), if_pos rfl]
theorem askM_no {σ : Type} {R : Rm σ} {most k n : Int} {c : CIn σ} (h0 : k ≠ 0) (h1 : k ≠ 1) (h2 : k ≠ 2) (h3 : k ≠ 3) : askM R most k n c = c := by unfold askM; rw [if_neg h0, if_neg h1, if_neg h2, if_neg h3]
set_option maxHeartbeats 8000000 in
theorem asked_any {σ : Type} {R : Rm σ} {fn : FuncId} {v v2 : Value} {lo lo2 Br Br2 bd : Nat} {St St2 : σ → (Nat → Prop) → World → Prop} (RD : Reader R fn v lo Br St bd) (T : TypeId)
    (hme : ∀ w, (method 249 T v "Read").run Try.prog w = .ok (fn, v) w) (hen : ∀ (args : Array Value) (W : World), (callFunc fn args).run Try.prog W = .ok (.enter fn args) W) (RL : RdrL R v2 lo2 Br2 St2) (hmu : ∀ s n, R.mu (R.nxt s n) ≤ R.mu s)
    (g g2 : Nat) (most kind n : Int) (c : CIn σ) (S Sd : Nat → Prop) (w : World) (P : σ → Prop) (hP : ∀ s n, P s → P (R.nxt s n)) (Bd : Nat) (hbl : bd ≤ lo2) (hA : AskOk R P most Bd Br Br2 n c) (hD : Duo St g most (.iface T v) St2 lo2 g2 v2 c S Sd w) :
    Calls Try.prog 12 #[.pointer (some ⟨g, 0, none⟩), .pointer (some ⟨g2, 0, none⟩), .agg #[.int .i64 kind, .int .i64 n]] w fun r w' => r = .returned (.bool true) ∧ DuoAns St g most (.iface T v) St2 lo2 g2 v2 S Sd w (askM R most kind n c) w' := by
  obtain ⟨c9, hc9⟩ : ∃ c9, askM R most kind n c = c9 := ⟨_, rfl⟩
  have HC9 := Lib.hid hc9
  rw [hc9]
  clear hc9
  obtain ⟨gb, hgb⟩ : ∃ gb, w.heap.size = gb := ⟨_, rfl⟩
  have hb1 : Below w.heap.size w (w.alloc (.cells #[.int .i64 kind, .int .i64 n] 42)) := (Below.refl _ _).alloc (Nat.le_refl _) _
  have x1 : (w.alloc (.cells #[.int .i64 kind, .int .i64 n] 42)).heap[gb]? = some (.cells #[.int .i64 kind, .int .i64 n] 42 (0, 0)) := by rw [← hgb]; exact heap_new w _
  have D1 := Lib.hid (hD.turns RD RL hbl (T := fun _ => False) (.of_below hb1) (fun _ _ e => e) (fun _ e => e.elim))
  have hSg := hD.io.lt
  have NGB := Lib.hid (show ¬ S gb ∧ gb ≠ g from ⟨fun h => by have := (RD.inS _ _ _ hD.st _ h).2; omega, by omega⟩)
  have HA := Lib.hid hA
  have hbg : bd ≤ g := Nat.le_trans hbl (hD.low g (.inr rfl))
  have B1 := Lib.hid hb1
  have X1 := Lib.hid x1
  have HGB := Lib.hid hgb
  clear hD hA hb1 x1 hgb
  go_enter Try.func12, Try.ntmps12
  go_upto_block 0 with (fail)
  rw [HGB.out]
  generalize w.alloc (.cells #[.int .i64 kind, .int .i64 n] 42) = w1 at *
  have k0 := cell_of X1.out 0 rfl
  have k1 := cell_of X1.out 1 rfl
  go_cut [7] (fun v7 wx => v7 = .bool true ∧ DuoAns St g most (.iface T v) St2 lo2 g2 v2 S Sd w c9 wx)
  case first =>
    by_cases h0 : kind = 0
    · subst h0
      have OP := Lib.hid (cbyte_any RD T hme hen hmu g most c S w1 P hP Bd HA.out.ok D1.out.io D1.out.st D1.out.ng hbg HA.out.mb (by have := HA.out.bud; omega))
      have RP := Lib.hid (fun (W : World) (hW : RObj St2 lo2 g2 most v2 c Sd W) => rbyte_any RL hmu g2 most c Sd W P hP Bd HA.out.ok hW HA.out.mb (by have := HA.out.bud2; omega))
      obtain ⟨⟨x, e, c'⟩, hX⟩ : ∃ X, byteM R most c = X := ⟨_, rfl⟩
      have HE := Lib.hid (show c9 = c' by rw [← HC9.out, askM_0, hX])
      rw [hX] at OP RP
      clear hX
      try dsimp only at OP RP
      go_wp2_with fail
      refine OP.out.mono ?_
      rintro r w2 ⟨S', rfl, hI⟩
      dsimp only at hI
      have A := Lib.hid hI
      have RQ := Lib.hid (RP.out w2 (D1.out.mid RL hI))
      clear hI RP OP
      go_wp2_with fail
      refine RQ.out.mono ?_
      rintro r w3 ⟨rfl, hB⟩
      dsimp only at hB
      have FIN := Lib.hid ((D1.out.ans RD hbl A.out hB).base B1.out)
      have t1 : (Go.Proofs.Ytpenbaafhbbmhaa.B x == Go.Proofs.Ytpenbaafhbbmhaa.B x) = true := by simp
      clear hB RQ
      go_wp2_with fail
      go_meet
      exact ⟨rfl, by rw [HE.out]; exact FIN.out⟩
    have t0 : (kind == 0) = false := by rw [beq_eq_false_iff_ne]; exact h0
    by_cases h1 : kind = 1
    · subst h1
      have OP := Lib.hid (cbytes_any RD T hme hen hmu g most n c S w1 P Bd HA.out.ok D1.out.io D1.out.st D1.out.ng hbg HA.out.nb HA.out.mb (by have := HA.out.bud; omega) HA.out.cap)
      have RP := Lib.hid (fun (W : World) (hW : RObj St2 lo2 g2 most v2 c Sd W) => rbytes_any RL hmu g2 most n c Sd W P hP Bd HA.out.ok hW HA.out.nb HA.out.mb (by have := HA.out.bud2; omega) HA.out.cap)
      obtain ⟨⟨b, e, c'⟩, hX⟩ : ∃ X, bytesM R most n c = X := ⟨_, rfl⟩
      have HE := Lib.hid (show c9 = c' by rw [← HC9.out, askM_1, hX])
      rw [hX] at OP RP
      clear hX
      try dsimp only at OP RP
      go_wp2_with fail
      refine OP.out.mono ?_
      rintro r w2 ⟨bv, S', rfl, ho, hdis, hI⟩
      dsimp only at ho hI
      obtain ⟨ab, nb, cb, rfl, -⟩ := ho.slN
      have O2 := Lib.hid ho
      have DIS := Lib.hid hdis
      have A := Lib.hid hI
      have RQ := Lib.hid (RP.out w2 (D1.out.mid RL hI))
      have k1' := cell_of (hI.tu.heap X1.out fun e => by rcases e with e | e; (exact NGB.out.1 e); (exact NGB.out.2 e)) 1 rfl
      clear hI RP OP ho hdis
      go_wp2_with fail
      refine RQ.out.mono ?_
      rintro r w3 ⟨yv, rfl, hy, Sd2, q1, q2, q3⟩
      dsimp only at hy q1
      obtain ⟨ay, ny, cy, rfl, -⟩ := hy.slN
      have hlo := O2.out.lt
      have O3 := Lib.hid (O2.out.turns q3 fun j hj e => by have := (D1.out.r.inS j e).2; have := (hlo j hj).1; omega)
      have DX := D1.out.ansX RD hbl A.out q1 q2 q3
      have NOW := Lib.hid (show ∀ j, (S' j ∨ j = g ∨ Sd2 j) → ¬ Value.ownBlock (.slice ab nb cb) = some j from fun j hj e => by
        rcases hj with h | h | h
        · exact DIS.out j e h
        · have := (hlo j e).1; have := D1.out.io.lt; omega
        · rcases q2 j h with q | q
          · have := (D1.out.r.inS j q).2; have := (hlo j e).1; omega
          · have := (hlo j e).2; omega)
      have HLO := Lib.hid hlo
      have DQ := Lib.hid DX
      have hcap := O3.out.capB
      have hcap2 := hy.capB
      have hb3 : nb ≤ cb := hcap.2.1
      have hb4 : ny ≤ cy := hcap2.2.1
      have SM := Lib.hid (same_any ab nb cb b ay ny cy b w3 (by omega) (by omega) O3.out.slI hy.slI)
      rw [decide_eq_true rfl] at SM
      have hcb : cb ≤ 9223372036854775807 := hcap.2.2
      clear RQ hy q1 q2 q3 hlo DX hcap hcap2
      go_wp2_with fail
      refine SM.out.mono ?_
      rintro r w4 ⟨rfl, hb4'⟩
      have B4 := Lib.hid hb4'
      have SF := Lib.hid (O3.out.keep hb4').soft
      clear hb4' SM
      go_wp2_with fail
      refine (spoil_any ab nb cb w4 hcb SF.out).mono ?_
      rintro r w5 ⟨rfl, hg5⟩
      have T5 := Turns.of_grown (S := fun j => Value.ownBlock (.slice ab nb cb) = some j) hg5 fun j e => by rw [own_map]; exact e
      have T35 : Turns (fun j => Value.ownBlock (.slice ab nb cb) = some j) w3 w5 := (Turns.of_below (S := fun j => Value.ownBlock (.slice ab nb cb) = some j) B4.out).trans T5 fun _ _ e => e
      have hlow := fun j (e : Value.ownBlock (.slice ab nb cb) = some j) => (HLO.out j e).1
      have hg1 := D1.out.low g (.inr rfl)
      have hgl := D1.out.io.lt
      have FIN := Lib.hid (show DuoAns St g most (.iface T v) St2 lo2 g2 v2 S Sd w c' w5 from (show DuoAns St g most (.iface T v) St2 lo2 g2 v2 S Sd w1 c' w5 from
        ⟨S', Sd2, DQ.out.1.turns RD RL hbl T35 NOW.out (fun j e => by have := hlow j e; omega), DQ.out.2.1, DQ.out.2.2.1, DQ.out.2.2.2.trans T35 fun j hj e => by have := hlow j e; omega⟩).base B1.out)
      clear hg5 T5 T35 hlow SF
      go_wp2_with fail
      go_meet
      exact ⟨rfl, by rw [HE.out]; exact FIN.out⟩
    have t1 : (kind == 1) = false := by rw [beq_eq_false_iff_ne]; exact h1
    by_cases h2 : kind = 2
    · subst h2
      have OP := Lib.hid (cnum_any RD T hme hen hmu g most c S w1 P hP Bd HA.out.ok D1.out.io D1.out.st D1.out.ng hbg HA.out.mb HA.out.bud)
      have RP := Lib.hid (fun (W : World) (hW : RObj St2 lo2 g2 most v2 c Sd W) => rnum_any RL hmu g2 most c Sd W P hP Bd HA.out.ok hW HA.out.mb HA.out.bud2)
      obtain ⟨⟨x, e, c'⟩, hX⟩ : ∃ X, numM R most c = X := ⟨_, rfl⟩
      have HE := Lib.hid (show c9 = c' by rw [← HC9.out, askM_2, hX])
      rw [hX] at OP RP
      clear hX
      try dsimp only at OP RP
      go_wp2_with fail
      refine OP.out.mono ?_
      rintro r w2 ⟨S', rfl, hI⟩
      dsimp only at hI
      have A := Lib.hid hI
      have RQ := Lib.hid (RP.out w2 (D1.out.mid RL hI))
      clear hI RP OP
      go_wp2_with fail
      refine RQ.out.mono ?_
      rintro r w3 ⟨rfl, hB⟩
      dsimp only at hB
      have FIN := Lib.hid ((D1.out.ans RD hbl A.out hB).base B1.out)
      clear hB RQ
      go_wp2_with fail
      go_meet
      exact ⟨rfl, by rw [HE.out]; exact FIN.out⟩
    have t2 : (kind == 2) = false := by rw [beq_eq_false_iff_ne]; exact h2
    by_cases h3 : kind = 3
    · subst h3
      have OP := Lib.hid (cend_any RD T hme hen hmu g most c S w1 P hP Bd HA.out.ok D1.out.io D1.out.st D1.out.ng hbg (by have := HA.out.bud; omega))
      have RP := Lib.hid (fun (W : World) (hW : RObj St2 lo2 g2 most v2 c Sd W) => rend_any RL hmu g2 most c Sd W P hP Bd HA.out.ok hW (by have := HA.out.bud2; omega))
      obtain ⟨⟨x, e, c'⟩, hX⟩ : ∃ X, endM R c = X := ⟨_, rfl⟩
      have HE := Lib.hid (show c9 = c' by rw [← HC9.out, askM_3, hX])
      rw [hX] at OP RP
      clear hX
      try dsimp only at OP RP
      go_wp2_with fail
      refine OP.out.mono ?_
      rintro r w2 ⟨S', rfl, hI⟩
      dsimp only at hI
      have A := Lib.hid hI
      have RQ := Lib.hid (RP.out w2 (D1.out.mid RL hI))
      clear hI RP OP
      go_wp2_with fail
      refine RQ.out.mono ?_
      rintro r w3 ⟨rfl, hB⟩
      dsimp only at hB
      have FIN := Lib.hid ((D1.out.ans RD hbl A.out hB).base B1.out)
      clear hB RQ
      go_wp2_with fail
      go_meet
      exact ⟨rfl, by rw [HE.out]; exact FIN.out⟩
    have t3 : (kind == 3) = false := by rw [beq_eq_false_iff_ne]; exact h3
    have HE := Lib.hid (show c9 = c by rw [← HC9.out]; exact askM_no h0 h1 h2 h3)
    have FIN := Lib.hid (show DuoAns St g most (.iface T v) St2 lo2 g2 v2 S Sd w c w1 from (show DuoAns St g most (.iface T v) St2 lo2 g2 v2 S Sd w1 c w1 from ⟨S, Sd, D1.out, fun j h => .inl h, fun j h => .inl h, .refl _ _⟩).base B1.out)
    clear h0 h1 h2 h3
    go_wp2_with fail
    go_meet
    exact ⟨rfl, by rw [HE.out]; exact FIN.out⟩
  case rest =>
    obtain ⟨w5, rfl⟩ : ∃ w6, w6 = wc := ⟨_, rfl⟩
    obtain ⟨rfl, hans⟩ := hcut
    have ANS := Lib.hid hans
    obtain ⟨S', Sd', hD, -, -, -⟩ := hans
    have CA := Lib.hid (cat_any g most _ _ _ _ _ w5 hD.io)
    have CE := Lib.hid (cerr_any g most _ _ _ _ _ w5 hD.io)
    obtain ⟨Sr, hv, hR⟩ := hD.r
    have d2 := hR.io.c2
    have d3 := hR.io.c3
    clear hD hR k0 k1 D1 HA
    go_wp2_with fail
    refine CA.out.mono ?_
    rintro r w6 ⟨rfl, rfl⟩
    go_wp2_with fail
    refine CE.out.mono ?_
    rintro r w6 ⟨rfl, rfl⟩
    have t1 : ((c9.pl : Int) == (c9.pl : Int)) = true := by simp
    have t2 : (c9.er == c9.er) = true := by simp
    go_wp2_with fail
    go_ret
    exact ⟨rfl, ANS.out⟩
end Go.Proofs.Ytpenbaafhbbmhaa
