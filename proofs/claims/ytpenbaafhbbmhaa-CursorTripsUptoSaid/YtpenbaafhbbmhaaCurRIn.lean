/- The document's In: ask, want: contracts over any reader of the document's. Conditions: numbers and what is taken within reach. -/
import Derived.Test.YtpenbaafhbbmhaaCurIn
import Derived.Test.YtpenbaafhbbmhaaCurM2
import Derived.Test.YtpenbaafhbbmhaaPipeRefGen
namespace Go.Proofs.Ytpenbaafhbbmhaa
open Go.RowKit Go.Shelf
set_option maxRecDepth 100000
set_option linter.unusedVariables false
set_option linter.unusedSimpArgs false

/-- the document's In in block g -/
def RInB (w : World) (g : Nat) (most : Int) (rp : Value) (pl : Nat) (er : Int) (i : Nat) (hv : Value) : Prop :=
  w.heap[g]? = some (.cells #[rp, .int .i64 most, .int .i64 (pl : Nat), .int .i64 er, hv, .int .i64 (i : Nat)] 39 (0, 0))
section
variable {w w' : World} {g pl i : Nat} {most er : Int} {rp hv : Value}
theorem RInB.c0 (h : RInB w g most rp pl er i hv) : w.cell? ⟨g, 0, none⟩ = some rp := cell_of h 0 rfl
theorem RInB.c1 (h : RInB w g most rp pl er i hv) : w.cell? ⟨g, 1, none⟩ = some (.int .i64 most) := cell_of h 1 rfl
theorem RInB.c2 (h : RInB w g most rp pl er i hv) : w.cell? ⟨g, 2, none⟩ = some (.int .i64 (pl : Nat)) := cell_of h 2 rfl
theorem RInB.c3 (h : RInB w g most rp pl er i hv) : w.cell? ⟨g, 3, none⟩ = some (.int .i64 er) := cell_of h 3 rfl
theorem RInB.c4 (h : RInB w g most rp pl er i hv) : w.cell? ⟨g, 4, none⟩ = some hv := cell_of h 4 rfl
theorem RInB.c5 (h : RInB w g most rp pl er i hv) : w.cell? ⟨g, 5, none⟩ = some (.int .i64 (i : Nat)) := cell_of h 5 rfl
theorem RInB.free (h : RInB w g most rp pl er i hv) (k : Nat) : w.frozen? ⟨g, k, none⟩ = false := free_block h k
theorem RInB.lt (h : RInB w g most rp pl er i hv) : g < w.heap.size := (Array.getElem?_eq_some_iff.1 h).1
theorem RInB.turns {S : Nat → Prop} (h : RInB w g most rp pl er i hv) (ht : Turns S w w') (hs : ¬ S g) : RInB w' g most rp pl er i hv := ht.heap h hs
theorem RInB.s2 (h : RInB w g most rp pl er i hv) (k : Nat) : RInB (w.setCell ⟨g, 2, none⟩ (.int .i64 (k : Nat))) g most rp k er i hv := set_block (i := 2) h _
theorem RInB.s3 (h : RInB w g most rp pl er i hv) (e : Int) : RInB (w.setCell ⟨g, 3, none⟩ (.int .i64 e)) g most rp pl e i hv := set_block (i := 3) h _
theorem RInB.s4 (h : RInB w g most rp pl er i hv) (x : Value) : RInB (w.setCell ⟨g, 4, none⟩ x) g most rp pl er i x := set_block (i := 4) h _
theorem RInB.s5 (h : RInB w g most rp pl er i hv) (k : Nat) : RInB (w.setCell ⟨g, 5, none⟩ (.int .i64 (k : Nat))) g most rp pl er k hv := set_block (i := 5) h _
end
/-- behind ask -/
def AskPost {σ : Type} (R : Rm σ) (St : σ → (Nat → Prop) → World → Prop) (g : Nat) (most : Int) (v : Value) (pl : Nat) (er : Int) (i : Nat) (hv : Value) (s : σ) (S : Nat → Prop) (m : Nat) (w : World) (r : Ending) (w' : World) : Prop :=
  ∃ S', St (R.nxt s m) S' w' ∧ (∀ j, S' j → S j ∨ w.heap.size ≤ j) ∧ Turns (fun j => S j ∨ j = g) w w' ∧
    ((R.num s m < 0 ∨ (m : Int) < R.num s m) → r = .returned (.tuple #[.slice none 0 0, .int .i64 34]) ∧ RInB w' g most v pl er i hv) ∧
    (¬ (R.num s m < 0 ∨ (m : Int) < R.num s m) → ∃ p, w.heap.size ≤ p ∧ ¬ S' p ∧ r = .returned (.tuple #[.slice (some ⟨p, 0, none⟩) (R.num s m).toNat m, .int .i64 (R.er s m)]) ∧ Sl Bf w' (some ⟨p, 0, none⟩) (R.num s m).toNat m ((R.lay s m).take (R.num s m).toNat) ∧ RInB w' g most v pl er (tkI R s i m) hv)
set_option maxHeartbeats 4000000 in
theorem rask_any {σ : Type} {R : Rm σ} {v : Value} {lo Br : Nat} {St : σ → (Nat → Prop) → World → Prop} (RL : RdrL R v lo Br St)
    (g : Nat) (most : Int) (pl : Nat) (er : Int) (i : Nat) (hv : Value) (s : σ) (S : Nat → Prop) (n m : Nat) (w : World) (hI : RInB w g most v pl er i hv) (hS : St s S w) (hgS : ¬ S g) (hlg : lo ≤ g)
    (hn1 : 1 ≤ n) (hn : n ≤ 9223372036854775807) (hm : min n 4096 = m) (hi : i ≤ 15) (hc : R.cnt s < Br) :
    Calls Try.prog 54 #[.pointer (some ⟨g, 0, none⟩), .int .i64 (n : Nat)] w (AskPost R St g most v pl er i hv s S m w) := by
  have hM3 : min (n : Int) 4096 = (m : Nat) := by omega
  have hM1 : (if (n : Int) < 4096 then (n : Int) else 4096) = (m : Nat) := by split <;> omega
  have hM2 : (if 4096 < (n : Int) then 4096 else (n : Int)) = (m : Nat) := by split <;> omega
  have hm1 : 1 ≤ m ∧ m ≤ 4096 := by omega
  have IB := Lib.hid hI
  have ST := Lib.hid hS
  have NG := Lib.hid hgS
  have lg := hI.lt
  clear hm hI hS hgS
  go_enter Try.func54, Try.ntmps54
  go_wp2_with (refine wpList_mkT eltTB rfl (.tmp 11) (.tmp 11) rfl 0 m m (Nat.le_refl _) (by rfl) (by rfl) rfl rfl (by omega) (by simp only [maxLen]; omega) (Nat.zero_le _) ?_; intro x0 wp hp _ _ hbp; have HP := Lib.hid (show wp.heap[w.heap.size]? = some (.cells ((List.replicate m x0).map Bf).toArray 5 (0, 0)) by rw [← flat_fB]; exact hp); have HBP := Lib.hid hbp; have c0 := (IB.out.turns (Turns.of_below (S := fun _ => False) HBP.out) id).c0; clear hp hbp)
  have hgp : ¬ S w.heap.size := fun h => by have := (RL.inS _ _ _ ST.out _ h).2; omega
  have STP := Lib.hid (RL.frame _ _ (fun _ => False) _ _ ST.out (.of_below HBP.out) (fun _ _ e => e) (fun _ e => e.elim))
  have hlayE := R.layE s m
  refine (RL.read s S wp w.heap.size m m (List.replicate m x0) STP.out hc (by simp) (Nat.le_refl _) (by omega) HP.out hgp (by omega)).mono ?_
  rintro e W1 ⟨rfl, S1, hst1, hS1, hT1, hr1⟩
  have T1 := (Turns.of_below (S := fun j => S j ∨ j = w.heap.size) HBP.out).trans hT1 fun _ _ e => e
  have SUB := Lib.hid (show ∀ j, S1 j → S j ∨ w.heap.size ≤ j from fun j hj => by
    rcases hS1 j hj with e | e
    · exact .inl e
    · exact .inr (Nat.le_trans HBP.out.size e))
  have IB1 := Lib.hid (IB.out.turns T1 fun e => by rcases e with e | e; (exact NG.out e); (omega))
  have TU1 := Lib.hid (show Turns (fun j => S j ∨ j = g) w W1 from T1.mono fun j hj e => by rcases e with e | e; (exact .inl e); (omega))
  have NP := Lib.hid (show ¬ S1 w.heap.size from fun h => by
    rcases hS1 _ h with e | e
    · exact hgp e
    · have := (Array.getElem?_eq_some_iff.1 HP.out).1; omega)
  have ST1 := Lib.hid hst1
  have R1 := Lib.hid hr1
  have NG1 := Lib.hid (show ¬ S1 g from fun h => by rcases SUB.out g h with e | e; (exact NG.out e); (omega))
  obtain ⟨z, hz⟩ : ∃ z, R.num s m = z := ⟨_, rfl⟩
  obtain ⟨ee, hee⟩ : ∃ ee, R.er s m = ee := ⟨_, rfl⟩
  have HZ := Lib.hid hz
  have HEE := Lib.hid hee
  have hnb := R.numB s m (by omega)
  have TKI := Lib.hid (show tkI R s i m = waitN i (decide (0 < z) || decide (ee ≠ 0)) by unfold tkI; rw [hz, hee])
  unfold AskPost
  rw [hz] at hlayE hnb
  rw [hz, hee, TKI.out]
  obtain ⟨p, hp⟩ : ∃ p, w.heap.size = p := ⟨_, rfl⟩
  rw [hp] at R1 NP ⊢
  have hpw : w.heap.size ≤ p := by omega
  clear hz hee hst1 hS1 hT1 hr1 hgp STP HP HBP T1 hM1 hM2 hM3 c0 hp
  by_cases hbad : z < 0 ∨ (m : Int) < z
  · have BAD := Lib.hid hbad
    rcases hbad with h | h
    case' inl =>
      have u1 : decide (z < 0) = true := decide_eq_true h
      clear h
    case' inr =>
      have u1 : decide (z < 0) = false := decide_eq_false (by omega)
      have u2 : decide (z > (m : Int)) = true := decide_eq_true h
      have u2' : decide ((m : Int) < z) = true := decide_eq_true h
      clear h
    all_goals
      go_wp2_with fail
      go_ret2
      exact ⟨S1, ST1.out, SUB.out, TU1.out, fun _ => ⟨rfl, IB1.out⟩, fun h => absurd BAD.out (by rw [HZ.out] at h; exact h)⟩
  · obtain ⟨k, rfl⟩ : ∃ k : Nat, z = k := ⟨z.toNat, by omega⟩
    rw [Int.toNat_natCast]
    have hks : k ≤ m := by omega
    have hlk : (R.lay s m).length = k := by have := hlayE (by omega) (by omega); omega
    obtain ⟨P, hP⟩ : ∃ P, R.lay s m = P := ⟨_, rfl⟩
    have HPL := Lib.hid hP
    rw [hP] at R1 hlk ⊢
    have SL1 := Lib.hid (show Sl Bf W1 (some ⟨p, 0, none⟩) k m (P.take k) from by rw [List.take_of_length_le (by omega)]; exact Sl.of_row _ _ _ R1.out hlk hks (by rw [List.map_append, List.take_left' (by rw [List.length_map]; exact hlk)]))
    have hcut := fun W : World => run_cutto eltB W (some ⟨p, 0, none⟩) m m .i64 k hks
    have NB := Lib.hid (show ¬ ((k : Int) < 0 ∨ (m : Int) < k) by omega)
    have v1 : decide ((k : Int) < 0) = false := decide_eq_false (by omega)
    have v2 : decide ((k : Int) > (m : Int)) = false := decide_eq_false (by omega)
    have v2' : decide (m < k) = false := decide_eq_false (by omega)
    have r1 : IntKind.i64.wrap ((i : Int) + 1) = (i : Int) + 1 := IntWalk.i64_in _ (by omega)
    have c5 := IB1.out.c5
    have f5 := IB1.out.free 5
    have IB2 := Lib.hid (show RInB (W1.setCell ⟨g, 5, none⟩ (.int .i64 ((i : Int) + 1))) g most v pl er (i + 1) hv from IB1.out.s5 (i + 1))
    have c5' : (W1.setCell ⟨g, 5, none⟩ (.int .i64 ((i : Int) + 1))).cell? ⟨g, 5, none⟩ = some (.int .i64 ((i : Int) + 1)) := IB2.out.c5
    have f5' : (W1.setCell ⟨g, 5, none⟩ (.int .i64 ((i : Int) + 1))).frozen? ⟨g, 5, none⟩ = false := IB2.out.free 5
    have hpg : p ≠ g := by omega
    have END := Lib.hid (fun (W : World) (x : Nat) (hT : Turns (fun j => j = g) W1 W) (hI : RInB W g most v pl er x hv) (hx : x = waitN i (decide (0 < k) || decide (ee ≠ 0))) =>
      show St (R.nxt s m) S1 W ∧ (∀ j, S1 j → S j ∨ w.heap.size ≤ j) ∧ Turns (fun j => S j ∨ j = g) w W ∧ Sl Bf W (some ⟨p, 0, none⟩) k m (P.take k) ∧ RInB W g most v pl er (waitN i (decide (0 < k) || decide (ee ≠ 0))) hv from
      ⟨RL.frame _ _ _ _ _ ST1.out hT (fun j hj e => by subst e; exact NG1.out hj) (fun j e => by have e : j = g := e; omega), SUB.out, TU1.out.trans hT fun j _ e => .inr e, SL1.out.turns hT fun b o e _ e2 => by injection e with e; injection e with e; have e2 : b = g := e2; omega, by rw [← hx]; exact hI⟩)
    clear hP hlk hlayE hbad hnb
    by_cases hk0 : 0 < k
    case' pos =>
      have u4 : decide ((k : Int) > 0) = true := decide_eq_true (by omega)
      have u4' : decide (0 < k) = true := decide_eq_true hk0
      have IB3 : RInB ((W1.setCell ⟨g, 5, none⟩ (.int .i64 ((i : Int) + 1))).setCell ⟨g, 5, none⟩ (.int .i64 0)) g most v pl er 0 hv := IB2.out.s5 0
      have T3 : Turns (fun j => j = g) W1 ((W1.setCell ⟨g, 5, none⟩ (.int .i64 ((i : Int) + 1))).setCell ⟨g, 5, none⟩ (.int .i64 0)) := (setT W1 5 (.int .i64 ((i : Int) + 1))).trans (setT _ 5 (.int .i64 0)) fun _ _ e => e
      have hw0 : waitN i (decide (0 < k) || decide (ee ≠ 0)) = 0 := by rw [u4', Bool.true_or]; rfl
      have E2 := Lib.hid (END.out _ 0 T3 IB3 hw0.symm)
      clear IB3 T3 hw0
    case' neg =>
      have u4 : decide ((k : Int) > 0) = false := decide_eq_false (by omega)
      have u4' : decide (0 < k) = false := decide_eq_false hk0
      by_cases h0 : ee = 0
      case' pos =>
        have u5 : (ee != 0) = false := by rw [bne_eq_false_iff_eq]; exact h0
        have hw0 : waitN i (decide (0 < k) || decide (ee ≠ 0)) = i + 1 := by rw [u4', decide_eq_false (fun h => h h0)]; rfl
        have E2 := Lib.hid (END.out _ (i + 1) (setT W1 5 (.int .i64 ((i : Int) + 1))) IB2.out hw0.symm)
        clear hw0
        clear h0
      case' neg =>
        have u5 : (ee != 0) = true := by rw [bne_iff_ne]; exact h0
        have IB3 : RInB ((W1.setCell ⟨g, 5, none⟩ (.int .i64 ((i : Int) + 1))).setCell ⟨g, 5, none⟩ (.int .i64 0)) g most v pl er 0 hv := IB2.out.s5 0
        have T3 : Turns (fun j => j = g) W1 ((W1.setCell ⟨g, 5, none⟩ (.int .i64 ((i : Int) + 1))).setCell ⟨g, 5, none⟩ (.int .i64 0)) := (setT W1 5 (.int .i64 ((i : Int) + 1))).trans (setT _ 5 (.int .i64 0)) fun _ _ e => e
        have hw0 : waitN i (decide (0 < k) || decide (ee ≠ 0)) = 0 := by rw [u4', decide_eq_true h0, Bool.or_true]; rfl
        have E2 := Lib.hid (END.out _ 0 T3 IB3 hw0.symm)
        clear IB3 T3 hw0
        clear h0
    all_goals
      clear hk0 END
      go_wp2_with fail
      go_ret2
      obtain ⟨q1, q2, q3, q4, q5⟩ := E2.out
      refine ⟨S1, q1, q2, q3, fun h => absurd (by rw [HZ.out] at h; exact h) NB.out, fun _ => ⟨p, hpw, NP.out, ?_, ?_, ?_⟩⟩
      · rw [HZ.out, HEE.out, Int.toNat_natCast]; rfl
      · rw [HZ.out, Int.toNat_natCast, HPL.out]; exact q4
      · rw [TKI.out, show decide (0 < (k : Int)) = decide (0 < k) by simp]; exact q5
end Go.Proofs.Ytpenbaafhbbmhaa
