/- The document's In: want: contract over any reader of the document's. Conditions: numbers and what is taken within reach. -/
import Derived.Test.YtpenbaafhbbmhaaCurRIn
namespace Go.Proofs.Ytpenbaafhbbmhaa
open Go.RowKit Go.Shelf
set_option maxRecDepth 100000
set_option linter.unusedVariables false
set_option linter.unusedSimpArgs false

/-- behind want -/
def WantPost {σ : Type} (St : σ → (Nat → Prop) → World → Prop) (lo : Nat) (X : List UInt8 × Int × σ × Nat) (S0 : Nat → Prop) (hv : Value) (g : Nat) (most : Int) (v : Value) (pl : Nat) (er : Int) (w : World) (r : Ending) (w' : World) : Prop :=
  ∃ bv S' b', r = .returned (.tuple #[bv, .int .i64 X.2.1]) ∧ (X.2.1 = 0 → b' = X.1) ∧ OwT fB w' lo 5 bv b' ∧ RInB w' g most v pl er X.2.2.2 (.slice none 0 0) ∧ St X.2.2.1 S' w' ∧ (∀ j, S' j → S0 j ∨ w.heap.size ≤ j) ∧
    (∀ j, bv.ownBlock = some j → ¬ S' j ∧ j ≠ g ∧ (hv.ownBlock = some j ∨ w.heap.size ≤ j)) ∧ Turns (fun j => S0 j ∨ j = g ∨ hv.ownBlock = some j) w w'
/-- in the midst of want -/
structure WnM {σ : Type} (R : Rm σ) (St : σ → (Nat → Prop) → World → Prop) (lo : Nat) (X : List UInt8 × Int × σ × Nat) (w : World) (S0 : Nat → Prop) (hv : Value) (g : Nat) (most : Int) (v : Value) (pl : Nat) (er : Int) (n i0 : Nat) (s0 : σ) (F : Nat) (bv : Value) (b : List UInt8) (s : σ) (S : Nat → Prop) (i : Nat) (W : World) : Prop where
  eq : tk R F s i b n = X
  ow : OwT fB W lo 5 bv b
  io : RInB W g most v pl er i (.slice none 0 0)
  st : St s S W
  sub : ∀ j, S j → S0 j ∨ w.heap.size ≤ j
  dis : ∀ j, bv.ownBlock = some j → ¬ S j ∧ j ≠ g ∧ (hv.ownBlock = some j ∨ w.heap.size ≤ j)
  tu : Turns (fun j => S0 j ∨ j = g ∨ hv.ownBlock = some j) w W
  il : i ≤ 15
  len : b.length ≤ n
  cap : n ≤ 140737488355328 ∨ ∃ vo : σ → Nat, (∀ s n, 0 ≤ R.num s n → R.num s n ≤ n → vo (R.nxt s n) + (R.num s n).toNat ≤ vo s) ∧ b.length + vo s ≤ 140737488351233
  fl : n ≤ b.length ∨ (R.mu s * 17 + 16 - i < F ∧ R.cnt s + R.mu s * 17 + i0 ≤ R.cnt s0 + R.mu s0 * 17 + i)
theorem WnM.fin {σ : Type} {R : Rm σ} {St : σ → (Nat → Prop) → World → Prop} {lo : Nat} {X : List UInt8 × Int × σ × Nat} {w : World} {S0 : Nat → Prop} {hv : Value} {g : Nat} {most : Int} {v : Value} {pl : Nat} {er : Int} {n i0 : Nat} {s0 : σ} {F : Nat} {bv : Value} {b : List UInt8} {s : σ} {S : Nat → Prop} {i : Nat} {W : World}
    (h : WnM R St lo X w S0 hv g most v pl er n i0 s0 F bv b s S i W) {bx : List UInt8} {e : Int} (hX : X = (bx, e, s, i)) (hb : e = 0 → b = bx) : WantPost St lo X S0 hv g most v pl er w (.returned (.tuple #[bv, .int .i64 e])) W := by
  obtain ⟨-, h2, h3, h4, h5, h6, h7, -, -, -, -⟩ := h
  subst hX
  exact ⟨bv, S, b, rfl, hb, h2, h3, h4, h5, h6, h7⟩
set_option maxHeartbeats 4000000 in
theorem rwant_any {σ : Type} {R : Rm σ} {v : Value} {lo Br : Nat} {St : σ → (Nat → Prop) → World → Prop} (RL : RdrL R v lo Br St) (hmu : ∀ s n, R.mu (R.nxt s n) ≤ R.mu s)
    (g : Nat) (most : Int) (pl : Nat) (er : Int) (s0 : σ) (S0 : Nat → Prop) (i0 : Nat) (held : List UInt8) (hv : Value) (n : Nat) (w : World) (hI : RInB w g most v pl er i0 hv) (hH : OwT fB w lo 5 hv held) (hhS : ∀ j, hv.ownBlock = some j → ¬ S0 j ∧ j ≠ g) (hS : St s0 S0 w) (hgS : ¬ S0 g) (hlg : lo ≤ g)
    (hh1 : held.length ≤ 1) (hn1 : 1 ≤ n) (hn : n ≤ 9223372036854775807) (hi : i0 ≤ 15) (hc : R.cnt s0 + R.mu s0 * 17 + 32 ≤ Br) (hcap : Caps R s0 n) :
    Calls Try.prog 49 #[.pointer (some ⟨g, 0, none⟩), .int .i64 (n : Nat)] w (WantPost St lo (tk R (R.mu s0 * 17 + 17) s0 i0 held n) S0 hv g most v pl er w) := by
  obtain ⟨X, hX⟩ : ∃ X, tk R (R.mu s0 * 17 + 17) s0 i0 held n = X := ⟨_, rfl⟩
  rw [hX]
  have lg := hI.lt
  have c4 := hI.c4
  have f4 := hI.free 4
  have NG := Lib.hid hgS
  have HC := Lib.hid hc
  have TT := setT (g := g) w 4 (.slice none 0 0)
  have hlh := hH.lt
  have T0 := Lib.hid (show WnM R St lo X w S0 hv g most v pl er n i0 s0 (R.mu s0 * 17 + 17) hv held s0 S0 i0 (w.setCell ⟨g, 4, none⟩ (.slice none 0 0)) from
    { eq := hX, ow := hH.turns TT fun j hj e => (hhS j hj).2 e, io := hI.s4 _, st := RL.frame _ _ _ _ _ hS TT (fun j hj e => by have e : j = g := e; subst e; exact hgS hj) (fun j e => by have e : j = g := e; omega), sub := fun j hj => .inl hj
      dis := fun j hj => ⟨(hhS j hj).1, (hhS j hj).2, .inl hj⟩, tu := TT.mono fun j _ e => .inr (.inl e), il := hi, len := by omega
      cap := by
        rcases hcap with h | ⟨vo, h1, h2⟩
        · exact .inl h
        · exact .inr ⟨vo, h1, by omega⟩
      fl := .inr ⟨by omega, Nat.le_refl _⟩ })
  have LH := Lib.hid hlh
  clear hI hH hhS hS hgS hc hcap hX TT hlh
  go_enter Try.func49, Try.ntmps49
  go_wp2_with fail
  clear c4 f4
  go_loopg [6] (R.mu s0 * 17 + 17) (fun F v6 wr => ∃ b s S i, WnM R St lo X w S0 hv g most v pl er n i0 s0 F v6 b s S i wr)
  case atStart => exact ⟨held, s0, S0, i0, T0.out⟩
  case round =>
    obtain ⟨b, s, S, i, hM⟩ := hrel
    have M := Lib.hid hM
    obtain ⟨a, cc, hv6, -⟩ := hM.ow.slB
    subst hv6
    clear hM T0
    by_cases hlt : b.length < n
    · obtain ⟨r, hr⟩ : ∃ r, n - b.length = r := ⟨_, rfl⟩
      obtain ⟨m, hm⟩ : ∃ m, askN n b.length = m := ⟨_, rfl⟩
      have hmr : min r 4096 = m := by rw [← hm, ← hr]; rfl
      have HM := Lib.hid hm
      have t1 : decide ((b.length : Int) < (n : Int)) = true := decide_eq_true (by omega)
      have t1' : decide (b.length < n) = true := decide_eq_true hlt
      have r1 : IntKind.i64.wrap ((n : Int) - (b.length : Int)) = (r : Nat) := by rw [IntWalk.i64_in _ (by omega)]; omega
      have hil := M.out.il
      have hfl : R.mu s * 17 + 16 - i < gk ∧ R.cnt s + R.mu s * 17 + i0 ≤ R.cnt s0 + R.mu s0 * 17 + i := by
        rcases M.out.fl with h | h
        · omega
        · exact h
      have hgw := M.out.io.lt
      have gS : ¬ S g := fun h => by rcases M.out.sub g h with e | e; (exact NG.out e); (omega)
      have AK := Lib.hid (rask_any RL g most pl er i (.slice none 0 0) s S r m wr M.out.io M.out.st gS hlg (by omega) (by omega) hmr hil (by have := HC.out; omega))
      have hrm : m ≤ r ∧ 1 ≤ m := by omega
      have hrn : r = n - b.length := hr.symm
      have HRN := Lib.hid hrn
      have HFL := Lib.hid hfl
      clear hm hr hmr hrn hfl gS
      obtain ⟨F, hF⟩ : ∃ F, gk = F + 1 := ⟨gk - 1, by have := HFL.out; omega⟩
      subst hF
      go_wp2_with fail
      refine AK.out.mono ?_
      rintro e W1 ⟨S1, hst1, hS1, hT1, hq1, hq2⟩
      have hwz : w.heap.size ≤ wr.heap.size := M.out.tu.size
      have hlo := M.out.ow.lt
      have O1 := Lib.hid (M.out.ow.turns hT1 fun j hj e => by rcases e with e | e; (exact (M.out.dis j hj).1 e); (exact (M.out.dis j hj).2.1 e))
      have SUB1 := Lib.hid (show ∀ j, S1 j → S0 j ∨ w.heap.size ≤ j from fun j hj => by rcases hS1 j hj with e | e; (exact M.out.sub j e); (exact .inr (by omega)))
      have DIS1 := Lib.hid (show ∀ j, Value.ownBlock (.slice a b.length cc) = some j → ¬ S1 j ∧ j ≠ g ∧ (hv.ownBlock = some j ∨ w.heap.size ≤ j) from fun j hj => ⟨fun h => by rcases hS1 j h with e | e; (exact (M.out.dis j hj).1 e); (have := (hlo j hj).2; omega), (M.out.dis j hj).2⟩)
      have TU1 := Lib.hid (M.out.tu.trans hT1 fun j hj e => by
        rcases e with e | e
        · rcases M.out.sub j e with h | h
          · exact .inl h
          · omega
        · exact .inr (.inl e))
      have ST1 := Lib.hid hst1
      have LT1 := Lib.hid (show ∀ j, Value.ownBlock (.slice a b.length cc) = some j → lo ≤ j ∧ j < W1.heap.size from fun j hj => ⟨(hlo j hj).1, by have := (hlo j hj).2; have := hT1.size; omega⟩)
      have HIN := Lib.hid (RL.inS _ _ _ hst1)
      have hw1 : lo ≤ W1.heap.size ∧ w.heap.size ≤ W1.heap.size := by have := hT1.size; omega
      obtain ⟨z, hz⟩ : ∃ z, R.num s m = z := ⟨_, rfl⟩
      obtain ⟨ee, hee⟩ : ∃ ee, R.er s m = ee := ⟨_, rfl⟩
      have HZ := Lib.hid hz
      have HEE := Lib.hid hee
      rw [hz] at hq1 hq2
      rw [hee] at hq2
      have EQ := Lib.hid M.out.eq
      have CAP := Lib.hid M.out.cap
      have hbl := M.out.len
      have hlayE := R.layE s m
      rw [hz] at hlayE
      clear hz hee hst1 hS1 hT1 M hlo AK
      by_cases hbad : z < 0 ∨ (m : Int) < z
      · obtain ⟨rfl, hio1⟩ := hq1 hbad
        have XE := Lib.hid (show X = ([], 34, R.nxt s m, i) by rw [← EQ.out]; exact tk_bad (by omega) HM.out (by rw [HZ.out]; exact hbad))
        have IO1 := Lib.hid hio1
        clear hq1 hq2 hbad hio1 hlayE
        go_wp2_with (at_builtin; refine wpList_appT eltTB rfl (.tmp 29) (.tmp 30) rfl lo _ b (by rfl) O1.out none 0 0 [] (by rfl) (Sl.nil _ _).toT (by unfold maxLen; rcases CAP.out with h | ⟨_, _, h⟩ <;> omega) (by rcases CAP.out with h | ⟨_, _, h⟩ <;> omega) hw1.1 _ rfl ?_; intro v9 w9 h9 hg9 hv9 hb9; obtain ⟨a9, n9, c9, rfl, z9⟩ := h9.slN; have O9 := Lib.hid h9; have G9 := Lib.hid (Turns.of_grown (S := fun j => Value.ownBlock (.slice a b.length cc) = some j) hg9 fun j e => e); have V9 := Lib.hid hv9; clear h9 hg9 hv9 hb9 z9)
        have IO9 := Lib.hid (IO1.out.turns G9.out fun e => (DIS1.out g e).2.1 rfl)
        have ST9 := Lib.hid (RL.frame _ _ _ _ _ ST1.out G9.out (fun j hj e => (DIS1.out j e).1 hj) (fun j e => (LT1.out j e).1))
        have DIS9 := Lib.hid (show ∀ j, Value.ownBlock (.slice a9 n9 c9) = some j → ¬ S1 j ∧ j ≠ g ∧ (hv.ownBlock = some j ∨ w.heap.size ≤ j) from fun j hj => by
          rcases V9.out with e | e
          · exact DIS1.out j (e ▸ hj)
          · rw [e] at hj
            injection hj with hj
            subst hj
            have hgW := IO1.out.lt
            exact ⟨fun h => by have := (HIN.out _ h).2; omega, by omega, .inr hw1.2⟩)
        have TU9 := Lib.hid (TU1.out.trans G9.out fun j hj e => by
          rcases (DIS1.out j e).2.2 with h | h
          · exact .inr (.inr h)
          · omega)
        clear O1 IO1 TU1 ST1 G9 V9 LT1 DIS1
        go_ret2
        rw [XE.out]
        exact ⟨_, S1, _, rfl, fun (h : (34 : Int) = 0) => absurd h (by decide), O9.out, IO9.out, ST9.out, SUB1.out, DIS9.out, TU9.out⟩
      · obtain ⟨p, hpw, hps, rfl, hsl, hio1⟩ := hq2 hbad
        obtain ⟨k, rfl⟩ : ∃ k : Nat, z = k := ⟨z.toNat, by omega⟩
        rw [Int.toNat_natCast] at hsl ⊢
        have hks : k ≤ m := by omega
        obtain ⟨P, hP⟩ : ∃ P, (R.lay s m).take k = P := ⟨_, rfl⟩
        rw [hP] at hsl
        have hlk := hsl.len
        have HLK := Lib.hid hlk
        have SL1 := Lib.hid hsl
        have IO1 := Lib.hid hio1
        have NB := Lib.hid (show ¬ (R.num s m < 0 ∨ (m : Int) < R.num s m) by rw [HZ.out]; omega)
        have TB := Lib.hid (show tkB R s b n = b ++ P by unfold tkB; rw [HM.out, HZ.out, Int.toNat_natCast, hP])
        have hbn : b.length + k ≤ n := by have := HRN.out; omega
        have hbk : b.length + k ≤ 140737488355328 := by
          rcases CAP.out with h | ⟨vo, h1, h2⟩
          · omega
          · have := h1 s m (by rw [HZ.out]; omega) (by rw [HZ.out]; omega)
            rw [HZ.out, Int.toNat_natCast] at this
            omega
        have HBAD := Lib.hid hbad
        clear hq1 hq2 hbad hio1 hlayE hP hsl hlk
        go_upto_region 6 with (at_builtin; refine wpList_appT eltTB rfl (.tmp 29) (.tmp 30) rfl lo _ b (by rfl) O1.out (some ⟨p, 0, none⟩) k m P (by rfl) SL1.out.toT (by unfold maxLen; omega) (by omega) hw1.1 _ rfl ?_; intro v9 w9 h9 hg9 hv9 hb9; obtain ⟨a9, n9, c9, rfl, z9⟩ := h9.slN; have O9 := Lib.hid h9; have G9 := Lib.hid (Turns.of_grown (S := fun j => Value.ownBlock (.slice a b.length cc) = some j) hg9 fun j e => e); have V9 := Lib.hid hv9; have L9 := Lib.hid z9.len; clear h9 hg9 hv9 hb9 z9)
        have HN9 := Lib.hid (show n9 = b.length + k by rw [← L9.out, List.length_append, HLK.out])
        have IO9 := Lib.hid (IO1.out.turns G9.out fun e => (DIS1.out g e).2.1 rfl)
        have ST9 := Lib.hid (RL.frame _ _ _ _ _ ST1.out G9.out (fun j hj e => (DIS1.out j e).1 hj) (fun j e => (LT1.out j e).1))
        have DIS9 := Lib.hid (show ∀ j, Value.ownBlock (.slice a9 n9 c9) = some j → ¬ S1 j ∧ j ≠ g ∧ (hv.ownBlock = some j ∨ w.heap.size ≤ j) from fun j hj => by
          rcases V9.out with e | e
          · exact DIS1.out j (e ▸ hj)
          · rw [e] at hj
            injection hj with hj
            subst hj
            have hgW := IO1.out.lt
            exact ⟨fun h => by have := (HIN.out _ h).2; omega, by omega, .inr hw1.2⟩)
        have TU9 := Lib.hid (TU1.out.trans G9.out fun j hj e => by
          rcases (DIS1.out j e).2.2 with h | h
          · exact .inr (.inr h)
          · omega)
        clear O1 IO1 TU1 ST1 G9 V9 LT1 DIS1
        have NEXT := Lib.hid (fun (F' : Nat) (h1 : tk R F' (R.nxt s m) (tkI R s i m) (b ++ P) n = X) (h2 : tkI R s i m ≤ 15) (h3 : n ≤ (b ++ P).length ∨ (R.mu (R.nxt s m) * 17 + 16 - tkI R s i m < F' ∧ R.cnt (R.nxt s m) + R.mu (R.nxt s m) * 17 + i0 ≤ R.cnt s0 + R.mu s0 * 17 + tkI R s i m)) =>
          show WnM R St lo X w S0 hv g most v pl er n i0 s0 F' (.slice a9 n9 c9) (b ++ P) (R.nxt s m) S1 (tkI R s i m) w9 from
          { eq := h1, ow := O9.out, io := IO9.out, st := ST9.out, sub := SUB1.out, dis := DIS9.out, tu := TU9.out, il := h2, len := by rw [L9.out, HN9.out]; exact hbn
            cap := by
              rcases CAP.out with h | ⟨vo, q1, q2⟩
              · exact .inl h
              · have := q1 s m (by rw [HZ.out]; omega) (by rw [HZ.out]; omega)
                rw [HZ.out, Int.toNat_natCast] at this
                exact .inr ⟨vo, q1, by rw [L9.out, HN9.out]; omega⟩
            fl := h3 })
        have RET := Lib.hid (fun (e : Int) (he : e ≠ 0) (hx : X = ([], e, R.nxt s m, tkI R s i m)) => show WantPost St lo X S0 hv g most v pl er w (.returned (.tuple #[.slice a9 n9 c9, .int .i64 e])) w9 from
          ⟨_, S1, _, by rw [hx], fun h => absurd h (by rw [hx]; exact he), O9.out, by rw [hx]; exact IO9.out, by rw [hx]; exact ST9.out, SUB1.out, DIS9.out, TU9.out⟩)
        obtain ⟨q, hq⟩ : ∃ q, decide (ee = 34 ∧ k = 0) = q := ⟨_, rfl⟩
        have HQ := Lib.hid hq
        clear hq
        go_cut [38] (fun v38 wx => v38 = .bool q ∧ w9 = wx)
        case first =>
          by_cases h34 : ee = 34
          · have u1 : (ee == 34) = true := by rw [beq_iff_eq]; exact h34
            have u2 : ((k : Int) == 0) = q := by rw [← HQ.out, Bool.eq_iff_iff]; simp [h34]
            clear h34
            go_wp2_with fail
            go_meet
            exact ⟨rfl, rfl⟩
          · have u1 : (ee == 34) = false := by rw [beq_eq_false_iff_ne]; exact h34
            obtain rfl : q = false := by rw [← HQ.out]; exact decide_eq_false fun h => h34 h.1
            clear h34
            go_wp2_with fail
            go_meet
            exact ⟨rfl, rfl⟩
        case rest =>
          obtain ⟨rfl, h2⟩ := hcut
          subst h2
          have hq := HQ.out
          cases q
          · have hno : ¬ (ee = 34 ∧ k = 0) := of_decide_eq_false hq
            by_cases hfull : n9 = n
            · have XE := Lib.hid (show X = (b ++ P, 0, R.nxt s m, tkI R s i m) by rw [← EQ.out, tk_full (by omega) HM.out NB.out (by rw [TB.out, L9.out]; exact hfull), TB.out])
              have t2 : decide ((n9 : Int) ≥ (n : Int)) = true := decide_eq_true (by omega)
              have t2' : decide (n ≤ n9) = true := decide_eq_true (by omega)
              clear hfull hno hq
              go_wp2_with fail
              go_ret2
              rw [XE.out]
              exact ⟨_, S1, _, rfl, fun _ => rfl, O9.out, IO9.out, ST9.out, SUB1.out, DIS9.out, TU9.out⟩
            · have NF := Lib.hid (show (tkB R s b n).length ≠ n by rw [TB.out, L9.out]; exact hfull)
              have hn9 : n9 < n := by have := HN9.out; omega
              have t2 : decide ((n9 : Int) ≥ (n : Int)) = false := decide_eq_false (by omega)
              have t2' : decide (n ≤ n9) = false := decide_eq_false (by omega)
              clear hfull
              by_cases h31 : ee = 31
              · have RT := Lib.hid (RET.out 41 (by decide) (by rw [← EQ.out]; exact tk_end (by omega) HM.out NB.out NF.out (by rw [HEE.out]; exact h31)))
                have t3 : (ee == 31) = true := by rw [beq_iff_eq]; exact h31
                clear h31 hno hq
                go_wp2_with fail
                go_ret2
                exact RT.out
              · have t3 : (ee == 31) = false := by rw [beq_eq_false_iff_ne]; exact h31
                by_cases he0 : ee = 0
                · have t4 : (ee != 0) = false := by rw [bne_eq_false_iff_eq]; exact he0
                  have c5 := IO9.out.c5
                  have hile := tkI_le (R := R) (s := s) (m := m) hil
                  by_cases h16 : tkI R s i m = 16
                  · have RT := Lib.hid (RET.out 33 (by decide) (by rw [← EQ.out, tk_idle (by omega) HM.out NB.out NF.out (by rw [HEE.out]; exact he0) h16, h16]))
                    have c5' : w9.cell? ⟨g, 5, none⟩ = some (.int .i64 16) := by rw [c5, h16]; rfl
                    clear h31 he0 h16 hno hq c5
                    go_wp2_with fail
                    go_ret2
                    exact RT.out
                  · have GO := Lib.hid (NEXT.out F (by rw [← EQ.out, tk_go (by omega) HM.out NB.out NF.out (by rw [HEE.out]; exact he0) h16, TB.out]) (by omega) (by
                      right
                      have hf := HFL.out
                      have hc := R.cntS s m
                      by_cases hk0 : 0 < k
                      · have := R.muL s m (by rw [HEE.out]; exact he0) (by rw [HZ.out]; omega) (by rw [HZ.out]; omega)
                        rw [tkI_mv (by rw [HZ.out]; omega)]
                        omega
                      · have := R.muE s m (by rw [HEE.out]; exact he0)
                        rw [tkI_no (by rw [HZ.out]; omega) (by rw [HEE.out]; exact he0)]
                        omega))
                    obtain ⟨i2, hi2⟩ : ∃ i2, tkI R s i m = i2 := ⟨_, rfl⟩
                    rw [hi2] at c5 h16
                    have t5 : ((i2 : Int) == 16) = false := by rw [beq_eq_false_iff_ne]; omega
                    have t5' : (i2 == 16) = false := by rw [beq_eq_false_iff_ne]; exact h16
                    clear h31 he0 h16 hno hq hi2 hile
                    go_wp2_with fail
                    go_roundg F
                    case measure => omega
                    case rel => exact ⟨_, _, _, _, GO.out⟩
                · have RT := Lib.hid (RET.out ee he0 (by rw [← EQ.out, tk_err (by omega) HM.out NB.out NF.out (by rw [HEE.out]; exact h31) (by rw [HEE.out]; exact he0), HEE.out]))
                  have t4 : (ee != 0) = true := by rw [bne_iff_ne]; exact he0
                  clear h31 he0 hno hq
                  go_wp2_with fail
                  go_ret2
                  exact RT.out
          · have hyes : ee = 34 ∧ k = 0 := of_decide_eq_true hq
            have NF := Lib.hid (show (tkB R s b n).length ≠ n by rw [TB.out, L9.out, HN9.out, hyes.2]; omega)
            have RT := Lib.hid (RET.out ee (by rw [hyes.1]; decide) (by rw [← EQ.out, tk_err (by omega) HM.out NB.out NF.out (by rw [HEE.out, hyes.1]; decide) (by rw [HEE.out, hyes.1]; decide), HEE.out]))
            clear hyes hq
            go_wp2_with fail
            go_ret2
            exact RT.out
    · have XE := Lib.hid (show X = (b, 0, s, i) by rw [← M.out.eq]; exact tk_has (by omega))
      have t1 : decide ((b.length : Int) < (n : Int)) = false := decide_eq_false (by omega)
      have t1' : decide (b.length < n) = false := decide_eq_false hlt
      go_wp2_with fail
      go_ret2
      exact M.out.fin XE.out fun _ => rfl
end Go.Proofs.Ytpenbaafhbbmhaa
