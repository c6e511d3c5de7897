/- Open, the document's: contract. Condition: the bytes within reach. -/
import Derived.Test.YtljcogimeimknaaGreatFileOpen
import Derived.Test.YtljcogimeimknaaGreatFileRRow
import Derived.Test.YtljcogimeimknaaGreatFootRRead
import Derived.Test.YtljcogimeimknaaGreatVintRRead
import Derived.Test.YtljcogimeimknaaGreatK8f
import Derived.Test.YtljcogimeimknaaGreatFileRTail
import Derived.Deep.RegionHeld3
namespace Go.Proofs.YtljcogimeimknaaGreat
open Go.RowKit
open Lib (hid)
set_option linter.unusedVariables false
set_option linter.unusedSimpArgs false

/-- behind the document's Open -/
def RoPost (w : World) (b : List UInt8) (r : Ending) (w' : World) : Prop :=
  Below w.heap.size w w' ∧ ∃ a n c vs, r = .returned (.tuple #[.slice a n c, .int .i64 (fopn b).2.1, .int .i64 ((fopn b).2.2 : Nat)]) ∧ OwR w' w.heap.size (.slice a n c) vs ∧ KTx w' w.heap.size w'.heap.size (.slice a n c) vs (fopn b).1
theorem RoPost.no {w w' : World} {b : List UInt8} {e : Int} {q : Nat} (h : fopn b = ([], e, q)) (hb : Below w.heap.size w w') : RoPost w b (.returned (.tuple #[.slice none 0 0, .int .i64 e, .int .i64 (q : Nat)])) w' :=
  ⟨hb, none, 0, 0, [], by rw [h], OwZ.nil _ _ _ _ _, by rw [h]; exact KTx.nil _ _ _ _⟩
set_option maxRecDepth 100000 in
set_option maxHeartbeats 8000000 in
theorem ropen8_any (ab : Option Addr) (nb cb : Nat) (b : List UInt8) (w : World) (hnb : nb ≤ 140737488351232) (hB : Sl Bf w ab nb cb b) :
    Calls Tryz.prog 10 #[.slice ab nb cb] w (RoPost w b) := by
  obtain rfl : b.length = nb := hB.len
  have hle := hB.le
  have H := hid hB
  have hct8 : ∀ W : World, (Instr.slice 22 (.slice ab b.length cb) none (some (.int .i64 8)) none).run Tryz.prog W = .ok (.slice ab 8 cb) W ∨ cb < 8 := fun W => by
    by_cases h : 8 ≤ cb
    · exact .inl (run_cutto eltB W ab b.length cb .i64 8 h)
    · exact .inr (by omega)
  have stt := fun (W : World) (a : Option Addr) (n c : Nat) (xs : List UInt8) (h : Sl Bf W a n c xs) => run_str (P := Tryz.prog) (dst := 9) Tryz.underlying22 Tryz.underlying5 (by kernel_rfl) W a n c xs h
  have STT := hid stt
  clear hB stt
  obtain ⟨bb, hbb⟩ : ∃ bb, decide (b.take 8 ≠ headB) = bb := ⟨_, rfl⟩
  have HBB := hid hbb
  clear hbb
  have B0 := hid (Below.refl w.heap.size w)
  go_enter Tryz.func10, Tryz.ntmps10
  go_upto_region 1 with (fail)
  go_cut [24] (fun v wx => v = .bool bb ∧ Below w.heap.size w wx)
  case first =>
    by_cases h8 : b.length < 8
    · have t1 : decide ((b.length : Int) < 8) = true := decide_eq_true (by omega)
      have t1' : decide (b.length < 8) = true := decide_eq_true h8
      have hb1 : bb = true := by rw [← HBB.out]; exact decide_eq_true fun e => by have := congrArg List.length e; rw [List.length_take] at this; have e2 : headB.length = 8 := rfl; omega
      subst hb1
      clear hct8
      go_wp2_with fail
      go_quiet (fail)
      go_wp2_with fail
      go_meet
      exact ⟨rfl, keep_drewN (Below.refl _ _) _⟩
    · have t1 : decide ((b.length : Int) < 8) = false := decide_eq_false (by omega)
      have t1' : decide (b.length < 8) = false := decide_eq_false h8
      have hct : ∀ W : World, (Instr.slice 22 (.slice ab b.length cb) none (some (.int .i64 8)) none).run Tryz.prog W = .ok (.slice ab 8 cb) W := fun W => (hct8 W).resolve_right (by omega)
      have hcv := STT.out w.drew ab 8 cb (b.take 8) ((H.out.upto 8 (by omega)).keep (keep_drewN (Below.refl _ _) 1))
      clear hct8
      go_region_with ((go_at_call 40; refine (rhead_any _).mono ?_; rintro e w3 ⟨x3, rfl, ho3, hb3⟩; obtain ⟨a3, n3, c3, rfl, z3⟩ := ho3.slN; have B3 := hid (keep_trans (keep_drewN (Below.refl w.heap.size w) 1) hb3); have q1 := STT.out w3 ab 8 cb (b.take 8) ((H.out.upto 8 (by omega)).keep B3.out); have q2 := STT.out w3 a3 n3 c3 headB z3; clear ho3 hb3 z3))
      all_goals
        have u6 := hid (strB_neG (b.take 8) headB)
        go_wp2_with fail
        go_meet
        exact ⟨congrArg Value.bool (u6.out.trans HBB.out), B3.out⟩
  case rest =>
    obtain ⟨rfl, hb⟩ := hcut
    obtain ⟨w1, rfl⟩ : ∃ w5, w5 = wc := ⟨_, rfl⟩
    have B1 := hid hb
    clear hb hct8 B0
    cases bb with
    | true =>
      have FIN := hid (show fopn b = ([], 81, 0) by unfold fopn; exact if_pos (of_decide_eq_true HBB.out))
      go_wp2_with fail
      go_ret3
      exact RoPost.no (q := 0) FIN.out B1.out
    | false =>
    have hp : b.take 8 = headB := Classical.byContradiction fun e => of_decide_eq_false HBB.out e
    by_cases hl : b.length < 20
    · have r1 : IntKind.i64.wrap ((b.length : Int) - 12) = (b.length : Int) - 12 := IntWalk.i64_in _ (by omega)
      have t2 : decide ((b.length : Int) - 12 < 8) = true := decide_eq_true (by omega)
      have FIN := hid (show fopn b = ([], 85, 8) by unfold fopn; rw [if_neg (fun e => e hp)]; exact if_pos hl)
      clear hp hl
      go_wp2_with fail
      go_ret3
      exact RoPost.no (q := 8) FIN.out B1.out
    obtain ⟨t, ht⟩ : ∃ t, b.length - 12 = t := ⟨_, rfl⟩
    have r1 : IntKind.i64.wrap ((b.length : Int) - 12) = (t : Int) := by rw [IntWalk.i64_in _ (by omega)]; omega
    have t2 : decide ((t : Int) < 8) = false := decide_eq_false (by omega)
    have t2' : decide (t < 8) = false := decide_eq_false (by omega)
    have ht8 : 8 ≤ t := by omega
    have htb : t ≤ b.length := by omega
    have htm : t ≤ 140737488351232 := by omega
    have hct : ∀ W : World, (Instr.slice 22 (.slice ab b.length cb) (some (.int .i64 (t : Nat))) none none).run Tryz.prog W = .ok (.slice (adv ab cb t) 12 (cb - t)) W := fun W => by
      have := run_cutfrom eltB W ab b.length cb .i64 t (by omega)
      rwa [show b.length - t = 12 by omega] at this
    obtain ⟨T, hT⟩ : ∃ T, b.drop t = T := ⟨_, rfl⟩
    have hTl : T.length = 12 := by rw [← hT, List.length_drop]; omega
    have ST := hid (show Sl Bf w (adv ab cb t) 12 (cb - t) T by have := H.out.from t (by omega); rwa [hT, show b.length - t = 12 by omega] at this)
    have FO := hid (show fopn b = fopP b (fplc T t) by unfold fopn; rw [if_neg (fun e => e hp), if_neg hl, ht, hT])
    have HT := hid ht
    have HL := hid (show b.length = t + 12 by omega)
    obtain ⟨aT, haT⟩ : ∃ a, adv ab cb t = a := ⟨_, rfl⟩
    obtain ⟨cT, hcT⟩ : ∃ c, cb - t = c := ⟨_, rfl⟩
    rw [haT, hcT] at hct ST
    have HTL := hid hTl
    clear hp hl ht hT haT hcT hTl
    go_wp2_with fail
    go_loopw [6] (fun v wr => ∃ k : Nat, v = .int .i64 (k : Nat) ∧ 8 ≤ k ∧ k ≤ t + 1 ∧ (∀ p, 8 ≤ p → p < k → T ≠ tailB p) ∧ Below w.heap.size w wr) (fun v _ => t + 1 - (intOf v).toNat)
    case atStart => exact ⟨8, rfl, Nat.le_refl _, by omega, fun p h1 h2 => by omega, B1.out⟩
    case round =>
      obtain ⟨k, rfl, hk8, hkt, hkn, hb⟩ := hrel
      have BR := hid hb
      have KN := hid hkn
      obtain ⟨b2, hb2⟩ : ∃ b2, (decide (k ≤ t) && decide (T ≠ tailB k)) = b2 := ⟨_, rfl⟩
      have HB2 := hid hb2
      clear hb hkn hb2 B1
      go_upto_region 7 with (fail)
      go_cut [42] from 30 to 44 (fun v wx => v = .bool b2 ∧ Below w.heap.size w wx)
      case first =>
        by_cases hk : k ≤ t
        · have t3 : decide ((k : Int) ≤ (t : Int)) = true := decide_eq_true (by omega)
          have t3' : decide (k ≤ t) = true := decide_eq_true hk
          have e2 := hid (show b2 = decide (T ≠ tailB k) by rw [← HB2.out, t3']; rfl)
          refine rtail_reg wr hk htm hct (hid (ST.out.keep BR.out)) ?_
          intro x30 x31 x32 x33 x34 x35 x36 x37 x38 x39 x40 x41 wx hbx
          have B3 := hid (keep_trans BR.out hbx)
          clear hbx hct
          go_wp2_with fail
          go_meet
          exact ⟨congrArg Value.bool (by rw [e2.out]; exact decide_not.symm), B3.out⟩
        · have t3 : decide ((k : Int) ≤ (t : Int)) = false := decide_eq_false (by omega)
          have t3' : decide (k ≤ t) = false := decide_eq_false hk
          have e2 : b2 = false := by rw [← HB2.out, t3']; rfl
          subst e2
          clear hct
          go_wp2_with fail
          go_quiet (fail)
          go_wp2_with fail
          go_meet
          exact ⟨rfl, keep_drewN BR.out _⟩
      case rest =>
        obtain ⟨rfl, hb⟩ := hcut
        obtain ⟨w1, rfl⟩ : ∃ w5, w5 = wc := ⟨_, rfl⟩
        have B2 := hid hb
        clear hb BR
        cases b2 with
        | true =>
          have hh := HB2.out
          rw [Bool.and_eq_true, decide_eq_true_eq, decide_eq_true_eq] at hh
          obtain ⟨hh1, hh2⟩ := hh
          have HH2 := hid hh2
          clear hh2
          have r2 : IntKind.i64.wrap ((k : Int) + 1) = (k : Int) + 1 := IntWalk.i64_in _ (by omega)
          go_wp2_with fail
          go_roundw
          case rel => exact ⟨k + 1, by go_num, by omega, by omega, fun p h1 h2 => by rcases Nat.lt_or_ge p k with h | h; exact KN.out p h1 h; exact (show p = k by omega) ▸ HH2.out, B2.out⟩
          case measure => simp [intOf]; omega
        | false =>
        by_cases hk : k ≤ t
        case neg =>
          have t3 : decide ((k : Int) > (t : Int)) = true := decide_eq_true (by omega)
          have t3' : decide (t < k) = true := decide_eq_true (by omega)
          have ho : fplc T t = none := by
            cases h : fplc T t with
            | none => rfl
            | some p =>
              obtain ⟨q1, q2, q3⟩ := (fplc_some HTL.out (by omega)).1 h
              exact absurd q3 (KN.out p q1 (by omega))
          have FIN := hid (show fopn b = ([], 85, t) by rw [FO.out, ho]; unfold fopP; rw [HT.out])
          clear hk ho
          go_wp2_with fail
          go_ret3
          exact RoPost.no FIN.out B2.out
        have t3 : decide ((k : Int) > (t : Int)) = false := decide_eq_false (by omega)
        have t3' : decide (t < k) = false := decide_eq_false (by omega)
        have hTk : T = tailB k := by
          have hh := HB2.out
          rw [Bool.and_eq_false_iff, decide_eq_false_iff_not, decide_eq_false_iff_not] at hh
          rcases hh with h | h
          · exact absurd hk h
          · exact Classical.byContradiction h
        obtain ⟨F, hF⟩ : ∃ F, (b.take t).drop k = F := ⟨_, rfl⟩
        replace FO := hid (show fopn b = fopI k (fin F 70) by rw [FO.out, (fplc_some HTL.out (by omega)).2 ⟨hk8, hk, hTk⟩, ← hF, ← HT.out]; rfl)
        have FL : F.length = t - k := by rw [← hF, List.length_drop, List.length_take]; omega
        have HF := hid hF
        have HFL := hid FL
        clear hTk hF FL KN ST HTL hct
        have hcl : cb ≥ t := by omega
        by_cases hkt2 : k = t
        · have t4 : ((k : Int) == (t : Int)) = true := by rw [beq_iff_eq]; omega
          have t4' : (k == t) = true := by rw [beq_iff_eq]; exact hkt2
          have hF0 : F = [] := List.eq_nil_of_length_eq_zero (by have := HFL.out; omega)
          have FIN := hid (show fopn b = ([], 82, k) by rw [FO.out, hF0]; rfl)
          clear hkt2 hF0
          go_wp2_with fail
          go_ret3
          exact RoPost.no FIN.out B2.out
        have t4 : ((k : Int) == (t : Int)) = false := by rw [beq_eq_false_iff_ne]; omega
        have t4' : (k == t) = false := by rw [beq_eq_false_iff_ne]; exact hkt2
        have hkt3 : k < t := by omega
        clear hkt2
        obtain ⟨f, bF, oF, hf0, hadr, hfc⟩ := (H.out.keep B2.out).at k (by omega)
        have hfc : w1.cell? ⟨bF, oF + k, none⟩ = some (.int .u8 (B f)) := hfc
        have hfh : F.head? = some f := by
          rw [List.head?_eq_getElem?, ← HF.out, List.getElem?_drop, Nat.add_zero, List.getElem?_take_of_lt hkt3]; exact hf0
        have SL := hid (show Sl Bf w ab b.length cb b from H.out)
        have hll : k < b.length := by omega
        rw [hadr] at SL H ⊢
        by_cases hf : f = 70
        case neg =>
          have t5 : (B f != 70) = true := by rw [bne_iff_ne]; intro e; exact hf (by unfold B at e; exact UInt8.toNat_inj.1 (by show f.toNat = 70; omega))
          have FIN := hid (show fopn b = ([], 82, k) by rw [FO.out]; unfold fin; rw [if_pos (by rw [hfh]; intro e; exact hf (Option.some.inj e))]; rfl)
          clear hf hfh
          go_wp2_with fail
          go_ret3
          exact RoPost.no FIN.out B2.out
        have t5 : (B f != 70) = false := by rw [bne_eq_false_iff_eq, hf]; rfl
        obtain ⟨⟨M, d, e1⟩, hV⟩ : ∃ V, rd (F.drop 1) 0 0 = V := ⟨_, rfl⟩
        replace FO := hid (show fopn b = fopI k (finR F (M, d, e1)) by
          rw [FO.out]; unfold fin; rw [if_neg (by rw [hfh, hf]; simp), hV])
        have hto := fun W : World => run_cutto eltB W (some ⟨bF, oF, none⟩) b.length cb .i64 t (by omega)
        obtain ⟨kk, hkk⟩ : ∃ kk, k + 1 = kk := ⟨_, rfl⟩
        have rk : IntKind.i64.wrap ((k : Int) + 1) = (kk : Int) := by rw [IntWalk.i64_in _ (by omega)]; omega
        have VR := rread_any (some ⟨bF, oF, none⟩) t cb (b.take t) kk w1 (by omega) (by omega) ((SL.out.upto t htb).keep B2.out)
        rw [show (b.take t).drop kk = F.drop 1 by rw [← HF.out, List.drop_drop, hkk], hV] at VR
        dsimp only at VR
        obtain ⟨j1, hj1⟩ : ∃ j, kk + d = j := ⟨_, rfl⟩
        rw [hj1] at VR
        have VR := hid VR
        have HJ1 := hid (show j1 = k + (1 + d) by omega)
        have HV := hid hV
        have HKK := hid hkk
        clear hf hfh hf0 hfc hadr hV hj1 hkk
        go_wp2_with fail
        refine VR.out.mono ?_
        rintro r w2 ⟨rfl, rfl⟩
        clear VR hto
        by_cases he : e1 = 0
        case neg =>
          have t6 : (e1 != 0) = true := by rw [bne_iff_ne]; exact he
          have FIN := hid (show fopn b = ([], e1, j1) by rw [FO.out, HJ1.out]; unfold finR; dsimp only; rw [if_pos he]; unfold fopI; dsimp only; rw [if_pos he])
          clear he
          go_wp2_with fail
          go_ret3
          exact RoPost.no FIN.out B2.out
        subst he
        have t6 : ((0 : Int) != 0) = false := by decide
        have hd := (rd_in HV.out).1
        have hM := (rd_in HV.out).2
        have hjt : j1 ≤ t := by rw [List.length_drop, HFL.out] at hd; have := HJ1.out; omega
        have hjk : k + 1 ≤ j1 := by have := HJ1.out; omega
        have u1 : IntKind.i64.wrap ((t : Int) - (j1 : Int)) = (t : Int) - (j1 : Int) := by rw [IntKind.wrap_i64]; omega
        clear hd
        by_cases h4 : t < j1 + 4
        case pos =>
          have u2 : decide ((t : Int) - (j1 : Int) < 4) = true := decide_eq_true (by omega)
          have FIN := hid (show fopn b = ([], 83, kk) by rw [FO.out]; unfold finR; dsimp only; rw [if_neg (fun e => e rfl), if_pos (.inl (by rw [HFL.out]; have := HJ1.out; omega)), ← HKK.out]; rfl)
          go_wp2_with fail
          go_ret3
          exact RoPost.no FIN.out B2.out
        have u2 : decide ((t : Int) - (j1 : Int) < 4) = false := decide_eq_false (by omega)
        have u3 : IntKind.i64.wrap ((t : Int) - (j1 : Int) - 4) = (t : Int) - (j1 : Int) - 4 := by rw [IntKind.wrap_i64]; omega
        have u4 : IntKind.u64.wrap ((t : Int) - (j1 : Int) - 4) = ((t - j1 - 4 : Nat) : Int) := by rw [IntKind.wrap_u64]; omega
        obtain ⟨N, hN⟩ : ∃ N, t - j1 - 4 = N := ⟨_, rfl⟩
        rw [hN] at u4
        by_cases hmn : M = N
        case neg =>
          have u5 : ((M : Int) != (N : Int)) = true := by rw [bne_iff_ne]; omega
          have FIN := hid (show fopn b = ([], 83, kk) by rw [FO.out]; unfold finR; dsimp only; rw [if_neg (fun e => e rfl), if_pos (.inr (by rw [HFL.out]; have := HJ1.out; omega)), ← HKK.out]; rfl)
          clear hmn hN
          go_wp2_with fail
          go_ret3
          exact RoPost.no FIN.out B2.out
        have u5 : ((M : Int) != (N : Int)) = false := by rw [hmn]; simp
        have hcc := fun W : World => run_cut eltB W (some ⟨bF, oF, none⟩) b.length cb .i64 .i64 j1 t hjt (by omega)
        have FD := hid (show (b.take t).drop j1 = F.drop (1 + d) by rw [← HF.out, List.drop_drop, HJ1.out])
        have OP := ropen_any _ _ _ ((b.take t).drop j1) w1 (by omega) ((SL.out.cut j1 t hjt htb).keep B2.out)
        rw [FD.out] at OP
        have OP := hid OP
        replace FO := hid (show fopn b = fopI k (finC F d) by
          rw [FO.out]; unfold finR; dsimp only; rw [if_neg (fun e => e rfl), if_neg (by rw [HFL.out]; have := HJ1.out; omega)])
        clear hmn hN HV
        go_wp2_with fail
        refine OP.out.mono ?_
        rintro r w3 ⟨v, rfl, ho, hb⟩
        have B3 := hid (keep_trans B2.out hb)
        have O3 := hid ho
        obtain ⟨e2, he2⟩ : ∃ e, openE (F.drop (1 + d)) = e := ⟨_, rfl⟩
        obtain ⟨Bd, hBd⟩ : ∃ e, openV (F.drop (1 + d)) = e := ⟨_, rfl⟩
        rw [hBd] at O3
        rw [he2]
        have FO3 := hid (show fopn b = if e2 ≠ 0 then ([], e2, t - 4) else fopR k (1 + d) (fread Bd) by
          rw [FO.out]; unfold finC; rw [he2, hBd]
          by_cases h : e2 ≠ 0
          · rw [if_pos h, if_pos h]; unfold fopI; dsimp only; rw [if_pos h, HFL.out, show k + (t - k - 4) = t - 4 by omega]
          · rw [if_neg h, if_neg h]; unfold fopI; dsimp only; rw [if_neg (fun e => e rfl)])
        have BL := hid (show Bd.length ≤ t by
          rw [← hBd]; unfold openV
          split
          · exact Nat.zero_le _
          split
          · rw [List.length_take, List.length_drop, HFL.out]; omega
          · exact Nat.zero_le _)
        clear hb ho OP he2 hBd FO FD hcc
        by_cases he : e2 = 0
        case neg =>
          have t7 : (e2 != 0) = true := by rw [bne_iff_ne]; exact he
          obtain ⟨t9, ht9⟩ : ∃ t9, t - 4 = t9 := ⟨_, rfl⟩
          have u7 : IntKind.i64.wrap ((t : Int) - 4) = (t9 : Int) := by rw [IntWalk.i64_in _ (by omega)]; omega
          have FIN := hid (show fopn b = ([], e2, t9) by rw [FO3.out, if_pos he, ht9])
          clear he O3 ht9
          go_wp2_with fail
          go_ret3
          exact RoPost.no FIN.out B3.out
        subst he
        obtain ⟨a3, n3, c3, rfl, z3⟩ := O3.out.slN
        have hn3 : n3 = Bd.length := z3.len.symm
        have FR := rfread_any a3 n3 c3 Bd w3 (by have := BL.out; omega) z3
        obtain ⟨⟨rs, q5, e5⟩, hY⟩ : ∃ Y, fread Bd = Y := ⟨_, rfl⟩
        rw [hY] at FR
        dsimp only at FR
        have FR := hid FR
        have hq5 : q5 ≤ Bd.length := by have := fread_place Bd; rw [hY] at this; exact this
        have FO4 := hid (show fopn b = fopR k (1 + d) (rs, q5, e5) by rw [FO3.out, if_neg (fun e => e rfl), hY])
        obtain ⟨j2, hj2⟩ : ∃ j, j1 + q5 = j := ⟨_, rfl⟩
        have r3 : IntKind.i64.wrap ((j1 : Int) + (q5 : Int)) = (j2 : Int) := by have := BL.out; rw [IntWalk.i64_in _ (by omega)]; omega
        have HJ2 := hid hj2
        have HY := hid hY
        clear hj2 hY z3 hn3 O3 FO3
        go_wp2_with fail
        refine FR.out.mono ?_
        rintro e w5 ⟨ar, nr, cr, vs, rfl, hrow, hkey, hb⟩
        have B5 := hid (keep_trans B3.out hb)
        have O5 := hid (hrow.base B3.out.size)
        have K5 := hid (hkey.widen B3.out.size (Nat.le_refl _))
        have S5 := hid (KTx.spans hrow hkey)
        clear hb FR hrow hkey
        by_cases he : e5 = 0
        case neg =>
          have t8 : (e5 != 0) = true := by rw [bne_iff_ne]; exact he
          have FIN := hid (show fopn b = ([], e5, j2) by rw [FO4.out]; unfold fopR; dsimp only; rw [if_pos he, ← HJ2.out, HJ1.out])
          clear he
          go_wp2_with fail
          go_ret3
          exact RoPost.no FIN.out B5.out
        subst he
        have t8 : ((0 : Int) != 0) = false := by decide
        obtain ⟨m, hm, hm2⟩ := fread_end HY.out
        obtain ⟨hmany, hrr⟩ := fchk_in (fread_back HY.out).1
        have hnr : rs.length = nr := S5.out.1
        have hnr2 : nr ≤ 8388608 := by rw [← hnr]; exact hmany
        have FIN := hid (show fopn b = if m = k then (rs, 0, 0) else ([], 84, k) by
          rw [FO4.out]; unfold fopR; dsimp only; rw [if_neg (fun e => e rfl), hm]
          by_cases h : m = k
          · rw [if_pos h, if_neg (by omega)]
          · rw [if_neg h, if_pos (by omega)])
        have ALL := hid (fun (W : World) (hd : Drw w5 W) => show RoPost w b (.returned (.tuple #[if m = k then .slice ar nr cr else .slice none 0 0, .int .i64 (if m = k then 0 else 84), .int .i64 ((if m = k then 0 else k : Nat) : Int)])) W by
          refine ⟨keep_trans B5.out hd.below, ?_⟩
          by_cases h : m = k
          · rw [if_pos h, if_pos h, if_pos h]
            refine ⟨ar, nr, cr, vs, by rw [FIN.out, if_pos h], O5.out.of_block fun j hj => hd.below.block j (O5.out.t.lt j hj).2, ?_⟩
            rw [FIN.out, if_pos h]
            exact (K5.out.same fun j _ hj => hd.below.block j hj).widen (Nat.le_refl _) hd.below.size
          · rw [if_neg h, if_neg h, if_neg h]
            exact ⟨none, 0, 0, [], by rw [FIN.out, if_neg h], OwZ.nil _ _ _ _ _, by rw [FIN.out, if_neg h]; exact KTx.nil _ _ _ _⟩)
        have HNR := hid hnr
        have HRR := hid hrr
        have HM := hid hm
        clear hm hmany hrr hnr FO4 O5 K5 FIN
        cases nr with
        | zero =>
          have hrs : rs = [] := List.eq_nil_of_length_eq_zero HNR.out
          have hm8 : m = 8 := by have := HM.out; rw [hrs] at this; have h8 : endR [] = 8 := rfl; omega
          clear hrs
          by_cases h : m = k
          · have t9 : ((8 : Int) != (k : Int)) = false := by rw [bne_eq_false_iff_eq]; omega
            have A := ALL.out w5 (Drw.refl _)
            rw [if_pos h, if_pos h, if_pos h] at A
            have A := hid A
            clear h hm8
            go_wp2_with fail
            go_ret3
            exact A.out
          · have t9 : ((8 : Int) != (k : Int)) = true := by rw [bne_iff_ne]; omega
            have A := ALL.out w5 (Drw.refl _)
            rw [if_neg h, if_neg h, if_neg h] at A
            have A := hid A
            clear h hm8
            go_wp2_with fail
            go_ret3
            exact A.out
        | succ j =>
          obtain ⟨x, hx⟩ : ∃ r, rs[j]? = some r := ⟨_, List.getElem?_eq_getElem (by have := HNR.out; omega)⟩
          obtain ⟨bb, oo, al, nl, cl, ha, c0, c1, c2, c3, -⟩ := S5.out.rowF hx
          subst ha
          obtain ⟨x1, x2, x3, x4, x5⟩ := HRR.out j x hx
          have hend : x.2.1 + x.2.2.1 = (m : Int) := by
            rw [← HM.out]; unfold endR
            have : rs.getLast? = some x := by rw [List.getLast?_eq_getElem?, show rs.length - 1 = j by have := HNR.out; omega]; exact hx
            rw [this]
          have e1' : IntKind.i64.wrap ((j : Int) + 1 - 1) = (j : Int) := by rw [show (j : Int) + 1 - 1 = (j : Int) by omega]; exact IntWalk.i64_in _ (by omega)
          have e2' : IntKind.i64.wrap (x.2.1 + x.2.2.1) = (m : Int) := by rw [hend]; exact IntWalk.i64_in _ (by omega)
          have t10 : decide ((j : Int) + 1 > 0) = true := decide_eq_true (by omega)
          have t10' : decide (0 < (j : Int) + 1) = true := decide_eq_true (by omega)
          clear hx hend x1 x2 x3 x4 x5 c0 c3
          by_cases h : m = k
          · have t9 : ((m : Int) != (k : Int)) = false := by rw [bne_eq_false_iff_eq]; omega
            have t9' : (m != k) = false := by rw [bne_eq_false_iff_eq]; omega
            have A := hid (fun n => ALL.out (w5.drewN n) (by first | exact (Drw.refl _).more _ | exact ⟨_, rfl⟩))
            replace A := hid (fun n => by have := A.out n; rw [if_pos h, if_pos h, if_pos h] at this; exact this)
            clear h
            go_wp2_with fail
            go_quiet (fail)
            go_wp2_with fail
            go_ret3
            exact A.out _
          · have t9 : ((m : Int) != (k : Int)) = true := by rw [bne_iff_ne]; omega
            have t9' : (m != k) = true := by rw [bne_iff_ne]; omega
            have A := hid (fun n => ALL.out (w5.drewN n) (by first | exact (Drw.refl _).more _ | exact ⟨_, rfl⟩))
            replace A := hid (fun n => by have := A.out n; rw [if_neg h, if_neg h, if_neg h] at this; exact this)
            clear h
            go_wp2_with fail
            go_quiet (fail)
            go_wp2_with fail
            go_ret3
            exact A.out _
end Go.Proofs.YtljcogimeimknaaGreat
