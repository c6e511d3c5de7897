/- Bytes of a stream, the reference's: contract; lives. Conditions: the entries within reach. -/
import Derived.Test.YtljcogimeimknaaStmRAdd
import Derived.Test.YtljcogimeimknaaStmBytes
namespace Go.Proofs.Ytljcogimeimknaa
open Go.RowKit
set_option linter.unusedVariables false

set_option maxRecDepth 100000 in
set_option maxHeartbeats 4000000 in
theorem rbytesW_any (a : Option Addr) (n c : Nat) (l : List Ent) (N : Int) (w : World) (hn : n ≤ 2932031007317) (hf : Fit 140737488351232 l) (h : Ents w a n c l) :
    Calls Try.prog 10 #[.slice a n c, .int .i64 N] w fun e w' => ∃ a2 n2 c2, e = .returned (.tuple #[.slice a2 n2 c2, .int .i64 ((sbytes l N).2.1 : Nat), .int .i64 ((sbytes l N).2.2 : Nat)]) ∧ Sl Bf w' a2 n2 c2 (sbytes l N).1 ∧ Below w.heap.size w w' ∧ ∀ b o, a2 = some ⟨b, o, none⟩ → w.heap.size ≤ b := by
  obtain rfl : n = l.length := h.1.symm
  by_cases hN : N < 1 ∨ 64 < N
  · rw [sbytes_bad hN]
    by_cases h1 : N < 1
    · have t1 : decide (N < 1) = true := decide_eq_true h1
      clear h hf hN h1
      go_enter Try.func10, Try.ntmps10
      go_wp2_with fail
      go_ret3
      exact ⟨_, _, _, rfl, Sl.nil _ _, Below.refl _ _, fun b o e => by cases e⟩
    · have h2 : 64 < N := by omega
      have t1 : decide (N < 1) = false := decide_eq_false h1
      have t2 : decide (N > 64) = true := decide_eq_true h2
      have t3 : decide (64 < N) = true := decide_eq_true h2
      clear h hf hN h1 h2
      go_enter Try.func10, Try.ntmps10
      go_wp2_with fail
      go_ret3
      exact ⟨_, _, _, rfl, Sl.nil _ _, Below.refl _ _, fun b o e => by cases e⟩
  · obtain ⟨m, rfl⟩ : ∃ m : Nat, N = m := ⟨N.toNat, by omega⟩
    have hm1 : 1 ≤ m := by omega
    have hm2 : m ≤ 64 := by omega
    have t1 : decide ((m : Int) < 1) = false := decide_eq_false (by omega)
    have t2 : decide ((m : Int) > 64) = false := decide_eq_false (by omega)
    have t3 : decide (64 < (m : Int)) = false := decide_eq_false (by omega)
    have t3' : decide (64 < m) = false := decide_eq_false (by omega)
    have t1' : decide (m < 1) = false := decide_eq_false (by omega)
    rw [sbytes_ok hm1 hm2]
    obtain ⟨W, hW⟩ : ∃ W, wadds m 0 WS0 l = W := ⟨_, rfl⟩
    rw [hW]
    have HW := Lib.hid hW
    have H := Lib.hid h
    have HF := Lib.hid hf
    have I := Lib.hid (RWr.init (w0 := w) (Below.refl _ _) m)
    clear hN hW h hf
    go_enter Try.func10, Try.ntmps10
    go_upto_region 4 with (fail)
    obtain ⟨g, hg⟩ : ∃ g, w.heap.size = g := ⟨_, rfl⟩
    rw [hg] at I ⊢
    generalize w.alloc (.cells #[.int .i64 (m : Nat), .slice none 0 0, .slice none 0 0, .slice none 0 0, .bool false, .int .i64 0] 40) = w1 at *
    clear hg
    clear t1 t2 t3 t3' t1'
    go_wp2_with fail
    go_loopw [8] (fun i wr => ∃ (k : Nat) (s : WS) (who : Nat → Nat), k ≤ l.length ∧ i = .int .i64 (k : Nat) ∧ RWS w wr g m s who ∧ (s.Ok m ∧ s.shut = false) ∧ wadds m k s (l.drop k) = W) (fun i _ => l.length - (intOf i).toNat)
    case atStart => exact ⟨0, WS0, _, Nat.zero_le _, rfl, I.out, ⟨WS.Ok.zero ⟨hm1, hm2⟩, rfl⟩, HW.out⟩
    case round =>
      clear I HW
      obtain ⟨k, s, who, hk, rfl, hS, hok, hwd⟩ := hrel
      have S := Lib.hid hS
      have OK := Lib.hid hok
      have WD := Lib.hid hwd
      have BB := Lib.hid hS.low.2
      by_cases hlt : k < l.length
      · obtain ⟨⟨kk, xx⟩, hx⟩ : ∃ e, l[k]? = some e := ⟨_, List.getElem?_eq_getElem hlt⟩
        have ER := Ents.row H.out hx
        obtain ⟨b, o, ak, ck, av, cv, rfl, hf1, hf2, hall⟩ := ER
        obtain ⟨c0, c1, z0, z1⟩ := hall wr BB.out
        have Z0 := Lib.hid (hall w (Below.refl _ _)).2.2.1
        have Z1 := Lib.hid (hall w (Below.refl _ _)).2.2.2
        have hfe := HF.out _ (List.mem_of_getElem? hx)
        have HD := Lib.hid (edrop_cons2 hx)
        have hfe1 : kk.length ≤ 140737488351232 := hfe.1
        have hfe2 : xx.length ≤ 140737488351232 := hfe.2
        have hcode := add_code m s (kk, xx)
        clear hS hok hwd hx hf1 hf2 hall z0 z1 hfe
        go_wp2_with fail
        refine (raddW_any w wr g m s who ak kk.length ck kk av xx.length cv xx S.out OK.out.1 hfe1 hfe2 Z0.out Z1.out).mono ?_
        rintro e w4 ⟨rfl, who4, hS4, hG4⟩
        have S4 := Lib.hid hS4
        obtain ⟨q, hq⟩ : ∃ q, (s.add m (kk, xx)).1 = q := ⟨_, rfl⟩
        rw [hq] at hcode ⊢
        have HQ := Lib.hid hq
        clear hS4 hG4 hq Z0 Z1 S c0 c1
        by_cases hq0 : q = 0
        · subst hq0
          have t1 : ((0 : Int) != 0) = false := rfl
          go_wp2_with fail
          go_roundw
          case rel => exact ⟨k + 1, (s.add m (kk, xx)).2, who4, by omega, by go_num, S4.out, ⟨OK.out.1.add _, add_shut _ OK.out.2⟩, by have := WD.out; rw [HD.out, wadds_go HQ.out] at this; exact this⟩
          case measure => simp [intOf]; omega
        · have t1 : ((q : Int) != 0) = true := by rw [bne_iff_ne]; omega
          have t1' : (q != 0) = true := by rw [bne_iff_ne]; exact hq0
          have FIN := Lib.hid (show sbytesW W = ([], q, k) by
            have := WD.out
            rw [HD.out, wadds_bad (by rw [HQ.out]; exact hq0)] at this
            rw [← this, HQ.out]; unfold sbytesW; rw [if_pos hq0])
          clear hq0
          go_wp2_with fail
          go_ret3
          rw [FIN.out]
          exact ⟨_, _, _, rfl, Sl.nil _ _, S4.out.low.2, fun b o e => by cases e⟩
      · obtain rfl : k = l.length := by omega
        obtain ⟨nl, hnl⟩ : ∃ nl, l.length = nl := ⟨_, rfl⟩
        have HNL := Lib.hid hnl
        rw [hnl]
        clear hS hok hwd hlt hk hn hnl
        have hcl := Lib.hid (rclose_any w wr g m s who S.out OK.out.1)
        rw [OK.out.2] at hcl
        go_wp2_with fail
        refine hcl.out.mono ?_
        rintro e w2 ⟨rfl, who2, hS2, hG2⟩
        have S2 := Lib.hid (show RWS w w2 g m s.close who2 from hS2)
        clear hS2 hG2 hcl
        go_wp2_with fail
        refine (rnext_any w w2 g m s.close who2 S2.out (OK.out.1.close OK.out.2)).mono ?_
        rintro e w3 ⟨a3, n3, c3, rfl, hs3, ⟨who3, hS3, hG3⟩, hfr⟩
        have FR := Lib.hid hfr
        have L2 := Lib.hid S2.out.low.2.size
        have O3 := Lib.hid hs3
        have B3 := Lib.hid hS3.low.2
        clear hs3 hS3 hG3 hfr
        go_wp2_with fail
        go_ret3
        have FIN : sbytesW W = (s.close.ready, 0, 0) := by
          have := WD.out
          rw [List.drop_length, wadds_nil] at this
          rw [← this]; rfl
        rw [FIN]
        exact ⟨_, _, _, rfl, O3.out, B3.out, fun b o e => Nat.le_trans L2.out (FR.out b o e)⟩

theorem sbytes_nil : (sbytes [] 1).1.length = 28 ∧ (sbytes [] 1).2 = (0, 0) := by
  have hv : ∀ n, n < 128 → (vb n).length = 1 := fun n h => by rw [vb_lt h]; rfl
  have e0 : WS0.close.ready = headB ++ finB [] := by
    have e1 : WS0.close.ready = WS0.close.whole := rfl
    have e2 : WS0.close.whole = headB ++ outL [] ++ finB [] := rfl
    rw [e1, e2]; rfl
  have e1 : sbytes [] 1 = (WS0.close.ready, 0, 0) := rfl
  have hfc : fchk (rowsL []) = (0, 0) := rfl
  have hfb : (fbs (rowsL [])).length = 2 := by
    rw [fbs_yes (by rw [hfc])]
    have h0 : totU (rowsL []) = 0 := rfl
    have hr : rowsL [] = [] := rfl
    unfold fbytes
    rw [h0, hr]
    simp [hv]
  rw [e1, e0]
  refine ⟨?_, rfl⟩
  show (headB ++ finB []).length = 28
  unfold finB
  rw [List.length_append, List.length_append, tailB_len, frm_len, hfb, hv 2 (by decide)]
  rfl

set_option maxRecDepth 100000 in
theorem lives_any (w : World) : Calls Try.prog 7 #[] w fun e w' => e = .returned (.bool true) ∧ Below w.heap.size w w' := by
  have HB := sbytes_any none 0 0 [] 1 w (by decide) (fun e he => by simp at he) ⟨rfl, Nat.le_refl _, fun _ => rfl, fun i k v h => by simp at h⟩
  have h1 := sbytes_nil.1
  have h2 := sbytes_nil.2
  obtain ⟨⟨b, r⟩, hb⟩ : ∃ X, sbytes [] 1 = X := ⟨_, rfl⟩
  rw [hb] at HB h1 h2
  have h2 : r = (0, 0) := h2
  subst h2
  have HB := Lib.hid HB
  have H1 := Lib.hid h1
  clear h1 hb
  go_enter Try.func7, Try.ntmps7
  go_wp2_with fail
  refine HB.out.mono ?_
  rintro e w1 ⟨x1, rfl, ho, hb⟩
  obtain ⟨a1, n1, c1, rfl, z1⟩ := ho.slN
  have hn : n1 = 28 := by rw [← z1.len]; exact H1.out
  subst hn
  have B1 := Lib.hid hb
  clear ho hb z1
  go_wp2_with fail
  go_ret
  exact ⟨rfl, B1.out⟩
end Go.Proofs.Ytljcogimeimknaa
