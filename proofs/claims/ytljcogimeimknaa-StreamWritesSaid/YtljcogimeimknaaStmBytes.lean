/- Bytes of a stream, the program's: contract. Conditions: the entries within reach. -/
import Derived.Test.YtljcogimeimknaaStmBytesM
import Derived.Test.YtljcogimeimknaaStmAdd
import Derived.Test.YtljcogimeimknaaStmClose
import Derived.Test.YtljcogimeimknaaK8c
namespace Go.Proofs.Ytljcogimeimknaa
open Go.RowKit
set_option linter.unusedVariables false

theorem Gr.keepB {w0 w w' : World} {lo : Nat} {who who' : Nat → Nat} (h : Gr w w' who who') (hl : ∀ j, who j ≠ 0 → lo ≤ j) (hb : Below lo w0 w) (hlo : lo ≤ w.heap.size) : Below lo w0 w' := h.t.below hb hlo hl

set_option maxRecDepth 100000 in
set_option maxHeartbeats 4000000 in
theorem sbytes_any (a : Option Addr) (n c : Nat) (l : List Ent) (N : Int) (w : World) (hn : n ≤ 2932031007317) (hf : Fit 140737488351232 l) (h : Ents w a n c l) :
    Calls Try.prog 9 #[.slice a n c, .int .i64 N] w fun e w' => ∃ v, e = .returned (.tuple #[v, .int .i64 ((sbytes l N).2.1 : Nat), .int .i64 ((sbytes l N).2.2 : Nat)]) ∧ OwT fB w' w.heap.size 5 v (sbytes l N).1 ∧ Below w.heap.size w w' := by
  obtain rfl : n = l.length := h.1.symm
  by_cases hN : N < 1 ∨ 64 < N
  · rw [sbytes_bad hN]
    have NB := Lib.hid (snewbad_any N w hN)
    clear h hf hN
    go_enter Try.func9, Try.ntmps9
    go_wp2_with (go_at_call 14; refine NB.out.mono ?_; rintro e w1 ⟨rfl, rfl⟩)
    go_ret3
    exact ⟨_, rfl, OwT.nil _ _ _ _, Below.refl _ _⟩
  · obtain ⟨m, rfl⟩ : ∃ m : Nat, N = m := ⟨N.toNat, by omega⟩
    have hm1 : 1 ≤ m := by omega
    have hm2 : m ≤ 64 := by omega
    rw [sbytes_ok hm1 hm2]
    obtain ⟨W, hW⟩ : ∃ W, wadds m 0 WS0 l = W := ⟨_, rfl⟩
    rw [hW]
    have HW := Lib.hid hW
    have H := Lib.hid h
    have HF := Lib.hid hf
    clear hN hW h hf
    go_enter Try.func9, Try.ntmps9
    go_wp2_with fail
    refine (snew_any m w hm1 hm2).mono ?_
    rintro e w1 ⟨g, who, rfl, hS, hb⟩
    have S1 := Lib.hid hS
    have B1 := Lib.hid hb
    clear hS hb
    go_wp2_with fail
    go_loopw [22] (fun i wr => ∃ (k : Nat) (s : WS) (who : Nat → Nat), k ≤ l.length ∧ i = .int .i64 (k : Nat) ∧ WrS wr w.heap.size g m s who ∧ (s.Ok m ∧ s.shut = false) ∧ wadds m k s (l.drop k) = W ∧ Below w.heap.size w wr) (fun i _ => l.length - (intOf i).toNat)
    case atStart => exact ⟨0, WS0, who, Nat.zero_le _, rfl, S1.out, ⟨WS.Ok.zero ⟨hm1, hm2⟩, rfl⟩, HW.out, B1.out⟩
    case round =>
      clear S1 B1 HW
      obtain ⟨k, s, who, hk, rfl, hS, hok, hwd, hb⟩ := hrel
      have S := Lib.hid hS
      have OK := Lib.hid hok
      have WD := Lib.hid hwd
      have BB := Lib.hid hb
      by_cases hlt : k < l.length
      · obtain ⟨⟨kk, xx⟩, hx⟩ : ∃ e, l[k]? = some e := ⟨_, List.getElem?_eq_getElem hlt⟩
        have ER := Ents.row H.out hx
        obtain ⟨b, o, ak, ck, av, cv, rfl, hf1, hf2, hall⟩ := ER
        obtain ⟨c0, c1, z0, z1⟩ := hall wr hb
        have hfe := HF.out _ (List.mem_of_getElem? hx)
        have hal : Below wr.heap.size wr (wr.alloc (.cells #[.slice ak kk.length ck, .slice av xx.length cv] 42)) := (Below.refl _ _).alloc (Nat.le_refl _) _
        have S2 := Lib.hid (hS.keep hal)
        have Z0 := Lib.hid (z0.keep hal)
        have Z1 := Lib.hid (z1.keep hal)
        have B2 := Lib.hid (keep_trans hb hal)
        have BX := Lib.hid (heap_new wr (.cells #[.slice ak kk.length ck, .slice av xx.length cv] 42))
        have LOW := Lib.hid hS.low.1
        have F1 := Lib.hid (show ∀ b o, ak = some ⟨b, o, none⟩ → 0 < kk.length → who b = 0 from fun b o e h0 => Classical.byContradiction fun e2 => by have := hf1 b o e h0; have := (LOW.out b e2).1; omega)
        have F2 := Lib.hid (show ∀ b o, av = some ⟨b, o, none⟩ → 0 < xx.length → who b = 0 from fun b o e h0 => Classical.byContradiction fun e2 => by have := hf2 b o e h0; have := (LOW.out b e2).1; omega)
        have HD := Lib.hid (edrop_cons2 hx)
        have hfe1 : kk.length ≤ 140737488351232 := hfe.1
        have hfe2 : xx.length ≤ 140737488351232 := hfe.2
        have hcode := add_code m s (kk, xx)
        clear hS hok hwd hb hx hf1 hf2 hall z0 z1 hfe
        go_upto_region 7 with (fail)
        obtain ⟨ge, hge⟩ : ∃ z, wr.heap.size = z := ⟨_, rfl⟩
        rw [hge] at BX
        rw [hge]
        clear c0 c1 hge hal S BB
        generalize wr.alloc (.cells #[.slice ak kk.length ck, .slice av xx.length cv] 42) = w3 at *
        have x0 := cell_of BX.out 0 rfl
        have x1 := cell_of BX.out 1 rfl
        go_wp2_with fail
        refine (sadd_any w3 w.heap.size g m s who ak kk.length ck kk av xx.length cv xx S2.out OK.out.1 hfe1 hfe2 Z0.out Z1.out F1.out F2.out).mono ?_
        rintro e w4 ⟨rfl, who4, hS4, hG4⟩
        have S4 := Lib.hid hS4
        have B4 := Lib.hid (hG4.keepB (fun j hj => (LOW.out j hj).1) B2.out B2.out.size)
        obtain ⟨q, hq⟩ : ∃ q, (s.add m (kk, xx)).1 = q := ⟨_, rfl⟩
        rw [hq] at hcode ⊢
        have HQ := Lib.hid hq
        clear hS4 hG4 hq x0 x1 BX Z0 Z1 S2 B2 F1 F2
        by_cases hq0 : q = 0
        · subst hq0
          have t1 : ((0 : Int) != 0) = false := rfl
          go_wp2_with fail
          go_roundw
          case rel => exact ⟨k + 1, (s.add m (kk, xx)).2, who4, by omega, by go_num, S4.out, ⟨OK.out.1.add _, add_shut _ OK.out.2⟩, by have := WD.out; rw [HD.out, wadds_go HQ.out] at this; exact this, B4.out⟩
          case measure => simp [intOf]; omega
        · have t1 : ((q : Int) != 0) = true := by rw [bne_iff_ne]; omega
          have t1' : (q != 0) = true := by rw [bne_iff_ne]; exact hq0
          have FIN := Lib.hid (show sbytesW W = ([], q, k) by
            have := WD.out
            rw [HD.out, wadds_bad (by rw [HQ.out]; exact hq0)] at this
            rw [← this, HQ.out]; unfold sbytesW; rw [if_pos hq0])
          clear hq0
          go_wp2_with fail
          go_ret3
          rw [FIN.out]
          exact ⟨_, rfl, OwT.nil _ _ _ _, B4.out⟩
      · obtain rfl : k = l.length := by omega
        clear hS hok hwd hb
        have hcl := Lib.hid (sclose_any wr w.heap.size g m s who S.out OK.out.1)
        rw [OK.out.2] at hcl
        go_wp2_with fail
        refine hcl.out.mono ?_
        rintro e w2 ⟨rfl, who2, hS2, hG2⟩
        have B2 := Lib.hid (hG2.keepB (fun j hj => (S.out.low.1 j hj).1) BB.out BB.out.size)
        have S2 := Lib.hid (show WrS w2 w.heap.size g m s.close who2 from hS2)
        clear hS2 hG2 hcl
        go_wp2_with fail
        refine (snext_any w2 w.heap.size g m s.close who2 S2.out (OK.out.1.close OK.out.2)).mono ?_
        rintro e w3 ⟨a3, n3, c3, who3, rfl, ho3, hS3, hG3, -⟩
        have O3 := Lib.hid ho3
        have B3 := Lib.hid (hG3.keepB (fun j hj => (S2.out.low.1 j hj).1) B2.out B2.out.size)
        clear ho3 hS3 hG3
        go_wp2_with fail
        go_ret3
        have FIN : sbytesW W = (s.close.ready, 0, 0) := by
          have := WD.out
          rw [List.drop_length, wadds_nil] at this
          rw [← this]; rfl
        rw [FIN]
        exact ⟨_, rfl, O3.out, B3.out⟩
end Go.Proofs.Ytljcogimeimknaa
