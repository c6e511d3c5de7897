/- Do entries rise: the reference. Conditions: the entries within reach. -/
import Derived.Test.YteedjgjkldbbcaaEntKept
namespace Go.Proofs.Yteedjgjkldbbcaa
open Go.RowKit
set_option linter.unusedVariables false

set_option maxRecDepth 100000 in
set_option maxHeartbeats 1000000 in
theorem rsorted_any (a : Option Addr) (n c : Nat) (es : List Ent) (w : World) (hn : n ≤ 2932031007317) (hf : Fit 140737488351232 es) (h : Ents w a n c es) :
    Calls Try.prog 38 #[.slice a n c] w fun e w' => e = .returned (.tuple #[.int .i64 ((srt es).1 : Nat), .int .i64 ((srt es).2 : Nat)]) ∧ Below w.heap.size w w' := by
  obtain rfl : n = es.length := h.1.symm
  have H := Lib.hid h; clear h
  have HF := Lib.hid hf; clear hf
  obtain ⟨⟨r0, r1⟩, hr⟩ : ∃ R, srt es = R := ⟨_, rfl⟩
  rw [hr]
  have HR := Lib.hid hr; clear hr
  go_enter Try.func38, Try.ntmps38
  go_wp2_with fail
  go_loopw [4] (fun i wr => ∃ (k : Nat) (l : List UInt8), k ≤ es.length ∧ i = .int .i64 k ∧ (∀ j, k = j + 1 → ∃ v, es[j]? = some (l, v)) ∧ srtFrom k l (es.drop k) = (r0, r1) ∧ Below w.heap.size w wr) (fun i _ => es.length - (intOf i).toNat)
  case atStart => exact ⟨0, [], Nat.zero_le _, rfl, (fun j hj => by cases hj), HR.out, Below.refl _ _⟩
  case round =>
    obtain ⟨k, l, hk, rfl, hl, hr, hb⟩ := hrel
    have HL := Lib.hid hl; clear hl
    have B := Lib.hid hb; clear hb
    have hws := B.out.size
    by_cases hlt : k < es.length
    · obtain ⟨⟨kk, vv⟩, hx⟩ : ∃ e, es[k]? = some e := ⟨_, List.getElem?_eq_getElem hlt⟩
      obtain ⟨fk, fv⟩ := HF.out _ (List.mem_of_getElem? hx)
      obtain ⟨b, o, ak, nk, ck, av, nv, cv, rfl, c0, c1, s0, s1⟩ := (H.out.keep B.out).2.2.2 k kk vv hx
      rw [edrop_cons hx] at hr
      have HX := Lib.hid hx; clear hx
      have l0 := s0.len; have l1 := s1.len
      dsimp only at fk fv
      rw [l0] at fk; rw [l1] at fv
      have hchk : chk (kk, vv) = chkN nk nv := by unfold chk; rw [l0, l1]
      obtain ⟨q, hq⟩ : ∃ q, chkN nk nv = q := ⟨_, rfl⟩
      have hck := fun W : World => rcheck_any ak nk ck av nv cv W fk fv
      rw [hq] at hck
      have HCK := Lib.hid hck; clear hck
      have S0 := Lib.hid s0; clear s0 s1 l0 l1
      go_wp2_with fail
      refine (HCK.out _).mono ?_
      rintro e w2 ⟨rfl, hb2⟩
      replace S0 := Lib.hid (S0.out.keep hb2)
      replace c0 : w2.cell? ⟨b, o + k * 2, none⟩ = some (.slice ak nk ck) := (World.cell?_of_block (a := ⟨b, _, none⟩) (hb2.block b (cell_lt c0))).trans c0
      replace B := Lib.hid (keep_trans B.out hb2)
      clear hb2 c1
      by_cases hq0 : q = 0
      · subst hq0
        have hz : ¬ chk (kk, vv) ≠ 0 := by rw [hchk, hq]; simp
        obtain ⟨p, hp⟩ : ∃ p, cmp l kk = p := ⟨_, rfl⟩
        by_cases hk0 : 0 < k
        · obtain ⟨j, rfl⟩ : ∃ j, k = j + 1 := ⟨k - 1, by omega⟩
          obtain ⟨lv, hlj⟩ := HL.out j rfl
          obtain ⟨b', o', al, nl, cl, _, _, _, e0, d0, _, z0, _⟩ := (H.out.keep B.out).2.2.2 j l lv hlj
          cases e0
          obtain ⟨fl, _⟩ := HF.out _ (List.mem_of_getElem? hlj)
          have z1 := z0.len
          dsimp only at fl
          rw [z1] at fl
          have HC := Lib.hid (fun q => rcompare_q al nl cl l ak nk ck kk (w2.drewN q) fl fk (z0.drewN q) (S0.out.drewN q))
          rw [hp] at HC
          clear z0 z1 hlj
          have hg0 : ((j + 1 : Nat) : Int) > 0 := by omega
          have e1 : IntKind.i64.wrap ((j : Int) + 1 - 1) = (j : Int) := by rw [show (j : Int) + 1 - 1 = (j : Int) by omega]; exact IntWalk.i64_in _ (by omega)
          by_cases hp0 : 0 ≤ p
          · rw [srt_cmp hz ⟨hk0, by rw [hp]; exact hp0⟩] at hr
            obtain ⟨rfl, rfl⟩ : j + 1 = r0 ∧ 51 = r1 := by simpa using hr
            clear hr hchk hq hz hp
            go_wp2_with fail
            go_quiet ((go_at_call 47; exact Calls.quiet_of_drw (HC.out _)))
            go_wp2_with fail
            go_ret2
            exact ⟨rfl, keep_drewN B.out _⟩
          · rw [srt_go hz (fun h => by rw [hp] at h; exact hp0 h.2)] at hr
            have HR2 := Lib.hid hr
            clear hr hchk hq hz hp
            go_wp2_with fail
            go_quiet ((go_at_call 47; exact Calls.quiet_of_drw (HC.out _)))
            go_wp2_with fail
            go_roundw
            case rel => exact ⟨j + 1 + 1, kk, by omega, by go_num, (fun i hi => by obtain rfl : j + 1 = i := by omega
                                                                                   exact ⟨vv, HX.out⟩), HR2.out, keep_drewN B.out _⟩
            case measure => simp [intOf]; omega
        · have hk1 : ¬ (k : Int) > 0 := by omega
          have hk2 : decide (0 < k) = false := decide_eq_false hk0
          rw [srt_go hz (fun h => hk0 h.1)] at hr
          have HR2 := Lib.hid hr
          clear hr hchk hq hz hp
          go_wp2_with fail
          go_quiet (fail)
          go_wp2_with fail
          go_roundw
          case rel => exact ⟨k + 1, kk, by omega, by go_num, (fun i hi => by obtain rfl : k = i := by omega
                                                                             exact ⟨vv, HX.out⟩), HR2.out, keep_drewN B.out _⟩
          case measure => simp [intOf]; omega
      · rw [srt_chk (show chk (kk, vv) ≠ 0 by rw [hchk, hq]; exact hq0)] at hr
        obtain ⟨rfl, rfl⟩ : k = r0 ∧ q = r1 := by rw [hchk, hq] at hr; simpa using hr
        have f1 : ((q : Int) != 0) = true := by rw [bne_iff_ne]; omega
        have f2 : (q != 0) = true := by rw [bne_iff_ne]; omega
        clear hr hchk hq hq0
        go_wp2_with fail
        go_ret2
        exact ⟨rfl, B.out⟩
    · have hpe : es.drop k = [] := List.drop_of_length_le (by omega)
      rw [hpe, srt_nil] at hr
      obtain ⟨rfl, rfl⟩ : 0 = r0 ∧ 0 = r1 := by simpa using hr
      clear hr hpe
      go_wp2_with fail
      go_ret2
      exact ⟨rfl, B.out⟩
end Go.Proofs.Yteedjgjkldbbcaa
