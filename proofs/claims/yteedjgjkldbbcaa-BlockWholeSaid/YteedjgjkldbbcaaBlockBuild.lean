/- Build, the program's: contract; lives. Conditions: the entries within reach. -/
import Derived.Test.YteedjgjkldbbcaaBlockBytes
import Derived.Test.YteedjgjkldbbcaaEntKept
namespace Go.Proofs.Yteedjgjkldbbcaa
open Go.RowKit
set_option linter.unusedVariables false

/-- an entry of a list in memory, now and behind whatever keeps it -/
theorem Ents.row {w : World} {a : Option Addr} {n c : Nat} {es : List Ent} (h : Ents w a n c es) {i : Nat} {k v : List UInt8} (hi : es[i]? = some (k, v)) :
    ∃ b o ak ck av cv, a = some ⟨b, o, none⟩ ∧ (∀ b' o', ak = some ⟨b', o', none⟩ → 0 < k.length → b' < w.heap.size) ∧ (∀ b' o', av = some ⟨b', o', none⟩ → 0 < v.length → b' < w.heap.size) ∧
      ∀ W, Below w.heap.size w W → W.cell? ⟨b, o + i * 2, none⟩ = some (.slice ak k.length ck) ∧ W.cell? ⟨b, o + i * 2 + 1, none⟩ = some (.slice av v.length cv) ∧ Sl Bf W ak k.length ck k ∧ Sl Bf W av v.length cv v := by
  obtain ⟨b, o, ak, nk, ck, av, nv, cv, ha, c0, c1, s0, s1⟩ := h.2.2.2 i k v hi
  obtain rfl : nk = k.length := s0.len.symm
  obtain rfl : nv = v.length := s1.len.symm
  refine ⟨b, o, ak, ck, av, cv, ha, fun b' o' e hn => by subst e; exact s0.blt hn, fun b' o' e hn => by subst e; exact s1.blt hn, fun W hb => ⟨(World.cell?_of_block (hb.block _ (cell_lt c0))).trans c0, (World.cell?_of_block (hb.block _ (cell_lt c1))).trans c1, s0.keep hb, s1.keep hb⟩⟩
theorem etake_snoc {es : List Ent} {k : Nat} {x : Ent} (h : es[k]? = some x) : es.take (k + 1) = es.take k ++ [x] := by rw [List.take_add_one, h]; rfl
set_option maxRecDepth 100000 in
set_option maxHeartbeats 4000000 in
theorem bbuild_any (a : Option Addr) (n c : Nat) (es : List Ent) (w : World) (hn : n ≤ 2932031007317) (hf : Fit 140737488351232 es) (h : Ents w a n c es) :
    Calls Try.prog 13 #[.slice a n c] w fun e w' => ∃ v, e = .returned (.tuple #[v, .int .i64 ((bbuild es).2.1 : Nat), .int .i64 ((bbuild es).2.2 : Nat)]) ∧ OwT fB w' w.heap.size 5 v (bbuild es).1 ∧ Below w.heap.size w w' := by
  obtain rfl : n = es.length := h.1.symm
  have H := Lib.hid h
  by_cases hc : es.length < 1 ∨ 64 < es.length
  · rw [bbuild_count hc]
    by_cases h0 : es.length = 0
    · have t1 : ((es.length : Int) == 0) = true := by rw [beq_iff_eq]; omega
      have t2 : (es.length == 0) = true := by rw [beq_iff_eq]; omega
      clear h0 h
      go_enter Try.func13, Try.ntmps13
      go_wp2_with fail
      go_ret3
      exact ⟨_, rfl, OwT.nil _ _ _ _, Below.refl _ _⟩
    · have t1 : ((es.length : Int) == 0) = false := by rw [beq_eq_false_iff_ne]; omega
      have t2 : (es.length == 0) = false := by rw [beq_eq_false_iff_ne]; omega
      have t3 : decide ((es.length : Int) > 64) = true := decide_eq_true (by omega)
      have t4 : decide (64 < es.length) = true := decide_eq_true (by omega)
      clear h0 h
      go_enter Try.func13, Try.ntmps13
      go_wp2_with fail
      go_ret3
      exact ⟨_, rfl, OwT.nil _ _ _ _, Below.refl _ _⟩
  · have t1 : ((es.length : Int) == 0) = false := by rw [beq_eq_false_iff_ne]; omega
    have t2 : (es.length == 0) = false := by rw [beq_eq_false_iff_ne]; omega
    have t3 : decide ((es.length : Int) > 64) = false := decide_eq_false (by omega)
    have t4 : decide (64 < es.length) = false := decide_eq_false (by omega)
    have HS := sorted_any a es.length c es w hn hf h
    obtain ⟨⟨r0, r1⟩, hr⟩ : ∃ R, srt es = R := ⟨_, rfl⟩
    rw [hr] at HS
    dsimp only at HS
    replace HS := Lib.hid HS
    by_cases hz : r1 = 0
    · subst hz
      have hok : Okay es := srt_okay (by rw [hr])
      have hadd := srt_adds (es := es) (by rw [hr])
      rw [bbuild_ok hc (by rw [hr])]
      have OK := Lib.hid hok
      have ADD := Lib.hid hadd
      have SR := Lib.hid hr
      have HF := Lib.hid hf
      clear hr hok hadd h hf
      go_enter Try.func13, Try.ntmps13
      go_wp2_with fail
      refine HS.out.mono ?_
      rintro e w1 ⟨rfl, hb⟩
      have B := Lib.hid hb
      have s1 := hb.size
      clear hb HS
      go_wp2_with fail
      refine (bnew_any w1).mono ?_
      rintro e w2 ⟨rfl, hw2⟩
      have NB := Lib.hid (Bl.new w1)
      rw [← hw2] at NB
      have B2 := Lib.hid (B.out.alloc s1 (.cells #[.int .i64 0, .slice none 0 0, .slice none 0 0, .slice none 0 0] 75))
      rw [← hw2] at B2
      clear hw2 B
      obtain ⟨g, hg⟩ : ∃ g, w1.heap.size = g := ⟨_, rfl⟩
      rw [hg] at NB s1 ⊢
      clear hg
      go_wp2_with fail
      go_loopw [30] (fun i wr => ∃ (k : Nat) (v : Nat → Value), k ≤ es.length ∧ i = .int .i64 k ∧ Bl wr g g v (es.take k) ∧ Below w.heap.size w wr) (fun i _ => es.length - (intOf i).toNat)
      case atStart => exact ⟨0, _, Nat.zero_le _, rfl, NB.out, B2.out⟩
      case round =>
        clear NB B2
        obtain ⟨k, v, hk, rfl, hbl, hb⟩ := hrel
        have BL := Lib.hid hbl
        have B := Lib.hid hb
        clear hbl hb
        by_cases hlt : k < es.length
        · obtain ⟨⟨kk, vv⟩, hx⟩ : ∃ e, es[k]? = some e := ⟨_, List.getElem?_eq_getElem hlt⟩
          obtain ⟨b, o, ak, ck, av, cv, rfl, lk, lv, hrow⟩ := H.out.row hx
          obtain ⟨f1, f2⟩ := HF.out _ (List.mem_of_getElem? hx)
          dsimp only at f1 f2
          obtain ⟨q1, q2⟩ := ADD.out k _ hx
          have hl : (es.take k).length = k := by rw [List.length_take]; omega
          have ha0 : addE (es.take k) (kk, vv) = 0 := addE_ok q1 (by rw [hl]; omega) (by rw [hl]; exact q2)
          have hsn := etake_snoc hx
          obtain ⟨c0, c1, s0, s1'⟩ := hrow wr B.out
          have hw4 : Below wr.heap.size wr (wr.alloc (.cells #[.slice ak kk.length ck, .slice av vv.length cv] 41)) := (Below.refl _ _).alloc (Nat.le_refl _) _
          have hin := BlR.inS BL.out
          have HA := Lib.hid (badd_any g g v (es.take k) ak kk.length ck kk av vv.length cv vv _ (by rw [hl]; omega) (OK.out.take k) f1 f2 (BlR.keep BL.out hw4) (s0.keep hw4) (s1'.keep hw4)
            (fun b' o' e hn hS => by have := lk b' o' e hn; have := (hin b' hS).1; omega) (fun b' o' e hn hS => by have := lv b' o' e hn; have := (hin b' hS).1; omega))
          have HA0 := Lib.hid ha0
          have HSN := Lib.hid hsn
          have HIN := Lib.hid hin
          have lw := B.out.size
          clear hx lk lv hrow q1 q2 hl ha0 hsn s0 s1' hw4 hin
          go_wp2_with fail
          refine HA.out.mono ?_
          rintro e w5 ⟨rfl, _, hok5⟩
          obtain ⟨v', hbl5, ht5, _⟩ := hok5 HA0.out
          have BL5 := Lib.hid hbl5
          have B5 := Lib.hid (ht5.below (B.out.alloc lw _) (Nat.le_trans lw (by simp)) (fun j hj => by have := (HIN.out j hj).1; omega))
          clear hok5 hbl5 ht5 HA
          go_wp2_with fail
          go_roundw
          case rel => exact ⟨k + 1, v', by omega, by go_num, by rw [HSN.out]; exact BL5.out, B5.out⟩
          case measure => simp [intOf]; omega
        · have ht : es.take k = es := List.take_of_length_le (by omega)
          have hbl := BL.out
          rw [ht] at hbl
          have HB := Lib.hid (bbytes_any g g v es wr (by omega) OK.out hbl)
          have lw := B.out.size
          clear ht hbl
          go_wp2_with fail
          refine HB.out.mono ?_
          rintro e w6 ⟨x, rfl, ho, _, ht⟩
          have O := Lib.hid (ho.base lw)
          have B6 := Lib.hid (ht.below B.out lw (fun j hj => by omega))
          clear ho ht HB
          go_wp2_with fail
          go_ret3
          exact ⟨x, rfl, O.out, B6.out⟩
    · rw [bbuild_srt hc (by rw [hr]; exact hz), hr]
      dsimp only
      have f1 : ((r1 : Int) != 0) = true := by rw [bne_iff_ne]; omega
      have f2 : (r1 != 0) = true := by rw [bne_iff_ne]; omega
      clear hr h
      go_enter Try.func13, Try.ntmps13
      go_wp2_with fail
      refine HS.out.mono ?_
      rintro e w1 ⟨rfl, hb⟩
      have B := Lib.hid hb
      clear hb HS
      go_wp2_with fail
      go_ret3
      exact ⟨_, rfl, OwT.nil _ _ _ _, B.out⟩
end Go.Proofs.Yteedjgjkldbbcaa
