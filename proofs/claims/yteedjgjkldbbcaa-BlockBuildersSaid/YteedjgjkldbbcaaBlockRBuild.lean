/- Build, the reference's: contract. Conditions: the entries within reach. Written by a program of this place (gen_BlockRBuild.py). -/
import Derived.Test.YteedjgjkldbbcaaBlockBuild
import Derived.Test.YteedjgjkldbbcaaRSorted
import Derived.Test.YteedjgjkldbbcaaVintRPut
import Derived.Deep.RegionLaw
namespace Go.Proofs.Yteedjgjkldbbcaa
open Go.RowKit
set_option linter.unusedVariables false

set_option maxRecDepth 100000 in
theorem prev_any (a : Option Addr) (n c : Nat) (es : List Ent) (k : Nat) (w : World) (hn : n ≤ 2932031007317) (hk : k < n) (h : Ents w a n c es) :
    Calls Try.prog 41 #[.slice a n c, .int .i64 (k : Nat)] w fun e w' => ∃ ap np cp, e = .returned (.slice ap np cp) ∧ Sl Bf w ap np cp (bP k (bst (es.take k)).last) ∧ w = w' := by
  obtain rfl : n = es.length := h.1.symm
  by_cases h8 : k % 8 = 0
  · have t1 : ((k : Int) % 8 == 0) = true := by rw [beq_iff_eq]; omega
    have t2 : (k % 8 == 0) = true := by rw [beq_iff_eq]; omega
    have HP := Lib.hid (show bP k (bst (es.take k)).last = [] by unfold bP; rw [if_pos h8])
    clear h8 h
    go_enter Try.func41, Try.ntmps41
    go_wp2_with fail
    go_ret
    exact ⟨none, 0, 0, rfl, by rw [HP.out]; exact Sl.nil _ _, rfl⟩
  · obtain ⟨j, rfl⟩ : ∃ j, k = j + 1 := ⟨k - 1, by omega⟩
    have t1 : (((j + 1 : Nat) : Int) % 8 == 0) = false := by rw [beq_eq_false_iff_ne]; omega
    have t2 : ((j + 1) % 8 == 0) = false := by rw [beq_eq_false_iff_ne]; omega
    have t3 : (((j : Int) + 1) % 8 == 0) = false := by rw [beq_eq_false_iff_ne]; omega
    have e1 : IntKind.i64.wrap ((j : Int) + 1 - 1) = (j : Int) := by rw [show (j : Int) + 1 - 1 = (j : Int) by omega]; exact IntWalk.i64_in _ (by omega)
    obtain ⟨⟨kk, vv⟩, hx⟩ : ∃ e, es[j]? = some e := ⟨_, List.getElem?_eq_getElem (by omega)⟩
    obtain ⟨b, o, ak, ck, av, cv, rfl, _, _, hrow⟩ := h.row hx
    obtain ⟨c0, _, s0, _⟩ := hrow w (Below.refl _ _)
    have HP := Lib.hid (show bP (j + 1) (bst (es.take (j + 1))).last = kk by unfold bP; rw [if_neg h8, bst_take hx]; rfl)
    have S0 := Lib.hid s0
    clear h8 h hx hrow s0
    go_enter Try.func41, Try.ntmps41
    go_wp2_with fail
    go_ret
    exact ⟨_, _, _, rfl, by rw [HP.out]; exact S0.out, rfl⟩
theorem rmark_cells (q : Nat) (h : q ≤ 22400) : (#[.int .u8 (((q : Int) + 1) % 256), .int .u8 (((q : Int) + 1) / 256)] : Array Value).toList = ([UInt8.ofNat (q + 1), UInt8.ofNat ((q + 1) / 256)] : List UInt8).map Bf := bmark_cells q h
/-- two rows of the call's own, apart -/
def Two3 (w : World) (lo : Nat) (x y : Value) (xs ys : List UInt8) : Prop := OwT fB w lo 5 x xs ∧ OwT fB w lo 5 y ys ∧ ∀ j, x.ownBlock = some j → y.ownBlock ≠ some j
theorem Two3.keep {w w' : World} {lo : Nat} {x y : Value} {xs ys : List UInt8} (h : Two3 w lo x y xs ys) (hb : Below w.heap.size w w') : Two3 w' lo x y xs ys := ⟨h.1.keep hb, h.2.1.keep hb, h.2.2⟩
theorem Two3.app1 {w w0 w1 : World} {lo : Nat} {x y x' : Value} {xs ys xs' : List UInt8} (h : Two3 w lo x y xs ys) (hw : Below w.heap.size w w0) (hg : w0.grownBy w1 x.ownBlock) (ho : OwT fB w1 lo 5 x' xs') (hx : x'.ownBlock = x.ownBlock ∨ x'.ownBlock = some w0.heap.size) : Two3 w1 lo x' y xs' ys := by
  refine ⟨ho, (h.2.1.keep hw).of_block fun j hj => hg.block j (by have := (h.2.1.lt j hj).2; have := hw.size; omega) (fun e => h.2.2 j e.symm hj), fun j hj hy => ?_⟩
  rcases hx with e | e
  · exact h.2.2 j (e.symm.trans hj) hy
  · rw [e] at hj; injection hj with hj
    have := (h.2.1.lt j hy).2; have := hw.size; omega
theorem Two3.symm {w : World} {lo : Nat} {x y : Value} {xs ys : List UInt8} (h : Two3 w lo x y xs ys) : Two3 w lo y x ys xs := ⟨h.2.1, h.1, fun j hy hx => h.2.2 j hx hy⟩
set_option maxRecDepth 100000 in
set_option maxHeartbeats 8000000 in
theorem brbuild_any (a : Option Addr) (n c : Nat) (es : List Ent) (w : World) (hn : n ≤ 2932031007317) (hf : Fit 140737488351232 es) (h : Ents w a n c es) :
    Calls Try.prog 14 #[.slice a n c] w fun e w' => ∃ v, e = .returned (.tuple #[v, .int .i64 ((bbuild es).2.1 : Nat), .int .i64 ((bbuild es).2.2 : Nat)]) ∧ OwT fB w' w.heap.size 5 v (bbuild es).1 ∧ Below w.heap.size w w' := by
  obtain rfl : n = es.length := h.1.symm
  have H := Lib.hid h
  by_cases hc : es.length < 1 ∨ 64 < es.length
  · rw [bbuild_count hc]
    by_cases h0 : es.length < 1
    · have t1 : decide ((es.length : Int) < 1) = true := decide_eq_true (by omega)
      have t2 : decide (es.length < 1) = true := decide_eq_true (by omega)
      clear h0 h
      go_enter Try.func14, Try.ntmps14
      go_wp2_with fail
      go_ret3
      exact ⟨_, rfl, OwT.nil _ _ _ _, Below.refl _ _⟩
    · have t1 : decide ((es.length : Int) < 1) = false := decide_eq_false (by omega)
      have t2 : decide (es.length < 1) = false := decide_eq_false (by omega)
      have t3 : decide ((es.length : Int) > 64) = true := decide_eq_true (by omega)
      have t4 : decide (64 < es.length) = true := decide_eq_true (by omega)
      clear h0 h
      go_enter Try.func14, Try.ntmps14
      go_wp2_with fail
      go_ret3
      exact ⟨_, rfl, OwT.nil _ _ _ _, Below.refl _ _⟩
  · have t1 : decide ((es.length : Int) < 1) = false := decide_eq_false (by omega)
    have t2 : decide (es.length < 1) = false := decide_eq_false (by omega)
    have t3 : decide ((es.length : Int) > 64) = false := decide_eq_false (by omega)
    have t4 : decide (64 < es.length) = false := decide_eq_false (by omega)
    have HS := rsorted_any a es.length c es w hn hf h
    obtain ⟨⟨r0, r1⟩, hr⟩ : ∃ R, srt es = R := ⟨_, rfl⟩
    rw [hr] at HS
    dsimp only at HS
    replace HS := Lib.hid HS
    by_cases hz : r1 = 0
    · subst hz
      have hok : Okay es := srt_okay (by rw [hr])
      rw [bbuild_ok hc (by rw [hr])]
      have OK := Lib.hid hok
      have HF := Lib.hid hf
      have r1 : IntKind.u64.wrap (es.length : Int) = es.length := u64_nat es.length (by omega)
      obtain ⟨n, hN⟩ : ∃ n, es.length = n := ⟨_, rfl⟩
      have HV := Lib.hid (fun W : World => rbytes_any n W (by omega))
      have VL := Lib.hid (show (vb n).length = 1 by rw [vb_lt (show n < 128 by omega)]; rfl)
      have BE := Lib.hid (bld_some (l := es) (by intro e; subst e; simp at hc))
      rw [hN] at H hc t1 t2 t3 t4 HS r1 BE hn ⊢
      have HN := Lib.hid hN
      clear hr hok h hf hN
      go_enter Try.func14, Try.ntmps14
      go_wp2_with fail
      refine HS.out.mono ?_
      rintro e w1 ⟨rfl, hb⟩
      have B := Lib.hid hb
      have s1 := hb.size
      clear hb HS
      go_wp2_with fail
      refine (HV.out w1).mono ?_
      rintro e w2 ⟨x0, rfl, ho, hb⟩
      have O := Lib.hid (ho.base s1)
      replace B := Lib.hid (B.out.trans (hb.mono s1))
      clear ho hb s1 r1
      go_wp2_with fail
      go_loopw [7, 8, 9] (fun x y i wr => ∃ k : Nat, k ≤ n ∧ i = .int .i64 k ∧ Two3 wr w.heap.size x y (vb n ++ (bst (es.take k)).body) (bst (es.take k)).tab ∧ Below w.heap.size w wr) (fun _ _ i _ => n - (intOf i).toNat)
      case atStart => exact ⟨0, Nat.zero_le _, rfl, ⟨by simpa [bst_nil, BS0] using O.out, OwT.nil _ _ _ _, fun j _ e => by cases e⟩, B.out⟩
      case round =>
        clear O B
        obtain ⟨k, hk, rfl, htw, hb⟩ := hrel
        have TW := Lib.hid htw
        have B := Lib.hid hb
        have lw := hb.size
        clear htw hb
        have hble := bst_le (es.take k) (OK.out.take k)
        have htl : (es.take k).length = k := by rw [List.length_take, HN.out]; omega
        rw [htl] at hble
        obtain ⟨BB, hBB⟩ : ∃ T, (bst (es.take k)).body = T := ⟨_, rfl⟩
        obtain ⟨TT, hTT⟩ : ∃ T, (bst (es.take k)).tab = T := ⟨_, rfl⟩
        obtain ⟨LL, hLL⟩ : ∃ T, (bst (es.take k)).last = T := ⟨_, rfl⟩
        rw [hBB, hTT, hLL] at hble
        rw [hBB, hTT] at TW
        have bb1 : BB.length ≤ 22400 := by omega
        have bb2 : TT.length ≤ 128 := by omega
        have bb3 : LL.length ≤ 64 := by omega
        by_cases hlt : k < n
        · have t7 : decide (k < n) = true := decide_eq_true hlt
          by_cases h8 : k % 8 = 0
          · skip
            have t5 : ((k : Int) % 8 == 0) = true := by rw [beq_iff_eq]; omega
            have t6 : (k % 8 == 0) = true := by rw [beq_iff_eq]; omega
            have HN8 := Lib.hid h8
            clear h8
            obtain ⟨ax, nx, cx, rfl, zx⟩ := TW.out.1.slN
            obtain ⟨ay, ny, cy, rfl, zy⟩ := TW.out.2.1.slN
            obtain ⟨m, hm⟩ : ∃ m, BB.length = m := ⟨_, rfl⟩
            obtain rfl : nx = m + 1 := by have := zx.len; rw [List.length_append, VL.out] at this; omega
            have ly : TT.length = ny := zy.len
            have bm : m ≤ 22400 := by omega
            have bny : ny ≤ 128 := by omega
            have HM := Lib.hid hm
            have LY := Lib.hid ly
            have XL := Lib.hid (show (vb n ++ BB).length = m + 1 by rw [List.length_append, VL.out, hm]; omega)
            clear zx zy hm ly bb1 bb2
            have MK := Lib.hid (rmark_cells m bm)
            go_wp2_with (at_builtin; refine wpList_appT eltTB rfl (.tmp 40) (.tmp 49) rfl w.heap.size _ TT (by rfl) (TW.out.2.1.alloc _) _ 2 2 [UInt8.ofNat (m + 1), UInt8.ofNat ((m + 1) / 256)] (by rfl) (Sl.lit _ _ _ _ _ rfl MK.out).toT (by rw [LY.out]; unfold maxLen; omega) (by rw [LY.out]; omega) (Nat.le_trans lw (by simp)) (TT ++ [UInt8.ofNat (m + 1), UInt8.ofNat ((m + 1) / 256)]) rfl ?_; intro v6 w6 h6 hg6 hv6 hb6; obtain ⟨a6, n6, k6, rfl, z6⟩ := h6.slN; have TW6 := Lib.hid (TW.out.symm.app1 ((Below.refl _ wr).alloc (Nat.le_refl _) _) hg6 h6 hv6).symm; have B6 := Lib.hid ((B.out.alloc lw _).trans hb6); have lw6 := B6.out.size; clear h6 hg6 hv6 hb6 z6)
            have hm8 : bMark k (m + 1) = [UInt8.ofNat (m + 1), UInt8.ofNat ((m + 1) / 256)] := by unfold bMark; rw [if_pos HN8.out]
            have hp8 : bP k LL = [] := by unfold bP; rw [if_pos HN8.out]
            replace TW := TW6
            replace B := B6
            clear MK TW6 B6
            have HM8 := Lib.hid hm8
            have HP8 := Lib.hid hp8
            clear hm8 hp8
            obtain ⟨⟨kk, vv⟩, hx⟩ : ∃ e, es[k]? = some e := ⟨_, List.getElem?_eq_getElem (by rw [HN.out]; exact hlt)⟩
            have PV0 := prev_any a n c es k w6.drew hn hlt (by exact (H.out.keep (B.out.drew)))
            obtain ⟨b, o, ak, ck, av, cv, rfl, _, _, hrow⟩ := H.out.row hx
            obtain ⟨f1, f2⟩ := HF.out _ (List.mem_of_getElem? hx)
            dsimp only at f1 f2
            have hck := chk_zero (OK.out _ (List.mem_of_getElem? hx))
            dsimp only at hck
            obtain ⟨c0, c1, s0, s1⟩ := hrow w6 B.out
            obtain ⟨eb, heb⟩ : ∃ eb, ebytes (bP k LL) (kk, vv) = eb := ⟨_, rfl⟩
            have hebl : eb.length ≤ 350 := by
              have he2 : eb.length ≤ 30 + kk.length + vv.length := by rw [← heb]; exact ebytes_le _ (kk, vv) (by show kk.length + vv.length ≤ _; omega)
              omega
            have hfin : bAdd (bst (es.take k)) (kk, vv) = ⟨BB ++ eb, TT ++ bMark k (m + 1), kk, k + 1⟩ := by
              unfold bAdd
              rw [bst_n, htl, hBB, hTT, hLL, HM.out, heb]
            have hst := bst_take hx
            rw [hfin] at hst
            have hbpl : (bP k LL).length ≤ 64 := by
              unfold bP
              split
              · exact Nat.zero_le _
              · omega
            rw [hLL] at PV0
            have PV := Lib.hid PV0
            have ST := Lib.hid hst
            have HBP := Lib.hid hbpl
            have PR := Lib.hid (fun (ap : Option Addr) (np cp : Nat) (W : World) (hs : Sl Bf W ap np cp (bP k LL)) (s0 : Sl Bf W ak kk.length ck kk) (s1 : Sl Bf W av vv.length cv vv) => heb ▸ prbytes_any ap np cp (bP k LL) ak kk.length ck kk av vv.length cv vv W (by have := hs.len; omega) (by omega) hs s0 s1)
            have S0 := Lib.hid s0.drew
            have S1 := Lib.hid s1.drew
            have TWD : Hid (Two3 w6.drew w.heap.size _ _ _ _) := Lib.hid (TW.out.keep (Below.refl _ _).drew)
            clear hx hrow hst hfin heb PV0 hbpl s0 s1 f1 f2
            go_upto_region 13 with (fail)
            go_region_law (first
              | (refine step_appT eltTB rfl (.tmp 51) (.tmp 59) rfl w.heap.size (.slice ax (m + 1) cx) (vb n ++ BB) (by simp [Act.eval]) TW9.out.1 a9 eb.length k9 eb (by simp [Act.eval]) Z9.out.toT (by rw [XL.out]; unfold maxLen; omega) (by rw [XL.out]; omega) lw9 (vb n ++ BB ++ eb) rfl ?_; intro v10 w10 h10 hg10 hv10 hb10; have TW10 := Lib.hid (TW9.out.app1 (Below.refl _ _) hg10 h10 hv10); have B10 := Lib.hid (B9.out.trans hb10); clear h10 hg10 hv10 hb10)
              | (go_simp; go_at_call 41; refine PV.out.mono ?_; rintro e w8 ⟨ap, np, cp, rfl, sp, rfl⟩; have SP := Lib.hid sp; clear sp)
              | (go_simp; go_at_call 40; refine (PR.out ap np cp _ SP.out S0.out S1.out).mono ?_; rintro e w9 ⟨x9, rfl, ho9, hb9⟩; obtain ⟨a9, n9, k9, rfl, z9⟩ := ho9.slN; obtain rfl : eb.length = n9 := z9.len; have Z9 := Lib.hid z9; have TW9 := Lib.hid (TWD.out.keep hb9); have B9 := Lib.hid (B.out.drew.trans (hb9.mono lw6)); have lw9 := B9.out.size; clear ho9 hb9 z9))
            all_goals
              obtain ⟨a10, n10, k10, rfl, z10⟩ := TW10.out.1.slN
              clear z10
              go_wp2_with fail
              go_roundw
              case rel => exact ⟨k + 1, by omega, by go_num, by rw [ST.out]; show Two3 _ _ _ _ (vb n ++ (BB ++ eb)) (TT ++ bMark k (m + 1)); rw [HM8.out, ← List.append_assoc]; exact TW10.out, B10.out⟩
              case measure => simp [intOf]; omega
          · skip
            have t5 : ((k : Int) % 8 == 0) = false := by rw [beq_eq_false_iff_ne]; omega
            have t6 : (k % 8 == 0) = false := by rw [beq_eq_false_iff_ne]; omega
            have HN8 := Lib.hid h8
            clear h8
            obtain ⟨ax, nx, cx, rfl, zx⟩ := TW.out.1.slN
            obtain ⟨ay, ny, cy, rfl, zy⟩ := TW.out.2.1.slN
            obtain ⟨m, hm⟩ : ∃ m, BB.length = m := ⟨_, rfl⟩
            obtain rfl : nx = m + 1 := by have := zx.len; rw [List.length_append, VL.out] at this; omega
            have ly : TT.length = ny := zy.len
            have bm : m ≤ 22400 := by omega
            have bny : ny ≤ 128 := by omega
            have HM := Lib.hid hm
            have LY := Lib.hid ly
            have XL := Lib.hid (show (vb n ++ BB).length = m + 1 by rw [List.length_append, VL.out, hm]; omega)
            clear zx zy hm ly bb1 bb2
            have hm8 : bMark k (m + 1) = [] := by unfold bMark; rw [if_neg HN8.out]
            have hp8 : bP k LL = LL := by unfold bP; rw [if_neg HN8.out]
            have HM8 := Lib.hid hm8
            have HP8 := Lib.hid hp8
            clear hm8 hp8
            obtain ⟨⟨kk, vv⟩, hx⟩ : ∃ e, es[k]? = some e := ⟨_, List.getElem?_eq_getElem (by rw [HN.out]; exact hlt)⟩
            have PV0 := prev_any a n c es k wr.drew hn hlt (by exact (H.out.keep (B.out.drew)))
            obtain ⟨b, o, ak, ck, av, cv, rfl, _, _, hrow⟩ := H.out.row hx
            obtain ⟨f1, f2⟩ := HF.out _ (List.mem_of_getElem? hx)
            dsimp only at f1 f2
            have hck := chk_zero (OK.out _ (List.mem_of_getElem? hx))
            dsimp only at hck
            obtain ⟨c0, c1, s0, s1⟩ := hrow wr B.out
            obtain ⟨eb, heb⟩ : ∃ eb, ebytes (bP k LL) (kk, vv) = eb := ⟨_, rfl⟩
            have hebl : eb.length ≤ 350 := by
              have he2 : eb.length ≤ 30 + kk.length + vv.length := by rw [← heb]; exact ebytes_le _ (kk, vv) (by show kk.length + vv.length ≤ _; omega)
              omega
            have hfin : bAdd (bst (es.take k)) (kk, vv) = ⟨BB ++ eb, TT ++ bMark k (m + 1), kk, k + 1⟩ := by
              unfold bAdd
              rw [bst_n, htl, hBB, hTT, hLL, HM.out, heb]
            have hst := bst_take hx
            rw [hfin] at hst
            have hbpl : (bP k LL).length ≤ 64 := by
              unfold bP
              split
              · exact Nat.zero_le _
              · omega
            rw [hLL] at PV0
            have PV := Lib.hid PV0
            have ST := Lib.hid hst
            have HBP := Lib.hid hbpl
            have PR := Lib.hid (fun (ap : Option Addr) (np cp : Nat) (W : World) (hs : Sl Bf W ap np cp (bP k LL)) (s0 : Sl Bf W ak kk.length ck kk) (s1 : Sl Bf W av vv.length cv vv) => heb ▸ prbytes_any ap np cp (bP k LL) ak kk.length ck kk av vv.length cv vv W (by have := hs.len; omega) (by omega) hs s0 s1)
            have S0 := Lib.hid s0.drew
            have S1 := Lib.hid s1.drew
            have TWD : Hid (Two3 wr.drew w.heap.size _ _ _ _) := Lib.hid (TW.out.keep (Below.refl _ _).drew)
            clear hx hrow hst hfin heb PV0 hbpl s0 s1 f1 f2
            go_upto_region 13 with (fail)
            go_region_law (first
              | (refine step_appT eltTB rfl (.tmp 51) (.tmp 59) rfl w.heap.size (.slice ax (m + 1) cx) (vb n ++ BB) (by simp [Act.eval]) TW9.out.1 a9 eb.length k9 eb (by simp [Act.eval]) Z9.out.toT (by rw [XL.out]; unfold maxLen; omega) (by rw [XL.out]; omega) lw9 (vb n ++ BB ++ eb) rfl ?_; intro v10 w10 h10 hg10 hv10 hb10; have TW10 := Lib.hid (TW9.out.app1 (Below.refl _ _) hg10 h10 hv10); have B10 := Lib.hid (B9.out.trans hb10); clear h10 hg10 hv10 hb10)
              | (go_simp; go_at_call 41; refine PV.out.mono ?_; rintro e w8 ⟨ap, np, cp, rfl, sp, rfl⟩; have SP := Lib.hid sp; clear sp)
              | (go_simp; go_at_call 40; refine (PR.out ap np cp _ SP.out S0.out S1.out).mono ?_; rintro e w9 ⟨x9, rfl, ho9, hb9⟩; obtain ⟨a9, n9, k9, rfl, z9⟩ := ho9.slN; obtain rfl : eb.length = n9 := z9.len; have Z9 := Lib.hid z9; have TW9 := Lib.hid (TWD.out.keep hb9); have B9 := Lib.hid (B.out.drew.trans (hb9.mono lw)); have lw9 := B9.out.size; clear ho9 hb9 z9))
            all_goals
              obtain ⟨a10, n10, k10, rfl, z10⟩ := TW10.out.1.slN
              clear z10
              go_wp2_with fail
              go_roundw
              case rel => exact ⟨k + 1, by omega, by go_num, by rw [ST.out]; show Two3 _ _ _ _ (vb n ++ (BB ++ eb)) (TT ++ bMark k (m + 1)); rw [HM8.out, ← List.append_assoc, List.append_nil]; exact TW10.out, B10.out⟩
              case measure => simp [intOf]; omega
        · have ht : es.take k = es := List.take_of_length_le (by rw [HN.out]; omega)
          have t7 : decide (k < n) = false := decide_eq_false hlt
          rw [ht] at hBB hTT
          obtain ⟨ax, nx, cx, rfl, zx⟩ := TW.out.1.slN
          obtain ⟨ay, ny, cy, rfl, zy⟩ := TW.out.2.1.slN
          obtain rfl : TT.length = ny := zy.len
          have XL := Lib.hid (show (vb n ++ BB).length ≤ 22401 by rw [List.length_append, VL.out]; omega)
          have FIN := Lib.hid (show bld es = vb n ++ BB ++ TT by rw [BE.out, hBB, hTT])
          have ZY := Lib.hid zy
          clear ht zx zy hBB hTT hLL
          go_wp2_with (at_builtin; refine wpList_appT eltTB rfl (.tmp 61) (.tmp 62) rfl w.heap.size _ (vb n ++ BB) (by rfl) TW.out.1 ay TT.length cy TT (by rfl) ZY.out.toT (by have := XL.out; unfold maxLen; omega) (by have := XL.out; omega) lw (vb n ++ BB ++ TT) rfl ?_; intro v6 w6 h6 hg6 hv6 hb6; have O6 := Lib.hid h6; have B6 := Lib.hid (B.out.trans hb6); clear h6 hg6 hv6 hb6)
          go_ret3
          exact ⟨_, rfl, by rw [FIN.out]; exact O6.out, B6.out⟩
    · rw [bbuild_srt hc (by rw [hr]; exact hz), hr]
      dsimp only
      have f1 : ((r1 : Int) != 0) = true := by rw [bne_iff_ne]; omega
      have f2 : (r1 != 0) = true := by rw [bne_iff_ne]; omega
      clear hr h
      go_enter Try.func14, Try.ntmps14
      go_wp2_with fail
      refine HS.out.mono ?_
      rintro e w1 ⟨rfl, hb⟩
      have B := Lib.hid hb
      clear hb HS
      go_wp2_with fail
      go_ret3
      exact ⟨_, rfl, OwT.nil _ _ _ _, B.out⟩
end Go.Proofs.Yteedjgjkldbbcaa
