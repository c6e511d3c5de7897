/- Range, the document's: contract. Conditions: the bytes and the bounds within reach. -/
import Derived.Test.YtljcogimeimknaaGreatFileSeq
import Derived.Test.YtljcogimeimknaaGreatK8b
import Derived.Deep.LoopGhost
namespace Go.Proofs.YtljcogimeimknaaGreat
open Go.RowKit
open Lib (hid)
set_option linter.unusedVariables false
set_option linter.unusedSimpArgs false

set_option maxRecDepth 100000 in
set_option maxHeartbeats 16000000 in
theorem rrange_any {w : World} {b : List UInt8} {rs : List Row} {ab : Option Addr} {nb cb : Nat} {ar : Option Addr} {nr cr : Nat} (hB : Sl Bf w ab nb cb b) (hS : Spans w ar nr cr rs) (hR : FRows b.length rs) (hb : b.length ≤ 140737488351232)
    (al : Option Addr) (nl cl : Nat) (kl : List UInt8) (ah : Option Addr) (nh ch : Nat) (kh : List UInt8) (hnl : nl ≤ 140737488351232) (hnh : nh ≤ 140737488351232) (hL : Sl Bf w al nl cl kl) (hH : Sl Bf w ah nh ch kh) :
    Calls Tryz.prog 20 #[.slice ab nb cb, .slice ar nr cr, .slice al nl cl, .slice ah nh ch] w fun e w' => ∃ y vs, e = .returned y ∧ RdW w' w.heap.size y vs (frng b rs kl kh) ∧ Below w.heap.size w w' := by
  obtain ⟨X, hX⟩ : ∃ X, frng b rs kl kh = X := ⟨_, rfl⟩
  rw [hX]
  have hm := hR.many
  have hn : rs.length = nr := hS.1
  have FD := hid (frfind_any ar nr cr rs al nl cl kl w (by omega) (hR.fit hb) hnl hS hL)
  have HXL := hid (show X.length ≤ 536870912 from hX ▸ frng_len (by omega) hm)
  obtain ⟨r, hr⟩ : ∃ r, fnd rs kl = r := ⟨_, rfl⟩
  have HX := hid (show X = rngR b kl kh (rs.drop r) by rw [← hX, ← hr]; rfl)
  rw [hr] at FD
  have hrle : r ≤ nr := by rw [← hr, ← hn]; exact fnd_le rs kl
  have HS := hid hS
  have HB := hid hB
  have HR := hid hR
  have HL := hid hL
  have HH := hid hH
  have HN := hid hn
  rw [hn] at hm
  clear hS hR hL hH hB hn hX hr
  go_enter Tryz.func20, Tryz.ntmps20
  go_wp2_with fail
  refine FD.out.mono ?_
  rintro e w2 ⟨rfl, hb2⟩
  have B2 := hid hb2
  clear hb2 FD
  go_wp2_with fail
  go_loopg [9, 10] (nr + 1) (fun f v9 v10 wr => ∃ (i : Nat) (vo : List (Sv × Sv)) (es : List Ent), v10 = .int .i64 (i : Nat) ∧ f + i = nr + 1 + r ∧ i ≤ nr ∧ RdW wr w.heap.size v9 vo es ∧ Below w.heap.size w wr ∧ X = es ++ rngR b kl kh (rs.drop i))
  case atStart => exact ⟨r, [], [], rfl, rfl, hrle, RdL.nil _ _ |>.toRdW, B2.out, HX.out⟩
  case round =>
    obtain ⟨fo, rfl⟩ : ∃ z, z = gk := ⟨_, rfl⟩
    obtain ⟨wro, rfl⟩ : ∃ z, z = wr := ⟨_, rfl⟩
    obtain ⟨v9, rfl⟩ : ∃ z, z = u9 := ⟨_, rfl⟩
    obtain ⟨i, vo, es, rfl, hf, hin, hrw, hbw, hd⟩ := hrel
    have RW := hid hrw
    have BW := hid hbw
    have HD := hid hd
    have HFU := hid hf
    clear hrw hbw hd hf B2
    by_cases hi : i < nr
    case neg =>
      have t1 : decide ((i : Int) < (nr : Int)) = false := decide_eq_false (by omega)
      have t1' : decide (i < nr) = false := decide_eq_false hi
      have FIN := hid (show X = es by rw [HD.out, List.drop_of_length_le (by rw [HN.out]; omega)]; exact List.append_nil _)
      clear hi
      go_wp2_with fail
      go_ret
      exact ⟨_, vo, rfl, FIN.out ▸ RW.out, BW.out⟩
    obtain ⟨x, hx⟩ : ∃ x, rs[i]? = some x := ⟨_, List.getElem?_eq_getElem (by rw [HN.out]; exact hi)⟩
    obtain ⟨bb, oo, ax, nx, cx, ha, c0, c1, c2', c3, sx⟩ := (HS.out.keep BW.out).rowF hx
    have t1 : decide ((i : Int) < (nr : Int)) = true := decide_eq_true (by omega)
    have t1' : decide (i < nr) = true := decide_eq_true hi
    have BLK := hid (rrow_any (HB.out.keep BW.out) hb x (HR.out.row x (List.mem_of_getElem? hx)) ax nx cx sx)
    have hds : rs.drop i = x :: rs.drop (i + 1) := rdrop_cons hx
    obtain ⟨T, hT⟩ : ∃ T, rs.drop (i + 1) = T := ⟨_, rfl⟩
    rw [hT] at hds
    have HT := hid hT
    have HDS := hid hds
    have HAD := hid ha
    rw [ha]
    clear ha hx sx hds hT
    go_wp2_with fail
    rw [← HAD.out]
    refine BLK.out.mono ?_
    rintro e w5 ⟨hb5, y, vl, rfl, hl⟩
    obtain ⟨⟨Bk, L, er⟩, hXX⟩ : ∃ Z, fblk b x = Z := ⟨_, rfl⟩
    rw [hXX] at hl ⊢
    dsimp only at hl ⊢
    have BW5 := hid (keep_trans BW.out hb5)
    have RW5 := hid (RW.out.keep hb5)
    clear c0 c1 c2' c3
    by_cases he : er = 0
    case neg =>
      have t2 : (er != 0) = true := by rw [bne_iff_ne]; exact he
      have FIN := hid (show X = es by rw [HD.out, HDS.out, rngR_no (by rw [hXX]; exact he), List.append_nil])
      clear he hb5 hl hXX
      go_wp2_with fail
      go_ret
      exact ⟨_, vo, rfl, FIN.out ▸ RW5.out, BW5.out⟩
    subst he
    have t2 : ((0 : Int) != 0) = false := by decide
    obtain ⟨⟨qb, hqb⟩, hBl⟩ := fblk_good hXX
    have hL64 : L.length ≤ 64 := (bread_fine (by omega) hqb).2.1
    have HLK := hid (bread_fine (by omega) hqb).2.2
    have HDL := hid (show X = es ++ rrst b kl kh T L by rw [HD.out, HDS.out, rngR_go (by rw [hXX]), hXX])
    have RL5 := hid hl
    have OF5 := hid (show ∀ j, v9.ownBlock = some j → ¬ RLB y vl j from fun j hj hq => by have h1 := (RW.out.own.t.lt j hj).2; have h2 := (hl.inB j hq).1; omega)
    obtain ⟨ay, cy, rfl, hEN0⟩ := hl.ents
    obtain ⟨M, hM⟩ : ∃ M, L.length = M := ⟨_, rfl⟩
    rw [hM] at hL64
    have HM := hid hM
    have LOW := hid (show w.heap.size ≤ wro.heap.size from BW.out.size)
    clear hl hqb hBl hXX hb5 BLK hEN0 HD
    rw [HM.out] at RL5 OF5 ⊢
    clear hM
    go_wp2_with fail
    go_loopg [9, 13] (M + 1) (fun f2 v9 v13 wr2 => ∃ (k : Nat) (vo2 : List (Sv × Sv)) (es2 : List Ent), v13 = .int .i64 (k : Nat) ∧ f2 + k = M + 1 ∧ k ≤ M ∧ RdW wr2 w.heap.size v9 vo2 es2 ∧ Below w.heap.size w wr2 ∧ X = es2 ++ rrst b kl kh T (L.drop k) ∧ RdL wr2 wro.heap.size (.slice ay M cy) vl L ∧ ∀ j, v9.ownBlock = some j → ¬ RLB (.slice ay M cy) vl j)
    case atStart => exact ⟨0, vo, es, rfl, rfl, Nat.zero_le _, RW5.out, BW5.out, HDL.out, RL5.out, OF5.out⟩
    case round =>
      obtain ⟨f2, rfl⟩ : ∃ z, z = gk := ⟨_, rfl⟩
      obtain ⟨wr2, rfl⟩ : ∃ z, z = wr := ⟨_, rfl⟩
      obtain ⟨v9o, rfl⟩ : ∃ z, z = u9 := ⟨_, rfl⟩
      obtain ⟨k, vo2, es2, rfl, hf2, hkM, hrw2, hbw2, hd2, hrl2, hof2⟩ := hrel
      have RW2 := hid hrw2
      have BW2 := hid hbw2
      have HD2 := hid hd2
      have RL2 := hid hrl2
      have OF2 := hid hof2
      have HF2 := hid hf2
      clear hrw2 hbw2 hd2 hrl2 hof2 hf2 RW5 BW5 HDL RL5 OF5
      by_cases hk : k < M
      case neg =>
        have t3 : decide ((k : Int) < (M : Int)) = false := decide_eq_false (by omega)
        have t3' : decide (k < M) = false := decide_eq_false hk
        have NX := hid (show X = es2 ++ rngR b kl kh (rs.drop (i + 1)) by rw [HD2.out, List.drop_of_length_le (by rw [HM.out]; omega), rrst_nil, HT.out])
        clear hk
        go_wp2_with fail
        go_roundg (fo - 1)
        case rel => exact ⟨i + 1, vo2, es2, by go_num, by have := HFU.out; omega, by omega, RW2.out, BW2.out, NX.out⟩
        case measure => have := HFU.out; omega
      obtain ⟨⟨ek, ev⟩, hek⟩ : ∃ e, L[k]? = some e := ⟨_, List.getElem?_eq_getElem (by rw [HM.out]; exact hk)⟩
      have hv2 : vl.length = L.length := RL2.out.len
      obtain ⟨⟨⟨a1, n1, k1⟩, ⟨a3, n3, k3⟩⟩, hvk⟩ : ∃ z, vl[k]? = some z := ⟨_, List.getElem?_eq_getElem (by rw [hv2, HM.out]; exact hk)⟩
      obtain ⟨ox1, ox2⟩ := RL2.out.txt k _ _ hvk hek
      obtain ⟨bL, oL, ha1, d0, d1⟩ : ∃ bL oL, ay = some ⟨bL, oL, none⟩ ∧ wr2.cell? ⟨bL, oL + k * 2, none⟩ = some (.slice a1 n1 k1) ∧ wr2.cell? ⟨bL, oL + k * 2 + 1, none⟩ = some (.slice a3 n3 k3) := by
        obtain ⟨a', c', hv', hs'⟩ := RL2.out.own.t.sl fE_len
        injection hv' with e1 e2 e3
        subst e1
        obtain ⟨b', o', h1, h2⟩ := hs'.2.2.2 k _ hvk
        exact ⟨b', o', h1, by have q := h2 0 _ rfl; rw [Nat.add_zero] at q; exact q, h2 1 _ rfl⟩
      subst ha1
      have D0 := hid d0
      have D1 := hid d1
      have t3 : decide ((k : Int) < (M : Int)) = true := decide_eq_true (by omega)
      have t3' : decide (k < M) = true := decide_eq_true hk
      have hdk : L.drop k = (ek, ev) :: L.drop (k + 1) := edrop_cons hek
      have HVK := hid hvk
      have ETX := hid (show OwT fB wr2 wro.heap.size 5 (sv (a1, n1, k1)) ek ∧ OwT fB wr2 wro.heap.size 5 (sv (a3, n3, k3)) ev from ⟨ox1, ox2⟩)
      have hn1 : n1 ≤ 64 := by
        have h1 : Sl Bf wr2 a1 n1 k1 ek := ox1.slI
        rw [← h1.len]
        exact (HLK.out _ (List.mem_of_getElem? hek)).2
      obtain ⟨ql, hql⟩ : ∃ q, cmp ek kl = q := ⟨_, rfl⟩
      obtain ⟨qh, hqh⟩ : ∃ q, cmp ek kh = q := ⟨_, rfl⟩
      have CL := hid (fun (V : World) (hV : Below wr2.heap.size wr2 V) => hql ▸ rcompare_any a1 n1 k1 ek al nl cl kl V (by omega) hnl (Sl.keep (show Sl Bf wr2 a1 n1 k1 ek from ETX.out.1.slI) hV) (HL.out.keep (keep_trans BW2.out hV)))
      have CH := hid (fun (V : World) (hV : Below wr2.heap.size wr2 V) => hqh ▸ rcompare_any a1 n1 k1 ek ah nh ch kh V (by omega) hnh (Sl.keep (show Sl Bf wr2 a1 n1 k1 ek from ETX.out.1.slI) hV) (HH.out.keep (keep_trans BW2.out hV)))
      have hkn : kh.length = nh := HH.out.len
      have HQL := hid hql
      have HQH := hid hqh
      have HKN := hid hkn
      clear hql hqh hkn ox1 ox2 hvk hek hv2
      by_cases hn0 : 0 < nh
      · have t4 : decide ((nh : Int) > 0) = true := decide_eq_true (by omega)
        have t4' : decide (0 < (nh : Int)) = true := decide_eq_true (by omega)
        have t4'' : decide (0 < nh) = true := decide_eq_true hn0
        by_cases hq : 0 ≤ qh
        · have t5 : decide (qh ≥ 0) = true := decide_eq_true hq
          have t5' : decide (0 ≤ qh) = true := decide_eq_true hq
          have FIN := hid (show X = es2 by rw [HD2.out, hdk, rrst_stop ⟨by rw [HKN.out]; exact hn0, by rw [HQH.out]; exact hq⟩, List.append_nil])
          clear hdk hq hn0
          go_wp2_with fail
          refine (CH.out _ (Below.refl _ _)).mono ?_
          rintro e w8 ⟨rfl, hb8⟩
          have B8 := hid hb8
          clear hb8
          go_wp2_with fail
          go_ret
          exact ⟨_, vo2, rfl, FIN.out ▸ RW2.out.keep B8.out, keep_trans BW2.out B8.out⟩
        · have t5 : decide (qh ≥ 0) = false := decide_eq_false hq
          have t5' : decide (0 ≤ qh) = false := decide_eq_false hq
          have HNA := hid (show ¬ (0 < kh.length ∧ 0 ≤ cmp (ek, ev).1 kh) from fun h => hq (by rw [← HQH.out]; exact h.2))
          clear hq
          go_wp2_with fail
          refine (CH.out _ (Below.refl _ _)).mono ?_
          rintro e w7 ⟨rfl, hb7⟩
          have BC := hid hb7
          have d0 := (World.cell?_of_block (hb7.block bL (cell_lt d0))).trans d0
          clear hb7
          by_cases hlow : cmp ek kl < 0
          · have t6 : decide (ql ≥ 0) = false := decide_eq_false (by rw [← HQL.out]; omega)
            have t6' : decide (0 ≤ ql) = false := decide_eq_false (by rw [← HQL.out]; omega)
            have NX := hid (show X = es2 ++ rrst b kl kh T (L.drop (k + 1)) by rw [HD2.out, hdk, rrst_low HNA.out hlow])
            clear hlow hdk
            go_wp2_with fail
            refine (CL.out _ BC.out).mono ?_
            rintro e w8 ⟨rfl, hb8⟩
            have B8 := hid (keep_trans BC.out hb8)
            clear hb8
            go_wp2_with fail
            go_roundg (f2 - 1)
            case rel => exact ⟨k + 1, vo2, es2, by go_num, by have := HF2.out; omega, by omega, RW2.out.keep B8.out, keep_trans BW2.out B8.out, NX.out, RL2.out.keep B8.out, OF2.out⟩
            case measure => have := HF2.out; omega
          · have t6 : decide (ql ≥ 0) = true := decide_eq_true (by rw [← HQL.out]; omega)
            have t6' : decide (0 ≤ ql) = true := decide_eq_true (by rw [← HQL.out]; omega)
            have NX := hid (show X = (es2 ++ [(ek, ev)]) ++ rrst b kl kh T (L.drop (k + 1)) by rw [HD2.out, hdk, rrst_take HNA.out hlow, List.append_assoc]; rfl)
            have HLN := hid (show es2.length + 1 ≤ 536870912 by
              have h1 := congrArg List.length NX.out
              rw [List.length_append, List.length_append, List.length_singleton] at h1
              have h2 := HXL.out
              omega)
            clear hlow hdk
            go_wp2_with fail
            refine (CL.out _ BC.out).mono ?_
            rintro e w8 ⟨rfl, hb8⟩
            have B8 := hid (keep_trans BC.out hb8)
            have RW8 := hid (RW2.out.keep B8.out)
            have RL8 := hid (RL2.out.keep B8.out)
            have VL8 := hid (show vo2.length + 1 ≤ 536870912 by have := RW8.out.len; have := HLN.out; omega)
            have d0 := (World.cell?_of_block (B8.out.block bL (cell_lt D0.out))).trans D0.out
            have d1 := (World.cell?_of_block (B8.out.block bL (cell_lt D1.out))).trans D1.out
            have BB8 := hid (keep_trans BW2.out B8.out)
            clear hb8
            go_wp2_with (at_builtin; go_loud (refine wpList_appZ eltTE zE_ok rfl (.tmp 63) (.tmp 68) rfl w.heap.size _ vo2 (by rfl) (RW8.out.own.keep ((Below.refl _ _).alloc (Nat.le_refl _) _)) _ 1 1 [((a1, n1, k1), (a3, n3, k3))] (by rfl) (SlT.lit1 _ _ _ _ rfl) (by have := VL8.out; unfold maxLen; omega) (by have := VL8.out; omega) (by have := BB8.out.size; simp; omega) (vo2 ++ [((a1, n1, k1), (a3, n3, k3))]) rfl ?_); intro v9 w9 h9 hg9 hv9 hb9; have O9 := hid h9; have G9 := hid hg9; have V9 := hid hv9; have B9 := hid hb9; obtain ⟨a9, n9, c9, rfl, -, -⟩ := h9.t.slE; clear h9 hg9 hv9 hb9)
            have T9 : Turns (fun j => v9o.ownBlock = some j) w8 w9 := (Turns.of_below (S := fun j => v9o.ownBlock = some j) ((Below.refl w8.heap.size w8).alloc (Nat.le_refl _) _)).trans (.of_grown (S := fun j => v9o.ownBlock = some j) G9.out fun j hj => hj) fun _ _ e => e
            have hfresh : ∀ j, Value.ownBlock (.slice a9 n9 c9) = some j → v9o.ownBlock = some j ∨ w8.heap.size ≤ j := fun j hj => by
              rcases V9.out with q | q
              · exact .inl (q ▸ hj)
              · rw [q] at hj; injection hj with hj; right; rw [← hj]; simp
            have RW9 := hid (RW8.out.app (x := ((a1, n1, k1), (a3, n3, k3))) (e := (ek, ev)) O9.out T9 hfresh ((ETX.out.1.keep B8.out).base LOW.out) ((ETX.out.2.keep B8.out).base LOW.out) (fun j hj => ⟨fun e => OF2.out j hj (.inr ⟨k, _, HVK.out, .inl e⟩), fun e => OF2.out j hj (.inr ⟨k, _, HVK.out, .inr e⟩)⟩))
            have RL9 := hid (RL8.out.turns T9 fun j hj e => OF2.out j e hj)
            have OF9 := hid (show ∀ j, Value.ownBlock (.slice a9 n9 c9) = some j → ¬ RLB (.slice (some ⟨bL, oL, none⟩) M cy) vl j from fun j hj hq => by
              rcases hfresh j hj with h | h
              · exact OF2.out j h hq
              · have := (RL8.out.inB j hq).2; omega)
            have BB9 := hid (T9.below BB8.out BB8.out.size fun j hj => (RW8.out.own.t.lt j hj).1)
            clear T9 hfresh
            go_wp2_with fail
            go_roundg (f2 - 1)
            case rel => exact ⟨k + 1, _, _, by go_num, by have := HF2.out; omega, by omega, RW9.out, BB9.out, NX.out, RL9.out, OF9.out⟩
            case measure => have := HF2.out; omega
      · have t4 : decide ((nh : Int) > 0) = false := decide_eq_false (by omega)
        have t4' : decide (0 < (nh : Int)) = false := decide_eq_false (by omega)
        have t4'' : decide (0 < nh) = false := decide_eq_false hn0
        have HNA := hid (show ¬ (0 < kh.length ∧ 0 ≤ cmp (ek, ev).1 kh) from fun h => hn0 (by rw [← HKN.out]; exact h.1))
        have BC := hid (Below.refl wr2.heap.size wr2)
        by_cases hlow : cmp ek kl < 0
        · have t6 : decide (ql ≥ 0) = false := decide_eq_false (by rw [← HQL.out]; omega)
          have t6' : decide (0 ≤ ql) = false := decide_eq_false (by rw [← HQL.out]; omega)
          have NX := hid (show X = es2 ++ rrst b kl kh T (L.drop (k + 1)) by rw [HD2.out, hdk, rrst_low HNA.out hlow])
          clear hlow hdk
          go_wp2_with fail
          refine (CL.out _ BC.out).mono ?_
          rintro e w8 ⟨rfl, hb8⟩
          have B8 := hid (keep_trans BC.out hb8)
          clear hb8
          go_wp2_with fail
          go_roundg (f2 - 1)
          case rel => exact ⟨k + 1, vo2, es2, by go_num, by have := HF2.out; omega, by omega, RW2.out.keep B8.out, keep_trans BW2.out B8.out, NX.out, RL2.out.keep B8.out, OF2.out⟩
          case measure => have := HF2.out; omega
        · have t6 : decide (ql ≥ 0) = true := decide_eq_true (by rw [← HQL.out]; omega)
          have t6' : decide (0 ≤ ql) = true := decide_eq_true (by rw [← HQL.out]; omega)
          have NX := hid (show X = (es2 ++ [(ek, ev)]) ++ rrst b kl kh T (L.drop (k + 1)) by rw [HD2.out, hdk, rrst_take HNA.out hlow, List.append_assoc]; rfl)
          have HLN := hid (show es2.length + 1 ≤ 536870912 by
            have h1 := congrArg List.length NX.out
            rw [List.length_append, List.length_append, List.length_singleton] at h1
            have h2 := HXL.out
            omega)
          clear hlow hdk
          go_wp2_with fail
          refine (CL.out _ BC.out).mono ?_
          rintro e w8 ⟨rfl, hb8⟩
          have B8 := hid (keep_trans BC.out hb8)
          have RW8 := hid (RW2.out.keep B8.out)
          have RL8 := hid (RL2.out.keep B8.out)
          have VL8 := hid (show vo2.length + 1 ≤ 536870912 by have := RW8.out.len; have := HLN.out; omega)
          have d0 := (World.cell?_of_block (B8.out.block bL (cell_lt D0.out))).trans D0.out
          have d1 := (World.cell?_of_block (B8.out.block bL (cell_lt D1.out))).trans D1.out
          have BB8 := hid (keep_trans BW2.out B8.out)
          clear hb8
          go_wp2_with (at_builtin; go_loud (refine wpList_appZ eltTE zE_ok rfl (.tmp 63) (.tmp 68) rfl w.heap.size _ vo2 (by rfl) (RW8.out.own.keep ((Below.refl _ _).alloc (Nat.le_refl _) _)) _ 1 1 [((a1, n1, k1), (a3, n3, k3))] (by rfl) (SlT.lit1 _ _ _ _ rfl) (by have := VL8.out; unfold maxLen; omega) (by have := VL8.out; omega) (by have := BB8.out.size; simp; omega) (vo2 ++ [((a1, n1, k1), (a3, n3, k3))]) rfl ?_); intro v9 w9 h9 hg9 hv9 hb9; have O9 := hid h9; have G9 := hid hg9; have V9 := hid hv9; have B9 := hid hb9; obtain ⟨a9, n9, c9, rfl, -, -⟩ := h9.t.slE; clear h9 hg9 hv9 hb9)
          have T9 : Turns (fun j => v9o.ownBlock = some j) w8 w9 := (Turns.of_below (S := fun j => v9o.ownBlock = some j) ((Below.refl w8.heap.size w8).alloc (Nat.le_refl _) _)).trans (.of_grown (S := fun j => v9o.ownBlock = some j) G9.out fun j hj => hj) fun _ _ e => e
          have hfresh : ∀ j, Value.ownBlock (.slice a9 n9 c9) = some j → v9o.ownBlock = some j ∨ w8.heap.size ≤ j := fun j hj => by
            rcases V9.out with q | q
            · exact .inl (q ▸ hj)
            · rw [q] at hj; injection hj with hj; right; rw [← hj]; simp
          have RW9 := hid (RW8.out.app (x := ((a1, n1, k1), (a3, n3, k3))) (e := (ek, ev)) O9.out T9 hfresh ((ETX.out.1.keep B8.out).base LOW.out) ((ETX.out.2.keep B8.out).base LOW.out) (fun j hj => ⟨fun e => OF2.out j hj (.inr ⟨k, _, HVK.out, .inl e⟩), fun e => OF2.out j hj (.inr ⟨k, _, HVK.out, .inr e⟩)⟩))
          have RL9 := hid (RL8.out.turns T9 fun j hj e => OF2.out j e hj)
          have OF9 := hid (show ∀ j, Value.ownBlock (.slice a9 n9 c9) = some j → ¬ RLB (.slice (some ⟨bL, oL, none⟩) M cy) vl j from fun j hj hq => by
            rcases hfresh j hj with h | h
            · exact OF2.out j h hq
            · have := (RL8.out.inB j hq).2; omega)
          have BB9 := hid (T9.below BB8.out BB8.out.size fun j hj => (RW8.out.own.t.lt j hj).1)
          clear T9 hfresh
          go_wp2_with fail
          go_roundg (f2 - 1)
          case rel => exact ⟨k + 1, _, _, by go_num, by have := HF2.out; omega, by omega, RW9.out, BB9.out, NX.out, RL9.out, OF9.out⟩
          case measure => have := HF2.out; omega

end Go.Proofs.YtljcogimeimknaaGreat
