/- Are entries the same, do copies read as they did, do they rise: contracts of Same, SameAll, Kept, Sorted. Conditions: the slices within reach. -/
import Derived.Test.YteedjgjkldbbcaaEntCopy
namespace Go.Proofs.Yteedjgjkldbbcaa
open Go.RowKit

theorem strB_eq (xs ys : List UInt8) : ((strB xs).toList == (strB ys).toList) = decide (xs = ys) := by
  rw [strB_list, strB_list]
  by_cases h : xs = ys
  · subst h; simp
  · rw [decide_eq_false h]; simp [h]
set_option maxRecDepth 100000 in
set_option maxHeartbeats 400000 in
theorem esame_any (ak : Option Addr) (nk ck : Nat) (av : Option Addr) (nv cv : Nat) (bk : Option Addr) (mk dk : Nat) (bv : Option Addr) (mv dv : Nat) (k v k' v' : List UInt8) (w : World)
    (h1 : Sl Bf w ak nk ck k) (h2 : Sl Bf w av nv cv v) (h3 : Sl Bf w bk mk dk k') (h4 : Sl Bf w bv mv dv v') :
    Calls Try.prog 60 #[.agg #[.slice ak nk ck, .slice av nv cv], .agg #[.slice bk mk dk, .slice bv mv dv]] w fun e w' => e = .returned (.bool (decide (k = k') && decide (v = v'))) ∧ Below w.heap.size w w' := by
  have hb : Below w.heap.size w ((w.alloc (.cells #[.slice ak nk ck, .slice av nv cv] 41)).alloc (.cells #[.slice bk mk dk, .slice bv mv dv] 41)) := ((Below.refl _ _).alloc (Nat.le_refl _) _).alloc (by simp) _
  have r1 := run_str (P := Try.prog) (dst := 9) Try.underlying25 Try.underlying5 (by kernel_rfl) _ _ _ _ _ (h1.keep hb)
  have r2 := run_str (P := Try.prog) (dst := 9) Try.underlying25 Try.underlying5 (by kernel_rfl) _ _ _ _ _ (h2.keep hb)
  have r3 := run_str (P := Try.prog) (dst := 9) Try.underlying25 Try.underlying5 (by kernel_rfl) _ _ _ _ _ (h3.keep hb)
  have r4 := run_str (P := Try.prog) (dst := 9) Try.underlying25 Try.underlying5 (by kernel_rfl) _ _ _ _ _ (h4.keep hb)
  have HB := Lib.hid hb; clear hb h1 h2 h3 h4
  have e1 := strB_eq k k'
  have e2 := strB_eq v v'
  by_cases hk : k = k'
  · rw [decide_eq_true hk] at e1 ⊢
    have E2 := Lib.hid e2; clear e2 hk
    go_enter Try.func60, Try.ntmps60
    go_wp2_with fail
    go_ret
    exact ⟨ret_bool (by rw [Bool.true_and]; exact E2.out), HB.out⟩
  · rw [decide_eq_false hk] at e1 ⊢
    clear e2 hk
    go_enter Try.func60, Try.ntmps60
    go_wp2_with fail
    go_ret
    exact ⟨ret_bool (by simp), HB.out⟩
set_option maxRecDepth 100000 in
set_option maxHeartbeats 1000000 in
theorem sameAll_any (a : Option Addr) (n c : Nat) (a' : Option Addr) (n' c' : Nat) (es : List Ent) (es' : List Ent) (w : World) (hn : n ≤ 9223372036854775807) (hn' : n' ≤ 9223372036854775807)
    (h : Ents w a n c es) (h' : Ents w a' n' c' es') :
    Calls Try.prog 33 #[.slice a n c, .slice a' n' c'] w fun e w' => e = .returned (.bool (decide (es = es'))) ∧ Below w.heap.size w w' := by
  obtain rfl : n = es.length := h.1.symm
  obtain rfl : n' = es'.length := h'.1.symm
  have H := Lib.hid h; clear h
  have H' := Lib.hid h'; clear h'
  by_cases hl : es.length = es'.length
  · have f1 : ((es.length : Int) != (es'.length : Int)) = false := by rw [hl]; simp
    have f2 : (es.length != es'.length) = false := by rw [hl]; simp
    have hl2 : es'.length ≤ es.length := by omega
    have HL := Lib.hid hl; clear hl
    go_enter Try.func33, Try.ntmps33
    go_wp2_with fail
    go_loopw [5] (fun i wr => ∃ k : Nat, k ≤ es.length ∧ i = .int .i64 k ∧ es.take k = es'.take k ∧ Below w.heap.size w wr) (fun i _ => es.length - (intOf i).toNat)
    case atStart => exact ⟨0, Nat.zero_le _, rfl, by simp, Below.refl _ _⟩
    case round =>
      obtain ⟨k, hk, rfl, he, hb⟩ := hrel
      have HE := Lib.hid he; clear he
      have B := Lib.hid hb; clear hb
      by_cases hlt : k < es.length
      · obtain ⟨⟨kk, vv⟩, hx⟩ : ∃ e, es[k]? = some e := ⟨_, List.getElem?_eq_getElem hlt⟩
        obtain ⟨⟨kk', vv'⟩, hy⟩ : ∃ e, es'[k]? = some e := ⟨_, List.getElem?_eq_getElem (by have := HL.out; omega)⟩
        obtain ⟨b, o, ak, nk, ck, av, nv, cv, rfl, c0, c1, s0, s1⟩ := (H.out.keep B.out).2.2.2 k kk vv hx
        obtain ⟨b', o', ak', nk', ck', av', nv', cv', rfl, c0', c1', s0', s1'⟩ := (H'.out.keep B.out).2.2.2 k kk' vv' hy
        have hs := fun q => esame_any ak nk ck av nv cv ak' nk' ck' av' nv' cv' kk vv kk' vv' (wr.drewN q) s0 s1 s0' s1'
        have HS := Lib.hid hs; clear hs s0 s1 s0' s1'
        have HX := Lib.hid hx; clear hx
        have HY := Lib.hid hy; clear hy
        have hlt' : k < es'.length := by have := HL.out; omega
        have key : (kk, vv) = (kk', vv') ↔ es.take (k + 1) = es'.take (k + 1) := by
          rw [List.take_add_one, List.take_add_one, HX.out, HY.out, HE.out]; simp
        have KEY := Lib.hid key; clear key
        obtain ⟨r, hr⟩ : ∃ r, (decide (kk = kk') && decide (vv = vv')) = r := ⟨_, rfl⟩
        have hr2 : r = decide ((kk, vv) = (kk', vv')) := by rw [← hr]; simp [Bool.decide_and]
        rw [hr] at HS
        have HR := Lib.hid hr2; clear hr hr2
        go_upto_region 6 with (fail)
        go_region_with (go_at_call 60; refine (HS.out 1).mono ?_; rintro e w2 ⟨rfl, hb2⟩)
        all_goals
          have B2 := Lib.hid (B.out.drew.trans (hb2.mono (show w.heap.size ≤ _ from B.out.size))); clear hb2
          cases r with
          | true =>
            go_wp2_with fail
            go_roundw
            case rel => exact ⟨k + 1, by omega, by go_num, KEY.out.1 (of_decide_eq_true HR.out.symm), B2.out⟩
            case measure => simp [intOf]; omega
          | false =>
            go_wp2_with fail
            go_ret
            refine ⟨ret_bool ?_, B2.out⟩
            symm; rw [decide_eq_false_iff_not]
            intro e
            exact of_decide_eq_false HR.out.symm (KEY.out.2 (by rw [e]))
      · go_wp2_with fail
        go_ret
        refine ⟨ret_bool ?_, B.out⟩
        have e1 := HE.out; have e2 := HL.out
        rw [List.take_of_length_le (by omega), List.take_of_length_le (by omega)] at e1
        symm; rw [decide_eq_true_eq]; exact e1
  · have f1 : ((es.length : Int) != (es'.length : Int)) = true := by rw [bne_iff_ne]; omega
    have f2 : (es.length != es'.length) = true := by rw [bne_iff_ne]; omega
    go_enter Try.func33, Try.ntmps33
    go_wp2_with fail
    go_ret
    refine ⟨ret_bool ?_, Below.refl _ _⟩
    symm; rw [decide_eq_false_iff_not]
    intro e; exact hl (by rw [e])
set_option maxRecDepth 100000 in
set_option maxHeartbeats 1000000 in
theorem ekept_any (a : Option Addr) (n c : Nat) (a' : Option Addr) (n' c' : Nat) (es : List Ent) (lo hi : Nat) (w : World) (hn : n ≤ 2932031007317) (hf : Fit 140737488351232 es) (h : Cpy w lo hi (a, n, c) es) (hh : hi ≤ w.heap.size) (h' : Ents w a' n' c' es) :
    Calls Try.prog 17 #[.slice a n c, .slice a' n' c'] w fun e w' => e = .returned (.bool true) ∧ Below w.heap.size w w' := by
  obtain rfl : n' = es.length := h'.1.symm
  obtain rfl : n = es.length := h.1
  have hs := sameAll_any a es.length c a' es.length c' es es w (by omega) (by omega) h.ents h'
  rw [decide_eq_true rfl] at hs
  have HS := Lib.hid hs; clear hs
  have H := Lib.hid h; clear h h'
  have HF := Lib.hid hf; clear hf
  obtain ⟨hcap, b, o, ax, cx, e0, _⟩ := H.out.last
  have hcap : es.length + 1 ≤ c := hcap
  have e0 : a = some ⟨b, o, none⟩ := e0
  subst e0
  have hcutE := fun (W : World) => run_cutE W (some ⟨b, o, none⟩) es.length c .i64 (es.length + 1) hcap
  go_enter Try.func17, Try.ntmps17
  go_wp2_with fail
  refine HS.out.mono ?_
  rintro e w1 ⟨rfl, hb⟩
  have B := Lib.hid hb; clear hb
  go_wp2_with fail
  go_loopw [6] (fun i wr => ∃ k : Nat, k ≤ es.length ∧ i = .int .i64 k ∧ Below w.heap.size w wr) (fun i _ => es.length - (intOf i).toNat)
  case atStart => exact ⟨0, Nat.zero_le _, rfl, B.out⟩
  case round =>
    obtain ⟨k, hk, rfl, hb⟩ := hrel
    replace B := Lib.hid hb; clear hb
    have C := Lib.hid (H.out.keep B.out hh)
    by_cases hlt : k < es.length
    · obtain ⟨⟨kk, vv⟩, hx⟩ : ∃ e, es[k]? = some e := ⟨_, List.getElem?_eq_getElem hlt⟩
      obtain ⟨fk, fv⟩ := HF.out _ (List.mem_of_getElem? hx)
      obtain ⟨b2, o2, ⟨ak, nk, ck⟩, ⟨av, nv, cv⟩, e0, c0, c1, m0, m1⟩ := C.out.at k _ hx
      have e0 : some (⟨b, o, none⟩ : Addr) = some ⟨b2, o2, none⟩ := e0
      cases e0
      replace c0 : wr.cell? ⟨b, o + k * 2, none⟩ = some (.slice ak nk ck) := c0
      replace c1 : wr.cell? ⟨b, o + k * 2 + 1, none⟩ = some (.slice av nv cv) := c1
      obtain ⟨bk, ok, ea, q0⟩ := m0.mark
      obtain ⟨bv, ov, eb, q1⟩ := m1.mark
      obtain rfl : nk = kk.length := m0.1
      obtain rfl : nv = vv.length := m1.1
      have ea : ak = some ⟨bk, ok, none⟩ := ea
      have eb : av = some ⟨bv, ov, none⟩ := eb
      subst ea eb
      have ck1 : kk.length + 1 ≤ ck := m0.cap
      have cv1 : vv.length + 1 ≤ cv := m1.cap
      replace q0 : wr.cell? ⟨bk, ok + kk.length, none⟩ = some (.int .u8 77) := q0
      replace q1 : wr.cell? ⟨bv, ov + vv.length, none⟩ = some (.int .u8 77) := q1
      dsimp only at fk fv
      have hcut1 := run_cutto eltB wr (some ⟨bk, ok, none⟩) kk.length ck .i64 (kk.length + 1) ck1
      have hcut2 := run_cutto eltB wr (some ⟨bv, ov, none⟩) vv.length cv .i64 (vv.length + 1) cv1
      clear hx m0 m1
      go_wp2_with fail
      go_roundw
      case rel => exact ⟨k + 1, by omega, by go_num, B.out⟩
      case measure => simp [intOf]; omega
    · obtain ⟨_, b2, o2, ax, cx, e0, c0⟩ := C.out.last
      have e0 : some (⟨b, o, none⟩ : Addr) = some ⟨b2, o2, none⟩ := e0
      cases e0
      go_wp2_with fail
      go_ret
      exact ⟨ret_bool (by simp), B.out⟩

set_option maxRecDepth 100000 in
set_option maxHeartbeats 1000000 in
theorem sorted_any (a : Option Addr) (n c : Nat) (es : List Ent) (w : World) (hn : n ≤ 2932031007317) (hf : Fit 140737488351232 es) (h : Ents w a n c es) :
    Calls Try.prog 37 #[.slice a n c] w fun e w' => e = .returned (.tuple #[.int .i64 ((srt es).1 : Nat), .int .i64 ((srt es).2 : Nat)]) ∧ Below w.heap.size w w' := by
  obtain rfl : n = es.length := h.1.symm
  have H := Lib.hid h; clear h
  have HF := Lib.hid hf; clear hf
  obtain ⟨⟨r0, r1⟩, hr⟩ : ∃ R, srt es = R := ⟨_, rfl⟩
  rw [hr]
  have HR := Lib.hid hr; clear hr
  go_enter Try.func37, Try.ntmps37
  go_wp2_with fail
  go_loopw [4, 10] (fun s i wr => ∃ (k : Nat) (al : Option Addr) (nl cl : Nat) (l : List UInt8), k ≤ es.length ∧ i = .int .i64 k ∧ s = .slice al nl cl ∧ Sl Bf wr al nl cl l ∧ nl ≤ 140737488351232 ∧ srtFrom k l (es.drop k) = (r0, r1) ∧ Below w.heap.size w wr) (fun _ i _ => es.length - (intOf i).toNat)
  case atStart => exact ⟨0, none, 0, 0, [], Nat.zero_le _, rfl, rfl, Sl.nil _ _, by omega, HR.out, Below.refl _ _⟩
  case round =>
    obtain ⟨k, al, nl, cl, l, hk, rfl, rfl, hs, hnl, hr, hb⟩ := hrel
    have B := Lib.hid hb; clear hb
    have S := Lib.hid hs; clear hs
    have hws := B.out.size
    by_cases hlt : k < es.length
    · obtain ⟨⟨kk, vv⟩, hx⟩ : ∃ e, es[k]? = some e := ⟨_, List.getElem?_eq_getElem hlt⟩
      obtain ⟨fk, fv⟩ := HF.out _ (List.mem_of_getElem? hx)
      obtain ⟨b, o, ak, nk, ck, av, nv, cv, rfl, c0, c1, s0, s1⟩ := (H.out.keep B.out).2.2.2 k kk vv hx
      rw [edrop_cons hx] at hr
      have HX := Lib.hid hx; clear hx
      have l0 := s0.len; have l1 := s1.len
      dsimp only at fk fv
      rw [l0] at fk; rw [l1] at fv
      have hchk : chk (kk, vv) = chkN nk nv := by unfold chk; rw [l0, l1]
      obtain ⟨q, hq⟩ : ∃ q, chkN nk nv = q := ⟨_, rfl⟩
      have hck := fun W : World => check_any ak nk ck av nv cv W fk fv
      rw [hq] at hck
      have HCK := Lib.hid hck; clear hck
      have S0 := Lib.hid s0; clear s0 s1 l0 l1
      go_upto_region 5 with (fail)
      have hb1 : Below wr.heap.size wr (wr.alloc (.cells #[.slice ak nk ck, .slice av nv cv] 41)) := (Below.refl _ _).alloc (Nat.le_refl _) _
      have hoe : (wr.alloc (.cells #[.slice ak nk ck, .slice av nv cv] 41)).heap[wr.heap.size]? = some (.cells #[.slice ak nk ck, .slice av nv cv] 41 (0, 0)) := heap_new wr _
      replace S := Lib.hid (S.out.keep hb1)
      replace S0 := Lib.hid (S0.out.keep hb1)
      replace B := Lib.hid (keep_trans B.out hb1)
      obtain ⟨g, hg⟩ : ∃ g, wr.heap.size = g := ⟨_, rfl⟩
      rw [hg] at hoe ⊢
      clear hb1 c0 c1 hws hg
      generalize wr.alloc (.cells #[.slice ak nk ck, .slice av nv cv] 41) = w1 at *
      have p0 : w1.cell? ⟨g, 0, none⟩ = some (.slice ak nk ck) := by simp [World.cell?, hoe]
      have p1 : w1.cell? ⟨g, 1, none⟩ = some (.slice av nv cv) := by simp [World.cell?, hoe]
      have OE := Lib.hid hoe; clear hoe
      have lg : g < w1.heap.size := (Array.getElem?_eq_some_iff.1 OE.out).1
      go_wp2_with fail
      refine (HCK.out _).mono ?_
      rintro e w2 ⟨rfl, hb2⟩
      replace S := Lib.hid (S.out.keep hb2)
      replace S0 := Lib.hid (S0.out.keep hb2)
      replace B := Lib.hid (keep_trans B.out hb2)
      have p0 : w2.cell? ⟨g, 0, none⟩ = some (.slice ak nk ck) := (World.cell?_of_block (a := ⟨g, 0, none⟩) (hb2.block g lg)).trans p0
      clear hb2 p1
      by_cases hq0 : q = 0
      · subst hq0
        have hz : ¬ chk (kk, vv) ≠ 0 := by rw [hchk, hq]; simp
        have HC := Lib.hid (bcompare_any al nl cl l ak nk ck kk w2 S.out S0.out)
        obtain ⟨p, hp⟩ : ∃ p, cmp l kk = p := ⟨_, rfl⟩
        rw [hp] at HC
        by_cases hk0 : 0 < k
        · by_cases hp0 : 0 ≤ p
          · rw [srt_cmp hz ⟨hk0, by rw [hp]; exact hp0⟩] at hr
            obtain ⟨rfl, rfl⟩ : k = r0 ∧ 51 = r1 := by simpa using hr
            clear hr hchk hq hz hp
            go_wp2_with fail
            refine HC.out.mono ?_
            rintro e w' ⟨rfl, rfl⟩
            go_wp2_with fail
            go_ret2
            exact ⟨rfl, B.out⟩
          · rw [srt_go hz (fun h => by rw [hp] at h; exact hp0 h.2)] at hr
            have HR2 := Lib.hid hr
            clear hr hchk hq hz hp
            go_wp2_with fail
            refine HC.out.mono ?_
            rintro e w' ⟨rfl, rfl⟩
            go_wp2_with fail
            go_roundw
            case rel => exact ⟨k + 1, ak, nk, ck, kk, by omega, by go_num, rfl, S0.out, fk, HR2.out, B.out⟩
            case measure => simp [intOf]; omega
        · have hk1 : ¬ (k : Int) > 0 := by omega
          rw [srt_go hz (fun h => hk0 h.1)] at hr
          have HR2 := Lib.hid hr
          clear hr hchk hq hz hp hk0
          go_wp2_with fail
          go_roundw
          case rel => exact ⟨k + 1, ak, nk, ck, kk, by omega, by go_num, rfl, S0.out, fk, HR2.out, B.out⟩
          case measure => simp [intOf]; omega
      · rw [srt_chk (show chk (kk, vv) ≠ 0 by rw [hchk, hq]; exact hq0)] at hr
        obtain ⟨rfl, rfl⟩ : k = r0 ∧ q = r1 := by rw [hchk, hq] at hr; simpa using hr
        have f1 : ((q : Int) != 0) = true := by rw [bne_iff_ne]; omega
        have f2 : (q != 0) = true := by rw [bne_iff_ne]; omega
        clear hr hchk hq hq0
        go_wp2_with fail
        go_ret2
        exact ⟨rfl, B.out⟩
    · have hpe : es.drop k = [] := List.drop_of_length_le (by omega)
      rw [hpe, srt_nil] at hr
      obtain ⟨rfl, rfl⟩ : 0 = r0 ∧ 0 = r1 := by simpa using hr
      clear hr hpe
      go_wp2_with fail
      go_ret2
      exact ⟨rfl, B.out⟩
end Go.Proofs.Yteedjgjkldbbcaa
