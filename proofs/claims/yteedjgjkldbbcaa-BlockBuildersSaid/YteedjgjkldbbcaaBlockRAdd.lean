/- The reference's builder: Add, Bytes: contracts. Conditions: the entry within reach. Written by a program of this place (gen_BlockRAdd.py). -/
import Derived.Test.YteedjgjkldbbcaaBlockRBuild
import Derived.Test.YteedjgjkldbbcaaTurns
import Derived.Deep.RegionHeld3
namespace Go.Proofs.Yteedjgjkldbbcaa
open Go.RowKit
set_option linter.unusedVariables false

theorem srt_snoc {l : List Ent} {e : Ent} (h : (srt l).2 = 0) (h1 : chk e = 0) (h2 : ¬ (0 < l.length ∧ 0 ≤ cmp (bst l).last e.1)) : (srt (l ++ [e])).2 = 0 := by
  have main : ∀ (r : List Ent) (i : Nat) (p : List Ent), i = p.length → (srtFrom i (bst p).last r).2 = 0 → ¬ (0 < (p ++ r).length ∧ 0 ≤ cmp (bst (p ++ r)).last e.1) → (srtFrom i (bst p).last (r ++ [e])).2 = 0 := by
    intro r
    induction r with
    | nil =>
      intro i p hi _ hc
      rw [List.append_nil] at hc
      rw [List.nil_append, srt_go (by omega) (by rw [hi]; exact hc)]
      rfl
    | cons x r ih =>
      intro i p hi hs hc
      by_cases c1 : chk x ≠ 0
      · rw [srt_chk c1] at hs; exact absurd hs c1
      by_cases c2 : 0 < i ∧ 0 ≤ cmp (bst p).last x.1
      · rw [srt_cmp c1 c2] at hs; cases hs
      rw [srt_go c1 c2] at hs
      rw [List.cons_append, srt_go c1 c2]
      have hl : (bst (p ++ [x])).last = x.1 := by rw [bst_snoc]; rfl
      rw [← hl] at hs ⊢
      refine ih (i + 1) (p ++ [x]) (by rw [List.length_append, hi]; rfl) hs ?_
      rw [List.append_assoc]; exact hc
  exact main l 0 [] rfl h h2
/-- entries of a builder: rising, that may be, 64 at most -/
def Ris (l : List Ent) : Prop := l.length ≤ 64 ∧ (srt l).2 = 0
theorem Ris.nil : Ris [] := ⟨Nat.zero_le _, rfl⟩
theorem Ris.okay {l : List Ent} (h : Ris l) : Okay l := srt_okay h.2
theorem Ris.add {l : List Ent} {e : Ent} (h : Ris l) (ha : addE l e = 0) : Ris (l ++ [e]) := by
  obtain ⟨h1, h2, h3⟩ := addE_zero ha
  exact ⟨by rw [List.length_append]; have := h.1; simp; omega, srt_snoc h.2 h1 h3⟩
theorem Ris.build {l : List Ent} (h : Ris l) : (bbuild l).1 = bld l := by
  by_cases hc : l.length < 1 ∨ 64 < l.length
  · have : l = [] := List.length_eq_zero_iff.1 (by have := h.1; omega)
    subst this; rw [bbuild_count hc]; rfl
  · rw [bbuild_ok hc h.2]
theorem Ris.fit {l : List Ent} (h : Ris l) : Fit 140737488351232 l := fun e he => by have := chk_zero (h.okay e he); omega
/-- a row of the call's own of entries whose texts lie ahead of it -/
def ELs (w0 w : World) (y : Value) (vs : List (Sv × Sv)) (es : List Ent) : Prop :=
  OwT fE w w0.heap.size 41 y vs ∧ vs.length = es.length ∧ ∀ (i : Nat) (x : Sv × Sv) (e : Ent), vs[i]? = some x → es[i]? = some e → Sl Bf w0 x.1.1 x.1.2.1 x.1.2.2 e.1 ∧ Sl Bf w0 x.2.1 x.2.2.1 x.2.2.2 e.2
theorem ELs.nil (w0 w : World) : ELs w0 w (.slice none 0 0) [] [] := ⟨OwT.nil _ _ _ _, rfl, fun i x e h _ => by simp at h⟩
theorem ELs.turns {w0 w w' : World} {S : Nat → Prop} {y : Value} {vs : List (Sv × Sv)} {es : List Ent} (h : ELs w0 w y vs es) (ht : Turns S w w') (hs : ∀ j, y.ownBlock = some j → ¬ S j) : ELs w0 w' y vs es := ⟨h.1.turns ht hs, h.2⟩
theorem ELs.ents {w0 w : World} {y : Value} {vs : List (Sv × Sv)} {es : List Ent} (h : ELs w0 w y vs es) (hb : Below w0.heap.size w0 w) : ∃ a c, y = .slice a es.length c ∧ Ents w a es.length c es := by
  obtain ⟨ho, hl, ht⟩ := h
  obtain ⟨a, c, hv, hs⟩ := ho.sl fE_len
  rw [hl] at hv hs
  refine ⟨a, c, hv, rfl, hs.2.1, hs.2.2.1, fun i k v hi => ?_⟩
  have hil : i < vs.length := by have := (List.getElem?_eq_some_iff.1 hi).1; omega
  obtain ⟨⟨⟨a1, n1, c1⟩, ⟨a2, n2, c2⟩⟩, hx⟩ : ∃ x, vs[i]? = some x := ⟨_, List.getElem?_eq_getElem hil⟩
  obtain ⟨b, o, ha, hc⟩ := hs.2.2.2 i _ hx
  obtain ⟨s1, s2⟩ := ht i _ _ hx hi
  exact ⟨b, o, a1, n1, c1, a2, n2, c2, ha, by simpa [sv] using hc 0 _ rfl, by simpa [sv] using hc 1 _ rfl, s1.keep hb, s2.keep hb⟩
theorem ELs.snoc {w0 w w' : World} {y y' : Value} {vs : List (Sv × Sv)} {es : List Ent} {x : Sv × Sv} {e : Ent} (h : ELs w0 w y vs es) (ho : OwT fE w' w0.heap.size 41 y' (vs ++ [x])) (h1 : Sl Bf w0 x.1.1 x.1.2.1 x.1.2.2 e.1) (h2 : Sl Bf w0 x.2.1 x.2.2.1 x.2.2.2 e.2) : ELs w0 w' y' (vs ++ [x]) (es ++ [e]) := by
  obtain ⟨_, hl, ht⟩ := h
  refine ⟨ho, by rw [List.length_append, List.length_append, hl]; rfl, fun i z q hz hq => ?_⟩
  by_cases hi : i < vs.length
  · rw [List.getElem?_append_left hi] at hz
    rw [List.getElem?_append_left (by rw [← hl]; exact hi)] at hq
    exact ht i z q hz hq
  · have hi2 : i < (vs ++ [x]).length := (List.getElem?_eq_some_iff.1 hz).1
    rw [List.length_append] at hi2
    obtain rfl : i = vs.length := by simp at hi2; omega
    obtain rfl : x = z := by simpa using hz
    obtain rfl : e = q := by rw [hl] at hq; simpa using hq
    exact ⟨h1, h2⟩
/-- behind the reference's Add -/
def RAddPost (w0 w : World) (gy k : Nat) (y : Value) (vs : List (Sv × Sv)) (l : List Ent) (e : Ent) (x : Sv × Sv) (r : Ending) (w' : World) : Prop :=
  r = .returned (.int .i64 (addE l e : Nat)) ∧ (addE l e ≠ 0 → Below w.heap.size w w') ∧
  (addE l e = 0 → ∃ y' w1, w' = w1.setCell ⟨gy, k, none⟩ y' ∧ ELs w0 w1 y' (vs ++ [x]) (l ++ [e]) ∧ Turns (fun j => y.ownBlock = some j) w w1 ∧ ∀ j, y'.ownBlock = some j → y.ownBlock = some j ∨ w.heap.size ≤ j)
theorem RAddPost.no {w0 w w' : World} {gy k q : Nat} {y : Value} {vs : List (Sv × Sv)} {l : List Ent} {e : Ent} {x : Sv × Sv} (h : addE l e = q) (hq : q ≠ 0) (hb : Below w.heap.size w w') : RAddPost w0 w gy k y vs l e x (.returned (.int .i64 (q : Nat))) w' := by
  subst h
  exact ⟨rfl, fun _ => hb, fun e => absurd e hq⟩
set_option maxRecDepth 100000 in
set_option maxHeartbeats 8000000 in
theorem radd_any (w0 : World) (gy k : Nat) (y : Value) (vs : List (Sv × Sv)) (l : List Ent) (ak : Option Addr) (nk ck : Nat) (kk : List UInt8) (av : Option Addr) (nv cv : Nat) (vv : List UInt8) (w : World)
    (hr : Ris l) (hk : nk ≤ 140737488351232) (hv : nv ≤ 140737488351232) (hb0 : Below w0.heap.size w0 w) (hy : ELs w0 w y vs l) (hc : w.cell? ⟨gy, k, none⟩ = some y) (hfz : w.frozen? ⟨gy, k, none⟩ = false) (hgy : ∀ j, y.ownBlock = some j → j ≠ gy) (h1 : Sl Bf w0 ak nk ck kk) (h2 : Sl Bf w0 av nv cv vv) :
    Calls Try.prog 21 #[.pointer (some ⟨gy, k, none⟩), .agg #[.slice ak nk ck, .slice av nv cv]] w (RAddPost w0 w gy k y vs l (kk, vv) ((ak, nk, ck), (av, nv, cv))) := by
  obtain rfl : nk = kk.length := h1.len.symm
  obtain rfl : nv = vv.length := h2.len.symm
  have hc0 := rcheck_any ak kk.length ck av vv.length cv
  obtain ⟨q, hq⟩ : ∃ q, chkN kk.length vv.length = q := ⟨_, rfl⟩
  have HCK := Lib.hid (fun W : World => hq ▸ hc0 W hk hv)
  have hqc : chk (kk, vv) = q := hq
  obtain ⟨a, c, rfl, hen⟩ := hy.ents hb0
  obtain ⟨n, hn⟩ : ∃ n, l.length = n := ⟨_, rfl⟩
  have hl := hr.1
  have hvl : vs.length = l.length := hy.2.1
  rw [hn] at hl hen hc hvl hy hgy ⊢
  have R := Lib.hid hr
  have EN := Lib.hid hen
  have EL := Lib.hid hy
  have B0 := Lib.hid hb0
  have K := Lib.hid h1
  have X := Lib.hid h2
  have HGY := Lib.hid hgy
  have YC := Lib.hid (show ∃ o, w.heap[gy]? = some o ∧ (∀ W : World, W.heap[gy]? = some o → W.cell? ⟨gy, k, none⟩ = some (.slice a n c) ∧ W.frozen? ⟨gy, k, none⟩ = false) from by
    have hlt := cell_lt hc
    refine ⟨_, Array.getElem?_eq_getElem hlt, fun W hW => ⟨(World.cell?_of_block (w := w) (hW.trans (Array.getElem?_eq_getElem hlt).symm)).trans hc, ?_⟩⟩
    have e : W.heap[gy]? = w.heap[gy]? := hW.trans (Array.getElem?_eq_getElem hlt).symm
    rw [← hfz]; simp only [World.frozen?, e])
  have VL := Lib.hid hvl
  clear hc0 hq hr hb0 hy hc hfz hgy h1 h2 hen hvl
  by_cases hz : q = 0
  · subst hz
    by_cases hfull : n = 64
    · subst hfull
      have ADD := Lib.hid (addE_full (l := l) hqc hn)
      clear hqc hn
      have hb1 : Below w.heap.size w (w.alloc (.cells #[.slice ak kk.length ck, .slice av vv.length cv] 41)) := (Below.refl _ _).alloc (Nat.le_refl _) _
      have BX := Lib.hid (heap_new w (.cells #[.slice ak kk.length ck, .slice av vv.length cv] 41))
      have HB := Lib.hid hb1
      obtain ⟨oy, hoy, YF⟩ := YC.out
      replace YC := Lib.hid ((Stab.block hoy).keep hb1)
      replace YF := Lib.hid YF
      replace EN := Lib.hid (EN.out.keep hb1)
      clear hb1 hoy
      go_enter Try.func21, Try.ntmps21
      go_upto_region 1 with (fail)
      obtain ⟨ge, hge⟩ : ∃ z, w.heap.size = z := ⟨_, rfl⟩
      rw [hge] at BX
      have hge2 : w.heap.size ≤ ge := by omega
      rw [hge]
      clear hge
      generalize w.alloc (.cells #[.slice ak kk.length ck, .slice av vv.length cv] 41) = w1 at *
      have x0 := cell_of BX.out 0 rfl
      have x1 := cell_of BX.out 1 rfl
      go_wp2_with fail
      refine (HCK.out _).mono ?_
      rintro e w2 ⟨rfl, hb⟩
      replace EN := Lib.hid (EN.out.keep hb)
      replace BX := Lib.hid ((Stab.block BX.out).keep hb).now
      replace YC := Lib.hid (YC.out.keep hb)
      replace HB := Lib.hid (HB.out.trans (hb.mono (by have := HB.out.size; omega)))
      clear hb x0 x1 HCK
      obtain ⟨y0, y1⟩ := YF.out w2 YC.out.now
      have x0 := cell_of BX.out 0 rfl
      have x1 := cell_of BX.out 1 rfl
      go_wp2_with fail
      go_ret
      exact RAddPost.no ADD.out (by decide) HB.out
    · have t1 : ((n : Int) == 64) = false := by rw [beq_eq_false_iff_ne]; omega
      have t1' : (n == 64) = false := by rw [beq_eq_false_iff_ne]; omega
      obtain ⟨q3, hq3⟩ : ∃ q3, cmp (bst l).last kk = q3 := ⟨_, rfl⟩
      have hlast : ∀ j, n = j + 1 → ∃ ll vl, l[j]? = some (ll, vl) ∧ (bst l).last = ll := fun j hj => by
        obtain ⟨⟨ll, vl⟩, hx⟩ : ∃ e, l[j]? = some e := ⟨_, List.getElem?_eq_getElem (by omega)⟩
        refine ⟨ll, vl, hx, ?_⟩
        have hb := bst_take hx
        rw [List.take_of_length_le (by omega)] at hb
        rw [hb]; rfl
      by_cases hcmp : 0 < n ∧ 0 ≤ q3
      · have ADD := Lib.hid (addE_cmp (l := l) hqc (by omega) (by rw [hn]; show 0 < n ∧ 0 ≤ cmp _ kk; rw [hq3]; exact hcmp))
        obtain ⟨z1, z2⟩ := hcmp
        have t4 : decide (q3 ≥ 0) = true := decide_eq_true z2
        obtain ⟨j, rfl⟩ : ∃ j, n = j + 1 := ⟨n - 1, by omega⟩
        obtain ⟨ll, vl, hx, hll⟩ := hlast j rfl
        rw [hll] at hq3
        have t2 : decide (((j + 1 : Nat) : Int) > 0) = true := decide_eq_true (by omega)
        have t2' : decide ((j : Int) + 1 > 0) = true := decide_eq_true (by omega)
        have t3 : decide (0 < j + 1) = true := decide_eq_true (by omega)
        have e1 : IntKind.i64.wrap ((j : Int) + 1 - 1) = (j : Int) := by rw [show (j : Int) + 1 - 1 = (j : Int) by omega]; exact IntWalk.i64_in _ (by omega)
        have hw0 : -9223372036854775808 ≤ q3 := by have := cmp_cases ll kk; omega
        have HX := Lib.hid hx
        have HQ3 := Lib.hid hq3
        have hll64 : ll.length ≤ 64 := (chk_zero (R.out.okay _ (List.mem_of_getElem? hx))).2.1
        clear hqc hn hx hq3 hfull hlast hll
        have hb1 : Below w.heap.size w (w.alloc (.cells #[.slice ak kk.length ck, .slice av vv.length cv] 41)) := (Below.refl _ _).alloc (Nat.le_refl _) _
        have BX := Lib.hid (heap_new w (.cells #[.slice ak kk.length ck, .slice av vv.length cv] 41))
        have HB := Lib.hid hb1
        obtain ⟨oy, hoy, YF⟩ := YC.out
        replace YC := Lib.hid ((Stab.block hoy).keep hb1)
        replace YF := Lib.hid YF
        replace EN := Lib.hid (EN.out.keep hb1)
        clear hb1 hoy
        go_enter Try.func21, Try.ntmps21
        go_upto_region 1 with (fail)
        obtain ⟨ge, hge⟩ : ∃ z, w.heap.size = z := ⟨_, rfl⟩
        rw [hge] at BX
        have hge2 : w.heap.size ≤ ge := by omega
        rw [hge]
        clear hge
        generalize w.alloc (.cells #[.slice ak kk.length ck, .slice av vv.length cv] 41) = w1 at *
        have x0 := cell_of BX.out 0 rfl
        have x1 := cell_of BX.out 1 rfl
        go_wp2_with fail
        refine (HCK.out _).mono ?_
        rintro e w2 ⟨rfl, hb⟩
        replace EN := Lib.hid (EN.out.keep hb)
        replace BX := Lib.hid ((Stab.block BX.out).keep hb).now
        replace YC := Lib.hid (YC.out.keep hb)
        replace HB := Lib.hid (HB.out.trans (hb.mono (by have := HB.out.size; omega)))
        clear hb x0 x1 HCK
        obtain ⟨y0, y1⟩ := YF.out w2 YC.out.now
        have x0 := cell_of BX.out 0 rfl
        have x1 := cell_of BX.out 1 rfl
        obtain ⟨b, o, al, nl, cl, _, _, _, rfl, l0, _, sl0, _⟩ := EN.out.2.2.2 j ll vl HX.out
        have SL0 := Lib.hid sl0
        obtain rfl : nl = ll.length := sl0.len.symm
        have CQ := Lib.hid (fun m : Nat => HQ3.out ▸ rcompare_q al ll.length cl ll ak kk.length ck kk (w2.drewN m) (by omega) (by omega) (SL0.out.drewN m) ((K.out.keep (B0.out.trans (HB.out.mono (by have := B0.out.size; omega)))).drewN m))
        clear sl0
        go_wp2_with fail
        go_quiet ((go_at_call 47; exact Calls.quiet_of_drw (CQ.out _)))
        go_wp2_with fail
        go_ret
        exact RAddPost.no ADD.out (by decide) (keep_drewN HB.out _)
      · have ADD := Lib.hid (addE_ok (l := l) hqc (by omega) (by rw [hn]; show ¬ (0 < n ∧ 0 ≤ cmp _ kk); rw [hq3]; exact hcmp))
        have B9 := Lib.hid (show ∀ W : World, Below w0.heap.size w0 W → Sl Bf W ak kk.length ck kk ∧ Sl Bf W av vv.length cv vv from fun W hb => ⟨K.out.keep hb, X.out.keep hb⟩)
        by_cases h0 : n = 0
        · subst h0
          have HN := Lib.hid hn
          clear hqc hn hq3 hfull hcmp hlast
          have hb1 : Below w.heap.size w (w.alloc (.cells #[.slice ak kk.length ck, .slice av vv.length cv] 41)) := (Below.refl _ _).alloc (Nat.le_refl _) _
          have BX := Lib.hid (heap_new w (.cells #[.slice ak kk.length ck, .slice av vv.length cv] 41))
          have HB := Lib.hid hb1
          obtain ⟨oy, hoy, YF⟩ := YC.out
          replace YC := Lib.hid ((Stab.block hoy).keep hb1)
          replace YF := Lib.hid YF
          replace EN := Lib.hid (EN.out.keep hb1)
          clear hb1 hoy
          go_enter Try.func21, Try.ntmps21
          go_upto_region 1 with (fail)
          obtain ⟨ge, hge⟩ : ∃ z, w.heap.size = z := ⟨_, rfl⟩
          rw [hge] at BX
          have hge2 : w.heap.size ≤ ge := by omega
          rw [hge]
          clear hge
          generalize w.alloc (.cells #[.slice ak kk.length ck, .slice av vv.length cv] 41) = w1 at *
          have x0 := cell_of BX.out 0 rfl
          have x1 := cell_of BX.out 1 rfl
          go_wp2_with fail
          refine (HCK.out _).mono ?_
          rintro e w2 ⟨rfl, hb⟩
          replace EN := Lib.hid (EN.out.keep hb)
          replace BX := Lib.hid ((Stab.block BX.out).keep hb).now
          replace YC := Lib.hid (YC.out.keep hb)
          replace HB := Lib.hid (HB.out.trans (hb.mono (by have := HB.out.size; omega)))
          clear hb x0 x1 HCK
          obtain ⟨y0, y1⟩ := YF.out w2 YC.out.now
          have x0 := cell_of BX.out 0 rfl
          have x1 := cell_of BX.out 1 rfl
          go_wp2_with fail
          go_quiet (fail)
          go_wp2_with fail
          have hbw : Below w.heap.size w (w2.drewN nq) := keep_drewN HB.out nq
          replace HB := Lib.hid hbw
          replace BX : Hid ((w2.drewN nq).heap[ge]? = _) := BX
          replace YC := Lib.hid (YC.out.drewN nq)
          clear hbw x0 x1 y0 y1 EN
          generalize w2.drewN nq = w3 at *
          obtain ⟨y0, y1⟩ := YF.out w3 YC.out.now
          have x0 := cell_of BX.out 0 rfl
          have x1 := cell_of BX.out 1 rfl
          obtain ⟨y2, y3⟩ := YF.out (w3.alloc (.cells #[.slice ak kk.length ck, .slice av vv.length cv] 41)) (YC.out.alloc _).now
          have OY := Lib.hid (EL.out.1.keep HB.out)
          have lw0 : w0.heap.size ≤ w3.heap.size := Nat.le_trans B0.out.size HB.out.size
          have SL1 := Lib.hid (SlT.lit1 w3.drew (ak, kk.length, ck) (av, vv.length, cv) w3.heap.size rfl)
          go_upto_region 8 with (fail)
          go_region_law (refine step_appT eltTE rfl (.tmp 46) (.tmp 48) rfl w0.heap.size (.slice a 0 c) vs (by simp [Act.eval]) (OY.out.drew.alloc _) (some ⟨w3.heap.size, 0, none⟩) 1 1 [((ak, kk.length, ck), (av, vv.length, cv))] (by simp [Act.eval]) SL1.out (by rw [VL.out]; unfold maxLen; omega) (by rw [VL.out]; omega) (Nat.le_trans lw0 (by simp)) (vs ++ [((ak, kk.length, ck), (av, vv.length, cv))]) rfl ?_; intro v6 w6 h6 hg6 hv6 hb6; have O6 := Lib.hid h6; have TU6 : Hid (Turns (fun j => Value.ownBlock (.slice a 0 c) = some j) w3 w6) := Lib.hid (((Turns.of_below (((Below.refl _ w3).drew).alloc (Nat.le_refl _) _))).trans (.of_grown hg6 fun j e => e) fun _ _ e => e); have hy6 := YF.out w6 (TU6.out.heap YC.out.now fun e => HGY.out gy e rfl); obtain ⟨yc6, yf6⟩ := hy6; have OB6 := Lib.hid hv6; obtain ⟨a6, n6, c6, rfl, -, -⟩ := h6.slE; clear h6 hg6 hv6 hb6)
          all_goals
            go_wp2_with fail
            go_ret
            refine ⟨by rw [ADD.out]; rfl, fun e => absurd ADD.out e, fun _ => ⟨_, w6, rfl, EL.out.snoc O6.out K.out X.out, (Turns.of_below HB.out).trans TU6.out fun _ _ e => e, fun j hj => ?_⟩⟩
            rcases OB6.out with e | e
            · exact .inl (e.symm.trans hj)
            · rw [e] at hj; injection hj with hj
              exact .inr (by have := HB.out.size; have e5 : (w3.drew.alloc (.cells #[.slice ak kk.length ck, .slice av vv.length cv] 41)).heap.size = w3.heap.size + 1 := by simp
                             simp at hj; omega)
        · have z2 : ¬ 0 ≤ q3 := fun e => hcmp ⟨by omega, e⟩
          have t4 : decide (q3 ≥ 0) = false := decide_eq_false z2
          obtain ⟨j, rfl⟩ : ∃ j, n = j + 1 := ⟨n - 1, by omega⟩
          obtain ⟨ll, vl, hx, hll⟩ := hlast j rfl
          rw [hll] at hq3
          have t2 : decide (((j + 1 : Nat) : Int) > 0) = true := decide_eq_true (by omega)
          have t2' : decide ((j : Int) + 1 > 0) = true := decide_eq_true (by omega)
          have t3 : decide (0 < j + 1) = true := decide_eq_true (by omega)
          have e1 : IntKind.i64.wrap ((j : Int) + 1 - 1) = (j : Int) := by rw [show (j : Int) + 1 - 1 = (j : Int) by omega]; exact IntWalk.i64_in _ (by omega)
          have hw0 : -9223372036854775808 ≤ q3 := by have := cmp_cases ll kk; omega
          have HX := Lib.hid hx
          have HQ3 := Lib.hid hq3
          have hll64 : ll.length ≤ 64 := (chk_zero (R.out.okay _ (List.mem_of_getElem? hx))).2.1
          clear hqc hn hx hq3 hfull hlast hll
          clear hcmp
          have hb1 : Below w.heap.size w (w.alloc (.cells #[.slice ak kk.length ck, .slice av vv.length cv] 41)) := (Below.refl _ _).alloc (Nat.le_refl _) _
          have BX := Lib.hid (heap_new w (.cells #[.slice ak kk.length ck, .slice av vv.length cv] 41))
          have HB := Lib.hid hb1
          obtain ⟨oy, hoy, YF⟩ := YC.out
          replace YC := Lib.hid ((Stab.block hoy).keep hb1)
          replace YF := Lib.hid YF
          replace EN := Lib.hid (EN.out.keep hb1)
          clear hb1 hoy
          go_enter Try.func21, Try.ntmps21
          go_upto_region 1 with (fail)
          obtain ⟨ge, hge⟩ : ∃ z, w.heap.size = z := ⟨_, rfl⟩
          rw [hge] at BX
          have hge2 : w.heap.size ≤ ge := by omega
          rw [hge]
          clear hge
          generalize w.alloc (.cells #[.slice ak kk.length ck, .slice av vv.length cv] 41) = w1 at *
          have x0 := cell_of BX.out 0 rfl
          have x1 := cell_of BX.out 1 rfl
          go_wp2_with fail
          refine (HCK.out _).mono ?_
          rintro e w2 ⟨rfl, hb⟩
          replace EN := Lib.hid (EN.out.keep hb)
          replace BX := Lib.hid ((Stab.block BX.out).keep hb).now
          replace YC := Lib.hid (YC.out.keep hb)
          replace HB := Lib.hid (HB.out.trans (hb.mono (by have := HB.out.size; omega)))
          clear hb x0 x1 HCK
          obtain ⟨y0, y1⟩ := YF.out w2 YC.out.now
          have x0 := cell_of BX.out 0 rfl
          have x1 := cell_of BX.out 1 rfl
          obtain ⟨b, o, al, nl, cl, _, _, _, rfl, l0, _, sl0, _⟩ := EN.out.2.2.2 j ll vl HX.out
          have SL0 := Lib.hid sl0
          obtain rfl : nl = ll.length := sl0.len.symm
          have CQ := Lib.hid (fun m : Nat => HQ3.out ▸ rcompare_q al ll.length cl ll ak kk.length ck kk (w2.drewN m) (by omega) (by omega) (SL0.out.drewN m) ((K.out.keep (B0.out.trans (HB.out.mono (by have := B0.out.size; omega)))).drewN m))
          clear sl0
          go_wp2_with fail
          go_quiet ((go_at_call 47; exact Calls.quiet_of_drw (CQ.out _)))
          go_wp2_with fail
          have hbw : Below w.heap.size w (w2.drewN nq) := keep_drewN HB.out nq
          replace HB := Lib.hid hbw
          replace BX : Hid ((w2.drewN nq).heap[ge]? = _) := BX
          replace YC := Lib.hid (YC.out.drewN nq)
          clear hbw x0 x1 y0 y1 EN
          generalize w2.drewN nq = w3 at *
          obtain ⟨y0, y1⟩ := YF.out w3 YC.out.now
          have x0 := cell_of BX.out 0 rfl
          have x1 := cell_of BX.out 1 rfl
          obtain ⟨y2, y3⟩ := YF.out (w3.alloc (.cells #[.slice ak kk.length ck, .slice av vv.length cv] 41)) (YC.out.alloc _).now
          have OY := Lib.hid (EL.out.1.keep HB.out)
          have lw0 : w0.heap.size ≤ w3.heap.size := Nat.le_trans B0.out.size HB.out.size
          have SL1 := Lib.hid (SlT.lit1 w3.drew (ak, kk.length, ck) (av, vv.length, cv) w3.heap.size rfl)
          go_upto_region 8 with (fail)
          go_region_law (refine step_appT eltTE rfl (.tmp 46) (.tmp 48) rfl w0.heap.size (.slice (some ⟨b, o, none⟩) (j + 1) c) vs (by simp [Act.eval]) (OY.out.drew.alloc _) (some ⟨w3.heap.size, 0, none⟩) 1 1 [((ak, kk.length, ck), (av, vv.length, cv))] (by simp [Act.eval]) SL1.out (by rw [VL.out]; unfold maxLen; omega) (by rw [VL.out]; omega) (Nat.le_trans lw0 (by simp)) (vs ++ [((ak, kk.length, ck), (av, vv.length, cv))]) rfl ?_; intro v6 w6 h6 hg6 hv6 hb6; have O6 := Lib.hid h6; have TU6 : Hid (Turns (fun j => Value.ownBlock (.slice (some ⟨b, o, none⟩) (j + 1) c) = some j) w3 w6) := Lib.hid (((Turns.of_below (((Below.refl _ w3).drew).alloc (Nat.le_refl _) _))).trans (.of_grown hg6 fun j e => e) fun _ _ e => e); have hy6 := YF.out w6 (TU6.out.heap YC.out.now fun e => HGY.out gy e rfl); obtain ⟨yc6, yf6⟩ := hy6; have OB6 := Lib.hid hv6; obtain ⟨a6, n6, c6, rfl, -, -⟩ := h6.slE; clear h6 hg6 hv6 hb6)
          all_goals
            go_wp2_with fail
            go_ret
            refine ⟨by rw [ADD.out]; rfl, fun e => absurd ADD.out e, fun _ => ⟨_, w6, rfl, EL.out.snoc O6.out K.out X.out, (Turns.of_below HB.out).trans TU6.out fun _ _ e => e, fun j hj => ?_⟩⟩
            rcases OB6.out with e | e
            · exact .inl (e.symm.trans hj)
            · rw [e] at hj; injection hj with hj
              exact .inr (by have := HB.out.size; have e5 : (w3.drew.alloc (.cells #[.slice ak kk.length ck, .slice av vv.length cv] 41)).heap.size = w3.heap.size + 1 := by simp
                             simp at hj; omega)
  · have ADD := Lib.hid ((addE_chk (l := l) (by rw [hqc]; exact hz)).trans hqc)
    have t1 : ((q : Int) != 0) = true := by rw [bne_iff_ne]; omega
    have t1' : (q != 0) = true := by rw [bne_iff_ne]; omega
    have HZ := Lib.hid hz
    clear hqc hn hz
    have hb1 : Below w.heap.size w (w.alloc (.cells #[.slice ak kk.length ck, .slice av vv.length cv] 41)) := (Below.refl _ _).alloc (Nat.le_refl _) _
    have BX := Lib.hid (heap_new w (.cells #[.slice ak kk.length ck, .slice av vv.length cv] 41))
    have HB := Lib.hid hb1
    obtain ⟨oy, hoy, YF⟩ := YC.out
    replace YC := Lib.hid ((Stab.block hoy).keep hb1)
    replace YF := Lib.hid YF
    replace EN := Lib.hid (EN.out.keep hb1)
    clear hb1 hoy
    go_enter Try.func21, Try.ntmps21
    go_upto_region 1 with (fail)
    obtain ⟨ge, hge⟩ : ∃ z, w.heap.size = z := ⟨_, rfl⟩
    rw [hge] at BX
    have hge2 : w.heap.size ≤ ge := by omega
    rw [hge]
    clear hge
    generalize w.alloc (.cells #[.slice ak kk.length ck, .slice av vv.length cv] 41) = w1 at *
    have x0 := cell_of BX.out 0 rfl
    have x1 := cell_of BX.out 1 rfl
    go_wp2_with fail
    refine (HCK.out _).mono ?_
    rintro e w2 ⟨rfl, hb⟩
    replace EN := Lib.hid (EN.out.keep hb)
    replace BX := Lib.hid ((Stab.block BX.out).keep hb).now
    replace YC := Lib.hid (YC.out.keep hb)
    replace HB := Lib.hid (HB.out.trans (hb.mono (by have := HB.out.size; omega)))
    clear hb x0 x1 HCK
    obtain ⟨y0, y1⟩ := YF.out w2 YC.out.now
    have x0 := cell_of BX.out 0 rfl
    have x1 := cell_of BX.out 1 rfl
    go_wp2_with fail
    go_ret
    exact RAddPost.no ADD.out HZ.out HB.out
set_option maxRecDepth 100000 in
theorem rbytesB_any (w0 : World) (gy k : Nat) (y : Value) (vs : List (Sv × Sv)) (l : List Ent) (w : World) (hr : Ris l) (hb0 : Below w0.heap.size w0 w) (hy : ELs w0 w y vs l) (hc : w.cell? ⟨gy, k, none⟩ = some y) :
    Calls Try.prog 23 #[.pointer (some ⟨gy, k, none⟩)] w fun e w' => ∃ v, e = .returned v ∧ OwT fB w' w.heap.size 5 v (bld l) ∧ Below w.heap.size w w' := by
  obtain ⟨a, c, rfl, hen⟩ := hy.ents hb0
  have HB := Lib.hid (brbuild_any a l.length c l w (by have := hr.1; omega) hr.fit hen)
  have HR := Lib.hid hr.build
  clear hen hy hr
  go_enter Try.func23, Try.ntmps23
  go_wp2_with fail
  refine HB.out.mono ?_
  rintro e w1 ⟨v, rfl, ho, hb⟩
  rw [HR.out] at ho
  have O := Lib.hid ho
  have B := Lib.hid hb
  clear ho hb
  go_wp2_with fail
  go_ret
  exact ⟨v, rfl, O.out, B.out⟩
end Go.Proofs.Yteedjgjkldbbcaa
