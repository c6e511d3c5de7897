/- A builder of blocks: New, Add: contracts. Conditions: the entry within reach, apart from the builder. Written by a program of this place (gen_BlockAdd.py). -/
import Derived.Test.YteedjgjkldbbcaaBlockSt
import Derived.Deep.RegionLaw
namespace Go.Proofs.Yteedjgjkldbbcaa
open Go.RowKit
set_option linter.unusedVariables false

theorem bnew_any (w : World) : Calls Try.prog 18 #[] w fun e w' => e = .returned (.pointer (some ⟨w.heap.size, 0, none⟩)) ∧ w' = w.alloc (.cells #[.int .i64 0, .slice none 0 0, .slice none 0 0, .slice none 0 0] 75) := by
  go_enter Try.func18, Try.ntmps18
  go_wp2_with fail
  go_ret
  exact ⟨rfl, rfl⟩
theorem Bl.new (w : World) : Bl (w.alloc (.cells #[.int .i64 0, .slice none 0 0, .slice none 0 0, .slice none 0 0] 75)) w.heap.size w.heap.size (fun _ => .slice none 0 0) [] :=
  ⟨heap_new w _, fun k h1 h3 => .inl ⟨rfl, by rcases (by omega : k = 1 ∨ k = 2 ∨ k = 3) with e | e | e <;> subst e <;> rfl⟩, fun k _ _ j hj => (by cases hj), fun i k b _ _ _ _ _ hb => (by cases hb), Nat.le_refl _⟩
theorem rows_bAdd (l : List Ent) (e : Ent) : ∀ k, rowsOf (l ++ [e]) k = if k = 1 then (bst l).body ++ ebytes (bP l.length (bst l).last) e else if k = 2 then (bst l).tab ++ bMark l.length ((bst l).body.length + 1) else e.1 := fun k => by
  unfold rowsOf
  rw [bst_snoc]
  show (if k = 1 then (bst l).body ++ ebytes (bP (bst l).n (bst l).last) e else if k = 2 then (bst l).tab ++ bMark (bst l).n ((bst l).body.length + 1) else e.1) = _
  rw [bst_n]
/-- behind Add -/
def AddPost (w : World) (lo g : Nat) (v : Nat → Value) (l : List Ent) (e : Ent) (r : Ending) (w' : World) : Prop :=
  r = .returned (.int .i64 (addE l e : Nat)) ∧ (addE l e ≠ 0 → Below w.heap.size w w') ∧
  (addE l e = 0 → ∃ v', Bl w' lo g v' (l ++ [e]) ∧ Turns (BlS g v) w w' ∧ ∀ j, BlS g v' j → BlS g v j ∨ w.heap.size ≤ j)
theorem AddPost.no {w w' : World} {lo g q : Nat} {v : Nat → Value} {l : List Ent} {e : Ent} (h : addE l e = q) (hq : q ≠ 0) (hb : Below w.heap.size w w') : AddPost w lo g v l e (.returned (.int .i64 (q : Nat))) w' := by
  subst h
  exact ⟨rfl, fun _ => hb, fun e => absurd e hq⟩
theorem bmod8 (q : Nat) (_h : q < 65536) : Value.int .u8 ((q : Int) % 256) = Bf (UInt8.ofNat q) := by
  show _ = Value.int .u8 (B (UInt8.ofNat q))
  congr 1
theorem bmark_cells (q : Nat) (h : q ≤ 22400) : (#[.int .u8 (((q : Int) + 1) % 256), .int .u8 (((q : Int) + 1) / 256)] : Array Value).toList = ([UInt8.ofNat (q + 1), UInt8.ofNat ((q + 1) / 256)] : List UInt8).map Bf := by
  have a := bmod8 (q + 1) (by omega)
  have b := bmod8 ((q + 1) / 256) (by omega)
  simp only [List.map_cons, List.map_nil]
  rw [← a, ← b]
  congr 3 <;> omega
set_option maxRecDepth 100000 in
set_option maxHeartbeats 8000000 in
theorem badd_any (lo g : Nat) (v : Nat → Value) (l : List Ent) (ak : Option Addr) (nk ck : Nat) (k : List UInt8) (av : Option Addr) (nv cv : Nat) (x : List UInt8) (w : World)
    (hl : l.length ≤ 64) (hok : Okay l) (hk : nk ≤ 140737488351232) (hv : nv ≤ 140737488351232) (hB : Bl w lo g v l) (h1 : Sl Bf w ak nk ck k) (h2 : Sl Bf w av nv cv x)
    (f1 : ∀ b o, ak = some ⟨b, o, none⟩ → 0 < nk → ¬ BlS g v b) (f2 : ∀ b o, av = some ⟨b, o, none⟩ → 0 < nv → ¬ BlS g v b) :
    Calls Try.prog 19 #[.pointer (some ⟨g, 0, none⟩), .agg #[.slice ak nk ck, .slice av nv cv]] w (AddPost w lo g v l (k, x)) := by
  obtain rfl : nk = k.length := h1.len.symm
  obtain rfl : nv = x.length := h2.len.symm
  have hc0 := check_any ak k.length ck av x.length cv
  obtain ⟨q, hq⟩ : ∃ q, chkN k.length x.length = q := ⟨_, rfl⟩
  have HCK := Lib.hid (fun W : World => hq ▸ hc0 W hk hv)
  have hqc : chk (k, x) = q := hq
  obtain ⟨n, hn⟩ : ∃ n, l.length = n := ⟨_, rfl⟩
  have hble := bst_le l hok
  have hB0 := hB
  unfold Bl at hB0
  rw [hn] at hB0 hl
  have F1 := Lib.hid (show ∀ b o, ak = some ⟨b, o, none⟩ → 0 < k.length → ¬ BlS g v b ∧ b < w.heap.size from fun b o ha hn => ⟨f1 b o ha hn, by subst ha; exact h1.blt hn⟩)
  have F2 := Lib.hid (show ∀ b o, av = some ⟨b, o, none⟩ → 0 < x.length → ¬ BlS g v b ∧ b < w.heap.size from fun b o ha hn => ⟨f2 b o ha hn, by subst ha; exact h2.blt hn⟩)
  have HIN := Lib.hid hB0.inS
  have BL := Lib.hid hB0
  have K := Lib.hid h1
  have X := Lib.hid h2
  have lg := hB0.lt
  have BLE := Lib.hid hble
  clear hc0 hq hB hB0 h1 h2 f1 f2 hble
  by_cases hz : q = 0
  · subst hz
    by_cases hfull : n = 64
    · subst hfull
      have ADD := Lib.hid (addE_full (l := l) hqc hn)
      clear hqc hn
      have hb1 : Below w.heap.size w (w.alloc (.cells #[.slice ak k.length ck, .slice av x.length cv] 41)) := (Below.refl _ _).alloc (Nat.le_refl _) _
      have BX := Lib.hid (heap_new w (.cells #[.slice ak k.length ck, .slice av x.length cv] 41))
      replace BL := Lib.hid (BL.out.keep hb1)
      replace K := Lib.hid (K.out.keep hb1)
      replace X := Lib.hid (X.out.keep hb1)
      have HB := Lib.hid hb1
      clear hb1
      go_enter Try.func19, Try.ntmps19
      go_upto_region 1 with (fail)
      obtain ⟨ge, hge⟩ : ∃ z, w.heap.size = z := ⟨_, rfl⟩
      rw [hge] at BX
      have hge2 : w.heap.size ≤ ge := by omega
      have lge : g < ge := by omega
      have HGE := Lib.hid (show ¬ BlS g v ge from fun e => by have := (HIN.out ge e).2; omega)
      rw [hge] at lg ⊢
      clear hge
      generalize w.alloc (.cells #[.slice ak k.length ck, .slice av x.length cv] 41) = w1 at *
      have x0 := cell_of BX.out 0 rfl
      have x1 := cell_of BX.out 1 rfl
      go_wp2_with fail
      refine (HCK.out _).mono ?_
      rintro e w2 ⟨rfl, hb⟩
      replace BL := Lib.hid (BL.out.keep hb)
      replace K := Lib.hid (K.out.keep hb)
      replace X := Lib.hid (X.out.keep hb)
      replace BX := Lib.hid ((Stab.block BX.out).keep hb).now
      replace HB := Lib.hid (HB.out.trans (hb.mono (by have := HB.out.size; omega)))
      clear hb x0 x1 HCK
      have c0 := BL.out.c0
      have c1 := BL.out.c 1 (by omega) (by omega)
      have c2 := BL.out.c 2 (by omega) (by omega)
      have c3 := BL.out.c 3 (by omega) (by omega)
      have x0 := cell_of BX.out 0 rfl
      have x1 := cell_of BX.out 1 rfl
      go_wp2_with fail
      go_ret
      exact AddPost.no ADD.out (by decide) HB.out
    · have t1 : ((n : Int) == 64) = false := by rw [beq_eq_false_iff_ne]; omega
      have t1' : (n == 64) = false := by rw [beq_eq_false_iff_ne]; omega
      obtain ⟨q3, hq3⟩ : ∃ q3, cmp (bst l).last k = q3 := ⟨_, rfl⟩
      obtain ⟨L, hL⟩ : ∃ L, (bst l).last = L := ⟨_, rfl⟩
      rw [hL] at hq3
      by_cases hcmp : 0 < n ∧ 0 ≤ q3
      · have ADD := Lib.hid (addE_cmp (l := l) hqc (by omega) (by rw [hn, hL]; show 0 < n ∧ 0 ≤ cmp L k; rw [hq3]; exact hcmp))
        obtain ⟨z1, z2⟩ := hcmp
        have t2 : decide ((n : Int) > 0) = true := decide_eq_true (by omega)
        have t3 : decide (0 < n) = true := decide_eq_true z1
        have t4 : decide (q3 ≥ 0) = true := decide_eq_true z2
        have HL := Lib.hid hL
        have HQ3 := Lib.hid hq3
        clear hqc hn hL hq3 hfull
        have hb1 : Below w.heap.size w (w.alloc (.cells #[.slice ak k.length ck, .slice av x.length cv] 41)) := (Below.refl _ _).alloc (Nat.le_refl _) _
        have BX := Lib.hid (heap_new w (.cells #[.slice ak k.length ck, .slice av x.length cv] 41))
        replace BL := Lib.hid (BL.out.keep hb1)
        replace K := Lib.hid (K.out.keep hb1)
        replace X := Lib.hid (X.out.keep hb1)
        have HB := Lib.hid hb1
        clear hb1
        go_enter Try.func19, Try.ntmps19
        go_upto_region 1 with (fail)
        obtain ⟨ge, hge⟩ : ∃ z, w.heap.size = z := ⟨_, rfl⟩
        rw [hge] at BX
        have hge2 : w.heap.size ≤ ge := by omega
        have lge : g < ge := by omega
        have HGE := Lib.hid (show ¬ BlS g v ge from fun e => by have := (HIN.out ge e).2; omega)
        rw [hge] at lg ⊢
        clear hge
        generalize w.alloc (.cells #[.slice ak k.length ck, .slice av x.length cv] 41) = w1 at *
        have x0 := cell_of BX.out 0 rfl
        have x1 := cell_of BX.out 1 rfl
        go_wp2_with fail
        refine (HCK.out _).mono ?_
        rintro e w2 ⟨rfl, hb⟩
        replace BL := Lib.hid (BL.out.keep hb)
        replace K := Lib.hid (K.out.keep hb)
        replace X := Lib.hid (X.out.keep hb)
        replace BX := Lib.hid ((Stab.block BX.out).keep hb).now
        replace HB := Lib.hid (HB.out.trans (hb.mono (by have := HB.out.size; omega)))
        clear hb x0 x1 HCK
        have c0 := BL.out.c0
        have c1 := BL.out.c 1 (by omega) (by omega)
        have c2 := BL.out.c 2 (by omega) (by omega)
        have c3 := BL.out.c 3 (by omega) (by omega)
        have x0 := cell_of BX.out 0 rfl
        have x1 := cell_of BX.out 1 rfl
        obtain ⟨aL, nL, cL, hvl, zl⟩ := (BL.out.row 3 (by omega) (by omega)).slN
        have hzl : Sl Bf w2 aL nL cL L := by rw [← HL.out]; exact zl
        rw [hvl] at c3
        have HCM := Lib.hid (bcompare_any aL nL cL L ak k.length ck k)
        have ZL := Lib.hid hzl
        have CQ := Lib.hid (fun j : Nat => HQ3.out ▸ HCM.out (w2.drewN j) (ZL.out.drewN j) (K.out.drewN j))
        clear hvl zl hzl
        go_wp2_with fail
        go_quiet ((go_at_call 43; exact Calls.quiet_of_drw ((CQ.out _).mono fun _ _ h => ⟨h.1, Drw.of h.2.symm⟩)))
        go_wp2_with fail
        go_ret
        exact AddPost.no ADD.out (by decide) (keep_drewN HB.out _)
      · have ADD := Lib.hid (addE_ok (l := l) hqc (by omega) (by rw [hn, hL]; show ¬ (0 < n ∧ 0 ≤ cmp L k); rw [hq3]; exact hcmp))
        by_cases h0 : n = 0
        · have h8 : n % 8 = 0 := by omega
          have HL := Lib.hid hL
          have HQ3 := Lib.hid hq3
          have t2 : decide ((n : Int) > 0) = false := decide_eq_false (by omega)
          have t3 : decide (0 < n) = false := decide_eq_false (by omega)
          have t5 : ((n : Int) % 8 == 0) = true := by rw [beq_iff_eq]; omega
          have t6 : (n % 8 == 0) = true := by rw [beq_iff_eq]; omega
          have CHK := Lib.hid (chk_zero hqc)
          have HNN := Lib.hid hn
          have HN8 := Lib.hid h8
          clear hqc hn hL hq3 hfull hcmp h8 h0
          have hb1 : Below w.heap.size w (w.alloc (.cells #[.slice ak k.length ck, .slice av x.length cv] 41)) := (Below.refl _ _).alloc (Nat.le_refl _) _
          have BX := Lib.hid (heap_new w (.cells #[.slice ak k.length ck, .slice av x.length cv] 41))
          replace BL := Lib.hid (BL.out.keep hb1)
          replace K := Lib.hid (K.out.keep hb1)
          replace X := Lib.hid (X.out.keep hb1)
          have HB := Lib.hid hb1
          clear hb1
          go_enter Try.func19, Try.ntmps19
          go_upto_region 1 with (fail)
          obtain ⟨ge, hge⟩ : ∃ z, w.heap.size = z := ⟨_, rfl⟩
          rw [hge] at BX
          have hge2 : w.heap.size ≤ ge := by omega
          have lge : g < ge := by omega
          have HGE := Lib.hid (show ¬ BlS g v ge from fun e => by have := (HIN.out ge e).2; omega)
          rw [hge] at lg ⊢
          clear hge
          generalize w.alloc (.cells #[.slice ak k.length ck, .slice av x.length cv] 41) = w1 at *
          have x0 := cell_of BX.out 0 rfl
          have x1 := cell_of BX.out 1 rfl
          go_wp2_with fail
          refine (HCK.out _).mono ?_
          rintro e w2 ⟨rfl, hb⟩
          replace BL := Lib.hid (BL.out.keep hb)
          replace K := Lib.hid (K.out.keep hb)
          replace X := Lib.hid (X.out.keep hb)
          replace BX := Lib.hid ((Stab.block BX.out).keep hb).now
          replace HB := Lib.hid (HB.out.trans (hb.mono (by have := HB.out.size; omega)))
          clear hb x0 x1 HCK
          have c0 := BL.out.c0
          have c1 := BL.out.c 1 (by omega) (by omega)
          have c2 := BL.out.c 2 (by omega) (by omega)
          have c3 := BL.out.c 3 (by omega) (by omega)
          have x0 := cell_of BX.out 0 rfl
          have x1 := cell_of BX.out 1 rfl
          obtain ⟨a1, n1, k1, hv1, z1⟩ := (BL.out.row 1 (by omega) (by omega)).slN
          obtain ⟨a2, n2, k2, hv2, z2⟩ := (BL.out.row 2 (by omega) (by omega)).slN
          obtain ⟨aL, nL, cL, hvl, zl⟩ := (BL.out.row 3 (by omega) (by omega)).slN
          have hzl : Sl Bf w2 aL nL cL L := by rw [← HL.out]; exact zl
          have l1 : (bst l).body.length = n1 := z1.len
          have l2 : (bst l).tab.length = n2 := z2.len
          have b1 : n1 ≤ 22400 := by have := BLE.out; have := HNN.out; omega
          have b2 : n2 ≤ 128 := by have := BLE.out; have := HNN.out; omega
          rw [hvl] at c3
          rw [hv1] at c1
          rw [hv2] at c2
          have HV1 := Lib.hid hv1
          have HV2 := Lib.hid hv2
          have HVL := Lib.hid hvl
          have Z1 := Lib.hid l1
          have Z2 := Lib.hid l2
          have ZL := Lib.hid hzl
          clear hvl zl hzl hv1 hv2 z1 z2 l1 l2
          go_wp2_with fail
          go_quiet (fail)
          replace BL := Lib.hid (BL.out.drewN nq)
          replace K := Lib.hid (K.out.drewN nq)
          replace X := Lib.hid (X.out.drewN nq)
          replace BX : Hid ((w2.drewN nq).heap[ge]? = _) := BX
          replace HB := Lib.hid (keep_drewN HB.out nq)
          replace ZL := Lib.hid (ZL.out.drewN nq)
          generalize w2.drewN nq = w3 at *
          clear c0 c1 c2 c3 x0 x1
          have lge3 : ge < w3.heap.size := (Array.getElem?_eq_some_iff.1 BX.out).1
          have hlo : lo ≤ w3.heap.size := by have := BL.out.low; have := BL.out.lt; omega
          obtain ⟨TT, hTT⟩ : ∃ T, (bst l).tab = T := ⟨_, rfl⟩
          obtain ⟨BB, hBB⟩ : ∃ T, (bst l).body = T := ⟨_, rfl⟩
          rw [hTT] at Z2
          rw [hBB] at Z1
          have hrt : OwT fB w3 lo 5 (.slice a2 n2 k2) TT := by rw [← HV2.out, ← hTT]; exact BL.out.row 2 (by omega) (by omega)
          have RT := Lib.hid hrt
          have HTT := Lib.hid hTT
          have HBB := Lib.hid hBB
          have TU := Lib.hid (Turns.of_below (S := BlS g v) HB.out)
          have BS := Lib.hid (show ∀ j, BlS g v j → BlS g v j ∨ ge < j from fun j h => .inl h)
          clear hrt hTT hBB HB
          have c0 := BL.out.c0
          have c1 := BL.out.c 1 (by omega) (by omega)
          have c2 := BL.out.c 2 (by omega) (by omega)
          have c3 := BL.out.c 3 (by omega) (by omega)
          rw [HV1.out] at c1
          rw [HV2.out] at c2
          rw [HVL.out] at c3
          have x0 := cell_of BX.out 0 rfl
          have x1 := cell_of BX.out 1 rfl
          have MK := Lib.hid (show (#[.int .u8 (((n1 : Int) + 1) % 256), .int .u8 (((n1 : Int) + 1) / 256)] : Array Value).toList = ([UInt8.ofNat (n1 + 1), UInt8.ofNat ((n1 + 1) / 256)] : List UInt8).map Bf from bmark_cells n1 (by omega))
          go_wp2_with (at_builtin; refine wpList_appT eltTB rfl (.tmp 56) (.tmp 62) rfl lo _ TT (by rfl) (RT.out.alloc _) _ 2 2 [UInt8.ofNat (n1 + 1), UInt8.ofNat ((n1 + 1) / 256)] (by rfl) (Sl.lit _ _ _ _ _ rfl MK.out).toT (by rw [Z2.out]; unfold maxLen; omega) (by rw [Z2.out]; omega) (Nat.le_trans hlo (by simp)) (TT ++ [UInt8.ofNat (n1 + 1), UInt8.ofNat ((n1 + 1) / 256)]) rfl ?_; intro v6 w6 h6 hg6 hv6 hb6; obtain ⟨a6, n6, k6, rfl, z6⟩ := h6.slN; obtain ⟨cc2, ff2, hBL6, _, hT6, hS6⟩ := BL.out.app 2 (by omega) (by omega) HV2.out ((Below.refl _ w3).alloc (Nat.le_refl _) _) hg6 h6 hv6; have HBL6 := Lib.hid hBL6; have HT6 := Lib.hid hT6; have HS6 := Lib.hid hS6; clear hBL6 hT6 hS6 h6 hg6 hv6 hb6 z6 c0 c1 c2 c3 x0 x1)
          have sz6 : w3.heap.size ≤ (w6.setCell ⟨g, 2, none⟩ (.slice a6 n6 k6)).heap.size := HT6.out.size
          have PV := Lib.hid (show Sl Bf (w6.setCell ⟨g, 2, none⟩ (.slice a6 n6 k6)) none 0 0 ([] : List UInt8) from Sl.nil _ _)
          have hg8 : bP n L = [] := by unfold bP; rw [if_pos HN8.out]
          have hm8 : bMark n (n1 + 1) = [UInt8.ofNat (n1 + 1), UInt8.ofNat ((n1 + 1) / 256)] := by unfold bMark; rw [if_pos HN8.out]
          clear cc2 ff2 MK RT
          have HG8 := Lib.hid hg8
          have HM8 := Lib.hid hm8
          clear hg8 hm8
          replace BX : Hid ((w6.setCell ⟨g, 2, none⟩ (.slice a6 n6 k6)).heap[ge]? = _) := Lib.hid (HT6.out.heap BX.out (fun e => (BS.out ge e).elim HGE.out (fun h => by omega)))
          replace K := Lib.hid (K.out.turns HT6.out (fun b o ha hn e => (BS.out b e).elim (F1.out b o ha hn).1 (fun h => by have := (F1.out b o ha hn).2; omega)))
          replace X := Lib.hid (X.out.turns HT6.out (fun b o ha hn e => (BS.out b e).elim (F2.out b o ha hn).1 (fun h => by have := (F2.out b o ha hn).2; omega)))
          replace TU := Lib.hid (TU.out.trans HT6.out (fun j hj e => (BS.out j e).elim id (fun h => by omega)))
          replace BS : Hid (∀ j, BlS g (upd v 2 (.slice a6 n6 k6)) j → BlS g v j ∨ ge < j) := Lib.hid (fun j h => (HS6.out j h).elim (BS.out j) (fun h => .inr (by omega)))
          replace BL := HBL6
          clear HT6 HS6 HBL6 ZL
          go_upto_region 13 with (fail)
          generalize (w6.setCell ⟨g, 2, none⟩ (.slice a6 n6 k6)) = w7 at *
          clear sz6
          have hbl := BL.out
          have c1 : w7.cell? ⟨g, 1, none⟩ = some (.slice a1 n1 k1) := by rw [← HV1.out]; exact hbl.c 1 (by omega) (by omega)
          have x0 := cell_of BX.out 0 rfl
          have x1 := cell_of BX.out 1 rfl
          have hr1 : OwT fB w7 lo 5 (.slice a1 n1 k1) BB := by rw [← HV1.out, ← HBB.out]; exact hbl.row 1 (by omega) (by omega)
          have R1 := Lib.hid hr1.drew
          have hlo7 : lo ≤ w7.heap.size := by have := hbl.low; have := hbl.lt; omega
          have PB := Lib.hid (pbytes_any none 0 0 ([] : List UInt8) ak k.length ck k av x.length cv x w7.drew (by omega) (by have := BLE.out; have := CHK.out; omega) PV.out.drew K.out.drew X.out.drew)
          obtain ⟨eb, heb⟩ : ∃ eb, ebytes ([] : List UInt8) (k, x) = eb := ⟨_, rfl⟩
          have hebl : eb.length ≤ 350 := by
            have hck := CHK.out
            have he2 : eb.length ≤ 30 + k.length + x.length := by rw [← heb]; exact ebytes_le ([] : List UInt8) (k, x) (by show k.length + x.length ≤ _; omega)
            omega
          rw [heb] at PB
          have HEB := Lib.hid heb
          clear hbl hr1 heb
          go_region_law (first
            | (refine step_appT eltTB rfl (.tmp 70) (.tmp 73) rfl lo (.slice a1 n1 k1) BB (by simp [Act.eval]) R8.out a8 eb.length k8 eb (by simp [Act.eval]) Z8.out.toT (by rw [Z1.out]; unfold maxLen; omega) (by rw [Z1.out]; omega) (by omega) (BB ++ eb) rfl ?_; intro v9 w9 h9 hg9 hv9 hb9; obtain ⟨a9, n9, k9, rfl, z9⟩ := h9.slN; obtain ⟨cc1, ff1, hBL9, hU9, hT9, hS9⟩ := BL.out.app 1 (by omega) (by omega) (show upd v 2 (.slice a6 n6 k6) 1 = _ from HV1.out) H8.out hg9 h9 hv9; have HBL9 := Lib.hid hBL9; have HT9 := Lib.hid hT9; have HS9 := Lib.hid hS9; have e1 := cell_of (hU9.heap BX.out (fun e => (BS.out ge e).elim HGE.out (fun h => by omega))) 0 rfl; have e2 := cell_of (hU9.heap BX.out (fun e => (BS.out ge e).elim HGE.out (fun h => by omega))) 1 rfl; clear hBL9 hU9 hT9 hS9 h9 hg9 hv9 hb9 z9)
            | (go_simp; go_at_call 44; refine PB.out.mono ?_; rintro e w8 ⟨xb, rfl, hob, hb8⟩; obtain ⟨a8, n8, k8, rfl, z8⟩ := hob.slN; obtain rfl : eb.length = n8 := z8.len; have Z8 := Lib.hid z8; have H8 : Hid (Below w7.heap.size w7 w8) := Lib.hid (((Below.refl _ _).drew).trans hb8); have d1 : w8.cell? ⟨g, 1, none⟩ = some (.slice a1 n1 k1) := (World.cell?_of_block (H8.out.block _ (cell_lt c1))).trans c1; have d2 : w8.cell? ⟨ge, 0, none⟩ = some (.slice ak k.length ck) := (World.cell?_of_block (H8.out.block _ (cell_lt x0))).trans x0; have d3 : w8.cell? ⟨ge, 1, none⟩ = some (.slice av x.length cv) := (World.cell?_of_block (H8.out.block _ (cell_lt x1))).trans x1; have R8 := Lib.hid (R1.out.keep hb8); have l8 := H8.out.size; clear hob hb8 z8 PB))
          all_goals
            have sz9 : w7.heap.size ≤ (w9.setCell ⟨g, 1, none⟩ (.slice a9 n9 k9)).heap.size := HT9.out.size
            replace BX : Hid ((w9.setCell ⟨g, 1, none⟩ (.slice a9 n9 k9)).heap[ge]? = _) := Lib.hid (HT9.out.heap BX.out (fun e => (BS.out ge e).elim HGE.out (fun h => by omega)))
            replace K := Lib.hid (K.out.turns HT9.out (fun b o ha hn e => (BS.out b e).elim (F1.out b o ha hn).1 (fun h => by have := (F1.out b o ha hn).2; omega)))
            replace TU := Lib.hid (TU.out.trans HT9.out (fun j hj e => (BS.out j e).elim id (fun h => by omega)))
            have lge7 : ge < w7.heap.size := cell_lt x0
            replace BS : Hid (∀ j, BlS g (upd (upd v 2 (.slice a6 n6 k6)) 1 (.slice a9 n9 k9)) j → BlS g v j ∨ ge < j) := Lib.hid (fun j h => (HS9.out j h).elim (BS.out j) (fun h => .inr (by omega)))
            replace BL := HBL9
            clear HT9 HS9 HBL9 Z8 R8 H8 R1 PV X d1 d2 d3 c1 x0 x1 e1 e2 cc1 ff1
            go_upto_region 14 with (fail)
            generalize w9.setCell ⟨g, 1, none⟩ (.slice a9 n9 k9) = w10 at *
            have x0 := cell_of BX.out 0 rfl
            have hlo10 : lo ≤ w10.heap.size := by omega
            go_wp2_with fail
            refine (clone_any ak k.length ck k w10 (by omega) K.out).mono ?_
            rintro e w11 ⟨xc, rfl, hoc, hb11⟩
            obtain ⟨a12, n12, k12, rfl, z12⟩ := hoc.slN
            obtain ⟨cc3, ff3, hBL12, _, hT12, hS12⟩ := BL.out.lay 3 (by omega) (by omega) (vk := .slice aL nL cL) (show (upd (upd v 2 (.slice a6 n6 k6)) 1 (.slice a9 n9 k9)) 3 = _ from HVL.out) (Turns.of_below hb11) (hoc.base hlo10) (fun j hj => .inr (hoc.lt j hj).1)
            have sz12 : w10.heap.size ≤ (w11.setCell ⟨g, 3, none⟩ (.slice a12 n12 k12)).heap.size := hT12.size
            replace TU := Lib.hid (TU.out.trans hT12 (fun j hj e => (BS.out j e).elim id (fun h => by omega)))
            have lge10 : ge < w10.heap.size := cell_lt x0
            replace BS : Hid (∀ j, BlS g (upd (upd (upd v 2 (.slice a6 n6 k6)) 1 (.slice a9 n9 k9)) 3 (.slice a12 n12 k12)) j → BlS g v j ∨ ge < j) := Lib.hid (fun j h => (hS12 j h).elim (BS.out j) (fun h => .inr (by omega)))
            replace BL := Lib.hid hBL12
            clear hoc hb11 z12 hBL12 hT12 hS12 x0 BX K
            go_upto_region 15 with (fail)
            generalize w11.setCell ⟨g, 3, none⟩ (.slice a12 n12 k12) = w12 at *
            clear cc3 ff3
            have c0 := BL.out.c0
            have f0 := BL.out.free 0
            go_wp2_with fail
            go_ret
            refine ⟨by rw [ADD.out]; rfl, fun e => absurd ADD.out e, fun _ => ⟨upd (upd (upd v 2 (.slice a6 n6 k6)) 1 (.slice a9 n9 k9)) 3 (.slice a12 n12 k12), (BL.out.num (n + 1)).as (by rw [List.length_append, HNN.out]; rfl) (fun i i1 i3 => ?_), TU.out.trans (Turns.set (S := BlS g v) w12 (.inl rfl) _) (fun _ _ e => e), fun j hj => (BS.out j hj).imp id (fun h => by omega)⟩⟩
            rw [rows_bAdd]
            rcases (by omega : i = 1 ∨ i = 2 ∨ i = 3) with e | e | e <;> subst e
            · show BB ++ eb = _
              rw [if_pos rfl, HBB.out, HNN.out, HL.out, HG8.out, HEB.out]
            · show TT ++ [UInt8.ofNat (n1 + 1), UInt8.ofNat ((n1 + 1) / 256)] = _
              rw [if_neg (by omega), if_pos rfl, HTT.out, HBB.out, Z1.out, HNN.out, HM8.out]
            · show k = _
              rw [if_neg (by omega), if_neg (by omega)]
        · have hq4 : ¬ 0 ≤ q3 := fun e => hcmp ⟨by omega, e⟩
          by_cases h8 : n % 8 = 0
          · skip
            have HL := Lib.hid hL
            have HQ3 := Lib.hid hq3
            have t2 : decide ((n : Int) > 0) = true := decide_eq_true (by omega)
            have t3 : decide (0 < n) = true := decide_eq_true (by omega)
            have t4 : decide (q3 ≥ 0) = false := decide_eq_false (by omega)
            have t5 : ((n : Int) % 8 == 0) = true := by rw [beq_iff_eq]; omega
            have t6 : (n % 8 == 0) = true := by rw [beq_iff_eq]; omega
            have CHK := Lib.hid (chk_zero hqc)
            have HNN := Lib.hid hn
            have HN8 := Lib.hid h8
            clear hqc hn hL hq3 hfull hcmp h8 hq4
            have hb1 : Below w.heap.size w (w.alloc (.cells #[.slice ak k.length ck, .slice av x.length cv] 41)) := (Below.refl _ _).alloc (Nat.le_refl _) _
            have BX := Lib.hid (heap_new w (.cells #[.slice ak k.length ck, .slice av x.length cv] 41))
            replace BL := Lib.hid (BL.out.keep hb1)
            replace K := Lib.hid (K.out.keep hb1)
            replace X := Lib.hid (X.out.keep hb1)
            have HB := Lib.hid hb1
            clear hb1
            go_enter Try.func19, Try.ntmps19
            go_upto_region 1 with (fail)
            obtain ⟨ge, hge⟩ : ∃ z, w.heap.size = z := ⟨_, rfl⟩
            rw [hge] at BX
            have hge2 : w.heap.size ≤ ge := by omega
            have lge : g < ge := by omega
            have HGE := Lib.hid (show ¬ BlS g v ge from fun e => by have := (HIN.out ge e).2; omega)
            rw [hge] at lg ⊢
            clear hge
            generalize w.alloc (.cells #[.slice ak k.length ck, .slice av x.length cv] 41) = w1 at *
            have x0 := cell_of BX.out 0 rfl
            have x1 := cell_of BX.out 1 rfl
            go_wp2_with fail
            refine (HCK.out _).mono ?_
            rintro e w2 ⟨rfl, hb⟩
            replace BL := Lib.hid (BL.out.keep hb)
            replace K := Lib.hid (K.out.keep hb)
            replace X := Lib.hid (X.out.keep hb)
            replace BX := Lib.hid ((Stab.block BX.out).keep hb).now
            replace HB := Lib.hid (HB.out.trans (hb.mono (by have := HB.out.size; omega)))
            clear hb x0 x1 HCK
            have c0 := BL.out.c0
            have c1 := BL.out.c 1 (by omega) (by omega)
            have c2 := BL.out.c 2 (by omega) (by omega)
            have c3 := BL.out.c 3 (by omega) (by omega)
            have x0 := cell_of BX.out 0 rfl
            have x1 := cell_of BX.out 1 rfl
            obtain ⟨a1, n1, k1, hv1, z1⟩ := (BL.out.row 1 (by omega) (by omega)).slN
            obtain ⟨a2, n2, k2, hv2, z2⟩ := (BL.out.row 2 (by omega) (by omega)).slN
            obtain ⟨aL, nL, cL, hvl, zl⟩ := (BL.out.row 3 (by omega) (by omega)).slN
            have hzl : Sl Bf w2 aL nL cL L := by rw [← HL.out]; exact zl
            have l1 : (bst l).body.length = n1 := z1.len
            have l2 : (bst l).tab.length = n2 := z2.len
            have b1 : n1 ≤ 22400 := by have := BLE.out; have := HNN.out; omega
            have b2 : n2 ≤ 128 := by have := BLE.out; have := HNN.out; omega
            rw [hvl] at c3
            rw [hv1] at c1
            rw [hv2] at c2
            have HV1 := Lib.hid hv1
            have HV2 := Lib.hid hv2
            have HVL := Lib.hid hvl
            have Z1 := Lib.hid l1
            have Z2 := Lib.hid l2
            have ZL := Lib.hid hzl
            have HCM := Lib.hid (bcompare_any aL nL cL L ak k.length ck k)
            have CQ := Lib.hid (fun j : Nat => HQ3.out ▸ HCM.out (w2.drewN j) (ZL.out.drewN j) (K.out.drewN j))
            clear hvl zl hzl hv1 hv2 z1 z2 l1 l2
            go_wp2_with fail
            go_quiet ((go_at_call 43; exact Calls.quiet_of_drw ((CQ.out _).mono fun _ _ h => ⟨h.1, Drw.of h.2.symm⟩)))
            clear CQ HCM
            replace BL := Lib.hid (BL.out.drewN nq)
            replace K := Lib.hid (K.out.drewN nq)
            replace X := Lib.hid (X.out.drewN nq)
            replace BX : Hid ((w2.drewN nq).heap[ge]? = _) := BX
            replace HB := Lib.hid (keep_drewN HB.out nq)
            replace ZL := Lib.hid (ZL.out.drewN nq)
            generalize w2.drewN nq = w3 at *
            clear c0 c1 c2 c3 x0 x1
            have lge3 : ge < w3.heap.size := (Array.getElem?_eq_some_iff.1 BX.out).1
            have hlo : lo ≤ w3.heap.size := by have := BL.out.low; have := BL.out.lt; omega
            obtain ⟨TT, hTT⟩ : ∃ T, (bst l).tab = T := ⟨_, rfl⟩
            obtain ⟨BB, hBB⟩ : ∃ T, (bst l).body = T := ⟨_, rfl⟩
            rw [hTT] at Z2
            rw [hBB] at Z1
            have hrt : OwT fB w3 lo 5 (.slice a2 n2 k2) TT := by rw [← HV2.out, ← hTT]; exact BL.out.row 2 (by omega) (by omega)
            have RT := Lib.hid hrt
            have HTT := Lib.hid hTT
            have HBB := Lib.hid hBB
            have TU := Lib.hid (Turns.of_below (S := BlS g v) HB.out)
            have BS := Lib.hid (show ∀ j, BlS g v j → BlS g v j ∨ ge < j from fun j h => .inl h)
            clear hrt hTT hBB HB
            have c0 := BL.out.c0
            have c1 := BL.out.c 1 (by omega) (by omega)
            have c2 := BL.out.c 2 (by omega) (by omega)
            have c3 := BL.out.c 3 (by omega) (by omega)
            rw [HV1.out] at c1
            rw [HV2.out] at c2
            rw [HVL.out] at c3
            have x0 := cell_of BX.out 0 rfl
            have x1 := cell_of BX.out 1 rfl
            have MK := Lib.hid (show (#[.int .u8 (((n1 : Int) + 1) % 256), .int .u8 (((n1 : Int) + 1) / 256)] : Array Value).toList = ([UInt8.ofNat (n1 + 1), UInt8.ofNat ((n1 + 1) / 256)] : List UInt8).map Bf from bmark_cells n1 (by omega))
            go_wp2_with (at_builtin; refine wpList_appT eltTB rfl (.tmp 56) (.tmp 62) rfl lo _ TT (by rfl) (RT.out.alloc _) _ 2 2 [UInt8.ofNat (n1 + 1), UInt8.ofNat ((n1 + 1) / 256)] (by rfl) (Sl.lit _ _ _ _ _ rfl MK.out).toT (by rw [Z2.out]; unfold maxLen; omega) (by rw [Z2.out]; omega) (Nat.le_trans hlo (by simp)) (TT ++ [UInt8.ofNat (n1 + 1), UInt8.ofNat ((n1 + 1) / 256)]) rfl ?_; intro v6 w6 h6 hg6 hv6 hb6; obtain ⟨a6, n6, k6, rfl, z6⟩ := h6.slN; obtain ⟨cc2, ff2, hBL6, _, hT6, hS6⟩ := BL.out.app 2 (by omega) (by omega) HV2.out ((Below.refl _ w3).alloc (Nat.le_refl _) _) hg6 h6 hv6; have HBL6 := Lib.hid hBL6; have HT6 := Lib.hid hT6; have HS6 := Lib.hid hS6; clear hBL6 hT6 hS6 h6 hg6 hv6 hb6 z6 c0 c1 c2 c3 x0 x1)
            have sz6 : w3.heap.size ≤ (w6.setCell ⟨g, 2, none⟩ (.slice a6 n6 k6)).heap.size := HT6.out.size
            have PV := Lib.hid (show Sl Bf (w6.setCell ⟨g, 2, none⟩ (.slice a6 n6 k6)) none 0 0 ([] : List UInt8) from Sl.nil _ _)
            have hg8 : bP n L = [] := by unfold bP; rw [if_pos HN8.out]
            have hm8 : bMark n (n1 + 1) = [UInt8.ofNat (n1 + 1), UInt8.ofNat ((n1 + 1) / 256)] := by unfold bMark; rw [if_pos HN8.out]
            clear cc2 ff2 MK RT
            have HG8 := Lib.hid hg8
            have HM8 := Lib.hid hm8
            clear hg8 hm8
            replace BX : Hid ((w6.setCell ⟨g, 2, none⟩ (.slice a6 n6 k6)).heap[ge]? = _) := Lib.hid (HT6.out.heap BX.out (fun e => (BS.out ge e).elim HGE.out (fun h => by omega)))
            replace K := Lib.hid (K.out.turns HT6.out (fun b o ha hn e => (BS.out b e).elim (F1.out b o ha hn).1 (fun h => by have := (F1.out b o ha hn).2; omega)))
            replace X := Lib.hid (X.out.turns HT6.out (fun b o ha hn e => (BS.out b e).elim (F2.out b o ha hn).1 (fun h => by have := (F2.out b o ha hn).2; omega)))
            replace TU := Lib.hid (TU.out.trans HT6.out (fun j hj e => (BS.out j e).elim id (fun h => by omega)))
            replace BS : Hid (∀ j, BlS g (upd v 2 (.slice a6 n6 k6)) j → BlS g v j ∨ ge < j) := Lib.hid (fun j h => (HS6.out j h).elim (BS.out j) (fun h => .inr (by omega)))
            replace BL := HBL6
            clear HT6 HS6 HBL6 ZL
            go_upto_region 13 with (fail)
            generalize (w6.setCell ⟨g, 2, none⟩ (.slice a6 n6 k6)) = w7 at *
            clear sz6
            have hbl := BL.out
            have c1 : w7.cell? ⟨g, 1, none⟩ = some (.slice a1 n1 k1) := by rw [← HV1.out]; exact hbl.c 1 (by omega) (by omega)
            have x0 := cell_of BX.out 0 rfl
            have x1 := cell_of BX.out 1 rfl
            have hr1 : OwT fB w7 lo 5 (.slice a1 n1 k1) BB := by rw [← HV1.out, ← HBB.out]; exact hbl.row 1 (by omega) (by omega)
            have R1 := Lib.hid hr1.drew
            have hlo7 : lo ≤ w7.heap.size := by have := hbl.low; have := hbl.lt; omega
            have PB := Lib.hid (pbytes_any none 0 0 ([] : List UInt8) ak k.length ck k av x.length cv x w7.drew (by omega) (by have := BLE.out; have := CHK.out; omega) PV.out.drew K.out.drew X.out.drew)
            obtain ⟨eb, heb⟩ : ∃ eb, ebytes ([] : List UInt8) (k, x) = eb := ⟨_, rfl⟩
            have hebl : eb.length ≤ 350 := by
              have hck := CHK.out
              have he2 : eb.length ≤ 30 + k.length + x.length := by rw [← heb]; exact ebytes_le ([] : List UInt8) (k, x) (by show k.length + x.length ≤ _; omega)
              omega
            rw [heb] at PB
            have HEB := Lib.hid heb
            clear hbl hr1 heb
            go_region_law (first
              | (refine step_appT eltTB rfl (.tmp 70) (.tmp 73) rfl lo (.slice a1 n1 k1) BB (by simp [Act.eval]) R8.out a8 eb.length k8 eb (by simp [Act.eval]) Z8.out.toT (by rw [Z1.out]; unfold maxLen; omega) (by rw [Z1.out]; omega) (by omega) (BB ++ eb) rfl ?_; intro v9 w9 h9 hg9 hv9 hb9; obtain ⟨a9, n9, k9, rfl, z9⟩ := h9.slN; obtain ⟨cc1, ff1, hBL9, hU9, hT9, hS9⟩ := BL.out.app 1 (by omega) (by omega) (show upd v 2 (.slice a6 n6 k6) 1 = _ from HV1.out) H8.out hg9 h9 hv9; have HBL9 := Lib.hid hBL9; have HT9 := Lib.hid hT9; have HS9 := Lib.hid hS9; have e1 := cell_of (hU9.heap BX.out (fun e => (BS.out ge e).elim HGE.out (fun h => by omega))) 0 rfl; have e2 := cell_of (hU9.heap BX.out (fun e => (BS.out ge e).elim HGE.out (fun h => by omega))) 1 rfl; clear hBL9 hU9 hT9 hS9 h9 hg9 hv9 hb9 z9)
              | (go_simp; go_at_call 44; refine PB.out.mono ?_; rintro e w8 ⟨xb, rfl, hob, hb8⟩; obtain ⟨a8, n8, k8, rfl, z8⟩ := hob.slN; obtain rfl : eb.length = n8 := z8.len; have Z8 := Lib.hid z8; have H8 : Hid (Below w7.heap.size w7 w8) := Lib.hid (((Below.refl _ _).drew).trans hb8); have d1 : w8.cell? ⟨g, 1, none⟩ = some (.slice a1 n1 k1) := (World.cell?_of_block (H8.out.block _ (cell_lt c1))).trans c1; have d2 : w8.cell? ⟨ge, 0, none⟩ = some (.slice ak k.length ck) := (World.cell?_of_block (H8.out.block _ (cell_lt x0))).trans x0; have d3 : w8.cell? ⟨ge, 1, none⟩ = some (.slice av x.length cv) := (World.cell?_of_block (H8.out.block _ (cell_lt x1))).trans x1; have R8 := Lib.hid (R1.out.keep hb8); have l8 := H8.out.size; clear hob hb8 z8 PB))
            all_goals
              have sz9 : w7.heap.size ≤ (w9.setCell ⟨g, 1, none⟩ (.slice a9 n9 k9)).heap.size := HT9.out.size
              replace BX : Hid ((w9.setCell ⟨g, 1, none⟩ (.slice a9 n9 k9)).heap[ge]? = _) := Lib.hid (HT9.out.heap BX.out (fun e => (BS.out ge e).elim HGE.out (fun h => by omega)))
              replace K := Lib.hid (K.out.turns HT9.out (fun b o ha hn e => (BS.out b e).elim (F1.out b o ha hn).1 (fun h => by have := (F1.out b o ha hn).2; omega)))
              replace TU := Lib.hid (TU.out.trans HT9.out (fun j hj e => (BS.out j e).elim id (fun h => by omega)))
              have lge7 : ge < w7.heap.size := cell_lt x0
              replace BS : Hid (∀ j, BlS g (upd (upd v 2 (.slice a6 n6 k6)) 1 (.slice a9 n9 k9)) j → BlS g v j ∨ ge < j) := Lib.hid (fun j h => (HS9.out j h).elim (BS.out j) (fun h => .inr (by omega)))
              replace BL := HBL9
              clear HT9 HS9 HBL9 Z8 R8 H8 R1 PV X d1 d2 d3 c1 x0 x1 e1 e2 cc1 ff1
              go_upto_region 14 with (fail)
              generalize w9.setCell ⟨g, 1, none⟩ (.slice a9 n9 k9) = w10 at *
              have x0 := cell_of BX.out 0 rfl
              have hlo10 : lo ≤ w10.heap.size := by omega
              go_wp2_with fail
              refine (clone_any ak k.length ck k w10 (by omega) K.out).mono ?_
              rintro e w11 ⟨xc, rfl, hoc, hb11⟩
              obtain ⟨a12, n12, k12, rfl, z12⟩ := hoc.slN
              obtain ⟨cc3, ff3, hBL12, _, hT12, hS12⟩ := BL.out.lay 3 (by omega) (by omega) (vk := .slice aL nL cL) (show (upd (upd v 2 (.slice a6 n6 k6)) 1 (.slice a9 n9 k9)) 3 = _ from HVL.out) (Turns.of_below hb11) (hoc.base hlo10) (fun j hj => .inr (hoc.lt j hj).1)
              have sz12 : w10.heap.size ≤ (w11.setCell ⟨g, 3, none⟩ (.slice a12 n12 k12)).heap.size := hT12.size
              replace TU := Lib.hid (TU.out.trans hT12 (fun j hj e => (BS.out j e).elim id (fun h => by omega)))
              have lge10 : ge < w10.heap.size := cell_lt x0
              replace BS : Hid (∀ j, BlS g (upd (upd (upd v 2 (.slice a6 n6 k6)) 1 (.slice a9 n9 k9)) 3 (.slice a12 n12 k12)) j → BlS g v j ∨ ge < j) := Lib.hid (fun j h => (hS12 j h).elim (BS.out j) (fun h => .inr (by omega)))
              replace BL := Lib.hid hBL12
              clear hoc hb11 z12 hBL12 hT12 hS12 x0 BX K
              go_upto_region 15 with (fail)
              generalize w11.setCell ⟨g, 3, none⟩ (.slice a12 n12 k12) = w12 at *
              clear cc3 ff3
              have c0 := BL.out.c0
              have f0 := BL.out.free 0
              go_wp2_with fail
              go_ret
              refine ⟨by rw [ADD.out]; rfl, fun e => absurd ADD.out e, fun _ => ⟨upd (upd (upd v 2 (.slice a6 n6 k6)) 1 (.slice a9 n9 k9)) 3 (.slice a12 n12 k12), (BL.out.num (n + 1)).as (by rw [List.length_append, HNN.out]; rfl) (fun i i1 i3 => ?_), TU.out.trans (Turns.set (S := BlS g v) w12 (.inl rfl) _) (fun _ _ e => e), fun j hj => (BS.out j hj).imp id (fun h => by omega)⟩⟩
              rw [rows_bAdd]
              rcases (by omega : i = 1 ∨ i = 2 ∨ i = 3) with e | e | e <;> subst e
              · show BB ++ eb = _
                rw [if_pos rfl, HBB.out, HNN.out, HL.out, HG8.out, HEB.out]
              · show TT ++ [UInt8.ofNat (n1 + 1), UInt8.ofNat ((n1 + 1) / 256)] = _
                rw [if_neg (by omega), if_pos rfl, HTT.out, HBB.out, Z1.out, HNN.out, HM8.out]
              · show k = _
                rw [if_neg (by omega), if_neg (by omega)]
          · skip
            have HL := Lib.hid hL
            have HQ3 := Lib.hid hq3
            have t2 : decide ((n : Int) > 0) = true := decide_eq_true (by omega)
            have t3 : decide (0 < n) = true := decide_eq_true (by omega)
            have t4 : decide (q3 ≥ 0) = false := decide_eq_false (by omega)
            have t5 : ((n : Int) % 8 == 0) = false := by rw [beq_eq_false_iff_ne]; omega
            have t6 : (n % 8 == 0) = false := by rw [beq_eq_false_iff_ne]; omega
            have CHK := Lib.hid (chk_zero hqc)
            have HNN := Lib.hid hn
            have HN8 := Lib.hid h8
            clear hqc hn hL hq3 hfull hcmp h8 hq4
            have hb1 : Below w.heap.size w (w.alloc (.cells #[.slice ak k.length ck, .slice av x.length cv] 41)) := (Below.refl _ _).alloc (Nat.le_refl _) _
            have BX := Lib.hid (heap_new w (.cells #[.slice ak k.length ck, .slice av x.length cv] 41))
            replace BL := Lib.hid (BL.out.keep hb1)
            replace K := Lib.hid (K.out.keep hb1)
            replace X := Lib.hid (X.out.keep hb1)
            have HB := Lib.hid hb1
            clear hb1
            go_enter Try.func19, Try.ntmps19
            go_upto_region 1 with (fail)
            obtain ⟨ge, hge⟩ : ∃ z, w.heap.size = z := ⟨_, rfl⟩
            rw [hge] at BX
            have hge2 : w.heap.size ≤ ge := by omega
            have lge : g < ge := by omega
            have HGE := Lib.hid (show ¬ BlS g v ge from fun e => by have := (HIN.out ge e).2; omega)
            rw [hge] at lg ⊢
            clear hge
            generalize w.alloc (.cells #[.slice ak k.length ck, .slice av x.length cv] 41) = w1 at *
            have x0 := cell_of BX.out 0 rfl
            have x1 := cell_of BX.out 1 rfl
            go_wp2_with fail
            refine (HCK.out _).mono ?_
            rintro e w2 ⟨rfl, hb⟩
            replace BL := Lib.hid (BL.out.keep hb)
            replace K := Lib.hid (K.out.keep hb)
            replace X := Lib.hid (X.out.keep hb)
            replace BX := Lib.hid ((Stab.block BX.out).keep hb).now
            replace HB := Lib.hid (HB.out.trans (hb.mono (by have := HB.out.size; omega)))
            clear hb x0 x1 HCK
            have c0 := BL.out.c0
            have c1 := BL.out.c 1 (by omega) (by omega)
            have c2 := BL.out.c 2 (by omega) (by omega)
            have c3 := BL.out.c 3 (by omega) (by omega)
            have x0 := cell_of BX.out 0 rfl
            have x1 := cell_of BX.out 1 rfl
            obtain ⟨a1, n1, k1, hv1, z1⟩ := (BL.out.row 1 (by omega) (by omega)).slN
            obtain ⟨a2, n2, k2, hv2, z2⟩ := (BL.out.row 2 (by omega) (by omega)).slN
            obtain ⟨aL, nL, cL, hvl, zl⟩ := (BL.out.row 3 (by omega) (by omega)).slN
            have hzl : Sl Bf w2 aL nL cL L := by rw [← HL.out]; exact zl
            have l1 : (bst l).body.length = n1 := z1.len
            have l2 : (bst l).tab.length = n2 := z2.len
            have b1 : n1 ≤ 22400 := by have := BLE.out; have := HNN.out; omega
            have b2 : n2 ≤ 128 := by have := BLE.out; have := HNN.out; omega
            rw [hvl] at c3
            rw [hv1] at c1
            rw [hv2] at c2
            have HV1 := Lib.hid hv1
            have HV2 := Lib.hid hv2
            have HVL := Lib.hid hvl
            have Z1 := Lib.hid l1
            have Z2 := Lib.hid l2
            have ZL := Lib.hid hzl
            have HCM := Lib.hid (bcompare_any aL nL cL L ak k.length ck k)
            have CQ := Lib.hid (fun j : Nat => HQ3.out ▸ HCM.out (w2.drewN j) (ZL.out.drewN j) (K.out.drewN j))
            clear hvl zl hzl hv1 hv2 z1 z2 l1 l2
            go_wp2_with fail
            go_quiet ((go_at_call 43; exact Calls.quiet_of_drw ((CQ.out _).mono fun _ _ h => ⟨h.1, Drw.of h.2.symm⟩)))
            clear CQ HCM
            replace BL := Lib.hid (BL.out.drewN nq)
            replace K := Lib.hid (K.out.drewN nq)
            replace X := Lib.hid (X.out.drewN nq)
            replace BX : Hid ((w2.drewN nq).heap[ge]? = _) := BX
            replace HB := Lib.hid (keep_drewN HB.out nq)
            replace ZL := Lib.hid (ZL.out.drewN nq)
            generalize w2.drewN nq = w3 at *
            clear c0 c1 c2 c3 x0 x1
            have lge3 : ge < w3.heap.size := (Array.getElem?_eq_some_iff.1 BX.out).1
            have hlo : lo ≤ w3.heap.size := by have := BL.out.low; have := BL.out.lt; omega
            obtain ⟨TT, hTT⟩ : ∃ T, (bst l).tab = T := ⟨_, rfl⟩
            obtain ⟨BB, hBB⟩ : ∃ T, (bst l).body = T := ⟨_, rfl⟩
            rw [hTT] at Z2
            rw [hBB] at Z1
            have hrt : OwT fB w3 lo 5 (.slice a2 n2 k2) TT := by rw [← HV2.out, ← hTT]; exact BL.out.row 2 (by omega) (by omega)
            have RT := Lib.hid hrt
            have HTT := Lib.hid hTT
            have HBB := Lib.hid hBB
            have TU := Lib.hid (Turns.of_below (S := BlS g v) HB.out)
            have BS := Lib.hid (show ∀ j, BlS g v j → BlS g v j ∨ ge < j from fun j h => .inl h)
            clear hrt hTT hBB HB
            have c0 := BL.out.c0
            have c1 := BL.out.c 1 (by omega) (by omega)
            have c2 := BL.out.c 2 (by omega) (by omega)
            have c3 := BL.out.c 3 (by omega) (by omega)
            rw [HV1.out] at c1
            rw [HV2.out] at c2
            rw [HVL.out] at c3
            have x0 := cell_of BX.out 0 rfl
            have x1 := cell_of BX.out 1 rfl
            have HT6 := Lib.hid (Turns.refl (BlS g v) w3)
            have HS6 := Lib.hid (show ∀ j, BlS g v j → BlS g v j ∨ w3.heap.size ≤ j from fun j h => .inl h)
            have HBL6 := Lib.hid BL.out
            have PV := ZL
            have hg8 : bP n L = L := by unfold bP; rw [if_neg HN8.out]
            have hm8 : bMark n (n1 + 1) = [] := by unfold bMark; rw [if_neg HN8.out]
            clear RT c0 c1 c2 c3 x0 x1
            have HG8 := Lib.hid hg8
            have HM8 := Lib.hid hm8
            clear hg8 hm8
            replace BX : Hid (w3.heap[ge]? = _) := Lib.hid (HT6.out.heap BX.out (fun e => (BS.out ge e).elim HGE.out (fun h => by omega)))
            replace K := Lib.hid (K.out.turns HT6.out (fun b o ha hn e => (BS.out b e).elim (F1.out b o ha hn).1 (fun h => by have := (F1.out b o ha hn).2; omega)))
            replace X := Lib.hid (X.out.turns HT6.out (fun b o ha hn e => (BS.out b e).elim (F2.out b o ha hn).1 (fun h => by have := (F2.out b o ha hn).2; omega)))
            replace TU := Lib.hid (TU.out.trans HT6.out (fun j hj e => (BS.out j e).elim id (fun h => by omega)))
            replace BS : Hid (∀ j, BlS g v j → BlS g v j ∨ ge < j) := Lib.hid (fun j h => (HS6.out j h).elim (BS.out j) (fun h => .inr (by omega)))
            replace BL := HBL6
            clear HT6 HS6 HBL6 ZL
            obtain ⟨w7, hw7⟩ : ∃ w7, w3 = w7 := ⟨_, rfl⟩
            subst hw7
            have c0 := BL.out.c0
            have c1 := BL.out.c 1 (by omega) (by omega)
            have c2 := BL.out.c 2 (by omega) (by omega)
            have c3 := BL.out.c 3 (by omega) (by omega)
            rw [HV1.out] at c1
            rw [HV2.out] at c2
            rw [HVL.out] at c3
            have x0 := cell_of BX.out 0 rfl
            have x1 := cell_of BX.out 1 rfl
            go_upto_region 13 with (fail)
            clear c0 c1 c2 c3 x0 x1
            have hbl := BL.out
            have c1 : w3.cell? ⟨g, 1, none⟩ = some (.slice a1 n1 k1) := by rw [← HV1.out]; exact hbl.c 1 (by omega) (by omega)
            have x0 := cell_of BX.out 0 rfl
            have x1 := cell_of BX.out 1 rfl
            have hr1 : OwT fB w3 lo 5 (.slice a1 n1 k1) BB := by rw [← HV1.out, ← HBB.out]; exact hbl.row 1 (by omega) (by omega)
            have R1 := Lib.hid hr1.drew
            have hlo7 : lo ≤ w3.heap.size := by have := hbl.low; have := hbl.lt; omega
            have PB := Lib.hid (pbytes_any aL nL cL L ak k.length ck k av x.length cv x w3.drew (by have h1 := PV.out.len; have h2 := BLE.out; rw [HL.out] at h2; omega) (by have := BLE.out; have := CHK.out; omega) PV.out.drew K.out.drew X.out.drew)
            obtain ⟨eb, heb⟩ : ∃ eb, ebytes L (k, x) = eb := ⟨_, rfl⟩
            have hebl : eb.length ≤ 350 := by
              have hck := CHK.out
              have he2 : eb.length ≤ 30 + k.length + x.length := by rw [← heb]; exact ebytes_le L (k, x) (by show k.length + x.length ≤ _; omega)
              omega
            rw [heb] at PB
            have HEB := Lib.hid heb
            clear hbl hr1 heb
            go_region_law (first
              | (refine step_appT eltTB rfl (.tmp 70) (.tmp 73) rfl lo (.slice a1 n1 k1) BB (by simp [Act.eval]) R8.out a8 eb.length k8 eb (by simp [Act.eval]) Z8.out.toT (by rw [Z1.out]; unfold maxLen; omega) (by rw [Z1.out]; omega) (by omega) (BB ++ eb) rfl ?_; intro v9 w9 h9 hg9 hv9 hb9; obtain ⟨a9, n9, k9, rfl, z9⟩ := h9.slN; obtain ⟨cc1, ff1, hBL9, hU9, hT9, hS9⟩ := BL.out.app 1 (by omega) (by omega) HV1.out H8.out hg9 h9 hv9; have HBL9 := Lib.hid hBL9; have HT9 := Lib.hid hT9; have HS9 := Lib.hid hS9; have e1 := cell_of (hU9.heap BX.out (fun e => (BS.out ge e).elim HGE.out (fun h => by omega))) 0 rfl; have e2 := cell_of (hU9.heap BX.out (fun e => (BS.out ge e).elim HGE.out (fun h => by omega))) 1 rfl; clear hBL9 hU9 hT9 hS9 h9 hg9 hv9 hb9 z9)
              | (go_simp; go_at_call 44; refine PB.out.mono ?_; rintro e w8 ⟨xb, rfl, hob, hb8⟩; obtain ⟨a8, n8, k8, rfl, z8⟩ := hob.slN; obtain rfl : eb.length = n8 := z8.len; have Z8 := Lib.hid z8; have H8 : Hid (Below w3.heap.size w3 w8) := Lib.hid (((Below.refl _ _).drew).trans hb8); have d1 : w8.cell? ⟨g, 1, none⟩ = some (.slice a1 n1 k1) := (World.cell?_of_block (H8.out.block _ (cell_lt c1))).trans c1; have d2 : w8.cell? ⟨ge, 0, none⟩ = some (.slice ak k.length ck) := (World.cell?_of_block (H8.out.block _ (cell_lt x0))).trans x0; have d3 : w8.cell? ⟨ge, 1, none⟩ = some (.slice av x.length cv) := (World.cell?_of_block (H8.out.block _ (cell_lt x1))).trans x1; have R8 := Lib.hid (R1.out.keep hb8); have l8 := H8.out.size; clear hob hb8 z8 PB))
            all_goals
              have sz9 : w3.heap.size ≤ (w9.setCell ⟨g, 1, none⟩ (.slice a9 n9 k9)).heap.size := HT9.out.size
              replace BX : Hid ((w9.setCell ⟨g, 1, none⟩ (.slice a9 n9 k9)).heap[ge]? = _) := Lib.hid (HT9.out.heap BX.out (fun e => (BS.out ge e).elim HGE.out (fun h => by omega)))
              replace K := Lib.hid (K.out.turns HT9.out (fun b o ha hn e => (BS.out b e).elim (F1.out b o ha hn).1 (fun h => by have := (F1.out b o ha hn).2; omega)))
              replace TU := Lib.hid (TU.out.trans HT9.out (fun j hj e => (BS.out j e).elim id (fun h => by omega)))
              have lge7 : ge < w3.heap.size := cell_lt x0
              replace BS : Hid (∀ j, BlS g (upd v 1 (.slice a9 n9 k9)) j → BlS g v j ∨ ge < j) := Lib.hid (fun j h => (HS9.out j h).elim (BS.out j) (fun h => .inr (by omega)))
              replace BL := HBL9
              clear HT9 HS9 HBL9 Z8 R8 H8 R1 PV X d1 d2 d3 c1 x0 x1 e1 e2 cc1 ff1
              go_upto_region 14 with (fail)
              generalize w9.setCell ⟨g, 1, none⟩ (.slice a9 n9 k9) = w10 at *
              have x0 := cell_of BX.out 0 rfl
              have hlo10 : lo ≤ w10.heap.size := by omega
              go_wp2_with fail
              refine (clone_any ak k.length ck k w10 (by omega) K.out).mono ?_
              rintro e w11 ⟨xc, rfl, hoc, hb11⟩
              obtain ⟨a12, n12, k12, rfl, z12⟩ := hoc.slN
              obtain ⟨cc3, ff3, hBL12, _, hT12, hS12⟩ := BL.out.lay 3 (by omega) (by omega) (vk := .slice aL nL cL) (show (upd v 1 (.slice a9 n9 k9)) 3 = _ from HVL.out) (Turns.of_below hb11) (hoc.base hlo10) (fun j hj => .inr (hoc.lt j hj).1)
              have sz12 : w10.heap.size ≤ (w11.setCell ⟨g, 3, none⟩ (.slice a12 n12 k12)).heap.size := hT12.size
              replace TU := Lib.hid (TU.out.trans hT12 (fun j hj e => (BS.out j e).elim id (fun h => by omega)))
              have lge10 : ge < w10.heap.size := cell_lt x0
              replace BS : Hid (∀ j, BlS g (upd (upd v 1 (.slice a9 n9 k9)) 3 (.slice a12 n12 k12)) j → BlS g v j ∨ ge < j) := Lib.hid (fun j h => (hS12 j h).elim (BS.out j) (fun h => .inr (by omega)))
              replace BL := Lib.hid hBL12
              clear hoc hb11 z12 hBL12 hT12 hS12 x0 BX K
              go_upto_region 15 with (fail)
              generalize w11.setCell ⟨g, 3, none⟩ (.slice a12 n12 k12) = w12 at *
              clear cc3 ff3
              have c0 := BL.out.c0
              have f0 := BL.out.free 0
              go_wp2_with fail
              go_ret
              refine ⟨by rw [ADD.out]; rfl, fun e => absurd ADD.out e, fun _ => ⟨upd (upd v 1 (.slice a9 n9 k9)) 3 (.slice a12 n12 k12), (BL.out.num (n + 1)).as (by rw [List.length_append, HNN.out]; rfl) (fun i i1 i3 => ?_), TU.out.trans (Turns.set (S := BlS g v) w12 (.inl rfl) _) (fun _ _ e => e), fun j hj => (BS.out j hj).imp id (fun h => by omega)⟩⟩
              rw [rows_bAdd]
              rcases (by omega : i = 1 ∨ i = 2 ∨ i = 3) with e | e | e <;> subst e
              · show BB ++ eb = _
                rw [if_pos rfl, HBB.out, HNN.out, HL.out, HG8.out, HEB.out]
              · show (bst l).tab = _
                rw [if_neg (by omega), if_pos rfl, HTT.out, HBB.out, Z1.out, HNN.out, HM8.out]; simp
              · show k = _
                rw [if_neg (by omega), if_neg (by omega)]
  · have ADD := Lib.hid ((addE_chk (l := l) (by rw [hqc]; exact hz)).trans hqc)
    have t1 : ((q : Int) != 0) = true := by rw [bne_iff_ne]; omega
    have t1' : (q != 0) = true := by rw [bne_iff_ne]; omega
    have HZ := Lib.hid hz
    clear hqc hn hz
    have hb1 : Below w.heap.size w (w.alloc (.cells #[.slice ak k.length ck, .slice av x.length cv] 41)) := (Below.refl _ _).alloc (Nat.le_refl _) _
    have BX := Lib.hid (heap_new w (.cells #[.slice ak k.length ck, .slice av x.length cv] 41))
    replace BL := Lib.hid (BL.out.keep hb1)
    replace K := Lib.hid (K.out.keep hb1)
    replace X := Lib.hid (X.out.keep hb1)
    have HB := Lib.hid hb1
    clear hb1
    go_enter Try.func19, Try.ntmps19
    go_upto_region 1 with (fail)
    obtain ⟨ge, hge⟩ : ∃ z, w.heap.size = z := ⟨_, rfl⟩
    rw [hge] at BX
    have hge2 : w.heap.size ≤ ge := by omega
    have lge : g < ge := by omega
    have HGE := Lib.hid (show ¬ BlS g v ge from fun e => by have := (HIN.out ge e).2; omega)
    rw [hge] at lg ⊢
    clear hge
    generalize w.alloc (.cells #[.slice ak k.length ck, .slice av x.length cv] 41) = w1 at *
    have x0 := cell_of BX.out 0 rfl
    have x1 := cell_of BX.out 1 rfl
    go_wp2_with fail
    refine (HCK.out _).mono ?_
    rintro e w2 ⟨rfl, hb⟩
    replace BL := Lib.hid (BL.out.keep hb)
    replace K := Lib.hid (K.out.keep hb)
    replace X := Lib.hid (X.out.keep hb)
    replace BX := Lib.hid ((Stab.block BX.out).keep hb).now
    replace HB := Lib.hid (HB.out.trans (hb.mono (by have := HB.out.size; omega)))
    clear hb x0 x1 HCK
    have c0 := BL.out.c0
    have c1 := BL.out.c 1 (by omega) (by omega)
    have c2 := BL.out.c 2 (by omega) (by omega)
    have c3 := BL.out.c 3 (by omega) (by omega)
    have x0 := cell_of BX.out 0 rfl
    have x1 := cell_of BX.out 1 rfl
    go_wp2_with fail
    go_ret
    exact AddPost.no ADD.out HZ.out HB.out
end Go.Proofs.Yteedjgjkldbbcaa
