/- Row, the document's: contract. Conditions: the row is one of the file's, the bytes within reach. -/
import Derived.Test.YtljcogimeimknaaGreatFileBlock
import Derived.Test.YtljcogimeimknaaGreatK8x
import Derived.Test.YtljcogimeimknaaGreatVintRRead
namespace Go.Proofs.YtljcogimeimknaaGreat
open Go.RowKit
open Lib (hid)
set_option linter.unusedVariables false
set_option linter.unusedSimpArgs false

/-- behind Row -/
def RwPost (w : World) (X : List UInt8 × List Ent × Int) (r : Ending) (w' : World) : Prop :=
  Below w.heap.size w w' ∧ ∃ y vs, r = .returned (.tuple #[y, .int .i64 X.2.2]) ∧ RdL w' w.heap.size y vs X.2.1
theorem RwPost.no {w w' : World} {X : List UInt8 × List Ent × Int} {e : Int} (h : X = ([], [], e)) (hb : Below w.heap.size w w') : RwPost w X (.returned (.tuple #[.slice none 0 0, .int .i64 e])) w' := by
  subst h
  exact ⟨hb, _, [], rfl, RdL.nil _ _⟩
theorem strB_neG (xs ys : List UInt8) : ((strB xs).toList != (strB ys).toList) = decide (xs ≠ ys) := by
  rw [strB_list, strB_list]
  by_cases h : xs = ys
  · subst h; simp
  · rw [decide_eq_true h]; exact bne_iff_ne.2 h
set_option maxRecDepth 100000 in
set_option maxHeartbeats 8000000 in
theorem rrow_any {w : World} {b : List UInt8} {ab : Option Addr} {nb cb : Nat} (hB : Sl Bf w ab nb cb b) (hb : b.length ≤ 140737488351232)
    (x : Row) (hx : RowIn b.length x) (al : Option Addr) (nl cl : Nat) (hs : Sl Bf w al nl cl x.1) :
    Calls Tryz.prog 50 #[.slice ab nb cb, .agg #[.slice al nl cl, .int .i64 x.2.1, .int .i64 x.2.2.1, .int .i64 x.2.2.2]] w (RwPost w (fblk b x)) := by
  obtain ⟨k, X, Y, Z⟩ := x
  obtain ⟨x1, x2, x3, x4, x5⟩ := hx
  dsimp only at x1 x2 x3 x4 x5 hs ⊢
  obtain ⟨p, rfl⟩ : ∃ p : Nat, X = p := ⟨X.toNat, by omega⟩
  obtain ⟨q, rfl⟩ : ∃ q : Nat, Y = q := ⟨Y.toNat, by omega⟩
  obtain ⟨m, rfl⟩ : ∃ m : Nat, Z = m := ⟨Z.toNat, by omega⟩
  obtain rfl : k.length = nl := hs.len
  obtain rfl : b.length = nb := hB.len
  obtain ⟨R, hR⟩ : ∃ R, fblk b (k, (p : Int), (q : Int), (m : Int)) = R := ⟨_, rfl⟩
  obtain ⟨F, hF⟩ : ∃ F, cutR b (k, (p : Int), (q : Int), (m : Int)) = F := ⟨_, rfl⟩
  have HR := hid (show fblI (k, (p : Int), (q : Int), (m : Int)) (fin F 66) = R by rw [← hF]; exact hR)
  have hFe : F = (b.take (p + q)).drop p := by rw [← hF, List.drop_take, Nat.add_sub_cancel_left]; rfl
  have hpq : p + q ≤ b.length := by omega
  have hle := hB.le
  have hcut : ∀ W : World, (Instr.slice 22 (.slice ab b.length cb) (some (.int .i64 (p : Nat))) (some (.int .i64 ((p + q : Nat) : Int))) none).run Tryz.prog W = .ok (.slice (adv ab cb p) q (cb - p)) W := fun W => by
    have := run_cut eltB W ab b.length cb .i64 .i64 p (p + q) (by omega) (by omega)
    rwa [show p + q - p = q by omega] at this
  obtain ⟨pq, hpq2⟩ : ∃ pq, p + q = pq := ⟨_, rfl⟩
  rw [hpq2] at hcut
  have r1 : IntKind.i64.wrap ((p : Int) + (q : Int)) = (pq : Int) := by rw [IntWalk.i64_in _ (by omega)]; omega
  have SF := hid (show Sl Bf w (adv ab cb p) q (cb - p) F by rw [hFe]; have := hB.cut p (p + q) (by omega) hpq; rwa [show p + q - p = q by omega] at this)
  have SK := hid hs
  rw [hR]
  obtain ⟨w1, hw1⟩ : ∃ V, w.alloc (.cells #[.slice al k.length cl, .int .i64 (p : Nat), .int .i64 (q : Nat), .int .i64 (m : Nat)] 94) = V := ⟨_, rfl⟩
  have b1 : Below w.heap.size w w1 := hw1 ▸ (Below.refl _ _).alloc (Nat.le_refl _) _
  have g1 : w1.heap[w.heap.size]? = some (.cells #[.slice al k.length cl, .int .i64 (p : Nat), .int .i64 (q : Nat), .int .i64 (m : Nat)] 94 (0, 0)) := hw1 ▸ heap_new w _
  obtain ⟨f, bF, oF, hf0, hadr, hfc⟩ := (SF.out.keep b1).at 0 (by omega)
  have hfc : w1.cell? ⟨bF, oF + 0, none⟩ = some (.int .u8 (B f)) := hfc
  have hfc' : w1.cell? ⟨bF, oF, none⟩ = some (.int .u8 (B f)) := hfc
  have hh : F.head? = some f := by rw [List.head?_eq_getElem?]; exact hf0
  have y1 := cell_of g1 1 (v := .int .i64 (p : Nat)) rfl
  have y2 := cell_of g1 2 (v := .int .i64 (q : Nat)) rfl
  have B1 := hid b1
  have G1 := hid g1
  have gl1 : w.heap.size < w1.heap.size := by rw [← hw1]; simp
  have HW1 := hid hw1
  have FLN : F.length = q := SF.out.len
  have VR := rread_any (adv ab cb p) q (cb - p) F 1 w1 (by omega) (by omega) (SF.out.keep b1)
  obtain ⟨⟨M, d, e1⟩, hV⟩ : ∃ V, rd (F.drop 1) 0 0 = V := ⟨_, rfl⟩
  rw [hV] at VR
  dsimp only at VR
  obtain ⟨j1, hj1⟩ : ∃ j, 1 + d = j := ⟨_, rfl⟩
  rw [hj1] at VR
  have VR := hid VR
  have HV := hid hV
  have SA := hid SF.out
  rw [hadr] at hcut VR SA
  have FL2 := hid FLN
  replace hj1 := hid hj1
  clear hB hs hR hF hFe b1 g1 hw1 hpq hpq2 hV hf0 hadr SF FLN
  go_enter Tryz.func50, Tryz.ntmps50
  go_upto_region 1 with (fail)
  rw [HW1.out]
  clear HW1
  by_cases hk : f = 66
  case neg =>
    have t0 : (B f != 66) = true := by rw [bne_iff_ne]; intro e; exact hk (by unfold B at e; exact UInt8.toNat_inj.1 (by show f.toNat = 66; omega))
    have FIN := hid (show R = ([], [], 82) by rw [← HR.out]; unfold fin; rw [if_pos (by rw [hh]; intro e; exact hk (Option.some.inj e))]; rfl)
    clear hk hh
    go_wp2_with fail
    go_ret2
    exact RwPost.no FIN.out B1.out
  have t0 : (B f != 66) = false := by rw [bne_eq_false_iff_eq, hk]; rfl
  have HR2 := hid (show R = fblI (k, (p : Int), (q : Int), (m : Int)) (finR F (M, d, e1)) by
    rw [← HR.out]; unfold fin; rw [if_neg (by rw [hh, hk]; simp), HV.out])
  clear hk hh HR
  go_wp2_with fail
  refine VR.out.mono ?_
  rintro r w2 ⟨rfl, rfl⟩
  clear VR y1 y2 hfc hfc' r1 hcut
  by_cases he : e1 = 0
  case neg =>
    have t1 : (e1 != 0) = true := by rw [bne_iff_ne]; exact he
    have FIN := hid (show R = ([], [], e1) by rw [HR2.out]; unfold finR; dsimp only; rw [if_pos he]; unfold fblI; dsimp only; rw [if_pos he])
    clear he
    go_wp2_with fail
    go_ret2
    exact RwPost.no FIN.out B1.out
  subst he
  have t1 : ((0 : Int) != 0) = false := by decide
  have hd : j1 ≤ q := by have h1 := (rd_in HV.out).1; rw [List.length_drop, FL2.out] at h1; have := hj1.out; omega
  have hM := (rd_in HV.out).2
  have u1 : IntKind.i64.wrap ((q : Int) - (j1 : Int)) = (q : Int) - (j1 : Int) := by rw [IntKind.wrap_i64]; omega
  by_cases h4 : q < j1 + 4
  case pos =>
    have u2 : decide ((q : Int) - (j1 : Int) < 4) = true := decide_eq_true (by omega)
    have FIN := hid (show R = ([], [], 83) by rw [HR2.out]; unfold finR; dsimp only; rw [if_neg (fun e => e rfl), if_pos (.inl (by rw [FL2.out]; have := hj1.out; omega))]; rfl)
    go_wp2_with fail
    go_ret2
    exact RwPost.no FIN.out B1.out
  have u2 : decide ((q : Int) - (j1 : Int) < 4) = false := decide_eq_false (by omega)
  have u3 : IntKind.i64.wrap ((q : Int) - (j1 : Int) - 4) = (q : Int) - (j1 : Int) - 4 := by rw [IntKind.wrap_i64]; omega
  have u4 : IntKind.u64.wrap ((q : Int) - (j1 : Int) - 4) = ((q - j1 - 4 : Nat) : Int) := by rw [IntKind.wrap_u64]; omega
  obtain ⟨N, hN⟩ : ∃ N, q - j1 - 4 = N := ⟨_, rfl⟩
  rw [hN] at u4
  by_cases hmn : M = N
  case neg =>
    have u5 : ((M : Int) != (N : Int)) = true := by rw [bne_iff_ne]; omega
    have FIN := hid (show R = ([], [], 83) by rw [HR2.out]; unfold finR; dsimp only; rw [if_neg (fun e => e rfl), if_pos (.inr (by rw [FL2.out]; have := hj1.out; omega))]; rfl)
    clear hmn hN
    go_wp2_with fail
    go_ret2
    exact RwPost.no FIN.out B1.out
  have u5 : ((M : Int) != (N : Int)) = false := by rw [hmn]; simp
  have HR3 := hid (show R = fblI (k, (p : Int), (q : Int), (m : Int)) (finC F d) by
    rw [HR2.out]; unfold finR; dsimp only; rw [if_neg (fun e => e rfl), if_neg (by rw [FL2.out]; have := hj1.out; omega)])
  have hcf := fun W : World => run_cutfrom eltB W (some ⟨bF, oF, none⟩) q (cb - p) .i64 j1 hd
  have OP := hid (ropen_any _ _ _ (F.drop j1) w1 (by omega) ((SA.out.keep B1.out).from j1 hd))
  clear hmn hN HR2 HV
  go_wp2_with fail
  refine OP.out.mono ?_
  rintro r w3 ⟨v, rfl, ho, hb⟩
  have B3 := hid (keep_trans B1.out hb)
  have G3 := hid ((hb.block _ gl1).trans G1.out)
  have O3 := hid ho
  obtain ⟨e2, he2⟩ : ∃ e, openE (F.drop j1) = e := ⟨_, rfl⟩
  obtain ⟨Bd, hBd⟩ : ∃ e, openV (F.drop j1) = e := ⟨_, rfl⟩
  rw [hBd] at O3
  rw [he2]
  have HR4 := hid (show R = if e2 ≠ 0 then ([], [], e2) else fblR (k, (p : Int), (q : Int), (m : Int)) Bd (bread Bd) by
    rw [HR3.out]; unfold finC; rw [hj1.out, he2, hBd]
    by_cases h : e2 ≠ 0
    · rw [if_pos h, if_pos h]; unfold fblI; dsimp only; rw [if_pos h]
    · rw [if_neg h, if_neg h]; unfold fblI; dsimp only; rw [if_neg (fun e => e rfl)])
  have BL := hid (show Bd.length ≤ 131072 by
    rw [← hBd]; unfold openV
    split
    · exact Nat.zero_le _
    split
    · rw [List.length_take, List.length_drop, FL2.out]; omega
    · exact Nat.zero_le _)
  clear hb ho OP hcf he2 hBd HR3 SA G1
  by_cases he : e2 = 0
  case neg =>
    have t2 : (e2 != 0) = true := by rw [bne_iff_ne]; exact he
    have FIN := hid (show R = ([], [], e2) by rw [HR4.out, if_pos he])
    clear he O3
    go_wp2_with fail
    go_ret2
    exact RwPost.no FIN.out B3.out
  subst he
  obtain ⟨a3, n3, c3, rfl, z3⟩ := O3.out.slN
  have hn3 : n3 = Bd.length := z3.len.symm
  have BR := rbread_any a3 n3 c3 Bd w3 (by have := BL.out; omega) z3
  obtain ⟨⟨l, q4, e4⟩, hY⟩ : ∃ Y, bread Bd = Y := ⟨_, rfl⟩
  have HY := hid hY
  rw [hY] at BR
  replace HR4 := hid (show R = fblR (k, (p : Int), (q : Int), (m : Int)) Bd (l, q4, e4) by rw [HR4.out, if_neg (fun e => e rfl), hY])
  clear hY z3 hn3 O3
  go_wp2_with fail
  refine BR.mono ?_
  rintro r w4 ⟨hb4, y, vl, rfl, hl4⟩
  dsimp only at hl4 ⊢
  have B4 := hid (keep_trans B3.out hb4)
  have L4 := hid (hl4.low B3.out.size)
  have G4 := hid ((hb4.block _ (Array.getElem?_eq_some_iff.1 G3.out).1).trans G3.out)
  clear hb4 hl4 BR G3
  by_cases he : e4 = 0
  case neg =>
    have t3 : (e4 != 0) = true := by rw [bne_iff_ne]; exact he
    have FIN := hid (show R = ([], [], e4) by rw [HR4.out]; unfold fblR; dsimp only; rw [if_pos he])
    clear he L4
    go_wp2_with fail
    go_ret2
    exact RwPost.no FIN.out B4.out
  subst he
  obtain ⟨hl1, hl64, hlk⟩ := bread_fine (by have := BL.out; omega) HY.out
  obtain ⟨ay, cy, rfl, hEN⟩ := L4.out.ents
  obtain ⟨n, hn⟩ : ∃ n, l.length = n := ⟨_, rfl⟩
  obtain ⟨j, hj⟩ : ∃ j, l.length = j + 1 := ⟨l.length - 1, by omega⟩
  obtain ⟨⟨xk, xv⟩, hfx⟩ : ∃ e, l[j]? = some e := ⟨_, List.getElem?_eq_getElem (by omega)⟩
  obtain ⟨bL, oL, ax, nx, cx, av, nv, cv, ha, dx, -, sx, -⟩ := hEN.2.2.2 j xk xv hfx
  subst ha
  have LK : lastK l = xk := lastK_of hj hfx
  have z0 := cell_of G4.out 0 (v := .slice al k.length cl) rfl
  have z3 := cell_of G4.out 3 (v := .int .i64 (m : Nat)) rfl
  have s1 := fun i : Nat => run_str (P := Tryz.prog) (dst := 9) Tryz.underlying22 Tryz.underlying5 (by kernel_rfl) (w4.drewN i) _ _ _ _ (sx.drewN i)
  have s2 := fun i : Nat => run_str (P := Tryz.prog) (dst := 9) Tryz.underlying22 Tryz.underlying5 (by kernel_rfl) (w4.drewN i) _ _ _ _ ((SK.out.keep B4.out).drewN i)
  have HJN := hid (show n = j + 1 by omega)
  have hn64 : n ≤ 64 := by omega
  rw [hn]
  obtain ⟨bb, hbb⟩ : ∃ bb, decide ((n : Int) ≠ (m : Int) ∨ xk ≠ k) = bb := ⟨_, rfl⟩
  have HBB := hid hbb
  have FIN := hid (show R = if bb = true then ([], [], 84) else (Bd, l, 0) by
    rw [HR4.out]; unfold fblR; dsimp only
    rw [if_neg (fun e => e rfl), LK, hn]
    by_cases hc : (n : Int) ≠ (m : Int) ∨ xk ≠ k
    · rw [if_pos hc, ← hbb, decide_eq_true hc]; rfl
    · rw [if_neg hc, ← hbb, decide_eq_false hc]; rfl)
  clear hEN hfx sx hlk hl1 hl64 hj LK hbb HR4
  have HN := hid hn
  clear hn
  have t3 : ((0 : Int) != 0) = false := by decide
  go_upto_region 15 with (fail)
  go_cut [87] (fun v wx => v = .bool bb ∧ Drw w4 wx)
  case first =>
    have e11 : IntKind.i64.wrap ((n : Int) - 1) = (j : Int) := by rw [show (n : Int) - 1 = j by have := HJN.out; omega]; exact IntWalk.i64_in _ (by have := HJN.out; omega)
    have l11 : j < n := by have := HJN.out; omega
    by_cases hz : n = m
    · subst hz
      have u1 : ((n : Int) != (n : Int)) = false := by simp
      have u2 : bb = decide (xk ≠ k) := by rw [← HBB.out]; by_cases e : xk = k <;> simp [e]
      have u6 := strB_neG xk k
      rw [← u2] at u6
      clear u2
      have U6 := hid u6
      clear u6
      go_wp2_with fail
      go_quiet (fail)
      go_wp2_with fail
      go_meet
      exact ⟨congrArg Value.bool U6.out, by first | exact (Drw.refl _).more _ | exact ((Drw.refl _).more _).more _ | exact Drw.refl _⟩
    · have u1 : ((n : Int) != (m : Int)) = true := by rw [bne_iff_ne]; omega
      have u1' : (n != m) = true := by rw [bne_iff_ne]; omega
      have u2 : bb = true := by rw [← HBB.out]; exact decide_eq_true (.inl (by omega))
      subst u2
      clear s1 s2
      go_wp2_with fail
      go_quiet (fail)
      go_wp2_with fail
      go_meet
      exact ⟨rfl, by first | exact (Drw.refl _).more _ | exact ((Drw.refl _).more _).more _ | exact Drw.refl _⟩
  case rest =>
    obtain ⟨rfl, hcw⟩ := hcut
    obtain ⟨w5, rfl⟩ : ∃ w5, w5 = wc := ⟨_, rfl⟩
    have B5 := hid (keep_trans B4.out hcw.below)
    have L5 := hid (L4.out.keep hcw.below)
    clear hcw L4 z0 z3 dx s1 s2
    cases bb with
    | true =>
      go_wp2_with fail
      go_ret2
      exact RwPost.no FIN.out B5.out
    | false =>
      go_wp2_with fail
      go_ret2
      have e := FIN.out
      rw [if_neg (by decide)] at e
      rw [e]
      exact ⟨B5.out, _, vl, rfl, by have q := L5.out; rw [HN.out] at q; exact q⟩
end Go.Proofs.YtljcogimeimknaaGreat
