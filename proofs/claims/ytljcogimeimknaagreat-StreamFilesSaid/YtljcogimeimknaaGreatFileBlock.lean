/- (*File).block: contract. Conditions: the row is one of the file's, the bytes within reach. -/
import Derived.Test.YtljcogimeimknaaGreatF8a
import Derived.Test.YtljcogimeimknaaGreatF8d
import Derived.Test.YtljcogimeimknaaGreatBlockRead
import Derived.Test.YtljcogimeimknaaGreatF8t
import Derived.Test.YtljcogimeimknaaGreatF8q
import Derived.Deep.Cut
namespace Go.Proofs.YtljcogimeimknaaGreat
open Go.RowKit
open Lib (hid)
set_option linter.unusedVariables false
set_option linter.unusedSimpArgs false

theorem lastK_of {l : List Ent} {j : Nat} {e : Ent} (hj : l.length = j + 1) (h : l[j]? = some e) : lastK l = e.1 := by
  unfold lastK
  obtain ⟨M, x, rfl⟩ : ∃ M x, l = M ++ [x] := by
    have hne : l ≠ [] := by intro e; rw [e] at hj; simp at hj
    exact ⟨l.dropLast, l.getLast hne, (List.dropLast_concat_getLast _).symm⟩
  rw [bst_snoc]
  simp only [List.length_append, List.length_cons, List.length_nil] at hj
  rw [List.getElem?_append_right (by omega)] at h
  simp [show j - M.length = 0 by omega] at h
  subst h; rfl
/-- what reading a block gives -/
theorem bread_fine {b : List UInt8} {l : List Ent} {q : Nat} (hb : b.length < 18446744073709551616) (h : bread b = (l, q, 0)) : 1 ≤ l.length ∧ l.length ≤ 64 ∧ ∀ e, e ∈ l → 0 < e.1.length ∧ e.1.length ≤ 64 := by
  obtain ⟨h1, h2, _⟩ := bread_back hb h
  refine ⟨by omega, by omega, fun e he => ?_⟩
  have := chk_zero (srt_okay h2 e he)
  exact ⟨this.1, this.2.1⟩
/-- behind block -/
def SbPost (w : World) (X : List UInt8 × List Ent × Int) (r : Ending) (w' : World) : Prop :=
  Below w.heap.size w w' ∧ ∃ v y vs, r = .returned (.tuple #[v, y, .int .i64 X.2.2]) ∧ OwT fB w' w.heap.size 5 v X.1 ∧ RdL w' w.heap.size y vs X.2.1
theorem SbPost.no {w w' : World} {X : List UInt8 × List Ent × Int} {e : Int} (h : X = ([], [], e)) (hb : Below w.heap.size w w') : SbPost w X (.returned (.tuple #[.slice none 0 0, .slice none 0 0, .int .i64 e])) w' := by
  subst h
  exact ⟨hb, _, _, [], rfl, OwT.nil _ _ _ _, RdL.nil _ _⟩
set_option maxRecDepth 100000 in
set_option maxHeartbeats 8000000 in
theorem sblock_any {w : World} {lo hi g : Nat} {b : List UInt8} {rs : List Row} {a : Option Addr} {c : Nat} {a2 : Option Addr} {c2 : Nat} {vs : List RV} (h : FlO w lo hi g b rs a c a2 c2 vs) (hb : b.length ≤ 140737488351232)
    (x : Row) (hx : RowIn b.length x) (al : Option Addr) (nl cl : Nat) (hs : Sl Bf w al nl cl x.1) :
    Calls Tryz.prog 47 #[.pointer (some ⟨g, 0, none⟩), .agg #[.slice al nl cl, .int .i64 x.2.1, .int .i64 x.2.2.1, .int .i64 x.2.2.2]] w (SbPost w (fblk b x)) := by
  obtain ⟨k, X, Y, Z⟩ := x
  obtain ⟨x1, x2, x3, x4, x5⟩ := hx
  dsimp only at x1 x2 x3 x4 x5 hs ⊢
  obtain ⟨p, rfl⟩ : ∃ p : Nat, X = p := ⟨X.toNat, by omega⟩
  obtain ⟨q, rfl⟩ : ∃ q : Nat, Y = q := ⟨Y.toNat, by omega⟩
  obtain ⟨m, rfl⟩ : ∃ m : Nat, Z = m := ⟨Z.toNat, by omega⟩
  obtain rfl : k.length = nl := hs.len
  obtain ⟨R, hR⟩ : ∃ R, fblk b (k, (p : Int), (q : Int), (m : Int)) = R := ⟨_, rfl⟩
  obtain ⟨F, hF⟩ : ∃ F, cutR b (k, (p : Int), (q : Int), (m : Int)) = F := ⟨_, rfl⟩
  obtain ⟨⟨B, e1, q1⟩, hI⟩ : ∃ I, fin F 66 = I := ⟨_, rfl⟩
  have HR := hid (show fblI (k, (p : Int), (q : Int), (m : Int)) (B, e1, q1) = R by rw [← hI, ← hF]; exact hR)
  have hFe : F = (b.drop p).take q := hF.symm
  have hp : p ≤ b.length := by omega
  have hq : q ≤ b.length - p := by omega
  have hle := h.sl.le
  have SF := hid (show Sl Bf w (adv a c p) q (c - p) F by rw [hFe]; exact (h.sl.from p hp).upto q hq)
  have FLN : F.length = q := SF.out.len
  have BL := hid (show B.length ≤ 131072 by have := fin_len F 66; rw [hI] at this; dsimp only at this; omega)
  have hcf := fun W : World => run_cutfrom eltB W a b.length c .i64 p hp
  have hct := fun W : World => run_cutto eltB W (adv a c p) (b.length - p) (c - p) .i64 q (by omega)
  have f0 := cell_of h.blk 0 rfl
  have HI := hid hI
  have SK := hid hs
  rw [hR]
  obtain ⟨w1, hw1⟩ : ∃ V, w.alloc (.cells #[.slice al k.length cl, .int .i64 (p : Nat), .int .i64 (q : Nat), .int .i64 (m : Nat)] 94) = V := ⟨_, rfl⟩
  have b1 : Below w.heap.size w w1 := hw1 ▸ (Below.refl _ _).alloc (Nat.le_refl _) _
  have g1 : w1.heap[w.heap.size]? = some (.cells #[.slice al k.length cl, .int .i64 (p : Nat), .int .i64 (q : Nat), .int .i64 (m : Nat)] 94 (0, 0)) := hw1 ▸ heap_new w _
  have gl1 : w.heap.size < w1.heap.size := by rw [← hw1]; simp
  have glt : g < w.heap.size := Nat.lt_of_lt_of_le h.low.2 h.top
  have f1 : w1.cell? ⟨g, 0, none⟩ = some (.slice a b.length c) := (World.cell?_of_block (b1.block g glt)).trans f0
  have y1 := cell_of g1 1 (v := .int .i64 (p : Nat)) rfl
  have y2 := cell_of g1 2 (v := .int .i64 (q : Nat)) rfl
  have B1 := hid b1
  have G1 := hid g1
  have HW1 := hid hw1
  have IN := fun (W : World) (hb : Below w.heap.size w W) => inner_any (adv a c p) q (c - p) F 66 (ki := 66) rfl W (by omega) (SF.out.keep hb)
  rw [hI] at IN
  dsimp only at IN
  have IN := hid IN
  clear h hs hR hF hI hFe f0 b1 g1 hw1 hle FLN
  go_enter Tryz.func47, Tryz.ntmps47
  go_upto_region 1 with (fail)
  rw [HW1.out]
  go_cut [7, 8, 9] (fun v7 v8 v9 wx => ∃ v, (v7 = v ∧ v8 = .int .i64 e1 ∧ v9 = .int .i64 (q1 : Nat)) ∧ OwT fB wx w1.heap.size 5 v B ∧ Below w1.heap.size w1 wx)
  case first =>
    have IN1 := hid (IN.out w1.drew (keep_trans B1.out kd1))
    go_region_with ((go_at_call 36; refine IN1.out.mono ?_; rintro e w2 ⟨v, rfl, ho, hb⟩; have O2 := hid ho; have B2 := hid (keep_trans (kd1 (w := w1)) hb); clear ho hb))
    all_goals
      go_wp2_with fail
      go_meet
      exact ⟨_, ⟨rfl, rfl, rfl⟩, O2.out.base (kd1 (w := w1)).size, B2.out⟩
  case rest =>
    obtain ⟨v, ⟨rfl, rfl, rfl⟩, ho, hb⟩ := hcut
    obtain ⟨w2, rfl⟩ : ∃ w5, w5 = wc := ⟨_, rfl⟩
    have B2 := hid (keep_trans B1.out hb)
    have hww := B1.out.size
    have O2 := hid ho
    have G2 := hid ((hb.block _ gl1).trans G1.out)
    clear hb ho hcf hct f1 y1 y2 IN SF G1 HW1
    by_cases he : e1 = 0
    case neg =>
      have t2 : (e1 != 0) = true := by rw [bne_iff_ne]; exact he
      have FIN := hid (show R = ([], [], e1) by rw [← HR.out]; unfold fblI; dsimp only; rw [if_pos he])
      clear he O2
      go_wp2_with fail
      go_ret3
      exact SbPost.no FIN.out B2.out
    subst he
    have t2 : ((0 : Int) != 0) = false := by decide
    obtain ⟨a2', n2, c2', rfl, z2⟩ := O2.out.slN
    have hn2 : n2 = B.length := z2.len.symm
    obtain ⟨⟨l, q4, e4⟩, hY⟩ : ∃ Y, bread B = Y := ⟨_, rfl⟩
    have BR := bread_any a2' n2 c2' B w2 (by have := BL.out; omega) z2
    have HR2 := hid (show R = fblR (k, (p : Int), (q : Int), (m : Int)) B (l, q4, e4) by rw [← HR.out, ← hY]; unfold fblI; dsimp only; rw [if_neg (fun e => e rfl)])
    have HY := hid hY
    clear hY z2 hn2 HR
    go_wp2_with fail
    refine BR.mono ?_
    rintro r w3 ⟨hb3, y, vl, rfl, hl3⟩
    rw [HY.out] at hl3 ⊢
    dsimp only at hl3 ⊢
    have B3 := hid (keep_trans B2.out hb3)
    have O3 := hid ((O2.out.base (by omega : w.heap.size ≤ w1.heap.size)).keep hb3)
    have L3 := hid (hl3.low B2.out.size)
    have G3 := hid ((hb3.block _ (Nat.lt_of_lt_of_le (Array.getElem?_eq_some_iff.1 G2.out).1 (Nat.le_refl _))).trans G2.out)
    clear hb3 hl3 BR O2 G2
    by_cases he : e4 = 0
    case neg =>
      have t3 : (e4 != 0) = true := by rw [bne_iff_ne]; exact he
      have FIN := hid (show R = ([], [], e4) by rw [HR2.out]; unfold fblR; dsimp only; rw [if_pos he])
      clear he L3 O3
      go_wp2_with fail
      go_ret3
      exact SbPost.no FIN.out B3.out
    subst he
    obtain ⟨hl1, hl64, hlk⟩ := bread_fine (by have := BL.out; omega) HY.out
    obtain ⟨ay, cy, rfl, hEN⟩ := L3.out.ents
    obtain ⟨n, hn⟩ : ∃ n, l.length = n := ⟨_, rfl⟩
    obtain ⟨j, hj⟩ : ∃ j, l.length = j + 1 := ⟨l.length - 1, by omega⟩
    obtain ⟨⟨xk, xv⟩, hfx⟩ : ∃ e, l[j]? = some e := ⟨_, List.getElem?_eq_getElem (by omega)⟩
    obtain ⟨bL, oL, ax, nx, cx, av, nv, cv, ha, dx, -, sx, -⟩ := hEN.2.2.2 j xk xv hfx
    subst ha
    have LK : lastK l = xk := lastK_of hj hfx
    have z0 := cell_of G3.out 0 (v := .slice al k.length cl) rfl
    have z3 := cell_of G3.out 3 (v := .int .i64 (m : Nat)) rfl
    have EQ := hid (fun i : Nat => bequal_any ax nx cx xk al k.length cl k (w3.drewN i) (sx.drewN i) ((SK.out.keep B3.out).drewN i))
    have t3 : ((0 : Int) != 0) = false := by decide
    have HJN := hid (show n = j + 1 by omega)
    have hn64 : n ≤ 64 := by omega
    rw [hn]
    obtain ⟨bb, hbb⟩ : ∃ bb, decide ((n : Int) ≠ (m : Int) ∨ xk ≠ k) = bb := ⟨_, rfl⟩
    have HBB := hid hbb
    have FIN := hid (show R = if bb = true then ([], [], 84) else (B, l, 0) by
      rw [HR2.out]; unfold fblR; dsimp only
      rw [if_neg (fun e => e rfl), LK, hn]
      by_cases hc : (n : Int) ≠ (m : Int) ∨ xk ≠ k
      · rw [if_pos hc, ← hbb, decide_eq_true hc]; rfl
      · rw [if_neg hc, ← hbb, decide_eq_false hc]; rfl)
    clear hEN hfx sx hlk hl1 hl64 hj LK hbb HR2
    have HN := hid hn
    clear hn
    go_upto_region 7 with (fail)
    go_cut [56] (fun v wx => v = .bool bb ∧ Drw w3 wx)
    case first =>
      have e11 : IntKind.i64.wrap ((n : Int) - 1) = (j : Int) := by rw [show (n : Int) - 1 = j by have := HJN.out; omega]; exact IntWalk.i64_in _ (by have := HJN.out; omega)
      have l11 : j < n := by have := HJN.out; omega
      by_cases hz : n = m
      · subst hz
        have u1 : ((n : Int) != (n : Int)) = false := by simp
        have u2 : bb = !(decide (xk = k)) := by rw [← HBB.out]; by_cases e : xk = k <;> simp [e]
        subst u2
        go_wp2_with fail
        go_quiet ((go_at_call 77; exact Calls.quiet_of_drw ((EQ.out _).mono (by rintro e w' ⟨rfl, rfl⟩; exact ⟨rfl, Drw.refl _⟩))))
        go_wp2_with fail
        go_meet
        exact ⟨rfl, by first | exact (Drw.refl _).more _ | exact ((Drw.refl _).more _).more _ | exact Drw.refl _⟩
      · have u1 : ((n : Int) != (m : Int)) = true := by rw [bne_iff_ne]; omega
        have u1' : (n != m) = true := by rw [bne_iff_ne]; omega
        have u2 : bb = true := by rw [← HBB.out]; exact decide_eq_true (.inl (by omega))
        subst u2
        go_wp2_with fail
        go_quiet (fail)
        go_wp2_with fail
        go_meet
        exact ⟨rfl, by first | exact (Drw.refl _).more _ | exact ((Drw.refl _).more _).more _ | exact Drw.refl _⟩
    case rest =>
      obtain ⟨rfl, hcw⟩ := hcut
      obtain ⟨w4, rfl⟩ : ∃ w5, w5 = wc := ⟨_, rfl⟩
      have B4 := hid (keep_trans B3.out hcw.below)
      have O4 := hid (O3.out.keep hcw.below)
      have L4 := hid (L3.out.keep hcw.below)
      clear hcw O3 L3 z0 z3 dx EQ
      cases bb with
      | true =>
        go_wp2_with fail
        go_ret3
        exact SbPost.no FIN.out B4.out
      | false =>
        go_wp2_with fail
        go_ret3
        have e := FIN.out
        rw [if_neg (by decide)] at e
        rw [e]
        exact ⟨B4.out, _, _, vl, rfl, O4.out, by have := L4.out; rwa [HN.out] at this⟩
end Go.Proofs.YtljcogimeimknaaGreat
