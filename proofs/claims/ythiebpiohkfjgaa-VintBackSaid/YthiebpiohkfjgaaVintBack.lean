/- VintBack: the walk. Conditions: the slices within reach. -/
import Derived.Test.YthiebpiohkfjgaaVintRList
namespace Go.Proofs.Ythiebpiohkfjgaa
open Go.RowKit Go.Shelf
attribute [local go_sem] Oper.semAt_some

/-- each number stands where those ahead of it end -/
theorem nums_place {b : List UInt8} {q : List (Nat × Nat)} {x : Nat × Nat} (h : q ++ [x] <+: nums b) : x.1 = aft q := by
  have key : ∀ (q pre : List (Nat × Nat)) (a f : Nat), Left b pre a f → pre ++ (q ++ [x]) <+: nums b → x.1 = aft (pre ++ q) := by
    intro q
    induction q with
    | nil =>
      intro pre a f hL ⟨r, hr⟩
      rw [hL.all, List.append_assoc] at hr
      have hr := List.append_cancel_left hr
      rw [List.nil_append] at hr
      cases f with
      | zero => cases hr
      | succ f =>
        unfold numsF at hr
        split at hr
        · injection hr with h1 h2
          rw [h1, List.append_nil]; exact hL.at_
        · cases hr
    | cons y q ih =>
      intro pre a f hL ⟨r, hr⟩
      have hr0 := hr
      rw [hL.all, List.append_assoc] at hr
      have hr := List.append_cancel_left hr
      obtain ⟨⟨n, j, e⟩, hrd⟩ : ∃ R, rd (b.drop a) 0 0 = R := ⟨_, rfl⟩
      by_cases ha : a < b.length
      · by_cases he : e = 0
        · subst he
          obtain ⟨f', rfl, hL'⟩ := hL.go ha hrd
          rw [numsF_go ha hrd] at hr
          injection hr with h1 h2
          subst h1
          have := ih _ _ _ hL' ⟨r, by rw [← hr0]; simp⟩
          rw [this]; simp
        · rw [numsF_no hrd he] at hr; cases hr
      · rw [numsF_end (by omega)] at hr; cases hr
  exact key q [] 0 _ (Left.start b) (by simpa using h)

/-- what stands between two rounds -/
def BI (w W0 : World) (g3 g6 gf gk Bx : Nat) (a : Option Addr) (n c : Nat) (a2 : Option Addr) (n2 c2 : Nat) (l : List Nat) (pre : List NP) (W : World) : Prop :=
  nos pre = l.take pre.length ∧ pre.length ≤ l.length ∧ Boxed W g3 48 (.slice a n c) ∧ Boxed W g6 4 (.bool false) ∧ Boxed W gf 3 (.int .i64 (ats pre : Nat)) ∧ Boxed W gk 3 (.int .i64 (pre.length : Nat)) ∧ Boxed W Bx 22 (.slice a2 n2 c2) ∧ Below w.heap.size w W ∧ W0.heap.size ≤ W.heap.size
/-- a round has found a number that is not the list's -/
def BX (b : List UInt8) (l : List Nat) (c : Code) (pre : List NP) (W : World) : Prop := ∃ q x, pre = q ++ [x] ∧ ¬ (l[q.length]? = some x.1.2 ∧ x.1.1 = ats q)

theorem BI.own (w W0 : World) (g3 g6 gf gk Bx : Nat) (a : Option Addr) (n c : Nat) (a2 : Option Addr) (n2 c2 : Nat) (l : List Nat) (hw : w.heap.size ≤ W0.heap.size) : OwnFrom W0.heap.size (BI w W0 g3 g6 gf gk Bx a n c a2 n2 c2 l) := by
  rintro pre X Y row ⟨e1, e2, h1, h2, h3, h4, h5, h6, h7⟩ hg hr
  have hr' : ∀ r, row = some r → ∃ o : Obj, X.heap[r]? = some o ∧ o.isCells = false := fun r e => (hr r e).2
  exact ⟨e1, e2, boxed_turn h1 hg hr', boxed_turn h2 hg hr', boxed_turn h3 hg hr', boxed_turn h4 hg hr', boxed_turn h5 hg hr', h6.grown hg h6.size (fun k e => Nat.le_trans hw (hr k e).1), Nat.le_trans h7 hg.size⟩
/-- what comes is what the list has -/
theorem came {sb : List UInt8} {l : List Nat} (hl : (nums sb).map (·.2) = l) {q : List NP} {x : NP} (h : (q ++ [x]).map Subtype.val <+: nums sb) : l[q.length]? = some x.1.2 ∧ x.1.1 = ats q := by
  rw [List.map_append] at h
  refine ⟨?_, nums_place h⟩
  obtain ⟨r, hr⟩ := h
  rw [← hl, ← hr]
  simp

theorem boxed_putD {W : World} {B D : Nat} {t : TypeId} {v : Value} (h : Boxed W B t v) (hne : B ≠ D) (o : Obj) : (W.putObj D o).cell? ⟨B, 0, none⟩ = some v :=
  (h.kept (grownBy_putObj' W D o) (by simpa using hne)).cell

set_option maxRecDepth 100000 in
set_option maxHeartbeats 4000000 in
theorem vintBack_walk (a : Option Addr) (n c : Nat) (l : List Nat) (a1 : Option Addr) (n1 c1 : Nat) (b : List UInt8) (z : Int) (w : World) (hn : n ≤ 17592186043904) (hl : ∀ m, m ∈ l → m < 18446744073709551616) (h : Sl Nf w a n c l) (hb : n1 ≤ 140737488351232) (h1 : Sl Bf w a1 n1 c1 b) :
    Calls Try.prog 10 #[.slice a n c, .slice a1 n1 c1, .int .i64 z] w fun e w' => e = .returned (.bool true) ∧ Below w.heap.size w w' := by
  obtain rfl : n = l.length := h.len.symm
  obtain rfl : n1 = b.length := h1.len.symm
  have H := Lib.hid h; clear h
  have S := Lib.hid h1; clear h1
  have hvl := vbs_ten l hl
  have hnv := nums_vbs l hl
  have HL := Lib.hid hl; clear hl
  obtain ⟨sb, hsb⟩ : ∃ sb, vbs l = sb := ⟨_, rfl⟩
  have hnv1 : (nums sb).map (·.2) = l := by rw [← hsb]; exact hnv.1
  have hnv2 : aft (nums sb) = sb.length := by rw [← hsb]; exact hnv.2
  rw [hsb] at hvl
  have hlst : lst sb = (l, 0, 0) := by unfold lst; rw [if_pos hnv2, hnv1]
  have hnl : (nums sb).length = l.length := by rw [← hnv1]; simp
  have NV1 := Lib.hid hnv1; have NV2 := Lib.hid hnv2; have LST := Lib.hid hlst; have NL := Lib.hid hnl; have SB := Lib.hid hsb
  clear hnv hnv1 hnv2 hlst hnl hsb
  refine (callsIn_wide (n := 4)).1 ?_
  refine callsIn_of_wp_marks Try.func10 rfl trivial ?_ rfl
  simp only [Try.ntmps10, List.size_toArray, List.length_cons, List.length_nil, Nat.reduceAdd, Nat.reduceSub, Array.replicate_succ, Array.replicate_zero, List.push_toArray, List.append_toArray, List.nil_append, List.cons_append]
  gi_wp2
  refine ⟨trivial, ?_⟩
  have b3 := (Boxed.new w 48 (.slice a l.length c)).alloc (.cells #[.bool false] 4)
  have b6 := Boxed.new (w.alloc (.cells #[.slice a l.length c] 48)) 4 (.bool false)
  rw [World.size_alloc] at b6
  have hB0 : Below w.heap.size w ((w.alloc (.cells #[.slice a l.length c] 48)).alloc (.cells #[.bool false] 4)) := ((Below.refl _ w).alloc (Nat.le_refl _) _).alloc (by simp) _
  obtain ⟨g3, hg3⟩ : ∃ B, w.heap.size = B := ⟨_, rfl⟩
  obtain ⟨g6, hg6⟩ : ∃ B, w.heap.size + 1 = B := ⟨_, rfl⟩
  have q1 : w.heap.size ≤ g3 := by omega
  have q2 : g3 < g6 := by omega
  rw [hg6] at b6 ⊢
  rw [hg3] at b3 ⊢
  generalize (w.alloc (.cells #[.slice a l.length c] 48)).alloc (.cells #[.bool false] 4) = w1 at *
  clear hg3 hg6
  refine (callsIn_wide.2 (lives_any _)).mono ?_
  rintro e w2 ⟨rfl, hb2⟩
  have X3 : Hid (Boxed w2 g3 48 (.slice a l.length c)) := Lib.hid ((hb2.block g3 b3.lt).trans b3)
  have X6 : Hid (Boxed w2 g6 4 (.bool false)) := Lib.hid ((hb2.block g6 b6.lt).trans b6)
  have G := Lib.hid (keep_trans hB0 hb2)
  clear hb2 hB0 b3 b6
  have c3 := X3.out.cell
  gi_wp2
  refine ⟨trivial, ?_⟩
  refine (callsIn_wide.2 (join_any _ _ _ l _ (by omega) HL.out (by rw [SB.out]; omega) (H.out.keep G.out))).mono ?_
  rintro e w3 ⟨v, rfl, ho, hb3⟩
  rw [SB.out] at ho
  obtain ⟨a2, n2, c2, rfl, z2⟩ := ho.slN
  obtain rfl : sb.length = n2 := z2.len
  have O2 := Lib.hid ho
  replace X3 : Hid (Boxed w3 g3 48 (.slice a l.length c)) := Lib.hid ((hb3.block g3 X3.out.lt).trans X3.out)
  replace X6 : Hid (Boxed w3 g6 4 (.bool false)) := Lib.hid ((hb3.block g6 X6.out.lt).trans X6.out)
  replace G := Lib.hid (keep_trans G.out hb3)
  clear hb3 ho z2 c3
  gi_wp2
  refine ⟨trivial, ?_⟩
  have hls := vlist_any a2 c2 sb w3 (by omega) (by rw [NL.out]; omega) O2.out.slI
  rw [LST.out] at hls
  dsimp only at hls
  refine (callsIn_wide.2 hls).mono ?_
  rintro e w4 ⟨v, rfl, ho, hb4⟩
  obtain ⟨a4, n4, c4, rfl, z4⟩ := ho.slM
  obtain rfl : l.length = n4 := z4.len
  have O4 := Lib.hid ho
  replace O2 := Lib.hid (O2.out.keep hb4)
  replace X3 : Hid (Boxed w4 g3 48 (.slice a l.length c)) := Lib.hid ((hb4.block g3 X3.out.lt).trans X3.out)
  replace X6 : Hid (Boxed w4 g6 4 (.bool false)) := Lib.hid ((hb4.block g6 X6.out.lt).trans X6.out)
  replace G := Lib.hid (keep_trans G.out hb4)
  have Z4 := Lib.hid z4
  clear hb4 ho z4 hls
  have c3 := X3.out.cell
  gi_wp2
  refine ⟨trivial, ?_⟩
  refine (callsIn_wide.2 (sameNum_any _ _ _ l _ _ _ (by omega) Z4.out (H.out.keep G.out))).mono ?_
  rintro e w5 ⟨rfl, hb5⟩
  replace O2 := Lib.hid (O2.out.keep hb5)
  replace X3 : Hid (Boxed w5 g3 48 (.slice a l.length c)) := Lib.hid ((hb5.block g3 X3.out.lt).trans X3.out)
  replace X6 : Hid (Boxed w5 g6 4 (.bool false)) := Lib.hid ((hb5.block g6 X6.out.lt).trans X6.out)
  replace G := Lib.hid (keep_trans G.out hb5)
  clear hb5 c3 Z4 O4
  gi_wp2
  refine ⟨trivial, ?_⟩
  refine (callsIn_wide.2 (all_in _ _ _ _)).mono ?_
  rintro e w' ⟨rfl, rfl⟩
  gi_wp2
  have bF := ((Boxed.new w5 3 (.int .i64 0)).alloc (.cells #[.int .i64 0] 3)).alloc (.cells #[.slice a2 sb.length c2] 22)
  have bK := (Boxed.new (w5.alloc (.cells #[.int .i64 0] 3)) 3 (.int .i64 0)).alloc (.cells #[.slice a2 sb.length c2] 22)
  have bX := Boxed.new ((w5.alloc (.cells #[.int .i64 0] 3)).alloc (.cells #[.int .i64 0] 3)) 22 (.slice a2 sb.length c2)
  rw [World.size_alloc] at bK
  rw [World.size_alloc, World.size_alloc] at bX
  have hB5 : Below w5.heap.size w5 (((w5.alloc (.cells #[.int .i64 0] 3)).alloc (.cells #[.int .i64 0] 3)).alloc (.cells #[.slice a2 sb.length c2] 22)) := (((Below.refl _ w5).alloc (Nat.le_refl _) _).alloc (by simp) _).alloc (by simp; omega) _
  have lx3 := X3.out.lt
  have lx6 := X6.out.lt
  have lw5 := G.out.size
  replace X3 : Hid (Boxed _ g3 48 (.slice a l.length c)) := Lib.hid ((hB5.block g3 X3.out.lt).trans X3.out)
  replace X6 : Hid (Boxed _ g6 4 (.bool false)) := Lib.hid ((hB5.block g6 X6.out.lt).trans X6.out)
  have O20 := O2.out
  replace O2 := Lib.hid (O2.out.keep hB5)
  have G6 := Lib.hid (keep_trans G.out hB5)
  obtain ⟨gf, hgf⟩ : ∃ B, w5.heap.size = B := ⟨_, rfl⟩
  obtain ⟨gk, hgk⟩ : ∃ B, w5.heap.size + 1 = B := ⟨_, rfl⟩
  obtain ⟨Bx, hBx⟩ : ∃ B, w5.heap.size + 1 + 1 = B := ⟨_, rfl⟩
  have q3 : g3 < gf := by omega
  have q4 : g6 < gf := by omega
  have q5 : gf < gk := by omega
  have q6 : gk < Bx := by omega
  rw [hBx, hgk]
  rw [hBx] at bX; rw [hgk] at bK
  rw [hgf] at bF ⊢
  have OL := Lib.hid (show ∀ j, Value.ownBlock (.slice a2 sb.length c2) = some j → j < gf from fun j hj => by have := (O20.lt j hj).2; omega)
  clear O20
  generalize ((w5.alloc (.cells #[.int .i64 0] 3)).alloc (.cells #[.int .i64 0] 3)).alloc (.cells #[.slice a2 sb.length c2] 22) = W0 at *
  clear hgf hgk hBx hB5 G
  have lB := bX.lt
  have lW := G6.out.size
  apply wpIn_rangeFunc_ownG (F := Fence.wide) (n := 4) rfl (by omega) (gf := 34) (lb := #[.pointer (some ⟨Bx, 0, none⟩)]) rfl trivial (enters_of Try.func34 (by kernel_rfl) rfl)
    (all_stops Bx gf a2 c2 sb (by omega) W0 bX O2.out.slI (fun b' o ha h0 => OL.out b' (by subst ha; rfl)) (by omega)) Kb.t (Kb.b (by omega) lB) (Below.refl _ _) (fun _ => rfl)
    (BI w W0 g3 g6 gf gk Bx a l.length c a2 sb.length c2 l) (BX sb l)
  case hassign =>
    intro l x W K hK
    gi_wp2
    exact hK
  case hI => exact BI.own _ _ _ _ _ _ _ _ _ _ _ _ _ _ lW
  case hIx => exact fun _ _ _ _ _ hs _ _ => hs
  case h0 => exact ⟨rfl, Nat.zero_le _, X3.out, X6.out, bF, bK, bX, G6.out, Nat.le_refl _⟩
  case hstop =>
    rintro D c pre W _ hSp ⟨q, x, rfl, hne⟩ _
    exact absurd (came NV1.out hSp) hne
  case hbody =>
    rintro lo pre x W ⟨e1, e2, h3, h6, hf, hk, hx, hB, hS⟩ hlt
    have E1 := Lib.hid e1; clear e1
    obtain ⟨fr, hfr⟩ : ∃ fr, ats pre = fr := ⟨_, rfl⟩
    obtain ⟨k, hkk⟩ : ∃ k, pre.length = k := ⟨_, rfl⟩
    rw [hfr] at hf
    rw [hkk] at hk e2
    have c3 := h3.cell
    have cf := hf.cell
    have ck := hk.cell
    have c6 := h6.cell
    have f6 := h6.frozen
    have ff := hf.frozen
    have fk := hk.frozen
    have x3 := Lib.hid h3; have x6 := Lib.hid h6; have xf := Lib.hid hf; have xk := Lib.hid hk; have xx := Lib.hid hx; have B := Lib.hid hB
    clear h3 h6 hf hk hx hB
    have qx := x.2.1
    have qy := x.2.2
    have FR := Lib.hid hfr; clear hfr
    have hk64 : k ≤ 17592186043904 := by omega
    have KK := Lib.hid hkk; clear hkk hlt
    have noway : ∀ W', W' = W.setCell ⟨g6, 0, none⟩ (.bool false) → ¬ (l[k]? = some x.1.2 ∧ x.1.1 = fr) → KeepsFrom W0.heap.size W W' ∧ BX sb l .ret (pre ++ [x]) W' := by
      rintro W' rfl hne
      exact ⟨(KeepsOthers.setCell _ _ _).from _, pre, x, rfl, by rw [KK.out, FR.out]; exact hne⟩
    have NW := Lib.hid noway; clear noway
    by_cases hlk : k < l.length
    · obtain ⟨y, hy⟩ : ∃ y, l[k]? = some y := ⟨_, List.getElem?_eq_getElem hlk⟩
      obtain ⟨y', ab, ao, hy', rfl, hcy⟩ := (H.out.keep B.out).at k hlk
      obtain rfl : y = y' := by rw [hy] at hy'; exact Option.some.inj hy'
      have hcy : W.cell? ⟨ab, ao + k, none⟩ = some (.int .u64 y) := hcy
      have HY := Lib.hid hy; clear hy hy'
      have hge : ¬ ((k : Int) ≥ (l.length : Int)) := by omega
      have hge2 : decide (l.length ≤ k) = false := decide_eq_false (by omega)
      by_cases hp : x.1.1 = fr
      · have p1 : ((x.1.1 : Int) != (fr : Int)) = false := by rw [hp]; simp
        have p2 : (x.1.1 != fr) = false := by rw [hp]; simp
        by_cases hv : x.1.2 = y
        · have v1 : ((x.1.2 : Int) != (y : Int)) = false := by rw [hv]; simp
          have v2 : (x.1.2 != y) = false := by rw [hv]; simp
          have HP := Lib.hid hp; have HV := Lib.hid hv; clear hp hv
          gi_wp2
          refine ⟨trivial, ?_⟩
          refine (CallsIn.inRound lo (callsIn_wide.2 (size_any x.1.2 _ qy))).mono ?_
          rintro e w' ⟨rfl, rfl⟩
          obtain ⟨zz, hz⟩ : ∃ zz, fr + (vb x.1.2).length = zz := ⟨_, rfl⟩
          have hz2 : (fr : Int) + ((vb x.1.2).length : Int) = (zz : Int) := by omega
          have hten := vb_ten qy
          have hz3 : zz ≤ 1000000000000010 := by have := HP.out; omega
          have HZ := Lib.hid hz; clear hz
          have xk2 := Lib.hid (xk.out.other (by omega : gk ≠ gf) (.int .i64 (zz : Int)))
          have ck2 := xk2.out.cell
          have fk2 := xk2.out.frozen
          gi_wp2
          have k1 : KeepsFrom W0.heap.size W (((W.setCell ⟨gf, 0, none⟩ (.int .i64 (zz : Int))).setCell ⟨gk, 0, none⟩ (.int .i64 ((k : Int) + 1)))) := ((KeepsOthers.setCell _ _ _).from _).trans ((KeepsOthers.setCell _ _ _).from _)
          refine ⟨k1, ⟨((Below.refl gf W).setCell (p := ⟨gf, 0, none⟩) (Nat.le_refl _) _).setCell (p := ⟨gk, 0, none⟩) (by show gf ≤ gk; omega) _, fun o ho => ?_⟩, ?_, ?_, (x3.out.other (by omega) _).other (by omega) _, (x6.out.other (by omega) _).other (by omega) _, ?_, ?_, (xx.out.other (by omega) _).other (by omega) _, (B.out.setCell (p := ⟨gf, 0, none⟩) (by show w.heap.size ≤ gf; omega) _).setCell (p := ⟨gk, 0, none⟩) (by show w.heap.size ≤ gk; omega) _, by simpa using hS⟩
          · have h1 : W.heap[Bx]? = _ := xx.out
            have h2 := (xx.out.other (by omega : Bx ≠ gf) (.int .i64 (zz : Int))).other (by omega : Bx ≠ gk) (.int .i64 ((k : Int) + 1))
            rw [h1] at ho
            exact (show _ = _ from h2).trans ho
          · rw [nos_snoc, E1.out, List.length_append, KK.out, List.length_singleton, List.take_add_one, HY.out, HV.out]; rfl
          · rw [List.length_append, KK.out]; exact hlk
          · rw [ats_snoc, HP.out, HZ.out]
            exact (xf.out.set _).other (by omega) _
          · rw [List.length_append, KK.out]
            exact xk2.out.set (.int .i64 ((k : Int) + 1))
        · have v1 : ((x.1.2 : Int) != (y : Int)) = true := by rw [bne_iff_ne]; omega
          have v2 : (x.1.2 != y) = true := by rw [bne_iff_ne]; exact hv
          have nw := NW.out _ rfl (fun h => hv (by rw [HY.out] at h; exact (Option.some.inj h.1).symm))
          have NW2 := Lib.hid nw; clear nw hp hv
          gi_wp2
          exact NW2.out
      · have p1 : ((x.1.1 : Int) != (fr : Int)) = true := by rw [bne_iff_ne]; omega
        have p2 : (x.1.1 != fr) = true := by rw [bne_iff_ne]; exact hp
        have nw := NW.out _ rfl (fun h => hp h.2)
        have NW2 := Lib.hid nw; clear nw hp
        gi_wp2
        exact NW2.out
    · have hge : (k : Int) ≥ (l.length : Int) := by omega
      have hge2 : decide (l.length ≤ k) = true := decide_eq_true (by omega)
      have nw := NW.out _ rfl (fun h => by rw [List.getElem?_eq_none (by omega)] at h; cases h.1)
      have NW2 := Lib.hid nw; clear nw
      gi_wp2
      exact NW2.out
  case hdone =>
    rintro D ys W hD hys ⟨e1, e2, h3, h6, hf, hk, hx, hB, hS⟩ hK
    have hyl : ys.length = l.length := by rw [← NL.out, ← hys]; simp
    have hya : ats ys = sb.length := by unfold ats; rw [hys, NV2.out]
    rw [hyl] at hk
    rw [hya] at hf
    have c3 := h3.cell
    have cf := hf.cell
    have ck := hk.cell
    have x6 := Lib.hid h6
    have B := Lib.hid hB
    have K := Lib.hid hK
    have lD := (Array.getElem?_eq_some_iff.1 hK).1
    have q7 : gf < D := by omega
    clear hyl hya hys e1 e2 h3 h6 hf hk hx hB hK
    have t1 : ((l.length : Int) != (l.length : Int)) = false := by simp
    have t2 : ((sb.length : Int) != (sb.length : Int)) = false := by simp
    have f6 := x6.out.frozen
    have c6 := x6.out.cell
    have fin : ∀ W' : World, Boxed W' g6 4 (.bool false) → Below w.heap.size w W' → W'.heap[D]? = some (.deferred (some [])) →
        Boxed (W'.setCell ⟨g6, 0, none⟩ (.bool true)) g6 4 (.bool true) ∧ Below w.heap.size w (W'.setCell ⟨g6, 0, none⟩ (.bool true)) ∧ (W'.setCell ⟨g6, 0, none⟩ (.bool true)).heap[D]? = some (.deferred (some [])) :=
      fun W' h1 h2 h3 => ⟨h1.set _, h2.setCell (p := ⟨g6, 0, none⟩) (by show w.heap.size ≤ g6; omega) _, (Below.heap_setCell _ _ _ _ (by show D ≠ g6; omega)).trans h3⟩
    have FIN := Lib.hid fin; clear fin
    by_cases hz : 0 ≤ z ∧ z ≤ b.length
    · obtain ⟨m, rfl⟩ : ∃ m : Nat, z = m := ⟨z.toNat, by omega⟩
      have hm : m ≤ b.length := by omega
      have hv := vread_any _ _ _ b m W (by omega) hm (S.out.keep B.out)
      obtain ⟨⟨v, j, e⟩, hr⟩ : ∃ R, rd (b.drop m) 0 0 = R := ⟨_, rfl⟩
      rw [hr] at hv
      dsimp only at hv
      have HV := Lib.hid hv; clear hv hz
      by_cases he : e = 0
      · subst he
        obtain ⟨k1, k2, k3⟩ := rd_vbs hr
        have kv := (rd_in hr).2
        have kp := vb_pos v
        rw [List.length_drop] at k1
        obtain ⟨q, hq⟩ : ∃ q, m + j = q := ⟨_, rfl⟩
        rw [hq] at HV
        have f1 : ((0 : Int) != 0) = false := rfl
        have r1 : ¬ ((m : Int) < 0) := by omega
        have r2 : decide (q ≤ m) = false := decide_eq_false (by omega)
        have r3 : decide (b.length < q) = false := decide_eq_false (by omega)
        have hsl := (S.out).le
        have cut := fun W : World => run_cut eltB W a1 b.length c1 .i64 .i64 m q (by omega) (by omega)
        have hcutrow : (b.take q).drop m = vb v := by rw [List.drop_take, show q - m = j by omega]; exact k2
        have hlv : (vb v).length = q - m := by omega
        have CR := Lib.hid hcutrow; have LV := Lib.hid hlv; have KV := Lib.hid kv
        have hq2 : q ≤ b.length := by omega
        have hq3 : m ≤ q := by omega
        clear hr k1 k2 k3 kv kp hcutrow hlv hq
        gi_wp2
        refine ⟨trivial, ?_⟩
        refine (callsIn_wide.2 HV.out).mono ?_
        rintro e2 W2 ⟨rfl, hb2⟩
        have y6 := Lib.hid (show Boxed W2 g6 4 (.bool false) from (hb2.block g6 x6.out.lt).trans x6.out)
        have kD := Lib.hid ((hb2.block D lD).trans K.out)
        have yB := Lib.hid (keep_trans B.out hb2)
        clear hb2 c3 cf ck c6 f6
        gi_wp2
        refine ⟨trivial, ?_⟩
        refine (callsIn_wide.2 (vbytes_any v W2 KV.out)).mono ?_
        rintro e3 W3 ⟨u, rfl, ho, hb3⟩
        obtain ⟨a5, n5, c5, rfl, z5⟩ := ho.slN
        obtain rfl : (vb v).length = n5 := z5.len
        have Z5 := Lib.hid z5
        replace y6 := Lib.hid (show Boxed W3 g6 4 (.bool false) from (hb3.block g6 y6.out.lt).trans y6.out)
        replace kD := Lib.hid ((hb3.block D (Array.getElem?_eq_some_iff.1 kD.out).1).trans kD.out)
        replace yB := Lib.hid (keep_trans yB.out hb3)
        have S3 := Lib.hid ((S.out.keep yB.out).cut m q hq3 hq2)
        clear ho hb3 z5
        gi_wp2
        refine ⟨trivial, ?_⟩
        refine (callsIn_wide.2 (same_any _ _ _ (vb v) _ _ _ ((b.take q).drop m) _ (by rw [LV.out]; omega) (by omega) Z5.out S3.out)).mono ?_
        rintro e4 W4 ⟨rfl, hb4⟩
        rw [CR.out, decide_eq_true (rfl : vb v = vb v)]
        replace y6 := Lib.hid (show Boxed W4 g6 4 (.bool false) from (hb4.block g6 y6.out.lt).trans y6.out)
        replace kD := Lib.hid ((hb4.block D (Array.getElem?_eq_some_iff.1 kD.out).1).trans kD.out)
        replace yB := Lib.hid (keep_trans yB.out hb4)
        have d6 := y6.out.cell
        have e6 := y6.out.frozen
        obtain ⟨z1, z2, z3⟩ := FIN.out W4 y6.out yB.out kD.out
        have Z1 := Lib.hid z1; have Z2 := Lib.hid z2; have Z3 := Lib.hid z3
        clear hb4 z1 z2 z3 y6 kD yB
        have zc := fun o => boxed_putD Z1.out (by omega : g6 ≠ D) o
        gi_wp2
        refine ⟨by simp, .inl ⟨_, _, rfl, run_takeDeferred Z3.out, ?_⟩⟩
        exact ⟨.bool true, by simp [results, Try.results10, zc, go_sem], rfl, Z2.out.trans (belowK_b (w := w) (Nat.le_refl _) _ D _ _ (by omega) Z3.out rfl rfl)⟩
      · have f1 : (e != 0) = true := by rw [bne_iff_ne]; exact he
        clear hr he
        gi_wp2
        refine ⟨trivial, ?_⟩
        refine (callsIn_wide.2 HV.out).mono ?_
        rintro e2 W2 ⟨rfl, hb2⟩
        have y6 : Boxed W2 g6 4 (.bool false) := (hb2.block g6 x6.out.lt).trans x6.out
        have kD := (hb2.block D lD).trans K.out
        have d6 := y6.cell
        have e6 := y6.frozen
        obtain ⟨z1, z2, z3⟩ := FIN.out W2 y6 (keep_trans B.out hb2) kD
        have Z1 := Lib.hid z1; have Z2 := Lib.hid z2; have Z3 := Lib.hid z3
        clear hb2 y6 kD z1 z2 z3 c3 cf ck c6 f6
        have zc := fun o => boxed_putD Z1.out (by omega : g6 ≠ D) o
        gi_wp2
        refine ⟨by simp, .inl ⟨_, _, rfl, run_takeDeferred Z3.out, ?_⟩⟩
        exact ⟨.bool true, by simp [results, Try.results10, zc, go_sem], rfl, Z2.out.trans (belowK_b (w := w) (Nat.le_refl _) _ D _ _ (by omega) Z3.out rfl rfl)⟩
    · have hv := vread_bad a1 b.length c1 z W (by omega) (by omega)
      have HV := Lib.hid hv; clear hv hz
      have f1 : ((1 : Int) != 0) = true := rfl
      have y6 := x6
      have kD := K
      have d6 := y6.out.cell
      have e6 := y6.out.frozen
      obtain ⟨z1, z2, z3⟩ := FIN.out W y6.out B.out kD.out
      have Z1 := Lib.hid z1; have Z2 := Lib.hid z2; have Z3 := Lib.hid z3
      clear y6 kD z1 z2 z3
      gi_wp2
      refine ⟨trivial, ?_⟩
      refine (callsIn_wide.2 HV.out).mono ?_
      rintro e2 W2 ⟨rfl, rfl⟩
      have zc := fun o => boxed_putD Z1.out (by omega : g6 ≠ D) o
      gi_wp2
      refine ⟨by simp, .inl ⟨_, _, rfl, run_takeDeferred Z3.out, ?_⟩⟩
      exact ⟨.bool true, by simp [results, Try.results10, zc, go_sem], rfl, Z2.out.trans (belowK_b (w := w) (Nat.le_refl _) _ D _ _ (by omega) Z3.out rfl rfl)⟩
end Go.Proofs.Ythiebpiohkfjgaa
