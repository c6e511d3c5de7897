/- vint.List: contract. Condition: the numbers within reach. -/
import Derived.Test.YthiebpiohkfjgaaVintAll
namespace Go.Proofs.Ythiebpiohkfjgaa
open Go.RowKit Go.Shelf
attribute [local go_sem] Oper.semAt_some

/-- the numbers of what has come -/
def nos (l : List NP) : List Nat := l.map (fun x => x.1.2)
theorem nos_snoc (l : List NP) (x : NP) : nos (l ++ [x]) = nos l ++ [x.1.2] := by simp [nos]
theorem nos_val {l : List NP} {m : List (Nat × Nat)} (h : l.map Subtype.val = m) : nos l = m.map (·.2) := by
  rw [← h, List.map_map]; rfl
/-- where what has come ends -/
def ats (l : List NP) : Nat := aft (l.map Subtype.val)
theorem ats_snoc (l : List NP) (x : NP) : ats (l ++ [x]) = x.1.1 + (vb x.1.2).length := by
  unfold ats; rw [List.map_append]; exact aft_snoc _ _
theorem ownT_own {β : Type} (base : Nat) (e : TypeId) (f : β → List Nat) : Own (fun s W => ∃ v, OwT fN W base e v (f s)) := fun s X Y row ⟨v, hs⟩ hg hr => by
  refine ⟨v, hs.of_block fun j hj => ?_⟩
  rcases hs with ⟨rfl, _⟩ | ⟨g, cap, ys, rfl, _, hh, _⟩
  · cases hj
  · cases hj
    exact hg.block _ (Array.getElem?_eq_some_iff.1 hh).1 (fun e => by obtain ⟨o, ho, hc⟩ := hr _ e.symm; rw [hh] at ho; cases ho; cases hc)

/-- what stands between two rounds: the list's box and its row, the place's box, the bytes' box -/
def LI (w W0 : World) (Bl Be Bx : Nat) (a : Option Addr) (n c : Nat) (pre : List NP) (W : World) : Prop :=
  (∃ v, Boxed W Bl 48 v ∧ OwT fN W W0.heap.size 26 v (nos pre)) ∧ Boxed W Be 3 (.int .i64 (ats pre : Nat)) ∧ Boxed W Bx 22 (.slice a n c) ∧ Below w.heap.size w W ∧ W0.heap.size ≤ W.heap.size
theorem boxed_turn {X Y : World} {row : Option Nat} {B : Nat} {t : TypeId} {v : Value} (h : Boxed X B t v) (hg : X.grownBy Y row) (hr : ∀ r, row = some r → ∃ o : Obj, X.heap[r]? = some o ∧ o.isCells = false) : Boxed Y B t v :=
  h.kept hg (fun e => by obtain ⟨o, ho, hc⟩ := hr _ e.symm; rw [show X.heap[B]? = _ from h] at ho; cases ho; cases hc)
theorem LI.own (w W0 : World) (Bl Be Bx : Nat) (a : Option Addr) (n c : Nat) (hw : w.heap.size ≤ W0.heap.size) : OwnFrom W0.heap.size (LI w W0 Bl Be Bx a n c) := by
  rintro pre X Y row ⟨⟨v, h1, h2⟩, h3, h4, h5, h6⟩ hg hr
  have hr' : ∀ r, row = some r → ∃ o : Obj, X.heap[r]? = some o ∧ o.isCells = false := fun r e => (hr r e).2
  refine ⟨⟨v, boxed_turn h1 hg hr', h2.of_block fun j hj => ?_⟩, boxed_turn h3 hg hr', boxed_turn h4 hg hr', h5.grown hg h5.size (fun k e => Nat.le_trans hw (hr k e).1), Nat.le_trans h6 hg.size⟩
  rcases h2 with ⟨rfl, _⟩ | ⟨g, cap, ys, rfl, _, hh, _⟩
  · cases hj
  · cases hj
    exact hg.block _ (Array.getElem?_eq_some_iff.1 hh).1 (fun e => by obtain ⟨o, ho, hc⟩ := hr' _ e.symm; rw [hh] at ho; cases ho; cases hc)
theorem OwT.offN {w : World} {base g : Nat} {e : TypeId} {x : Value} {xs : List Nat} (h : OwT fN w base e x xs) (hg : g < base) (i : Nat) (v : Value) : OwT fN (w.setCell ⟨g, i, none⟩ v) base e x xs :=
  h.of_block fun j hj => Below.heap_setCell _ _ _ _ (by have := (h.lt j hj).1; intro e; have e : j = g := e; omega)

theorem OwT.putD {α : Type} {f : α → List Value} {W : World} {base D : Nat} {e : TypeId} {v : Value} {xs : List α} (h : OwT f W base e v xs) (hK : W.heap[D]? = some (.deferred (some []))) (o : Obj) : OwT f (W.putObj D o) base e v xs :=
  h.of_block fun j hj => (grownBy_putObj' W D o).block j (h.lt j hj).2 (fun e2 => by
    injection e2 with e2; subst e2
    rcases h with ⟨rfl, _⟩ | ⟨g, cap, ys, rfl, _, hh, _⟩
    · cases hj
    · cases hj; rw [hh] at hK; cases hK)

set_option maxRecDepth 100000 in
set_option maxHeartbeats 2000000 in
theorem vlist_any (a : Option Addr) (c : Nat) (b : List UInt8) (w : World) (hn : b.length ≤ 1000000000000000) (hm : (nums b).length ≤ 20000000000000) (h : Sl Bf w a b.length c b) :
    Calls Try.prog 29 #[.slice a b.length c] w fun e w' => ∃ v, e = .returned (.tuple #[v, .int .i64 (lst b).2.1, .int .i64 ((lst b).2.2 : Nat)]) ∧ OwT fN w' w.heap.size 26 v (lst b).1 ∧ Below w.heap.size w w' := by
  have H := Lib.hid h; clear h
  refine (callsIn_wide (n := 4)).1 ?_
  refine callsIn_of_wp_marks Try.func29 rfl trivial ?_ rfl
  simp only [Try.ntmps29, List.size_toArray, List.length_cons, List.length_nil, Nat.reduceAdd, Nat.reduceSub, Array.replicate_succ, Array.replicate_zero, List.push_toArray, List.append_toArray, List.nil_append, List.cons_append]
  gi_wp2
  refine ⟨trivial, ?_⟩
  refine (callsIn_wide.2 (all_in _ _ _ _)).mono ?_
  rintro e w' ⟨rfl, rfl⟩
  gi_wp2
  have bL := ((Boxed.new w 48 (.slice none 0 0)).alloc (.cells #[.int .i64 0] 3)).alloc (.cells #[.slice a b.length c] 22)
  have bE := (Boxed.new (w.alloc (.cells #[.slice none 0 0] 48)) 3 (.int .i64 0)).alloc (.cells #[.slice a b.length c] 22)
  have bX := Boxed.new ((w.alloc (.cells #[.slice none 0 0] 48)).alloc (.cells #[.int .i64 0] 3)) 22 (.slice a b.length c)
  rw [World.size_alloc] at bE
  rw [World.size_alloc, World.size_alloc] at bX
  have hB0 : Below w.heap.size w (((w.alloc (.cells #[.slice none 0 0] 48)).alloc (.cells #[.int .i64 0] 3)).alloc (.cells #[.slice a b.length c] 22)) := (((Below.refl _ w).alloc (Nat.le_refl _) _).alloc (by simp) _).alloc (by simp; omega) _
  obtain ⟨Bl, hBl⟩ : ∃ B, w.heap.size = B := ⟨_, rfl⟩
  obtain ⟨Be, hBe⟩ : ∃ B, w.heap.size + 1 = B := ⟨_, rfl⟩
  obtain ⟨Bx, hBx⟩ : ∃ B, w.heap.size + 1 + 1 = B := ⟨_, rfl⟩
  have q1 : w.heap.size ≤ Bl := by omega
  have q2 : Bl < Be := by omega
  have q3 : Be < Bx := by omega
  rw [hBx, hBe]
  rw [hBx] at bX; rw [hBe] at bE
  rw [hBl] at bL ⊢
  generalize ((w.alloc (.cells #[.slice none 0 0] 48)).alloc (.cells #[.int .i64 0] 3)).alloc (.cells #[.slice a b.length c] 22) = W0 at *
  clear hBl hBe hBx
  have q4 := bX.lt
  have q5 := hB0.size
  refine wpIn_rangeFunc_ownG rfl (by omega) (gf := 34) (lb := #[.pointer (some ⟨Bx, 0, none⟩)]) rfl trivial (enters_of Try.func34 (by kernel_rfl) rfl)
    (all_stops Bx w.heap.size a c b hn W0 bX (H.out.keep hB0) (fun b' o ha h0 => by subst ha; exact H.out.blt h0) q5) Kb.t (Kb.b q5 q4) (Below.refl _ _) (fun _ => rfl)
    (LI w W0 Bl Be Bx a b.length c) (fun _ _ _ => False) (LI.own w W0 Bl Be Bx a b.length c q5) (fun _ _ _ _ _ hs _ _ => hs)
    ⟨⟨_, bL, OwT.nil _ _ _ _⟩, bE, bX, hB0, Nat.le_refl _⟩
    (fun x => { tmps := #[.slice a b.length c, undef, .slice none 0 0, .int .i64 0, .int .i64 0, .pointer (some ⟨Bl, 0, none⟩), .pointer (some ⟨Be, 0, none⟩), .int .i64 (x.1.1 : Nat), .int .u64 (x.1.2 : Nat), undef, undef, undef, .slice a b.length c, .func (.func 34) #[] #[.pointer (some ⟨Bx, 0, none⟩)], .int .i64 (x.1.1 : Nat), .int .u64 (x.1.2 : Nat), undef, undef, undef, undef, undef, undef, undef, undef, undef, undef, undef, undef, undef, undef, undef, undef, undef, undef, undef, undef, undef, undef], defers := [] }) ?assign ?body ?done ?stop
  case assign =>
    intro l x W K hK
    gi_wp2
    exact hK
  case body =>
    rintro l pre x W ⟨⟨v, hv, hrow⟩, hE, hX, hB, hS⟩ hlt
    have hc := hv.cell
    have hpl : (nos pre).length = pre.length := by unfold nos; simp
    have NP := Lib.hid hpl; clear hpl
    have VB := Lib.hid hv; have EB := Lib.hid hE; have XB := Lib.hid hX; have B := Lib.hid hB; have R := Lib.hid hrow
    have lx := hX.lt
    clear hv hE hX hB hrow
    have qx := x.2.1
    have qy := x.2.2
    gi_wp2_with (gi_at_builtin; refine wpListIn_appG eltTN rfl (.tmp 16) (.tmp 18) rfl W0.heap.size v (nos pre) rfl (R.out.alloc _) _ 1 1 [x.1.2] rfl (Sl.lit _ _ _ _ _ rfl rfl).toT (by rw [NP.out]; unfold maxLen; omega) (by rw [NP.out]; exact .wide (by omega)) (Nat.le_trans hS (by simp)) (nos (pre ++ [x])) (nos_snoc pre x).symm ?_; intro v' w1 h1 hg1 hv1 hb1; obtain ⟨a1, n1, c1, rfl, z1⟩ := h1.slM; have O1 := Lib.hid h1; have HG1 := Lib.hid hg1; have hV1 : Boxed w1 Bl 48 v := (hb1.block Bl (by omega)).trans (VB.out.alloc _); have hE1 : Boxed w1 Be 3 (.int .i64 (ats pre : Nat)) := (hb1.block Be (by omega)).trans (EB.out.alloc _); have hX1 : Boxed w1 Bx 22 (.slice a b.length c) := (hb1.block Bx (by omega)).trans (XB.out.alloc _); have hc1 := hV1.cell; have hf1 := hV1.frozen; have V1 := Lib.hid hV1; have E1 := Lib.hid hE1; have X1 := Lib.hid hX1; have HB1 := Lib.hid hb1; clear h1 hg1 hv1 z1 hV1 hE1 hX1 hb1)
    have s1 : W0.heap.size ≤ w1.heap.size := Nat.le_trans hS (Nat.le_trans (by simp) HG1.out.size)
    have V2 := Lib.hid (V1.out.set (.slice a1 n1 c1))
    have E2 := Lib.hid (E1.out.other (by omega : Be ≠ Bl) (.slice a1 n1 c1))
    have X2 := Lib.hid (X1.out.other (by omega : Bx ≠ Bl) (.slice a1 n1 c1))
    have O2 := Lib.hid (O1.out.offN (show Bl < W0.heap.size by omega) 0 (.slice a1 n1 c1))
    have K2 : Hid (KeepsFrom W0.heap.size W (w1.setCell ⟨Bl, 0, none⟩ (.slice a1 n1 c1))) := Lib.hid ((((KeepsOthers.alloc W _).from _).trans (keepsFrom_own (R.out.alloc _) HG1.out)).trans ((KeepsOthers.setCell _ _ _).from _))
    have B2 := Lib.hid ((((Below.refl w.heap.size W).alloc (Nat.le_trans q5 hS) _).trans (HB1.out.mono q5)).setCell (p := ⟨Bl, 0, none⟩) q1 (.slice a1 n1 c1))
    have s2 : W0.heap.size ≤ (w1.setCell ⟨Bl, 0, none⟩ (.slice a1 n1 c1)).heap.size := by simpa using s1
    clear hc1 hf1 V1 E1 X1 O1 HB1
    generalize w1.setCell ⟨Bl, 0, none⟩ (.slice a1 n1 c1) = w2 at *
    refine ⟨trivial, ?_⟩
    refine (CallsIn.inRound l (callsIn_wide.2 (size_any x.1.2 _ qy))).mono ?_
    rintro e w' ⟨rfl, rfl⟩
    have hc2 := E2.out.cell
    have hf2 := E2.out.frozen
    obtain ⟨z, hz⟩ : ∃ z, x.1.1 + (vb x.1.2).length = z := ⟨_, rfl⟩
    have hz2 : (x.1.1 : Int) + ((vb x.1.2).length : Int) = (z : Int) := by omega
    have hten := vb_ten qy
    have hz3 : z ≤ 1000000000000010 := by omega
    have HZ := Lib.hid hz; clear hz
    gi_wp2
    refine ⟨K2.out.trans ((KeepsOthers.setCell _ _ _).from _), ⟨B2.out.setCell (p := ⟨Be, 0, none⟩) (by show w.heap.size ≤ Be; omega) _, fun o ho => ?_⟩, ⟨_, V2.out.other (by omega) _, O2.out.offN (by omega) _ _⟩, ?_, X2.out.other (by omega) _, (B.out.trans B2.out).setCell (p := ⟨Be, 0, none⟩) (by show w.heap.size ≤ Be; omega) _, by simpa using s2⟩
    · have e1 : W.heap[Bx]? = _ := XB.out
      have e2 := X2.out.other (by omega : Bx ≠ Be) (.int .i64 (z : Int))
      rw [e1] at ho
      exact (show _ = _ from e2).trans ho
    · rw [ats_snoc, HZ.out]
      exact E2.out.set _
  case done =>
    rintro D ys W hD hys ⟨⟨v, hv, hrow⟩, hE, hX, hB, hS⟩ hK
    have hc := hv.cell
    have he := hE.cell
    have ea : ats ys = aft (nums b) := by unfold ats; rw [hys]
    have en : nos ys = (nums b).map (·.2) := nos_val hys
    rw [ea] at he
    rw [en] at hrow
    have lD := (Array.getElem?_eq_some_iff.1 hK).1
    obtain ⟨f, hL, hend⟩ := nums_left b
    have hle := hL.le
    obtain ⟨z, hz⟩ : ∃ z, aft (nums b) = z := ⟨_, rfl⟩
    rw [hz] at he hle hend
    have R := Lib.hid hrow; have B := Lib.hid hB; have K := Lib.hid hK; have HZ := Lib.hid hz
    clear hv hE hX hB hrow hK ea en hys hL hz
    by_cases hzl : z = b.length
    · have hl : lst b = ((nums b).map (·.2), 0, 0) := by unfold lst; rw [if_pos (by rw [HZ.out]; exact hzl)]
      have f1 : ((z : Int) == (b.length : Int)) = true := by rw [beq_iff_eq]; omega
      have f2 : (z == b.length) = true := by rw [beq_iff_eq]; exact hzl
      have HL := Lib.hid hl; clear hl hzl hend
      gi_wp2
      refine ⟨by simp, .inl ⟨_, _, rfl, run_takeDeferred K.out, ?_⟩⟩
      exact ⟨.tuple #[v, .int .i64 0, .int .i64 0], by simp [results, Try.results29, go_sem], v, by rw [HL.out]; rfl, by rw [HL.out]; exact (R.out.putD K.out _).base q5, B.out.trans (belowK_b (w := w) (Nat.le_refl _) W D _ _ (by omega) K.out rfl rfl)⟩
    · obtain ⟨hz1, hz2⟩ : z < b.length ∧ (rd (b.drop z) 0 0).2.2 ≠ 0 := by
        rcases hend with h | h
        · exact absurd h hzl
        · exact h
      have f1 : ((z : Int) == (b.length : Int)) = false := by rw [beq_eq_false_iff_ne]; omega
      have f2 : (z == b.length) = false := by rw [beq_eq_false_iff_ne]; exact hzl
      have hl : lst b = ([], (rd (b.drop z) 0 0).2.2, z + (rd (b.drop z) 0 0).2.1) := by unfold lst; rw [if_neg (by rw [HZ.out]; exact hzl), HZ.out]
      obtain ⟨⟨n, j, e⟩, hr⟩ : ∃ R, rd (b.drop z) 0 0 = R := ⟨_, rfl⟩
      have hv := vread_any _ _ _ b z W (by omega) (by omega) (H.out.keep B.out)
      rw [hr] at hv hl
      dsimp only at hv hl
      have HV := Lib.hid hv
      have HL := Lib.hid hl
      clear hv hl hr hzl hend hz2
      gi_wp2
      refine ⟨trivial, ?_⟩
      refine (callsIn_wide.2 HV.out).mono ?_
      rintro e2 W2 ⟨rfl, hb2⟩
      have K2 := Lib.hid ((hb2.block D lD).trans K.out)
      have B2 := Lib.hid (keep_trans B.out hb2)
      clear hb2 hc he
      gi_wp2
      refine ⟨by simp, .inl ⟨_, _, rfl, run_takeDeferred K2.out, ?_⟩⟩
      exact ⟨.tuple #[.slice none 0 0, .int .i64 e, .int .i64 ((z + j : Nat) : Int)], by simp [results, Try.results29, go_sem], .slice none 0 0, by rw [HL.out], by rw [HL.out]; exact OwT.nil _ _ _ _, B2.out.trans (belowK_b (w := w) (Nat.le_refl _) W2 D _ _ (by omega) K2.out rfl rfl)⟩
  case stop =>
    rintro D c pre W _ _ h _
    exact h.elim
end Go.Proofs.Ythiebpiohkfjgaa
