/- stream.Parse: contract. Condition: the bytes within reach. -/
import Derived.Test.YtljcogimeimknaaRdAll
import Derived.Test.YtljcogimeimknaaRowInZ
import Derived.Test.YtljcogimeimknaaK8p
import Derived.Test.YtljcogimeimknaaK8w
namespace Go.Proofs.Ytljcogimeimknaa
open Go.RowKit Go.Shelf
attribute [local go_sem] Oper.semAt_some
set_option linter.unusedVariables false
set_option linter.unusedSimpArgs false

theorem Sl.nilZ (w : World) : Sl fZ w none 0 0 [] := ⟨rfl, Nat.le_refl _, fun _ => rfl, fun i x h => by simp at h⟩
/-- what stands between two rounds: the list's box and its row -/
def PaI (w w0 : World) (lo Bl : Nat) (pre : List (Sv × Sv)) (who : Nat → Nat) (W : World) : Prop :=
  ∃ v, Boxed W Bl 22 v ∧ who Bl = 0 ∧ OwZ fE zE W w0.heap.size 42 v pre ∧ (∀ j, v.ownBlock = some j → who j = 0) ∧ Below w.heap.size w W ∧ lo ≤ W.heap.size ∧ w0.heap.size ≤ W.heap.size ∧ ∀ j, who j ≠ 0 → lo ≤ j
theorem PaI.gr {w w0 : World} {lo Bl : Nat} (hlo : w.heap.size ≤ lo) {pre : List (Sv × Sv)} {who who' : Nat → Nat} {A B : World} (h : PaI w w0 lo Bl pre who A) (hG : Gr A B who who') : PaI w w0 lo Bl pre who' B := by
  obtain ⟨v, h1, h2, h3, h4, h5, h6, h7, h8⟩ := h
  refine ⟨v, hG.t.heap h1 (fun e => e h2), (hG.o _ h1.lt).trans h2, h3.of_block fun j hj => hG.t.block j (h3.t.lt j hj).2 (fun e => e (h4 j hj)), fun j hj => (hG.o _ (h3.t.lt j hj).2).trans (h4 j hj), hG.t.below h5 h5.size fun j hj => Nat.le_trans hlo (h8 j hj), Nat.le_trans h6 hG.t.size, Nat.le_trans h7 hG.t.size, fun j hj => ?_⟩
  by_cases hl : j < A.heap.size
  · rw [hG.o j hl] at hj; exact h8 j hj
  · omega
theorem PaI.put {w w0 : World} {lo Bl : Nat} {pre : List (Sv × Sv)} {who : Nat → Nat} {W : World} {l : Nat} {o : Obj} (hw : w.heap.size ≤ w0.heap.size) (h : PaI w w0 lo Bl pre who W) (hl : w0.heap.size ≤ l) (ho : W.heap[l]? = some o) (hc : o.isCells = false) (o' : Obj) : PaI w w0 lo Bl pre who (W.putObj l o') := by
  obtain ⟨v, h1, h2, h3, h4, h5, h6, h7, h8⟩ := h
  have hg := grownBy_putObj' W l o'
  have hr : ∀ r, some l = some r → ∃ o : Obj, W.heap[r]? = some o ∧ o.isCells = false := fun r e => by cases e; exact ⟨o, ho, hc⟩
  refine ⟨v, h1.kept hg (fun e => ?_), h2, h3.of_block fun j hj => hg.block j (h3.t.lt j hj).2 (fun e => ?_), h4, h5.grown hg h5.size (fun k e => by cases e; omega), Nat.le_trans h6 hg.size, Nat.le_trans h7 hg.size, h8⟩
  · obtain ⟨o2, h9, h10⟩ := hr _ e.symm; rw [show W.heap[Bl]? = _ from h1] at h9; cases h9; cases h10
  · obtain ⟨o2, h9, h10⟩ := hr _ e.symm
    rcases h3 with ⟨rfl, _⟩ | ⟨g, cap, rfl, _, hh, _⟩
    · cases hj
    · cases hj; rw [hh] at h9; cases h9; cases h10

set_option maxRecDepth 100000 in
set_option maxHeartbeats 4000000 in
theorem sparse_any (a : Option Addr) (n c : Nat) (bs : List UInt8) (w : World) (hn : n ≤ 140737488351232) (h : Sl Bf w a n c bs) :
    Calls Try.prog 29 #[.slice a n c] w fun e w' => ∃ y vs k es s', takeM k (RS0 ⟨[], 0, 0, bs, false⟩) [] = (es, s', [], true) ∧ k ≤ 1000000000 ∧
      e = .returned (.tuple #[if s'.er = 0 then y else .slice none 0 0, .int .i64 s'.er, .int .i64 (if s'.er = 0 then 0 else (s'.pt : Int))]) ∧ RdW w' w.heap.size y vs es ∧ Below w.heap.size w w' := by
  obtain rfl : bs.length = n := h.len
  have H := Lib.hid h; clear h
  have hok := RS0.ok (L := bs.length) (x := ⟨[], 0, 0, bs, false⟩) (show bs.length ≤ bs.length from Nat.le_refl _) rfl
  obtain ⟨s0, hs0⟩ : ∃ s, RS0 ⟨[], 0, 0, bs, false⟩ = s := ⟨_, rfl⟩
  have hs00 : Hid (s0.rows = []) := Lib.hid (by rw [← hs0]; rfl)
  rw [hs0] at hok ⊢
  have HS0 := Lib.hid hs0
  have HOK := Lib.hid hok
  clear hs0 hok
  refine (callsIn_wide (n := 4)).1 ?_
  refine callsIn_of_wp_marks Try.func29 rfl trivial ?_ rfl
  simp only [Try.ntmps29, List.size_toArray, List.length_cons, List.length_nil, Nat.reduceAdd, Nat.reduceSub, Array.replicate_succ, Array.replicate_zero, List.push_toArray, List.append_toArray, List.nil_append, List.cons_append]
  gi_wp2
  refine ⟨trivial, ?_⟩
  refine (callsIn_wide.2 (newSource_any a bs.length c bs none 0 0 [] 0 false w hn (by decide) (fun x hx => by cases hx) H.out (Sl.nilZ w))).mono ?_
  rintro e w1 ⟨gs, S, rfl, hs, hb1⟩
  have NR := rdnew_any hs hb1.size
  obtain ⟨lo, hlo⟩ : ∃ lo, w.heap.size = lo := ⟨_, rfl⟩
  have HLO := Lib.hid hlo
  have B1 := Lib.hid hb1
  have hSin := hs.inS
  have NR1 := Lib.hid NR
  have SIN := Lib.hid hSin
  clear hs hb1 NR hSin
  gi_wp2
  refine ⟨trivial, ?_⟩
  refine (callsIn_wide.2 NR1.out).mono ?_
  rintro e w2 ⟨g, gi, who, rfl, hR2, hb2, hwo⟩
  have R2 := Lib.hid hR2
  have B2 := Lib.hid (keep_trans B1.out hb2)
  clear hR2 hb2 hwo NR1 SIN hlo
  gi_wp2
  refine ⟨trivial, ?_⟩
  refine (callsIn_wide.2 (rdall_in g _)).mono ?_
  rintro e w' ⟨rfl, rfl⟩
  obtain ⟨w3, hw3⟩ : ∃ V, w2.alloc (.cells #[.slice none 0 0] 22) = V := ⟨_, rfl⟩
  have bL := Boxed.new w2 22 (.slice none 0 0)
  rw [hw3] at bL
  have b3 : Below w2.heap.size w2 w3 := hw3 ▸ (Below.refl _ w2).alloc (Nat.le_refl _) _
  have z3 : w3.heap.size = w2.heap.size + 1 := by rw [← hw3]; simp
  obtain ⟨w0, hw0⟩ : ∃ V, w3.alloc (.cells #[.pointer (some ⟨g, 0, none⟩)] 57) = V := ⟨_, rfl⟩
  have bX := Boxed.new w3 57 (.pointer (some ⟨g, 0, none⟩))
  rw [hw0] at bX
  have b0 : Below w3.heap.size w3 w0 := hw0 ▸ (Below.refl _ w3).alloc (Nat.le_refl _) _
  have z0 : w0.heap.size = w3.heap.size + 1 := by rw [← hw0]; simp
  have b20 : Below w2.heap.size w2 w0 := keep_trans b3 b0
  have bW0 : Below w.heap.size w w0 := keep_trans B2.out b20
  have R0 := (R2.out.keep b20)
  have bL0 : Boxed w0 w2.heap.size 22 (.slice none 0 0) := (b0.block _ bL.lt).trans bL
  have hnw : ∀ j, w2.heap.size ≤ j → who j = 0 := fun j hj => Classical.byContradiction fun e => by have := (R2.out.low j e).2; omega
  have hRs := R0.own6 (P := fun j => j = w3.heap.size) (fun j hj => by subst hj; exact ⟨hnw _ (by omega), by have := R2.out.lw; omega, by omega⟩)
  obtain ⟨who0, hwho0⟩ : ∃ f, who6 who (fun j => j = w3.heap.size) = f := ⟨_, rfl⟩
  have hx6 : who0 w3.heap.size = 6 := by rw [← hwho0]; exact who6_in rfl
  have hl0 : who0 w2.heap.size = 0 := by rw [← hwho0, who6_no (by omega)]; exact hnw _ (Nat.le_refl _)
  rw [hwho0] at hRs
  obtain ⟨Bl, hBl⟩ : ∃ B, w2.heap.size = B := ⟨_, rfl⟩
  obtain ⟨Bx, hBx⟩ : ∃ B, w3.heap.size = B := ⟨_, rfl⟩
  have hlo2 := R2.out.lw
  rw [hBl] at bL0 hl0 z3 hlo2
  rw [hBx] at bX hx6 z0 z3
  rw [HS0.out] at hRs
  have hAR0 : AllR lo gs g gi Bx bs.length s0 [] [] who0 w0 := ⟨S, _, _, _, s0, [], [], _, (by rw [← HLO.out]; exact hRs), HOK.out, LfP.nil _ _, rfl, GvP.nil, bX, hx6, fun j _ h => h⟩
  have hw0n : ∀ j, w0.heap.size ≤ j → who0 j = 0 := fun j hj => Classical.byContradiction fun e => by have := (hRs.low j e).2; omega
  have hlow0 : ∀ j, who0 j ≠ 0 → lo ≤ j := fun j hj => by rw [← HLO.out]; exact (hRs.low j hj).1
  rw [hw3, hw0, hBx, hBl]
  rw [HLO.out] at hlo2
  have hww0 := bW0.size
  have hlow : w.heap.size ≤ lo := by rw [HLO.out]; exact Nat.le_refl _
  clear hw3 hw0 bL b3 b0 b20 R0 R2 B1 B2 hRs hnw hwho0 hBl hBx
  gi_wp2
  rw [← z3]
  have hlw0 : lo ≤ w0.heap.size := by omega
  have Z3 := Lib.hid z3
  have Z0 := Lib.hid z0
  clear z3 z0
  refine wpIn_rangeW rfl (by omega) (gf := 80) (lb := #[.pointer (some ⟨Bx, 0, none⟩)]) rfl trivial (enters_of Try.func80 (by kernel_rfl) rfl)
    (rdall_seq lo gs g gi Bx bs.length hn s0 [] HOK.out who0) (fun _ => rfl) (fun _ _ _ _ h ht => h.turn ht) (fun _ _ _ _ h ht => h.turn ht) hAR0 hw0n
    (PaI w w0 lo Bl) (fun _ _ _ _ => False) (fun _ _ _ _ _ h hG => h.gr hlow hG) (fun _ _ _ _ _ o' h hl ho hc => h.put hww0 hl ho hc o') (fun _ _ _ _ _ _ _ h _ _ _ => h)
    ⟨_, bL0, hl0, OwZ.nil _ _ _ _ _, fun j e => (by cases e), bW0, by omega, Nat.le_refl _, hlow0⟩
    (fun x => { tmps := #[.slice a bs.length c, undef, .slice none 0 0, .int .i64 0, .int .i64 0, .pointer (some ⟨g, 0, none⟩), .pointer (some ⟨Bl, 0, none⟩), sv x.1, sv x.2, undef, undef, .slice a bs.length c, .agg #[.slice a bs.length c, .slice none 0 0, .int .i64 0, .bool false], .pointer (some ⟨gs, 0, none⟩), .iface 59 (.pointer (some ⟨gs, 0, none⟩)), .pointer (some ⟨g, 0, none⟩), .pointer (some ⟨g, 0, none⟩), .func (.func 80) #[] #[.pointer (some ⟨Bx, 0, none⟩)], sv x.1, sv x.2, undef, undef, undef, undef, undef, undef, undef, undef, undef, undef, undef, undef, undef, undef, undef, undef], defers := [] }) ?assign ?body ?done ?stop
  case assign =>
    intro l x W K hK
    gi_wp2
    exact hK
  case stop =>
    rintro D c pre who W _ _ h _ _
    exact h.elim
  case body =>
    rintro l pre ⟨⟨ak, nk, ck⟩, ⟨av, nv, cv⟩⟩ who W ⟨v, hv, hl, hrow, hown, hB, hlo', hw', hlw⟩ hR
    obtain ⟨hnew, hlen⟩ : (∀ j, W.heap.size ≤ j → who j = 0) ∧ pre.length ≤ 540000000 := by
      obtain ⟨S', lv, rv, vs, s, left, es, Q, h1, h2, -, h4, -⟩ := hR
      refine ⟨fun j hj => Classical.byContradiction fun e => by have := (h1.low j e).2; omega, ?_⟩
      have h5 := takeM_most _ _ _ _ _ _ _ HOK.out h4
      have h6 := takeM_len _ _ _ _ _ _ h4
      have h7 := h2.many
      rw [hs00.out] at h5
      simp at h5 h6
      omega
    have hc := hv.cell
    have hf := hv.frozen
    have hBl : Bl < w0.heap.size := bL0.lt
    have V := Lib.hid hv
    have ROW := Lib.hid hrow
    have OWN := Lib.hid hown
    have B := Lib.hid hB
    have NEW := Lib.hid hnew
    have HL := Lib.hid hl
    have HLW := Lib.hid hlw
    clear hv hrow hown hB hnew hl hlw hR
    dsimp only [sv]
    gi_wp2_with (gi_at_builtin; refine wpListIn_appZ eltTE zE_ok rfl (.tmp 20) (.tmp 24) rfl w0.heap.size v pre rfl (ROW.out.keep ((Below.refl _ _).alloc (Nat.le_refl _) _)) _ 1 1 [((ak, nk, ck), (av, nv, cv))] rfl (SlT.lit1 _ _ _ _ rfl) (by unfold maxLen; omega) (.half (by omega)) (Nat.le_trans hw' (by simp)) (pre ++ [((ak, nk, ck), (av, nv, cv))]) rfl ?_; intro v1 w1 ho1 hg1 hv1 hb1; obtain ⟨a1, n1, c1, rfl, -, -⟩ := ho1.t.slE; have V1 := Lib.hid ((V.out.alloc (.cells #[.slice ak nk ck, .slice av nv cv] 42)).kept hg1 (fun e => by have := (ROW.out.t.lt _ e.symm).1; omega)); have hc1 := V1.out.cell; have hf1 := V1.out.frozen; have O1 := Lib.hid ho1; have G1 := Lib.hid hg1; have HV1 := Lib.hid hv1; have HB1 := Lib.hid hb1; clear ho1 hg1 hv1 hb1)
    have e0 : Below W.heap.size W (W.alloc (.cells #[.slice ak nk ck, .slice av nv cv] 42)) := (Below.refl _ _).alloc (Nat.le_refl _) _
    have s1 : W.heap.size ≤ w1.heap.size := Nat.le_trans e0.size G1.out.size
    have hOWN : ∀ j, Value.ownBlock (.slice a1 n1 c1) = some j → who j = 0 := fun j hj => by
      rcases HV1.out with q | q
      · exact OWN.out j (q ▸ hj)
      · rw [q] at hj; cases hj; exact NEW.out _ e0.size
    refine ⟨(((KeepsOthers.alloc W _).from _).trans (keepsFrom_own (ROW.out.keep e0).t G1.out)).trans ((KeepsOthers.setCell _ _ _).from _), ?_, ?_⟩
    · refine ((Turns.of_below (S := fun j => who j = 0) e0).trans (.of_grown (S := fun j => who j = 0) G1.out fun j hj => OWN.out j hj) fun _ _ e => e).trans (Turns.set (S := fun j => who j = 0) w1 (b := Bl) (i := 0) HL.out _) fun _ _ e => e
    · refine ⟨_, V1.out.set _, HL.out, O1.out.of_block fun j hj => Below.heap_setCell _ _ _ _ (by have := (O1.out.t.lt j hj).1; intro e; have e : j = Bl := e; omega), hOWN, ((B.out.alloc (by have := B.out.size; omega) _).trans (HB1.out.mono hww0)).setCell (p := ⟨Bl, 0, none⟩) (by show w.heap.size ≤ Bl; omega) _, by simp; omega, by simp; omega, HLW.out⟩
  case done =>
    rintro D ys who W hD hE ⟨v, hv, hl, hrow, hown, hB, hlo', hw', hlw⟩ hK hD0
    have hc := hv.cell
    obtain ⟨S', ap, al, rv, vs, s', es, h1, h2, h4, h5, -, -⟩ := hE
    have FA := Lib.hid (rdfault_any h1)
    have lD := (Array.getElem?_eq_some_iff.1 hK).1
    have hlen : ys.length + 1 ≤ 1000000000 := by
      have q5 := takeM_most _ _ _ _ _ _ _ HOK.out h4
      have q7 := h2.many
      have q8 := h5.1
      rw [hs00.out] at q5
      simp at q5
      omega
    have HRL : Hid (RdW W w.heap.size v ys es) := Lib.hid ⟨hrow.base hww0, h5.1, fun i x e hx he => ⟨(h5.2 i x e hx he).1.base hlow, (h5.2 i x e hx he).2.1.base hlow⟩, fun i x hx j hj => by
      obtain ⟨e, he⟩ : ∃ e, es[i]? = some e := ⟨_, List.getElem?_eq_getElem (by have := (List.getElem?_eq_some_iff.1 hx).1; have := h5.1; omega)⟩
      have h6 := (h5.2 i x e hx he).2.2 j
      have h0 := hown j hj
      exact ⟨fun q => by have := h6 (.inl q); omega, fun q => by have := h6 (.inr q); omega⟩⟩
    have TK := Lib.hid h4
    have B := Lib.hid hB
    have K := Lib.hid hK
    have BV := Lib.hid hv
    clear hv hrow hown hB h1 h2 h4 h5 hK
    gi_wp2
    refine ⟨trivial, ?_⟩
    refine (callsIn_wide.2 FA.out).mono ?_
    rintro e W2 ⟨rfl, hb2⟩
    have B2 := Lib.hid (keep_trans B.out hb2.below)
    have K2 := Lib.hid ((hb2.below.block D lD).trans K.out)
    have RL2 := Lib.hid (HRL.out.keep hb2.below)
    have V2 : Boxed W2 Bl 22 v := (hb2.below.block Bl BV.out.lt).trans BV.out
    have hc2 := V2.cell
    have hww := B2.out.size
    have PT := Lib.hid (belowK_b (w := w) (Nat.le_refl _) W2 D (.deferred (some [])) (.deferred none) (by omega) K2.out rfl rfl)
    have RL3 := Lib.hid (RL2.out.turns (S := fun j => j = D) (Turns.putObj (T := fun j => j = D) W2 D (.deferred none) rfl) (fun j hj e => by
      subst e
      have hK2 := K2.out
      rcases hj with hj | ⟨i, x, hx, hj⟩
      · rcases RL2.out.own with ⟨q, _⟩ | ⟨gg, cap, q, _, hh, _⟩
        · rw [q] at hj; cases hj
        · rw [q] at hj; cases hj; rw [hh] at hK2; cases hK2
      · obtain ⟨e, he⟩ := RL2.out.get hx
        obtain ⟨o1, o2⟩ := RL2.out.txt i x e hx he
        have kill : ∀ {u : Value} {bb : List UInt8}, OwT fB W2 w.heap.size 5 u bb → u.ownBlock = some j → False := fun {u bb} ho hu => by
          rcases ho with ⟨q, _⟩ | ⟨gg, cap, ys2, q, _, hh, _⟩
          · rw [q] at hu; cases hu
          · rw [q] at hu; cases hu; rw [hh] at hK2; cases hK2
        rcases hj with hj | hj
        · exact kill o1 hj
        · exact kill o2 hj))
    clear hb2 hc V2 hlow
    by_cases he : s'.er = 0
    · have f1 : (s'.er != 0) = false := by rw [he]; rfl
      have E1 := Lib.hid he
      clear he
      gi_wp2
      refine ⟨by simp, .inl ⟨_, _, rfl, run_takeDeferred K2.out, ?_⟩⟩
      exact ⟨.tuple #[v, .int .i64 0, .int .i64 0], by simp [results, Try.results29, go_sem], v, ys, ys.length + 1, es, s', TK.out, hlen, by rw [if_pos E1.out, if_pos E1.out, E1.out], RL3.out, B2.out.trans PT.out⟩
    · have f1 : (s'.er != 0) = true := by rw [bne_iff_ne]; exact he
      have E1 := Lib.hid he
      clear he
      gi_wp2
      refine ⟨by simp, .inl ⟨_, _, rfl, run_takeDeferred K2.out, ?_⟩⟩
      exact ⟨.tuple #[.slice none 0 0, .int .i64 s'.er, .int .i64 (s'.pt : Nat)], by simp [results, Try.results29, go_sem], v, ys, ys.length + 1, es, s', TK.out, hlen, by rw [if_neg E1.out, if_neg E1.out], RL3.out, B2.out.trans PT.out⟩
end Go.Proofs.Ytljcogimeimknaa
