/- Block where All has left something, or nothing: contract. Conditions: the reader stands rightly. -/
import Derived.Test.YtljcogimeimknaaGreatRdAll
import Derived.Test.YtljcogimeimknaaGreatRdSome
namespace Go.Proofs.YtljcogimeimknaaGreat
open Go.RowKit Go.Shelf
set_option linter.unusedVariables false
set_option linter.unusedSimpArgs false

/-- Clone of entries: the row is new, the texts are the same -/
theorem cloneE_any (p : Addr) (n c : Nat) (vs : List (Sv × Sv)) (w : World) (hn : n ≤ 1000) (h : SlT fE 2 w (some p) n c vs) :
    Calls Tryz.prog 59 #[.slice (some p) n c] w fun e w' => ∃ v, e = .returned v ∧ OwT fE w' w.heap.size 51 v vs ∧ Below w.heap.size w w' := by
  obtain rfl : n = vs.length := h.1.symm
  have H := Lib.hid h; clear h
  have hnil := Lib.run_eql_slice_nil w 48 51 (some p) vs.length c 0 0 Tryz.underlying48
  go_enter Tryz.func59, Tryz.ntmps59
  go_wp2_with (at_builtin; refine wpList_appT eltTE rfl _ _ rfl w.heap.size _ [] (by rfl) (OwT.lit fE _ w.heap.size _ _ [] 0 rfl rfl (Nat.le_refl _) (Nat.zero_le _)) (some p) vs.length c vs (by rfl) (H.out.keep fE_len (by decide) ((Below.refl _ _).alloc (Nat.le_refl _) _)) (by unfold maxLen; simp; omega) (by simp; omega) (by simp) vs rfl ?_; intro v5 w5 h5 hg5 hv5 hb5)
  go_ret
  exact ⟨_, rfl, h5, ((Below.refl _ _).alloc (Nat.le_refl _) _).trans hb5⟩

section
variable {w w' w1 : World} {lo gs g gi L : Nat} {S : Nat → Prop} {lv rv : Value} {vs : List RV} {s : RS} {who who' : Nat → Nat}
theorem LfP.sl {left : List Ent} {Q : Nat → Prop} {a : Option Addr} {n c : Nat} (h : LfP w lo (.slice a n c) left who Q) (hp : 0 < left.length) : ∃ vs2, SlT fE 2 w a n c vs2 ∧ GvP w lo vs2 left who := by
  obtain ⟨ap, c', vs2, e, hc, hg, hx, _⟩ := h
  injection e with e1 e2 e3
  subst e1 e2 e3
  have hl := hg.1
  refine ⟨vs2, ⟨hl, hc, fun ha => ?_, fun i x hi => ?_⟩, hg⟩
  · obtain ⟨x, hx0⟩ : ∃ x, vs2[0]? = some x := ⟨_, List.getElem?_eq_getElem (by omega)⟩
    obtain ⟨b, o, hb, _⟩ := hx 0 x hx0
    rw [ha] at hb; cases hb
  · obtain ⟨b, o, hb, _, c0, c1⟩ := hx i x hi
    refine ⟨b, o, hb, fun j v hv => ?_⟩
    match j, hv with
    | 0, hv => obtain rfl : sv x.1 = v := by simpa [fE] using hv
               exact c0
    | 1, hv => obtain rfl : sv x.2 = v := by simpa [fE] using hv
               exact c1
/-- behind it -/
def BLPost (lo gs g gi : Nat) (who : Nat → Nat) (w : World) (X : RX) (r : Ending) (w' : World) : Prop :=
  ∃ a n c ap al S' rv' vs' who', r = .returned (.tuple #[.slice a n c, .bool X.1.2]) ∧ (∀ (T : Nat → Prop) (W : World), Turns T w' W → (∀ j, T j → who' j = 0 ∧ j < w.heap.size) → Ents W a n c X.1.1) ∧ Rdp w' lo gs g gi S' (.slice ap 0 al) rv' vs' X.2 who' ∧ Gr w w' who who'
set_option maxRecDepth 100000 in
set_option maxHeartbeats 4000000 in
theorem rdblockL_any {left : List Ent} {Q : Nat → Prop} (h : Rdp w lo gs g gi S lv rv vs s who) (hlf : LfP w lo lv left who Q) (hk : s.Ok L) (hL : L ≤ 140737488351232) (hl64 : left.length ≤ 1000) :
    Calls Tryz.prog 26 #[.pointer (some ⟨g, 0, none⟩)] w (BLPost lo gs g gi who w (blL mxI s left)) := by
  by_cases hl : left = []
  · subst hl
    obtain ⟨ap, al, hlv⟩ : ∃ ap al, lv = .slice ap 0 al := by obtain ⟨ap, c, vs, e, _⟩ := hlf; exact ⟨ap, c, e⟩
    subst hlv
    have hX : blL mxI s [] = nxM mxI s := by unfold blL; rw [if_pos rfl]
    rw [hX]
    refine (rdblock_any ap al h hk hL).mono ?_
    rintro r w1 ⟨y, es, S', rv', vs', who', rfl, hRL, hz, hR, hG⟩
    obtain ⟨a, c, rfl, -⟩ := hRL.ents
    refine ⟨a, _, c, ap, al, S', rv', vs', who', rfl, fun T W ht hT => ?_, hR, hG⟩
    obtain ⟨a2, c2, e2, hE⟩ := (hRL.turns ht fun j hj hs => by have := (hRL.inB j hj).1; have := (hT j hs).2; omega).ents
    injection e2 with e3 _ e4
    subst e3 e4
    exact hE
  · have hpos : 0 < left.length := by cases left with | nil => exact absurd rfl hl | cons e t => simp
    have hX : blL mxI s left = ((left, true), s) := by unfold blL; rw [if_neg hl]
    rw [hX]
    have c2 := h.c2
    have f2 := h.free 2
    obtain ⟨ap, c, n, rfl, hn⟩ : ∃ ap c n, lv = .slice ap n c ∧ n = left.length := by obtain ⟨ap, c, vs', e, _⟩ := hlf; exact ⟨ap, c, _, e, rfl⟩
    obtain ⟨vs2, hsl, hgv⟩ := hlf.sl hpos
    obtain ⟨p, rfl⟩ : ∃ p, ap = some p := by cases ap with | some p => exact ⟨p, rfl⟩ | none => have := hsl.2.2.1 rfl; have := hsl.2.1; omega
    have t1 : decide ((n : Int) > 0) = true := decide_eq_true (by omega)
    have t2 : decide (0 < (n : Int)) = true := decide_eq_true (by omega)
    have t3 : decide (0 < n) = true := decide_eq_true (by omega)
    have ht := Turns.set (S := fun j => j = g) w (b := g) (i := 2) rfl (.slice none 0 0)
    have n6 : ∀ j, j = g → who j ≠ 6 := fun j e => by rw [e, h.gw]; decide
    obtain ⟨hR1, hG1⟩ := h.updG (lv' := .slice none 0 0) (ph := s.ph) (er := s.er) (pt := s.pt) ht (set_block (i := 2) h.blk _)
    have hgv1 := hgv.turn ht n6 (fun _ e => e)
    have hsl1 : SlT fE 2 (w.setCell ⟨g, 2, none⟩ (.slice none 0 0)) (some p) n c vs2 := by
      have := (hlf.turn ht n6 (fun _ e => e)).sl hpos
      obtain ⟨vs3, h3, h4⟩ := this
      obtain ⟨ap', c', vs4, e, hc, hg, hx, _⟩ := hlf
      exact ⟨hsl.1, hsl.2.1, hsl.2.2.1, fun i x hi => by
        obtain ⟨b, o, hb, hcell⟩ := hsl.2.2.2 i x hi
        refine ⟨b, o, hb, fun j v hv => ?_⟩
        have hq := hcell j v hv
        injection e with e1 e2 e3
        have hb6 : who b = 6 := by
          obtain ⟨x0, hx0⟩ : ∃ x, vs4[0]? = some x := ⟨_, List.getElem?_eq_getElem (by have := hg.1; omega)⟩
          obtain ⟨b', o', hb', h6, _⟩ := hx 0 x0 hx0
          rw [← e1, hb] at hb'; cases hb'
          exact h6
        exact (World.cell?_of_block (ht.block _ (cell_lt hq) fun hs => n6 b hs hb6)).trans hq⟩
    have CL := Lib.hid (cloneE_any p n c vs2 _ (by omega) hsl1)
    have R1 := Lib.hid hR1
    have G1 := Lib.hid hG1
    have GV1 := Lib.hid hgv1
    have HN := Lib.hid hn
    have HV := Lib.hid hsl.1
    have hn1000 : n ≤ 1000 := by omega
    clear h hlf hk hX hn hpos hl hsl hgv ht n6 hR1 hG1 hgv1 hsl1
    go_enter Tryz.func26, Tryz.ntmps26
    go_wp2_with fail
    refine CL.out.mono ?_
    rintro r w2 ⟨v, rfl, ho, hb⟩
    obtain ⟨a2, n2, c2', rfl, hn2, -⟩ := ho.slE
    have HO := Lib.hid ho
    have B2 := Lib.hid hb
    have HN2 := Lib.hid hn2
    clear ho hb hn2 CL
    go_wp2_with fail
    go_ret2
    have e2 : n2 = left.length := by have := HN2.out; have := HV.out; have := HN.out; omega
    subst e2
    have hgv2 := GV1.out.turn (Turns.of_below (S := fun _ => False) B2.out) (fun _ e => e.elim) (fun _ e => e)
    refine ⟨a2, _, c2', none, 0, S, rv, vs, who, rfl, fun T W ht hT => ?_, R1.out.keep B2.out, G1.out.trans (Gr.below B2.out)⟩
    have ho2 := HO.out.turns ht fun j hj hs => by have h1 := (HO.out.lt j hj).1; have h2 := (hT j hs).2; simp at h1; omega
    have hgv3 := hgv2.turn ht (fun j hs => by rw [(hT j hs).1]; decide) (fun _ e => e)
    obtain ⟨a3, c3, hv3, hs3⟩ := ho2.sl fE_len
    injection hv3 with e1 e3 e4
    subst e1 e4
    refine ⟨rfl, by rw [e3]; exact hs3.2.1, hs3.2.2.1, fun i k u hi => ?_⟩
    have hi : left[i]? = some (k, u) := hi
    have hin : i < vs2.length := by have := (List.getElem?_eq_some_iff.1 hi).1; have := HV.out; have := HN.out; omega
    obtain ⟨b, o, ha, hc⟩ := hs3.2.2.2 i _ (List.getElem?_eq_getElem hin)
    obtain ⟨m1, m2, _⟩ := hgv3.2 i _ (k, u) (List.getElem?_eq_getElem hin) hi
    exact ⟨b, o, _, _, _, _, _, _, ha, hc 0 _ rfl, hc 1 _ rfl, m1.slI, m2.slI⟩
end
end Go.Proofs.YtljcogimeimknaaGreat
