/- The document's reader of streams: Some, Parse: contracts. Conditions: the reader stands rightly. -/
import Derived.Test.YtljcogimeimknaaGreatRdRBlk
import Derived.Test.YtljcogimeimknaaGreatRdRNew
import Derived.Test.YtljcogimeimknaaGreatRdTake
import Derived.Test.YtljcogimeimknaaGreatK8b
import Derived.Test.YtljcogimeimknaaGreatK8t
namespace Go.Proofs.YtljcogimeimknaaGreat
open Go.RowKit Go.Shelf
set_option linter.unusedVariables false
set_option linter.unusedSimpArgs false

/-- blocks of P are given away, to be read alone: owner 5 -/
noncomputable def who5 (who : Nat → Nat) (P : Nat → Prop) : Nat → Nat := by
  classical exact fun j => if P j then 5 else who j
theorem who5_in {who : Nat → Nat} {P : Nat → Prop} {j : Nat} (h : P j) : who5 who P j = 5 := by unfold who5; rw [if_pos h]
theorem who5_no {who : Nat → Nat} {P : Nat → Prop} {j : Nat} (h : ¬ P j) : who5 who P j = who j := by unfold who5; rw [if_neg h]
section
variable {w w' w1 : World} {bs : List UInt8} {lo gt g gi L : Nat} {bg : Bool} {S : Nat → Prop} {lv rv : Value} {vs : List RV} {s : RS} {who who' : Nat → Nat}
theorem Rrp.own5 (h : Rrp w bs lo gt g gi bg S lv rv vs s who) {P : Nat → Prop} (hP : ∀ j, P j → (who j = 0 ∨ who j = 5) ∧ lo ≤ j ∧ j < w.heap.size) : Rrp w bs lo gt g gi bg S lv rv vs s (who5 who P) := by
  have q : ∀ j k, who j = k → k ≠ 0 → who5 who P j = k := fun j k e hk => by
    by_cases hp : P j
    · rcases (hP j hp).1 with q | q
      · exact absurd (e ▸ q) hk
      · rw [who5_in hp, ← e, q]
    · rw [who5_no hp]; exact e
  refine ⟨fun j hj => ?_, h.lw, h.blk, h.b0, h.b1, q g 1 h.gw (by decide), h.io, fun j hj => q j 3 (h.sw j hj) (by decide), h.rw, fun j hj => q j 4 (h.rb j hj) (by decide), h.rl, fun i x r hx hr => ?_⟩
  · by_cases hp : P j
    · exact (hP j hp).2
    · rw [who5_no hp] at hj; exact h.low j hj
  · obtain ⟨e, e2, e3⟩ := h.rk i x r hx hr
    exact ⟨e, e2, fun b o hb h0 => q b 5 (e3 b o hb h0) (by decide)⟩
theorem GrW.own5 (h : GrW w w' who who') {P : Nat → Prop} (hP : ∀ j, P j → w.heap.size ≤ j) : GrW w w' who (who5 who' P) :=
  ⟨h.t, fun j hj => by rw [who5_no fun hp => by have := hP j hp; omega]; exact h.o j hj⟩
theorem GrW.five (h : GrW w w' who who') {j : Nat} (hj : j < w.heap.size) (h5 : who j = 5) : who' j = 5 := by
  rcases h.o j hj with e | ⟨e, _⟩
  · rw [e]; exact h5
  · omega

/-- entries that were given, to be read -/
def GvD (w : World) (pre : List (Sv × Sv)) (es : List Ent) (who : Nat → Nat) : Prop :=
  pre.length = es.length ∧ ∀ (i : Nat) (x : Sv × Sv) (e : Ent), pre[i]? = some x → es[i]? = some e → Sl Bf w x.1.1 x.1.2.1 x.1.2.2 e.1 ∧ Sl Bf w x.2.1 x.2.2.1 x.2.2.2 e.2 ∧ ∀ b o, (x.1.1 = some ⟨b, o, none⟩ ∧ 0 < x.1.2.1) ∨ (x.2.1 = some ⟨b, o, none⟩ ∧ 0 < x.2.2.1) → who b = 5
theorem GvD.nil : GvD w [] [] who := ⟨rfl, fun i x e h _ => by simp at h⟩
theorem GvD.turn {T : Nat → Prop} {pre : List (Sv × Sv)} {es : List Ent} (h : GvD w pre es who) (ht : Turns T w w') (hT : ∀ j, T j → who j ≠ 5) (hw : ∀ j, j < w.heap.size → who j = 5 → who' j = 5) : GvD w' pre es who' :=
  ⟨h.1, fun i x e hx he => by
    obtain ⟨o1, o2, o3⟩ := h.2 i x e hx he
    refine ⟨o1.turns ht fun b o ha h0 hs => hT b hs (o3 b o (.inl ⟨ha, h0⟩)), o2.turns ht fun b o ha h0 hs => hT b hs (o3 b o (.inr ⟨ha, h0⟩)), fun b o hb => hw b ?_ (o3 b o hb)⟩
    rcases hb with ⟨ha, h0⟩ | ⟨ha, h0⟩
    · obtain ⟨⟨xa, xn, xc⟩, y⟩ := x; dsimp only at ha h0 o1; subst ha; exact o1.blt h0
    · obtain ⟨y, ⟨xa, xn, xc⟩⟩ := x; dsimp only at ha h0 o2; subst ha; exact o2.blt h0⟩
theorem GvD.app {pre pre2 : List (Sv × Sv)} {es es2 : List Ent} (h : GvD w pre es who) (k : GvD w pre2 es2 who) : GvD w (pre ++ pre2) (es ++ es2) who := by
  have hl := h.1
  have kl := k.1
  refine ⟨by rw [List.length_append, List.length_append, hl, kl], fun i y f hy hf => ?_⟩
  by_cases hi : i < pre.length
  · rw [List.getElem?_append_left hi] at hy
    rw [List.getElem?_append_left (by omega)] at hf
    exact h.2 i y f hy hf
  · rw [List.getElem?_append_right (by omega)] at hy
    rw [List.getElem?_append_right (by omega), ← hl] at hf
    exact k.2 _ y f hy hf
theorem GvD.take {pre : List (Sv × Sv)} {es : List Ent} (h : GvD w pre es who) (n : Nat) : GvD w (pre.take n) (es.take n) who :=
  ⟨by rw [List.length_take, List.length_take, h.1], fun i y f hy hf => by
    rw [List.getElem?_take] at hy hf
    split at hy
    · rename_i hi; rw [if_pos hi] at hf; exact h.2 i y f hy hf
    · cases hy⟩
theorem GvD.drop {pre : List (Sv × Sv)} {es : List Ent} (h : GvD w pre es who) (n : Nat) : GvD w (pre.drop n) (es.drop n) who :=
  ⟨by rw [List.length_drop, List.length_drop, h.1], fun i y f hy hf => by
    rw [List.getElem?_drop] at hy hf
    exact h.2 _ y f hy hf⟩
/-- a list of entries to be read: its row, its texts -/
def LfD (w : World) (lv : Value) (left : List Ent) (who : Nat → Nat) : Prop :=
  ∃ ap c vs, lv = .slice ap left.length c ∧ GvD w vs left who ∧ SlT fE 2 w ap left.length c vs ∧ ∀ b o, ap = some ⟨b, o, none⟩ → 0 < left.length → who b = 5
theorem LfD.nil (ap : Option Addr) (al : Nat) (h : ap = none → al = 0) : LfD w (.slice ap 0 al) [] who := ⟨ap, al, [], rfl, GvD.nil, ⟨rfl, Nat.zero_le _, h, fun i x h => by simp at h⟩, fun b o _ h => by simp at h⟩
theorem LfD.turn {T : Nat → Prop} {left : List Ent} (h : LfD w lv left who) (ht : Turns T w w') (hT : ∀ j, T j → who j ≠ 5) (hw : ∀ j, j < w.heap.size → who j = 5 → who' j = 5) : LfD w' lv left who' := by
  obtain ⟨ap, c, vs, e, hg, hs, hb⟩ := h
  have hlt : ∀ b o, ap = some ⟨b, o, none⟩ → 0 < left.length → b < w.heap.size := fun b o ha h0 => by
    obtain ⟨x, hx⟩ : ∃ x, vs[0]? = some x := ⟨_, List.getElem?_eq_getElem (by have := hg.1; omega)⟩
    obtain ⟨b', o', ha', hc⟩ := hs.2.2.2 0 x hx
    rw [ha] at ha'; cases ha'
    exact cell_lt (hc 0 _ (by rfl))
  refine ⟨ap, c, vs, e, hg.turn ht hT hw, ⟨hs.1, hs.2.1, hs.2.2.1, fun i x hx => ?_⟩, fun b o ha h0 => hw b (hlt b o ha h0) (hb b o ha h0)⟩
  obtain ⟨b, o, ha, hc⟩ := hs.2.2.2 i x hx
  have h0 : 0 < left.length := by have := (List.getElem?_eq_some_iff.1 hx).1; have := hg.1; omega
  exact ⟨b, o, ha, fun j v hv => (World.cell?_of_block (ht.block _ (hlt b o ha h0) fun q => hT b q (hb b o ha h0))).trans (hc j v hv)⟩
theorem LfD.ents {left : List Ent} {a : Option Addr} {n c : Nat} (h : LfD w (.slice a n c) left who) : Ents w a n c left := by
  obtain ⟨ap, c', vs, e, hg, hs, hb⟩ := h
  injection e with e1 e2 e3
  subst e1 e2 e3
  refine ⟨rfl, hs.2.1, hs.2.2.1, fun i k v hi => ?_⟩
  have hin : i < vs.length := by have := (List.getElem?_eq_some_iff.1 hi).1; have := hg.1; omega
  obtain ⟨b, o, ha, hc⟩ := hs.2.2.2 i _ (List.getElem?_eq_getElem hin)
  obtain ⟨m1, m2, _⟩ := hg.2 i _ (k, v) (List.getElem?_eq_getElem hin) hi
  exact ⟨b, o, _, _, _, _, _, _, ha, hc 0 _ rfl, hc 1 _ rfl, m1, m2⟩
theorem RdL.lfd {lo' : Nat} {y : Value} {xs : List (Sv × Sv)} {es : List Ent} (h : RdL w lo' y xs es) (hw : ∀ j, RLB y xs j → who j = 5) : LfD w y es who := by
  obtain ⟨a, c, hv, hs⟩ := h.own.t.sl fE_len
  have hlen := h.len
  subst hv
  refine ⟨a, c, xs, by rw [hlen], ⟨hlen, fun i x e hx he => ?_⟩, by rw [← hlen]; exact hs, fun b o ha h0 => ?_⟩
  · obtain ⟨o1, o2⟩ := h.txt i x e hx he
    refine ⟨o1.slI, o2.slI, fun b o hb => hw b (.inr ⟨i, x, hx, ?_⟩)⟩
    rcases hb with ⟨hb, _⟩ | ⟨hb, _⟩
    · exact .inl (by show Value.ownBlock (.slice x.1.1 _ _) = _; rw [hb]; rfl)
    · exact .inr (by show Value.ownBlock (.slice x.2.1 _ _) = _; rw [hb]; rfl)
  · exact hw b (.inl (by rw [ha]; rfl))

/-- what a Block gives where All has left something, or nothing -/
def blL (M : Int) (s : RS) (left : List Ent) : RX := if left = [] then nxM M s else ((left, true), s)
def RLPost (bs : List UInt8) (lo gt g gi : Nat) (who : Nat → Nat) (w : World) (X : RX) (r : Ending) (w' : World) : Prop :=
  ∃ y bg' S' lv' rv' vs' who', r = .returned (.tuple #[y, .bool X.1.2]) ∧ LfD w' y X.1.1 who' ∧ LfD w' lv' [] who' ∧ Rrp w' bs lo gt g gi bg' S' lv' rv' vs' X.2 who' ∧ GrW w w' who who'
theorem RRPost.own5 {lv0 : Value} {X : RX} {r : Ending} (hlv : ∃ ap al, lv0 = .slice ap 0 al ∧ (ap = none → al = 0)) (h0 : Rrp w bs lo gt g gi bg S lv rv vs s who) (h : RRPost bs lo gt g gi lv0 who w X r w') : RLPost bs lo gt g gi who w X r w' := by
  obtain ⟨y, es, bg', S', rv', vs', who', e, hl, hz, hR, hG⟩ := h
  obtain ⟨ap, al, rfl, hn⟩ := hlv
  have hP : ∀ j, RLB y es j → (who' j = 0 ∨ who' j = 5) ∧ lo ≤ j ∧ j < w'.heap.size := fun j hj => ⟨hz j hj, by have := (hl.inB j hj).1; have := h0.lw; omega, (hl.inB j hj).2⟩
  exact ⟨y, bg', S', _, rv', vs', who5 who' (RLB y es), e, hl.lfd (fun j hj => who5_in hj), LfD.nil ap al hn, hR.own5 hP, hG.own5 fun j hj => (hl.inB j hj).1⟩
set_option maxRecDepth 100000 in
set_option maxHeartbeats 4000000 in
theorem rblkL_any (hbl : bs.length ≤ 140737488351232) {left : List Ent} (h : Rrp w bs lo gt g gi bg S lv rv vs s who) (hlf : LfD w lv left who) (hk : s.Ok L) (hL : L ≤ 140737488351232) :
    Calls Tryz.prog 27 #[.pointer (some ⟨g, 0, none⟩)] w (RLPost bs lo gt g gi who w (blL mxR s left)) := by
  by_cases hl : left = []
  · subst hl
    obtain ⟨ap, c, vs', e, hg, hs, hb⟩ := hlf
    subst e
    have hB := rblk08_any hbl c ap h hk hL
    unfold blL
    rw [if_pos rfl]
    exact hB.mono fun r w' hp => RRPost.own5 ⟨ap, c, rfl, hs.2.2.1⟩ h hp
  · have hpos : 0 < left.length := by cases left with | nil => exact absurd rfl hl | cons e t => simp
    have hbX : blL mxR s left = ((left, true), s) := by unfold blL; rw [if_neg hl]
    rw [hbX]
    have c6 := h.c6
    have f6 := h.free 6
    obtain ⟨ap, c, n, rfl, hn⟩ : ∃ ap c n, lv = .slice ap n c ∧ n = left.length := by obtain ⟨ap, c, vs', e, _⟩ := hlf; exact ⟨ap, c, _, e, rfl⟩
    have hn0 : ((n : Int) > 0) := by omega
    have hn1 : 0 < n := by omega
    have t1 : decide ((n : Int) > 0) = true := decide_eq_true hn0
    have t2 : decide (0 < (n : Int)) = true := decide_eq_true (by omega)
    have t3 : decide (0 < n) = true := decide_eq_true hn1
    have H := Lib.hid h
    have LF := Lib.hid hlf
    clear h hlf hk hbX hn hpos hl
    go_enter Tryz.func27, Tryz.ntmps27
    go_wp2_with fail
    go_ret2
    have ht := Turns.set (S := fun j => j = g) w (b := g) (i := 6) rfl (.slice none 0 0)
    obtain ⟨hR, hG⟩ := H.out.updG (lv' := .slice none 0 0) (bg' := bg) (ph := s.ph) (pt := s.pt) (er := s.er) hbl ht (set_block (i := 6) H.out.blk (.slice none 0 0)) H.out.b0 H.out.b1
    have n5 : ∀ j, j = g → who j ≠ 5 := fun j e => by rw [e, H.out.gw]; decide
    exact ⟨_, bg, S, _, rv, vs, who, rfl, LF.out.turn ht n5 (fun _ _ e => e), LfD.nil _ _ (fun _ => rfl), hR, hG⟩
end
/-- how many elements -/
def slLen : Value → Nat
  | .slice _ n _ => n
  | _ => 0
def advE (b o c n : Nat) : Option Addr := if c = n then some ⟨b, o, none⟩ else some (if n * 2 = 0 then ⟨b, o, none⟩ else ⟨b, o + n * 2, none⟩)
theorem run_cutEn (w : World) (b o m c n : Nat) (hn : n ≤ m) : (Instr.slice 48 (.slice (some ⟨b, o, none⟩) m c) (some (.int .i64 (n : Nat))) none none).run Tryz.prog w = .ok (.slice (advE b o c n) (m - n) (c - n)) w := by
  obtain ⟨ht, ⟨i, z, hi1, hi2, hi3, hi4, x0, hz⟩, hf, hk, h1⟩ := eltTE
  simp [Instr.slice, run_underlying ht, Instr.sliceBounds, Instr.sliceBound, asIntOf, sizeOf, typeInfo, hi1, hi3, hn, Addr.add, advE]
theorem SlT.takeE {w : World} {a : Option Addr} {m c n : Nat} {vs : List (Sv × Sv)} (h : SlT fE 2 w a m c vs) (hn : n ≤ m) : SlT fE 2 w a n c (vs.take n) :=
  ⟨by rw [List.length_take, h.1]; omega, by have := h.2.1; omega, h.2.2.1, fun i x hx => by
    rw [List.getElem?_take] at hx
    split at hx
    · exact h.2.2.2 i x hx
    · cases hx⟩
section
variable {w w' w1 : World} {bs : List UInt8} {lo gt g gi L : Nat} {bg : Bool} {S : Nat → Prop} {lv rv : Value} {vs : List RV} {s : RS} {who who' : Nat → Nat}
theorem LfD.drop {left : List Ent} {b o m c n : Nat} (h : LfD w (.slice (some ⟨b, o, none⟩) m c) left who) (hn : n ≤ m) : LfD w (.slice (advE b o c n) (m - n) (c - n)) (left.drop n) who := by
  obtain ⟨ap, c', vs, e, hg, hs, hb⟩ := h
  injection e with e1 e2 e3
  subst e1 e2 e3
  have hvl := hs.1
  refine ⟨advE b o c n, c - n, vs.drop n, by rw [List.length_drop], hg.drop n, ⟨by rw [List.length_drop, List.length_drop, hvl], by rw [List.length_drop]; have := hs.2.1; omega, fun hc => ?_, fun i x hx => ?_⟩, fun b' o' ha h0 => ?_⟩
  · unfold advE at hc; split at hc <;> cases hc
  · rw [List.getElem?_drop] at hx
    have hi := (List.getElem?_eq_some_iff.1 hx).1
    obtain ⟨b', o', ha, hcell⟩ := hs.2.2.2 (n + i) x hx
    cases ha
    have hcn : c ≠ n := by have := hs.2.1; omega
    refine ⟨b, if n * 2 = 0 then o else o + n * 2, by unfold advE; rw [if_neg hcn]; split <;> rfl, fun j v hv => ?_⟩
    have := hcell j v hv
    split
    · rename_i h0; rw [show o + i * 2 + j = o + (n + i) * 2 + j by omega]; exact this
    · rw [show o + n * 2 + i * 2 + j = o + (n + i) * 2 + j by omega]; exact this
  · rw [List.length_drop] at h0
    have : b' = b := by unfold advE at ha; split at ha; (cases ha; rfl); (split at ha <;> (cases ha; rfl))
    subst this
    exact hb _ o rfl (by omega)
theorem LfD.parts {left : List Ent} (h : LfD w lv left who) : ∃ a c vs2, lv = .slice a left.length c ∧ GvD w vs2 left who ∧ SlT fE 2 w a left.length c vs2 := by
  obtain ⟨ap, c, vs2, e, hg, hs, hb⟩ := h
  exact ⟨ap, c, vs2, e, hg, hs⟩
/-- one more Block, of which so many are taken -/
theorem takeM_blk {s0 s s1 : RS} {l0 left es x : List Ent} {k n L : Nat} (hs : s.Ok L) (h : takeM k s0 l0 = (es, s, left, false)) (hX : blL mxI s left = ((x, true), s1)) (hn : n ≤ x.length) (hn1 : 1 ≤ n) : takeM (k + n) s0 l0 = (es ++ x.take n, s1, x.drop n, false) := by
  rw [takeM_add n k s0 l0 es s left h]
  by_cases hl : left = []
  · subst hl
    have hX' : nxM mxI s = ((x, true), s1) := by unfold blL at hX; rw [if_pos rfl] at hX; exact hX
    cases x with
    | nil => simp at hn; omega
    | cons e t =>
      obtain ⟨j, rfl⟩ : ∃ j, n = j + 1 := ⟨n - 1, by omega⟩
      rw [takeM_some (stepM_next hX'), takeM_left j t (by simpa using hn)]
      rfl
  · have hX' : ((left, true), s) = ((x, true), s1) := by unfold blL at hX; rw [if_neg hl] at hX; exact hX
    cases hX'
    rw [takeM_left n left hn]
theorem takeM_fin {s0 s s1 : RS} {l0 left es x : List Ent} {k : Nat} (h : takeM k s0 l0 = (es, s, left, false)) (hX : blL mxI s left = ((x, false), s1)) : takeM (k + 1) s0 l0 = (es, s1, [], true) := by
  by_cases hl : left = []
  · subst hl
    have hX' : nxM mxI s = ((x, false), s1) := by unfold blL at hX; rw [if_pos rfl] at hX; exact hX
    exact takeM_over h (stepM_end hX')
  · unfold blL at hX; rw [if_neg hl] at hX; cases hX
theorem blL_ok {s : RS} {left : List Ent} {L : Nat} (h : s.Ok L) : blL mxR s left = blL mxI s left ∧ (blL mxI s left).2.Ok L ∧ ((blL mxI s left).1.2 = true → 1 ≤ (blL mxI s left).1.1.length) ∧ ((blL mxI s left).1.2 = false → left = []) := by
  by_cases hl : left = []
  · subst hl
    unfold blL
    rw [if_pos rfl, if_pos rfl]
    exact ⟨h.same, h.next, fun e => (h.fair e).1, fun _ => rfl⟩
  · unfold blL
    rw [if_neg hl, if_neg hl]
    exact ⟨rfl, h, fun _ => by cases left with | nil => exact absurd rfl hl | cons e t => simp, fun e => by cases e⟩
def SoPost (bs : List UInt8) (lo gt g gi m : Nat) (s : RS) (left : List Ent) (who : Nat → Nat) (w : World) (e : Ending) (w' : World) : Prop :=
  ∃ y bg' S' lv' rv' vs' who' s' left' es b, e = .returned y ∧ takeM m s left = (es, s', left', b) ∧ LfD w' y es who' ∧ LfD w' lv' left' who' ∧ Rrp w' bs lo gt g gi bg' S' lv' rv' vs' s' who' ∧ GrW w w' who who'
theorem so_fin {m : Nat} {s s2 : RS} {left es left2 : List Ent} {b bg2 : Bool} {w2 : World} {S2 : Nat → Prop} {v lv2 rv2 : Value} {vs2 : List RV} {who2 : Nat → Nat} {pre : List (Sv × Sv)} (hlw : lo ≤ w.heap.size) (ho : OwT fE w2 w.heap.size 51 v pre) (hz : ∀ j, v.ownBlock = some j → who2 j = 0) (hgv : GvD w2 pre es who2)
    (hlf : LfD w2 lv2 left2 who2) (hR : Rrp w2 bs lo gt g gi bg2 S2 lv2 rv2 vs2 s2 who2) (hG : GrW w w2 who who2) (ht : takeM m s left = (es, s2, left2, b)) : SoPost bs lo gt g gi m s left who w (.returned v) w2 := by
  have hP : ∀ j, v.ownBlock = some j → (who2 j = 0 ∨ who2 j = 5) ∧ lo ≤ j ∧ j < w2.heap.size := fun j hj => ⟨.inl (hz j hj), Nat.le_trans hlw (ho.lt j hj).1, (ho.lt j hj).2⟩
  have h5 : ∀ j, who2 j = 5 → who5 who2 (fun j => v.ownBlock = some j) j = 5 := fun j e => by
    by_cases hp : v.ownBlock = some j
    · exact who5_in hp
    · rw [who5_no hp]; exact e
  have hr := Turns.refl (fun _ => False) w2
  have hgv' := hgv.turn (who' := who5 who2 (fun j => v.ownBlock = some j)) hr (fun _ e => e.elim) (fun j _ e => h5 j e)
  obtain ⟨a, c, hv, hs⟩ := ho.sl fE_len
  have hlen := hgv.1
  refine ⟨v, bg2, S2, lv2, rv2, vs2, who5 who2 (fun j => v.ownBlock = some j), s2, left2, es, b, rfl, ht, ⟨a, c, pre, by rw [hv, hlen], hgv', by rw [← hlen]; exact hs, fun b o ha h0 => who5_in (by rw [hv, ha]; rfl)⟩, hlf.turn hr (fun _ e => e.elim) (fun j _ e => h5 j e), hR.own5 hP, hG.own5 fun j hj => (ho.lt j hj).1⟩
set_option maxRecDepth 100000 in
set_option maxHeartbeats 8000000 in
theorem rsome_any (hbl : bs.length ≤ 140737488351232) {m : Nat} {x : Int} (hx : x = (m : Nat)) (hm : m ≤ 4611686018427387904) {left : List Ent} (h : Rrp w bs lo gt g gi bg S lv rv vs s who) (hlf : LfD w lv left who) (hk : s.Ok L) (hL : L ≤ 140737488351232) (hll : left.length ≤ 1000) :
    Calls Tryz.prog 32 #[.pointer (some ⟨g, 0, none⟩), .int .i64 x] w (SoPost bs lo gt g gi m s left who w) := by
  subst hx
  have H := Lib.hid h
  have LF := Lib.hid hlf
  have OK := Lib.hid hk
  have hlw := h.lw
  clear h hlf hk
  go_enter Tryz.func32, Tryz.ntmps32
  go_wp2_with fail
  go_loopw [5] (fun o wr => ∃ (v lv' rv' : Value) (pre : List (Sv × Sv)) (es left' : List Ent) (bg' : Bool) (S' : Nat → Prop) (vs' : List RV) (s' : RS) (who' : Nat → Nat), o = v ∧ OwT fE wr w.heap.size 51 v pre ∧ (∀ j, v.ownBlock = some j → who' j = 0) ∧ GvD wr pre es who' ∧ pre.length ≤ m ∧ takeM pre.length s left = (es, s', left', false) ∧ Rrp wr bs lo gt g gi bg' S' lv' rv' vs' s' who' ∧ LfD wr lv' left' who' ∧ s'.Ok L ∧ GrW w wr who who') (fun o _ => m - slLen o)
  case atStart => exact ⟨_, lv, rv, [], [], left, bg, S, vs, s, who, rfl, OwT.nil _ _ _ _, fun j e => (by cases e), GvD.nil, Nat.zero_le _, rfl, H.out, LF.out, OK.out, GrW.refl _ _⟩
  case round =>
    obtain ⟨v, lv', rv', pre, es, left', bg', S', vs', s', who', rfl, ho, hw0, hgv, hpm, htk, hR, hlf, hok, hG⟩ := hrel
    obtain ⟨a1, n1, c1, rfl, hn1, hc1⟩ := ho.slE
    have hz1 : n1 = pre.length := hn1
    rw [← hz1] at hpm htk
    have hmost := takeM_most _ _ _ _ _ _ _ OK.out htk
    have hel := takeM_len _ _ _ _ _ _ htk
    have hmany := hok.many
    have hn64 : n1 ≤ 540000000 := by omega
    have HO := Lib.hid ho
    have HW0 := Lib.hid hw0
    have HGV := Lib.hid hgv
    have TK := Lib.hid htk
    have R1 := Lib.hid hR
    have LF1 := Lib.hid hlf
    have OK1 := Lib.hid hok
    have G1 := Lib.hid hG
    have HZ1 := Lib.hid hz1
    have hwr := hG.t.size
    clear ho hw0 hgv htk hR hlf hok hG hn1 hz1 hmost hel hmany H LF
    by_cases hlt : n1 < m
    · have BK := rblkL_any hbl R1.out LF1.out OK1.out hL
      obtain ⟨q1, q2, q3, q4⟩ := blL_ok (left := left') OK1.out
      rw [q1] at BK
      obtain ⟨⟨⟨x, ok⟩, s2⟩, hX⟩ : ∃ X, blL mxI s' left' = X := ⟨_, rfl⟩
      rw [hX] at BK q2 q3 q4
      have BKH := Lib.hid BK
      have OK2 := Lib.hid q2
      have XL := Lib.hid q3
      have XN := Lib.hid q4
      have HX := Lib.hid hX
      clear BK q1 q2 q3 q4 hX
      go_wp2_with fail
      refine BKH.out.mono ?_
      rintro r w2 ⟨y, bg2, S2, lv2, rv2, vs2, who2, rfl, hy, hlf2, hR2, hG2⟩
      dsimp only at hy hR2 ⊢
      have HY := Lib.hid hy
      have LF2 := Lib.hid hlf2
      have R2 := Lib.hid hR2
      have G2 := Lib.hid hG2
      obtain ⟨nx, hnx⟩ : ∃ n, x.length = n := ⟨_, rfl⟩
      obtain ⟨a2, c2, es2, rfl, hgv2, hsl2⟩ := hy.parts
      rw [hnx] at HY hsl2
      have HNX := Lib.hid hnx
      have GV2 := Lib.hid hgv2
      have SL2 := Lib.hid hsl2
      have s2w := hG2.t.size
      have n5 : ∀ j, who' j ≠ 0 ∧ who' j ≠ 5 → who' j ≠ 5 := fun j e => e.2
      have hO2 := HO.out.turns hG2.t (fun j hj e => e.1 (HW0.out j hj))
      have hGVo := HGV.out.turn hG2.t n5 (fun j hj e => hG2.five hj e)
      have hW2 : ∀ j, Value.ownBlock (.slice a1 n1 c1) = some j → who2 j = 0 := fun j hj => hG2.zero (HO.out.lt j hj).2 (HW0.out j hj)
      have O2 := Lib.hid hO2
      have GVO := Lib.hid hGVo
      have W2 := Lib.hid hW2
      have G02 := Lib.hid (G1.out.trans hG2)
      clear hy hlf2 hR2 hG2 hgv2 hsl2 hnx n5 hO2 hGVo hW2 G1 HO HGV HW0 R1 LF1
      rw [HNX.out]
      obtain ⟨ap2, al2, rfl⟩ : ∃ ap al, lv2 = .slice ap 0 al := by obtain ⟨a, c, v, e, _⟩ := LF2.out; exact ⟨a, c, e⟩
      cases ok with
      | false =>
        have TKF := Lib.hid (takeM_more _ m _ _ _ _ _ (takeM_fin TK.out HX.out) hlt)
        go_wp2_with fail
        go_ret
        exact so_fin hlw O2.out W2.out GVO.out (LfD.nil ap2 al2 (by obtain ⟨_, _, _, e, _, h1, _⟩ := LF2.out; cases e; exact h1.2.2.1)) R2.out G02.out TKF.out
      | true =>
        have hx1 : 1 ≤ nx := by have := XL.out rfl; rw [HNX.out] at this; exact this
        obtain ⟨b2, o2, hb2⟩ : ∃ b o, a2 = some ⟨b, o, none⟩ := by
          obtain ⟨z, hz⟩ : ∃ z, es2[0]? = some z := ⟨_, List.getElem?_eq_getElem (by have := SL2.out.1; omega)⟩
          obtain ⟨b, o, ha, _⟩ := SL2.out.2.2.2 0 z hz
          exact ⟨b, o, ha⟩
        subst hb2
        obtain ⟨nn, hnn⟩ : ∃ n, min nx (m - n1) = n := ⟨_, rfl⟩
        have hnn1 : 1 ≤ nn := by omega
        have hnnx : nn ≤ nx := by omega
        have hnnm : n1 + nn ≤ m := by omega
        have hmin : min ((nx : Nat) : Int) ((m : Int) - (n1 : Int)) = ((nn : Nat) : Int) := by omega
        have TK3 := Lib.hid (takeM_blk OK1.out TK.out HX.out (n := nn) (by rw [HNX.out]; exact hnnx) hnn1)
        have hmost := takeM_most _ _ _ _ _ _ _ OK.out TK3.out
        have hel := takeM_len _ _ _ _ _ _ TK3.out
        have hmany := OK2.out.many
        have hn64' : n1 + nn ≤ 540000000 := by omega
        have hcutA := fun W : World => run_cutE W (some ⟨b2, o2, none⟩) nx c2 .i64 nn (by have := SL2.out.2.1; omega)
        have hcutB := fun W : World => run_cutEn W b2 o2 nx c2 nn hnnx
        obtain ⟨av, hav⟩ : ∃ a, advE b2 o2 c2 nn = a := ⟨_, rfl⟩
        obtain ⟨nv, hnv⟩ : ∃ k, nx - nn = k := ⟨_, rfl⟩
        obtain ⟨cv, hcv⟩ : ∃ k, c2 - nn = k := ⟨_, rfl⟩
        simp only [hav, hnv, hcv] at hcutB
        have hLd := HY.out.drop hnnx
        rw [hav, hnv, hcv] at hLd
        have LD := Lib.hid hLd
        clear hnn hmost hel hmany hav hnv hcv hLd
        go_wp2_with (at_builtin; refine wpList_appT eltTE rfl (.tmp 27) (.tmp 30) rfl w.heap.size (.slice a1 n1 c1) pre (by rfl) O2.out (some ⟨b2, o2, none⟩) nn c2 (es2.take nn) (by rfl) (SL2.out.takeE hnnx) (by have := HZ1.out; unfold maxLen; omega) (by have := HZ1.out; omega) (by omega) (pre ++ es2.take nn) rfl ?_; intro v3 w3 h3 hg3 hv3 hb3; obtain ⟨a3, n3, c3, rfl, hn3, -⟩ := h3.slE; have O3 := Lib.hid h3; have GR3 := Lib.hid hg3; have HV3 := Lib.hid hv3; have HB3 := Lib.hid hb3; have HN3 := Lib.hid hn3; have T3 := Lib.hid (Turns.of_grown (S := fun j => Value.ownBlock (.slice a1 n1 c1) = some j) hg3 (fun j hj => hj)); have R3 := Lib.hid (R2.out.turn hbl T3.out (fun j hj => W2.out j hj) (fun j hj => Nat.le_trans hlw (O2.out.lt j hj).1)); have hc6 := R3.out.c6; have hf6 := R3.out.free 6; clear h3 hg3 hv3 hb3 hn3)
        go_roundw
        case rel =>
          obtain ⟨w4, hw4⟩ : ∃ V, w3.setCell ⟨g, 6, none⟩ (.slice av nv cv) = V := ⟨_, rfl⟩
          have ht4 : Turns (fun j => j = g) w3 w4 := hw4 ▸ Turns.set (S := fun j => j = g) w3 (b := g) (i := 6) rfl (.slice av nv cv)
          have hb4 := set_block (i := 6) R3.out.blk (.slice av nv cv)
          rw [hw4] at hb4 ⊢
          obtain ⟨hR4, hG4⟩ := R3.out.updG (lv' := .slice av nv cv) (bg' := bg2) (ph := s2.ph) (pt := s2.pt) (er := s2.er) hbl ht4 hb4 R3.out.b0 R3.out.b1
          have g5 : ∀ j, j = g → who2 j ≠ 5 := fun j e => by rw [e, R3.out.gw]; decide
          have a5 : ∀ j, Value.ownBlock (.slice a1 n1 c1) = some j → who2 j ≠ 5 := fun j e => by rw [W2.out j e]; decide
          have hW3 : ∀ j, Value.ownBlock (.slice a3 n3 c3) = some j → who2 j = 0 := fun j hj => by
            rcases HV3.out with q | q
            · exact W2.out j (q ▸ hj)
            · rw [q] at hj; cases hj
              exact Classical.byContradiction fun e => by have := (R2.out.low _ e).2; omega
          have hG3 : GrW w w3 who who2 := ⟨G02.out.t.trans T3.out (fun j hj e => by have := (O2.out.lt j e).1; omega), G02.out.o⟩
          have hlen : (pre ++ es2.take nn).length = n1 + nn := by have := HZ1.out; have := SL2.out.1; rw [List.length_append, List.length_take]; omega
          exact ⟨_, _, rv2, pre ++ es2.take nn, es ++ x.take nn, x.drop nn, bg2, S2, vs2, s2, who2, rfl, O3.out.turns ht4 (fun j hj e => by have := hW3 j hj; rw [e, R3.out.gw] at this; cases this), hW3,
            ((GVO.out.turn T3.out a5 (fun _ _ e => e)).app ((GV2.out.take nn).turn T3.out a5 (fun _ _ e => e))).turn ht4 g5 (fun _ _ e => e), by rw [hlen]; exact hnnm, by rw [hlen]; exact TK3.out, hR4, (LD.out.turn T3.out a5 (fun _ _ e => e)).turn ht4 g5 (fun _ _ e => e), OK2.out, hG3.trans hG4⟩
        case measure =>
          have h1 : n3 = n1 + nn := by have := HN3.out; have := HZ1.out; have h2 := SL2.out.1; rw [List.length_append, List.length_take] at *; omega
          show m - n3 < m - n1
          omega
    · obtain rfl : n1 = m := by omega
      go_wp2_with fail
      go_ret
      exact so_fin hlw HO.out HW0.out HGV.out LF1.out R1.out G1.out TK.out
end
end Go.Proofs.YtljcogimeimknaaGreat
