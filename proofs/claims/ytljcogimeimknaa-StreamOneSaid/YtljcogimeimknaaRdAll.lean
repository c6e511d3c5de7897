/- Going through a reader's entries: (*Reader).All: what it hands back. Conditions: the reader stands rightly. Written by a program of this place (gen_RdAll.py). -/
import Derived.Test.YtljcogimeimknaaRangeW
import Derived.Test.YtljcogimeimknaaRdTake
import Derived.Test.YtljcogimeimknaaK8w
import Derived.RangeFuncBox
import Derived.OwnWalkIn
import Derived.TacticsInMore
import Derived.LoopNIn
import Derived.LoopIn
namespace Go.Proofs.Ytljcogimeimknaa
open Go.RowKit Go.Shelf
open Lib (hid)
attribute [local go_sem] Oper.semAt_some
set_option linter.unusedVariables false
set_option linter.unusedSimpArgs false

/-- blocks of P are given away: owner 6 -/
noncomputable def who6 (who : Nat → Nat) (P : Nat → Prop) : Nat → Nat := by
 classical exact fun j => if P j then 6 else who j
theorem who6_in {who : Nat → Nat} {P : Nat → Prop} {j : Nat} (h : P j) : who6 who P j = 6 := by unfold who6; rw [if_pos h]
theorem who6_no {who : Nat → Nat} {P : Nat → Prop} {j : Nat} (h : ¬ P j) : who6 who P j = who j := by unfold who6; rw [if_neg h]
section
variable {w w' w1 : World} {lo gs g gi L : Nat} {S : Nat → Prop} {lv rv : Value} {vs : List RV} {s : RS} {who who' : Nat → Nat}
theorem Rdp.own6 (h : Rdp w lo gs g gi S lv rv vs s who) {P : Nat → Prop} (hP : ∀ j, P j → who j = 0 ∧ lo ≤ j ∧ j < w.heap.size) : Rdp w lo gs g gi S lv rv vs s (who6 who P) := by
 have q : ∀ j k, who j = k → k ≠ 0 → who6 who P j = k := fun j k e hk => by rw [who6_no fun hp => hk (e ▸ (hP j hp).1)]; exact e
 refine ⟨fun j hj => ?_, h.lw, h.blk, q g 1 h.gw (by decide), h.io, q gi 2 h.iw (by decide), h.st, fun j hj => q j 3 (h.sw j hj) (by decide), h.rw, fun j hj => q j 4 (h.rb j hj) (by decide), h.rl, fun i x r hx hr => ?_⟩
 · by_cases hp : P j
   · exact (hP j hp).2
   · rw [who6_no hp] at hj; exact h.low j hj
 · obtain ⟨e, e2, e3⟩ := h.rk i x r hx hr
   exact ⟨e, e2, fun b o hb h0 => q b 5 (e3 b o hb h0) (by decide)⟩
theorem Gr.own6 (h : Gr w w' who who') {P : Nat → Prop} (hP : ∀ j, P j → w.heap.size ≤ j) : Gr w w' who (who6 who' P) :=
 ⟨h.t, fun j hj => by rw [who6_no fun hp => by have := hP j hp; omega]; exact h.o j hj⟩

/-- entries that were given: their texts -/
def GvP (w : World) (lo : Nat) (pre : List (Sv × Sv)) (es : List Ent) (who : Nat → Nat) : Prop :=
 pre.length = es.length ∧ ∀ (i : Nat) (x : Sv × Sv) (e : Ent), pre[i]? = some x → es[i]? = some e → OwT fB w lo 5 (sv x.1) e.1 ∧ OwT fB w lo 5 (sv x.2) e.2 ∧ ∀ j, (sv x.1).ownBlock = some j ∨ (sv x.2).ownBlock = some j → who j = 6
theorem GvP.nil : GvP w lo [] [] who := ⟨rfl, fun i x e h _ => by simp at h⟩
theorem GvP.turn {T : Nat → Prop} {pre : List (Sv × Sv)} {es : List Ent} (h : GvP w lo pre es who) (ht : Turns T w w') (hT : ∀ j, T j → who j ≠ 6) (hw : ∀ j, who j = 6 → who' j = 6) : GvP w' lo pre es who' :=
 ⟨h.1, fun i x e hx he => by
  obtain ⟨o1, o2, o3⟩ := h.2 i x e hx he
  exact ⟨o1.turns ht fun j hj hs => hT j hs (o3 j (.inl hj)), o2.turns ht fun j hj hs => hT j hs (o3 j (.inr hj)), fun j hj => hw j (o3 j hj)⟩⟩
theorem GvP.snoc {pre : List (Sv × Sv)} {es : List Ent} (h : GvP w lo pre es who) {x : Sv × Sv} {e : Ent} (hx : OwT fB w lo 5 (sv x.1) e.1 ∧ OwT fB w lo 5 (sv x.2) e.2 ∧ ∀ j, (sv x.1).ownBlock = some j ∨ (sv x.2).ownBlock = some j → who j = 6) : GvP w lo (pre ++ [x]) (es ++ [e]) who := by
 have hl := h.1
 refine ⟨by rw [List.length_append, List.length_append, hl]; rfl, fun i y f hy hf => ?_⟩
 by_cases hi : i < pre.length
 · rw [List.getElem?_append_left hi] at hy
   rw [List.getElem?_append_left (by omega)] at hf
   exact h.2 i y f hy hf
 · rw [List.getElem?_append_right (by omega)] at hy
   rw [List.getElem?_append_right (by omega)] at hf
   have h0 : i - pre.length = 0 := by have := (List.getElem?_eq_some_iff.1 hy).1; simp at this; omega
   rw [h0] at hy
   rw [← hl, h0] at hf
   obtain rfl : x = y := by simpa using hy
   obtain rfl : e = f := by simpa using hf
   exact hx
theorem GvP.tail {x : Sv × Sv} {e : Ent} {vs : List (Sv × Sv)} {es : List Ent} (h : GvP w lo (x :: vs) (e :: es) who) : GvP w lo vs es who :=
 ⟨by simpa using h.1, fun i y f hy hf => h.2 (i + 1) y f (by simpa using hy) (by simpa using hf)⟩
/-- the blocks of what is left -/
def LfB (ap : Option Addr) (vs : List (Sv × Sv)) (j : Nat) : Prop := (0 < vs.length ∧ ∃ o, ap = some ⟨j, o, none⟩) ∨ ∃ (i : Nat) (x : Sv × Sv), vs[i]? = some x ∧ ((sv x.1).ownBlock = some j ∨ (sv x.2).ownBlock = some j)
/-- the texts' blocks of what was given -/
def GvB (pre : List (Sv × Sv)) (j : Nat) : Prop := ∃ (i : Nat) (x : Sv × Sv), pre[i]? = some x ∧ ((sv x.1).ownBlock = some j ∨ (sv x.2).ownBlock = some j)
theorem GvB.snoc {pre : List (Sv × Sv)} {x : Sv × Sv} {j : Nat} (h : GvB (pre ++ [x]) j) : GvB pre j ∨ ((sv x.1).ownBlock = some j ∨ (sv x.2).ownBlock = some j) := by
 obtain ⟨i, y, hy, hj⟩ := h
 by_cases hi : i < pre.length
 · rw [List.getElem?_append_left hi] at hy; exact .inl ⟨i, y, hy, hj⟩
 · rw [List.getElem?_append_right (by omega)] at hy
   have h0 : i - pre.length = 0 := by have := (List.getElem?_eq_some_iff.1 hy).1; simp at this; omega
   rw [h0] at hy
   obtain rfl : x = y := by simpa using hy
   exact .inr hj
theorem GvP.low {pre : List (Sv × Sv)} {es : List Ent} (h : GvP w lo pre es who) {j : Nat} (hj : GvB pre j) : who j = 6 ∧ j < w.heap.size := by
 obtain ⟨i, x, hx, hj⟩ := hj
 obtain ⟨e, he⟩ : ∃ e, es[i]? = some e := ⟨_, List.getElem?_eq_getElem (by have := (List.getElem?_eq_some_iff.1 hx).1; have := h.1; omega)⟩
 obtain ⟨o1, o2, o3⟩ := h.2 i x e hx he
 exact ⟨o3 j hj, by rcases hj with q | q; exact (o1.lt j q).2; exact (o2.lt j q).2⟩
/-- what All has left of a block: its row, its texts, in blocks of Q -/
def LfP (w : World) (lo : Nat) (lv : Value) (left : List Ent) (who : Nat → Nat) (Q : Nat → Prop) : Prop :=
 ∃ ap c vs, lv = .slice ap left.length c ∧ left.length ≤ c ∧ GvP w lo vs left who ∧ (∀ (i : Nat) (x : Sv × Sv), vs[i]? = some x → ∃ b o, ap = some ⟨b, o, none⟩ ∧ who b = 6 ∧ w.cell? ⟨b, o + i * 2, none⟩ = some (sv x.1) ∧ w.cell? ⟨b, o + i * 2 + 1, none⟩ = some (sv x.2)) ∧ (∀ j, LfB ap vs j → Q j) ∧
  (∀ (i : Nat) (x : Sv × Sv), vs[i]? = some x → ∀ j, (∃ o, ap = some ⟨j, o, none⟩) → (sv x.1).ownBlock ≠ some j ∧ (sv x.2).ownBlock ≠ some j) ∧
  ∀ (i k : Nat) (x z : Sv × Sv), i < k → vs[i]? = some x → vs[k]? = some z → ∀ j, ((sv x.1).ownBlock = some j ∨ (sv x.2).ownBlock = some j) → ¬ ((sv z.1).ownBlock = some j ∨ (sv z.2).ownBlock = some j)
theorem LfP.nil (ap : Option Addr) (al : Nat) : LfP w lo (.slice ap 0 al) [] who (fun _ => False) :=
 ⟨ap, al, [], rfl, Nat.zero_le _, GvP.nil, fun i x h => by simp at h, fun j hj => by rcases hj with ⟨h, _⟩ | ⟨i, x, h, _⟩; (simp at h); (simp at h), fun i x h => by simp at h, fun i k x z _ h => by simp at h⟩
theorem LfP.turn {T : Nat → Prop} {left : List Ent} {Q : Nat → Prop} (h : LfP w lo lv left who Q) (ht : Turns T w w') (hT : ∀ j, T j → who j ≠ 6) (hw : ∀ j, who j = 6 → who' j = 6) : LfP w' lo lv left who' Q := by
 obtain ⟨ap, c, vs, e, hc, hg, hx, hq, hf, ha⟩ := h
 refine ⟨ap, c, vs, e, hc, hg.turn ht hT hw, fun i x hi => ?_, hq, hf, ha⟩
 obtain ⟨b, o, ha, hb, c0, c1⟩ := hx i x hi
 have kp : ∀ {j : Nat} {v : Value}, w.cell? ⟨b, j, none⟩ = some v → w'.cell? ⟨b, j, none⟩ = some v := fun hq => (World.cell?_of_block (ht.block _ (cell_lt hq) fun hs => hT b hs hb)).trans hq
 exact ⟨b, o, ha, hw b hb, kp c0, kp c1⟩
theorem RdL.lfp {lo' : Nat} {y : Value} {xs : List (Sv × Sv)} {es : List Ent} (h : RdL w lo' y xs es) (hl : lo ≤ lo') (hw : ∀ j, RLB y xs j → who j = 6) : LfP w lo y es who (RLB y xs) := by
 obtain ⟨a, c, hv, hs⟩ := h.own.t.sl fE_len
 have hlen := h.len
 have hob : ∀ b o, a = some ⟨b, o, none⟩ → y.ownBlock = some b := fun b o ha => by rw [hv, ha]; rfl
 refine ⟨a, c, xs, by rw [hv, hlen], by rw [← hlen]; exact hs.2.1, ⟨hlen, fun i x e hx he => ?_⟩, fun i x hx => ?_, fun j hj => ?_, fun i x hx j ⟨o, ho⟩ => h.off i x hx j (hob j o ho), h.apt⟩
 · obtain ⟨o1, o2⟩ := h.txt i x e hx he
   exact ⟨o1.base hl, o2.base hl, fun j hj => hw j (.inr ⟨i, x, hx, hj⟩)⟩
 · obtain ⟨b, o, ha, hc⟩ := hs.2.2.2 i x hx
   exact ⟨b, o, ha, hw b (.inl (hob b o ha)), by simpa using hc 0 _ rfl, hc 1 _ rfl⟩
 · rcases hj with ⟨_, o, ho⟩ | ⟨i, x, hx, hj⟩
   · exact .inl (hob j o ho)
   · exact .inr ⟨i, x, hx, hj⟩
/-- one less -/
theorem LfP.pop {e : Ent} {t : List Ent} {ap : Option Addr} {n c : Nat} {Q : Nat → Prop} (h : LfP w lo (.slice ap n c) (e :: t) who Q) :
 ∃ b o ak nk ck av nv cv, ap = some ⟨b, o, none⟩ ∧ n = t.length + 1 ∧ n ≤ c ∧ who b = 6 ∧ w.cell? ⟨b, o, none⟩ = some (.slice ak nk ck) ∧ w.cell? ⟨b, o + 1, none⟩ = some (.slice av nv cv) ∧
  (OwT fB w lo 5 (.slice ak nk ck) e.1 ∧ OwT fB w lo 5 (.slice av nv cv) e.2 ∧ ∀ j, Value.ownBlock (.slice ak nk ck) = some j ∨ Value.ownBlock (.slice av nv cv) = some j → who j = 6) ∧
  ∃ Q' : Nat → Prop, LfP w lo (.slice (if c = 1 then some ⟨b, o, none⟩ else some ⟨b, o + 2, none⟩) (n - 1) (c - 1)) t who Q' ∧ (∀ j, Q' j → Q j) ∧ ∀ j, Value.ownBlock (.slice ak nk ck) = some j ∨ Value.ownBlock (.slice av nv cv) = some j → ¬ Q' j := by
 obtain ⟨ap', c', vs, hv, hc, hg, hx, hq, hf, hap⟩ := h
 injection hv with e1 e2 e3
 subst e1 e2 e3
 have hl := hg.1
 cases vs with
 | nil => simp at hl
 | cons x xs =>
  obtain ⟨⟨ak, nk, ck⟩, ⟨av, nv, cv⟩⟩ := x
  obtain ⟨b, o, ha, hb, c0, c1⟩ := hx 0 _ rfl
  subst ha
  simp only [Nat.zero_mul, Nat.add_zero] at c0 c1
  have hadr : ∀ j o', (if c = 1 then some (⟨b, o, none⟩ : Addr) else some ⟨b, o + 2, none⟩) = some ⟨j, o', none⟩ → j = b := fun j o' e => by split at e <;> (cases e; rfl)
  refine ⟨b, o, ak, nk, ck, av, nv, cv, rfl, by simp, hc, hb, c0, c1, hg.2 0 _ e rfl rfl, LfB (if c = 1 then some ⟨b, o, none⟩ else some ⟨b, o + 2, none⟩) xs, ⟨if c = 1 then some ⟨b, o, none⟩ else some ⟨b, o + 2, none⟩, c - 1, xs, rfl, by have : t.length + 1 ≤ c := hc; omega, hg.tail, fun i y hy => ?_, fun _ h => h, fun i y hy j ⟨o', ho'⟩ => ?_, fun i k y z hik hy hz => ?_⟩, fun j hj => hq j ?_, fun j hj hL => ?_⟩
  · obtain ⟨b', o', ha', hb', d0, d1⟩ := hx (i + 1) y (by simpa using hy)
    cases ha'
    have hxl := (List.getElem?_eq_some_iff.1 hy).1
    have : c ≠ 1 := by simp at hc hl; omega
    exact ⟨b, o + 2, by rw [if_neg this], hb', by rw [show o + 2 + i * 2 = o + (i + 1) * 2 by omega]; exact d0, by rw [show o + 2 + i * 2 + 1 = o + (i + 1) * 2 + 1 by omega]; exact d1⟩
  · have := hadr j o' ho'
    subst this
    exact hf (i + 1) y (by simpa using hy) j ⟨o, rfl⟩
  · exact hap (i + 1) (k + 1) y z (by omega) (by simpa using hy) (by simpa using hz)
  · rcases hj with ⟨_, o', ho'⟩ | ⟨i, y, hy, hj⟩
    · have := hadr j o' ho'
      subst this
      exact .inl ⟨by simp, o, rfl⟩
    · exact .inr ⟨i + 1, y, by simpa using hy, hj⟩
  · rcases hL with ⟨_, o', ho'⟩ | ⟨i, y, hy, hj2⟩
    · have := hadr j o' ho'
      subst this
      have := hf 0 _ rfl j ⟨o, rfl⟩
      rcases hj with q | q
      · exact this.1 q
      · exact this.2 q
    · exact hap 0 (i + 1) _ y (by omega) rfl (by simpa using hy) j hj hj2

/-- where All stands behind so many entries -/
def AllR (lo gs g gi Bx L : Nat) (s0 : RS) (l0 : List Ent) (pre : List (Sv × Sv)) (who : Nat → Nat) (w : World) : Prop :=
 ∃ S lv rv vs s left es Q, Rdp w lo gs g gi S lv rv vs s who ∧ s.Ok L ∧ LfP w lo lv left who Q ∧ takeM pre.length s0 l0 = (es, s, left, false) ∧ GvP w lo pre es who ∧ Boxed w Bx 57 (.pointer (some ⟨g, 0, none⟩)) ∧ who Bx = 6 ∧ ∀ j, GvB pre j → ¬ Q j
def AllE (lo gs g gi Bx L : Nat) (s0 : RS) (l0 : List Ent) (pre : List (Sv × Sv)) (who : Nat → Nat) (w : World) : Prop :=
 ∃ S ap al rv vs s es, Rdp w lo gs g gi S (.slice ap 0 al) rv vs s who ∧ s.Ok L ∧ takeM (pre.length + 1) s0 l0 = (es, s, [], true) ∧ GvP w lo pre es who ∧ Boxed w Bx 57 (.pointer (some ⟨g, 0, none⟩)) ∧ who Bx = 6
theorem AllR.turn {Bx : Nat} {s0 : RS} {l0 : List Ent} {pre : List (Sv × Sv)} (h : AllR lo gs g gi Bx L s0 l0 pre who w) (ht : Turns (fun j => who j = 0) w w') : AllR lo gs g gi Bx L s0 l0 pre who w' := by
 obtain ⟨S, lv, rv, vs, s, left, es, Q, h1, h2, h3, h4, h5, h6, h7, h8⟩ := h
 have n6 : ∀ j, who j = 0 → who j ≠ 6 := fun j e => by rw [e]; decide
 exact ⟨S, lv, rv, vs, s, left, es, Q, h1.turn ht (fun _ e => e), h2, h3.turn ht n6 (fun _ e => e), h4, h5.turn ht n6 (fun _ e => e), ht.heap h6 (by rw [h7]; decide), h7, h8⟩
theorem AllE.turn {Bx : Nat} {s0 : RS} {l0 : List Ent} {pre : List (Sv × Sv)} (h : AllE lo gs g gi Bx L s0 l0 pre who w) (ht : Turns (fun j => who j = 0) w w') : AllE lo gs g gi Bx L s0 l0 pre who w' := by
 obtain ⟨S, ap, al, rv, vs, s, es, h1, h2, h4, h5, h6, h7⟩ := h
 have n6 : ∀ j, who j = 0 → who j ≠ 6 := fun j e => by rw [e]; decide
 exact ⟨S, ap, al, rv, vs, s, es, h1.turn ht (fun _ e => e), h2, h4, h5.turn ht n6 (fun _ e => e), ht.heap h6 (by rw [h7]; decide), h7⟩

/-- what it does next: a contract at the function that it holds -/
theorem rdnx_any (h : Rdp w lo gs g gi S lv rv vs s who) (hk : s.Ok L) (hL : L ≤ 140737488351232) :
 ∃ f, nextV g s.ph = .func (.func f) #[.pointer (some ⟨g, 0, none⟩)] #[] ∧ (f = 57 ∨ f = 83 ∨ (f = 100 ∧ (nxM mxI s).1.2 = false)) ∧
  Calls Try.prog f #[.pointer (some ⟨g, 0, none⟩)] w (RXPost lo gs g gi lv who w (nxM mxI s)) := by
 have hO := hk.ok.most (m' := mxI) (by decide)
 have hp := hk.ph
 have hmany := hk.many
 have hfit := hk.fit.mono (show 64 ≤ 140737488351232 by decide)
 by_cases h0 : s.ph = 0
 · refine ⟨_, by unfold nextV; rw [if_pos h0], .inl rfl, ?_⟩
   unfold nxM; rw [if_pos h0]
   exact rdhead_any h hO (by split <;> omega) hL hmany hfit (by have := hk.h0 h0; omega) h0
 by_cases h1 : s.ph = 1
 · refine ⟨_, by unfold nextV; rw [if_neg h0, if_pos h1], .inr (.inl rfl), ?_⟩
   unfold nxM; rw [if_neg h0, if_pos h1]
   exact rdframe_any h hO (by split <;> omega) hL hmany hfit (by have := hk.pl (by omega); omega) (hk.er (by omega)) h1
 · refine ⟨_, by unfold nextV; rw [if_neg h0, if_neg h1], .inr (.inr ⟨rfl, by unfold nxM; rw [if_neg h0, if_neg h1]⟩), ?_⟩
   unfold nxM; rw [if_neg h0, if_neg h1]
   refine (rended_any w g).mono ?_
   rintro r w' ⟨rfl, rfl⟩
   exact ⟨_, [], S, rv, vs, who, rfl, RdL.nil _ _, fun j hj => (RLB_nil hj).elim, h, Gr.refl _ _⟩
/-- blocks of owner 6 let be -/
noncomputable def cut6 (who : Nat → Nat) : Nat → Nat := fun j => if who j = 6 then 0 else who j
theorem cut6_no {j : Nat} (h : who j ≠ 6) : cut6 who j = who j := by unfold cut6; rw [if_neg h]
theorem cut6_in {j : Nat} (h : who j = 6) : cut6 who j = 0 := by unfold cut6; rw [if_pos h]
theorem cut6_ne {j : Nat} (h : cut6 who j ≠ 0) : who j ≠ 0 ∧ who j ≠ 6 := by
 by_cases e : who j = 6
 · exact absurd (cut6_in e) h
 · rw [cut6_no e] at h; exact ⟨h, e⟩
theorem Rdp.cut6 (h : Rdp w lo gs g gi S lv rv vs s who) : Rdp w lo gs g gi S lv rv vs s (cut6 who) := by
 have q : ∀ j k, who j = k → k ≠ 6 → Go.Proofs.Ytljcogimeimknaa.cut6 who j = k := fun j k e hk => by rw [cut6_no (by rw [e]; exact hk)]; exact e
 exact ⟨fun j hj => h.low j (cut6_ne hj).1, h.lw, h.blk, q g 1 h.gw (by decide), h.io, q gi 2 h.iw (by decide), h.st, fun j hj => q j 3 (h.sw j hj) (by decide), h.rw, fun j hj => q j 4 (h.rb j hj) (by decide), h.rl, fun i x r hx hr => ⟨(h.rk i x r hx hr).1, (h.rk i x r hx hr).2.1, fun b o hb h0 => q b 5 ((h.rk i x r hx hr).2.2 b o hb h0) (by decide)⟩⟩
/-- behind a block, its list given away -/
def NXPost (lo gs g gi : Nat) (lv : Value) (who : Nat → Nat) (w : World) (X : RX) (r : Ending) (w' : World) : Prop :=
 ∃ y es S' rv' vs' who', r = .returned (.tuple #[y, .bool X.1.2]) ∧ RdL w' w.heap.size y es X.1.1 ∧ (∀ j, RLB y es j → who' j = 6) ∧ Rdp w' lo gs g gi S' lv rv' vs' X.2 who' ∧ Gr w w' who who' ∧ Turns (fun j => who j ≠ 0 ∧ who j ≠ 6) w w' ∧ ∀ j, who j = 6 → who' j = 6
theorem RXPost.six {X : RX} {r : Ending} (hd : Rdp w lo gs g gi S lv rv vs s who) (h : RXPost lo gs g gi lv (Go.Proofs.Ytljcogimeimknaa.cut6 who) w X r w') : NXPost lo gs g gi lv who w X r w' := by
 obtain ⟨y, es, S', rv', vs', whoc, e, hl, hz, hR, hG⟩ := h
 have hP : ∀ j, (who j = 6 ∨ RLB y es j) → whoc j = 0 ∧ lo ≤ j ∧ j < w'.heap.size := fun j hj => by
  rcases hj with hj | hj
  · have := hd.low j (by rw [hj]; decide)
    exact ⟨by rw [hG.o j this.2, cut6_in hj], this.1, Nat.lt_of_lt_of_le this.2 hG.t.size⟩
  · have := hl.inB j hj
    exact ⟨hz j hj, Nat.le_trans hd.lw this.1, this.2⟩
 refine ⟨y, es, S', rv', vs', who6 whoc (fun j => who j = 6 ∨ RLB y es j), e, hl, fun j hj => who6_in (.inr hj), hR.own6 hP, ⟨hG.t.mono fun j _ hj => (cut6_ne hj).1, fun j hj => ?_⟩, hG.t.mono fun j _ hj => cut6_ne hj, fun j hj => who6_in (.inl hj)⟩
 by_cases h6 : who j = 6
 · rw [who6_in (.inl h6), h6]
 · rw [who6_no (fun hp => by rcases hp with hp | hp; exact h6 hp; have := (hl.inB j hp).1; omega), hG.o j hj, cut6_no h6]
end
theorem run_cutE1 (w : World) (b o n c : Nat) (hn : 1 ≤ n) : (Instr.slice 22 (.slice (some ⟨b, o, none⟩) n c) (some (.int .i64 1)) none none).run Try.prog w = .ok (.slice (if c = 1 then some ⟨b, o, none⟩ else some ⟨b, o + 2, none⟩) (n - 1) (c - 1)) w := by
 obtain ⟨ht, ⟨i, z, hi1, hi2, hi3, hi4, x0, hz⟩, hf, hk, h1⟩ := eltTE
 have hn' : (1 : Int) ≤ (n : Int) := by omega
 simp [Instr.slice, run_underlying ht, Instr.sliceBounds, Instr.sliceBound, asIntOf, sizeOf, typeInfo, hi1, hi3, hn', Addr.add]
/-- how many rows, and entries that are left, there are: read in memory -/
def rowsW (g : Nat) (w : World) : Nat := match w.cell? ⟨g, 3, none⟩ with | some (.slice _ n _) => n | _ => 0
def leftW (g : Nat) (w : World) : Nat := match w.cell? ⟨g, 2, none⟩ with | some (.slice _ n _) => n | _ => 0
theorem Rdp.rowsW {w : World} {lo gs g gi : Nat} {S : Nat → Prop} {lv rv : Value} {vs : List RV} {s : RS} {who : Nat → Nat} (h : Rdp w lo gs g gi S lv rv vs s who) : rowsW g w = s.rows.length := by
 obtain ⟨a, n, c, e, hs⟩ := h.spv
 have c3 := h.c3
 unfold Go.Proofs.Ytljcogimeimknaa.rowsW
 rw [c3, e]
 exact hs.spans.1.symm
theorem Rdp.leftW {w : World} {lo gs g gi n c : Nat} {a : Option Addr} {S : Nat → Prop} {rv : Value} {vs : List RV} {s : RS} {who : Nat → Nat} (h : Rdp w lo gs g gi S (.slice a n c) rv vs s who) : leftW g w = n := by
 have c2 := h.c2
 unfold Go.Proofs.Ytljcogimeimknaa.leftW
 rw [c2]

set_option maxRecDepth 100000 in
set_option maxHeartbeats 8000000 in
theorem rdall1_in (l lo gs g gi Bx L : Nat) (hL : L ≤ 140737488351232) (s0 : RS) (l0 : List Ent) (hs0 : s0.Ok L) (who0 : Nat → Nat) (J Jx : List (Sv × Sv) → (Nat → Nat) → World → Prop)
 (hJ : ∀ pre who who' A B, J pre who A → Gr A B who who' → J pre who' B)
 (hY : ∀ pre x who W, J pre who W → AllR lo gs g gi Bx L s0 l0 (pre ++ [x]) who W → YieldAt Fence.wide 2 Try.prog l #[sv x.1, sv x.2] W fun e W' =>
  (e = .returned (.bool true) ∧ J (pre ++ [x]) who W' ∧ Turns (fun j => who j = 0) W W') ∨ (e = .returned (.bool false) ∧ Jx (pre ++ [x]) who W' ∧ Turns (fun j => who j = 0) W W'))
 (W : World) (hR : AllR lo gs g gi Bx L s0 l0 [] who0 W) (h0 : J [] who0 W) :
 CallsIn Fence.wide 3 Try.prog 80 #[.func (.yield l) #[] #[], .pointer (some ⟨Bx, 0, none⟩)] W fun e W' => (∃ v, e = .returned v) ∧
  ((∃ xs who, AllE lo gs g gi Bx L s0 l0 xs who W' ∧ J xs who W') ∨ (∃ pre who, AllR lo gs g gi Bx L s0 l0 pre who W' ∧ Jx pre who W')) := by
 have HY := hid hY; clear hY
 have HJ := hid hJ; clear hJ
 have HR := hid hR; clear hR
 have HJ0 := hid h0; clear h0
 have HS0 := hid hs0; clear hs0
 refine callsIn_of_wp Try.func80 rfl trivial ?_ rfl
 simp only [Try.ntmps80, List.size_toArray, List.length_cons, List.length_nil, Nat.reduceAdd, Nat.reduceSub, Array.replicate_succ, Array.replicate_zero, List.push_toArray, List.append_toArray, List.nil_append, List.cons_append]
 gi_wp2
 gi_loopw [] (fun wr => ∃ (pre : List (Sv × Sv)) (who : Nat → Nat), AllR lo gs g gi Bx L s0 l0 pre who wr ∧ J pre who wr) (fun wr => 65 * (8388608 - rowsW g wr) + leftW g wr)
 case atStart => exact ⟨[], who0, HR.out, HJ0.out⟩
 case round =>
  obtain ⟨pre, who, ⟨S, lv, rv, vs, s, left, es, Q, hrd, hok, hlf, htk, hgv, hbx, hb6, hgq⟩, hj⟩ := hrel
  have RD := hid hrd
  have OK := hid hok
  have LF := hid hlf
  have TK0 := hid htk
  have GV := hid hgv
  have BX := hid hbx
  have B6 := hid hb6
  have JJ := hid hj
  have GQ := hid hgq
  have RW := hid hrd.rowsW
  clear hrd hok hlf htk hgv hbx hb6 hgq hj HR HJ0
  obtain ⟨wq, hwq⟩ : ∃ W, W = wr := ⟨_, rfl⟩
  subst hwq
  cases left with
  | cons e t =>
   obtain ⟨ap, c, n, rfl⟩ : ∃ ap c n, lv = .slice ap n c := by obtain ⟨ap, c, vs, e, _⟩ := LF.out; exact ⟨ap, c, _, e⟩
   have TK := hid (takeM_snoc TK0.out stepM_cons)
   have MS := hid (show 65 * (8388608 - s.rows.length) + n ≤ 65 * (8388608 - rowsW g wq) + leftW g wq by rw [RW.out, RD.out.leftW]; exact Nat.le_refl _)
   obtain ⟨b, o, ak, nk, ck, av, nv, cv, hap, hn, hnc, hb6, d0, d1, hTX, Q', hLF, hQQ, hXQ⟩ := LF.out.pop
   subst hap
   have c2 := RD.out.c2
   have cb : wq.cell? ⟨Bx, 0, none⟩ = some (.pointer (some ⟨g, 0, none⟩)) := BX.out.cell
   have f2 := RD.out.free 2
   have hgl := RD.out.lt
   have hcut1 := fun W : World => run_cutE1 W b o n c (by omega)
   have hn0 : ((n : Int) == 0) = false := by rw [beq_eq_false_iff_ne]; omega
   have hn0' : (n == 0) = false := by rw [beq_eq_false_iff_ne]; omega
   have hn1 : 0 < n := by omega
   obtain ⟨ap', hap'⟩ : ∃ a, (if c = 1 then some (⟨b, o, none⟩ : Addr) else some ⟨b, o + 2, none⟩) = a := ⟨_, rfl⟩
   obtain ⟨n', hn'⟩ : ∃ m, n - 1 = m := ⟨_, rfl⟩
   obtain ⟨c', hc'⟩ : ∃ m, c - 1 = m := ⟨_, rfl⟩
   rw [hap', hn', hc'] at hLF
   simp only [hap', hn', hc'] at hcut1
   have hW4 : ∀ W : World, Below wq.heap.size wq W → W.cell? ⟨Bx, 0, none⟩ = some (.pointer (some ⟨g, 0, none⟩)) ∧ W.cell? ⟨g, 2, none⟩ = some (.slice (some ⟨b, o, none⟩) n c) ∧ W.frozen? ⟨g, 2, none⟩ = false := fun W hb =>
    ⟨(World.cell?_of_block (hb.block _ (cell_lt cb))).trans cb, (World.cell?_of_block (hb.block _ hgl)).trans c2, (World.frozen?_of_block (hb.block _ hgl)).trans f2⟩
   obtain ⟨cb4, c24, f24⟩ := hW4 _ ((Below.refl wq.heap.size wq).alloc (Nat.le_refl _) (.cells #[.slice ak nk ck, .slice av nv cv] 42))
   obtain ⟨cb5, c25, f25⟩ := hW4 _ ((Below.refl wq.heap.size wq).alloc (Nat.le_refl _) (.cells #[.slice ak nk ck, .slice av nv cv] 42)).drew
   have LF2 := hid hLF
   have TX := hid hTX
   have QX := hid (show ∀ j, GvB (pre ++ [((ak, nk, ck), (av, nv, cv))]) j → ¬ Q' j from fun j hj hq => by rcases GvB.snoc hj with h | h; exact GQ.out j h (hQQ j hq); exact hXQ j h hq)
   have HNL := hid hn'
   have HN := hid hn
   clear hW4 hLF hTX hn hap' hn' hc' hQQ hXQ
   gi_wp2
   obtain ⟨w4, hw4⟩ : ∃ V, wq.alloc (.cells #[.slice ak nk ck, .slice av nv cv] 42) = V := ⟨_, rfl⟩
   have q4 := heap_new wq (.cells #[.slice ak nk ck, .slice av nv cv] 42)
   have BQ := hid ((Below.refl wq.heap.size wq).alloc (Nat.le_refl _) (.cells #[.slice ak nk ck, .slice av nv cv] 42))
   rw [hw4] at cb4 c24 f24 cb5 c25 f25 q4 BQ ⊢
   have e0 := cell_of q4 0 rfl
   have e1 := cell_of q4 1 rfl
   have hzz : wq.heap.size = wq.heap.size := by first | rfl | simp
   rw [hzz] at e0 e1
   have hgq : g ≠ wq.heap.size := by rw [← hzz]; omega
   clear d0 d1 c2 cb f2 hw4 hzz
   gi_region
   obtain ⟨w5, hw5⟩ : ∃ V, (w4.setCell ⟨g, 2, none⟩ (.slice ap' n' c')).drew = V := ⟨_, rfl⟩
   have ht5 : Turns (fun j => j = g) w4 w5 := hw5 ▸ (Turns.set (S := fun j => j = g) w4 (i := 2) rfl (.slice ap' n' c')).drewN 1
   have hb5 : w5.heap[g]? = some (.cells (rdC g gi s.ph (.slice ap' n' c') rv s.er s.pt) 98 (0, 0)) := by
    have h := set_block (i := 2) (RD.out.keep BQ.out).blk (.slice ap' n' c')
    rw [← hw5]
    exact h
   obtain ⟨hR5, hG5⟩ := (RD.out.keep BQ.out).updG ht5 hb5
   have hGq := (Gr.below BQ.out).trans hG5
   have htq : Turns (fun j => j = g) wq w5 := (Turns.of_below (S := fun j => j = g) BQ.out).trans ht5 (fun _ _ e => e)
   have n6 : ∀ j, j = g → who j ≠ 6 := fun j e => by rw [e, RD.out.gw]; decide
   have e05 : w5.cell? ⟨wq.heap.size, 0, none⟩ = some (.slice ak nk ck) := (World.cell?_of_block (ht5.block _ (cell_lt e0) (fun e => hgq e.symm))).trans e0
   have e15 : w5.cell? ⟨wq.heap.size, 1, none⟩ = some (.slice av nv cv) := (World.cell?_of_block (ht5.block _ (cell_lt e1) (fun e => hgq e.symm))).trans e1
   have hAR : AllR lo gs g gi Bx L s0 l0 (pre ++ [((ak, nk, ck), (av, nv, cv))]) who w5 :=
    ⟨S, .slice ap' n' c', rv, vs, s, t, es ++ [e], Q', hR5, OK.out, LF2.out.turn htq n6 (fun _ e => e), by rw [List.length_append]; exact TK.out, (GV.out.turn htq n6 (fun _ e => e)).snoc ⟨TX.out.1.turns htq (fun j hj hs => n6 j hs (TX.out.2.2 j (.inl hj))), TX.out.2.1.turns htq (fun j hj hs => n6 j hs (TX.out.2.2 j (.inr hj))), TX.out.2.2⟩, htq.heap BX.out (fun e => by have := B6.out; rw [e, RD.out.gw] at this; cases this), B6.out, QX.out⟩
   obtain ⟨fn, tmps, assign, body, hy, hRd⟩ := HY.out pre ((ak, nk, ck), (av, nv, cv)) who w5 (HJ.out _ _ _ _ _ JJ.out hGq) hAR
   dsimp only [sv] at hy
   have AR := hid hAR
   have R5 := hid hR5
   have RDY := hid hRd
   rw [hw5]
   clear ht5 hb5 hR5 hG5 hGq htq n6 hAR hRd hw5 e0 e1 q4 cb4 c24 f24 cb5 c25 f25 hcut1 HY HJ JJ TX LF2 BX GV TK LF RD
   gi_wp2
   refine RDY.out.mono ?_
   rintro e3 W3 (⟨rfl, hJ3, hk3⟩ | ⟨rfl, hJx3, hk3⟩)
   · have J3 := hid hJ3
     have A3 := hid (AR.out.turn hk3)
     have R3 := hid (R5.out.turn hk3 (fun _ e => e))
     have M1 := hid R3.out.rowsW
     have M2 := hid R3.out.leftW
     clear hJ3 hk3
     gi_wp2
     go_roundw
     case rel => exact ⟨_, _, A3.out, J3.out⟩
     case measure =>
      have m1 := M1.out
      have m2 := M2.out
      have m3 := MS.out
      have m4 := HNL.out
      omega
   · have J3 := hid hJx3
     have A3 := hid (AR.out.turn hk3)
     clear hJx3 hk3
     gi_wp2
     refine bodyPost_ret (results_none rfl _ _ _) rfl ?_
     exact ⟨⟨_, rfl⟩, .inr ⟨_, _, A3.out, J3.out⟩⟩
  | nil =>
   obtain ⟨ap, al, rfl⟩ : ∃ ap al, lv = .slice ap 0 al := by obtain ⟨ap, c, vs, e, _⟩ := LF.out; exact ⟨ap, c, e⟩
   obtain ⟨f, hf1, hf2, hCC⟩ := rdnx_any RD.out.cut6 OK.out hL
   have CC := hid hCC
   have c1 := RD.out.c1
   have c2 := RD.out.c2
   have cb : wq.cell? ⟨Bx, 0, none⟩ = some (.pointer (some ⟨g, 0, none⟩)) := BX.out.cell
   rw [hf1] at c1
   clear hCC hf1
   rcases hf2 with rfl | rfl | ⟨rfl, hend⟩
   case inr.inr =>
    gi_wp2
    refine ⟨trivial, ?_⟩
    refine (callsIn_wide.2 CC.out).mono ?_
    rintro e2 W2 hNX
    obtain ⟨y, es', S', rv', vs', who', rfl, hRL, hz, hR, hG, hT2, h66⟩ := hNX.six RD.out
    have OKN := hid OK.out.next
    have FAIR := hid OK.out.fair
    have GRW := hid (nxM_grows mxI s).len
    have TKE := hid (fun x s1 (h : nxM mxI s = ((x, false), s1)) => takeM_over TK0.out (stepM_end h))
    have TKN := hid (fun e t s1 (h : nxM mxI s = ((e :: t, true), s1)) => takeM_snoc TK0.out (stepM_next h))
    obtain ⟨⟨⟨x, ok⟩, s1⟩, hX⟩ : ∃ X, nxM mxI s = X := ⟨_, rfl⟩
    rw [hX] at hend
    dsimp only at hend
    subst hend
    rw [hX] at hRL hR OKN FAIR GRW
    rw [hX]
    dsimp only at hRL hR OKN FAIR GRW ⊢
    have hB6' : who' Bx = 6 := h66 Bx B6.out
    have RLL := hid hRL
    have HZ := hid hz
    have R2 := hid hR
    have G2 := hid hG
    have B62 := hid hB6'
    have N6 := hid h66
    have T2 := hid hT2
    have BX2 : Hid (Boxed W2 Bx 57 (.pointer (some ⟨g, 0, none⟩))) := hid (hT2.heap BX.out (fun e => e.2 B6.out))
    have GV2 := hid (GV.out.turn hT2 (fun j e => e.2) h66)
    have HXX := hid hX
    clear hRL hz hR hG hB6' h66 hT2 hX c1 c2 cb CC LF hNX
    have JE := hid (HJ.out _ _ _ _ _ JJ.out G2.out)
    have EE : Hid (AllE lo gs g gi Bx L s0 l0 pre who' W2) := hid ⟨S', ap, al, rv', vs', s1, es, R2.out, OKN.out, TKE.out _ _ HXX.out, GV2.out, BX2.out, B62.out⟩
    gi_wp2
    refine bodyPost_ret (results_none rfl _ _ _) rfl ?_
    exact ⟨⟨_, rfl⟩, .inl ⟨pre, who', EE.out, JE.out⟩⟩
   all_goals
    gi_wp2
    refine ⟨trivial, ?_⟩
    refine (callsIn_wide.2 CC.out).mono ?_
    rintro e2 W2 hNX
    obtain ⟨y, es', S', rv', vs', who', rfl, hRL, hz, hR, hG, hT2, h66⟩ := hNX.six RD.out
    have OKN := hid OK.out.next
    have FAIR := hid OK.out.fair
    have GRW := hid (nxM_grows mxI s).len
    have TKE := hid (fun x s1 (h : nxM mxI s = ((x, false), s1)) => takeM_over TK0.out (stepM_end h))
    have TKN := hid (fun e t s1 (h : nxM mxI s = ((e :: t, true), s1)) => takeM_snoc TK0.out (stepM_next h))
    obtain ⟨⟨⟨x, ok⟩, s1⟩, hX⟩ : ∃ X, nxM mxI s = X := ⟨_, rfl⟩
    rw [hX] at hRL hR OKN FAIR GRW
    rw [hX]
    dsimp only at hRL hR OKN FAIR GRW ⊢
    have hB6' : who' Bx = 6 := h66 Bx B6.out
    have RLL := hid hRL
    have HZ := hid hz
    have R2 := hid hR
    have G2 := hid hG
    have B62 := hid hB6'
    have N6 := hid h66
    have T2 := hid hT2
    have BX2 : Hid (Boxed W2 Bx 57 (.pointer (some ⟨g, 0, none⟩))) := hid (hT2.heap BX.out (fun e => e.2 B6.out))
    have GV2 := hid (GV.out.turn hT2 (fun j e => e.2) h66)
    have HXX := hid hX
    clear hRL hz hR hG hB6' h66 hT2 hX c1 c2 cb CC LF hNX
    cases ok with
    | true =>
     obtain ⟨e, t, rfl⟩ : ∃ e t, x = e :: t := by cases x with | nil => have := (FAIR.out rfl).1; simp at this | cons e t => exact ⟨e, t, rfl⟩
     obtain ⟨ap2, n, c, hy⟩ : ∃ ap n c, y = .slice ap n c := by obtain ⟨a, n, c, h, _⟩ := RLL.out.own.t.slE; exact ⟨a, n, c, h⟩
     subst hy
     have hc2 : W2.cell? ⟨g, 2, none⟩ = some (.slice ap 0 al) := R2.out.c2
     have hf2 := R2.out.free 2
     have hcb : W2.cell? ⟨Bx, 0, none⟩ = some (.pointer (some ⟨g, 0, none⟩)) := BX2.out.cell
     have hb3 := set_block (i := 2) R2.out.blk (.slice ap2 n c)
     have ht3 := Turns.set (S := fun j => j = g) W2 (b := g) (i := 2) rfl (.slice ap2 n c)
     obtain ⟨hR3, hG3⟩ := R2.out.updG ht3 hb3
     have n6 : ∀ j, j = g → who' j ≠ 6 := fun j e => by rw [e, R2.out.gw]; decide
     have hbx3 : Boxed (W2.setCell ⟨g, 2, none⟩ (.slice ap2 n c)) Bx 57 (.pointer (some ⟨g, 0, none⟩)) := ht3.heap BX2.out (fun e => n6 Bx e B62.out)
     have hlf3 : LfP (W2.setCell ⟨g, 2, none⟩ (.slice ap2 n c)) lo (.slice ap2 n c) (e :: t) who' (RLB (.slice ap2 n c) es') := (RLL.out.lfp RD.out.lw HZ.out).turn ht3 n6 (fun _ e => e)
     have hn64 : n ≤ 64 := by
      have h1 := (FAIR.out rfl).2.1
      obtain ⟨_, _, _, h2, _⟩ := hlf3
      injection h2 with _ h3 _
      rw [h3]; exact h1
     have MSX := hid (show 65 * (8388608 - s1.rows.length) + n ≤ 65 * (8388608 - rowsW g wq) + leftW g wq by
      have h1 := GRW.out
      have h2 := OKN.out.many
      rw [RW.out]
      simp at h1
      omega)
     have GVX := hid (GV2.out.turn ht3 n6 (fun _ e => e))
     have JJX := hid (HJ.out _ _ _ _ _ JJ.out (G2.out.trans hG3))
     have TKX := hid (TKN.out _ _ _ HXX.out)
     have RDX := hid hR3
     have BXX := hid hbx3
     have LFX := hid hlf3
     have GQX := hid (show ∀ j, GvB pre j → ¬ RLB (.slice ap2 n c) es' j from fun j hj hq => by have h1 := (GV.out.low hj).2; have h2 := (RLL.out.inB j hq).1; omega)
     clear hb3 ht3 hR3 hG3 n6 hbx3 hlf3 hn64 RD OK GV BX JJ RW TK0 B6 HZ R2 G2 N6 T2 BX2 GV2 RLL GQ TKE TKN HXX FAIR GRW
     obtain ⟨b, o, ak, nk, ck, av, nv, cv, hap, hn, hnc, hb6, d0, d1, hTX, Q', hLF, hQQ, hXQ⟩ := LFX.out.pop
     subst hap
     have c2 := RDX.out.c2
     have cb : (W2.setCell ⟨g, 2, none⟩ (.slice (some ⟨b, o, none⟩) n c)).cell? ⟨Bx, 0, none⟩ = some (.pointer (some ⟨g, 0, none⟩)) := BXX.out.cell
     have f2 := RDX.out.free 2
     have hgl := RDX.out.lt
     have hcut1 := fun W : World => run_cutE1 W b o n c (by omega)
     have hn0 : ((n : Int) == 0) = false := by rw [beq_eq_false_iff_ne]; omega
     have hn0' : (n == 0) = false := by rw [beq_eq_false_iff_ne]; omega
     have hn1 : 0 < n := by omega
     obtain ⟨ap', hap'⟩ : ∃ a, (if c = 1 then some (⟨b, o, none⟩ : Addr) else some ⟨b, o + 2, none⟩) = a := ⟨_, rfl⟩
     obtain ⟨n', hn'⟩ : ∃ m, n - 1 = m := ⟨_, rfl⟩
     obtain ⟨c', hc'⟩ : ∃ m, c - 1 = m := ⟨_, rfl⟩
     rw [hap', hn', hc'] at hLF
     simp only [hap', hn', hc'] at hcut1
     have hW4 : ∀ W : World, Below (W2.setCell ⟨g, 2, none⟩ (.slice (some ⟨b, o, none⟩) n c)).heap.size (W2.setCell ⟨g, 2, none⟩ (.slice (some ⟨b, o, none⟩) n c)) W → W.cell? ⟨Bx, 0, none⟩ = some (.pointer (some ⟨g, 0, none⟩)) ∧ W.cell? ⟨g, 2, none⟩ = some (.slice (some ⟨b, o, none⟩) n c) ∧ W.frozen? ⟨g, 2, none⟩ = false := fun W hb =>
      ⟨(World.cell?_of_block (hb.block _ (cell_lt cb))).trans cb, (World.cell?_of_block (hb.block _ hgl)).trans c2, (World.frozen?_of_block (hb.block _ hgl)).trans f2⟩
     obtain ⟨cb4, c24, f24⟩ := hW4 _ ((Below.refl (W2.setCell ⟨g, 2, none⟩ (.slice (some ⟨b, o, none⟩) n c)).heap.size (W2.setCell ⟨g, 2, none⟩ (.slice (some ⟨b, o, none⟩) n c))).alloc (Nat.le_refl _) (.cells #[.slice ak nk ck, .slice av nv cv] 42))
     obtain ⟨cb5, c25, f25⟩ := hW4 _ ((Below.refl (W2.setCell ⟨g, 2, none⟩ (.slice (some ⟨b, o, none⟩) n c)).heap.size (W2.setCell ⟨g, 2, none⟩ (.slice (some ⟨b, o, none⟩) n c))).alloc (Nat.le_refl _) (.cells #[.slice ak nk ck, .slice av nv cv] 42)).drew
     have LF2 := hid hLF
     have TX := hid hTX
     have QX := hid (show ∀ j, GvB (pre ++ [((ak, nk, ck), (av, nv, cv))]) j → ¬ Q' j from fun j hj hq => by rcases GvB.snoc hj with h | h; exact GQX.out j h (hQQ j hq); exact hXQ j h hq)
     have HNL := hid hn'
     have HN := hid hn
     clear hW4 hLF hTX hn hap' hn' hc' hQQ hXQ
     gi_wp2
     obtain ⟨w4, hw4⟩ : ∃ V, (W2.setCell ⟨g, 2, none⟩ (.slice (some ⟨b, o, none⟩) n c)).alloc (.cells #[.slice ak nk ck, .slice av nv cv] 42) = V := ⟨_, rfl⟩
     have q4 := heap_new (W2.setCell ⟨g, 2, none⟩ (.slice (some ⟨b, o, none⟩) n c)) (.cells #[.slice ak nk ck, .slice av nv cv] 42)
     have BQ := hid ((Below.refl (W2.setCell ⟨g, 2, none⟩ (.slice (some ⟨b, o, none⟩) n c)).heap.size (W2.setCell ⟨g, 2, none⟩ (.slice (some ⟨b, o, none⟩) n c))).alloc (Nat.le_refl _) (.cells #[.slice ak nk ck, .slice av nv cv] 42))
     rw [hw4] at cb4 c24 f24 cb5 c25 f25 q4 BQ ⊢
     have e0 := cell_of q4 0 rfl
     have e1 := cell_of q4 1 rfl
     have hzz : (W2.setCell ⟨g, 2, none⟩ (.slice (some ⟨b, o, none⟩) n c)).heap.size = W2.heap.size := by first | rfl | simp
     rw [hzz] at e0 e1
     have hgq : g ≠ W2.heap.size := by rw [← hzz]; omega
     clear d0 d1 c2 cb f2 hw4 hzz
     gi_region
     obtain ⟨w5, hw5⟩ : ∃ V, (w4.setCell ⟨g, 2, none⟩ (.slice ap' n' c')).drew = V := ⟨_, rfl⟩
     have ht5 : Turns (fun j => j = g) w4 w5 := hw5 ▸ (Turns.set (S := fun j => j = g) w4 (i := 2) rfl (.slice ap' n' c')).drewN 1
     have hb5 : w5.heap[g]? = some (.cells (rdC g gi s1.ph (.slice ap' n' c') rv' s1.er s1.pt) 98 (0, 0)) := by
      have h := set_block (i := 2) (RDX.out.keep BQ.out).blk (.slice ap' n' c')
      rw [← hw5]
      exact h
     obtain ⟨hR5, hG5⟩ := (RDX.out.keep BQ.out).updG ht5 hb5
     have hGq := (Gr.below BQ.out).trans hG5
     have htq : Turns (fun j => j = g) (W2.setCell ⟨g, 2, none⟩ (.slice (some ⟨b, o, none⟩) n c)) w5 := (Turns.of_below (S := fun j => j = g) BQ.out).trans ht5 (fun _ _ e => e)
     have n6 : ∀ j, j = g → who' j ≠ 6 := fun j e => by rw [e, RDX.out.gw]; decide
     have e05 : w5.cell? ⟨W2.heap.size, 0, none⟩ = some (.slice ak nk ck) := (World.cell?_of_block (ht5.block _ (cell_lt e0) (fun e => hgq e.symm))).trans e0
     have e15 : w5.cell? ⟨W2.heap.size, 1, none⟩ = some (.slice av nv cv) := (World.cell?_of_block (ht5.block _ (cell_lt e1) (fun e => hgq e.symm))).trans e1
     have hAR : AllR lo gs g gi Bx L s0 l0 (pre ++ [((ak, nk, ck), (av, nv, cv))]) who' w5 :=
      ⟨S', .slice ap' n' c', rv', vs', s1, t, es ++ [e], Q', hR5, OKN.out, LF2.out.turn htq n6 (fun _ e => e), by rw [List.length_append]; exact TKX.out, (GVX.out.turn htq n6 (fun _ e => e)).snoc ⟨TX.out.1.turns htq (fun j hj hs => n6 j hs (TX.out.2.2 j (.inl hj))), TX.out.2.1.turns htq (fun j hj hs => n6 j hs (TX.out.2.2 j (.inr hj))), TX.out.2.2⟩, htq.heap BXX.out (fun e => by have := B62.out; rw [e, RDX.out.gw] at this; cases this), B62.out, QX.out⟩
     obtain ⟨fn, tmps, assign, body, hy, hRd⟩ := HY.out pre ((ak, nk, ck), (av, nv, cv)) who' w5 (HJ.out _ _ _ _ _ JJX.out hGq) hAR
     dsimp only [sv] at hy
     have AR := hid hAR
     have R5 := hid hR5
     have RDY := hid hRd
     rw [hw5]
     clear ht5 hb5 hR5 hG5 hGq htq n6 hAR hRd hw5 e0 e1 q4 cb4 c24 f24 cb5 c25 f25 hcut1 HY HJ JJX TX LF2 BXX GVX TKX LFX RDX
     gi_wp2
     refine RDY.out.mono ?_
     rintro e3 W3 (⟨rfl, hJ3, hk3⟩ | ⟨rfl, hJx3, hk3⟩)
     · have J3 := hid hJ3
       have A3 := hid (AR.out.turn hk3)
       have R3 := hid (R5.out.turn hk3 (fun _ e => e))
       have M1 := hid R3.out.rowsW
       have M2 := hid R3.out.leftW
       clear hJ3 hk3
       gi_wp2
       go_roundw
       case rel => exact ⟨_, _, A3.out, J3.out⟩
       case measure =>
        have m1 := M1.out
        have m2 := M2.out
        have m3 := MSX.out
        have m4 := HNL.out
        omega
     · have J3 := hid hJx3
       have A3 := hid (AR.out.turn hk3)
       clear hJx3 hk3
       gi_wp2
       refine bodyPost_ret (results_none rfl _ _ _) rfl ?_
       exact ⟨⟨_, rfl⟩, .inr ⟨_, _, A3.out, J3.out⟩⟩
    | false =>
     have JE := hid (HJ.out _ _ _ _ _ JJ.out G2.out)
     have EE : Hid (AllE lo gs g gi Bx L s0 l0 pre who' W2) := hid ⟨S', ap, al, rv', vs', s1, es, R2.out, OKN.out, TKE.out _ _ HXX.out, GV2.out, BX2.out, B62.out⟩
     gi_wp2
     refine bodyPost_ret (results_none rfl _ _ _) rfl ?_
     exact ⟨⟨_, rfl⟩, .inl ⟨pre, who', EE.out, JE.out⟩⟩

theorem rdall_seq (lo gs g gi Bx L : Nat) (hL : L ≤ 140737488351232) (s0 : RS) (l0 : List Ent) (hs0 : s0.Ok L) (who0 : Nat → Nat) :
 SeqW Fence.wide 3 Try.prog 80 #[.pointer (some ⟨Bx, 0, none⟩)] (fun x : Sv × Sv => #[sv x.1, sv x.2]) (AllR lo gs g gi Bx L s0 l0) (AllE lo gs g gi Bx L s0 l0) who0 :=
 fun l J Jx W hR hJ hY h0 => rdall1_in l lo gs g gi Bx L hL s0 l0 hs0 who0 J Jx hJ hY W hR h0
theorem rdall_in (g : Nat) (w : World) :
 Calls Try.prog 55 #[.pointer (some ⟨g, 0, none⟩)] w fun e w' => e = .returned (.func (.func 80) #[] #[.pointer (some ⟨w.heap.size, 0, none⟩)]) ∧ w' = w.alloc (.cells #[.pointer (some ⟨g, 0, none⟩)] 57) := by
 go_enter Try.func55, Try.ntmps55
 go_wp2_with fail
 go_ret
 exact ⟨rfl, rfl⟩
end Go.Proofs.Ytljcogimeimknaa
