/- Law PipeOdd: Copy and Chunks of readers and writers of any behaviour, whatever the size; what lies in memory in the midst of the range. Conditions: numbers within reach. -/
import Derived.Test.YtjkgncogpefnbaaPipeOddK
import Derived.Test.YtjkgncogpefnbaaPipeRChunks
import Derived.Test.YtjkgncogpefnbaaPipeIter
import Derived.Test.YtjkgncogpefnbaaPipeLives
import Derived.Test.YtjkgncogpefnbaaPipeRCopy
import Derived.Test.YtjkgncogpefnbaaPipeChunksB
namespace Go.Proofs.Ytjkgncogpefnbaa
open Go.RowKit Go.Shelf
set_option linter.unusedVariables false
set_option linter.unusedSimpArgs false

/-- what Copy leaves of the reader: what abides in each step; how many calls -/
theorem cpy_keep {σ τ : Type} {R : Rm σ} {V : Wm τ} {size : Nat} {I : σ → Prop} (hI : ∀ s, I s → I (R.nxt s size)) : ∀ (F : Nat) (s : σ) (t : τ) (gv wt tk : Nat), I s → I (cpy R V size F s t gv wt tk).2.2.1 ∧ R.cnt (cpy R V size F s t gv wt tk).2.2.1 ≤ R.cnt s + F
  | 0, s, t, gv, wt, tk, h => ⟨h, Nat.le_refl _⟩
  | F + 1, s, t, gv, wt, tk, h => by
    have h1 := hI s h
    have hc := R.cntS s size
    by_cases hb : R.num s size < 0 ∨ (size : Int) < R.num s size
    · rw [cpy_bad hb]; exact ⟨h1, by show R.cnt (R.nxt s size) ≤ _; omega⟩
    · by_cases hm : 0 < R.num s size ∨ R.er s size ≠ 0
      · obtain ⟨⟨tk', f, t', wt'⟩, hh⟩ : ∃ Y, hndT V t ((R.lay s size).take (R.num s size).toNat) wt tk = Y := ⟨_, rfl⟩
        rw [cpy_hand hb hm hh]
        split
        · exact ⟨h1, by show R.cnt (R.nxt s size) ≤ _; omega⟩
        · split
          · exact ⟨h1, by show R.cnt (R.nxt s size) ≤ _; omega⟩
          · split
            · exact ⟨h1, by show R.cnt (R.nxt s size) ≤ _; omega⟩
            · have := cpy_keep (V := V) hI F (R.nxt s size) t' 0 wt' tk' h1
              exact ⟨this.1, by omega⟩
      · by_cases hg : gv + 1 = 16
        · rw [cpy_idle hb hm hg]; exact ⟨h1, by show R.cnt (R.nxt s size) ≤ _; omega⟩
        · rw [cpy_wait hb hm hg]
          have := cpy_keep (V := V) hI F (R.nxt s size) t (gv + 1) wt tk h1
          exact ⟨this.1, by omega⟩
def cpsO (size : Int) (s t : Od) : Nat × Int × Od × Od := if 1 ≤ size ∧ size ≤ 4096 then cpyT oddM oddW size.toNat s t else (0, 1, s, t)
theorem cpsO_keep (size : Int) (s t : Od) : (cpsO size s t).2.2.1.n = s.n ∧ (cpsO size s t).2.2.1.calls ≤ s.calls + (s.n.length * 17 + 17) := by
  unfold cpsO
  split
  · have := cpy_keep (R := oddM) (V := oddW) (size := size.toNat) (I := fun x => x.n = s.n) (fun x hx => hx) (oddM.mu s * 17 + 17) s t 0 0 0 rfl
    refine ⟨this.1, Nat.le_trans this.2 ?_⟩
    show s.calls + ((s.n.length - s.calls) * 17 + 17) ≤ _
    omega
  · exact ⟨rfl, Nat.le_add_right _ _⟩
theorem ocopy_any (g lo bd : Nat) (s : Od) (S : Nat → Prop) (g2 lo2 : Nat) (t : Od) (U : Nat → Prop) (size : Int) (w : World) (hS : OdP g lo bd s S w) (hU : OdP g2 lo2 bd t U w) (hd : ∀ j, S j → ¬ U j) (hn : s.n.length ≤ 1048576) (hc : s.calls ≤ 1048576) (hc2 : t.calls ≤ 1048576) (ht : t.took.length ≤ 1048576) :
    Calls Try.prog 14 #[.iface 44 (.pointer (some ⟨g2, 0, none⟩)), .iface 44 (.pointer (some ⟨g, 0, none⟩)), .int .i64 size] w (CopyPost (OdP g lo bd) (OdP g2 lo2 bd) (cpsO size s t) S U w) := by
  by_cases hs : 1 ≤ size ∧ size ≤ 4096
  · obtain ⟨k, rfl⟩ : ∃ k : Nat, size = k := ⟨size.toNat, by omega⟩
    unfold cpsO
    rw [if_pos hs, Int.toNat_natCast]
    have hv : (s.n.length - s.calls) * k ≤ 1048576 * 4096 := Nat.mul_le_mul (by omega) (by omega)
    exact copy_any (oddR g lo bd) (oddWr g2 lo2 bd) 44 44 (methOR g) (enters_of Try.func56 (by kernel_rfl) rfl) (methOW g2) (enters_of Try.func57 (by kernel_rfl) rfl) k w (by omega) (by omega) s S t U hS hU hd
      (show s.calls + ((s.n.length - s.calls) * 17 + 17) < 4611686018427387904 by omega) (show t.calls + (s.n.length - s.calls) * k * 17 + ((s.n.length - s.calls) * 17 + 17) * 17 < 4611686018427387904 by omega) (show t.took.length + (s.n.length - s.calls) * k ≤ 140737488355328 by omega) (show (s.n.length - s.calls) * k ≤ 4611686018427387904 by omega)
      (by have := (hS.inS g hS.own); have := hS.bl; omega) (fun j hj => Nat.le_trans hS.bl (hS.inS j hj).1) (fun j hj => Nat.le_trans hU.bl (hU.inS j hj).1)
  · unfold cpsO
    rw [if_neg hs]
    exact (copy_wrong _ _ _ _ size w (by omega)).mono fun e w' ⟨he, hb⟩ => ⟨he, S, U, hS.turns (T := fun _ => False) (.of_below hb) (fun _ _ e => e) (fun _ e => e.elim), hU.turns (T := fun _ => False) (.of_below hb) (fun _ _ e => e) (fun _ e => e.elim), hd, fun j h => .inl h, fun j h => .inl h, .of_below hb⟩
theorem orcopy_any (gr gx lo : Nat) (s : Od) (S : Nat → Prop) (t : Od) (U : Nat → Prop) (size : Int) (w : World) (hlo : lo ≤ w.heap.size) (hS : RoP gr lo s S w) (hU : KoP gx lo t U w) (hd : ∀ j, S j → ¬ U j) (hn : s.n.length ≤ 1048576) (hc : s.calls ≤ 1048576) (hc2 : t.calls ≤ 1048576) (ht : t.took.length ≤ 1048576) :
    Calls Try.prog 18 #[.pointer (some ⟨gx, 0, none⟩), .pointer (some ⟨gr, 0, none⟩), .int .i64 size] w (CopyPost (RoP gr lo) (KoP gx lo) (cpsO size s t) S U w) := by
  by_cases hs : 1 ≤ size ∧ size ≤ 4096
  · obtain ⟨k, rfl⟩ : ∃ k : Nat, size = k := ⟨size.toNat, by omega⟩
    unfold cpsO
    rw [if_pos hs, Int.toNat_natCast]
    have hv : (s.n.length - s.calls) * k ≤ 1048576 * 4096 := Nat.mul_le_mul (by omega) (by omega)
    exact rcopy_any (roddL gr lo) (koddL gx lo) k w (by omega) (by omega) hlo s t hS hU hd
      (show s.calls + ((s.n.length - s.calls) * 17 + 17) < 1099511627776 by omega) (show t.calls + (s.n.length - s.calls) * k * 17 + ((s.n.length - s.calls) * 17 + 17) * 17 < 1099511627776 by omega) (show t.took.length + (s.n.length - s.calls) * k ≤ 140737488355328 by omega) (show (s.n.length - s.calls) * k ≤ 4611686018427387904 by omega)
  · unfold cpsO
    rw [if_neg hs]
    refine (rcopy_wrong gx gr size w (by omega)).mono ?_
    rintro e w' ⟨rfl, rfl⟩
    exact ⟨rfl, S, U, hS, hU, hd, fun j h => .inl h, fun j h => .inl h, .refl _ _⟩
theorem orchunks_any (gr lo : Nat) (s : Od) (S : Nat → Prop) (size : Int) (lim : Nat) (w : World) (hlm : lim ≤ 2147483648) (hlo : lo ≤ w.heap.size) (hS : RoP gr lo s S w) (hn : s.n.length ≤ 1048576) (hc : s.calls ≤ 100000000) :
    Calls Try.prog 19 #[.pointer (some ⟨gr, 0, none⟩), .int .i64 size, .int .i64 (lim : Nat)] w fun e w' => ∃ v S', e = .returned v ∧ ChL w' w.heap.size S' v (chkI oddM size s lim).1 ∧ RoP gr lo (chkI oddM size s lim).2 S' w' ∧ (∀ j, S' j → S j ∨ w.heap.size ≤ j) ∧ Turns S w w' := by
  by_cases hs : 1 ≤ size ∧ size ≤ 4096
  · obtain ⟨k, rfl⟩ : ∃ k : Nat, size = k := ⟨size.toNat, by omega⟩
    unfold chkI
    rw [if_pos hs, Int.toNat_natCast]
    refine (rchunks_any (roddL gr lo) k lim w (by omega) (by omega) hlm hlo s hS (show s.calls + ((s.n.length - s.calls) * 17 + 17) < 1099511627776 by omega)).mono ?_
    rintro e w' ⟨v, S', rfl, h1, h2, h3, h4⟩
    exact ⟨v, S', rfl, h1, h2, h3, h4⟩
  · unfold chkI
    rw [if_neg hs]
    refine (rchunks_wrong gr size lim w (by omega)).mono ?_
    rintro e w' ⟨v, rfl, h1, h2⟩
    exact ⟨v, S, rfl, h1 _ fun j e => (hS.inS j e).2, hS.turns (T := fun _ => False) (.of_below h2) (fun _ _ e => e) (fun _ e => e.elim), fun j e => .inl e, .of_below h2⟩
/-- how many chunks there are at most -/
theorem chkO_len (size : Nat) : ∀ (F : Nat) (s : Od) (gv lim : Nat), (chk oddM size F s gv lim).1.length ≤ (s.n.length - s.calls) + 1
  | 0, s, gv, lim => Nat.zero_le _
  | F + 1, s, gv, lim => by
    by_cases hl : lim = 0
    · subst hl; rw [chk_lim]; exact Nat.zero_le _
    · by_cases hb : oddM.num s size < 0 ∨ (size : Int) < oddM.num s size
      · rw [chk_bad hl hb]; show 1 ≤ _; omega
      · by_cases he : oddM.er s size = 0
        · have hin : s.calls < s.n.length := by
            by_cases h : s.calls < s.n.length
            · exact h
            · have he2 : erO s.n s.e s.calls 31 = 0 := he
              rw [erO_out (by omega)] at he2; omega
          have ih := fun gv lim => chkO_len size F (oddM.nxt s size) gv lim
          have hx : ∀ gv lim, (chk oddM size F (oddM.nxt s size) gv lim).1.length ≤ (s.n.length - (s.calls + 1)) + 1 := ih
          by_cases hn : 0 < oddM.num s size
          · rw [chk_go hl hb hn he]
            have := hx 0 (lim - 1)
            show (chk oddM size F (oddM.nxt s size) 0 (lim - 1)).1.length + 1 ≤ _
            omega
          · have hm : ¬ (0 < oddM.num s size ∨ oddM.er s size ≠ 0) := fun h => by
              rcases h with h | h
              · exact hn h
              · exact h he
            by_cases h16 : gv + 1 = 16
            · rw [chk_idle hl hb hm h16]; show 1 ≤ _; omega
            · rw [chk_wait hl hb hm h16]; have := hx (gv + 1) lim; omega
        · rw [chk_end hl hb he]; show 1 ≤ _; omega
theorem chkIO_len (size : Int) (s : Od) (lim : Nat) : (chkI oddM size s lim).1.length ≤ s.n.length + 1 := by
  unfold chkI
  split
  · exact Nat.le_trans (chkO_len size.toNat _ s 0 lim) (by omega)
  · show 1 ≤ _; omega
/-- in the midst of the range -/
structure PoM (w : World) (g2 g12 gr lo h0 B : Nat) (ds : List Deferred) (v : Value) (L : List Ck) (sf : Od) (rc : Obj) (R S : Nat → Prop) (kk : Nat) (W : World) : Prop where
  b2 : Boxed W g2 4 (.bool false)
  b12 : Boxed W g12 4 (.bool true)
  bW : Boxed W B 52 v
  bk : Boxed W (B + 1) 3 (.int .i64 (kk : Nat))
  rcd : W.heap[B + 5]? = some rc
  ch : ChL W h0 (fun j => S j ∨ R j ∨ B ≤ j) v L
  rp : RoP gr lo sf R W
  sO : ∀ j, S j → lo ≤ j ∧ j < h0 ∨ B + 6 ≤ j
  rO : ∀ j, R j → lo ≤ j ∧ j < B
  dis : ∀ j, S j → ¬ R j
  n12 : ¬ S g12 ∧ ¬ R g12
  mks : Marks w.heap.size (fun j => S j ∨ R j ∨ j = g12 ∨ j = B + 1 ∨ B + 5 ≤ j) ds W
  bel : Below w.heap.size w W
  ord : w.heap.size ≤ g2 ∧ g2 < lo ∧ lo ≤ g12 ∧ g12 < h0 ∧ h0 ≤ B
section
variable {w W W' : World} {g2 g12 gr lo h0 B kk kk' : Nat} {ds : List Deferred} {v : Value} {L : List Ck} {sf : Od} {rc rc' : Obj} {R S S' : Nat → Prop}
theorem PoM.turn (h : PoM w g2 g12 gr lo h0 B ds v L sf rc R S kk W) {T : Nat → Prop} (ht : Turns T W W') (hT : ∀ j, T j → S j ∨ j = g12 ∨ j = B + 1 ∨ B + 5 ≤ j) (hS : ∀ j, S' j → S j ∨ W.heap.size ≤ j) (hz : B + 6 ≤ W.heap.size) (h12 : Boxed W' g12 4 (.bool true)) (hk : Boxed W' (B + 1) 3 (.int .i64 (kk' : Nat))) (hr : W'.heap[B + 5]? = some rc') :
    PoM w g2 g12 gr lo h0 B ds v L sf rc' R S' kk' W' := by
  obtain ⟨o1, o2, o3, o4, o5⟩ := h.ord
  have k : ∀ j, j < lo ∨ h0 ≤ j ∧ j < B + 5 → j ≠ B + 1 → ¬ T j := fun j hj hn e => by
    rcases hT j e with q | q | q | q
    · rcases h.sO j q with r | r <;> omega
    · omega
    · exact hn q
    · omega
  exact { b2 := boxed_turns h.b2 ht (k _ (by omega) (by omega)), b12 := h12, bW := boxed_turns h.bW ht (k _ (by omega) (by omega)), bk := hk, rcd := hr
          ch := by
            obtain ⟨vs, c1, c2, c3, c4⟩ := h.ch
            have hno : ∀ j, h0 ≤ j → j < W.heap.size → ¬ (S j ∨ R j ∨ B ≤ j) → ¬ T j ∧ ¬ (S' j ∨ R j ∨ B ≤ j) := fun j a b c => ⟨fun e => by
              rcases hT j e with q | q | q | q
              · exact c (.inl q)
              · omega
              · exact c (.inr (.inr (by omega)))
              · exact c (.inr (.inr (by omega))), fun e => by
              rcases e with e | e
              · rcases hS j e with q | q
                · exact c (.inl q)
                · omega
              · exact c (.inr e)⟩
            refine ⟨vs, c1.of_block fun g hg => ?_, c2, fun j hj => ?_, fun i x c hx hc => (c4 i x c hx hc).of_same ht.size fun j a b d e => ⟨ht.block j b (hno j a b d).1, (hno j a b d).2, e⟩⟩
            · obtain ⟨l1, l2⟩ := c1.lt g hg
              exact ht.block g l2 (hno g l1 l2 (c3 g hg)).1
            · obtain ⟨l1, l2⟩ := c1.lt j hj
              exact (hno j l1 l2 (c3 j hj)).2
          rp := h.rp.turns ht (fun j hj e => by
            rcases hT j e with q | q | q | q
            · exact h.dis j q hj
            · exact h.n12.2 (q ▸ hj)
            · have := h.rO j hj; omega
            · have := h.rO j hj; omega) (fun j e => by rcases hT j e with q | q | q | q; (rcases h.sO j q with r | r <;> omega); (omega); (omega); (omega))
          sO := fun j hj => by rcases hS j hj with q | q; (exact h.sO j q); (exact .inr (by omega))
          rO := h.rO
          dis := fun j hj e => by rcases hS j hj with q | q; (exact h.dis j q e); (have := h.rO j e; omega)
          n12 := ⟨fun e => by rcases hS _ e with q | q; (exact h.n12.1 q); (omega), h.n12.2⟩
          mks := h.mks.turns ht (fun j e => by rcases hT j e with q | q | q | q; (exact .inl (.inl q)); (exact .inl (.inr (.inr (.inl q)))); (exact .inl (.inr (.inr (.inr (.inl q))))); (exact .inl (.inr (.inr (.inr (.inr q)))))) (fun j e => by rcases e with e | e; (rcases hS j e with q | q; (exact .inl (.inl q)); (exact .inr (.inr q))); (exact .inl (.inr e)))
          bel := ht.below h.bel h.bel.size fun j e => by rcases hT j e with q | q | q | q; (rcases h.sO j q with r | r <;> omega); (omega); (omega); (omega)
          ord := h.ord }
theorem PoM.keep (h : PoM w g2 g12 gr lo h0 B ds v L sf rc R S kk W) (hz : B + 6 ≤ W.heap.size) (hb : Below W.heap.size W W') : PoM w g2 g12 gr lo h0 B ds v L sf rc R S kk W' :=
  h.turn (T := fun _ => False) (.of_below hb) (fun _ e => e.elim) (fun j e => .inl e) hz (blk_keep h.b12 hb) (blk_keep h.bk hb) (blk_keep h.rcd hb)
theorem PoM.put (h : PoM w g2 g12 gr lo h0 B ds v L sf rc R S kk W) (hz : B + 6 ≤ W.heap.size) (rc' : Obj) : PoM w g2 g12 gr lo h0 B ds v L sf rc' R S kk (W.putObj (B + 5) rc') :=
  have o := h.ord
  h.turn (turns_put (w := W) (g := B + 5) rc') (fun _ e => .inr (.inr (.inr (by omega)))) (fun j e => .inl e) hz (boxed_turns h.b12 (turns_put rc') (by omega)) (boxed_turns h.bk (turns_put rc') (by omega)) (World.putObj_heap_same (by omega))
theorem PoM.ok (h : PoM w g2 g12 gr lo h0 B ds v L sf rc R S kk W) (hz : B + 6 ≤ W.heap.size) : PoM w g2 g12 gr lo h0 B ds v L sf rc R S kk (W.setCell ⟨g12, 0, none⟩ (.bool true)) :=
  have o := h.ord
  have ht := Turns.set (S := fun j => j = g12) W (b := g12) (i := 0) rfl (.bool true)
  h.turn ht (fun _ e => .inr (.inl e)) (fun j e => .inl e) hz (boxed_set h.b12 _) (boxed_turns h.bk ht (by omega)) (ht.heap h.rcd (by omega))
theorem PoM.cnt (h : PoM w g2 g12 gr lo h0 B ds v L sf rc R S kk W) (hz : B + 6 ≤ W.heap.size) (n : Nat) : PoM w g2 g12 gr lo h0 B ds v L sf rc R S n (W.setCell ⟨B + 1, 0, none⟩ (.int .i64 (n : Nat))) :=
  have o := h.ord
  have ht := Turns.set (S := fun j => j = B + 1) W (b := B + 1) (i := 0) rfl (.int .i64 (n : Nat))
  h.turn ht (fun _ e => .inr (.inr (.inl e))) (fun j e => .inl e) hz (boxed_turns h.b12 ht (by omega)) (boxed_set h.bk _) (ht.heap h.rcd (by omega))
end
end Go.Proofs.Ytjkgncogpefnbaa
