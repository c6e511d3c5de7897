/- Law PipeChunks: what lies in memory in the midst of a range. Conditions: numbers within reach. -/
import Derived.Test.YtjkgncogpefnbaaPipeHelp
import Derived.Test.YtjkgncogpefnbaaPipeRChunks
import Derived.Test.YtjkgncogpefnbaaPipeIter
import Derived.Test.YtjkgncogpefnbaaPipeLives
import Derived.Test.YtjkgncogpefnbaaSameS
import Derived.Test.YtjkgncogpefnbaaMarksG
namespace Go.Proofs.Ytjkgncogpefnbaa
open Go.RowKit Go.Shelf
set_option linter.unusedVariables false
set_option linter.unusedSimpArgs false
attribute [local go_sem] Oper.semAt_some

/-- the document's list, whatever the size -/
theorem rchunksI_any (gr lo : Nat) (bs : List UInt8) (hbl : bs.length ≤ 140737488351232) (s : Src) (size : Int) (lim : Nat) (w : World) (hlm : lim ≤ 2147483648) (hlo : lo ≤ w.heap.size) (hS : StR gr lo bs s (fun j => j = gr) w) (hc : s.calls + (s.left.length * 17 + 17) < 2305843009213693952) :
    Calls Try.prog 19 #[.pointer (some ⟨gr, 0, none⟩), .int .i64 size, .int .i64 (lim : Nat)] w fun e w' => ∃ v, e = .returned v ∧ ChL w' w.heap.size (fun j => j = gr) v (chkI srcM size s lim).1 ∧ StR gr lo bs (chkI srcM size s lim).2 (fun j => j = gr) w' ∧ Turns (fun j => j = gr) w w' := by
  by_cases hs : 1 ≤ size ∧ size ≤ 4096
  · obtain ⟨k, rfl⟩ : ∃ k : Nat, size = k := ⟨size.toNat, by omega⟩
    unfold chkI
    rw [if_pos hs, Int.toNat_natCast]
    refine (rchunks_any (rsrcL gr lo bs hbl) k lim w (by omega) (by omega) hlm hlo s hS hc).mono ?_
    rintro e w' ⟨v, S, rfl, h1, h2, h3, h4⟩
    have hSe : S = fun j => j = gr := funext fun j => propext (h2.1 j)
    subst hSe
    exact ⟨v, rfl, h1, h2, h4⟩
  · unfold chkI
    rw [if_neg hs]
    refine (rchunks_wrong gr size lim w (by omega)).mono ?_
    rintro e w' ⟨v, rfl, h1, h2⟩
    have hl : gr < w.heap.size := ((rsrcL gr lo bs hbl).inS _ _ _ hS gr rfl).2
    exact ⟨v, rfl, h1 _ fun j e => by omega, (rsrcL gr lo bs hbl).frame _ _ (fun _ => False) _ _ hS (.of_below h2) (fun _ _ e => e) (fun _ e => e.elim), .of_below h2⟩
/-- in the midst of a range: g6: the result's block; b: the limit's; B: the list's, and those behind it -/
structure PcM (w : World) (g6 gr lo b B : Nat) (bs : List UInt8) (ds : List Deferred) (v : Value) (L : List Ck) (lim : Nat) (sf : Src) (rc : Obj) (S : Nat → Prop) (kk : Nat) (W : World) : Prop where
  b11 : Boxed W b 3 (.int .i64 (lim : Nat))
  b12 : Boxed W B 52 v
  b13 : Boxed W (B + 1) 3 (.int .i64 (kk : Nat))
  b6 : Boxed W g6 4 (.bool false)
  rcd : W.heap[B + 5]? = some rc
  ch : ChL W (b + 1) (fun j => S j ∨ j = gr ∨ B ≤ j) v L
  rp : StR gr lo bs sf (fun j => j = gr) W
  sO : ∀ j, S j → lo ≤ j ∧ j < b ∨ B + 6 ≤ j
  dis : ¬ S gr
  mks : Marks w.heap.size (fun j => S j ∨ j = gr ∨ j = B + 1 ∨ B + 5 ≤ j) ds W
  bel : Below w.heap.size w W
  ord : w.heap.size ≤ g6 ∧ g6 < lo ∧ lo ≤ gr ∧ gr < b ∧ b < B
section
variable {w W W' : World} {g6 gr lo b B lim kk kk' : Nat} {bs : List UInt8} {ds : List Deferred} {v : Value} {L : List Ck} {sf : Src} {rc rc' : Obj} {S S' : Nat → Prop}
theorem PcM.turn (h : PcM w g6 gr lo b B bs ds v L lim sf rc S kk W) (hbl : bs.length ≤ 140737488351232) {T : Nat → Prop} (ht : Turns T W W') (hT : ∀ j, T j → S j ∨ j = B + 1 ∨ B + 5 ≤ j) (hS : ∀ j, S' j → S j ∨ W.heap.size ≤ j) (hz : B + 6 ≤ W.heap.size) (h13 : Boxed W' (B + 1) 3 (.int .i64 (kk' : Nat))) (hr : W'.heap[B + 5]? = some rc') :
    PcM w g6 gr lo b B bs ds v L lim sf rc' S' kk' W' := by
  obtain ⟨o1, o2, o3, o4, o5⟩ := h.ord
  have k : ∀ j, j < lo ∨ b ≤ j ∧ j < B + 5 → j ≠ B + 1 → ¬ T j := fun j hj hn e => by
    rcases hT j e with q | q | q
    · rcases h.sO j q with r | r <;> omega
    · exact hn q
    · omega
  exact { b11 := boxed_turns h.b11 ht (k _ (by omega) (by omega)), b12 := boxed_turns h.b12 ht (k _ (by omega) (by omega)), b13 := h13, b6 := boxed_turns h.b6 ht (k _ (by omega) (by omega)), rcd := hr
          ch := h.ch.turns ht (fun j e => by rcases hT j e with q | q | q; (exact .inl (.inl q)); (exact .inl (.inr (.inr (by omega)))); (exact .inl (.inr (.inr (by omega))))) (fun j e => by rcases e with e | e | e; (rcases hS j e with q | q; (exact .inl (.inl q)); (exact .inr (.inr q))); (exact .inl (.inr (.inl e))); (exact .inl (.inr (.inr e))))
          rp := (rsrcL gr lo bs hbl).frame _ _ _ _ _ h.rp ht (fun j hj e => by
            subst hj
            rcases hT j e with q | q | q
            · exact h.dis q
            · omega
            · omega) (fun j e => by rcases hT j e with q | q | q; (rcases h.sO j q with r | r <;> omega); (omega); (omega))
          sO := fun j hj => by rcases hS j hj with q | q; (exact h.sO j q); (exact .inr (by omega))
          dis := fun e => by rcases hS _ e with q | q; (exact h.dis q); (omega)
          mks := h.mks.turns ht (fun j e => by rcases hT j e with q | q | q; (exact .inl (.inl q)); (exact .inl (.inr (.inr (.inl q)))); (exact .inl (.inr (.inr (.inr q))))) (fun j e => by rcases e with e | e; (rcases hS j e with q | q; (exact .inl (.inl q)); (exact .inr (.inr q))); (exact .inl (.inr e)))
          bel := ht.below h.bel h.bel.size fun j e => by rcases hT j e with q | q | q; (rcases h.sO j q with r | r <;> omega); (omega); (omega)
          ord := h.ord }
/-- the same world, but for new blocks -/
theorem PcM.keep (h : PcM w g6 gr lo b B bs ds v L lim sf rc S kk W) (hbl : bs.length ≤ 140737488351232) (hz : B + 6 ≤ W.heap.size) (hb : Below W.heap.size W W') : PcM w g6 gr lo b B bs ds v L lim sf rc S kk W' :=
  h.turn hbl (T := fun _ => False) (.of_below hb) (fun _ e => e.elim) (fun j e => .inl e) hz (blk_keep h.b13 hb) (blk_keep h.rcd hb)
theorem PcM.put (h : PcM w g6 gr lo b B bs ds v L lim sf rc S kk W) (hbl : bs.length ≤ 140737488351232) (hz : B + 6 ≤ W.heap.size) (rc' : Obj) : PcM w g6 gr lo b B bs ds v L lim sf rc' S kk (W.putObj (B + 5) rc') :=
  h.turn hbl (turns_put (w := W) (g := B + 5) rc') (fun _ e => .inr (.inr (by omega))) (fun j e => .inl e) hz (boxed_turns h.b13 (turns_put rc') (by omega)) (World.putObj_heap_same (by omega))
theorem PcM.cnt (h : PcM w g6 gr lo b B bs ds v L lim sf rc S kk W) (hbl : bs.length ≤ 140737488351232) (hz : B + 6 ≤ W.heap.size) (n : Nat) : PcM w g6 gr lo b B bs ds v L lim sf rc S n (W.setCell ⟨B + 1, 0, none⟩ (.int .i64 (n : Nat))) :=
  have ht := Turns.set (S := fun j => j = B + 1) W (b := B + 1) (i := 0) rfl (.int .i64 (n : Nat))
  h.turn hbl ht (fun _ e => .inr (.inl e)) (fun j e => .inl e) hz (boxed_set h.b13 _) (ht.heap h.rcd (by omega))
end
/-- an element of a list of chunks -/
theorem ChL.at {W : World} {lo : Nat} {S : Nat → Prop} {a : Option Addr} {n cc kk : Nat} {L : List Ck} {xs : List UInt8} {e : Int} (h : ChL W lo S (.slice a n cc) L) (hk : L[kk]? = some (xs, e)) :
    ∃ b' o' ax nx cx, a = some ⟨b', o', none⟩ ∧ W.cell? ⟨b', o' + kk * 2, none⟩ = some (.slice ax nx cx) ∧ W.cell? ⟨b', o' + kk * 2 + 1, none⟩ = some (.int .i64 e) ∧ Sl Bf W ax nx cx xs := by
  obtain ⟨vs, h1, h2, h3, h4⟩ := h
  obtain ⟨a2, c2, hv, hs⟩ := h1.sl fC_len
  injection hv with e1 e2 e3
  subst e1 e3
  have hkl : kk < vs.length := by have := (List.getElem?_eq_some_iff.1 hk).1; omega
  obtain ⟨b', o', ha, hc⟩ := hs.2.2.2 kk _ (List.getElem?_eq_getElem hkl)
  obtain ⟨q1, q2, q3⟩ := h4 kk _ _ (List.getElem?_eq_getElem hkl) hk
  have c1 := hc 1 _ rfl
  rw [q1] at c1
  exact ⟨b', o', _, _, _, ha, hc 0 _ rfl, c1, q2⟩
theorem ChL.slice {W : World} {lo : Nat} {S : Nat → Prop} {v : Value} {L : List Ck} (h : ChL W lo S v L) : ∃ a c, v = .slice a L.length c := by
  obtain ⟨vs, h1, h2, h3, h4⟩ := h
  obtain ⟨a, c, hv, hs⟩ := h1.sl fC_len
  exact ⟨a, c, by rw [← h2]; exact hv⟩
theorem wrap64_low {z : Int} (h0 : 0 ≤ z) (h1 : z < 9223372036854775808) : wrap64 z = z := by
  unfold wrap64
  rw [Int.emod_eq_of_lt (by omega) (by omega)]; omega
theorem wrap64_byte (y : UInt8) : wrap64 (1 + wrap64 (B y)) = ((1 + y.toNat : Nat) : Int) := by
  have h := y.toNat_lt
  have e1 : B y = ((y.toNat : Nat) : Int) := rfl
  rw [e1, wrap64_low (z := ((y.toNat : Nat) : Int)) (by omega) (by omega), wrap64_low (by omega) (by omega)]
  omega
/-- out of a function that tells a truth value, through all marks -/
theorem bool_leaves {F : Fence} {n : Nat} {P : Program} {fn : Func} {tmps : Array Value} {w : World} {g6 : Nat} {ty : TypeId} {T : Nat → Prop} (hres : ∀ W : World, W.cell? ⟨g6, 0, none⟩ = some (.bool true) → (results fn tmps).run P W = .ok (.bool true) W) (ds : List Deferred) (W : World) (hM : Marks w.heap.size T ds W) (h4 : Boxed W g6 ty (.bool true)) (hB : Below w.heap.size w W) :
    LeavesInM F n P fn tmps (fun e w' => e = .returned (.bool true) ∧ Below w.heap.size w w') ds .returning W :=
  leaves_marks (low := w.heap.size) (R0 := fun W => Boxed W g6 ty (.bool true) ∧ Below w.heap.size w W)
    (fun W D hD h h2 => ⟨boxed_turns h.1 (turns_put _) (by
      intro e
      have hh : W.heap[g6]? = _ := h.1
      rw [e, h2] at hh; cases hh), (turns_put (w := W) (g := D) (.deferred none)).below h.2 h.2.size fun j e => by omega⟩)
    (fun W h => ⟨.bool true, hres W (cell_of h.1 0 rfl), rfl, h.2⟩) ds W hM ⟨h4, hB⟩
end Go.Proofs.Ytjkgncogpefnbaa
