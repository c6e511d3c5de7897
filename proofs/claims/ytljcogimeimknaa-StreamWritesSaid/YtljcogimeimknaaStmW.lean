/- A writer of streams: Cut, Next, Spans: contracts. Conditions: the writer stands rightly. -/
import Derived.Test.YtljcogimeimknaaStmEnds
namespace Go.Proofs.Ytljcogimeimknaa
open Go.RowKit
set_option linter.unusedVariables false

theorem ok_of_open {s : WS} (h : ¬ s.shut = true) : s.shut = false := by cases hs : s.shut <;> simp_all

set_option maxRecDepth 100000 in
theorem scut_any (w : World) (lo g m : Nat) (s : WS) (who : Nat → Nat) (h : WrS w lo g m s who) (hok : s.Ok m) :
    Calls Try.prog 18 #[.pointer (some ⟨g, 0, none⟩)] w fun e w' => e = .returned (.int .i64 ((if s.shut then 87 else 0 : Nat) : Nat)) ∧ WPost w w' lo g m s.cut who := by
  obtain ⟨gb, v, lv, rv, yv, vs, hW⟩ := id h
  have c4 := hW.c4
  by_cases hs : s.shut = true
  · have FIN := Lib.hid (show WPost w w lo g m s.cut who by rw [WS.cut_nil (hok.done hs)]; exact ⟨who, h, Gr.refl _ _⟩)
    rw [hs] at c4 ⊢
    clear hW h hok hs
    go_enter Try.func18, Try.ntmps18
    go_wp2_with fail
    go_ret
    exact ⟨rfl, FIN.out⟩
  · replace hs := ok_of_open hs
    have EN := Lib.hid (sends_any w lo g m s who h (hok.weak hs))
    rw [hs] at c4 ⊢
    clear hW h hok hs
    go_enter Try.func18, Try.ntmps18
    go_wp2_with (go_at_call 43; refine EN.out.mono ?_; rintro e w1 ⟨rfl, hp⟩; have HP := Lib.hid hp; clear hp)
    go_ret
    exact ⟨rfl, HP.out⟩

set_option maxRecDepth 100000 in
theorem snext_any (w : World) (lo g m : Nat) (s : WS) (who : Nat → Nat) (h : WrS w lo g m s who) (hok : s.Ok m) :
    Calls Try.prog 22 #[.pointer (some ⟨g, 0, none⟩)] w fun e w' => ∃ a n c who', e = .returned (.slice a n c) ∧ OwT fB w' lo 5 (.slice a n c) s.ready ∧ WrS w' lo g m s.next who' ∧ Gr w w' who who' ∧
      (∀ j, Value.ownBlock (.slice a n c) = some j → w.heap.size ≤ j ∧ j < w'.heap.size ∧ who' j = 0) := by
  obtain ⟨gb, v, lv, rv, yv, vs, hW⟩ := id h
  have hrl := WS.ready_le hok
  obtain ⟨aY, nY, cY, hyv, zY⟩ := hW.yr.slN
  subst hyv
  have hn : nY ≤ 200000000000 := by rw [← zY.len]; exact hrl
  have c5 := hW.c5
  have W0 := Lib.hid hW
  have ZY := Lib.hid zY
  have hlow := hW.low
  have LOW := Lib.hid hlow
  clear hW h hok zY hrl hlow
  go_enter Try.func22, Try.ntmps22
  go_wp2_with fail
  refine (clone_any aY nY cY s.ready w (by omega) ZY.out).mono ?_
  rintro e w1 ⟨x1, rfl, ho1, hb1⟩
  obtain ⟨a1, n1, c1, rfl, z1⟩ := ho1.slN
  have O1 := Lib.hid ho1
  have B1 := Lib.hid hb1
  have hW1 := W0.out.keep hb1
  have d5 := hW1.c5
  have f5 := hW1.free 5
  have W1 := Lib.hid hW1
  clear ho1 hb1 z1 hW1 c5
  go_wp2_with fail
  go_ret
  obtain ⟨who', hW', hG'⟩ := W1.out.setY (x := .slice none 0 0) (Y' := []) (Turns.refl _ _) (.inl (OwT.nil _ _ _ _)) (fun j hj => by simp [Value.ownBlock] at hj)
  have hgo : Off (Value.slice a1 n1 c1) g := fun j hj e => by have := (O1.out.lt j hj).1; have := W0.out.lt; omega
  refine ⟨a1, n1, c1, who', rfl, (O1.out.of_block fun j hj => Below.heap_setCell _ _ _ _ (hgo j hj)).base W0.out.lw, ⟨gb, v, lv, rv, .slice none 0 0, vs, ?_⟩, (Gr.below B1.out).trans hG', fun j hj => ?_⟩
  · have e1 : s.next.ready = [] := WS.next_ready s
    rw [e1]
    exact hW'
  · obtain ⟨q1, q2⟩ := O1.out.lt j hj
    refine ⟨q1, by simpa using q2, ?_⟩
    rw [hG'.o j q2]
    exact Classical.byContradiction fun e => by have := (LOW.out j e).2; omega

set_option maxRecDepth 100000 in
theorem sspans_any (w : World) (lo g m : Nat) (s : WS) (who : Nat → Nat) (h : WrS w lo g m s who) (hok : s.Ok m) :
    Calls Try.prog 24 #[.pointer (some ⟨g, 0, none⟩)] w fun e w' => ∃ a n c vs, e = .returned (.slice a n c) ∧ OwR w' w.heap.size (.slice a n c) vs ∧ KTx w' w.heap.size w'.heap.size (.slice a n c) vs (rowsL s.L) ∧ Below w.heap.size w w' := by
  obtain ⟨gb, v, lv, rv, yv, vs, hW⟩ := id h
  obtain ⟨aR, nR, cR, hrv, hsp⟩ := hW.spv
  subst hrv
  have c3 := hW.c3
  have hn : nR ≤ 100000000 := by rw [← hsp.spans.1, rowsL_len]; have := hok.many; omega
  have HK := Lib.hid (show ∀ r, r ∈ rowsL s.L → r.1.length ≤ 1000 from fun r hr => by
    have hkey : ∀ (L : List (List Ent)) (p : Nat), OkL L → ∀ r, r ∈ rowsF p L → r.1.length ≤ 64 := by
      intro L
      induction L with
      | nil => intro p _ r hr; simp [rowsF] at hr
      | cons l t ih =>
        intro p hL r hr
        simp only [rowsF, List.mem_cons] at hr
        rcases hr with rfl | hr
        · exact (bst_le l (srt_okay (hL l List.mem_cons_self).1.2)).2.2
        · exact ih _ (fun x hx => hL x (List.mem_cons_of_mem _ hx)) r hr
    have := hkey s.L 8 hok.l r hr
    omega)
  have SP := Lib.hid hsp
  clear hW h hok hsp
  go_enter Try.func24, Try.ntmps24
  go_wp2_with (go_at_call 54; refine (copied_any aR nR cR vs (rowsL s.L) w hn HK.out SP.out).mono ?_; rintro e w1 ⟨a2, c2, vs2, rfl, ho, hk, hb⟩; have O := Lib.hid ho; have K := Lib.hid hk; have B1 := Lib.hid hb; clear ho hk hb)
  go_ret
  exact ⟨a2, nR, c2, vs2, rfl, O.out, K.out, B1.out⟩
end Go.Proofs.Ytljcogimeimknaa
