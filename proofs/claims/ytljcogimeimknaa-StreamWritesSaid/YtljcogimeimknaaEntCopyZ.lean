/- Copy of entries, its memory told whole: contract. Conditions: the entries within reach. -/
import Derived.Test.YtljcogimeimknaaEntSpoil
import Derived.Test.YtljcogimeimknaaK8a
namespace Go.Proofs.Ytljcogimeimknaa
open Go.RowKit
set_option linter.unusedVariables false

abbrev zE : Sv × Sv := ((none, 0, 0), (none, 0, 0))
theorem zE_ok : ∃ i z, Try.prog.info? 42 = some i ∧ i.zero = some z ∧ z.cells.toList = fE zE := by
  have hi : (Try.prog.info? 42).map (fun i => (i.zero, i.size, i.bytes)) = some (some (.agg #[.slice none 0 0, .slice none 0 0]), 2, 48) := by kernel_rfl
  obtain ⟨i, hi1, hi2, hi3, hi4⟩ := info_parts hi
  exact ⟨i, _, hi1, hi2, rfl⟩
theorem OwZ.made {w1 : World} {g m : Nat} {x0 : Sv × Sv} (hh : w1.heap[g]? = some (.cells ((List.replicate m x0).flatMap fE).toArray 42 (0, 0))) (hz : ∃ i z, Try.prog.info? 42 = some i ∧ i.zero = some z ∧ z.cells.toList = fE x0) (hm : m ≤ maxLen) :
    OwZ fE zE w1 g 42 (.slice (some ⟨g, 0, none⟩) 0 m) [] := by
  obtain ⟨i, z, e1, e2, e3⟩ := hz
  obtain ⟨i', z', f1, f2, f3⟩ := zE_ok
  rw [e1] at f1; cases f1
  rw [e2] at f2; cases f2
  have e : fE x0 = fE zE := e3.symm.trans f3
  have er : (List.replicate m x0).flatMap fE = (List.replicate m zE).flatMap fE := by
    clear hh hm
    induction m with
    | zero => rfl
    | succ m ih => rw [List.replicate_succ, List.replicate_succ, List.flatMap_cons, List.flatMap_cons, ih, e]
  exact .inr ⟨g, m, rfl, Nat.le_refl _, by rw [hh, er]; simp, Nat.zero_le _, hm⟩
set_option maxHeartbeats 1000000 in
set_option maxRecDepth 100000 in
theorem copyZ_any (a : Option Addr) (n c : Nat) (es : List Ent) (w : World) (hn : n ≤ 2932031007317) (hf : Fit 140737488351232 es) (h : Ents w a n c es) :
    Calls Try.prog 8 #[.slice a n c] w fun e w' => ∃ a2 c2, e = .returned (.slice a2 n c2) ∧ (Cpy w' w.heap.size w'.heap.size (a2, n, c2) es ∧ SpE w' w.heap.size w'.heap.size a2 n c2) ∧ Below w.heap.size w w' := by
  obtain rfl : n = es.length := h.1.symm
  have H := Lib.hid h; clear h
  have HF := Lib.hid hf; clear hf
  obtain ⟨m, hm⟩ : ∃ m, es.length + 1 = m := ⟨_, rfl⟩
  have hm1 : ((es.length : Int) + 1) = (m : Int) := by omega
  have HM1 := Lib.hid hm1; clear hm1
  have hm2 : m ≤ 2932031007318 := by omega
  have hm3 : es.length ≤ m := by omega
  have HM := Lib.hid hm; clear hm
  go_enter Try.func8, Try.ntmps8
  go_wp2_with (at_make; refine wpList_mkT eltTE rfl _ _ rfl w.heap.size 0 m (Nat.zero_le _) rfl rfl rfl HM1.out (by omega) (by unfold maxLen; omega) (Nat.le_refl _) ?_; intro x0 w1 hh1 _ hz1 hb1; have HH1 := Lib.hid hh1; have HZ1 := Lib.hid hz1; have B1 := Lib.hid hb1; clear hh1 hz1 hb1)
  have O1 := Lib.hid (OwZ.made HH1.out HZ1.out (by unfold maxLen; omega))
  clear HH1 HZ1
  go_loopw [3, 4] (fun s i wr => ∃ (k : Nat) (vs : List (Sv × Sv)), k ≤ es.length ∧ i = .int .i64 k ∧ vs.length = k ∧ OwZ fE zE wr w.heap.size 42 s vs ∧ Txts wr w.heap.size wr.heap.size s vs es ∧ Below w.heap.size w wr) (fun _ i _ => es.length - (intOf i).toNat)
  case atStart => exact ⟨0, [], Nat.zero_le _, rfl, rfl, O1.out, Txts.nil _ _ _ _ _, B1.out⟩
  case round =>
    obtain ⟨k, vs, hk, rfl, hvk, ho, ht, hb⟩ := hrel
    have B := Lib.hid hb; clear hb B1 O1
    have T := Lib.hid ht; clear ht
    have hlo := B.out.size
    obtain ⟨a1, n1, c1, rfl, hn1, hc1⟩ := ho.t.slE
    obtain rfl : k = n1 := by omega
    have HVK := Lib.hid hvk; clear hvk hn1
    have O := Lib.hid ho; clear ho
    by_cases hlt : k < es.length
    · obtain ⟨⟨kk, vv⟩, he⟩ : ∃ e, es[k]? = some e := ⟨_, List.getElem?_eq_getElem hlt⟩
      obtain ⟨b, o, ak, nk, ck, av, nv, cv, rfl, c0, c1', s0, s1⟩ := (H.out.keep B.out).2.2.2 k kk vv he
      obtain ⟨fk, fv⟩ := HF.out _ (List.mem_of_getElem? he)
      have l0 := s0.len; have l1 := s1.len
      have hbl : b < wr.heap.size := cell_lt c0
      have HE := Lib.hid he; clear he
      have S0 := Lib.hid s0; clear s0
      have S1 := Lib.hid s1; clear s1
      dsimp only at fk fv
      rw [l0] at fk; rw [l1] at fv
      clear l0 l1
      go_upto_region 5 with (fail)
      go_region_law (first
        | (refine step_appZ eltTE zE_ok rfl (.tmp 15) (.tmp 29) rfl w.heap.size (.slice a1 k c1) vs (by simp [Act.eval]) (O2.out.keep ((Below.refl _ _).alloc (Nat.le_refl _) _)) (some ⟨w6.heap.size, 0, none⟩) 1 1 [((a5, nk, c5), (a6, nv, c6))] (by simp [Act.eval]) (SlT.lit1 _ _ _ _ rfl) (by rw [HVK.out]; unfold maxLen; omega) (by rw [HVK.out]; omega) (by simp; omega) (vs ++ [((a5, nk, c5), (a6, nv, c6))]) rfl ?_; intro v7 w7 h7 hg7 hv7 hb7)
        | (go_simp; go_at_call_of 36 (Value.slice ak nk ck); refine (marked_any ak nk ck kk _ fk S0.out.drew).mono ?_; rintro e w5 ⟨a5, c5, rfl, hm5, hb5⟩; have c1' : w5.cell? ⟨b, o + k * 2 + 1, none⟩ = some (.slice av nv cv) := (World.cell?_of_block (hb5.block b hbl)).trans c1'; have M5 := Lib.hid hm5; have B5 := Lib.hid hb5; clear hm5 hb5)
        | (go_simp; go_at_call_of 36 (Value.slice av nv cv); refine (marked_any av nv cv vv _ fv (S1.out.drew.keep B5.out)).mono ?_; rintro e w6 ⟨a6, c6, rfl, hm6, hb6⟩; have s56 : w5.heap.size ≤ w6.heap.size := hb6.size; have s5 : wr.heap.size ≤ w5.heap.size := B5.out.size; have M6 := Lib.hid hm6; have B2 := Lib.hid (B5.out.trans (hb6.mono B5.out.size)); have M5' := Lib.hid (M5.out.same (fun j _ h2 => hb6.block j h2)); have O2 := Lib.hid (OwZ.keep (w := wr.drew) O.out B2.out); have hz6 : wr.heap.size ≤ w6.heap.size := B2.out.size; clear hm6 hb6))
      all_goals
        have HT := Lib.hid (T.out.step (lo := w.heap.size) (v := .slice a1 k c1) (v' := v7) (w2 := w6.alloc (.cells #[sv (a5, nk, c5), sv (a6, nv, c6)] 42)) (w3 := w7) (s1 := (a5, nk, c5)) (s2 := (a6, nv, c6)) hlo (by rw [HVK.out]; exact HE.out)
          (fun j hj => ((Below.refl w6.heap.size w6).alloc (Nat.le_refl _) _).block j (by omega) |>.trans (B2.out.block j hj)) (Nat.le_trans hz6 (le_alloc _ _))
          ((M5'.out.same (fun j _ hj => ((Below.refl w6.heap.size w6).alloc (Nat.le_refl _) _).block j (by have : j < w5.heap.size := hj; have := s56; omega))).widen (Nat.le_refl _) (Nat.le_trans s56 (le_alloc _ _)))
          ((M6.out.same (fun j _ hj => ((Below.refl w6.heap.size w6).alloc (Nat.le_refl _) _).block j hj)).widen s5 (le_alloc _ _))
          (fun j hj => (O.out.t.lt j hj).2) hg7 hv7)
        have B7 := Lib.hid ((B.out.drew.trans (B2.out.mono hlo)).trans (((Below.refl w.heap.size w6).alloc (by omega) (.cells #[sv (a5, nk, c5), sv (a6, nv, c6)] 42)).trans hb7))
        have O7 := Lib.hid h7
        clear hg7 hv7 hb7 h7
        go_wp2_with fail
        go_roundw
        case rel => exact ⟨k + 1, _, by omega, by go_num, by rw [List.length_append, HVK.out]; rfl, O7.out, HT.out, B7.out⟩
        case measure => simp [intOf]; omega
    · obtain rfl : k = es.length := by omega
      have hmc : m ≤ 140737488351233 := by omega
      go_wp2_with (at_builtin; refine wpList_appZ eltTE zE_ok rfl (.tmp 31) (.tmp 34) rfl w.heap.size (.slice a1 es.length c1) vs (by rfl) ((O.out.keep ((Below.refl _ _).alloc (Nat.le_refl _) (.cells #[.int .u8 77] 5))).keep ((Below.refl _ _).alloc (Nat.le_refl _) (.cells #[sv (some ⟨wr.heap.size, 0, none⟩, 1, 1), sv (none, 0, 0)] 42))) (some ⟨wr.heap.size + 1, 0, none⟩) 1 1 [((some ⟨wr.heap.size, 0, none⟩, 1, 1), (none, 0, 0))] (by rfl) (SlT.lit1 _ _ _ _ (by simp)) (by rw [HVK.out]; unfold maxLen; omega) (by rw [HVK.out]; omega) (by simp; omega) _ rfl ?_; intro v7 w7 h7 hg7 hv7 hb7; obtain ⟨a7, n7, c7, rfl, hn7, hc7⟩ := h7.t.slE; obtain rfl : m = n7 := (by rw [hn7, List.length_append, HVK.out, ← HM.out]; rfl); have O7 := Lib.hid h7; have HG7 := Lib.hid hg7; have HV7 := Lib.hid hv7; have B7 := Lib.hid hb7; have hcut := fun (W : World) => run_cutE W a7 m c7 .i64 es.length (by omega); clear h7 hg7 hv7 hb7 hn7)
      go_ret
      have hal : Below wr.heap.size wr ((wr.alloc (.cells #[.int .u8 77] 5)).alloc (.cells #[sv (some ⟨wr.heap.size, 0, none⟩, 1, 1), sv (none, 0, 0)] 42)) := ((Below.refl _ _).alloc (Nat.le_refl _) _).alloc (by simp) _
      have hsz : wr.heap.size ≤ w7.heap.size := Nat.le_trans hal.size HG7.out.size
      have ho7 := O7.out
      have hlv : (vs ++ [((some ⟨wr.heap.size, 0, none⟩, 1, 1), (none, 0, 0))] : List (Sv × Sv)).length = m := by rw [List.length_append, HVK.out, ← HM.out]; rfl
      have go : ∀ (s : Sv) (xs : List UInt8), Mkd wr w.heap.size wr.heap.size s xs → (∀ j, Value.ownBlock (.slice a1 es.length c1) = some j → s.1.map (·.block) ≠ some j) → Mkd w7 w.heap.size w7.heap.size s xs := by
        intro s xs hm hn
        refine (hm.off fun j hj => ?_).widen (Nat.le_refl _) hsz
        have hb := hm.blk j hj
        exact (HG7.out.block j (Nat.lt_of_lt_of_le hb.2 hal.size) (fun e => hn j e.symm hj)).trans (hal.block j hb.2)
      refine ⟨a7, c7, rfl, ⟨⟨rfl, vs, ((some ⟨wr.heap.size, 0, none⟩, 1, 1), (none, 0, 0)), HVK.out, ?_, rfl, ?_, fun i x e hx he => ?_⟩, ?_⟩, (B.out.trans (hal.mono hlo)).trans B7.out⟩
      · have := ho7.t; rw [← HM.out] at this; exact this
      · intro j hj; exact ho7.t.lt j (by rw [own_map] at hj ⊢; exact hj)
      · obtain ⟨⟨m1, m2⟩, hne⟩ := T.out i x e hx he
        exact ⟨go _ _ m1 (fun j hj => (hne j hj).1), go _ _ m2 (fun j hj => (hne j hj).2)⟩
      · rcases ho7 with ⟨hv, hnil⟩ | ⟨gl, cap, hv, hg, hh, hn, hcm⟩
        · rw [hnil] at hlv; simp at hlv; have := HM.out; omega
        · injection hv with e1 e2 e3
          subst e3
          rw [hlv] at hn hh
          have hglw : gl ≠ wr.heap.size ∧ (gl < wr.heap.size → Value.ownBlock (.slice a1 es.length c1) = some gl) := by
            have hob : Value.ownBlock (.slice a7 m c7) = some gl := by rw [e1]; rfl
            rcases HV7.out with e | e
            · have h1 : Value.ownBlock (.slice a1 es.length c1) = some gl := e.symm.trans hob
              have := (O.out.t.lt gl h1).2
              exact ⟨by omega, fun _ => h1⟩
            · rw [hob] at e; injection e with e
              rw [World.size_alloc, World.size_alloc] at e
              exact ⟨by omega, fun h => by omega⟩
          refine .inr ⟨gl, _, e1, hh, ?_, by omega, by unfold maxLen at hcm; omega, hg, (Array.getElem?_eq_some_iff.1 hh).1, fun x hx => ?_⟩
          · rw [List.length_append, hlv, List.length_replicate]; omega
          · rcases List.mem_append.1 hx with hx | hx
            · rcases List.mem_append.1 hx with hx | hx
              · obtain ⟨i, hi, e⟩ := List.mem_iff_getElem.1 hx
                have hxi : vs[i]? = some x := by rw [← e]; exact List.getElem?_eq_getElem hi
                have hvl := HVK.out
                obtain ⟨en, he⟩ : ∃ en, es[i]? = some en := ⟨_, List.getElem?_eq_getElem (by omega)⟩
                obtain ⟨⟨m1, m2⟩, hne⟩ := T.out i x en hxi he
                have kb : ∀ (s : Sv) (xs : List UInt8), Mkd wr w.heap.size wr.heap.size s xs → (∀ j, Value.ownBlock (.slice a1 es.length c1) = some j → s.1.map (·.block) ≠ some j) → KbE w7 gl w.heap.size w7.heap.size s := fun s xs hm hne2 => by
                  have hm7 := go s xs hm hne2
                  refine KbE.of_own rfl hm7.2.1 hm7.2.2 (fun j hj e => ?_)
                  subst e
                  have hlt := (hm.blk j (by rw [own_map] at hj; exact hj)).2
                  exact hne2 j (hglw.2 hlt) (by rw [own_map] at hj; exact hj)
                exact ⟨kb _ _ m1 (fun j hj => (hne j hj).1), kb _ _ m2 (fun j hj => (hne j hj).2)⟩
              · obtain rfl := List.mem_singleton.1 hx
                have h77 : w7.heap[wr.heap.size]? = some (.cells #[.int .u8 77] 5 (0, 0)) := by
                  refine (HG7.out.block _ (by simp; omega) (fun e => ?_)).trans (((Below.heap_alloc _ _ _ (by simp)).trans (heap_new wr _)))
                  have := (O.out.t.lt _ e.symm).2; omega
                refine ⟨.inr ⟨wr.heap.size, [77], rfl, h77, rfl, fun e => hglw.1 e.symm, hlo, by have := (Array.getElem?_eq_some_iff.1 h77).1; exact this, by show 1 ≤ _; omega⟩, .inl ⟨rfl, rfl⟩⟩
            · obtain ⟨_, rfl⟩ := List.mem_replicate.1 hx
              exact ⟨.inl ⟨rfl, rfl⟩, .inl ⟨rfl, rfl⟩⟩
end Go.Proofs.Ytljcogimeimknaa
