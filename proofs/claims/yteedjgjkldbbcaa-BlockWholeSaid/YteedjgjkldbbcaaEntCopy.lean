/- Copies of entries with marks: contracts of Copy, Same, SameAll, Kept. Conditions: the slices within reach. -/
import Derived.Test.YteedjgjkldbbcaaEntFns
import Derived.Deep.RegionLaw
namespace Go.Proofs.Yteedjgjkldbbcaa
open Go.RowKit

/-- texts with marks that lie apart from the list's own block -/
def Txts (w : World) (lo hi : Nat) (v : Value) (vs : List (Sv × Sv)) (es : List Ent) : Prop :=
  ∀ (i : Nat) (x : Sv × Sv) (e : Ent), vs[i]? = some x → es[i]? = some e → (Mkd w lo hi x.1 e.1 ∧ Mkd w lo hi x.2 e.2) ∧ ∀ j, v.ownBlock = some j → x.1.1.map (·.block) ≠ some j ∧ x.2.1.map (·.block) ≠ some j
theorem Mkd.blk {w : World} {lo hi : Nat} {s : Sv} {xs : List UInt8} (h : Mkd w lo hi s xs) : ∀ j, s.1.map (·.block) = some j → lo ≤ j ∧ j < hi := by
  intro j hj; exact h.2.2 j (by rw [own_map]; exact hj)
theorem Mkd.off {w w' : World} {lo hi : Nat} {s : Sv} {xs : List UInt8} (h : Mkd w lo hi s xs) (hs : ∀ j, s.1.map (·.block) = some j → w'.heap[j]? = w.heap[j]?) : Mkd w' lo hi s xs :=
  ⟨h.1, h.2.1.of_block fun j hj => hs j (by rw [own_map] at hj; exact hj), h.2.2⟩
theorem Txts.step {wr w2 w3 : World} {lo : Nat} {v v' : Value} {vs : List (Sv × Sv)} {es : List Ent} {s1 s2 : Sv} {e : Ent} (h : Txts wr lo wr.heap.size v vs es) (hlo : lo ≤ wr.heap.size) (hl : es[vs.length]? = some e)
    (hw : ∀ j, j < wr.heap.size → w2.heap[j]? = wr.heap[j]?) (hsz : wr.heap.size ≤ w2.heap.size) (h1 : Mkd w2 wr.heap.size w2.heap.size s1 e.1) (h2 : Mkd w2 wr.heap.size w2.heap.size s2 e.2)
    (hv : ∀ j, v.ownBlock = some j → j < wr.heap.size) (hg : w2.grownBy w3 v.ownBlock) (hv' : v'.ownBlock = v.ownBlock ∨ v'.ownBlock = some w2.heap.size) : Txts w3 lo w3.heap.size v' (vs ++ [(s1, s2)]) es := by
  have hs3 := hg.size
  have new : ∀ (s : Sv) (xs : List UInt8), Mkd w2 wr.heap.size w2.heap.size s xs → Mkd w3 lo w3.heap.size s xs ∧ ∀ j, v'.ownBlock = some j → s.1.map (·.block) ≠ some j := by
    intro s xs hm
    refine ⟨(hm.off fun j hj => hg.block j (hm.blk j hj).2 fun e => ?_).widen hlo hs3, fun j hj hb => ?_⟩
    · have := hv j e.symm; have := (hm.blk j hj).1; omega
    · have hb := hm.blk j hb
      rcases hv' with e | e
      · have := hv j (e.symm.trans hj); omega
      · rw [e] at hj; injection hj with hj; omega
  have old : ∀ (s : Sv) (xs : List UInt8), Mkd wr lo wr.heap.size s xs → (∀ j, v.ownBlock = some j → s.1.map (·.block) ≠ some j) → Mkd w3 lo w3.heap.size s xs ∧ ∀ j, v'.ownBlock = some j → s.1.map (·.block) ≠ some j := by
    intro s xs hm hne
    refine ⟨(hm.off fun j hj => ?_).widen (Nat.le_refl _) (Nat.le_trans hsz hs3), fun j hj hb => ?_⟩
    · have hb := hm.blk j hj
      exact (hg.block j (by omega) (fun e => hne j e.symm hj)).trans (hw j hb.2)
    · rcases hv' with e | e
      · exact hne j (e.symm.trans hj) hb
      · rw [e] at hj; injection hj with hj; have := (hm.blk j hb).2; omega
  intro i x e' hx he'
  by_cases hi : i < vs.length
  · rw [List.getElem?_append_left hi] at hx
    obtain ⟨⟨m1, m2⟩, hne⟩ := h i x e' hx he'
    have a1 := old _ _ m1 (fun j hj => (hne j hj).1)
    have a2 := old _ _ m2 (fun j hj => (hne j hj).2)
    exact ⟨⟨a1.1, a2.1⟩, fun j hj => ⟨a1.2 j hj, a2.2 j hj⟩⟩
  · have hi2 : i < (vs ++ [(s1, s2)]).length := (List.getElem?_eq_some_iff.1 hx).1
    rw [List.length_append] at hi2
    obtain rfl : i = vs.length := by simp at hi2; omega
    obtain rfl : (s1, s2) = x := by simpa using hx
    obtain rfl : e = e' := by rw [hl] at he'; exact Option.some.inj he'
    have a1 := new _ _ h1
    have a2 := new _ _ h2
    exact ⟨⟨a1.1, a2.1⟩, fun j hj => ⟨a1.2 j hj, a2.2 j hj⟩⟩
theorem le_alloc (w : World) (o : Obj) : w.heap.size ≤ (w.alloc o).heap.size := by simp
theorem Txts.nil (w : World) (lo hi : Nat) (v : Value) (es : List Ent) : Txts w lo hi v [] es := fun i x e hx _ => by simp at hx
theorem SlT.lit1 (w : World) (s1 s2 : Sv) (g : Nat) (hg : w.heap.size = g) : SlT fE 2 (w.alloc (.cells #[sv s1, sv s2] 41)) (some ⟨g, 0, none⟩) 1 1 [(s1, s2)] := by
  subst hg
  obtain ⟨a, c, hv, hs⟩ := (OwT.lit fE w w.heap.size 41 #[sv s1, sv s2] [(s1, s2)] 1 rfl rfl (Nat.le_refl _) (by decide)).sl fE_len
  cases hv; exact hs
theorem run_cutE (w : World) (aa : Option Addr) (n c : Nat) (k2 : IntKind) (r : Nat) (hr : r ≤ c) : (Instr.slice 22 (.slice aa n c) none (some (.int k2 r)) none).run Try.prog w = .ok (.slice aa r c) w := by
  obtain ⟨ht, ⟨i, z, hi1, hi2, hi3, hi4, x0, hz⟩, hf, hk, h1⟩ := eltTE
  cases aa <;> simp [Instr.slice, run_underlying ht, Instr.sliceBounds, Instr.sliceBound, asIntOf, sizeOf, typeInfo, hi1, hr, Addr.add]
theorem OwT.slE {w : World} {base : Nat} {e : TypeId} {v : Value} {vs : List (Sv × Sv)} (h : OwT fE w base e v vs) : ∃ a n c, v = .slice a n c ∧ n = vs.length ∧ n ≤ c := by
  obtain ⟨a, c, hv, hs⟩ := h.sl fE_len
  exact ⟨a, _, c, hv, rfl, hs.2.1⟩

set_option maxHeartbeats 1000000 in
set_option maxRecDepth 100000 in
theorem copy_any (a : Option Addr) (n c : Nat) (es : List Ent) (w : World) (hn : n ≤ 2932031007317) (hf : Fit 140737488351232 es) (h : Ents w a n c es) :
    Calls Try.prog 12 #[.slice a n c] w fun e w' => ∃ a2 c2, e = .returned (.slice a2 n c2) ∧ Cpy w' w.heap.size w'.heap.size (a2, n, c2) es ∧ Below w.heap.size w w' := by
  obtain rfl : n = es.length := h.1.symm
  have H := Lib.hid h; clear h
  have HF := Lib.hid hf; clear hf
  obtain ⟨m, hm⟩ : ∃ m, es.length + 1 = m := ⟨_, rfl⟩
  have hm1 : ((es.length : Int) + 1) = (m : Int) := by omega
  have HM1 := Lib.hid hm1; clear hm1
  have hm2 : m ≤ 2932031007318 := by omega
  have hm3 : es.length ≤ m := by omega
  have HM := Lib.hid hm; clear hm
  go_enter Try.func12, Try.ntmps12
  go_wp2_with (at_make; refine wpList_mkT eltTE rfl _ _ rfl w.heap.size 0 m (Nat.zero_le _) rfl rfl rfl HM1.out (by omega) (by unfold maxLen; omega) (Nat.le_refl _) ?_; intro x0 w1 _ h1 _ hb1; have O1 := Lib.hid h1; have B1 := Lib.hid hb1; clear h1 hb1)
  go_loopw [3, 4] (fun s i wr => ∃ (k : Nat) (vs : List (Sv × Sv)), k ≤ es.length ∧ i = .int .i64 k ∧ vs.length = k ∧ OwT fE wr w.heap.size 41 s vs ∧ Txts wr w.heap.size wr.heap.size s vs es ∧ Below w.heap.size w wr) (fun _ i _ => es.length - (intOf i).toNat)
  case atStart => exact ⟨0, [], Nat.zero_le _, rfl, rfl, O1.out, Txts.nil _ _ _ _ _, B1.out⟩
  case round =>
    obtain ⟨k, vs, hk, rfl, hvk, ho, ht, hb⟩ := hrel
    have B := Lib.hid hb; clear hb B1 O1
    have T := Lib.hid ht; clear ht
    have hlo := B.out.size
    obtain ⟨a1, n1, c1, rfl, hn1, hc1⟩ := ho.slE
    obtain rfl : k = n1 := by omega
    have HVK := Lib.hid hvk; clear hvk hn1
    have O := Lib.hid ho; clear ho
    by_cases hlt : k < es.length
    · obtain ⟨⟨kk, vv⟩, he⟩ : ∃ e, es[k]? = some e := ⟨_, List.getElem?_eq_getElem hlt⟩
      obtain ⟨b, o, ak, nk, ck, av, nv, cv, rfl, c0, c1', s0, s1⟩ := (H.out.keep B.out).2.2.2 k kk vv he
      obtain ⟨fk, fv⟩ := HF.out _ (List.mem_of_getElem? he)
      have l0 := s0.len; have l1 := s1.len
      have hbl : b < wr.heap.size := cell_lt c0
      have HE := Lib.hid he; clear he
      have S0 := Lib.hid s0; clear s0
      have S1 := Lib.hid s1; clear s1
      dsimp only at fk fv
      rw [l0] at fk; rw [l1] at fv
      clear l0 l1
      go_upto_region 5 with (fail)
      go_region_law (first
        | (refine step_appT eltTE rfl (.tmp 15) (.tmp 29) rfl w.heap.size (.slice a1 k c1) vs (by simp [Act.eval]) (O2.out.alloc _) (some ⟨w6.heap.size, 0, none⟩) 1 1 [((a5, nk, c5), (a6, nv, c6))] (by simp [Act.eval]) (SlT.lit1 _ _ _ _ rfl) (by rw [HVK.out]; unfold maxLen; omega) (by rw [HVK.out]; omega) (by simp; omega) (vs ++ [((a5, nk, c5), (a6, nv, c6))]) rfl ?_; intro v7 w7 h7 hg7 hv7 hb7)
        | (go_simp; go_at_call_of 36 (Value.slice ak nk ck); refine (marked_any ak nk ck kk _ fk S0.out.drew).mono ?_; rintro e w5 ⟨a5, c5, rfl, hm5, hb5⟩; have c1' : w5.cell? ⟨b, o + k * 2 + 1, none⟩ = some (.slice av nv cv) := (World.cell?_of_block (hb5.block b hbl)).trans c1'; have M5 := Lib.hid hm5; have B5 := Lib.hid hb5; clear hm5 hb5)
        | (go_simp; go_at_call_of 36 (Value.slice av nv cv); refine (marked_any av nv cv vv _ fv (S1.out.drew.keep B5.out)).mono ?_; rintro e w6 ⟨a6, c6, rfl, hm6, hb6⟩; have s56 : w5.heap.size ≤ w6.heap.size := hb6.size; have s5 : wr.heap.size ≤ w5.heap.size := B5.out.size; have M6 := Lib.hid hm6; have B2 := Lib.hid (B5.out.trans (hb6.mono B5.out.size)); have M5' := Lib.hid (M5.out.same (fun j _ h2 => hb6.block j h2)); have O2 := Lib.hid (O.out.drew.keep B2.out); have hz6 : wr.heap.size ≤ w6.heap.size := B2.out.size; clear hm6 hb6))
      all_goals
        have HT := Lib.hid (T.out.step (lo := w.heap.size) (v := .slice a1 k c1) (v' := v7) (w2 := w6.alloc (.cells #[sv (a5, nk, c5), sv (a6, nv, c6)] 41)) (w3 := w7) (s1 := (a5, nk, c5)) (s2 := (a6, nv, c6)) hlo (by rw [HVK.out]; exact HE.out)
          (fun j hj => ((Below.refl w6.heap.size w6).alloc (Nat.le_refl _) _).block j (by omega) |>.trans (B2.out.block j hj)) (Nat.le_trans hz6 (le_alloc _ _))
          ((M5'.out.same (fun j _ hj => ((Below.refl w6.heap.size w6).alloc (Nat.le_refl _) _).block j (by have : j < w5.heap.size := hj; have := s56; omega))).widen (Nat.le_refl _) (Nat.le_trans s56 (le_alloc _ _)))
          ((M6.out.same (fun j _ hj => ((Below.refl w6.heap.size w6).alloc (Nat.le_refl _) _).block j hj)).widen s5 (le_alloc _ _))
          (fun j hj => (O.out.lt j hj).2) hg7 hv7)
        have B7 := Lib.hid ((B.out.drew.trans (B2.out.mono hlo)).trans (((Below.refl w.heap.size w6).alloc (by omega) (.cells #[sv (a5, nk, c5), sv (a6, nv, c6)] 41)).trans hb7))
        have O7 := Lib.hid h7
        clear hg7 hv7 hb7 h7
        go_wp2_with fail
        go_roundw
        case rel => exact ⟨k + 1, _, by omega, by go_num, by rw [List.length_append, HVK.out]; rfl, O7.out, HT.out, B7.out⟩
        case measure => simp [intOf]; omega
    · obtain rfl : k = es.length := by omega
      have hmc : m ≤ 140737488351233 := by omega
      go_wp2_with (at_builtin; refine wpList_appT eltTE rfl (.tmp 31) (.tmp 34) rfl w.heap.size (.slice a1 es.length c1) vs (by rfl) ((O.out.alloc _).alloc _) (some ⟨wr.heap.size + 1, 0, none⟩) 1 1 [((some ⟨wr.heap.size, 0, none⟩, 1, 1), (none, 0, 0))] (by rfl) (SlT.lit1 _ _ _ _ (by simp)) (by rw [HVK.out]; unfold maxLen; omega) (by rw [HVK.out]; omega) (by simp; omega) _ rfl ?_; intro v7 w7 h7 hg7 hv7 hb7; obtain ⟨a7, n7, c7, rfl, hn7, hc7⟩ := h7.slE; obtain rfl : m = n7 := (by rw [hn7, List.length_append, HVK.out, ← HM.out]; rfl); have O7 := Lib.hid h7; have HG7 := Lib.hid hg7; have HV7 := Lib.hid hv7; have B7 := Lib.hid hb7; have hcut := fun (W : World) => run_cutE W a7 m c7 .i64 es.length (by omega); clear h7 hg7 hv7 hb7 hn7)
      go_ret
      have hal : Below wr.heap.size wr ((wr.alloc (.cells #[.int .u8 77] 5)).alloc (.cells #[sv (some ⟨wr.heap.size, 0, none⟩, 1, 1), sv (none, 0, 0)] 41)) := ((Below.refl _ _).alloc (Nat.le_refl _) _).alloc (by simp) _
      have hsz : wr.heap.size ≤ w7.heap.size := Nat.le_trans hal.size HG7.out.size
      refine ⟨a7, c7, rfl, ⟨rfl, vs, ((some ⟨wr.heap.size, 0, none⟩, 1, 1), (none, 0, 0)), HVK.out, ?_, rfl, ?_, fun i x e hx he => ?_⟩, (B.out.trans (hal.mono hlo)).trans B7.out⟩
      · have := O7.out; rw [← HM.out] at this; exact this
      · intro j hj; exact O7.out.lt j (by rw [own_map] at hj ⊢; exact hj)
      · obtain ⟨⟨m1, m2⟩, hne⟩ := T.out i x e hx he
        have go : ∀ (s : Sv) (xs : List UInt8), Mkd wr w.heap.size wr.heap.size s xs → (∀ j, Value.ownBlock (.slice a1 es.length c1) = some j → s.1.map (·.block) ≠ some j) → Mkd w7 w.heap.size w7.heap.size s xs := by
          intro s xs hm hn
          refine (hm.off fun j hj => ?_).widen (Nat.le_refl _) hsz
          have hb := hm.blk j hj
          exact (HG7.out.block j (Nat.lt_of_lt_of_le hb.2 hal.size) (fun e => hn j e.symm hj)).trans (hal.block j hb.2)
        exact ⟨go _ _ m1 (fun j hj => (hne j hj).1), go _ _ m2 (fun j hj => (hne j hj).2)⟩
end Go.Proofs.Yteedjgjkldbbcaa
