/- Going through the chunks of any reader, against the list that the document gives: contract of the iterator. Conditions: numbers within reach. -/
import Derived.Test.YtjkgncogpefnbaaPipeChkGrow
import Derived.Test.YtjkgncogpefnbaaHelpS
namespace Go.Proofs.Ytjkgncogpefnbaa
open Go.RowKit Go.Shelf
set_option linter.unusedVariables false
set_option linter.unusedSimpArgs false

theorem yield_mono {F : Fence} {n : Nat} {P : Program} {l : Nat} {args : Array Value} {W : World} {R R' : Ending → World → Prop} (h : YieldAt F n P l args W R) (hm : ∀ e W', R e W' → R' e W') : YieldAt F n P l args W R' := by
  obtain ⟨fn', tm, asg, bod, hy, hR⟩ := h
  exact ⟨fn', tm, asg, bod, hy, hR.mono hm⟩
theorem drop_one {α : Type} {L R : List α} {k : Nat} {x : α} (h : L.drop k = x :: R) : L[k]? = some x ∧ L.drop (k + 1) = R := by
  have h1 : (L.drop k)[0]? = some x := by rw [h]; rfl
  rw [List.getElem?_drop] at h1
  refine ⟨by simpa using h1, ?_⟩
  have h2 : (L.drop k).drop 1 = R := by rw [h]; rfl
  rwa [List.drop_drop] at h2
theorem drop_end {α : Type} {L : List α} {k : Nat} (h : L.drop k = []) (hk : k ≤ L.length) : k = L.length := by
  have := congrArg List.length h
  rw [List.length_drop] at this
  simp at this; omega
theorem soft_row {w : World} {g k : Nat} {zs : List UInt8} (h : w.heap[g]? = some (.cells (zs.map Bf).toArray 5 (0, 0))) (hk : k ≤ zs.length) : Soft w (some ⟨g, 0, none⟩) k := fun i hi =>
  ⟨zs[i]'(by omega), g, 0, rfl, cell_of h (0 + i) (by rw [Nat.zero_add, List.getElem?_toArray, List.getElem?_map, List.getElem?_eq_getElem (show i < zs.length by omega)]; rfl), free_block h _⟩
set_option maxHeartbeats 2000000 in
theorem iter_any {σ : Type} {R : Rm σ} {fn : FuncId} {v : Value} {lo Bd bd : Nat} {St : σ → (Nat → Prop) → World → Prop} (RD : Reader R fn v lo Bd St bd) (T : TypeId)
    (hme : ∀ w, (method 215 T v "Read").run Try.prog w = .ok (fn, v) w) (hen : ∀ (args : Array Value) (W : World), (callFunc fn args).run Try.prog W = .ok (.enter fn args) W)
    (l gr gs : Nat) (size : Int) (W0 : World) (hR : Boxed W0 gr 78 (.iface T v)) (hS : Boxed W0 gs 3 (.int .i64 size)) (s0 : σ) (S0 : Nat → Prop) (h0 : St s0 S0 W0) (hSr : ¬ S0 gr) (hSs : ¬ S0 gs) (hcnt : R.cnt s0 + (R.mu s0 * 17 + 17) < Bd) (hbd : bd ≤ W0.heap.size)
    (lim : Nat) (hlim : 0 < lim) (L : List Ck) (sf : σ) (hX : chkI R size s0 lim = (L, sf)) (P : (Nat → Prop) → Nat → World → Prop) (PX : σ → (Nat → Prop) → Nat → World → Prop)
    (hP : ∀ (S S' T : Nat → Prop) kk W W', P S kk W → W0.heap.size ≤ W.heap.size → Turns T W W' → (∀ j, T j → S j ∨ W0.heap.size ≤ j) → (∀ j, S' j → S j ∨ W.heap.size ≤ j) → P S' kk W')
    (hB : ∀ ap n xs e W S s' kk, P S kk W → W0.heap.size ≤ W.heap.size → St s' S W → Sl Bf W ap n n xs → Soft W ap n → n ≤ 4096 → (ap = none ∨ ∃ b, ap = some ⟨b, 0, none⟩ ∧ W0.heap.size < b ∧ b < W.heap.size ∧ ¬ S b) → L[kk]? = some (xs, e) → kk < lim →
      YieldAt Fence.wide 2 Try.prog l #[.slice ap n n, .int .i64 e] W fun e W' => (e = .returned (.bool true) ∧ kk + 1 ≠ lim ∧ P S (kk + 1) W' ∧ St s' S W' ∧ (W0.heap.size < W.heap.size → Kept3 W0.heap.size gr gs W W') ∧ W.heap.size ≤ W'.heap.size) ∨ (e = .returned (.bool false) ∧ kk + 1 = lim ∧ PX s' S (kk + 1) W'))
    (h00 : P S0 0 W0) :
    CallsIn Fence.wide 3 Try.prog 34 #[.func (.yield l) #[] #[], .pointer (some ⟨gr, 0, none⟩), .pointer (some ⟨gs, 0, none⟩)] W0 fun e W' => (∃ v, e = .returned v) ∧ ((∃ S, P S L.length W' ∧ St sf S W') ∨ ∃ S, PX sf S L.length W') := by
  by_cases hs : 1 ≤ size ∧ size ≤ 4096
  · obtain ⟨sz, rfl⟩ : ∃ k : Nat, size = k := ⟨size.toNat, by omega⟩
    have hs1 : 1 ≤ sz := by omega
    have hs2 : sz ≤ 4096 := by omega
    unfold chkI at hX
    rw [if_pos hs, Int.toNat_natCast] at hX
    refine chunks1_in RD T hme hen l gr gs sz W0 hs1 hs2 hR hS (fun s S wt W => ∃ kk F, P S kk W ∧ W0.heap.size ≤ W.heap.size ∧ kk < lim ∧ chk R sz F s wt (lim - kk) = (L.drop kk, sf) ∧ R.mu s * 17 + 16 - wt < F ∧ wt ≤ 15) (fun W' => ∃ S, P S L.length W' ∧ St sf S W') (fun W' => ∃ S, PX sf S L.length W') ?_ s0 S0 h0
      ⟨0, _, h00, Nat.le_refl _, hlim, hX, by omega, by omega⟩ hSr hSs hcnt hbd
    refine ⟨?_, ?_, ?_, ?_, ?_⟩
    · rintro s S wt W W' ⟨kk, F, h1, h2, h3, h4, h5, h6⟩ ht
      exact ⟨kk, F, hP S S _ kk W W' h1 h2 ht (fun j e => .inr (by omega)) (fun j e => .inl e), Nat.le_trans h2 ht.size, h3, h4, h5, h6⟩
    · rintro s S wt W S' W1 gp k zs hgw ⟨kk, F, h1, h2, h3, h4, h5, h6⟩ hst hnum hk hmv hst' hS' ht hgp1 hgp2 hgp3 hgp4 hzs htk
      obtain ⟨F, rfl⟩ : ∃ F', F = F' + 1 := ⟨F - 1, by omega⟩
      have hnb : ¬ (R.num s sz < 0 ∨ (sz : Int) < R.num s sz) := by omega
      have hl : lim - kk ≠ 0 := by omega
      have hp1 := hP S S' _ kk W W1 h1 h2 ht (fun j e => by rcases e with e | e; (exact .inl e); (exact .inr (by omega))) hS'
      have hz1 := ht.size
      have hsl : Sl Bf W1 (some ⟨gp, 0, none⟩) k k ((R.lay s sz).take k) := by
        rw [← htk]
        exact Sl.of_row _ _ _ hgp4 (by rw [List.length_take]; omega) (Nat.le_refl _) (by simp [List.map_take])
      have hsoft : Soft W1 (some ⟨gp, 0, none⟩) k := soft_row hgp4 (by omega)
      have hap : some (⟨gp, 0, none⟩ : Addr) = none ∨ ∃ b, some (⟨gp, 0, none⟩ : Addr) = some ⟨b, 0, none⟩ ∧ W0.heap.size < b ∧ b < W1.heap.size ∧ ¬ S' b := .inr ⟨gp, rfl, by omega, hgp2, hgp3⟩
      by_cases he : R.er s sz = 0
      · have hn0 : 0 < R.num s sz := by
          rcases hmv with h | h
          · omega
          · exact absurd he h
        rw [chk_go hl hnb hn0 he, hnum, Int.toNat_natCast] at h4
        simp only [Prod.mk.injEq] at h4
        obtain ⟨e1, e2⟩ := h4
        obtain ⟨q1, q2⟩ := drop_one e1.symm
        rw [he]
        refine yield_mono (hB _ k _ 0 W1 S' _ kk hp1 (by omega) hst' hsl hsoft (by omega) hap q1 h3) ?_
        rintro e W' (⟨rfl, a1, a2, a3, a4, a5⟩ | ⟨rfl, a1, a2⟩)
        · have hmu := R.muL s sz he hn0 (by omega)
          refine .inl ⟨rfl, fun _ => ⟨⟨kk + 1, F, a2, by omega, by omega, ?_, by omega, by omega⟩, a3, a4 (by omega), a5⟩, fun h => absurd rfl h⟩
          rw [show lim - (kk + 1) = lim - kk - 1 by omega, q2]
          exact Prod.ext rfl e2
        · have hl1 : lim - kk - 1 = 0 := by omega
          rw [hl1, chk_lim] at e2 q2
          have hkl : kk + 1 = L.length := drop_end q2 (by have := (List.getElem?_eq_some_iff.1 q1).1; omega)
          refine .inr ⟨rfl, S', ?_⟩
          rw [← hkl, ← e2]
          exact a2
      · rw [chk_end hl hnb he, hnum, Int.toNat_natCast] at h4
        simp only [Prod.mk.injEq] at h4
        obtain ⟨e1, e2⟩ := h4
        obtain ⟨q1, q2⟩ := drop_one e1.symm
        have hkl : kk + 1 = L.length := drop_end q2 (by have := (List.getElem?_eq_some_iff.1 q1).1; omega)
        refine yield_mono (hB _ k _ _ W1 S' _ kk hp1 (by omega) hst' hsl hsoft (by omega) hap q1 h3) ?_
        rintro e W' (⟨rfl, a1, a2, a3, a4, a5⟩ | ⟨rfl, a1, a2⟩)
        · exact .inl ⟨rfl, fun h => absurd h he, fun _ => ⟨S', by rw [← hkl]; exact a2, by rw [← e2]; exact a3⟩⟩
        · exact .inr ⟨rfl, S', by rw [← hkl, ← e2]; exact a2⟩
    · rintro s S wt W S' W1 hgw ⟨kk, F, h1, h2, h3, h4, h5, h6⟩ hst hnum her hg hst' hS' ht
      obtain ⟨F, rfl⟩ : ∃ F', F = F' + 1 := ⟨F - 1, by omega⟩
      have hmu := R.muE s sz her
      rw [chk_wait (by omega) (by omega) (by rw [her]; omega) (by omega)] at h4
      exact ⟨kk, F, hP S S' _ kk W W1 h1 h2 ht (fun j e => by rcases e with e | e; (exact .inl e); (exact .inr (by omega))) hS', Nat.le_trans h2 ht.size, h3, h4, by omega, by omega⟩
    · rintro s S wt W S' W1 hgw ⟨kk, F, h1, h2, h3, h4, h5, h6⟩ hst hbad hst' hS' ht
      obtain ⟨F, rfl⟩ : ∃ F', F = F' + 1 := ⟨F - 1, by omega⟩
      rw [chk_bad (by omega) hbad] at h4
      simp only [Prod.mk.injEq] at h4
      obtain ⟨e1, e2⟩ := h4
      obtain ⟨q1, q2⟩ := drop_one e1.symm
      have hkl : kk + 1 = L.length := drop_end q2 (by have := (List.getElem?_eq_some_iff.1 q1).1; omega)
      refine yield_mono (hB none 0 [] 34 W1 S' _ kk (hP S S' _ kk W W1 h1 h2 ht (fun j e => by rcases e with e | e; (exact .inl e); (exact .inr (by omega))) hS') (Nat.le_trans h2 ht.size) hst' (Sl.nil _ _) (fun i hi => absurd hi (by omega)) (by omega) (.inl rfl) q1 h3) ?_
      rintro e W' (⟨rfl, a1, a2, a3, a4, a5⟩ | ⟨rfl, a1, a2⟩)
      · exact .inl ⟨rfl, S', by rw [← hkl]; exact a2, by rw [← e2]; exact a3⟩
      · exact .inr ⟨rfl, S', by rw [← hkl, ← e2]; exact a2⟩
    · rintro s S wt W S' W1 hgw ⟨kk, F, h1, h2, h3, h4, h5, h6⟩ hst hnum her hg hst' hS' ht
      obtain ⟨F, rfl⟩ : ∃ F', F = F' + 1 := ⟨F - 1, by omega⟩
      rw [chk_idle (by omega) (by omega) (by rw [her]; omega) hg] at h4
      simp only [Prod.mk.injEq] at h4
      obtain ⟨e1, e2⟩ := h4
      obtain ⟨q1, q2⟩ := drop_one e1.symm
      have hkl : kk + 1 = L.length := drop_end q2 (by have := (List.getElem?_eq_some_iff.1 q1).1; omega)
      refine yield_mono (hB none 0 [] 33 W1 S' _ kk (hP S S' _ kk W W1 h1 h2 ht (fun j e => by rcases e with e | e; (exact .inl e); (exact .inr (by omega))) hS') (Nat.le_trans h2 ht.size) hst' (Sl.nil _ _) (fun i hi => absurd hi (by omega)) (by omega) (.inl rfl) q1 h3) ?_
      rintro e W' (⟨rfl, a1, a2, a3, a4, a5⟩ | ⟨rfl, a1, a2⟩)
      · exact .inl ⟨rfl, S', by rw [← hkl]; exact a2, by rw [← e2]; exact a3⟩
      · exact .inr ⟨rfl, S', by rw [← hkl, ← e2]; exact a2⟩
  · unfold chkI at hX
    rw [if_neg hs] at hX
    simp only [Prod.mk.injEq] at hX
    obtain ⟨rfl, rfl⟩ := hX
    refine chunks1_wrong l gr gs W0 (by omega) hR hS _ _ (yield_mono (hB none 0 [] 1 W0 S0 s0 0 h00 (Nat.le_refl _) h0 (Sl.nil _ _) (fun i hi => absurd hi (by omega)) (by omega) (.inl rfl) rfl hlim) ?_)
    rintro e W' (⟨rfl, a1, a2, a3, a4, a5⟩ | ⟨rfl, a1, a2⟩)
    · exact .inl ⟨rfl, S0, a2, a3⟩
    · exact .inr ⟨rfl, S0, a2⟩
end Go.Proofs.Ytjkgncogpefnbaa
