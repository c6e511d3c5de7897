/- StreamOne, the plain law of writing: entries written, cut behind each block, are head, the blocks' frames, foot and tail. No condition. -/
import Derived.Test.YtljcogimeimknaaOneM
import Derived.Test.YtljcogimeimknaaOneWM
namespace Go.Proofs.Ytljcogimeimknaa
open Go.RowKit Go.Shelf
set_option linter.unusedVariables false
set_option maxRecDepth 100000

/-- a block's entries, cut behind the last -/
def mk1 : List Ent → List (Ent × Bool)
  | [] => []
  | [e] => [(e, true)]
  | e :: f :: t => (e, false) :: mk1 (f :: t)
theorem mk1_cons {e f : Ent} {t : List Ent} : mk1 (e :: f :: t) = (e, false) :: mk1 (f :: t) := rfl
theorem srt_inv {i : Nat} {p : List UInt8} {e : Ent} {r : List Ent} (h : (srtFrom i p (e :: r)).2 = 0) : chk e = 0 ∧ ¬ (0 < i ∧ 0 ≤ cmp p e.1) ∧ (srtFrom (i + 1) e.1 r).2 = 0 := by
  by_cases h1 : chk e ≠ 0
  · rw [srt_chk h1] at h; exact absurd h h1
  by_cases h2 : 0 < i ∧ 0 ≤ cmp p e.1
  · rw [srt_cmp h1 h2] at h; cases h
  rw [srt_go h1 h2] at h
  exact ⟨Classical.not_not.1 h1, h2, h⟩
theorem ne_of_chk {e : Ent} (h : chk e = 0) : e.1 ≠ [] := by
  have := chk_zero h
  intro h2; rw [h2] at this; simp at this
/-- the state behind a block -/
def aftB (S : WS) (l : List Ent) (k : List UInt8) : WS := ⟨S.L ++ [S.now ++ l], [], k, false, (headB ++ outL (S.L ++ [S.now ++ l])).length⟩
theorem blk_in : ∀ (r : List Ent) (S : WS) (b : List UInt8), r ≠ [] → S.shut = false → S.L.length < 8388608 → S.now.length + r.length ≤ 64 → (srtFrom S.now.length S.last r).2 = 0 → (S.now = [] → ¬ (S.last ≠ [] ∧ 0 ≤ cmp S.last (frst r))) →
    ∃ k, AllIn (S, b) (mk1 r) ∧ (mk1 r).foldl w1 (S, b) = (aftB S r k, b ++ (headB ++ outL (S.L ++ [S.now ++ r])).drop S.told) ∧ r.getLast?.map (·.1) = some k
  | [], S, b, h, _, _, _, _, _ => absurd rfl h
  | e :: t, S, b, _, hs, hL, hn, ho, h1 => by
    obtain ⟨c0, c1, c2⟩ := srt_inv ho
    have hadd : S.add 64 e = (0, if (S.put e).now.length = 64 then (S.put e).cut else S.put e) := by
      unfold WS.add
      rw [if_neg (by rw [hs]; decide), if_neg (by rw [c0]; decide), if_neg ?_, if_neg (by intro h; omega)]
      intro h
      by_cases hnow : S.now = []
      · exact h1 hnow h
      · exact c1 ⟨List.length_pos_iff.2 hnow, h.2⟩
    have hput : S.put e = ⟨S.L, S.now ++ [e], e.1, S.shut, S.told⟩ := rfl
    cases t with
    | nil =>
      have hcut : (S.add 64 e).2.cut = ⟨S.L ++ [S.now ++ [e]], [], e.1, false, S.told⟩ := by
        rw [hadd]
        have hc : (S.put e).cut = ⟨S.L ++ [S.now ++ [e]], [], e.1, false, S.told⟩ := by
          rw [WS.cut_some (by rw [hput]; simp), hput, hs]
        dsimp only
        split
        · rw [hc]; exact WS.cut_nil rfl
        · exact hc
      refine ⟨e.1, ⟨by rw [hadd], trivial⟩, ?_, rfl⟩
      show w1 (S, b) (e, true) = _
      unfold w1
      rw [if_pos rfl]
      dsimp only
      rw [hcut]
      unfold aftB WS.next WS.ready WS.whole
      simp
    | cons f t =>
      have hlen : S.now.length + (t.length + 1 + 1) ≤ 64 := by simpa using hn
      have hst : (S.add 64 e).2 = ⟨S.L, S.now ++ [e], e.1, false, S.told⟩ := by
        rw [hadd]; dsimp only
        rw [if_neg (by rw [hput]; simp; omega), hput, hs]
      have hw : w1 (S, b) (e, false) = (⟨S.L, S.now ++ [e], e.1, false, S.told⟩, b) := by
        unfold w1; rw [if_neg (by simp)]; dsimp only; rw [hst]
      obtain ⟨k, r1, r2, r3⟩ := blk_in (f :: t) ⟨S.L, S.now ++ [e], e.1, false, S.told⟩ b (by simp) rfl hL (by simp; omega) (by simpa using c2) (fun h => by simp at h)
      refine ⟨k, ?_, ?_, ?_⟩
      · rw [mk1_cons]
        refine ⟨by rw [hadd], ?_⟩
        rw [hw]; exact r1
      · rw [mk1_cons, List.foldl_cons, hw, r2]
        unfold aftB
        simp
      · simpa using r3
theorem lastR_snoc (l : List Row) (r : Row) : lastR (l ++ [r]) = r.1 := by unfold lastR; simp
theorem lastK_get {l : List Ent} {k : List UInt8} (h : l.getLast?.map (·.1) = some k) : lastK l = k := by
  rcases l.eq_nil_or_concat with rfl | ⟨m, x, rfl⟩
  · simp at h
  · unfold lastK
    rw [List.concat_eq_append] at h ⊢
    rw [bst_snoc]
    simp at h
    exact h
/-- what was read, block after block -/
inductive Runs : List (List Ent) → Prop
  | nil : Runs []
  | snoc {L : List (List Ent)} {l : List Ent} : Runs L → Nxt1 L l → Runs (L ++ [l])
/-- what is written so far -/
def wst (L : List (List Ent)) : WS × List UInt8 :=
  (⟨L, [], lastR (rowsL L), false, if L = [] then 0 else (headB ++ outL L).length⟩, if L = [] then [] else headB ++ outL L)
theorem runs_in {L : List (List Ent)} (h : Runs L) : AllIn (WS0, []) (L.flatMap mk1) ∧ (L.flatMap mk1).foldl w1 (WS0, []) = wst L := by
  induction h with
  | nil => exact ⟨trivial, rfl⟩
  | @snoc L l hL hN ih =>
    obtain ⟨i1, i2⟩ := ih
    obtain ⟨⟨n1, n2⟩, hs, hm, hu⟩ := hN
    have hl : l ≠ [] := by intro e; rw [e] at n1; simp at n1
    have hfst : (srtFrom 0 (lastR (rowsL L)) l).2 = 0 := by
      obtain ⟨e, t, rfl⟩ : ∃ e t, l = e :: t := by cases l with | nil => exact absurd rfl hl | cons e t => exact ⟨e, t, rfl⟩
      obtain ⟨c0, c1, c2⟩ := srt_inv (i := 0) (p := []) hs
      rw [srt_go (by rw [c0]; decide) (by omega)]
      exact c2
    obtain ⟨k, b1, b2, b3⟩ := blk_in l (wst L).1 (wst L).2 hl rfl hm (by show ([] : List Ent).length + _ ≤ 64; simpa using n2) hfst (fun _ hh => hu (by
      refine ⟨?_, hh.2⟩
      rcases L.eq_nil_or_concat with rfl | ⟨M, x, rfl⟩
      · exact absurd rfl hh.1
      · simp))
    have hk := lastK_get b3
    have e1 : (L ++ [l]).flatMap mk1 = L.flatMap mk1 ++ mk1 l := by simp
    rw [e1]
    refine ⟨i1.app (by rw [i2]; exact b1), ?_⟩
    rw [List.foldl_append, i2]
    refine b2.trans ?_
    have hne : L ++ [l] ≠ [] := by simp
    have hlast : lastR (rowsL (L ++ [l])) = k := by rw [rowsL_snoc, lastR_snoc]; exact hk
    have h1 : aftB (wst L).1 l k = (wst (L ++ [l])).1 := by
      unfold aftB wst
      dsimp only
      rw [if_neg hne, hlast, List.nil_append]
    have h2 : (wst L).2 ++ (headB ++ outL ((wst L).1.L ++ [(wst L).1.now ++ l])).drop (wst L).1.told = (wst (L ++ [l])).2 := by
      unfold wst
      dsimp only
      rw [if_neg hne, List.nil_append]
      by_cases h0 : L = []
      · rw [if_pos h0, if_pos h0]; rfl
      · rw [if_neg h0, if_neg h0, outL_snoc, ← List.append_assoc, List.drop_left]
    rw [h1, h2]
/-- closed, it is the whole -/
theorem runs_whole (L : List (List Ent)) : (wst L).2 ++ (wst L).1.close.ready = headB ++ outL L ++ finB L := by
  have hc : (wst L).1.cut = (wst L).1 := WS.cut_nil rfl
  unfold WS.close
  rw [hc]
  unfold WS.ready WS.whole wst
  dsimp only
  by_cases h0 : L = []
  · subst h0; simp
  · rw [if_neg h0, if_neg h0, if_pos rfl, List.drop_left]
theorem mk1_fst : ∀ l : List Ent, (mk1 l).map (·.1) = l
  | [] => rfl
  | [e] => rfl
  | e :: f :: t => by rw [mk1_cons, List.map_cons, mk1_fst (f :: t)]
theorem mk1_snd : ∀ l : List Ent, l ≠ [] → (mk1 l).map (·.2) = List.replicate (l.length - 1) false ++ [true]
  | [], h => absurd rfl h
  | [e], _ => rfl
  | e :: f :: t, _ => by rw [mk1_cons, List.map_cons, mk1_snd (f :: t) (by simp)]; rfl
theorem flat_fst (L : List (List Ent)) : (L.flatMap mk1).map (·.1) = L.flatten := by
  induction L with
  | nil => rfl
  | cons l L ih => simp [List.flatMap_cons, mk1_fst, ih]
end Go.Proofs.Ytljcogimeimknaa
