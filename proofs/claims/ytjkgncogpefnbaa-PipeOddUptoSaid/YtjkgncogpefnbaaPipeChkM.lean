/- What Chunks goes through, as many as are asked for: plain words; such a list in memory. No condition. -/
import Derived.Test.YtjkgncogpefnbaaPipeRefGen
import Derived.Test.YtjkgncogpefnbaaPipeCopy
namespace Go.Proofs.Ytjkgncogpefnbaa
open Go.RowKit
set_option linter.unusedVariables false
set_option linter.unusedSimpArgs false

abbrev Ck := List UInt8 × Int
section
variable {σ : Type} (R : Rm σ)
/-- the chunks to come, and the reader then -/
def chk (size : Nat) : Nat → σ → Nat → Nat → List Ck × σ
  | 0, s, gv, lim => ([], s)
  | F + 1, s, gv, lim =>
    if lim = 0 then ([], s)
    else if R.num s size < 0 ∨ (size : Int) < R.num s size then ([([], 34)], R.nxt s size)
    else if 0 < R.num s size ∨ R.er s size ≠ 0 then
      if R.er s size ≠ 0 then ([((R.lay s size).take (R.num s size).toNat, R.er s size)], R.nxt s size)
      else (((R.lay s size).take (R.num s size).toNat, R.er s size) :: (chk size F (R.nxt s size) 0 (lim - 1)).1, (chk size F (R.nxt s size) 0 (lim - 1)).2)
    else if gv + 1 = 16 then ([([], 33)], R.nxt s size)
    else chk size F (R.nxt s size) (gv + 1) lim
def chkT (size : Nat) (s : σ) (lim : Nat) : List Ck × σ := chk R size (R.mu s * 17 + 17) s 0 lim
/-- with any size -/
def chkI (size : Int) (s : σ) (lim : Nat) : List Ck × σ := if 1 ≤ size ∧ size ≤ 4096 then chkT R size.toNat s lim else ([([], 1)], s)
end
section
variable {σ : Type} {R : Rm σ} {size F gv lim : Nat} {s : σ}
theorem chk_lim {F : Nat} : chk R size F s gv 0 = ([], s) := by cases F <;> unfold chk <;> simp
theorem chk_bad (hl : lim ≠ 0) (h : R.num s size < 0 ∨ (size : Int) < R.num s size) : chk R size (F + 1) s gv lim = ([([], 34)], R.nxt s size) := by unfold chk; rw [if_neg hl, if_pos h]
theorem chk_end (hl : lim ≠ 0) (h : ¬ (R.num s size < 0 ∨ (size : Int) < R.num s size)) (he : R.er s size ≠ 0) : chk R size (F + 1) s gv lim = ([((R.lay s size).take (R.num s size).toNat, R.er s size)], R.nxt s size) := by
  unfold chk; rw [if_neg hl, if_neg h, if_pos (.inr he), if_pos he]
theorem chk_go (hl : lim ≠ 0) (h : ¬ (R.num s size < 0 ∨ (size : Int) < R.num s size)) (hn : 0 < R.num s size) (he : R.er s size = 0) :
    chk R size (F + 1) s gv lim = (((R.lay s size).take (R.num s size).toNat, 0) :: (chk R size F (R.nxt s size) 0 (lim - 1)).1, (chk R size F (R.nxt s size) 0 (lim - 1)).2) := by
  conv => lhs; unfold chk
  rw [if_neg hl, if_neg h, if_pos (.inl hn), if_neg (by simpa using he), he]
theorem chk_idle (hl : lim ≠ 0) (h : ¬ (R.num s size < 0 ∨ (size : Int) < R.num s size)) (hm : ¬ (0 < R.num s size ∨ R.er s size ≠ 0)) (hg : gv + 1 = 16) : chk R size (F + 1) s gv lim = ([([], 33)], R.nxt s size) := by
  unfold chk; rw [if_neg hl, if_neg h, if_neg hm, if_pos hg]
theorem chk_wait (hl : lim ≠ 0) (h : ¬ (R.num s size < 0 ∨ (size : Int) < R.num s size)) (hm : ¬ (0 < R.num s size ∨ R.er s size ≠ 0)) (hg : gv + 1 ≠ 16) : chk R size (F + 1) s gv lim = chk R size F (R.nxt s size) (gv + 1) lim := by
  conv => lhs; unfold chk
  rw [if_neg hl, if_neg h, if_neg hm, if_neg hg]
end
/-- a slice's three words -/
abbrev Cv := Option Addr × Nat × Nat
def cvl (s : Cv) : Value := .slice s.1 s.2.1 s.2.2
/-- a chunk in memory -/
abbrev fC (x : Cv × Int) : List Value := [cvl x.1, .int .i64 x.2]
theorem fC_len (x : Cv × Int) : (fC x).length = 2 := rfl
theorem eltTC : EltT Try.prog 52 58 fC 2 32 := by
  have hi : (Try.prog.info? 58).map (fun i => (i.zero, i.size, i.bytes)) = some (some (.agg #[.slice none 0 0, .int .i64 0]), 2, 32) := by kernel_rfl
  obtain ⟨i, hi1, hi2, hi3, hi4⟩ := info_parts hi
  exact ⟨Try.underlying52, ⟨i, _, hi1, hi2, hi3, hi4, ((none, 0, 0), 0), rfl⟩, fun _ => rfl, by decide, fun x u hu => by simp [fC, cvl] at hu; rcases hu with rfl | rfl <;> rfl⟩
/-- the blocks of the chunks' bytes: from lo on, not in S, not the list's own -/
def CkAt (w : World) (lo : Nat) (S : Nat → Prop) (own : Option Nat) (x : Cv × Int) (c : Ck) : Prop :=
  x.2 = c.2 ∧ Sl Bf w x.1.1 x.1.2.1 x.1.2.2 c.1 ∧ ∀ b o, x.1.1 = some ⟨b, o, none⟩ → lo ≤ b ∧ b < w.heap.size ∧ ¬ S b ∧ own ≠ some b
/-- a list of chunks of the call's own -/
def ChL (w : World) (lo : Nat) (S : Nat → Prop) (v : Value) (cs : List Ck) : Prop :=
  ∃ vs : List (Cv × Int), OwT fC w lo 58 v vs ∧ vs.length = cs.length ∧ (∀ j, v.ownBlock = some j → ¬ S j) ∧ ∀ (i : Nat) (x : Cv × Int) (c : Ck), vs[i]? = some x → cs[i]? = some c → CkAt w lo S v.ownBlock x c
theorem CkAt.of_same {w w' : World} {lo : Nat} {S S' : Nat → Prop} {own own' : Option Nat} {x : Cv × Int} {c : Ck} (h : CkAt w lo S own x c) (hz : w.heap.size ≤ w'.heap.size) (hs : ∀ j, lo ≤ j → j < w.heap.size → ¬ S j → own ≠ some j → w'.heap[j]? = w.heap[j]? ∧ ¬ S' j ∧ own' ≠ some j) : CkAt w' lo S' own' x c :=
  ⟨h.1, h.2.1.of_block fun b o e _ => (hs b (h.2.2 b o e).1 (h.2.2 b o e).2.1 (h.2.2 b o e).2.2.1 (h.2.2 b o e).2.2.2).1, fun b o e => by
    obtain ⟨h1, h2, h3, h4⟩ := h.2.2 b o e
    obtain ⟨_, h5, h6⟩ := hs b h1 h2 h3 h4
    exact ⟨h1, by omega, h5, h6⟩⟩
/-- what is done to others -/
theorem ChL.turns {w w' : World} {lo : Nat} {S S' T : Nat → Prop} {v : Value} {cs : List Ck} (h : ChL w lo S v cs) (ht : Turns T w w') (hT : ∀ j, T j → S j ∨ j < lo ∨ w.heap.size ≤ j) (hS : ∀ j, S' j → S j ∨ j < lo ∨ w.heap.size ≤ j) : ChL w' lo S' v cs := by
  obtain ⟨vs, h1, h2, h3, h4⟩ := h
  have hno : ∀ j, lo ≤ j → j < w.heap.size → ¬ S j → ¬ T j ∧ ¬ S' j := fun j a b c => ⟨fun e => by rcases hT j e with h | h | h; (exact c h); (omega); (omega), fun e => by rcases hS j e with h | h | h; (exact c h); (omega); (omega)⟩
  refine ⟨vs, h1.of_block fun g hg => ?_, h2, fun j hj => ?_, fun i x c hx hc => (h4 i x c hx hc).of_same ht.size fun j a b d e => ⟨ht.block j b (hno j a b d).1, (hno j a b d).2, e⟩⟩
  · obtain ⟨l1, l2⟩ := h1.lt g hg
    exact ht.block g l2 (hno g l1 l2 (h3 g hg)).1
  · obtain ⟨l1, l2⟩ := h1.lt j hj
    exact (hno j l1 l2 (h3 j hj)).2
theorem ChL.nil (w : World) (lo : Nat) (S : Nat → Prop) : ChL w lo S (.slice none 0 0) [] := ⟨[], .nil _ _ _ _, rfl, (fun j hj => by cases hj), fun i x c hx => by simp at hx⟩
/-- one more behind -/
theorem ChL.snoc {w w' : World} {lo : Nat} {S : Nat → Prop} {v v' : Value} {cs : List Ck} {x : Cv × Int} {c : Ck} {vs : List (Cv × Int)} (h2 : vs.length = cs.length) (hinS : ∀ j, S j → j < w.heap.size) (h3 : ∀ j, v.ownBlock = some j → ¬ S j) (h4 : ∀ (i : Nat) (x : Cv × Int) (c : Ck), vs[i]? = some x → cs[i]? = some c → CkAt w lo S v.ownBlock x c)
    (hx : CkAt w lo S v.ownBlock x c) (ho : OwT fC w' lo 58 v' (vs ++ [x])) (hg : w.grownBy w' v.ownBlock) (hv : v'.ownBlock = v.ownBlock ∨ v'.ownBlock = some w.heap.size) : ChL w' lo S v' (cs ++ [c]) := by
  have hsame : ∀ j, lo ≤ j → j < w.heap.size → ¬ S j → v.ownBlock ≠ some j → w'.heap[j]? = w.heap[j]? ∧ ¬ S j ∧ v'.ownBlock ≠ some j := fun j a b d e =>
    ⟨hg.block j b (fun h => e h.symm), d, fun h => by rcases hv with h1 | h1; (exact e (h1.symm.trans h)); (rw [h1] at h; injection h with h; omega)⟩
  refine ⟨vs ++ [x], ho, by simp [h2], fun j hj => ?_, fun i y d hy hd => ?_⟩
  · rcases hv with h1 | h1
    · exact h3 j (h1.symm.trans hj)
    · rw [h1] at hj; injection hj with hj; intro h; have := hinS j h; omega
  · by_cases hi : i < vs.length
    · rw [List.getElem?_append_left hi] at hy
      rw [List.getElem?_append_left (by omega)] at hd
      exact (h4 i y d hy hd).of_same hg.size hsame
    · have h1 := (List.getElem?_eq_some_iff.1 hy).1
      rw [List.length_append, List.length_singleton] at h1
      obtain rfl : i = vs.length := by omega
      rw [List.getElem?_append_right (Nat.le_refl _), Nat.sub_self] at hy
      rw [h2, List.getElem?_append_right (Nat.le_refl _), Nat.sub_self] at hd
      simp at hy hd
      subst hy hd
      exact hx.of_same hg.size hsame
end Go.Proofs.Ytjkgncogpefnbaa
