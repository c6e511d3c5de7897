/- The reference's builder: Add, Bytes: contracts. Conditions: the entry within reach. Written by a program of this place (gen_BlockRAdd.py). -/
import Derived.Test.YtljcogimeimknaaK8c
import Derived.Test.YtljcogimeimknaaK8a
import Derived.Deep.RegionHeld3
namespace Go.Proofs.Ytljcogimeimknaa
open Go.RowKit
set_option linter.unusedVariables false

theorem srt_snoc {l : List Ent} {e : Ent} (h : (srt l).2 = 0) (h1 : chk e = 0) (h2 : ¬ (0 < l.length ∧ 0 ≤ cmp (bst l).last e.1)) : (srt (l ++ [e])).2 = 0 := by
  have main : ∀ (r : List Ent) (i : Nat) (p : List Ent), i = p.length → (srtFrom i (bst p).last r).2 = 0 → ¬ (0 < (p ++ r).length ∧ 0 ≤ cmp (bst (p ++ r)).last e.1) → (srtFrom i (bst p).last (r ++ [e])).2 = 0 := by
    intro r
    induction r with
    | nil =>
      intro i p hi _ hc
      rw [List.append_nil] at hc
      rw [List.nil_append, srt_go (by omega) (by rw [hi]; exact hc)]
      rfl
    | cons x r ih =>
      intro i p hi hs hc
      by_cases c1 : chk x ≠ 0
      · rw [srt_chk c1] at hs; exact absurd hs c1
      by_cases c2 : 0 < i ∧ 0 ≤ cmp (bst p).last x.1
      · rw [srt_cmp c1 c2] at hs; cases hs
      rw [srt_go c1 c2] at hs
      rw [List.cons_append, srt_go c1 c2]
      have hl : (bst (p ++ [x])).last = x.1 := by rw [bst_snoc]; rfl
      rw [← hl] at hs ⊢
      refine ih (i + 1) (p ++ [x]) (by rw [List.length_append, hi]; rfl) hs ?_
      rw [List.append_assoc]; exact hc
  exact main l 0 [] rfl h h2
/-- entries of a builder: rising, that may be, 64 at most -/
def Ris (l : List Ent) : Prop := l.length ≤ 64 ∧ (srt l).2 = 0
theorem Ris.nil : Ris [] := ⟨Nat.zero_le _, rfl⟩
theorem Ris.okay {l : List Ent} (h : Ris l) : Okay l := srt_okay h.2
theorem Ris.add {l : List Ent} {e : Ent} (h : Ris l) (ha : addE l e = 0) : Ris (l ++ [e]) := by
  obtain ⟨h1, h2, h3⟩ := addE_zero ha
  exact ⟨by rw [List.length_append]; have := h.1; simp; omega, srt_snoc h.2 h1 h3⟩
theorem Ris.build {l : List Ent} (h : Ris l) : (bbuild l).1 = bld l := by
  by_cases hc : l.length < 1 ∨ 64 < l.length
  · have : l = [] := List.length_eq_zero_iff.1 (by have := h.1; omega)
    subst this; rw [bbuild_count hc]; rfl
  · rw [bbuild_ok hc h.2]
theorem Ris.fit {l : List Ent} (h : Ris l) : Fit 140737488351232 l := fun e he => by have := chk_zero (h.okay e he); omega
/-- a row of the call's own of entries whose texts lie ahead of it -/
def ELs (w0 w : World) (y : Value) (vs : List (Sv × Sv)) (es : List Ent) : Prop :=
  OwT fE w w0.heap.size 42 y vs ∧ vs.length = es.length ∧ ∀ (i : Nat) (x : Sv × Sv) (e : Ent), vs[i]? = some x → es[i]? = some e → Sl Bf w0 x.1.1 x.1.2.1 x.1.2.2 e.1 ∧ Sl Bf w0 x.2.1 x.2.2.1 x.2.2.2 e.2
theorem ELs.nil (w0 w : World) : ELs w0 w (.slice none 0 0) [] [] := ⟨OwT.nil _ _ _ _, rfl, fun i x e h _ => by simp at h⟩
theorem ELs.turns {w0 w w' : World} {S : Nat → Prop} {y : Value} {vs : List (Sv × Sv)} {es : List Ent} (h : ELs w0 w y vs es) (ht : Turns S w w') (hs : ∀ j, y.ownBlock = some j → ¬ S j) : ELs w0 w' y vs es := ⟨h.1.turns ht hs, h.2⟩
theorem ELs.ents {w0 w : World} {y : Value} {vs : List (Sv × Sv)} {es : List Ent} (h : ELs w0 w y vs es) (hb : Below w0.heap.size w0 w) : ∃ a c, y = .slice a es.length c ∧ Ents w a es.length c es := by
  obtain ⟨ho, hl, ht⟩ := h
  obtain ⟨a, c, hv, hs⟩ := ho.sl fE_len
  rw [hl] at hv hs
  refine ⟨a, c, hv, rfl, hs.2.1, hs.2.2.1, fun i k v hi => ?_⟩
  have hil : i < vs.length := by have := (List.getElem?_eq_some_iff.1 hi).1; omega
  obtain ⟨⟨⟨a1, n1, c1⟩, ⟨a2, n2, c2⟩⟩, hx⟩ : ∃ x, vs[i]? = some x := ⟨_, List.getElem?_eq_getElem hil⟩
  obtain ⟨b, o, ha, hc⟩ := hs.2.2.2 i _ hx
  obtain ⟨s1, s2⟩ := ht i _ _ hx hi
  exact ⟨b, o, a1, n1, c1, a2, n2, c2, ha, by simpa [sv] using hc 0 _ rfl, by simpa [sv] using hc 1 _ rfl, s1.keep hb, s2.keep hb⟩
theorem ELs.snoc {w0 w w' : World} {y y' : Value} {vs : List (Sv × Sv)} {es : List Ent} {x : Sv × Sv} {e : Ent} (h : ELs w0 w y vs es) (ho : OwT fE w' w0.heap.size 42 y' (vs ++ [x])) (h1 : Sl Bf w0 x.1.1 x.1.2.1 x.1.2.2 e.1) (h2 : Sl Bf w0 x.2.1 x.2.2.1 x.2.2.2 e.2) : ELs w0 w' y' (vs ++ [x]) (es ++ [e]) := by
  obtain ⟨_, hl, ht⟩ := h
  refine ⟨ho, by rw [List.length_append, List.length_append, hl]; rfl, fun i z q hz hq => ?_⟩
  by_cases hi : i < vs.length
  · rw [List.getElem?_append_left hi] at hz
    rw [List.getElem?_append_left (by rw [← hl]; exact hi)] at hq
    exact ht i z q hz hq
  · have hi2 : i < (vs ++ [x]).length := (List.getElem?_eq_some_iff.1 hz).1
    rw [List.length_append] at hi2
    obtain rfl : i = vs.length := by simp at hi2; omega
    obtain rfl : x = z := by simpa using hz
    obtain rfl : e = q := by rw [hl] at hq; simpa using hq
    exact ⟨h1, h2⟩
/-- behind the reference's Add -/
def RAddPost (w0 w : World) (gy k : Nat) (y : Value) (vs : List (Sv × Sv)) (l : List Ent) (e : Ent) (x : Sv × Sv) (r : Ending) (w' : World) : Prop :=
  r = .returned (.int .i64 (addE l e : Nat)) ∧ (addE l e ≠ 0 → Below w.heap.size w w') ∧
  (addE l e = 0 → ∃ y' w1, w' = w1.setCell ⟨gy, k, none⟩ y' ∧ ELs w0 w1 y' (vs ++ [x]) (l ++ [e]) ∧ Turns (fun j => y.ownBlock = some j) w w1 ∧ ∀ j, y'.ownBlock = some j → y.ownBlock = some j ∨ w.heap.size ≤ j)
theorem RAddPost.no {w0 w w' : World} {gy k q : Nat} {y : Value} {vs : List (Sv × Sv)} {l : List Ent} {e : Ent} {x : Sv × Sv} (h : addE l e = q) (hq : q ≠ 0) (hb : Below w.heap.size w w') : RAddPost w0 w gy k y vs l e x (.returned (.int .i64 (q : Nat))) w' := by
  subst h
  exact ⟨rfl, fun _ => hb, fun e => absurd e hq⟩
end Go.Proofs.Ytljcogimeimknaa
