/- Entries in memory: texts of the call's own with a mark behind, lists of entries of the call's own; what a list of entries reads as; whether entries may be, and rise. No condition. -/
import Derived.Test.YteedjgjkldbbcaaPairM
import Derived.Test.YteedjgjkldbbcaaBy
import Derived.Test.YteedjgjkldbbcaaOpenEnt
namespace Go.Proofs.Yteedjgjkldbbcaa
open Go.RowKit

/-- may a key be, a value, an entry: the error's number -/
def keyN (n : Nat) : Nat := if n = 0 ∨ 64 < n then 3 else 0
def valN (n : Nat) : Nat := if 256 < n then 3 else 0
def chkN (n m : Nat) : Nat := max (keyN n) (valN m)
abbrev Ent := List UInt8 × List UInt8
def chk (e : Ent) : Nat := chkN e.1.length e.2.length
/-- do entries rise? the place and the error -/
def srtFrom : Nat → List UInt8 → List Ent → Nat × Nat
  | _, _, [] => (0, 0)
  | i, last, e :: r => if chk e ≠ 0 then (i, chk e) else if 0 < i ∧ 0 ≤ cmp last e.1 then (i, 51) else srtFrom (i + 1) e.1 r
def srt (es : List Ent) : Nat × Nat := srtFrom 0 [] es
theorem srt_nil (i : Nat) (l : List UInt8) : srtFrom i l [] = (0, 0) := rfl
theorem srt_chk {i : Nat} {l : List UInt8} {e : Ent} {r : List Ent} (h : chk e ≠ 0) : srtFrom i l (e :: r) = (i, chk e) := by unfold srtFrom; rw [if_pos h]
theorem srt_cmp {i : Nat} {l : List UInt8} {e : Ent} {r : List Ent} (h : ¬ chk e ≠ 0) (h2 : 0 < i ∧ 0 ≤ cmp l e.1) : srtFrom i l (e :: r) = (i, 51) := by unfold srtFrom; rw [if_neg h, if_pos h2]
theorem srt_go {i : Nat} {l : List UInt8} {e : Ent} {r : List Ent} (h : ¬ chk e ≠ 0) (h2 : ¬ (0 < i ∧ 0 ≤ cmp l e.1)) : srtFrom i l (e :: r) = srtFrom (i + 1) e.1 r := by
  conv => lhs; unfold srtFrom
  rw [if_neg h, if_neg h2]
theorem edrop_cons {es : List Ent} {k : Nat} {x : Ent} (h : es[k]? = some x) : es.drop k = x :: es.drop (k + 1) := by
  obtain ⟨hl, rfl⟩ := List.getElem?_eq_some_iff.1 h
  exact List.drop_eq_getElem_cons hl

/-- the texts are within reach -/
def Fit (M : Nat) (es : List Ent) : Prop := ∀ e, e ∈ es → e.1.length ≤ M ∧ e.2.length ≤ M

/-- a slice's three words -/
abbrev Sv := Option Addr × Nat × Nat
def sv (s : Sv) : Value := .slice s.1 s.2.1 s.2.2
abbrev fE (x : Sv × Sv) : List Value := [sv x.1, sv x.2]
theorem fE_len (x : Sv × Sv) : (fE x).length = 2 := rfl
theorem eltTE : EltT Try.prog 22 41 fE 2 48 := by
  have hi : (Try.prog.info? 41).map (fun i => (i.zero, i.size, i.bytes)) = some (some (.agg #[.slice none 0 0, .slice none 0 0]), 2, 48) := by kernel_rfl
  obtain ⟨i, hi1, hi2, hi3, hi4⟩ := info_parts hi
  exact ⟨Try.underlying22, ⟨i, _, hi1, hi2, hi3, hi4, ((none, 0, 0), (none, 0, 0)), rfl⟩, fun _ => rfl, by decide, fun x u hu => by simp [fE, sv] at hu; rcases hu with rfl | rfl <;> rfl⟩

/-- a text in a block of its own between lo and hi, a mark behind -/
def Mkd (w : World) (lo hi : Nat) (s : Sv) (xs : List UInt8) : Prop :=
  s.2.1 = xs.length ∧ OwT fB w lo 5 (.slice s.1 (xs.length + 1) s.2.2) (xs ++ [77]) ∧ ∀ j, Value.ownBlock (.slice s.1 (xs.length + 1) s.2.2) = some j → lo ≤ j ∧ j < hi
theorem Mkd.same {w w' : World} {lo hi : Nat} {s : Sv} {xs : List UInt8} (h : Mkd w lo hi s xs) (hs : ∀ j, lo ≤ j → j < hi → w'.heap[j]? = w.heap[j]?) : Mkd w' lo hi s xs :=
  ⟨h.1, h.2.1.of_block fun j hj => hs j (h.2.2 j hj).1 (h.2.2 j hj).2, h.2.2⟩
theorem Mkd.widen {w : World} {lo hi lo' hi' : Nat} {s : Sv} {xs : List UInt8} (h : Mkd w lo hi s xs) (hl : lo' ≤ lo) (hh : hi ≤ hi') : Mkd w lo' hi' s xs :=
  ⟨h.1, h.2.1.base hl, fun j hj => ⟨Nat.le_trans hl (h.2.2 j hj).1, Nat.lt_of_lt_of_le (h.2.2 j hj).2 hh⟩⟩
theorem Mkd.sl {w : World} {lo hi : Nat} {s : Sv} {xs : List UInt8} (h : Mkd w lo hi s xs) : Sl Bf w s.1 s.2.1 s.2.2 xs := by
  have := h.2.1.slI.upto xs.length (by simp)
  rw [List.take_left] at this
  rw [h.1]; exact this
theorem Mkd.cap {w : World} {lo hi : Nat} {s : Sv} {xs : List UInt8} (h : Mkd w lo hi s xs) : xs.length + 1 ≤ s.2.2 := h.2.1.slI.le
theorem Mkd.mark {w : World} {lo hi : Nat} {s : Sv} {xs : List UInt8} (h : Mkd w lo hi s xs) : ∃ b o, s.1 = some ⟨b, o, none⟩ ∧ w.cell? ⟨b, o + xs.length, none⟩ = some (.int .u8 77) :=
  h.2.1.slI.2.2.2 xs.length 77 (by simp)

/-- a list of entries of the call's own between lo and hi, each text with its mark, a mark behind the list -/
def Cpy (w : World) (lo hi : Nat) (s : Sv) (es : List Ent) : Prop :=
  s.2.1 = es.length ∧ ∃ (vs : List (Sv × Sv)) (mk : Sv × Sv), vs.length = es.length ∧ OwT fE w lo 41 (.slice s.1 (es.length + 1) s.2.2) (vs ++ [mk]) ∧ mk.1.2.1 = 1 ∧
    (∀ j, Value.ownBlock (.slice s.1 (es.length + 1) s.2.2) = some j → lo ≤ j ∧ j < hi) ∧ ∀ (i : Nat) (x : Sv × Sv) (e : Ent), vs[i]? = some x → es[i]? = some e → Mkd w lo hi x.1 e.1 ∧ Mkd w lo hi x.2 e.2
theorem Cpy.same {w w' : World} {lo hi : Nat} {s : Sv} {es : List Ent} (h : Cpy w lo hi s es) (hs : ∀ j, lo ≤ j → j < hi → w'.heap[j]? = w.heap[j]?) : Cpy w' lo hi s es := by
  obtain ⟨h1, vs, mk, h2, h3, h4, h5, h6⟩ := h
  exact ⟨h1, vs, mk, h2, h3.of_block fun j hj => hs j (h5 j hj).1 (h5 j hj).2, h4, h5, fun i x e hx he => ⟨(h6 i x e hx he).1.same hs, (h6 i x e hx he).2.same hs⟩⟩
theorem Cpy.keep {w w' : World} {lo hi : Nat} {s : Sv} {es : List Ent} (h : Cpy w lo hi s es) (hb : Below w.heap.size w w') (hh : hi ≤ w.heap.size) : Cpy w' lo hi s es := h.same fun j _ hj => hb.block j (by omega)
theorem Cpy.ents {w : World} {lo hi : Nat} {s : Sv} {es : List Ent} (h : Cpy w lo hi s es) : Ents w s.1 s.2.1 s.2.2 es := by
  obtain ⟨h1, vs, mk, h2, h3, h4, h5, h6⟩ := h
  obtain ⟨a, c, hv, hs⟩ := h3.sl fE_len
  injection hv with e1 e2 e3
  subst e1 e3
  have hle : es.length + 1 ≤ s.2.2 := by have := hs.2.1; rw [List.length_append, h2] at this; exact this
  refine ⟨h1.symm, by omega, fun e => by have := hs.2.2.1 e; omega, fun i k v hi => ?_⟩
  have hin : i < vs.length := by have := (List.getElem?_eq_some_iff.1 hi).1; omega
  have hx : (vs ++ [mk])[i]? = some vs[i] := by rw [List.getElem?_append_left hin]; exact List.getElem?_eq_getElem hin
  obtain ⟨b, o, ha, hc⟩ := hs.2.2.2 i _ hx
  obtain ⟨m1, m2⟩ := h6 i _ (k, v) (List.getElem?_eq_getElem hin) hi
  exact ⟨b, o, _, _, _, _, _, _, ha, hc 0 _ rfl, hc 1 _ rfl, m1.sl, m2.sl⟩
theorem Cpy.at {w : World} {lo hh : Nat} {s : Sv} {es : List Ent} (h : Cpy w lo hh s es) (i : Nat) (e : Ent) (hi : es[i]? = some e) :
    ∃ b o x y, s.1 = some ⟨b, o, none⟩ ∧ w.cell? ⟨b, o + i * 2, none⟩ = some (sv x) ∧ w.cell? ⟨b, o + i * 2 + 1, none⟩ = some (sv y) ∧ Mkd w lo hh x e.1 ∧ Mkd w lo hh y e.2 := by
  obtain ⟨h1, vs, mk, h2, h3, h4, h5, h6⟩ := h
  obtain ⟨a, c, hv, hs⟩ := h3.sl fE_len
  injection hv with e1 e2 e3
  subst e1 e3
  have hin : i < vs.length := by have := (List.getElem?_eq_some_iff.1 hi).1; omega
  have hx : (vs ++ [mk])[i]? = some vs[i] := by rw [List.getElem?_append_left hin]; exact List.getElem?_eq_getElem hin
  obtain ⟨b, o, ha, hc⟩ := hs.2.2.2 i _ hx
  obtain ⟨m1, m2⟩ := h6 i _ e (List.getElem?_eq_getElem hin) hi
  exact ⟨b, o, _, _, ha, hc 0 _ rfl, hc 1 _ rfl, m1, m2⟩
/-- the list's own mark -/
theorem Cpy.last {w : World} {lo hh : Nat} {s : Sv} {es : List Ent} (h : Cpy w lo hh s es) :
    es.length + 1 ≤ s.2.2 ∧ ∃ (b o : Nat) (ax : Option Addr) (cx : Nat), s.1 = some ⟨b, o, none⟩ ∧ w.cell? ⟨b, o + es.length * 2, none⟩ = some (.slice ax 1 cx) := by
  obtain ⟨h1, vs, mk, h2, h3, h4, h5, h6⟩ := h
  obtain ⟨a, c, hv, hs⟩ := h3.sl fE_len
  injection hv with e1 e2 e3
  subst e1 e3
  have hle : es.length + 1 ≤ s.2.2 := by have := hs.2.1; rw [List.length_append, h2] at this; exact this
  refine ⟨hle, ?_⟩
  have hx : (vs ++ [mk])[es.length]? = some mk := by rw [← h2]; simp
  obtain ⟨b, o, ha, hc⟩ := hs.2.2.2 _ _ hx
  have h0 := hc 0 _ rfl
  refine ⟨b, o, mk.1.1, mk.1.2.2, ha, ?_⟩
  rw [← h4]; exact h0
theorem Ents.keep {w w' : World} {a : Option Addr} {n c : Nat} {es : List Ent} (h : Ents w a n c es) (hb : Below w.heap.size w w') : Ents w' a n c es := by
  refine ⟨h.1, h.2.1, h.2.2.1, fun i k v hi => ?_⟩
  obtain ⟨b, o, ak, nk, ck, av, nv, cv, ha, c0, c1, s0, s1⟩ := h.2.2.2 i k v hi
  exact ⟨b, o, ak, nk, ck, av, nv, cv, ha, (World.cell?_of_block (a := ⟨b, _, none⟩) (hb.block b (cell_lt c0))).trans c0, (World.cell?_of_block (a := ⟨b, _, none⟩) (hb.block b (cell_lt c0))).trans c1, s0.keep hb, s1.keep hb⟩
theorem Ents.drewN {w : World} {a : Option Addr} {n c : Nat} {es : List Ent} (h : Ents w a n c es) (k : Nat) : Ents (w.drewN k) a n c es := h
end Go.Proofs.Yteedjgjkldbbcaa
