/- Several texts in one: EntM, BCmp, RCom, RCmp, PCom, Clone, Str, EntFns, EntCopy, EntKept, Rows2, Concat. Each has its own sentence and conditions below. -/
import Derived.Test.YtljcogimeimknaaGreatK8a
import Derived.Lib.BytesEntry
import Derived.Deep.LoopGhost
import Derived.Deep.DeepCutAuto
import Derived.Lib.SlBytesConst
import Derived.Deep.QuietTactic
import Derived.BigQuiet
import Derived.Lib.SliceRun
import Derived.Laws.CopyOwn
import Derived.Laws.BytesArg
import Derived.Lib.Strings
import Derived.Deep.RegionWith
import Derived.Deep.RegionLaw
import Derived.IntWalk
import Derived.Lib.AppendZeros
/- Entries in memory: texts of the call's own with a mark behind, lists of entries of the call's own; what a list of entries reads as; whether entries may be, and rise. No condition. -/
namespace Go.Proofs.YtljcogimeimknaaGreat
set_option linter.unusedVariables false
open Go.RowKit

/-- may a key be, a value, an entry: the error's number -/
def keyN (n : Nat) : Nat := if n = 0 ∨ 64 < n then 3 else 0
def valN (n : Nat) : Nat := if 256 < n then 3 else 0
def chkN (n m : Nat) : Nat := max (keyN n) (valN m)
abbrev Ent := List UInt8 × List UInt8
def chk (e : Ent) : Nat := chkN e.1.length e.2.length
/-- do entries rise? the place and the error -/
def srtFrom : Nat → List UInt8 → List Ent → Nat × Nat
  | _, _, [] => (0, 0)
  | i, last, e :: r => if chk e ≠ 0 then (i, chk e) else if 0 < i ∧ 0 ≤ cmp last e.1 then (i, 51) else srtFrom (i + 1) e.1 r
def srt (es : List Ent) : Nat × Nat := srtFrom 0 [] es
theorem srt_nil (i : Nat) (l : List UInt8) : srtFrom i l [] = (0, 0) := rfl
theorem srt_chk {i : Nat} {l : List UInt8} {e : Ent} {r : List Ent} (h : chk e ≠ 0) : srtFrom i l (e :: r) = (i, chk e) := by unfold srtFrom; rw [if_pos h]
theorem srt_cmp {i : Nat} {l : List UInt8} {e : Ent} {r : List Ent} (h : ¬ chk e ≠ 0) (h2 : 0 < i ∧ 0 ≤ cmp l e.1) : srtFrom i l (e :: r) = (i, 51) := by unfold srtFrom; rw [if_neg h, if_pos h2]
theorem srt_go {i : Nat} {l : List UInt8} {e : Ent} {r : List Ent} (h : ¬ chk e ≠ 0) (h2 : ¬ (0 < i ∧ 0 ≤ cmp l e.1)) : srtFrom i l (e :: r) = srtFrom (i + 1) e.1 r := by
  conv => lhs; unfold srtFrom
  rw [if_neg h, if_neg h2]
theorem edrop_cons {es : List Ent} {k : Nat} {x : Ent} (h : es[k]? = some x) : es.drop k = x :: es.drop (k + 1) := by
  obtain ⟨hl, rfl⟩ := List.getElem?_eq_some_iff.1 h
  exact List.drop_eq_getElem_cons hl

/-- the texts are within reach -/
def Fit (M : Nat) (es : List Ent) : Prop := ∀ e, e ∈ es → e.1.length ≤ M ∧ e.2.length ≤ M

/-- a slice's three words -/
abbrev Sv := Option Addr × Nat × Nat
def sv (s : Sv) : Value := .slice s.1 s.2.1 s.2.2
abbrev fE (x : Sv × Sv) : List Value := [sv x.1, sv x.2]
theorem fE_len (x : Sv × Sv) : (fE x).length = 2 := rfl
theorem eltTE : EltT Tryz.prog 48 51 fE 2 48 := by
  have hi : (Tryz.prog.info? 51).map (fun i => (i.zero, i.size, i.bytes)) = some (some (.agg #[.slice none 0 0, .slice none 0 0]), 2, 48) := by kernel_rfl
  obtain ⟨i, hi1, hi2, hi3, hi4⟩ := info_parts hi
  exact ⟨Tryz.underlying48, ⟨i, _, hi1, hi2, hi3, hi4, ((none, 0, 0), (none, 0, 0)), rfl⟩, fun _ => rfl, by decide, fun x u hu => by simp [fE, sv] at hu; rcases hu with rfl | rfl <;> rfl⟩

/-- a text in a block of its own between lo and hi, a mark behind -/
def Mkd (w : World) (lo hi : Nat) (s : Sv) (xs : List UInt8) : Prop :=
  s.2.1 = xs.length ∧ OwT fB w lo 5 (.slice s.1 (xs.length + 1) s.2.2) (xs ++ [77]) ∧ ∀ j, Value.ownBlock (.slice s.1 (xs.length + 1) s.2.2) = some j → lo ≤ j ∧ j < hi
theorem Mkd.same {w w' : World} {lo hi : Nat} {s : Sv} {xs : List UInt8} (h : Mkd w lo hi s xs) (hs : ∀ j, lo ≤ j → j < hi → w'.heap[j]? = w.heap[j]?) : Mkd w' lo hi s xs :=
  ⟨h.1, h.2.1.of_block fun j hj => hs j (h.2.2 j hj).1 (h.2.2 j hj).2, h.2.2⟩
theorem Mkd.widen {w : World} {lo hi lo' hi' : Nat} {s : Sv} {xs : List UInt8} (h : Mkd w lo hi s xs) (hl : lo' ≤ lo) (hh : hi ≤ hi') : Mkd w lo' hi' s xs :=
  ⟨h.1, h.2.1.base hl, fun j hj => ⟨Nat.le_trans hl (h.2.2 j hj).1, Nat.lt_of_lt_of_le (h.2.2 j hj).2 hh⟩⟩
theorem Mkd.sl {w : World} {lo hi : Nat} {s : Sv} {xs : List UInt8} (h : Mkd w lo hi s xs) : Sl Bf w s.1 s.2.1 s.2.2 xs := by
  have := h.2.1.slI.upto xs.length (by simp)
  rw [List.take_left] at this
  rw [h.1]; exact this
theorem Mkd.cap {w : World} {lo hi : Nat} {s : Sv} {xs : List UInt8} (h : Mkd w lo hi s xs) : xs.length + 1 ≤ s.2.2 := h.2.1.slI.le
theorem Mkd.mark {w : World} {lo hi : Nat} {s : Sv} {xs : List UInt8} (h : Mkd w lo hi s xs) : ∃ b o, s.1 = some ⟨b, o, none⟩ ∧ w.cell? ⟨b, o + xs.length, none⟩ = some (.int .u8 77) :=
  h.2.1.slI.2.2.2 xs.length 77 (by simp)

/-- a list of entries of the call's own between lo and hi, each text with its mark, a mark behind the list -/
def Cpy (w : World) (lo hi : Nat) (s : Sv) (es : List Ent) : Prop :=
  s.2.1 = es.length ∧ ∃ (vs : List (Sv × Sv)) (mk : Sv × Sv), vs.length = es.length ∧ OwT fE w lo 51 (.slice s.1 (es.length + 1) s.2.2) (vs ++ [mk]) ∧ mk.1.2.1 = 1 ∧
    (∀ j, Value.ownBlock (.slice s.1 (es.length + 1) s.2.2) = some j → lo ≤ j ∧ j < hi) ∧ ∀ (i : Nat) (x : Sv × Sv) (e : Ent), vs[i]? = some x → es[i]? = some e → Mkd w lo hi x.1 e.1 ∧ Mkd w lo hi x.2 e.2
theorem Cpy.same {w w' : World} {lo hi : Nat} {s : Sv} {es : List Ent} (h : Cpy w lo hi s es) (hs : ∀ j, lo ≤ j → j < hi → w'.heap[j]? = w.heap[j]?) : Cpy w' lo hi s es := by
  obtain ⟨h1, vs, mk, h2, h3, h4, h5, h6⟩ := h
  exact ⟨h1, vs, mk, h2, h3.of_block fun j hj => hs j (h5 j hj).1 (h5 j hj).2, h4, h5, fun i x e hx he => ⟨(h6 i x e hx he).1.same hs, (h6 i x e hx he).2.same hs⟩⟩
theorem Cpy.keep {w w' : World} {lo hi : Nat} {s : Sv} {es : List Ent} (h : Cpy w lo hi s es) (hb : Below w.heap.size w w') (hh : hi ≤ w.heap.size) : Cpy w' lo hi s es := h.same fun j _ hj => hb.block j (by omega)
theorem Cpy.ents {w : World} {lo hi : Nat} {s : Sv} {es : List Ent} (h : Cpy w lo hi s es) : Ents w s.1 s.2.1 s.2.2 es := by
  obtain ⟨h1, vs, mk, h2, h3, h4, h5, h6⟩ := h
  obtain ⟨a, c, hv, hs⟩ := h3.sl fE_len
  injection hv with e1 e2 e3
  subst e1 e3
  have hle : es.length + 1 ≤ s.2.2 := by have := hs.2.1; rw [List.length_append, h2] at this; exact this
  refine ⟨h1.symm, by omega, fun e => by have := hs.2.2.1 e; omega, fun i k v hi => ?_⟩
  have hin : i < vs.length := by have := (List.getElem?_eq_some_iff.1 hi).1; omega
  have hx : (vs ++ [mk])[i]? = some vs[i] := by rw [List.getElem?_append_left hin]; exact List.getElem?_eq_getElem hin
  obtain ⟨b, o, ha, hc⟩ := hs.2.2.2 i _ hx
  obtain ⟨m1, m2⟩ := h6 i _ (k, v) (List.getElem?_eq_getElem hin) hi
  exact ⟨b, o, _, _, _, _, _, _, ha, hc 0 _ rfl, hc 1 _ rfl, m1.sl, m2.sl⟩
theorem Cpy.at {w : World} {lo hh : Nat} {s : Sv} {es : List Ent} (h : Cpy w lo hh s es) (i : Nat) (e : Ent) (hi : es[i]? = some e) :
    ∃ b o x y, s.1 = some ⟨b, o, none⟩ ∧ w.cell? ⟨b, o + i * 2, none⟩ = some (sv x) ∧ w.cell? ⟨b, o + i * 2 + 1, none⟩ = some (sv y) ∧ Mkd w lo hh x e.1 ∧ Mkd w lo hh y e.2 := by
  obtain ⟨h1, vs, mk, h2, h3, h4, h5, h6⟩ := h
  obtain ⟨a, c, hv, hs⟩ := h3.sl fE_len
  injection hv with e1 e2 e3
  subst e1 e3
  have hin : i < vs.length := by have := (List.getElem?_eq_some_iff.1 hi).1; omega
  have hx : (vs ++ [mk])[i]? = some vs[i] := by rw [List.getElem?_append_left hin]; exact List.getElem?_eq_getElem hin
  obtain ⟨b, o, ha, hc⟩ := hs.2.2.2 i _ hx
  obtain ⟨m1, m2⟩ := h6 i _ e (List.getElem?_eq_getElem hin) hi
  exact ⟨b, o, _, _, ha, hc 0 _ rfl, hc 1 _ rfl, m1, m2⟩
/-- the list's own mark -/
theorem Cpy.last {w : World} {lo hh : Nat} {s : Sv} {es : List Ent} (h : Cpy w lo hh s es) :
    es.length + 1 ≤ s.2.2 ∧ ∃ (b o : Nat) (ax : Option Addr) (cx : Nat), s.1 = some ⟨b, o, none⟩ ∧ w.cell? ⟨b, o + es.length * 2, none⟩ = some (.slice ax 1 cx) := by
  obtain ⟨h1, vs, mk, h2, h3, h4, h5, h6⟩ := h
  obtain ⟨a, c, hv, hs⟩ := h3.sl fE_len
  injection hv with e1 e2 e3
  subst e1 e3
  have hle : es.length + 1 ≤ s.2.2 := by have := hs.2.1; rw [List.length_append, h2] at this; exact this
  refine ⟨hle, ?_⟩
  have hx : (vs ++ [mk])[es.length]? = some mk := by rw [← h2]; simp
  obtain ⟨b, o, ha, hc⟩ := hs.2.2.2 _ _ hx
  have h0 := hc 0 _ rfl
  refine ⟨b, o, mk.1.1, mk.1.2.2, ha, ?_⟩
  rw [← h4]; exact h0
theorem Ents.keep {w w' : World} {a : Option Addr} {n c : Nat} {es : List Ent} (h : Ents w a n c es) (hb : Below w.heap.size w w') : Ents w' a n c es := by
  refine ⟨h.1, h.2.1, h.2.2.1, fun i k v hi => ?_⟩
  obtain ⟨b, o, ak, nk, ck, av, nv, cv, ha, c0, c1, s0, s1⟩ := h.2.2.2 i k v hi
  exact ⟨b, o, ak, nk, ck, av, nv, cv, ha, (World.cell?_of_block (a := ⟨b, _, none⟩) (hb.block b (cell_lt c0))).trans c0, (World.cell?_of_block (a := ⟨b, _, none⟩) (hb.block b (cell_lt c0))).trans c1, s0.keep hb, s1.keep hb⟩
theorem Ents.drewN {w : World} {a : Option Addr} {n c : Nat} {es : List Ent} (h : Ents w a n c es) (k : Nat) : Ents (w.drewN k) a n c es := h
end Go.Proofs.YtljcogimeimknaaGreat
/- How two texts compare: the contract of the library's function. Conditions: the slices read as lists of bytes. -/
namespace Go.Proofs.YtljcogimeimknaaGreat
set_option linter.unusedVariables false
open Go.RowKit

theorem cmp_bytes : ∀ xs ys : List UInt8, Lib.compareBytes xs ys = cmp xs ys
  | [], [] => rfl
  | [], _ :: _ => rfl
  | _ :: _, [] => rfl
  | a :: l, b :: r => by
    unfold Lib.compareBytes cmp
    by_cases h : a = b
    · subst h
      have h0 : ¬ a < a := fun e => Nat.lt_irrefl _ (UInt8.lt_iff_toNat_lt.1 e)
      rw [if_neg h0, if_neg h0, if_pos rfl]; exact cmp_bytes l r
    · have hn := u8_ne h
      rw [if_neg h]
      by_cases h1 : a.toNat < b.toNat
      · rw [if_pos (UInt8.lt_iff_toNat_lt.2 h1), if_pos h1]
      · rw [if_neg (fun e => h1 (UInt8.lt_iff_toNat_lt.1 e)), if_neg h1, if_pos (UInt8.lt_iff_toNat_lt.2 (by omega))]
theorem bytesOf_B (xs : List UInt8) : Lib.bytesOf (xs.map B) = xs := by
  unfold Lib.bytesOf
  rw [List.map_map]
  conv => rhs; rw [← List.map_id xs]
  apply List.map_congr_left
  intro x _
  show (B x).toNat.toUInt8 = x
  unfold B
  simp
theorem run_bytesOf {P : Program} {w : World} {a : Option Addr} {n c : Nat} {xs : List UInt8} (h : Sl Bf w a n c xs) : (Extern.Bytes.bytesOf (.slice a n c)).run P w = .ok ⟨xs.toArray⟩ w := by
  obtain rfl : n = xs.length := h.len.symm
  cases a with
  | none =>
    have h0 : c = 0 := h.2.2.1 rfl
    have h1 := h.le
    have : xs = [] := List.length_eq_zero_iff.1 (by omega)
    subst this
    rfl
  | some p =>
    have hl := Lib.run_loadBytesX (P := P) w (xs.map B) p .empty (fun j x hj => by
      rw [List.getElem?_map] at hj
      cases hx : xs[j]? with
      | none => rw [hx] at hj; cases hj
      | some y =>
        rw [hx] at hj; cases hj
        obtain ⟨b, o, e, hc⟩ := h.2.2.2 j y hx
        cases e
        have e2 : (⟨b, o, none⟩ : Addr).add j = ⟨b, o + j, none⟩ := by unfold Addr.add; split <;> simp_all
        rw [e2]; exact hc)
    rw [List.length_map, bytesOf_B] at hl
    have he : (⟨ByteArray.empty.data ++ xs.toArray⟩ : ByteArray) = ⟨xs.toArray⟩ := by
      apply ByteArray.ext
      show (#[] : Array UInt8) ++ xs.toArray = xs.toArray
      simp
    rw [he] at hl
    exact hl
theorem run_compare {P : Program} {w : World} {a : Option Addr} {n c : Nat} {xs : List UInt8} {a' : Option Addr} {n' c' : Nat} {ys : List UInt8} (h : Sl Bf w a n c xs) (h' : Sl Bf w a' n' c' ys) :
    (Extern.BytealgCompare.compare #[.slice a n c, .slice a' n' c']).run P w = .ok (.int .i64 (cmp xs ys)) w := by
  change Sem.run P (do pure (goInt (Extern.BytealgCompare.cmp (← Extern.Bytes.bytesOf (.slice a n c)) (← Extern.Bytes.bytesOf (.slice a' n' c'))))) w = _
  simp only [Sem.run_bind, Sem.run_pure, run_bytesOf h, run_bytesOf h', Result.andThen]
  rw [Lib.cmp_eq]
  show Result.ok (goInt (Lib.compareBytes xs ys)) w = _
  rw [cmp_bytes]
  rfl
theorem call_compare {w : World} {a : Option Addr} {n c : Nat} {xs : List UInt8} {a' : Option Addr} {n' c' : Nat} {ys : List UInt8} (h : Sl Bf w a n c xs) (h' : Sl Bf w a' n' c' ys) :
    (callFunc 97 #[.slice a n c, .slice a' n' c']).run Tryz.prog w = .ok (.value (.int .i64 (cmp xs ys))) w := by
  rw [run_callFunc_extern Tryz.func97 (by kernel_rfl) (by kernel_rfl) (by kernel_rfl) (e := Extern.BytealgCompare.compare) (by kernel_rfl), run_compare h h']
  rfl

theorem bcompare_any (a : Option Addr) (n c : Nat) (xs : List UInt8) (a' : Option Addr) (n' c' : Nat) (ys : List UInt8) (w : World) (h : Sl Bf w a n c xs) (h' : Sl Bf w a' n' c' ys) :
    Calls Tryz.prog 53 #[.slice a n c, .slice a' n' c'] w fun e w' => e = .returned (.int .i64 (cmp xs ys)) ∧ w = w' := by
  have hx := call_compare h h'
  go_enter Tryz.func53, Tryz.ntmps53
  go_wp2
  go_ret
  exact ⟨rfl, rfl⟩
end Go.Proofs.YtljcogimeimknaaGreat
/- What two texts have in common: the reference's contract. Conditions: the slices within reach. -/
namespace Go.Proofs.YtljcogimeimknaaGreat
set_option linter.unusedVariables false
open Go.RowKit

set_option maxRecDepth 100000 in
set_option maxHeartbeats 400000 in
theorem rcommon_q (a : Option Addr) (n c : Nat) (xs : List UInt8) (a' : Option Addr) (n' c' : Nat) (ys : List UInt8) (w : World) (hn : n ≤ 140737488351232) (hn' : n' ≤ 140737488351232)
    (h : Sl Bf w a n c xs) (h' : Sl Bf w a' n' c' ys) :
    Calls Tryz.prog 98 #[.slice a n c, .slice a' n' c'] w fun e w' => e = .returned (.int .i64 (com xs ys)) ∧ Drw w w' := by
  obtain rfl : n = xs.length := h.len.symm
  obtain rfl : n' = ys.length := h'.len.symm
  have H := Lib.hid h; clear h
  have H' := Lib.hid h'; clear h'
  go_enter Tryz.func98, Tryz.ntmps98
  go_wp2_with fail
  go_loopw [5] (fun i wr => ∃ k : Nat, k ≤ xs.length ∧ k ≤ ys.length ∧ i = .int .i64 k ∧ xs.take k = ys.take k ∧ Drw w wr) (fun i _ => xs.length - (intOf i).toNat)
  case atStart => exact ⟨0, Nat.zero_le _, Nat.zero_le _, rfl, by simp, Drw.refl _⟩
  case round =>
    obtain ⟨k, hk, hk', rfl, he, hb⟩ := hrel
    have HE := Lib.hid he; clear he
    have HB := Lib.hid hb; clear hb
    by_cases h1 : k < xs.length
    · have d1 : decide (k < xs.length) = true := decide_eq_true h1
      by_cases h2 : k < ys.length
      · have d2 : decide (k < ys.length) = true := decide_eq_true h2
        obtain ⟨x, b, o, hx, rfl, hc⟩ := (H.out.keep HB.out.below).at k (by omega)
        obtain ⟨y, b', o', hy, rfl, hc'⟩ := (H'.out.keep HB.out.below).at k (by omega)
        have hc : wr.cell? ⟨b, o + k, none⟩ = some (.int .u8 (B x)) := hc
        have hc' : wr.cell? ⟨b', o' + k, none⟩ = some (.int .u8 (B y)) := hc'
        have HX := Lib.hid hx; clear hx
        have HY := Lib.hid hy; clear hy
        by_cases hxy : x = y
        · subst hxy
          go_wp2_with fail
          go_quiet (fail)
          go_wp2_with fail
          go_roundw
          case rel => exact ⟨k + 1, by omega, by omega, by go_num, (take_eq_snoc HX.out HY.out HE.out).2 rfl, HB.out.more _⟩
          case measure => simp [intOf]; omega
        · have hne : (B x == B y) = false := by rw [beq_eq_false_iff_ne]; exact fun e => hxy (B_inj e)
          go_wp2_with fail
          go_quiet (fail)
          go_wp2_with fail
          go_ret
          refine ⟨ret_int ?_, HB.out.more _⟩
          rw [com_diff HE.out HX.out HY.out hxy]
      · have d2 : decide (k < ys.length) = false := decide_eq_false h2
        have EK := Lib.hid (show k = ys.length by omega)
        go_wp2_with fail
        go_quiet (fail)
        go_wp2_with fail
        go_ret
        refine ⟨ret_int ?_, HB.out.more _⟩
        rw [com_full HE.out (by have := EK.out; omega) (by have := EK.out; omega) (by have := EK.out; omega)]
    · have d1 : decide (k < xs.length) = false := decide_eq_false h1
      have EK := Lib.hid (show k = xs.length by omega)
      go_wp2_with fail
      go_quiet (fail)
      go_wp2_with fail
      go_ret
      refine ⟨ret_int ?_, HB.out.more _⟩
      rw [com_full HE.out (by have := EK.out; omega) (by have := EK.out; omega) (by have := EK.out; omega)]
theorem rcommon_any (a : Option Addr) (n c : Nat) (xs : List UInt8) (a' : Option Addr) (n' c' : Nat) (ys : List UInt8) (w : World) (hn : n ≤ 140737488351232) (hn' : n' ≤ 140737488351232)
    (h : Sl Bf w a n c xs) (h' : Sl Bf w a' n' c' ys) :
    Calls Tryz.prog 98 #[.slice a n c, .slice a' n' c'] w fun e w' => e = .returned (.int .i64 (com xs ys)) ∧ Below w.heap.size w w' :=
  (rcommon_q a n c xs a' n' c' ys w hn hn' h h').mono fun _ _ ⟨he, hd⟩ => ⟨he, hd.below⟩
end Go.Proofs.YtljcogimeimknaaGreat
/- How two texts compare: the reference's contract. Conditions: the slices within reach. -/
namespace Go.Proofs.YtljcogimeimknaaGreat
set_option linter.unusedVariables false
open Go.RowKit

theorem rcompare_q (a : Option Addr) (n c : Nat) (xs : List UInt8) (a' : Option Addr) (n' c' : Nat) (ys : List UInt8) (w : World) (hn : n ≤ 140737488351232) (hn' : n' ≤ 140737488351232)
    (h : Sl Bf w a n c xs) (h' : Sl Bf w a' n' c' ys) :
    Calls Tryz.prog 54 #[.slice a n c, .slice a' n' c'] w fun e w' => e = .returned (.int .i64 (cmp xs ys)) ∧ Drw w w' := by
  obtain rfl : n = xs.length := h.len.symm
  obtain rfl : n' = ys.length := h'.len.symm
  have H := Lib.hid h; clear h
  have H' := Lib.hid h'; clear h'
  obtain ⟨m, hm⟩ : ∃ m, com xs ys = m := ⟨_, rfl⟩
  have hm1 : m ≤ xs.length := hm ▸ (com_le xs ys).1
  have hm2 : m ≤ ys.length := hm ▸ (com_le xs ys).2
  have hcc := cmp_com xs ys
  rw [hm] at hcc
  have HC := Lib.hid hcc; clear hcc
  have hend := com_end xs ys
  rw [hm] at hend
  have HEnd := Lib.hid hend; clear hend
  have HM := Lib.hid hm; clear hm
  go_enter Tryz.func54, Tryz.ntmps54
  go_wp2_with fail
  refine (rcommon_q _ _ _ xs _ _ _ ys _ hn hn' H.out H'.out).mono ?_
  rintro e w1 ⟨rfl, hb⟩
  have G := Lib.hid hb; clear hb
  rw [HM.out]
  by_cases hA : m = xs.length
  · have hcc := HC.out
    have HX := HM.out
    clear HM HC HEnd
    subst hA
    by_cases hB : xs.length = ys.length
    · rw [if_pos ⟨rfl, hB⟩] at hcc
      have f3 : ((xs.length : Int) == (ys.length : Int)) = true := by simp; omega
      have f4 : (xs.length == ys.length) = true := by simp; omega
      have HCC := Lib.hid hcc
      clear hB hcc
      go_wp2_with fail
      go_ret
      exact ⟨ret_int HCC.out.symm, G.out⟩
    · rw [if_neg (fun e => hB e.2), if_pos rfl] at hcc
      have f3 : ((xs.length : Int) == (ys.length : Int)) = false := by simp; omega
      have f4 : (xs.length == ys.length) = false := by simp; omega
      have HCC := Lib.hid hcc
      clear hB hcc
      go_wp2_with fail
      go_ret
      exact ⟨ret_int HCC.out.symm, G.out⟩
  · by_cases hB : m = ys.length
    · have hcc := HC.out
      clear HM HC HEnd
      subst hB
      rw [if_neg (fun e => hA e.1), if_neg hA, if_pos rfl] at hcc
      have f3 : ((ys.length : Int) == (xs.length : Int)) = false := by simp; omega
      have f4 : (ys.length == xs.length) = false := by simp; omega
      have HCC := Lib.hid hcc
      clear hA hcc
      go_wp2_with fail
      go_ret
      exact ⟨ret_int HCC.out.symm, G.out⟩
    · have f1 : ((m : Int) == (xs.length : Int)) = false := by simp; omega
      have f2 : (m == xs.length) = false := by simp; omega
      have f3 : ((m : Int) == (ys.length : Int)) = false := by simp; omega
      have f4 : (m == ys.length) = false := by simp; omega
      obtain ⟨x, y, hx, hy, hxy, hcm⟩ : ∃ x y, xs[m]? = some x ∧ ys[m]? = some y ∧ x ≠ y ∧ cmp xs ys = if x.toNat < y.toNat then -1 else 1 := by
        rcases HEnd.out with h | h | h
        · omega
        · omega
        · exact h
      obtain ⟨b, o, hxa, hcx⟩ := (H.out.keep G.out.below).2.2.2 m x hx
      obtain ⟨b', o', hya, hcy⟩ := (H'.out.keep G.out.below).2.2.2 m y hy
      subst hxa; subst hya
      have hcx : w1.cell? ⟨b, o + m, none⟩ = some (.int .u8 (B x)) := hcx
      have hcy : w1.cell? ⟨b', o' + m, none⟩ = some (.int .u8 (B y)) := hcy
      have hl1 : m < xs.length := by omega
      have hl2 : m < ys.length := by omega
      clear hx hy hxy HC HM HEnd hA hB
      by_cases hlt : B x < B y
      · rw [if_pos (by unfold B at hlt; omega)] at hcm
        have HCC := Lib.hid hcm; clear hcm
        go_wp2_with fail
        go_quiet (fail)
        go_wp2_with fail
        go_ret
        exact ⟨ret_int HCC.out.symm, G.out.more _⟩
      · rw [if_neg (by unfold B at hlt; omega)] at hcm
        have HCC := Lib.hid hcm; clear hcm
        go_wp2_with fail
        go_quiet (fail)
        go_wp2_with fail
        go_ret
        exact ⟨ret_int HCC.out.symm, G.out.more _⟩

theorem rcompare_any (a : Option Addr) (n c : Nat) (xs : List UInt8) (a' : Option Addr) (n' c' : Nat) (ys : List UInt8) (w : World) (hn : n ≤ 140737488351232) (hn' : n' ≤ 140737488351232)
    (h : Sl Bf w a n c xs) (h' : Sl Bf w a' n' c' ys) :
    Calls Tryz.prog 54 #[.slice a n c, .slice a' n' c'] w fun e w' => e = .returned (.int .i64 (cmp xs ys)) ∧ Below w.heap.size w w' :=
  (rcompare_q a n c xs a' n' c' ys w hn hn' h h').mono fun _ _ ⟨he, hd⟩ => ⟨he, hd.below⟩
end Go.Proofs.YtljcogimeimknaaGreat
/- Common: contract. Conditions: the slices within reach. -/
namespace Go.Proofs.YtljcogimeimknaaGreat
open Go.RowKit
set_option linter.unusedVariables false

set_option maxRecDepth 100000 in
set_option maxHeartbeats 400000 in
theorem common_any (a : Option Addr) (n c : Nat) (xs : List UInt8) (a' : Option Addr) (n' c' : Nat) (ys : List UInt8) (w : World) (hn : n ≤ 9223372036854775807) (hn' : n' ≤ 9223372036854775807)
    (h : Sl Bf w a n c xs) (h' : Sl Bf w a' n' c' ys) :
    Calls Tryz.prog 160 #[.slice a n c, .slice a' n' c'] w fun e w' => e = .returned (.int .i64 (com xs ys)) ∧ Below w.heap.size w w' := by
  obtain rfl : n = xs.length := h.len.symm
  obtain rfl : n' = ys.length := h'.len.symm
  have H := Lib.hid h; clear h
  have H' := Lib.hid h'; clear h'
  by_cases hmn : ys.length < xs.length
  · go_enter Tryz.func160, Tryz.ntmps160
    go_wp2_with fail
    go_loopw [13] (fun i wr => ∃ k : Nat, k ≤ ys.length ∧ i = .int .i64 k ∧ xs.take k = ys.take k ∧ Below w.heap.size w wr) (fun i _ => ys.length - (intOf i).toNat)
    case atStart => exact ⟨0, Nat.zero_le _, rfl, by simp, Below.refl _ _⟩
    case round =>
      obtain ⟨k, hk, rfl, he, hb⟩ := hrel
      have HE := Lib.hid he; clear he
      have HB := Lib.hid hb; clear hb
      by_cases hlt : k < ys.length
      · obtain ⟨x, b, o, hx, rfl, hc⟩ := (H.out.keep HB.out).at k (by omega)
        obtain ⟨y, b', o', hy, rfl, hc'⟩ := (H'.out.keep HB.out).at k (by omega)
        have hc : wr.cell? ⟨b, o + k, none⟩ = some (.int .u8 (B x)) := hc
        have hc' : wr.cell? ⟨b', o' + k, none⟩ = some (.int .u8 (B y)) := hc'
        have HX := Lib.hid hx; clear hx
        have HY := Lib.hid hy; clear hy
        by_cases hxy : x = y
        · subst hxy
          go_wp2_with fail
          go_quiet (fail)
          go_wp2_with fail
          go_roundw
          case rel => exact ⟨k + 1, by omega, by go_num, (take_eq_snoc HX.out HY.out HE.out).2 rfl, keep_drewN HB.out _⟩
          case measure => simp [intOf]; omega
        · have hne : (B x != B y) = true := by rw [bne_iff_ne]; exact fun e => hxy (B_inj e)
          go_wp2_with fail
          go_quiet (fail)
          go_wp2_with fail
          go_ret
          refine ⟨ret_int ?_, keep_drewN HB.out _⟩
          rw [com_diff HE.out HX.out HY.out hxy]
      · have ek : k = ys.length := by omega
        have EK := Lib.hid ek; clear ek
        go_wp2_with fail
        go_ret
        refine ⟨ret_int ?_, HB.out⟩
        rw [com_full HE.out (by have := EK.out; omega) (by have := EK.out; omega) (by have := EK.out; omega)]
        have := EK.out; omega
  · go_enter Tryz.func160, Tryz.ntmps160
    go_wp2_with fail
    go_loopw [13] (fun i wr => ∃ k : Nat, k ≤ xs.length ∧ i = .int .i64 k ∧ xs.take k = ys.take k ∧ Below w.heap.size w wr) (fun i _ => xs.length - (intOf i).toNat)
    case atStart => exact ⟨0, Nat.zero_le _, rfl, by simp, Below.refl _ _⟩
    case round =>
      obtain ⟨k, hk, rfl, he, hb⟩ := hrel
      have HE := Lib.hid he; clear he
      have HB := Lib.hid hb; clear hb
      by_cases hlt : k < xs.length
      · obtain ⟨x, b, o, hx, rfl, hc⟩ := (H.out.keep HB.out).at k (by omega)
        obtain ⟨y, b', o', hy, rfl, hc'⟩ := (H'.out.keep HB.out).at k (by omega)
        have hc : wr.cell? ⟨b, o + k, none⟩ = some (.int .u8 (B x)) := hc
        have hc' : wr.cell? ⟨b', o' + k, none⟩ = some (.int .u8 (B y)) := hc'
        have HX := Lib.hid hx; clear hx
        have HY := Lib.hid hy; clear hy
        by_cases hxy : x = y
        · subst hxy
          go_wp2_with fail
          go_quiet (fail)
          go_wp2_with fail
          go_roundw
          case rel => exact ⟨k + 1, by omega, by go_num, (take_eq_snoc HX.out HY.out HE.out).2 rfl, keep_drewN HB.out _⟩
          case measure => simp [intOf]; omega
        · have hne : (B x != B y) = true := by rw [bne_iff_ne]; exact fun e => hxy (B_inj e)
          go_wp2_with fail
          go_quiet (fail)
          go_wp2_with fail
          go_ret
          refine ⟨ret_int ?_, keep_drewN HB.out _⟩
          rw [com_diff HE.out HX.out HY.out hxy]
      · have ek : k = xs.length := by omega
        have EK := Lib.hid ek; clear ek
        go_wp2_with fail
        go_ret
        refine ⟨ret_int ?_, HB.out⟩
        rw [com_full HE.out (by have := EK.out; omega) (by have := EK.out; omega) (by have := EK.out; omega)]
        have := EK.out; omega
end Go.Proofs.YtljcogimeimknaaGreat
/- Clone of bytes: contract. Condition: the slice within reach. -/
namespace Go.Proofs.YtljcogimeimknaaGreat
set_option linter.unusedVariables false
open Go.RowKit

theorem clone_any (a : Option Addr) (n c : Nat) (xs : List UInt8) (w : World) (hn : n ≤ 140737488351232) (h : Sl Bf w a n c xs) :
    Calls Tryz.prog 39 #[.slice a n c] w fun e w' => ∃ v, e = .returned v ∧ OwT fB w' w.heap.size 5 v xs ∧ Below w.heap.size w w' := by
  obtain rfl : n = xs.length := h.len.symm
  have H := Lib.hid h; clear h
  cases a with
  | none =>
    have HZ := Lib.hid H.out.none_eq.2.2
    have hnil := Lib.run_eql_slice_nil w 22 5 none xs.length c 0 0 Tryz.underlying22
    go_enter Tryz.func39, Tryz.ntmps39
    go_wp2_with fail
    go_ret
    exact ⟨_, rfl, by rw [HZ.out]; exact OwT.nil _ _ _ _, Below.refl _ _⟩
  | some p =>
    have hnil := Lib.run_eql_slice_nil w 22 5 (some p) xs.length c 0 0 Tryz.underlying22
    go_enter Tryz.func39, Tryz.ntmps39
    go_wp2_with (at_builtin; refine wpList_appT eltTB rfl _ _ rfl w.heap.size _ [] (by rfl) (OwT.lit fB _ w.heap.size _ _ [] 0 rfl rfl (Nat.le_refl _) (Nat.zero_le _)) (some p) xs.length c xs (by rfl) (H.out.keep ((Below.refl _ _).alloc (Nat.le_refl _) _)).toT (by unfold maxLen; simp; omega) (by simp; omega) (by simp) xs rfl ?_; intro v5 w5 h5 hg5 hv5 hb5)
    go_ret
    exact ⟨_, rfl, h5, ((Below.refl _ _).alloc (Nat.le_refl _) _).trans hb5⟩
end Go.Proofs.YtljcogimeimknaaGreat
/- Bytes as a string. No condition. -/
namespace Go.Proofs.YtljcogimeimknaaGreat
set_option linter.unusedVariables false
open Go.RowKit

def strB (xs : List UInt8) : ByteArray := ⟨xs.toArray⟩
theorem strB_list (xs : List UInt8) : (strB xs).toList = xs := by rw [Lib.toList_data]; simp [strB]
theorem run_str {P : Program} {src e dst : TypeId} (hs : P.underlying src = some (.slice e)) (he : P.underlying e = some (.int .u8)) (hd : P.underlying dst = some .string)
    (w : World) (a : Option Addr) (n c : Nat) (xs : List UInt8) (h : Sl Bf w a n c xs) : (convert src dst (.slice a n c)).run P w = .ok (.string (strB xs)) w := by
  cases xs with
  | nil =>
    have hn : n = 0 := h.len.symm
    subst hn
    cases a with
    | none => exact run_convert_bytes_nil w src e hs he 0 c dst hd
    | some q =>
      rw [run_convert_bytes_string w src dst e _ 0 c hs he hd, run_bytesToString w _ 0 c [] (by simp [loadCells, loadCellsFrom])]
      rfl
  | cons x r =>
    obtain ⟨_, b, o, _, rfl, _⟩ := h.at 0 (by have := h.len; simp at this; omega)
    have := run_convert_bytes_arg (P := P) w src e hs he b o n c ((x :: r).map B) (by rw [List.length_map]; exact h.len) (fun i hi => by
      obtain ⟨y, b', o', hy, e, hc⟩ := h.at i hi
      cases e
      rw [hc, List.getD, List.getElem?_map, hy]; rfl) dst hd
    rw [this]
    congr 2
    unfold strOfNums strB
    congr 2
    rw [List.map_map]
    conv => rhs; rw [← List.map_id (x :: r)]
    apply List.map_congr_left
    intro y _
    simp [B]
end Go.Proofs.YtljcogimeimknaaGreat
/- May an entry be, do entries rise, copies of entries with marks, are they kept: contracts, the program's and the reference's. Conditions: the slices within reach. -/
namespace Go.Proofs.YtljcogimeimknaaGreat
set_option linter.unusedVariables false
open Go.RowKit

theorem keyn_any (a : Option Addr) (n c : Nat) (w : World) (hn : n ≤ 140737488351232) :
    Calls Tryz.prog 148 #[.slice a n c] w fun e w' => e = .returned (.int .i64 (keyN n : Nat)) ∧ w' = w := by
  by_cases h : n = 0 ∨ 64 < n
  · have hk : keyN n = 3 := by unfold keyN; rw [if_pos h]
    have HK := Lib.hid hk; clear hk
    by_cases h0 : n = 0
    · subst h0
      go_enter Tryz.func148, Tryz.ntmps148
      go_wp2_with fail
      go_ret
      exact ⟨ret_int (by rw [HK.out]; rfl), rfl⟩
    · have f1 : ((n : Int) == 0) = false := by rw [beq_eq_false_iff_ne]; omega
      have f2 : (n == 0) = false := by rw [beq_eq_false_iff_ne]; omega
      have f3 : (n : Int) > 64 := by omega
      clear h h0
      go_enter Tryz.func148, Tryz.ntmps148
      go_wp2_with fail
      go_ret
      exact ⟨ret_int (by rw [HK.out]; rfl), rfl⟩
  · have hk : keyN n = 0 := by unfold keyN; rw [if_neg h]
    have HK := Lib.hid hk; clear hk
    have f1 : ((n : Int) == 0) = false := by rw [beq_eq_false_iff_ne]; omega
    have f2 : (n == 0) = false := by rw [beq_eq_false_iff_ne]; omega
    have f3 : ¬ (n : Int) > 64 := by omega
    clear h
    go_enter Tryz.func148, Tryz.ntmps148
    go_wp2_with fail
    go_ret
    exact ⟨ret_int (by rw [HK.out]; rfl), rfl⟩
theorem valn_any (a : Option Addr) (n c : Nat) (w : World) (hn : n ≤ 140737488351232) :
    Calls Tryz.prog 149 #[.slice a n c] w fun e w' => e = .returned (.int .i64 (valN n : Nat)) ∧ w' = w := by
  by_cases h : 256 < n
  · have hk : valN n = 3 := by unfold valN; rw [if_pos h]
    have HK := Lib.hid hk; clear hk
    have f3 : (n : Int) > 256 := by omega
    go_enter Tryz.func149, Tryz.ntmps149
    go_wp2_with fail
    go_ret
    exact ⟨ret_int (by rw [HK.out]; rfl), rfl⟩
  · have hk : valN n = 0 := by unfold valN; rw [if_neg h]
    have HK := Lib.hid hk; clear hk
    have f3 : ¬ (n : Int) > 256 := by omega
    go_enter Tryz.func149, Tryz.ntmps149
    go_wp2_with fail
    go_ret
    exact ⟨ret_int (by rw [HK.out]; rfl), rfl⟩
theorem keyN_cases (n : Nat) : keyN n = 0 ∨ keyN n = 3 := by unfold keyN; split <;> simp
theorem valN_cases (n : Nat) : valN n = 0 ∨ valN n = 3 := by unfold valN; split <;> simp
set_option maxRecDepth 100000 in
set_option maxHeartbeats 400000 in
theorem check_any (ak : Option Addr) (nk ck : Nat) (av : Option Addr) (nv cv : Nat) (w : World) (hk : nk ≤ 140737488351232) (hv : nv ≤ 140737488351232) :
    Calls Tryz.prog 110 #[.agg #[.slice ak nk ck, .slice av nv cv]] w fun e w' => e = .returned (.int .i64 (chkN nk nv : Nat)) ∧ Below w.heap.size w w' := by
  have e1 := keyN_cases nk
  have e2 := valN_cases nv
  obtain ⟨x, hx⟩ : ∃ x, keyN nk = x := ⟨_, rfl⟩
  obtain ⟨y, hy⟩ : ∃ y, valN nv = y := ⟨_, rfl⟩
  have hc : chkN nk nv = max x y := by unfold chkN; rw [hx, hy]
  rw [hx] at e1; rw [hy] at e2
  have k1 := fun W : World => keyn_any ak nk ck W hk
  have k2 := fun W : World => valn_any av nv cv W hv
  rw [hx] at k1; rw [hy] at k2
  have K1 := Lib.hid k1; clear k1
  have K2 := Lib.hid k2; clear k2 hx hy
  have HC := Lib.hid hc; clear hc
  rcases e1 with rfl | rfl <;> rcases e2 with rfl | rfl
  all_goals
    go_enter Tryz.func110, Tryz.ntmps110
    go_wp2_with fail
    go_quiet ((first
      | (go_at_call 148; exact Calls.quiet_of_same (K1.out _))
      | (go_at_call 149; exact Calls.quiet_of_same (K2.out _))))
    go_wp2_with fail
    go_ret
    exact ⟨ret_int (by rw [HC.out]; rfl), keep_drewN ((Below.refl _ _).alloc (Nat.le_refl _) _) _⟩
end Go.Proofs.YtljcogimeimknaaGreat
/- Copies of entries with marks: contracts of Copy, Same, SameAll, Kept. Conditions: the slices within reach. -/
namespace Go.Proofs.YtljcogimeimknaaGreat
set_option linter.unusedVariables false
open Go.RowKit

/-- texts with marks that lie apart from the list's own block -/
def Txts (w : World) (lo hi : Nat) (v : Value) (vs : List (Sv × Sv)) (es : List Ent) : Prop :=
  ∀ (i : Nat) (x : Sv × Sv) (e : Ent), vs[i]? = some x → es[i]? = some e → (Mkd w lo hi x.1 e.1 ∧ Mkd w lo hi x.2 e.2) ∧ ∀ j, v.ownBlock = some j → x.1.1.map (·.block) ≠ some j ∧ x.2.1.map (·.block) ≠ some j
theorem Mkd.blk {w : World} {lo hi : Nat} {s : Sv} {xs : List UInt8} (h : Mkd w lo hi s xs) : ∀ j, s.1.map (·.block) = some j → lo ≤ j ∧ j < hi := by
  intro j hj; exact h.2.2 j (by rw [own_map]; exact hj)
theorem Mkd.off {w w' : World} {lo hi : Nat} {s : Sv} {xs : List UInt8} (h : Mkd w lo hi s xs) (hs : ∀ j, s.1.map (·.block) = some j → w'.heap[j]? = w.heap[j]?) : Mkd w' lo hi s xs :=
  ⟨h.1, h.2.1.of_block fun j hj => hs j (by rw [own_map] at hj; exact hj), h.2.2⟩
theorem Txts.step {wr w2 w3 : World} {lo : Nat} {v v' : Value} {vs : List (Sv × Sv)} {es : List Ent} {s1 s2 : Sv} {e : Ent} (h : Txts wr lo wr.heap.size v vs es) (hlo : lo ≤ wr.heap.size) (hl : es[vs.length]? = some e)
    (hw : ∀ j, j < wr.heap.size → w2.heap[j]? = wr.heap[j]?) (hsz : wr.heap.size ≤ w2.heap.size) (h1 : Mkd w2 wr.heap.size w2.heap.size s1 e.1) (h2 : Mkd w2 wr.heap.size w2.heap.size s2 e.2)
    (hv : ∀ j, v.ownBlock = some j → j < wr.heap.size) (hg : w2.grownBy w3 v.ownBlock) (hv' : v'.ownBlock = v.ownBlock ∨ v'.ownBlock = some w2.heap.size) : Txts w3 lo w3.heap.size v' (vs ++ [(s1, s2)]) es := by
  have hs3 := hg.size
  have new : ∀ (s : Sv) (xs : List UInt8), Mkd w2 wr.heap.size w2.heap.size s xs → Mkd w3 lo w3.heap.size s xs ∧ ∀ j, v'.ownBlock = some j → s.1.map (·.block) ≠ some j := by
    intro s xs hm
    refine ⟨(hm.off fun j hj => hg.block j (hm.blk j hj).2 fun e => ?_).widen hlo hs3, fun j hj hb => ?_⟩
    · have := hv j e.symm; have := (hm.blk j hj).1; omega
    · have hb := hm.blk j hb
      rcases hv' with e | e
      · have := hv j (e.symm.trans hj); omega
      · rw [e] at hj; injection hj with hj; omega
  have old : ∀ (s : Sv) (xs : List UInt8), Mkd wr lo wr.heap.size s xs → (∀ j, v.ownBlock = some j → s.1.map (·.block) ≠ some j) → Mkd w3 lo w3.heap.size s xs ∧ ∀ j, v'.ownBlock = some j → s.1.map (·.block) ≠ some j := by
    intro s xs hm hne
    refine ⟨(hm.off fun j hj => ?_).widen (Nat.le_refl _) (Nat.le_trans hsz hs3), fun j hj hb => ?_⟩
    · have hb := hm.blk j hj
      exact (hg.block j (by omega) (fun e => hne j e.symm hj)).trans (hw j hb.2)
    · rcases hv' with e | e
      · exact hne j (e.symm.trans hj) hb
      · rw [e] at hj; injection hj with hj; have := (hm.blk j hb).2; omega
  intro i x e' hx he'
  by_cases hi : i < vs.length
  · rw [List.getElem?_append_left hi] at hx
    obtain ⟨⟨m1, m2⟩, hne⟩ := h i x e' hx he'
    have a1 := old _ _ m1 (fun j hj => (hne j hj).1)
    have a2 := old _ _ m2 (fun j hj => (hne j hj).2)
    exact ⟨⟨a1.1, a2.1⟩, fun j hj => ⟨a1.2 j hj, a2.2 j hj⟩⟩
  · have hi2 : i < (vs ++ [(s1, s2)]).length := (List.getElem?_eq_some_iff.1 hx).1
    rw [List.length_append] at hi2
    obtain rfl : i = vs.length := by simp at hi2; omega
    obtain rfl : (s1, s2) = x := by simpa using hx
    obtain rfl : e = e' := by rw [hl] at he'; exact Option.some.inj he'
    have a1 := new _ _ h1
    have a2 := new _ _ h2
    exact ⟨⟨a1.1, a2.1⟩, fun j hj => ⟨a1.2 j hj, a2.2 j hj⟩⟩
theorem le_alloc (w : World) (o : Obj) : w.heap.size ≤ (w.alloc o).heap.size := by simp
theorem Txts.nil (w : World) (lo hi : Nat) (v : Value) (es : List Ent) : Txts w lo hi v [] es := fun i x e hx _ => by simp at hx
theorem SlT.lit1 (w : World) (s1 s2 : Sv) (g : Nat) (hg : w.heap.size = g) : SlT fE 2 (w.alloc (.cells #[sv s1, sv s2] 51)) (some ⟨g, 0, none⟩) 1 1 [(s1, s2)] := by
  subst hg
  obtain ⟨a, c, hv, hs⟩ := (OwT.lit fE w w.heap.size 51 #[sv s1, sv s2] [(s1, s2)] 1 rfl rfl (Nat.le_refl _) (by decide)).sl fE_len
  cases hv; exact hs
theorem run_cutE (w : World) (aa : Option Addr) (n c : Nat) (k2 : IntKind) (r : Nat) (hr : r ≤ c) : (Instr.slice 48 (.slice aa n c) none (some (.int k2 r)) none).run Tryz.prog w = .ok (.slice aa r c) w := by
  obtain ⟨ht, ⟨i, z, hi1, hi2, hi3, hi4, x0, hz⟩, hf, hk, h1⟩ := eltTE
  cases aa <;> simp [Instr.slice, run_underlying ht, Instr.sliceBounds, Instr.sliceBound, asIntOf, sizeOf, typeInfo, hi1, hr, Addr.add]
theorem OwT.slE {w : World} {base : Nat} {e : TypeId} {v : Value} {vs : List (Sv × Sv)} (h : OwT fE w base e v vs) : ∃ a n c, v = .slice a n c ∧ n = vs.length ∧ n ≤ c := by
  obtain ⟨a, c, hv, hs⟩ := h.sl fE_len
  exact ⟨a, _, c, hv, rfl, hs.2.1⟩

end Go.Proofs.YtljcogimeimknaaGreat
/- Are entries the same, do copies read as they did, do they rise: contracts of Same, SameAll, Kept, Sorted. Conditions: the slices within reach. -/
namespace Go.Proofs.YtljcogimeimknaaGreat
set_option linter.unusedVariables false
open Go.RowKit

theorem strB_eq (xs ys : List UInt8) : ((strB xs).toList == (strB ys).toList) = decide (xs = ys) := by
  rw [strB_list, strB_list]
  by_cases h : xs = ys
  · subst h; simp
  · rw [decide_eq_false h]; simp [h]
set_option maxRecDepth 100000 in
set_option maxHeartbeats 400000 in
theorem esame_any (ak : Option Addr) (nk ck : Nat) (av : Option Addr) (nv cv : Nat) (bk : Option Addr) (mk dk : Nat) (bv : Option Addr) (mv dv : Nat) (k v k' v' : List UInt8) (w : World)
    (h1 : Sl Bf w ak nk ck k) (h2 : Sl Bf w av nv cv v) (h3 : Sl Bf w bk mk dk k') (h4 : Sl Bf w bv mv dv v') :
    Calls Tryz.prog 55 #[.agg #[.slice ak nk ck, .slice av nv cv], .agg #[.slice bk mk dk, .slice bv mv dv]] w fun e w' => e = .returned (.bool (decide (k = k') && decide (v = v'))) ∧ Below w.heap.size w w' := by
  have hb : Below w.heap.size w ((w.alloc (.cells #[.slice ak nk ck, .slice av nv cv] 51)).alloc (.cells #[.slice bk mk dk, .slice bv mv dv] 51)) := ((Below.refl _ _).alloc (Nat.le_refl _) _).alloc (by simp) _
  have r1 := run_str (P := Tryz.prog) (dst := 9) Tryz.underlying22 Tryz.underlying5 (by kernel_rfl) _ _ _ _ _ (h1.keep hb)
  have r2 := run_str (P := Tryz.prog) (dst := 9) Tryz.underlying22 Tryz.underlying5 (by kernel_rfl) _ _ _ _ _ (h2.keep hb)
  have r3 := run_str (P := Tryz.prog) (dst := 9) Tryz.underlying22 Tryz.underlying5 (by kernel_rfl) _ _ _ _ _ (h3.keep hb)
  have r4 := run_str (P := Tryz.prog) (dst := 9) Tryz.underlying22 Tryz.underlying5 (by kernel_rfl) _ _ _ _ _ (h4.keep hb)
  have HB := Lib.hid hb; clear hb h1 h2 h3 h4
  have e1 := strB_eq k k'
  have e2 := strB_eq v v'
  by_cases hk : k = k'
  · rw [decide_eq_true hk] at e1 ⊢
    have E2 := Lib.hid e2; clear e2 hk
    go_enter Tryz.func55, Tryz.ntmps55
    go_wp2_with fail
    go_ret
    exact ⟨ret_bool (by rw [Bool.true_and]; exact E2.out), HB.out⟩
  · rw [decide_eq_false hk] at e1 ⊢
    clear e2 hk
    go_enter Tryz.func55, Tryz.ntmps55
    go_wp2_with fail
    go_ret
    exact ⟨ret_bool (by simp), HB.out⟩
set_option maxRecDepth 100000 in
set_option maxHeartbeats 1000000 in
theorem sameAll_any (a : Option Addr) (n c : Nat) (a' : Option Addr) (n' c' : Nat) (es : List Ent) (es' : List Ent) (w : World) (hn : n ≤ 9223372036854775807) (hn' : n' ≤ 9223372036854775807)
    (h : Ents w a n c es) (h' : Ents w a' n' c' es') :
    Calls Tryz.prog 21 #[.slice a n c, .slice a' n' c'] w fun e w' => e = .returned (.bool (decide (es = es'))) ∧ Below w.heap.size w w' := by
  obtain rfl : n = es.length := h.1.symm
  obtain rfl : n' = es'.length := h'.1.symm
  have H := Lib.hid h; clear h
  have H' := Lib.hid h'; clear h'
  by_cases hl : es.length = es'.length
  · have f1 : ((es.length : Int) != (es'.length : Int)) = false := by rw [hl]; simp
    have f2 : (es.length != es'.length) = false := by rw [hl]; simp
    have hl2 : es'.length ≤ es.length := by omega
    have HL := Lib.hid hl; clear hl
    go_enter Tryz.func21, Tryz.ntmps21
    go_wp2_with fail
    go_loopw [5] (fun i wr => ∃ k : Nat, k ≤ es.length ∧ i = .int .i64 k ∧ es.take k = es'.take k ∧ Below w.heap.size w wr) (fun i _ => es.length - (intOf i).toNat)
    case atStart => exact ⟨0, Nat.zero_le _, rfl, by simp, Below.refl _ _⟩
    case round =>
      obtain ⟨k, hk, rfl, he, hb⟩ := hrel
      have HE := Lib.hid he; clear he
      have B := Lib.hid hb; clear hb
      by_cases hlt : k < es.length
      · obtain ⟨⟨kk, vv⟩, hx⟩ : ∃ e, es[k]? = some e := ⟨_, List.getElem?_eq_getElem hlt⟩
        obtain ⟨⟨kk', vv'⟩, hy⟩ : ∃ e, es'[k]? = some e := ⟨_, List.getElem?_eq_getElem (by have := HL.out; omega)⟩
        obtain ⟨b, o, ak, nk, ck, av, nv, cv, rfl, c0, c1, s0, s1⟩ := (H.out.keep B.out).2.2.2 k kk vv hx
        obtain ⟨b', o', ak', nk', ck', av', nv', cv', rfl, c0', c1', s0', s1'⟩ := (H'.out.keep B.out).2.2.2 k kk' vv' hy
        have hs := fun q => esame_any ak nk ck av nv cv ak' nk' ck' av' nv' cv' kk vv kk' vv' (wr.drewN q) s0 s1 s0' s1'
        have HS := Lib.hid hs; clear hs s0 s1 s0' s1'
        have HX := Lib.hid hx; clear hx
        have HY := Lib.hid hy; clear hy
        have hlt' : k < es'.length := by have := HL.out; omega
        have key : (kk, vv) = (kk', vv') ↔ es.take (k + 1) = es'.take (k + 1) := by
          rw [List.take_add_one, List.take_add_one, HX.out, HY.out, HE.out]; simp
        have KEY := Lib.hid key; clear key
        obtain ⟨r, hr⟩ : ∃ r, (decide (kk = kk') && decide (vv = vv')) = r := ⟨_, rfl⟩
        have hr2 : r = decide ((kk, vv) = (kk', vv')) := by rw [← hr]; simp [Bool.decide_and]
        rw [hr] at HS
        have HR := Lib.hid hr2; clear hr hr2
        go_upto_region 6 with (fail)
        go_region_with (go_at_call 55; refine (HS.out 1).mono ?_; rintro e w2 ⟨rfl, hb2⟩)
        all_goals
          have B2 := Lib.hid (B.out.drew.trans (hb2.mono (show w.heap.size ≤ _ from B.out.size))); clear hb2
          cases r with
          | true =>
            go_wp2_with fail
            go_roundw
            case rel => exact ⟨k + 1, by omega, by go_num, KEY.out.1 (of_decide_eq_true HR.out.symm), B2.out⟩
            case measure => simp [intOf]; omega
          | false =>
            go_wp2_with fail
            go_ret
            refine ⟨ret_bool ?_, B2.out⟩
            symm; rw [decide_eq_false_iff_not]
            intro e
            exact of_decide_eq_false HR.out.symm (KEY.out.2 (by rw [e]))
      · go_wp2_with fail
        go_ret
        refine ⟨ret_bool ?_, B.out⟩
        have e1 := HE.out; have e2 := HL.out
        rw [List.take_of_length_le (by omega), List.take_of_length_le (by omega)] at e1
        symm; rw [decide_eq_true_eq]; exact e1
  · have f1 : ((es.length : Int) != (es'.length : Int)) = true := by rw [bne_iff_ne]; omega
    have f2 : (es.length != es'.length) = true := by rw [bne_iff_ne]; omega
    go_enter Tryz.func21, Tryz.ntmps21
    go_wp2_with fail
    go_ret
    refine ⟨ret_bool ?_, Below.refl _ _⟩
    symm; rw [decide_eq_false_iff_not]
    intro e; exact hl (by rw [e])
end Go.Proofs.YtljcogimeimknaaGreat
/- A slice of texts in memory. No condition. -/
namespace Go.Proofs.YtljcogimeimknaaGreat
set_option linter.unusedVariables false
open Go.RowKit

/-- a slice of texts -/
def Rows2 (w : World) (a : Option Addr) (n c : Nat) (xss : List (List UInt8)) : Prop :=
  xss.length = n ∧ n ≤ c ∧ ∀ (i : Nat) (xs : List UInt8), xss[i]? = some xs → ∃ b o ax nx cx, a = some ⟨b, o, none⟩ ∧ w.cell? ⟨b, o + i, none⟩ = some (.slice ax nx cx) ∧ Sl Bf w ax nx cx xs
theorem Rows2.keep {w w' : World} {a : Option Addr} {n c : Nat} {xss : List (List UInt8)} (h : Rows2 w a n c xss) (hb : Below w.heap.size w w') : Rows2 w' a n c xss := by
  refine ⟨h.1, h.2.1, fun i xs hi => ?_⟩
  obtain ⟨b, o, ax, nx, cx, ha, hc, hs⟩ := h.2.2 i xs hi
  exact ⟨b, o, ax, nx, cx, ha, (World.cell?_of_block (a := ⟨b, _, none⟩) (hb.block b (cell_lt hc))).trans hc, hs.keep hb⟩
end Go.Proofs.YtljcogimeimknaaGreat
/- slices.Grow at nil, slices.Concat at texts: contracts. Conditions: the texts within reach. -/
namespace Go.Proofs.YtljcogimeimknaaGreat
set_option linter.unusedVariables false
open Go.RowKit

theorem zeroInfoB : (Tryz.prog.info? 5).map (fun i => (i.zero, i.size, i.bytes)) = some (some (.int .u8 0), 1, 1) := by kernel_rfl
theorem zeros_flat (n m : Nat) : (Builtin.zeroCells (Value.int .u8 0).cells n ++ Builtin.zeroCells (Value.int .u8 0).cells m : Array Value) = ((List.replicate (n + m) (0 : UInt8)).flatMap fB).toArray := by
  apply Array.ext'
  rw [Array.toList_append, zero_flat (f := fB) (x0 := (0 : UInt8)) (k := 1) rfl (by decide) rfl, zero_flat (f := fB) (x0 := (0 : UInt8)) (k := 1) rfl (by decide) rfl, ← List.flatMap_append, List.replicate_append_replicate]

set_option maxHeartbeats 400000 in
set_option maxRecDepth 100000 in
theorem grow_nil (n : Nat) (w : World) (hn : n ≤ 281474976710656) :
    Calls Tryz.prog 155 #[.slice none 0 0, .int .i64 n] w fun e w' => ∃ v, e = .returned v ∧ OwT fB w' w.heap.size 5 v [] ∧ Below w.heap.size w w' := by
  by_cases h0 : 0 < n
  · obtain ⟨i, hi1, hi2, hi3, hi4⟩ := info_parts zeroInfoB
    have hr := Lib.run_append_nil_zeros (P := Tryz.prog) w 22 3 22 5 i (.int .u8 0) .i64 .i64 Tryz.underlying22 Tryz.underlying3 hi1 hi2 n h0 (by omega) (by omega) (by rw [hi4]; omega)
    have hge := grownCap_ge w n 0 5
    have hcm : grownCap w n 0 5 ≤ maxLen := grownCap_le_maxLen w n 0 5 (by unfold maxLen; omega)
    obtain ⟨cp, hcp⟩ : ∃ cp, grownCap w n 0 5 = cp := ⟨_, rfl⟩
    rw [hcp] at hge hcm hr
    rw [zeros_flat, show n + (cp - n) = cp by omega] at hr
    have HR := Lib.hid hr; clear hr hcp
    have f1 : (n : Int) > 0 := by omega
    have hcut := fun W : World => run_cutto eltB W (some ⟨w.heap.size, 0, none⟩) n cp .i64 0 (Nat.zero_le _)
    have hcut0 := fun W : World => run_cutto eltB W none 0 0 .i64 0 (Nat.zero_le _)
    go_enter Tryz.func155, Tryz.ntmps155
    go_wp2_with (at_builtin; refine Lib.wpList_append_run _ rfl _ _ _ _ rfl _ _ rfl rfl _ _ HR.out ?_)
    go_ret
    refine ⟨_, rfl, .inr ⟨w.heap.size, cp, List.replicate cp 0, rfl, Nat.le_refl _, ?_, by simp, Nat.zero_le _, hcm, by simp⟩, (Below.refl w.heap.size w).drew.alloc (Nat.le_refl _) _⟩
    exact heap_new w.drew _
  · obtain rfl : n = 0 := by omega
    go_enter Tryz.func155, Tryz.ntmps155
    go_wp2_with fail
    go_ret
    exact ⟨_, rfl, OwT.nil _ _ _ _, Below.refl _ _⟩

theorem flat_next {xss : List (List UInt8)} {k : Nat} {xs : List UInt8} (h : xss[k]? = some xs) : (xss.take (k + 1)).flatten = (xss.take k).flatten ++ xs := by
  rw [List.take_add_one, h]; simp
theorem flat_le (xss : List (List UInt8)) (k : Nat) : (xss.take k).flatten.length ≤ xss.flatten.length := by
  conv => rhs; rw [← List.take_append_drop k xss]
  rw [List.flatten_append, List.length_append]; omega

set_option maxRecDepth 100000 in
set_option maxHeartbeats 1000000 in
theorem concat_any (a : Option Addr) (n c : Nat) (xss : List (List UInt8)) (w : World) (hn : n ≤ 9223372036854775807) (hm : xss.flatten.length ≤ 140737488355328) (h : Rows2 w a n c xss) :
    Calls Tryz.prog 115 #[.slice a n c] w fun e w' => ∃ v, e = .returned v ∧ OwT fB w' w.heap.size 5 v xss.flatten ∧ Below w.heap.size w w' := by
  obtain rfl : n = xss.length := h.1.symm
  have H := Lib.hid h; clear h
  obtain ⟨M, hM⟩ : ∃ M, xss.flatten.length = M := ⟨_, rfl⟩
  rw [hM] at hm
  have HM := Lib.hid hM; clear hM
  go_enter Tryz.func115, Tryz.ntmps115
  go_wp2_with fail
  go_loop [3, 11] (fun s i => ∃ k z : Nat, k ≤ xss.length ∧ i = .int .i64 k ∧ s = .int .i64 z ∧ (xss.take k).flatten.length = z) (fun _ i => xss.length - (intOf i).toNat)
  case atStart => exact ⟨0, 0, Nat.zero_le _, rfl, rfl, rfl⟩
  case round =>
    obtain ⟨k, z, hk, rfl, rfl, hz⟩ := hrel
    by_cases hlt : k < xss.length
    · obtain ⟨xs, hx⟩ : ∃ xs, xss[k]? = some xs := ⟨_, List.getElem?_eq_getElem hlt⟩
      obtain ⟨b, o, ax, nx, cx, rfl, hc, hs⟩ := H.out.2.2 k xs hx
      have hl := hs.len
      have hle := flat_le xss (k + 1)
      rw [flat_next hx, List.length_append, hz, hl, HM.out] at hle
      have hz2 : (xss.take (k + 1)).flatten.length = z + nx := by rw [flat_next hx, List.length_append, hz, hl]
      have HZ := Lib.hid hz2; clear hz2 hz hl hs hx
      go_wp2_with fail
      go_round
      case rel => exact ⟨k + 1, z + nx, by omega, by go_num, by go_num, HZ.out⟩
      case measure => simp [intOf]; omega
    · rw [List.take_of_length_le (by omega), HM.out] at hz
      obtain rfl : M = z := hz
      go_wp2_with fail
      refine (grow_nil M _ (by omega)).mono ?_
      rintro e w1 ⟨v1, rfl, ho, hb⟩
      have O := Lib.hid ho; clear ho
      have B := Lib.hid hb; clear hb
      go_wp2_with fail
      go_loopw [6, 27] (fun s i wr => ∃ k : Nat, k ≤ xss.length ∧ i = .int .i64 k ∧ OwT fB wr w.heap.size 5 s ((xss.take k).flatten) ∧ Below w.heap.size w wr) (fun _ i _ => xss.length - (intOf i).toNat)
      case atStart => exact ⟨0, Nat.zero_le _, rfl, O.out, B.out⟩
      case round =>
        obtain ⟨k, hk, rfl, ho, hb⟩ := hrel
        replace O := Lib.hid ho; clear ho
        replace B := Lib.hid hb; clear hb
        have hsz := B.out.size
        by_cases hlt : k < xss.length
        · obtain ⟨xs, hx⟩ : ∃ xs, xss[k]? = some xs := ⟨_, List.getElem?_eq_getElem hlt⟩
          obtain ⟨b, o, ax, nx, cx, rfl, hc, hs⟩ := (H.out.keep B.out).2.2 k xs hx
          have hl := hs.len
          have hle := flat_le xss (k + 1)
          rw [flat_next hx, List.length_append, hl, HM.out] at hle
          have HX := Lib.hid hx; clear hx hl
          have S := Lib.hid hs; clear hs
          go_wp2_with (at_builtin; refine wpList_appT eltTB rfl _ _ rfl w.heap.size _ ((xss.take k).flatten) (by rfl) O.out ax nx cx xs (by rfl) S.out.toT (by unfold maxLen; omega) (by omega) hsz _ rfl ?_; intro v5 w5 h5 hg5 hv5 hb5; have O5 := Lib.hid h5; have B5 := Lib.hid (B.out.trans hb5); clear h5 hg5 hv5 hb5)
          go_roundw
          case rel => exact ⟨k + 1, by omega, by go_num, by rw [flat_next HX.out]; exact O5.out, B5.out⟩
          case measure => simp [intOf]; omega
        · have HT := Lib.hid (show xss.take k = xss from List.take_of_length_le (by omega))
          go_wp2_with fail
          go_ret
          exact ⟨_, rfl, by have := O.out; rw [HT.out] at this; exact this, B.out⟩
end Go.Proofs.YtljcogimeimknaaGreat
