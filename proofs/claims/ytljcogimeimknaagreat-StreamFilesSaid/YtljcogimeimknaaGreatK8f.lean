/- Several texts in one: StmM, StmSp, StmFr, StmTl, StmYR, StmWM. Each has its own sentence and conditions below. -/
import Derived.Test.YtljcogimeimknaaGreatK8c
import Derived.Test.YtljcogimeimknaaGreatK8d
import Derived.Test.YtljcogimeimknaaGreatK8e
import Derived.Test.YtljcogimeimknaaGreatK8b
import Derived.Test.YtljcogimeimknaaGreatK8a
import Derived.IntWalk
import Derived.Lib.AppendStr
import Derived.Deep.LoopGhost
/- Streams of blocks: plain words: frames, rows, the tail, what a writer holds. No condition. -/
namespace Go.Proofs.YtljcogimeimknaaGreat
open Go.RowKit
set_option linter.unusedVariables false

/-- a frame -/
def frm (k : UInt8) (b : List UInt8) : List UInt8 := [k] ++ (vb b.length ++ (b ++ four (sum b)))
/-- the eight bytes of a place -/
def tl8 (p : Nat) : List UInt8 := (List.range 8).map fun i => UInt8.ofNat (p / 2 ^ (8 * i) % 256)
def tailB (p : Nat) : List UInt8 := tl8 p ++ [101, 110, 100, 46]
def headB : List UInt8 := [99, 111, 112, 112, 105, 99, 101, 1]
theorem tl8_len (p : Nat) : (tl8 p).length = 8 := by simp [tl8]
theorem tl8_at (p : Nat) {k : Nat} (h : k < 8) : (tl8 p)[k]? = some (UInt8.ofNat (p / 2 ^ (8 * k) % 256)) := by simp [tl8, h]
theorem tailB_len (p : Nat) : (tailB p).length = 12 := by simp [tailB, tl8_len]

/-- a block's frame -/
def blkf (l : List Ent) : List UInt8 := frm 66 (bld l)
def outL (L : List (List Ent)) : List UInt8 := L.flatMap blkf
def lastK (l : List Ent) : List UInt8 := (bst l).last
def rowsF (p : Nat) : List (List Ent) → List Row
  | [] => []
  | l :: r => (lastK l, (p : Int), ((blkf l).length : Int), (l.length : Int)) :: rowsF (p + (blkf l).length) r
def rowsL (L : List (List Ent)) : List Row := rowsF 8 L
def endL (L : List (List Ent)) : Nat := 8 + (outL L).length
def finB (L : List (List Ent)) : List UInt8 := frm 70 (fbs (rowsL L)) ++ tailB (endL L)

theorem outL_snoc (L : List (List Ent)) (l : List Ent) : outL (L ++ [l]) = outL L ++ blkf l := by simp [outL]
theorem rowsF_len : ∀ (L : List (List Ent)) (p : Nat), (rowsF p L).length = L.length
  | [], _ => rfl
  | _ :: r, p => by simp [rowsF, rowsF_len r]
theorem rowsL_len (L : List (List Ent)) : (rowsL L).length = L.length := rowsF_len L 8
theorem rowsF_snoc : ∀ (L : List (List Ent)) (p : Nat) (l : List Ent), rowsF p (L ++ [l]) = rowsF p L ++ [(lastK l, ((p + (outL L).length : Nat) : Int), ((blkf l).length : Int), (l.length : Int))]
  | [], p, l => by simp [rowsF, outL]
  | x :: r, p, l => by
    simp only [List.cons_append, rowsF, rowsF_snoc r]
    simp only [outL, List.flatMap_cons, List.length_append]
    rw [Nat.add_assoc]
theorem rowsL_snoc (L : List (List Ent)) (l : List Ent) : rowsL (L ++ [l]) = rowsL L ++ [(lastK l, (endL L : Int), ((blkf l).length : Int), (l.length : Int))] := rowsF_snoc L 8 l
/-- where the last row ends -/
theorem rowsL_end {L : List (List Ent)} {j : Nat} {k : List UInt8} {x y z : Int} (hj : L.length = j + 1) (h : (rowsL L)[j]? = some (k, x, y, z)) : x + y = (endL L : Int) := by
  obtain ⟨M, l, rfl⟩ : ∃ M l, L = M ++ [l] := ⟨L.dropLast, L.getLast (by intro e; subst e; simp at hj), (List.dropLast_concat_getLast _).symm⟩
  rw [rowsL_snoc] at h
  have hm : M.length = j := by simp at hj; exact hj
  rw [List.getElem?_append_right (by rw [rowsL_len]; omega), rowsL_len, hm, Nat.sub_self] at h
  simp at h
  obtain ⟨_, rfl, rfl, _⟩ := h
  unfold endL
  rw [outL_snoc, List.length_append]; push_cast; omega

theorem bld_le {l : List Ent} (h : l.length ≤ 64) (ho : Okay l) : (bld l).length ≤ 23000 := by
  by_cases h0 : l = []
  · subst h0; exact Nat.zero_le _
  · have hb := bst_le l ho
    rw [bld_some h0, vb_lt (show l.length < 128 by omega)]
    simp only [List.length_append, List.length_cons, List.length_nil]
    omega
theorem frm_len (k : UInt8) (b : List UInt8) : (frm k b).length = 5 + (vb b.length).length + b.length := by
  simp only [frm, List.length_append, List.length_cons, List.length_nil, four_length]; omega
theorem frm_le (k : UInt8) (b : List UInt8) (h : b.length < 18446744073709551616) : (frm k b).length ≤ b.length + 15 := by
  rw [frm_len]; have := vb_ten h; omega
theorem blkf_le {l : List Ent} (h : l.length ≤ 64) (ho : Okay l) : (blkf l).length ≤ 23015 := by
  have h1 := bld_le h ho
  have := frm_le 66 (bld l) (by omega)
  unfold blkf; omega
/-- blocks that may be -/
def OkL (L : List (List Ent)) : Prop := ∀ l, l ∈ L → (l.length ≤ 64 ∧ (srt l).2 = 0) ∧ l ≠ []
theorem OkL.snoc {L : List (List Ent)} (h : OkL L) {l : List Ent} (hl : l.length ≤ 64 ∧ (srt l).2 = 0) (h0 : l ≠ []) : OkL (L ++ [l]) := fun x hx => by
  rcases List.mem_append.1 hx with h1 | h1
  · exact h x h1
  · obtain rfl := List.mem_singleton.1 h1; exact ⟨hl, h0⟩
theorem OkL.take {L : List (List Ent)} (h : OkL L) (k : Nat) : OkL (L.take k) := fun x hx => h x (List.mem_of_mem_take hx)
theorem outL_le : ∀ {L : List (List Ent)}, OkL L → (outL L).length ≤ 23015 * L.length
  | [], _ => by simp [outL]
  | l :: r, h => by
    have h1 := h l (List.mem_cons_self)
    have h2 := outL_le (L := r) (fun x hx => h x (List.mem_cons_of_mem _ hx))
    have h3 := blkf_le h1.1.1 (srt_okay h1.1.2)
    simp only [outL, List.flatMap_cons, List.length_append, List.length_cons] at *
    omega
theorem fbs_le (rs : List Row) : (fbs rs).length ≤ 873000000 := by
  by_cases h : (fchk rs).2 = 0
  · rw [fbs_yes h]; exact fbytes_len h
  · rw [fbs_no h]; exact Nat.zero_le _
theorem finB_le (L : List (List Ent)) : (finB L).length ≤ 873000100 := by
  have h1 := fbs_le (rowsL L)
  have h2 := frm_le 70 (fbs (rowsL L)) (by omega)
  unfold finB
  rw [List.length_append, tailB_len]; omega

/-! ### a writer -/
structure WS where
  L : List (List Ent)
  now : List Ent
  last : List UInt8
  shut : Bool
  told : Nat
def WS0 : WS := ⟨[], [], [], false, 0⟩
def WS.whole (s : WS) : List UInt8 := headB ++ outL s.L ++ (if s.shut then finB s.L else [])
def WS.ready (s : WS) : List UInt8 := s.whole.drop s.told
def WS.cut (s : WS) : WS := if s.now = [] then s else { s with L := s.L ++ [s.now], now := [] }
def WS.put (s : WS) (e : Ent) : WS := { s with now := s.now ++ [e], last := e.1 }
def WS.add (m : Nat) (s : WS) (e : Ent) : Nat × WS :=
  if s.shut then (87, s) else if chk e ≠ 0 then (chk e, s) else if s.last ≠ [] ∧ 0 ≤ cmp s.last e.1 then (51, s)
  else if s.now = [] ∧ s.L.length = 8388608 then (71, s)
  else (0, if (s.put e).now.length = m then (s.put e).cut else s.put e)
def WS.close (s : WS) : WS := { s.cut with shut := true }
def WS.next (s : WS) : WS := { s with told := s.whole.length }

structure WS.Ok (m : Nat) (s : WS) : Prop where
  m1 : 1 ≤ m ∧ m ≤ 64
  l : OkL s.L
  n : s.now.length ≤ 64 ∧ (srt s.now).2 = 0
  nm : s.now.length < m
  many : s.L.length ≤ 8388608
  full : s.now ≠ [] → s.L.length < 8388608
  last : s.now ≠ [] → s.last = (bst s.now).last
  l64 : s.last.length ≤ 64
  told : s.told ≤ s.whole.length
  done : s.shut = true → s.now = []

theorem WS.whole_le {m : Nat} {s : WS} (h : s.Ok m) : s.whole.length ≤ 200000000000 := by
  have h1 := outL_le h.l
  have h2 := h.many
  have h3 := finB_le s.L
  unfold WS.whole
  split <;> simp only [List.length_append, headB, List.length_cons, List.length_nil] <;> omega
theorem WS.ready_le {m : Nat} {s : WS} (h : s.Ok m) : s.ready.length ≤ 200000000000 := by
  have := WS.whole_le h
  unfold WS.ready; rw [List.length_drop]; omega
theorem WS.Ok.zero {m : Nat} (h : 1 ≤ m ∧ m ≤ 64) : WS0.Ok m := ⟨h, fun l hl => by simp [WS0] at hl, ⟨Nat.zero_le _, rfl⟩, h.1, Nat.zero_le _, fun h => absurd rfl h, fun h => absurd rfl h, Nat.zero_le _, Nat.zero_le _, fun h => by simp [WS0] at h⟩
theorem WS.cut_nil {s : WS} (h : s.now = []) : s.cut = s := by unfold WS.cut; rw [if_pos h]
theorem WS.cut_some {s : WS} (h : s.now ≠ []) : s.cut = { s with L := s.L ++ [s.now], now := [] } := by unfold WS.cut; rw [if_neg h]
theorem WS.cut_shut (s : WS) : s.cut.shut = s.shut := by unfold WS.cut; split <;> rfl
theorem WS.cut_now (s : WS) : s.cut.now = [] := by unfold WS.cut; split <;> simp_all
theorem WS.whole_cut {s : WS} (h : s.now ≠ []) (hs : s.shut = false) : s.cut.whole = s.whole ++ blkf s.now := by
  rw [WS.cut_some h]; unfold WS.whole
  simp only [hs, outL_snoc]
  simp
theorem WS.ready_cut {m : Nat} {s : WS} (hk : s.told ≤ s.whole.length) (h : s.now ≠ []) (hs : s.shut = false) : s.cut.ready = s.ready ++ blkf s.now := by
  unfold WS.ready
  rw [WS.whole_cut h hs, show s.cut.told = s.told by unfold WS.cut; split <;> rfl, List.drop_append_of_le_length hk]
/-- an Ok state whose block may be full -/
structure WS.Ok' (m : Nat) (s : WS) : Prop where
  m1 : 1 ≤ m ∧ m ≤ 64
  l : OkL s.L
  n : s.now.length ≤ 64 ∧ (srt s.now).2 = 0
  many : s.L.length ≤ 8388608
  full : s.now ≠ [] → s.L.length < 8388608
  last : s.now ≠ [] → s.last = (bst s.now).last
  l64 : s.last.length ≤ 64
  told : s.told ≤ s.whole.length
  open' : s.shut = false
theorem WS.Ok.weak {m : Nat} {s : WS} (h : s.Ok m) (hs : s.shut = false) : s.Ok' m := ⟨h.m1, h.l, h.n, h.many, h.full, h.last, h.l64, h.told, hs⟩
theorem WS.Ok'.cut {m : Nat} {s : WS} (h : s.Ok' m) : s.cut.Ok m := by
  by_cases h0 : s.now = []
  · rw [WS.cut_nil h0]
    exact ⟨h.m1, h.l, h.n, by rw [h0]; have := h.m1.1; simp; omega, h.many, h.full, h.last, h.l64, h.told, fun _ => h0⟩
  · have ht : s.cut.told ≤ s.cut.whole.length := by
      rw [WS.whole_cut h0 h.open', List.length_append, show s.cut.told = s.told by unfold WS.cut; split <;> rfl]; have := h.told; omega
    rw [WS.cut_some h0] at ht ⊢
    exact ⟨h.m1, h.l.snoc h.n h0, ⟨Nat.zero_le _, rfl⟩, h.m1.1, by have := h.full h0; simp; omega, fun h => absurd rfl h, fun h => absurd rfl h, h.l64, ht, fun _ => rfl⟩
theorem srt_put {l : List Ent} {e : Ent} (h : (srt l).2 = 0) (h1 : chk e = 0) (h2 : ¬ (0 < l.length ∧ 0 ≤ cmp (bst l).last e.1)) : (srt (l ++ [e])).2 = 0 := by
  have main : ∀ (r : List Ent) (i : Nat) (p : List Ent), i = p.length → (srtFrom i (bst p).last r).2 = 0 → ¬ (0 < i + r.length ∧ 0 ≤ cmp (bst (p ++ r)).last e.1) → (srtFrom i (bst p).last (r ++ [e])).2 = 0 := by
    intro r
    induction r with
    | nil =>
      intro i p _ _ hc
      rw [List.append_nil] at hc
      rw [List.nil_append, srt_go (by omega) (by simpa using hc), srt_nil]
    | cons x r ih =>
      intro i p hi hs hc
      by_cases h1 : chk x ≠ 0
      · rw [srt_chk h1] at hs; exact absurd hs h1
      by_cases h2 : 0 < i ∧ 0 ≤ cmp (bst p).last x.1
      · rw [srt_cmp h1 h2] at hs; cases hs
      rw [srt_go h1 h2] at hs
      rw [List.cons_append, srt_go h1 h2]
      have hl : (bst (p ++ [x])).last = x.1 := by rw [bst_snoc]; rfl
      rw [← hl] at hs ⊢
      refine ih (i + 1) (p ++ [x]) (by rw [List.length_append, hi]; rfl) hs ?_
      rw [List.append_assoc]
      rw [List.length_cons] at hc
      rw [show i + 1 + r.length = i + (r.length + 1) by omega]
      exact hc
  exact main l 0 [] rfl h (by simpa using h2)
theorem WS.Ok.put {m : Nat} {s : WS} {e : Ent} (h : s.Ok m) (hs : s.shut = false) (hc : chk e = 0) (hl : ¬ (s.last ≠ [] ∧ 0 ≤ cmp s.last e.1)) (hf : ¬ (s.now = [] ∧ s.L.length = 8388608)) (hk : ∀ l, l = s.now → l ≠ [] → (bst l).last ≠ []) : (s.put e).Ok' m := by
  refine ⟨h.m1, h.l, ⟨?_, ?_⟩, h.many, fun _ => ?_, fun _ => ?_, (chk_zero hc).2.1, h.told, hs⟩
  · show (s.now ++ [e]).length ≤ 64
    have := h.nm; have := h.m1.2; simp; omega
  · refine srt_put h.n.2 hc fun ⟨h0, h1⟩ => hl ?_
    have hn : s.now ≠ [] := by intro e; rw [e] at h0; simp at h0
    rw [h.last hn]
    exact ⟨hk _ rfl hn, h1⟩
  · show s.L.length < 8388608
    by_cases h0 : s.now = []
    · have := h.many; have : s.L.length ≠ 8388608 := fun e => hf ⟨h0, e⟩; omega
    · exact h.full h0
  · show e.1 = (bst (s.now ++ [e])).last
    rw [bst_snoc]; rfl
theorem bst_last_ne {l : List Ent} (h : l ≠ []) (ho : Okay l) : (bst l).last ≠ [] := by
  obtain ⟨M, x, rfl⟩ : ∃ M x, l = M ++ [x] := ⟨l.dropLast, l.getLast h, (List.dropLast_concat_getLast _).symm⟩
  rw [bst_snoc]
  show x.1 ≠ []
  have := chk_zero (ho x (by simp))
  intro e; rw [e] at this; simp at this
theorem WS.Ok.put' {m : Nat} {s : WS} {e : Ent} (h : s.Ok m) (hs : s.shut = false) (hc : chk e = 0) (hl : ¬ (s.last ≠ [] ∧ 0 ≤ cmp s.last e.1)) (hf : ¬ (s.now = [] ∧ s.L.length = 8388608)) : (s.put e).Ok' m :=
  h.put hs hc hl hf fun l e h0 => bst_last_ne h0 (e ▸ srt_okay h.n.2)
theorem WS.Ok'.strong {m : Nat} {s : WS} (h : s.Ok' m) (hn : s.now.length ≠ m) (hm : s.now.length ≤ m) : s.Ok m :=
  ⟨h.m1, h.l, h.n, by omega, h.many, h.full, h.last, h.l64, h.told, fun e => by rw [h.open'] at e; cases e⟩
theorem WS.Ok.add {m : Nat} {s : WS} (h : s.Ok m) (e : Ent) : (s.add m e).2.Ok m := by
  unfold WS.add
  split
  · exact h
  split
  · exact h
  split
  · exact h
  split
  · exact h
  · rename_i h1 h2 h3 h4
    have hp := h.put' (by simpa using h1) (by simpa using h2) h3 h4
    dsimp only
    split
    · exact hp.cut
    · rename_i h5
      exact hp.strong h5 (by show (s.now ++ [e]).length ≤ m; have := h.nm; simp; omega)
theorem WS.Ok.cut {m : Nat} {s : WS} (h : s.Ok m) : s.cut.Ok m := by
  by_cases hs : s.shut = true
  · rw [WS.cut_nil (h.done hs)]; exact h
  · exact (h.weak (by simpa using hs)).cut
theorem WS.close_whole {s : WS} (hs : s.shut = false) : s.close.whole = s.cut.whole ++ finB s.cut.L := by
  unfold WS.close WS.whole
  rw [WS.cut_shut, hs]; simp
theorem WS.Ok.close {m : Nat} {s : WS} (h : s.Ok m) (hs : s.shut = false) : s.close.Ok m := by
  have hc := h.cut
  refine ⟨hc.m1, hc.l, hc.n, hc.nm, hc.many, hc.full, hc.last, hc.l64, ?_, fun _ => WS.cut_now s⟩
  rw [WS.close_whole hs, List.length_append]
  have := hc.told
  show s.cut.told ≤ _
  omega
theorem WS.close_ready {m : Nat} {s : WS} (h : s.Ok m) (hs : s.shut = false) : s.close.ready = s.cut.ready ++ finB s.cut.L := by
  unfold WS.ready
  rw [WS.close_whole hs]
  exact List.drop_append_of_le_length h.cut.told
theorem WS.Ok.next {m : Nat} {s : WS} (h : s.Ok m) : s.next.Ok m := ⟨h.m1, h.l, h.n, h.nm, h.many, h.full, h.last, h.l64, Nat.le_refl _, h.done⟩
theorem WS.next_ready (s : WS) : s.next.ready = [] := by
  show (WS.whole s).drop (WS.whole s).length = []
  exact List.drop_length
end Go.Proofs.YtljcogimeimknaaGreat
/- Rows of a stream in memory: where they end, copies of them: contracts. Conditions: the rows within reach. -/
namespace Go.Proofs.YtljcogimeimknaaGreat
open Go.RowKit
set_option linter.unusedVariables false

set_option maxRecDepth 100000 in
theorem send_any (a : Option Addr) (n c : Nat) (L : List (List Ent)) (w : World) (hn : L.length ≤ 8388608) (ho : OkL L) (h : Spans w a n c (rowsL L)) :
    Calls Tryz.prog 38 #[.slice a n c] w fun e w' => e = .returned (.int .i64 (endL L : Nat)) ∧ Below w.heap.size w w' := by
  obtain rfl : n = L.length := by rw [← rowsL_len]; exact h.1.symm
  cases hL : L.length with
  | zero =>
    have h0 : L = [] := List.eq_nil_of_length_eq_zero hL
    subst h0
    clear h
    go_enter Tryz.func38, Tryz.ntmps38
    go_wp2_with fail
    go_ret
    exact ⟨rfl, Below.refl _ _⟩
  | succ j =>
    rw [hL] at h
    obtain ⟨⟨l, x, y, z⟩, hl⟩ : ∃ r, (rowsL L)[j]? = some r := ⟨_, List.getElem?_eq_getElem (by rw [rowsL_len]; omega)⟩
    obtain ⟨b, o, al, nl, cl, rfl, c0, c1, c2, c3, s0⟩ := h.2.2.2 j l x y z hl
    have e1 : IntKind.i64.wrap ((j : Int) + 1 - 1) = (j : Int) := by rw [show (j : Int) + 1 - 1 = (j : Int) by omega]; exact IntWalk.i64_in _ (by omega)
    have t1 : ((j : Int) + 1 == 0) = false := by rw [beq_eq_false_iff_ne]; omega
    have t2 : ((((j + 1 : Nat) : Int)) == 0) = false := by rw [beq_eq_false_iff_ne]; omega
    have hp := rowsL_end hL hl
    have hle := outL_le ho
    obtain ⟨q, hq⟩ : ∃ q, endL L = q := ⟨_, rfl⟩
    have hq2 : q ≤ 1000000000000 := by rw [← hq]; unfold endL; omega
    rw [hq] at hp ⊢
    have e2 : IntKind.i64.wrap (x + y) = (q : Int) := by rw [hp]; exact IntWalk.i64_in _ (by omega)
    have hj : j + 1 ≤ 140737488351232 := by omega
    clear h hl s0 hp hle hq hL hn ho
    go_enter Tryz.func38, Tryz.ntmps38
    go_wp2_with fail
    go_ret
    exact ⟨rfl, (Below.refl _ _).alloc (Nat.le_refl _) _⟩

/-- rows in memory, as elements and as rows -/
def SpV (w : World) (a : Option Addr) (n c : Nat) (vs : List RV) (rs : List Row) : Prop :=
  SlT fR 4 w a n c vs ∧ vs.length = rs.length ∧ ∀ (i : Nat) (x : RV) (r : Row), vs[i]? = some x → rs[i]? = some r → x.2 = r.2 ∧ Sl Bf w x.1.1 x.1.2.1 x.1.2.2 r.1
theorem SpV.keep {w w' : World} {a : Option Addr} {n c : Nat} {vs : List RV} {rs : List Row} (h : SpV w a n c vs rs) (hb : Below w.heap.size w w') : SpV w' a n c vs rs :=
  ⟨h.1.keep fR_len (by decide) hb, h.2.1, fun i x r h1 h2 => ⟨(h.2.2 i x r h1 h2).1, (h.2.2 i x r h1 h2).2.keep hb⟩⟩
theorem SpV.spans {w : World} {a : Option Addr} {n c : Nat} {vs : List RV} {rs : List Row} (h : SpV w a n c vs rs) : Spans w a n c rs := by
  refine ⟨h.2.1 ▸ h.1.1, h.1.2.1, h.1.2.2.1, fun i k x y z hr => ?_⟩
  have hi : i < rs.length := (List.getElem?_eq_some_iff.1 hr).1
  obtain ⟨v, hv⟩ : ∃ v, vs[i]? = some v := ⟨_, List.getElem?_eq_getElem (by rw [h.2.1]; exact hi)⟩
  obtain ⟨e, hs⟩ := h.2.2 i v _ hv hr
  obtain ⟨b, o, ha, hc⟩ := h.1.2.2.2 i v hv
  obtain ⟨⟨ak, nk, ck⟩, X, Y, Z⟩ := v
  injection e with e1 e2
  injection e2 with e2 e3
  subst e1 e2 e3
  exact ⟨b, o, ak, nk, ck, ha, by simpa using hc 0 _ rfl, hc 1 _ rfl, hc 2 _ rfl, hc 3 _ rfl, hs⟩

theorem OwZ.none0 {α : Type} (f : α → List Value) (x0 : α) (w : World) (base : Nat) (e : TypeId) (hb : base ≤ w.heap.size) : OwZ f x0 (w.alloc (.cells #[] e)) base e (.slice (some ⟨w.heap.size, 0, none⟩) 0 0) ([] : List α) :=
  .inr ⟨w.heap.size, 0, rfl, hb, by rw [heap_new]; rfl, Nat.le_refl _, by decide⟩

set_option maxRecDepth 100000 in
theorem cloneR_any (a : Option Addr) (n c : Nat) (vs : List RV) (w : World) (hn : n ≤ 100000000) (h : SlT fR 4 w a n c vs) :
    Calls Tryz.prog 88 #[.slice a n c] w fun e w' => ∃ v, e = .returned v ∧ OwR w' w.heap.size v vs ∧ Below w.heap.size w w' := by
  obtain rfl : n = vs.length := h.1.symm
  have H := Lib.hid h
  cases a with
  | none =>
    have HZ := Lib.hid (show vs = [] by have h1 := h.2.2.1 rfl; have h2 := h.2.1; exact List.eq_nil_of_length_eq_zero (by omega))
    clear h
    have hnil := Lib.run_eql_slice_nil w 33 94 none vs.length c 0 0 Tryz.underlying33
    go_enter Tryz.func88, Tryz.ntmps88
    go_wp2_with fail
    go_ret
    exact ⟨_, rfl, by rw [HZ.out]; exact OwZ.nil _ _ _ _ _, Below.refl _ _⟩
  | some p =>
    clear h
    have hnil := Lib.run_eql_slice_nil w 33 94 (some p) vs.length c 0 0 Tryz.underlying33
    go_enter Tryz.func88, Tryz.ntmps88
    go_wp2_with (at_builtin; refine wpList_appZ eltTR zR_ok rfl _ _ rfl w.heap.size _ [] (by rfl) (OwZ.none0 fR zR w _ _ (Nat.le_refl _)) (some p) vs.length c vs (by rfl) (H.out.keep fR_len (by decide) ((Below.refl _ _).alloc (Nat.le_refl _) _)) (by unfold maxLen; simp; omega) (by simp; omega) (by simp) vs rfl ?_; intro v5 w5 h5 hg5 hv5 hb5)
    go_ret
    exact ⟨_, rfl, h5, ((Below.refl _ _).alloc (Nat.le_refl _) _).trans hb5⟩

theorem fR_set {vs : List RV} {k : Nat} {x : RV} (hx : vs[k]? = some x) (s : Option Addr × Nat × Nat) (tl : List Value) : ((vs.flatMap fR ++ tl).set (k * 4) (.slice s.1 s.2.1 s.2.2)) = (vs.set k (s, x.2)).flatMap fR ++ tl := by
  induction vs generalizing k with
  | nil => simp at hx
  | cons v r ih =>
    cases k with
    | zero => simp at hx; subst hx; simp [fR]
    | succ k =>
      simp only [List.getElem?_cons_succ] at hx
      simp only [List.set_cons_succ, List.flatMap_cons]
      rw [List.append_assoc, List.append_assoc, ← ih hx, List.set_append_right _ _ (by rw [fR_len]; omega), fR_len, show (k + 1) * 4 - 4 = k * 4 by omega]
theorem OwZ.setK {w : World} {base g n c k : Nat} {vs : List RV} {x : RV} (h : OwR w base (.slice (some ⟨g, 0, none⟩) n c) vs) (hx : vs[k]? = some x) (s : Option Addr × Nat × Nat) :
    OwR (w.setCell ⟨g, k * 4, none⟩ (.slice s.1 s.2.1 s.2.2)) base (.slice (some ⟨g, 0, none⟩) n c) (vs.set k (s, x.2)) := by
  rcases h with ⟨hv, rfl⟩ | ⟨g', cap, hv, hb, hh, hn, hc⟩
  · simp at hx
  · cases hv
    refine .inr ⟨g, c, by rw [List.length_set], hb, ?_, by rw [List.length_set]; exact hn, hc⟩
    rw [set_block hh]
    congr 2
    apply Array.ext'
    rw [Array.toList_setIfInBounds]
    simp only [List.flatMap_append, List.length_set]
    rw [fR_set hx]

set_option maxRecDepth 100000 in
set_option maxHeartbeats 1000000 in
theorem copied_any (a : Option Addr) (n c : Nat) (vs : List RV) (rs : List Row) (w : World) (hn : n ≤ 100000000) (hk : ∀ r, r ∈ rs → r.1.length ≤ 1000) (h : SpV w a n c vs rs) :
    Calls Tryz.prog 45 #[.slice a n c] w fun e w' => ∃ a2 c2 vs2, e = .returned (.slice a2 n c2) ∧ OwR w' w.heap.size (.slice a2 n c2) vs2 ∧ KTx w' w.heap.size w'.heap.size (.slice a2 n c2) vs2 rs ∧ Below w.heap.size w w' := by
  obtain rfl : n = vs.length := h.1.1.symm
  have H := Lib.hid h
  have HK := Lib.hid hk
  clear h hk
  go_enter Tryz.func45, Tryz.ntmps45
  go_wp2_with fail
  refine (cloneR_any a vs.length c vs w hn H.out.1).mono ?_
  rintro e w1 ⟨v1, rfl, ho1, hb1⟩
  have O1 := Lib.hid ho1
  have B1 := Lib.hid hb1
  obtain ⟨a2, n2, c2, rfl, hn2, hnc⟩ := ho1.t.slR
  clear ho1 hb1
  obtain ⟨m, hm⟩ : ∃ m, vs.length = m := ⟨_, rfl⟩
  have HM := Lib.hid hm
  obtain rfl : m = n2 := by omega
  rw [hm]
  rw [hm] at hn
  clear hn2 hm
  go_wp2_with fail
  go_loopw [9] (fun i wr => ∃ (k : Nat) (xs : List RV), k ≤ m ∧ i = .int .i64 (k : Nat) ∧ OwR wr w.heap.size (.slice a2 m c2) xs ∧ (xs.length = m ∧ (∀ i, k ≤ i → xs[i]? = vs[i]?) ∧
      ∀ (i : Nat) (x : RV) (r : Row), i < k → xs[i]? = some x → rs[i]? = some r → x.2 = r.2 ∧ OwT fB wr w.heap.size 5 (kV x) r.1 ∧ ∀ j, Value.ownBlock (.slice a2 m c2) = some j → Off (kV x) j) ∧ Below w.heap.size w wr) (fun i _ => m - (intOf i).toNat)
  case atStart => exact ⟨0, vs, Nat.zero_le _, rfl, O1.out, ⟨HM.out, fun _ _ => rfl, fun i x r hi _ _ => by omega⟩, B1.out⟩
  case round =>
    clear O1 B1
    obtain ⟨k, xs, hk, rfl, ho, hx, hb⟩ := hrel
    have O := Lib.hid ho
    have X := Lib.hid hx
    have BB := Lib.hid hb
    by_cases hlt : k < m
    · obtain ⟨x, hxk⟩ : ∃ x, vs[k]? = some x := ⟨_, List.getElem?_eq_getElem (by rw [HM.out]; exact hlt)⟩
      obtain ⟨r, hrk⟩ : ∃ r, rs[k]? = some r := ⟨_, List.getElem?_eq_getElem (by rw [← H.out.2.1, HM.out]; exact hlt)⟩
      obtain ⟨e2, s0⟩ := H.out.2.2 k x r hxk hrk
      have hxx : xs[k]? = some x := by rw [hx.2.1 k (Nat.le_refl _)]; exact hxk
      have S0 := Lib.hid (s0.keep hb)
      have hkl : r.1.length ≤ 1000 := HK.out r (List.mem_of_getElem? hrk)
      have hsl : x.1.2.1 ≤ 1000 := by rw [← s0.len]; exact hkl
      obtain ⟨g, rfl⟩ : ∃ g, a2 = some ⟨g, 0, none⟩ := by
        rcases ho with ⟨hv, rfl⟩ | ⟨g, cap, hv, _⟩
        · simp at hxx
        · injection hv with hv; exact ⟨g, hv⟩
      obtain ⟨hgl, hgw⟩ := ho.t.lt g rfl
      have hc0 : wr.cell? ⟨g, k * 4, none⟩ = some (kV x) := by
        obtain ⟨a', c', hv, hs⟩ := ho.t.sl fR_len
        injection hv with e1 e2 e3
        obtain ⟨b, o, hbo, hc⟩ := hs.2.2.2 k x hxx
        rw [← e1] at hbo
        cases hbo
        simpa using hc 0 _ rfl
      obtain ⟨⟨ak, nk, ck⟩, X2⟩ := x
      have c0 : wr.cell? ⟨g, k * 4, none⟩ = some (.slice ak nk ck) := hc0
      replace hsl : nk ≤ 1000 := hsl
      have XK := Lib.hid hxx
      have RK := Lib.hid hrk
      have E2 := Lib.hid e2
      clear ho hx hb hxk hrk s0 hxx hc0 e2 hkl
      go_wp2_with fail
      refine (clone_any ak nk ck r.1 wr (by omega) S0.out).mono ?_
      rintro e w3 ⟨v3, rfl, ho3, hb3⟩
      obtain ⟨a3, n3, c3, rfl, z3⟩ := ho3.slN
      have O3 := Lib.hid ho3
      have B3 := Lib.hid hb3
      have d0 : w3.cell? ⟨g, k * 4, none⟩ = some (.slice ak nk ck) := (World.cell?_of_block (hb3.block _ hgw)).trans c0
      have f0 : w3.frozen? ⟨g, k * 4, none⟩ = false := by
        have := (O.out.keep hb3)
        rcases this with ⟨hv, _⟩ | ⟨g', cap, hv, _, hh, _⟩
        · cases hv
        · cases hv; exact free_block hh _
      clear ho3 hb3 z3 c0
      go_wp2_with fail
      go_roundw
      case rel =>
        refine ⟨k + 1, xs.set k ((a3, n3, c3), X2), by omega, by go_num, (O.out.keep B3.out).setK XK.out (a3, n3, c3), ⟨by rw [List.length_set]; exact X.out.1, fun i hi => ?_, fun i y q hi hy hq => ?_⟩, ?_⟩
        · rw [List.getElem?_set_ne (by omega)]; exact X.out.2.1 i (by omega)
        · by_cases hik : i = k
          · subst hik
            rw [List.getElem?_set_self (by rw [X.out.1]; exact hlt)] at hy
            cases hy
            rw [RK.out] at hq; cases hq
            have hoff : Off (Value.slice a3 n3 c3) g := fun j hj e => by have := (O3.out.lt j hj).1; omega
            exact ⟨E2.out, (O3.out.of_block fun j hj => Below.heap_setCell _ _ _ _ (hoff j hj)).base BB.out.size, fun j hj => by cases hj; exact hoff⟩
          · rw [List.getElem?_set_ne (fun e => hik e.symm)] at hy
            obtain ⟨q1, q2, q3⟩ := X.out.2.2 i y q (by omega) hy hq
            exact ⟨q1, (q2.keep B3.out).of_block fun j hj => Below.heap_setCell _ _ _ _ (q3 g rfl j hj), q3⟩
        · exact (keep_trans BB.out B3.out).setCell (p := ⟨g, k * 4, none⟩) hgl _
      case measure => simp [intOf]; omega
    · obtain rfl : k = m := by omega
      clear ho hx hb
      go_wp2_with fail
      go_ret
      rw [HM.out]
      refine ⟨a2, c2, xs, rfl, O.out, ⟨by rw [X.out.1, ← HM.out]; exact H.out.2.1, fun i x r hx hr => ?_⟩, BB.out⟩
      obtain ⟨q1, q2, q3⟩ := X.out.2.2 i x r (by have := (List.getElem?_eq_some_iff.1 hx).1; rw [X.out.1] at this; exact this) hx hr
      exact ⟨q1, q2, fun j hj => q2.lt j hj, q3⟩
end Go.Proofs.YtljcogimeimknaaGreat
/- Frames and tails of a stream, the program's and the reference's: contracts. Conditions: the bytes within reach. -/
namespace Go.Proofs.YtljcogimeimknaaGreat
open Go.RowKit
set_option linter.unusedVariables false

theorem u64_n (n : Nat) (h : n < 18446744073709551616) : IntKind.u64.wrap (n : Int) = n := by rw [IntWalk.u64_in _ (by omega)]
theorem Sl.one (w : World) (k : UInt8) : Sl Bf (w.alloc (.cells #[.int .u8 (B k)] 5)) (some ⟨w.heap.size, 0, none⟩) 1 1 [k] := Sl.lit w 5 #[.int .u8 (B k)] [k] 1 rfl rfl

set_option maxRecDepth 100000 in
set_option maxHeartbeats 1000000 in
theorem sframe_any (k : UInt8) (ki : Int) (hk : ki = B k) (a : Option Addr) (n c : Nat) (b : List UInt8) (w : World) (hn : n ≤ 1000000000) (h : Sl Bf w a n c b) :
    Calls Tryz.prog 116 #[.int .u8 ki, .slice a n c] w fun e w' => ∃ v, e = .returned v ∧ OwT fB w' w.heap.size 5 v (frm k b) ∧ Below w.heap.size w w' := by
  subst hk
  obtain rfl : n = b.length := h.len.symm
  have H := Lib.hid (Stab.sl h)
  have VB := Lib.hid (fun W : World => vbytes_any b.length W (by omega))
  have e1 := u64_n b.length (by omega)
  have S1 := Lib.hid (Stab.sl (Sl.one w k))
  have FL := Lib.hid (show [[k], vb b.length, b ++ four (sum b)].flatten.length ≤ 140737488355328 by
    have := vb_ten (show b.length < 18446744073709551616 by omega)
    simp [four_length]; omega)
  have FE := Lib.hid (show [[k], vb b.length, b ++ four (sum b)].flatten = frm k b by simp [frm])
  have B0 := Lib.hid ((Below.refl w.heap.size w).alloc (Nat.le_refl _) (.cells #[.int .u8 (B k)] 5))
  clear h
  go_enter Tryz.func116, Tryz.ntmps116
  go_wp2_with (first
    | (go_at_call 153; refine (VB.out _).mono ?_; rintro e w1 ⟨x1, rfl, ho1, hb1⟩; obtain ⟨a3, n3, k3, rfl, z3⟩ := ho1.slN; have Z3 := Lib.hid (Stab.sl z3); have B1 := Lib.hid (keep_trans B0.out hb1); replace S1 := Lib.hid (S1.out.keep hb1); clear ho1 hb1 z3)
    | (go_at_call 156; refine (seal_any a b.length c b _ (by omega) (H.out.keep B1.out).now).mono ?_; rintro e w2 ⟨x2, rfl, ho2, hb2⟩; obtain ⟨a4, n4, k4, rfl, z4⟩ := ho2.slN; have B2 := Lib.hid (keep_trans B1.out hb2); have RR := Lib.hid (rows2_3 w2 _ _ _ _ _ _ _ _ _ _ _ _ (S1.out.keep hb2).now (Z3.out.keep hb2).now z4); clear ho2 hb2 z4)
    | (go_at_call 115; refine (concat_any _ 3 3 [[k], vb b.length, b ++ four (sum b)] _ (by omega) FL.out RR.out).mono ?_; rintro e w3 ⟨x3, rfl, ho3, hb3⟩; have O3 := Lib.hid ho3; have B3 := Lib.hid hb3; clear ho3 hb3))
  go_ret
  have hal := (Below.refl w2.heap.size w2).alloc (Nat.le_refl _) (.cells #[.slice (some ⟨w.heap.size, 0, none⟩) 1 1, .slice a3 n3 k3, .slice a4 n4 k4] 22)
  refine ⟨x3, rfl, ?_, keep_trans (keep_trans B2.out hal) B3.out⟩
  rw [← FE.out]
  exact O3.out.base (Nat.le_trans B2.out.size hal.size)

end Go.Proofs.YtljcogimeimknaaGreat
/- The head and the tail of a stream, the program's and the reference's: contracts. Conditions: the place fits. -/
namespace Go.Proofs.YtljcogimeimknaaGreat
open Go.RowKit
set_option linter.unusedVariables false

theorem shr8 (p k : Nat) (hk : k < 8) : (p : Int) / 2 ^ (8 * k) % 256 = B (UInt8.ofNat (p / 2 ^ (8 * k) % 256)) := by
  unfold B
  rw [UInt8.toNat_ofNat']
  have : ((p : Int) / 2 ^ (8 * k)) = ((p / 2 ^ (8 * k) : Nat) : Int) := by push_cast; rfl
  rw [this]; omega

theorem strCells_B (s : List UInt8) : Lib.strCells (strB s) = s.map Bf := by simp [Lib.strCells, strB, B]
theorem wpList_appS {ops : Array Oper} {rest : List Oper} {o : Oper} {a : Act} {Q : Exit → Act → World → Prop} {w : World} (hw : Region.wanted o (yielded ops a.tmps) = true) (s x : Operand)
    (ho : o.op = .call { callee := .builtin .append, args := #[s, x], argTypes := #[22, 9] }) (g n cap : Nat) (ys news : List UInt8) (hs : a.eval s = .slice (some ⟨g, 0, none⟩) n cap)
    (hh : w.heap[g]? = some (.cells (ys.map Bf).toArray 5 (0, 0))) (hl : ys.length = cap) (hx : a.eval x = .string (strB news)) (m : Nat) (hm : news.length = m) (hroom : n + m ≤ cap)
    (h : ∀ w', w'.heap[g]? = some (.cells ((ys.take n ++ news ++ ys.drop (n + m)).map Bf).toArray 5 (0, 0)) → w.grownBy w' (some g) → wpList Tryz.prog ops Q rest (a.put o.dst (.slice (some ⟨g, 0, none⟩) (n + m) cap)) w') : wpList Tryz.prog ops Q (o :: rest) a w := by
  have ht : Tryz.prog.underlying 22 = some (.slice 5) := Tryz.underlying22
  have hu : Tryz.prog.underlying 9 = some .string := by kernel_rfl
  have hi : (Tryz.prog.info? 5).map (fun i => (i.zero, i.size, i.bytes)) = some (some (.int .u8 0), 1, 1) := by kernel_rfl
  obtain ⟨i, hi1, hi2, hi3, hi4⟩ := info_parts hi
  have hsz : (strB news).size = m := by rw [← hm]; simp [strB, ByteArray.size]
  have hr := Lib.run_append_room_string (P := Tryz.prog) w 22 9 o.type 5 i ht hu hi1 hi3 g n cap _ hh (strB news) (by rw [hsz]; exact hroom) (by rw [hsz, List.size_toArray, List.length_map, hl]; exact hroom)
  rw [hsz, strCells_B] at hr
  refine wpList_w hw fun K hK => ?_
  unfold Oper.wp execOp
  simp only [ho, resolve, invoke, builtin, Sem.run_bind, Sem.run_pure, Result.andThen_ok, List.map_toArray, List.map_cons, List.map_nil, hs, hx, hr]
  refine hK _ _ (h _ ?_ ⟨rfl, rfl, rfl, by simp, fun k _ hk => setRow_other w g k _ (fun e => hk (by simp [e]))⟩)
  rw [setRow_heap w g _ _ _ _ hh]
  simp

theorem tl_set (p k : Nat) (hk : k < 8) : ((((tl8 p).take k ++ List.replicate (12 - k) (0 : UInt8)).map Bf).toArray.setIfInBounds k (.int .u8 (B (UInt8.ofNat (p / 2 ^ (8 * k) % 256))))) = (((tl8 p).take (k + 1) ++ List.replicate (12 - (k + 1)) (0 : UInt8)).map Bf).toArray := by
  apply Array.ext'
  have hl : ((tl8 p).take k).length = k := by rw [List.length_take, tl8_len]; omega
  rw [Array.toList_setIfInBounds]
  simp only
  rw [List.take_add_one, tl8_at p hk, show 12 - k = (12 - (k + 1)) + 1 by omega, List.replicate_succ, List.map_append, List.map_cons, List.set_append_right _ _ (by rw [List.length_map, hl]; exact Nat.le_refl _), List.length_map, hl, Nat.sub_self]
  simp
set_option maxRecDepth 100000 in
set_option maxHeartbeats 1000000 in
theorem stail_any (p : Nat) (w : World) (hp : p ≤ 1000000000000000) :
    Calls Tryz.prog 117 #[.int .i64 (p : Nat)] w fun e w' => ∃ v, e = .returned v ∧ OwT fB w' w.heap.size 5 v (tailB p) ∧ Below w.heap.size w w' := by
  have e1 : IntKind.u64.wrap (p : Int) = p := by rw [IntWalk.u64_in _ (by omega)]
  go_enter Tryz.func117, Tryz.ntmps117
  go_wp2_with (at_make; refine wpList_mkT eltTB rfl _ _ rfl w.heap.size 8 12 (by omega) rfl rfl rfl rfl (by omega) (by decide) (Nat.le_refl _) ?_; intro x0 w1 hh1 h1 hz hb1)
  obtain ⟨i, z, hi1, hi2, hi3⟩ := hz
  have hx0 : x0 = 0 := by
    have hi : (Tryz.prog.info? 5).map (fun i => (i.zero, i.size, i.bytes)) = some (some (.int .u8 0), 1, 1) := by kernel_rfl
    obtain ⟨j, hj1, hj2, hj3, hj4⟩ := info_parts hi
    rw [hi1] at hj1; cases hj1
    rw [hi2] at hj2; cases hj2
    have : (.int .u8 0 : Value) = Bf x0 := by simpa [Value.cells, fB] using hi3
    injection this with _ e
    exact B_inj (a := x0) (b := 0) (by rw [← e]; rfl)
  subst hx0
  rw [flat_fB] at hh1
  obtain ⟨g, hg⟩ : ∃ g, w.heap.size = g := ⟨_, rfl⟩
  have HG := Lib.hid hg
  rw [hg] at hh1 hb1 ⊢
  have H1 := Lib.hid hh1
  have B1 := Lib.hid hb1
  clear hh1 h1 hb1 hi1 hi2 hi3 hg
  go_loopw [8] (fun i wr => ∃ k : Nat, k ≤ 8 ∧ i = .int .i64 k ∧ wr.heap[g]? = some (.cells (((tl8 p).take k ++ List.replicate (12 - k) (0 : UInt8)).map Bf).toArray 5 (0, 0)) ∧ Below g w wr) (fun i _ => 8 - (intOf i).toNat)
  case atStart => exact ⟨0, Nat.zero_le _, rfl, by simpa using H1.out, B1.out⟩
  case round =>
    clear H1 B1
    obtain ⟨k, hk, rfl, hh, hb⟩ := hrel
    have H := Lib.hid hh
    have BB := Lib.hid hb
    by_cases hlt : k < 8
    · have e2 : IntKind.i64.wrap (8 * (k : Int)) = 8 * k := IntWalk.i64_in _ (by omega)
      have e3 := shr8 p k hlt
      have hks : k < (((tl8 p).take k ++ List.replicate (12 - k) (0 : UInt8)).map Bf).toArray.size := by simp [tl8_len]; omega
      obtain ⟨vv, hv⟩ : ∃ v, wr.cell? ⟨g, k, none⟩ = some v := ⟨_, cell_of hh k (Array.getElem?_eq_getElem hks)⟩
      have hf := free_block hh k
      have H2 := Lib.hid (set_block (i := k) hh (.int .u8 (B (UInt8.ofNat (p / 2 ^ (8 * k) % 256)))))
      have B2 := Lib.hid (hb.setCell (p := ⟨g, k, none⟩) (Nat.le_refl _) (.int .u8 (B (UInt8.ofNat (p / 2 ^ (8 * k) % 256)))))
      clear hh hb hks
      go_wp2_with fail
      go_roundw
      case rel => exact ⟨k + 1, by omega, by go_num, by rw [H2.out, tl_set p k hlt], B2.out⟩
      case measure => simp [intOf]; omega
    · obtain rfl : k = 8 := by omega
      clear hh hb
      have hl8 : ((tl8 p).take 8) = tl8 p := List.take_of_length_le (by rw [tl8_len]; exact Nat.le_refl _)
      have H' := Lib.hid H.out
      go_wp2_with (at_builtin; refine wpList_appS rfl _ _ rfl g 8 12 _ [101, 110, 100, 46] (by rfl) H'.out (by simp [tl8_len]) (by rfl) 4 rfl (by omega) ?_; intro w5 h5 hg5; have H5 := Lib.hid h5; have G5 := Lib.hid hg5; clear h5 hg5)
      go_ret
      have hsz : g ≤ wr.heap.size := Nat.le_of_lt (Array.getElem?_eq_some_iff.1 H.out).1
      rw [HG.out]
      refine ⟨.slice (some ⟨g, 0, none⟩) 12 12, rfl, .inr ⟨g, 12, tailB p, by rw [tailB_len], Nat.le_refl _, ?_, tailB_len p, by rw [tailB_len]; exact Nat.le_refl _, by decide, List.take_of_length_le (Nat.le_refl _)⟩, ?_⟩
      · rw [H5.out, flat_fB]
        congr 3
      · exact BB.out.grown G5.out hsz (fun k hk => by simp at hk; omega)

set_option maxRecDepth 100000 in
theorem rhead_any (w : World) : Calls Tryz.prog 40 #[] w fun e w' => ∃ v, e = .returned v ∧ OwT fB w' w.heap.size 5 v headB ∧ Below w.heap.size w w' := by
  go_enter Tryz.func40, Tryz.ntmps40
  go_wp2_with fail
  go_ret
  exact ⟨_, rfl, OwT.lit fB w _ _ _ headB 8 rfl rfl (Nat.le_refl _) (by decide), (Below.refl _ _).alloc (Nat.le_refl _) _⟩

set_option maxRecDepth 100000 in
set_option maxHeartbeats 1000000 in
theorem rtail_any (p : Nat) (w : World) (hp : p ≤ 1000000000000000) :
    Calls Tryz.prog 41 #[.int .i64 (p : Nat)] w fun e w' => ∃ v, e = .returned v ∧ OwT fB w' w.heap.size 5 v (tailB p) ∧ Below w.heap.size w w' := by
  have e1 : IntKind.u64.wrap (p : Int) = p := by rw [IntWalk.u64_in _ (by omega)]
  go_enter Tryz.func41, Tryz.ntmps41
  go_wp2_with fail
  go_loopw [3, 4] (fun u i wr => ∃ k : Nat, k ≤ 8 ∧ i = .int .i64 k ∧ OwT fB wr w.heap.size 5 u ((tl8 p).take k) ∧ Below w.heap.size w wr) (fun _ i _ => 8 - (intOf i).toNat)
  case atStart => exact ⟨0, Nat.zero_le _, rfl, OwT.nil _ _ _ _, Below.refl _ _⟩
  case round =>
    obtain ⟨k, hk, rfl, ho, hb⟩ := hrel
    have O := Lib.hid ho
    have BB := Lib.hid hb
    obtain ⟨a, n, c, rfl, z⟩ := ho.slN
    have hn : n = k := by have := z.len; rw [List.length_take, tl8_len] at this; omega
    subst hn
    clear ho hb z
    by_cases hlt : n < 8
    · have e2 : IntKind.i64.wrap (8 * (n : Int)) = 8 * n := IntWalk.i64_in _ (by omega)
      have e3 := shr8 p n hlt
      have hl : ((tl8 p).take n).length = n := by rw [List.length_take, tl8_len]; omega
      have HL := Lib.hid hl
      have HT := Lib.hid (show (tl8 p).take n ++ [UInt8.ofNat (p / 2 ^ (8 * n) % 256)] = (tl8 p).take (n + 1) by rw [List.take_add_one, tl8_at p hlt]; rfl)
      clear hl
      go_wp2_with (at_builtin; refine wpList_appT eltTB rfl (.tmp 9) (.tmp 16) rfl w.heap.size _ _ (by rfl) (O.out.alloc _) (some ⟨wr.heap.size, 0, none⟩) 1 1 [UInt8.ofNat (p / 2 ^ (8 * n) % 256)] (by rfl) (Sl.lit wr 5 #[.int .u8 (B (UInt8.ofNat (p / 2 ^ (8 * n) % 256)))] _ 1 rfl rfl).toT (by unfold maxLen; rw [HL.out]; omega) (by rw [HL.out]; omega) (by have := BB.out.size; simp; omega) _ HT.out ?_; intro v5 w5 h5 hg5 hv5 hb5; have O5 := Lib.hid h5; have B5 := Lib.hid ((BB.out.alloc BB.out.size (.cells #[.int .u8 (B (UInt8.ofNat (p / 2 ^ (8 * n) % 256)))] 5)).trans hb5); clear h5 hg5 hv5 hb5)
      go_roundw
      case rel => exact ⟨n + 1, by omega, by go_num, O5.out, B5.out⟩
      case measure => simp [intOf]; omega
    · obtain rfl : n = 8 := by omega
      have HL := Lib.hid (show ((tl8 p).take 8) = tl8 p from List.take_of_length_le (by rw [tl8_len]; exact Nat.le_refl _))
      have HM := Lib.hid (show ((tl8 p).take 8).length = 8 by rw [HL.out, tl8_len])
      go_wp2_with (at_builtin; refine wpList_appT eltTB rfl (.tmp 18) (.tmp 19) rfl w.heap.size _ _ (by rfl) (O.out.alloc _) (some ⟨wr.heap.size, 0, none⟩) 4 4 [101, 110, 100, 46] (by rfl) (Sl.lit wr 5 #[.int .u8 101, .int .u8 110, .int .u8 100, .int .u8 46] _ 4 rfl rfl).toT (by unfold maxLen; rw [HM.out]; omega) (by rw [HM.out]; omega) (by have := BB.out.size; simp; omega) _ rfl ?_; intro v5 w5 h5 hg5 hv5 hb5; have O5 := Lib.hid h5; have B5 := Lib.hid ((BB.out.alloc BB.out.size (.cells #[.int .u8 101, .int .u8 110, .int .u8 100, .int .u8 46] 5)).trans hb5); clear h5 hg5 hv5 hb5)
      go_ret
      refine ⟨v5, rfl, ?_, B5.out⟩
      have := O5.out
      rw [HL.out] at this
      exact this
end Go.Proofs.YtljcogimeimknaaGreat
/- A row of bytes that may be a constant's own row, and append onto it. Conditions: the sizes. -/
namespace Go.Proofs.YtljcogimeimknaaGreat
open Go.RowKit
set_option linter.unusedVariables false

/-- a row of the call's own, or a constant's bytes in a row just as long -/
def YR (w : World) (lo : Nat) (v : Value) (Y : List UInt8) : Prop :=
  OwT fB w lo 5 v Y ∨ ∃ b, v = .slice (some ⟨b, 0, none⟩) Y.length Y.length ∧ w.heap[b]? = some (.cells (Y.map Bf).toArray 5 (Y.length, Y.length + 1)) ∧ lo ≤ b
theorem YR.lt {w : World} {lo : Nat} {v : Value} {Y : List UInt8} (h : YR w lo v Y) : ∀ j, v.ownBlock = some j → lo ≤ j ∧ j < w.heap.size := by
  rcases h with h | ⟨b, rfl, hb, hl⟩
  · exact h.lt
  · intro j hj; simp [Value.ownBlock] at hj; subst hj; exact ⟨hl, (Array.getElem?_eq_some_iff.1 hb).1⟩
theorem YR.turns {S : Nat → Prop} {w w' : World} {lo : Nat} {v : Value} {Y : List UInt8} (h : YR w lo v Y) (ht : Turns S w w') (hs : ∀ j, v.ownBlock = some j → ¬ S j) : YR w' lo v Y := by
  rcases h with h | ⟨b, rfl, hb, hl⟩
  · exact .inl (h.turns ht hs)
  · exact .inr ⟨b, rfl, ht.heap hb (hs b rfl), hl⟩
theorem YR.slN {w : World} {lo : Nat} {v : Value} {Y : List UInt8} (h : YR w lo v Y) : ∃ a n c, v = .slice a n c ∧ Sl Bf w a n c Y := by
  rcases h with h | ⟨b, rfl, hb, hl⟩
  · exact h.slN
  · exact ⟨_, _, _, rfl, Sl.of_row Y _ _ hb rfl (Nat.le_refl _) (by simp [List.take_of_length_le])⟩

/-- append onto a row that is just as long as it is full, whatever its mark -/
theorem run_appK {α : Type} {f : α → List Value} {P : Program} {t e : TypeId} {k bytes : Nat} (E : EltT P t e f k bytes) (w : World) (ty : TypeId) (base g : Nat) (xs : List α) (fr : Nat × Nat) (hh : w.heap[g]? = some (.cells (xs.flatMap f).toArray e fr)) (aa : Option Addr) (m c : Nat) (news : List α)
    (hx : SlT f k w aa m c news) (hm : 0 < m) (h63 : xs.length + m ≤ maxLen) (hbytes : Fits (xs.length + m) bytes) (hbase : base ≤ w.heap.size) :
    ∃ v' w', (Builtin.append_ #[t, t] ty #[.slice (some ⟨g, 0, none⟩) xs.length xs.length, .slice aa m c]).run P w = .ok v' w' ∧ OwT f w' base e v' (xs ++ news) ∧ w.grownBy w' (some g) ∧ v'.ownBlock = some w.heap.size := by
  obtain ⟨ht, ⟨i, z, hi1, hi2, hi3, hi4, x0, hz⟩, hf, hk, h1⟩ := E
  subst hi3; subst hi4
  have hml : news.length = m := hx.1
  cases aa with
  | none =>
    have hc0 := hx.2.2.1 rfl
    have := hx.2.1
    omega
  | some q =>
    have hnews := hx.news hf hk
    have hlen : (news.flatMap f).length = m * i.size := by rw [flat_length hf, hml]
    have hsmall : xs.length + m ≤ 9223372036854775807 := by simp only [maxLen] at h63; omega
    have hge := grownCap_ge w (xs.length + m) xs.length e
    have hcm : grownCap w (xs.length + m) xs.length e ≤ maxLen := grownCap_le_maxLen w (xs.length + m) xs.length e h63
    have holds : ∀ j u, (xs.flatMap f)[j]? = some u → w.cell? ((⟨g, 0, none⟩ : Addr).add j) = some u := by
      intro j u hj
      have hadd : (⟨g, 0, none⟩ : Addr).add j = ⟨g, j, none⟩ := by unfold Addr.add; split <;> simp_all
      rw [hadd]
      simp only [World.cell?, hh]
      simpa using hj
    have hr := run_append_grow (P := P) w t ty e i z ht hi1 hi2 ⟨g, 0, none⟩ xs.length xs.length (xs.flatMap f) (flat_length hf xs) holds q m c (news.flatMap f) hlen hnews (by omega) (by omega) (hbytes _ (by omega))
    refine ⟨_, _, hr, .inr ⟨w.heap.size, _, xs ++ news ++ List.replicate (grownCap w (xs.length + m) xs.length e - (xs.length + m)) x0, by rw [List.length_append, hml], hbase, ?_, ?_, ?_, hcm, ?_⟩, ⟨rfl, rfl, rfl, by simp, fun j hj _ => Below.heap_alloc w.drew _ j hj⟩, rfl⟩
    · have : (w.drew.alloc (.cells ((xs.flatMap f).toArray ++ (news.flatMap f).toArray ++ Builtin.zeroCells z.cells (grownCap w (xs.length + m) xs.length e - (xs.length + m))) e)).heap[w.heap.size]? = _ := heap_new w.drew _
      rw [this]
      congr 2
      apply Array.ext'
      simp only [Array.toList_append, List.flatMap_append, zero_flat (hf x0) hk hz]
    · simp [hml]; omega
    · simp [hml]; omega
    · rw [List.append_assoc, ← List.append_assoc]; exact List.take_left
theorem run_appY (w : World) (ty : TypeId) (base : Nat) (v : Value) (xs : List UInt8) (hown : YR w base v xs) (aa : Option Addr) (m c : Nat) (news : List UInt8)
    (hx : Sl Bf w aa m c news) (hm : 0 < m) (h63 : xs.length + m ≤ maxLen) (hbytes : xs.length + m ≤ 140737488355328) (hbase : base ≤ w.heap.size) :
    ∃ v' w', (Builtin.append_ #[22, 22] ty #[v, .slice aa m c]).run Tryz.prog w = .ok v' w' ∧ OwT fB w' base 5 v' (xs ++ news) ∧ w.grownBy w' v.ownBlock ∧
      (v'.ownBlock = v.ownBlock ∨ v'.ownBlock = some w.heap.size) := by
  rcases hown with hown | ⟨b, rfl, hh, hl⟩
  · exact run_appG eltTB w ty base v xs hown aa m c news hx.toT h63 (.half (by omega)) hbase
  · rw [← flat_fB] at hh
    obtain ⟨v', w', h1, h2, h3, h4⟩ := run_appK eltTB w ty base b xs _ hh aa m c news hx.toT hm h63 (.half (by omega)) hbase
    exact ⟨v', w', h1, h2, h3, .inr h4⟩

theorem wpList_appY {ops : Array Oper} {rest : List Oper} {o : Oper} {a : Act} {Q : Exit → Act → World → Prop} {w : World} (hw : Region.wanted o (yielded ops a.tmps) = true) (s x : Operand)
    (ho : o.op = .call { callee := .builtin .append, args := #[s, x], argTypes := #[22, 22] }) (base : Nat) (v : Value) (xs : List UInt8) (hs : a.eval s = v) (hown : YR w base v xs)
    (aa : Option Addr) (m c : Nat) (news : List UInt8) (hx : a.eval x = .slice aa m c) (hsl : Sl Bf w aa m c news) (hm : 0 < m)
    (h63 : xs.length + m ≤ maxLen) (hbytes : xs.length + m ≤ 140737488355328) (hbase : base ≤ w.heap.size)
    (h : ∀ v' w', OwT fB w' base 5 v' (xs ++ news) → w.grownBy w' v.ownBlock → (v'.ownBlock = v.ownBlock ∨ v'.ownBlock = some w.heap.size) → wpList Tryz.prog ops Q rest (a.put o.dst v') w') : wpList Tryz.prog ops Q (o :: rest) a w := by
  refine wpList_w hw fun K hK => ?_
  obtain ⟨v', w', hr, h2, h3, h4⟩ := run_appY w o.type base v xs hown aa m c news hsl hm h63 hbytes hbase
  unfold Oper.wp execOp
  simp only [ho, resolve, invoke, builtin, Sem.run_bind, Sem.run_pure, Result.andThen_ok, List.map_toArray, List.map_cons, List.map_nil, hs, hx, hr]
  exact hK _ _ (h v' w' h2 h3 h4)
end Go.Proofs.YtljcogimeimknaaGreat
/- A writer of streams in memory. No condition. -/
namespace Go.Proofs.YtljcogimeimknaaGreat
open Go.RowKit
set_option linter.unusedVariables false

/-- who owns a block: new blocks from n to n' are k's -/
def whoR (who : Nat → Nat) (n n' k : Nat) : Nat → Nat := fun j => if j < n then who j else if j < n' then k else 0
theorem whoR_old {who : Nat → Nat} {n n' k j : Nat} (h : j < n) : whoR who n n' k j = who j := by unfold whoR; rw [if_pos h]
theorem whoR_new {who : Nat → Nat} {n n' k j : Nat} (h : n ≤ j) (h2 : j < n') : whoR who n n' k j = k := by unfold whoR; rw [if_neg (by omega), if_pos h2]
theorem whoR_ne {who : Nat → Nat} {lo n n' k j : Nat} (hw : ∀ j, who j ≠ 0 → lo ≤ j ∧ j < n) (hn : lo ≤ n) (hnn : n ≤ n') (h : whoR who n n' k j ≠ 0) : lo ≤ j ∧ j < n' := by
  unfold whoR at h
  split at h
  · have := hw j h; omega
  · split at h
    · omega
    · exact absurd rfl h
/-- what an owner's doing leaves: all but its own lies as it lay; the owners stay -/
structure Gr (w w' : World) (who who' : Nat → Nat) : Prop where
  t : Turns (fun j => who j ≠ 0) w w'
  o : ∀ j, j < w.heap.size → who' j = who j
theorem Gr.refl (w : World) (who : Nat → Nat) : Gr w w who who := ⟨Turns.refl _ _, fun _ _ => rfl⟩
theorem Gr.trans {w w1 w2 : World} {who who1 who2 : Nat → Nat} (h : Gr w w1 who who1) (k : Gr w1 w2 who1 who2) : Gr w w2 who who2 :=
  ⟨h.t.trans k.t fun j hj e => by rw [h.o j hj] at e; exact e, fun j hj => (k.o j (Nat.lt_of_lt_of_le hj h.t.size)).trans (h.o j hj)⟩
theorem Gr.below {w w' : World} {who : Nat → Nat} (h : Below w.heap.size w w') : Gr w w' who who := ⟨.of_below h, fun _ _ => rfl⟩

structure Wr (w : World) (lo g gb : Nat) (v : Nat → Value) (lv rv yv : Value) (vs : List RV) (m : Nat) (now : List Ent) (last : List UInt8) (rs : List Row) (shut : Bool) (Y : List UInt8) (who : Nat → Nat) : Prop where
  low : ∀ j, who j ≠ 0 → lo ≤ j ∧ j < w.heap.size
  lw : lo ≤ w.heap.size
  blk : w.heap[g]? = some (.cells #[.int .i64 (m : Nat), .pointer (some ⟨gb, 0, none⟩), lv, rv, .bool shut, yv] 187 (0, 0))
  gw : who g = 1
  bl : Bl w lo gb v now
  bw : ∀ j, BlS gb v j → who j = 2
  ls : (last = [] ∧ lv = .slice none 0 0) ∨ (last ≠ [] ∧ ∃ b o c, lv = .slice (some ⟨b, o, none⟩) last.length c ∧ Sl Bf w (some ⟨b, o, none⟩) last.length c last ∧ who b = 5)
  rw : OwT fR w lo 94 rv vs
  rb : ∀ j, rv.ownBlock = some j → who j = 3
  rl : vs.length = rs.length
  rk : ∀ (i : Nat) (x : RV) (r : Row), vs[i]? = some x → rs[i]? = some r → x.2 = r.2 ∧ ∃ b o c, x.1 = (some ⟨b, o, none⟩, r.1.length, c) ∧ Sl Bf w (some ⟨b, o, none⟩) r.1.length c r.1 ∧ who b = 5
  yr : YR w lo yv Y
  yb : ∀ j, yv.ownBlock = some j → who j = 4

section
variable {w w' w1 : World} {lo g gb m : Nat} {v : Nat → Value} {lv rv yv : Value} {vs : List RV} {now : List Ent} {last : List UInt8} {rs : List Row} {shut : Bool} {Y : List UInt8} {who : Nat → Nat}

theorem Wr.turn {S : Nat → Prop} (h : Wr w lo g gb v lv rv yv vs m now last rs shut Y who) (ht : Turns S w w') (hS : ∀ j, S j → who j = 0) : Wr w' lo g gb v lv rv yv vs m now last rs shut Y who := by
  have hn : ∀ j k, who j = k → k ≠ 0 → ¬ S j := fun j k e hk hs => hk (e ▸ hS j hs)
  refine ⟨fun j hj => ⟨(h.low j hj).1, Nat.lt_of_lt_of_le (h.low j hj).2 ht.size⟩, Nat.le_trans h.lw ht.size, ht.heap h.blk (hn g 1 h.gw (by decide)), h.gw, h.bl.turns ht (fun j hj => hn j 2 (h.bw j hj) (by decide)), h.bw, ?_, h.rw.turns ht (fun j hj => hn j 3 (h.rb j hj) (by decide)), h.rb, h.rl, ?_, h.yr.turns ht (fun j hj => hn j 4 (h.yb j hj) (by decide)), h.yb⟩
  · rcases h.ls with e | ⟨e, b, o, c, e1, e2, e3⟩
    · exact .inl e
    · exact .inr ⟨e, b, o, c, e1, e2.turns ht (fun b' o' hb _ => by cases hb; exact hn b 5 e3 (by decide)), e3⟩
  · intro i x r hx hr
    obtain ⟨e, b, o, c, e1, e2, e3⟩ := h.rk i x r hx hr
    exact ⟨e, b, o, c, e1, e2.turns ht (fun b' o' hb _ => by cases hb; exact hn b 5 e3 (by decide)), e3⟩
theorem Wr.keep (h : Wr w lo g gb v lv rv yv vs m now last rs shut Y who) (hb : Below w.heap.size w w') : Wr w' lo g gb v lv rv yv vs m now last rs shut Y who :=
  h.turn (S := fun _ => False) (.of_below hb) (fun _ e => e.elim)
theorem Wr.drewN (h : Wr w lo g gb v lv rv yv vs m now last rs shut Y who) (k : Nat) : Wr (w.drewN k) lo g gb v lv rv yv vs m now last rs shut Y who := h.keep (keep_drewN (Below.refl _ _) k)
theorem Wr.c0 (h : Wr w lo g gb v lv rv yv vs m now last rs shut Y who) : w.cell? ⟨g, 0, none⟩ = some (.int .i64 (m : Nat)) := cell_of h.blk 0 rfl
theorem Wr.c1 (h : Wr w lo g gb v lv rv yv vs m now last rs shut Y who) : w.cell? ⟨g, 1, none⟩ = some (.pointer (some ⟨gb, 0, none⟩)) := cell_of h.blk 1 rfl
theorem Wr.c2 (h : Wr w lo g gb v lv rv yv vs m now last rs shut Y who) : w.cell? ⟨g, 2, none⟩ = some (lv) := cell_of h.blk 2 rfl
theorem Wr.c3 (h : Wr w lo g gb v lv rv yv vs m now last rs shut Y who) : w.cell? ⟨g, 3, none⟩ = some (rv) := cell_of h.blk 3 rfl
theorem Wr.c4 (h : Wr w lo g gb v lv rv yv vs m now last rs shut Y who) : w.cell? ⟨g, 4, none⟩ = some (.bool shut) := cell_of h.blk 4 rfl
theorem Wr.c5 (h : Wr w lo g gb v lv rv yv vs m now last rs shut Y who) : w.cell? ⟨g, 5, none⟩ = some (yv) := cell_of h.blk 5 rfl
theorem Wr.free (h : Wr w lo g gb v lv rv yv vs m now last rs shut Y who) (i : Nat) : w.frozen? ⟨g, i, none⟩ = false := free_block h.blk i
theorem Wr.lt (h : Wr w lo g gb v lv rv yv vs m now last rs shut Y who) : g < w.heap.size := (h.low g (by rw [h.gw]; decide)).2
theorem Wr.spv (h : Wr w lo g gb v lv rv yv vs m now last rs shut Y who) : ∃ a n c, rv = .slice a n c ∧ SpV w a n c vs rs := by
  obtain ⟨a, c, e, hs⟩ := h.rw.sl fR_len
  refine ⟨a, _, c, e, hs, h.rl, fun i x r hx hr => ?_⟩
  obtain ⟨e1, b, o, c2, e2, e3, _⟩ := h.rk i x r hx hr
  exact ⟨e1, by rw [e2]; exact e3⟩

theorem Wr.newB (h : Wr w lo g gb v lv rv yv vs m now last rs shut Y who) {v' : Nat → Value} {now' : List Ent} (ht : Turns (BlS gb v) w w') (hb : Bl w' lo gb v' now') (hs : ∀ j, BlS gb v' j → BlS gb v j ∨ w.heap.size ≤ j) :
    ∃ who', Wr w' lo g gb v' lv rv yv vs m now' last rs shut Y who' ∧ Gr w w' who who' := by
  have hn : ∀ j k, who j = k → k ≠ 2 → ¬ BlS gb v j := fun j k e hk hs => hk (e ▸ h.bw j hs)
  have old : ∀ j, j < w.heap.size → whoR who w.heap.size w'.heap.size 2 j = who j := fun j hj => whoR_old hj
  have lt : ∀ j k, who j = k → k ≠ 0 → j < w.heap.size := fun j k e hk => (h.low j (by omega)).2
  refine ⟨whoR who w.heap.size w'.heap.size 2, ⟨fun j hj => whoR_ne h.low h.lw ht.size hj, Nat.le_trans h.lw ht.size, ht.heap h.blk (hn g 1 h.gw (by decide)), by rw [old g h.lt]; exact h.gw, hb, fun j hj => ?_, ?_, h.rw.turns ht (fun j hj => hn j 3 (h.rb j hj) (by decide)), fun j hj => by rw [old j (lt j 3 (h.rb j hj) (by decide))]; exact h.rb j hj, h.rl, ?_, h.yr.turns ht (fun j hj => hn j 4 (h.yb j hj) (by decide)), fun j hj => by rw [old j (lt j 4 (h.yb j hj) (by decide))]; exact h.yb j hj⟩, ⟨ht.mono fun j _ e => by rw [h.bw j e]; decide, old⟩⟩
  · rcases hs j hj with e | e
    · rw [old j (lt j 2 (h.bw j e) (by decide))]; exact h.bw j e
    · exact whoR_new e (hb.inS j hj).2
  · rcases h.ls with e | ⟨e, b, o, c, e1, e2, e3⟩
    · exact .inl e
    · exact .inr ⟨e, b, o, c, e1, e2.turns ht (fun b' o' hb _ => by cases hb; exact hn b 5 e3 (by decide)), by rw [old b (lt b 5 e3 (by decide))]; exact e3⟩
  · intro i x r hx hr
    obtain ⟨e, b, o, c, e1, e2, e3⟩ := h.rk i x r hx hr
    exact ⟨e, b, o, c, e1, e2.turns ht (fun b' o' hb _ => by cases hb; exact hn b 5 e3 (by decide)), by rw [old b (lt b 5 e3 (by decide))]; exact e3⟩

/-- a cell of the writer's block is written: what is not in that block stays -/
theorem Wr.sets (h : Wr w lo g gb v lv rv yv vs m now last rs shut Y who) (i : Nat) (x : Value) : Turns (fun j => j = g) w (w.setCell ⟨g, i, none⟩ x) := Turns.set (S := fun j => j = g) w rfl x

/-- another last key -/
theorem Wr.setL (h : Wr w lo g gb v lv rv yv vs m now last rs shut Y who) (hb : Below w.heap.size w w1) {b o c : Nat} {k : List UInt8} (hk : k ≠ []) (hs : Sl Bf w1 (some ⟨b, o, none⟩) k.length c k) (hbl : w.heap.size ≤ b) :
    ∃ who', Wr (w1.setCell ⟨g, 2, none⟩ (.slice (some ⟨b, o, none⟩) k.length c)) lo g gb v (.slice (some ⟨b, o, none⟩) k.length c) rv yv vs m now k rs shut Y who' ∧ Gr w (w1.setCell ⟨g, 2, none⟩ (.slice (some ⟨b, o, none⟩) k.length c)) who who' := by
  have h1 := h.keep hb
  have ht := h1.sets 2 (.slice (some ⟨b, o, none⟩) k.length c)
  have hn : ∀ j k, who j = k → k ≠ 1 → ¬ j = g := fun j k e hk hg => hk (by rw [← e, hg, h.gw])
  have old : ∀ j, j < w.heap.size → whoR who w.heap.size w1.heap.size 5 j = who j := fun j hj => whoR_old hj
  have lt : ∀ j k, who j = k → k ≠ 0 → j < w.heap.size := fun j k e hk => (h.low j (by omega)).2
  have hbw : b < w1.heap.size := hs.blt (by cases k with | nil => exact absurd rfl hk | cons a r => simp)
  have hbg : b ≠ g := fun e => by have := h.lt; omega
  refine ⟨whoR who w.heap.size w1.heap.size 5, ⟨fun j hj => by simpa using whoR_ne h.low h.lw hb.size hj, by simpa using h1.lw, set_block h1.blk _, by rw [old g h.lt]; exact h.gw, h1.bl.turns ht (fun j hj => hn j 2 (h.bw j hj) (by decide)), fun j hj => by rw [old j (lt j 2 (h.bw j hj) (by decide))]; exact h.bw j hj, .inr ⟨hk, b, o, c, rfl, hs.turns ht (fun b' o' e _ => by cases e; exact hbg), whoR_new hbl hbw⟩, h1.rw.turns ht (fun j hj => hn j 3 (h.rb j hj) (by decide)), fun j hj => by rw [old j (lt j 3 (h.rb j hj) (by decide))]; exact h.rb j hj, h.rl, ?_, h1.yr.turns ht (fun j hj => hn j 4 (h.yb j hj) (by decide)), fun j hj => by rw [old j (lt j 4 (h.yb j hj) (by decide))]; exact h.yb j hj⟩, ⟨((Turns.of_below hb).trans ht fun j _ e => by rw [e, h.gw]; decide), old⟩⟩
  intro i x r hx hr
  obtain ⟨e, b, o, c, e1, e2, e3⟩ := h1.rk i x r hx hr
  exact ⟨e, b, o, c, e1, e2.turns ht (fun b' o' hb _ => by cases hb; exact hn b 5 e3 (by decide)), by rw [old b (lt b 5 e3 (by decide))]; exact e3⟩

/-- other bytes that wait -/
theorem Wr.setY (h : Wr w lo g gb v lv rv yv vs m now last rs shut Y who) (ht1 : Turns (fun j => yv.ownBlock = some j) w w1) {x : Value} {Y' : List UInt8} (ho : YR w1 lo x Y') (hx : ∀ j, x.ownBlock = some j → yv.ownBlock = some j ∨ w.heap.size ≤ j) :
    ∃ who', Wr (w1.setCell ⟨g, 5, none⟩ x) lo g gb v lv rv x vs m now last rs shut Y' who' ∧ Gr w (w1.setCell ⟨g, 5, none⟩ x) who who' := by
  have h4 : ∀ j k, who j = k → k ≠ 4 → ¬ (yv.ownBlock = some j) := fun j k e hk hs => hk (e ▸ h.yb j hs)
  have hn : ∀ j k, who j = k → k ≠ 1 → ¬ j = g := fun j k e hk hg => hk (by rw [← e, hg, h.gw])
  have ht := Turns.set (S := fun j => j = g) w1 (i := 5) rfl x
  have old : ∀ j, j < w.heap.size → whoR who w.heap.size w1.heap.size 4 j = who j := fun j hj => whoR_old hj
  have lt : ∀ j k, who j = k → k ≠ 0 → j < w.heap.size := fun j k e hk => (h.low j (by omega)).2
  have hlt : ∀ j, x.ownBlock = some j → j < w1.heap.size := fun j hj => (ho.lt j hj).2
  have hxg : ∀ j, x.ownBlock = some j → ¬ j = g := fun j hj e => by
    rcases hx j hj with e1 | e1
    · exact hn j 4 (h.yb j e1) (by decide) e
    · have := h.lt; omega
  refine ⟨whoR who w.heap.size w1.heap.size 4, ⟨fun j hj => by simpa using whoR_ne h.low h.lw ht1.size hj, by simpa using Nat.le_trans h.lw ht1.size, set_block (ht1.heap h.blk (h4 g 1 h.gw (by decide))) _, by rw [old g h.lt]; exact h.gw, (h.bl.turns ht1 (fun j hj => h4 j 2 (h.bw j hj) (by decide))).turns ht (fun j hj => hn j 2 (h.bw j hj) (by decide)), fun j hj => by rw [old j (lt j 2 (h.bw j hj) (by decide))]; exact h.bw j hj, ?_, (h.rw.turns ht1 (fun j hj => h4 j 3 (h.rb j hj) (by decide))).turns ht (fun j hj => hn j 3 (h.rb j hj) (by decide)), fun j hj => by rw [old j (lt j 3 (h.rb j hj) (by decide))]; exact h.rb j hj, h.rl, ?_, ho.turns ht hxg, fun j hj => ?_⟩, ⟨(ht1.mono fun j _ e => by rw [h.yb j e]; decide).trans ht fun j _ e => by rw [e, h.gw]; decide, old⟩⟩
  · rcases h.ls with e | ⟨e, b, o, c, e1, e2, e3⟩
    · exact .inl e
    · exact .inr ⟨e, b, o, c, e1, (e2.turns ht1 (fun b' o' hb _ => by cases hb; exact h4 b 5 e3 (by decide))).turns ht (fun b' o' hb _ => by cases hb; exact hn b 5 e3 (by decide)), by rw [old b (lt b 5 e3 (by decide))]; exact e3⟩
  · intro i x r hx hr
    obtain ⟨e, b, o, c, e1, e2, e3⟩ := h.rk i x r hx hr
    exact ⟨e, b, o, c, e1, (e2.turns ht1 (fun b' o' hb _ => by cases hb; exact h4 b 5 e3 (by decide))).turns ht (fun b' o' hb _ => by cases hb; exact hn b 5 e3 (by decide)), by rw [old b (lt b 5 e3 (by decide))]; exact e3⟩
  · rcases hx j hj with e | e
    · rw [old j (lt j 4 (h.yb j e) (by decide))]; exact h.yb j e
    · exact whoR_new e (hlt j hj)

/-- one more row, whose key is the last one -/
theorem Wr.setR (h : Wr w lo g gb v lv rv yv vs m now last rs shut Y who) (ht1 : Turns (fun j => rv.ownBlock = some j) w w1) {x : Value} {a : Option Addr} {n c : Nat} {y : Int × Int × Int} (hl : last ≠ []) (hlv : lv = .slice a n c) (ho : OwT fR w1 lo 94 x (vs ++ [((a, n, c), y)])) (hx : ∀ j, x.ownBlock = some j → rv.ownBlock = some j ∨ w.heap.size ≤ j) :
    ∃ who', Wr (w1.setCell ⟨g, 3, none⟩ x) lo g gb v lv x yv (vs ++ [((a, n, c), y)]) m now last (rs ++ [(last, y)]) shut Y who' ∧ Gr w (w1.setCell ⟨g, 3, none⟩ x) who who' := by
  have h4 : ∀ j k, who j = k → k ≠ 3 → ¬ (rv.ownBlock = some j) := fun j k e hk hs => hk (e ▸ h.rb j hs)
  have hn : ∀ j k, who j = k → k ≠ 1 → ¬ j = g := fun j k e hk hg => hk (by rw [← e, hg, h.gw])
  have ht := Turns.set (S := fun j => j = g) w1 (i := 3) rfl x
  have old : ∀ j, j < w.heap.size → whoR who w.heap.size w1.heap.size 3 j = who j := fun j hj => whoR_old hj
  have lt : ∀ j k, who j = k → k ≠ 0 → j < w.heap.size := fun j k e hk => (h.low j (by omega)).2
  have hlt : ∀ j, x.ownBlock = some j → j < w1.heap.size := fun j hj => (ho.lt j hj).2
  have hxg : ∀ j, x.ownBlock = some j → ¬ j = g := fun j hj e => by
    rcases hx j hj with e1 | e1
    · exact hn j 3 (h.rb j e1) (by decide) e
    · have := h.lt; omega
  have hls : ∃ b o, a = some ⟨b, o, none⟩ ∧ n = last.length ∧ Sl Bf w (some ⟨b, o, none⟩) last.length c last ∧ who b = 5 := by
    rcases h.ls with ⟨e, _⟩ | ⟨e, b, o, c, e1, e2, e3⟩
    · exact absurd e hl
    · rw [hlv] at e1; cases e1; exact ⟨b, o, rfl, rfl, e2, e3⟩
  refine ⟨whoR who w.heap.size w1.heap.size 3, ⟨fun j hj => by simpa using whoR_ne h.low h.lw ht1.size hj, by simpa using Nat.le_trans h.lw ht1.size, set_block (ht1.heap h.blk (h4 g 1 h.gw (by decide))) _, by rw [old g h.lt]; exact h.gw, (h.bl.turns ht1 (fun j hj => h4 j 2 (h.bw j hj) (by decide))).turns ht (fun j hj => hn j 2 (h.bw j hj) (by decide)), fun j hj => by rw [old j (lt j 2 (h.bw j hj) (by decide))]; exact h.bw j hj, ?_, ho.turns ht hxg, fun j hj => ?_, by rw [List.length_append, List.length_append, h.rl]; rfl, ?_, (h.yr.turns ht1 (fun j hj => h4 j 4 (h.yb j hj) (by decide))).turns ht (fun j hj => hn j 4 (h.yb j hj) (by decide)), fun j hj => by rw [old j (lt j 4 (h.yb j hj) (by decide))]; exact h.yb j hj⟩, ⟨(ht1.mono fun j _ e => by rw [h.rb j e]; decide).trans ht fun j _ e => by rw [e, h.gw]; decide, old⟩⟩
  · rcases h.ls with e | ⟨e, b, o, c, e1, e2, e3⟩
    · exact .inl e
    · exact .inr ⟨e, b, o, c, e1, (e2.turns ht1 (fun b' o' hb _ => by cases hb; exact h4 b 5 e3 (by decide))).turns ht (fun b' o' hb _ => by cases hb; exact hn b 5 e3 (by decide)), by rw [old b (lt b 5 e3 (by decide))]; exact e3⟩
  · rcases hx j hj with e | e
    · rw [old j (lt j 3 (h.rb j e) (by decide))]; exact h.rb j e
    · exact whoR_new e (hlt j hj)
  · intro i x r hx hr
    by_cases hi : i < vs.length
    · rw [List.getElem?_append_left hi] at hx
      rw [List.getElem?_append_left (by rw [← h.rl]; exact hi)] at hr
      obtain ⟨e, b, o, c, e1, e2, e3⟩ := h.rk i x r hx hr
      exact ⟨e, b, o, c, e1, (e2.turns ht1 (fun b' o' hb _ => by cases hb; exact h4 b 5 e3 (by decide))).turns ht (fun b' o' hb _ => by cases hb; exact hn b 5 e3 (by decide)), by rw [old b (lt b 5 e3 (by decide))]; exact e3⟩
    · have hi2 : i = vs.length := by have := (List.getElem?_eq_some_iff.1 hx).1; simp at this; omega
      subst hi2
      rw [List.getElem?_append_right (Nat.le_refl _), Nat.sub_self] at hx
      rw [List.getElem?_append_right (by rw [← h.rl]; exact Nat.le_refl _), h.rl, Nat.sub_self] at hr
      simp at hx hr
      subst hx hr
      obtain ⟨b, o, rfl, rfl, e2, e3⟩ := hls
      exact ⟨rfl, b, o, c, rfl, (e2.turns ht1 (fun b' o' hb _ => by cases hb; exact h4 b 5 e3 (by decide))).turns ht (fun b' o' hb _ => by cases hb; exact hn b 5 e3 (by decide)), by rw [old b (lt b 5 e3 (by decide))]; exact e3⟩

/-- it is shut -/
theorem Wr.setS (h : Wr w lo g gb v lv rv yv vs m now last rs shut Y who) (b : Bool) : Wr (w.setCell ⟨g, 4, none⟩ (.bool b)) lo g gb v lv rv yv vs m now last rs b Y who ∧ Gr w (w.setCell ⟨g, 4, none⟩ (.bool b)) who who := by
  have hn : ∀ j k, who j = k → k ≠ 1 → ¬ j = g := fun j k e hk hg => hk (by rw [← e, hg, h.gw])
  have ht := Turns.set (S := fun j => j = g) w (i := 4) rfl (.bool b)
  refine ⟨⟨fun j hj => by simpa using h.low j hj, by simpa using h.lw, set_block h.blk _, h.gw, h.bl.turns ht (fun j hj => hn j 2 (h.bw j hj) (by decide)), h.bw, ?_, h.rw.turns ht (fun j hj => hn j 3 (h.rb j hj) (by decide)), h.rb, h.rl, ?_, h.yr.turns ht (fun j hj => hn j 4 (h.yb j hj) (by decide)), h.yb⟩, ⟨ht.mono fun j _ e => by rw [e, h.gw]; decide, fun _ _ => rfl⟩⟩
  · rcases h.ls with e | ⟨e, b, o, c, e1, e2, e3⟩
    · exact .inl e
    · exact .inr ⟨e, b, o, c, e1, e2.turns ht (fun b' o' hb _ => by cases hb; exact hn b 5 e3 (by decide)), e3⟩
  · intro i x r hx hr
    obtain ⟨e, b, o, c, e1, e2, e3⟩ := h.rk i x r hx hr
    exact ⟨e, b, o, c, e1, e2.turns ht (fun b' o' hb _ => by cases hb; exact hn b 5 e3 (by decide)), e3⟩
end

/-- a writer that stands so -/
def WrS (w : World) (lo g m : Nat) (s : WS) (who : Nat → Nat) : Prop := ∃ gb v lv rv yv vs, Wr w lo g gb v lv rv yv vs m s.now s.last (rowsL s.L) s.shut s.ready who
theorem WrS.turn {w w' : World} {lo g m : Nat} {s : WS} {who : Nat → Nat} {S : Nat → Prop} (h : WrS w lo g m s who) (ht : Turns S w w') (hS : ∀ j, S j → who j = 0) : WrS w' lo g m s who := by
  obtain ⟨gb, v, lv, rv, yv, vs, h⟩ := h; exact ⟨gb, v, lv, rv, yv, vs, h.turn ht hS⟩
theorem WrS.keep {w w' : World} {lo g m : Nat} {s : WS} {who : Nat → Nat} (h : WrS w lo g m s who) (hb : Below w.heap.size w w') : WrS w' lo g m s who :=
  h.turn (S := fun _ => False) (.of_below hb) (fun _ e => e.elim)
theorem WrS.low {w : World} {lo g m : Nat} {s : WS} {who : Nat → Nat} (h : WrS w lo g m s who) : (∀ j, who j ≠ 0 → lo ≤ j ∧ j < w.heap.size) ∧ lo ≤ w.heap.size := by
  obtain ⟨gb, v, lv, rv, yv, vs, h⟩ := h; exact ⟨h.low, h.lw⟩
def WPost (w w' : World) (lo g m : Nat) (s' : WS) (who : Nat → Nat) : Prop := ∃ who', WrS w' lo g m s' who' ∧ Gr w w' who who'
end Go.Proofs.YtljcogimeimknaaGreat
