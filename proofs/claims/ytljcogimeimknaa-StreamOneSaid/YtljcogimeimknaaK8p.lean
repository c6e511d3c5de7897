/- Several texts in one: PipeM, PipeNext, PipeSrc, CloneZ, PipeSnk, PipeNew, PipeGen. Each has its own sentence and conditions below. -/
import Derived.Test.YtljcogimeimknaaK8a
import Derived.BigRegion
import Derived.Shelf.Spec.SlicesInsert
import Derived.Laws.CopyOwn
import Derived.Deep.RegionLaw
import Derived.Test.YtljcogimeimknaaK8b
import Derived.Deep.RegionHeld3
/- Sources and sinks that go as they are told: plain words: what a call gives, what it takes; what Chunks yields, what Copy hands on. No condition. -/
namespace Go.Proofs.Ytljcogimeimknaa
set_option linter.unusedVariables false

/-- how many bytes of n the call k may move -/
def mostN (l : List Int) (k n : Nat) : Nat := match l[k - 1]? with
  | some m => (max 0 (min (n : Int) m)).toNat
  | none => n
theorem mostN_le (l : List Int) (k n : Nat) : mostN l k n ≤ n := by
  unfold mostN; split <;> omega
theorem mostN_some {l : List Int} {k n : Nat} {m : Int} (h : l[k - 1]? = some m) : (mostN l k n : Int) = max 0 (min (n : Int) m) := by
  unfold mostN; rw [h]; dsimp only; omega
theorem mostN_none {l : List Int} {k n : Nat} (h : l.length < k) : mostN l k n = n := by
  unfold mostN; rw [List.getElem?_eq_none (by omega)]
/-- a source: how many its calls give at most, the first that fails, how many calls there were, what is left, is the end told with the last bytes -/
structure Src where
  most : List Int
  fail : Int
  calls : Nat
  left : List UInt8
  eager : Bool
/-- a call: what it gives, the error, what the source is then -/
def Src.broken (s : Src) : Bool := decide (0 < s.fail ∧ s.fail ≤ (s.calls : Int) + 1)
def Src.gives (s : Src) (n : Nat) : List UInt8 := if s.broken then [] else s.left.take (mostN s.most (s.calls + 1) n)
def Src.rest (s : Src) (n : Nat) : List UInt8 := if s.broken then s.left else s.left.drop (mostN s.most (s.calls + 1) n)
def Src.err (s : Src) (n : Nat) : Nat := if s.broken then 32 else if s.left = [] then 31 else if s.eager ∧ s.left.drop (mostN s.most (s.calls + 1) n) = [] then 31 else 0
def Src.next (s : Src) (n : Nat) : Src := { s with calls := s.calls + 1, left := s.rest n }
theorem Src.gives_le (s : Src) (n : Nat) : (s.gives n).length ≤ n := by
  unfold Src.gives; split
  · simp
  · rw [List.length_take]; have := mostN_le s.most (s.calls + 1) n; omega
theorem Src.parts (s : Src) (n : Nat) : s.gives n ++ s.rest n = s.left := by
  unfold Src.gives Src.rest; split
  · rfl
  · exact List.take_append_drop _ _
/-- a sink: how many its calls take at most, the first that fails, how many calls there were, what it took -/
structure Snk where
  most : List Int
  fail : Int
  calls : Nat
  took : List UInt8
def Snk.broken (s : Snk) : Bool := decide (0 < s.fail ∧ s.fail ≤ (s.calls : Int) + 1)
def Snk.takes (s : Snk) (n : Nat) : Nat := if s.broken then 0 else mostN s.most (s.calls + 1) n
def Snk.err (s : Snk) : Nat := if s.broken then 32 else 0
def Snk.next (s : Snk) (p : List UInt8) : Snk := { s with calls := s.calls + 1, took := s.took ++ p.take (s.takes p.length) }
end Go.Proofs.Ytljcogimeimknaa
/- How a call of a source or a sink begins: contract of next. Conditions: numbers within reach. -/
namespace Go.Proofs.Ytljcogimeimknaa
open Go.RowKit
set_option maxRecDepth 100000
set_option linter.unusedVariables false
set_option linter.unusedSimpArgs false

/-- a list of numbers, each an int -/
def Ints (l : List Int) : Prop := ∀ x, x ∈ l → -9223372036854775808 ≤ x ∧ x ≤ 9223372036854775807
abbrev fZ (x : Int) : Value := .int .i64 x
theorem Sl.num {w : World} {am : Option Addr} {nm cm : Nat} {l : List Int} (h : Sl fZ w am nm cm l) {i : Nat} (hi : i < nm) : ∃ x b o, l[i]? = some x ∧ am = some ⟨b, o, none⟩ ∧ w.cell? ⟨b, o + i, none⟩ = some (.int .i64 x) := h.at i hi
theorem ret2_int {k : IntKind} {a b : Int} {v : Value} (h : a = b) : Ending.returned (.tuple #[.int k a, v]) = .returned (.tuple #[.int k b, v]) := by rw [h]
def badB (fail : Int) (calls : Nat) : Bool := decide (0 < fail ∧ fail ≤ (calls : Int) + 1)
/-- how many bytes a call may move -/
def nextK (l : List Int) (fail : Int) (calls n : Nat) : Nat := if badB fail calls then 0 else mostN l (calls + 1) n
theorem nextK_bad {l : List Int} {fail : Int} {calls n : Nat} (h : badB fail calls = true) : nextK l fail calls n = 0 := by unfold nextK; rw [h]; rfl
theorem nextK_ok {l : List Int} {fail : Int} {calls n : Nat} (h : badB fail calls = false) : nextK l fail calls n = mostN l (calls + 1) n := by unfold nextK; rw [h]; rfl
set_option maxRecDepth 100000 in
set_option maxHeartbeats 2000000 in
theorem next_any (g : Nat) (cs : Array Value) (ty : TypeId) (am : Option Addr) (nm cm : Nat) (l : List Int) (fail : Int) (calls n : Nat) (w : World) (hblk : w.heap[g]? = some (.cells cs ty (0, 0))) (h0 : cs[0]? = some (.slice am nm cm)) (h1 : cs[1]? = some (.int .i64 fail)) (h2 : cs[2]? = some (.int .i64 (calls : Nat)))
    (hl : Sl fZ w am nm cm l) (hne : ∀ b o, am = some ⟨b, o, none⟩ → 0 < nm → b ≠ g) (hI : Ints l) (hc : calls ≤ 4611686018427387904) (hn : n ≤ 4611686018427387904) :
    Calls Try.prog 152 #[.pointer (some ⟨g, 0, none⟩), .int .i64 (n : Nat)] w fun e w' => e = .returned (.tuple #[.int .i64 (nextK l fail calls n : Nat), .bool (!badB fail calls)]) ∧ Drw (w.setCell ⟨g, 2, none⟩ (.int .i64 ((calls : Int) + 1))) w' := by
  obtain rfl : l.length = nm := hl.len
  have c2 : w.cell? ⟨g, 2, none⟩ = some (.int .i64 (calls : Nat)) := cell_of hblk 2 h2
  have f2 : w.frozen? ⟨g, 2, none⟩ = false := free_block hblk 2
  have sz : 2 < cs.size := by obtain ⟨h, _⟩ := Array.getElem?_eq_some_iff.1 h2; exact h
  have hb := set_block (i := 2) hblk (.int .i64 ((calls : Int) + 1))
  have b0 : (w.setCell ⟨g, 2, none⟩ (.int .i64 ((calls : Int) + 1))).cell? ⟨g, 0, none⟩ = some (.slice am l.length cm) := cell_of hb 0 (by simp [Array.getElem?_setIfInBounds, h0])
  have b1 : (w.setCell ⟨g, 2, none⟩ (.int .i64 ((calls : Int) + 1))).cell? ⟨g, 1, none⟩ = some (.int .i64 fail) := cell_of hb 1 (by simp [Array.getElem?_setIfInBounds, h1])
  have b2 : (w.setCell ⟨g, 2, none⟩ (.int .i64 ((calls : Int) + 1))).cell? ⟨g, 2, none⟩ = some (.int .i64 ((calls : Int) + 1)) := cell_of hb 2 (by simp [Array.getElem?_setIfInBounds, sz])
  have hl2 := Lib.hid (hl.of_block (w' := w.setCell ⟨g, 2, none⟩ (.int .i64 ((calls : Int) + 1))) fun b o e hn0 => Below.heap_setCell _ _ _ _ (hne b o e hn0))
  have r1 : IntKind.i64.wrap ((calls : Int) + 1) = (calls : Int) + 1 := IntWalk.i64_in _ (by omega)
  have HI := Lib.hid hI
  clear hblk h0 h1 h2 hl hne sz hb hI
  go_enter Try.func152, Try.ntmps152
  go_wp2_with fail
  obtain ⟨W, hW⟩ : ∃ W, w.setCell ⟨g, 2, none⟩ (.int .i64 ((calls : Int) + 1)) = W := ⟨_, rfl⟩
  have HW := Lib.hid hW
  rw [hW] at b0 b1 b2 hl2 ⊢
  clear hW c2 f2
  by_cases hf : 0 < fail
  · by_cases hk : fail ≤ (calls : Int) + 1
    · have HB := Lib.hid (show badB fail calls = true from decide_eq_true ⟨hf, hk⟩)
      have t1 : decide (fail > 0) = true := decide_eq_true hf
      have t1' : decide (0 < fail) = true := decide_eq_true hf
      have t2 : decide ((calls : Int) + 1 ≥ fail) = true := decide_eq_true hk
      have t2' : decide (fail ≤ (calls : Int) + 1) = true := decide_eq_true hk
      clear hf hk
      go_quiet (fail)
      go_wp2_with fail
      go_ret2
      refine ⟨?_, by rw [HW.out]; first | exact (Drw.refl _).more _ | exact ((Drw.refl _).more _).more _⟩
      rw [nextK_bad HB.out, HB.out]; rfl
    · have HB := Lib.hid (show badB fail calls = false from decide_eq_false fun h => hk h.2)
      have t1 : decide (fail > 0) = true := decide_eq_true hf
      have t1' : decide (0 < fail) = true := decide_eq_true hf
      have t2 : decide ((calls : Int) + 1 ≥ fail) = false := decide_eq_false hk
      have t2' : decide (fail ≤ (calls : Int) + 1) = false := decide_eq_false hk
      clear hf hk
      go_quiet (fail)
      go_wp2_with fail
      by_cases hL : calls < l.length
      · obtain ⟨m, bm, om, hm, rfl, hcm⟩ := hl2.out.num (i := calls) (by omega)
        have hmb := HI.out m (List.mem_of_getElem? hm)
        have HM := Lib.hid (mostN_some (n := n) (show l[calls + 1 - 1]? = some m by simpa using hm))
        have t3 : decide ((calls : Int) + 1 ≤ (l.length : Nat)) = true := decide_eq_true (by omega)
        have t3' : decide (calls + 1 ≤ l.length) = true := decide_eq_true (by omega)
        have t4 : decide (calls < l.length) = true := decide_eq_true hL
        have r2 : IntKind.i64.wrap ((calls : Int) + 1 - 1) = (calls : Int) := by rw [show (calls : Int) + 1 - 1 = (calls : Int) by omega]; exact IntWalk.i64_in _ (by omega)
        clear hm
        go_quiet (fail)
        go_wp2_with fail
        go_region
        all_goals go_wp2_with fail
        all_goals
          go_ret2
          refine ⟨?_, by rw [HW.out]; first | exact (Drw.refl _).more _ | exact ((Drw.refl _).more _).more _⟩
          have hmm := HM.out
          refine Eq.trans (ret2_int (b := (mostN l (calls + 1) n : Nat)) (v := .bool true) ?_) ?_ <;> first | omega | (rw [nextK_ok HB.out, HB.out]; rfl)
      · have HM := Lib.hid (mostN_none (l := l) (k := calls + 1) (n := n) (by omega))
        have t3 : decide ((calls : Int) + 1 ≤ (l.length : Nat)) = false := decide_eq_false (by omega)
        have t3' : decide (calls + 1 ≤ l.length) = false := decide_eq_false (by omega)
        have t4 : decide (calls < l.length) = false := decide_eq_false hL
        go_quiet (fail)
        go_wp2_with fail
        go_ret2
        refine ⟨?_, by rw [HW.out]; first | exact (Drw.refl _).more _ | exact ((Drw.refl _).more _).more _⟩
        have hmm := HM.out
        refine Eq.trans (ret2_int (b := (mostN l (calls + 1) n : Nat)) (v := .bool true) ?_) ?_ <;> first | omega | (rw [nextK_ok HB.out, HB.out]; rfl)
  · have HB := Lib.hid (show badB fail calls = false from decide_eq_false fun h => hf h.1)
    have t1 : decide (fail > 0) = false := decide_eq_false hf
    have t1' : decide (0 < fail) = false := decide_eq_false hf
    clear hf
    go_quiet (fail)
    go_wp2_with fail
    by_cases hL : calls < l.length
    · obtain ⟨m, bm, om, hm, rfl, hcm⟩ := hl2.out.num (i := calls) (by omega)
      have hmb := HI.out m (List.mem_of_getElem? hm)
      have HM := Lib.hid (mostN_some (n := n) (show l[calls + 1 - 1]? = some m by simpa using hm))
      have t3 : decide ((calls : Int) + 1 ≤ (l.length : Nat)) = true := decide_eq_true (by omega)
      have t3' : decide (calls + 1 ≤ l.length) = true := decide_eq_true (by omega)
      have t4 : decide (calls < l.length) = true := decide_eq_true hL
      have r2 : IntKind.i64.wrap ((calls : Int) + 1 - 1) = (calls : Int) := by rw [show (calls : Int) + 1 - 1 = (calls : Int) by omega]; exact IntWalk.i64_in _ (by omega)
      clear hm
      go_quiet (fail)
      go_wp2_with fail
      go_region
      all_goals go_wp2_with fail
      all_goals
        go_ret2
        refine ⟨?_, by rw [HW.out]; first | exact (Drw.refl _).more _ | exact ((Drw.refl _).more _).more _⟩
        have hmm := HM.out
        refine Eq.trans (ret2_int (b := (mostN l (calls + 1) n : Nat)) (v := .bool true) ?_) ?_ <;> first | omega | (rw [nextK_ok HB.out, HB.out]; rfl)
    · have HM := Lib.hid (mostN_none (l := l) (k := calls + 1) (n := n) (by omega))
      have t3 : decide ((calls : Int) + 1 ≤ (l.length : Nat)) = false := decide_eq_false (by omega)
      have t3' : decide (calls + 1 ≤ l.length) = false := decide_eq_false (by omega)
      have t4 : decide (calls < l.length) = false := decide_eq_false hL
      go_quiet (fail)
      go_wp2_with fail
      go_ret2
      refine ⟨?_, by rw [HW.out]; first | exact (Drw.refl _).more _ | exact ((Drw.refl _).more _).more _⟩
      have hmm := HM.out
      refine Eq.trans (ret2_int (b := (mostN l (calls + 1) n : Nat)) (v := .bool true) ?_) ?_ <;> first | omega | (rw [nextK_ok HB.out, HB.out]; rfl)
end Go.Proofs.Ytljcogimeimknaa
/- Sources that go as they are told, in memory: contracts of Read, Calls, Left. Conditions: numbers within reach. -/
namespace Go.Proofs.Ytljcogimeimknaa
open Go.RowKit
set_option maxRecDepth 100000
set_option linter.unusedVariables false

/-- copy onto the head of a block of bytes -/
theorem run_copyB (w : World) (ty : TypeId) (g n c : Nat) (zs : List UInt8) (sp : Option Addr) (sn sc : Nat) (xs : List UInt8) (hg : w.heap[g]? = some (.cells (zs.map Bf).toArray 5 (0, 0))) (hn : n ≤ zs.length) (hs : Sl Bf w sp sn sc xs) :
    ∃ w', (Builtin.copy_ #[25, 25] ty #[.slice (some ⟨g, 0, none⟩) n c, .slice sp sn sc]).run Try.prog w = .ok (goInt (Nat.min sn n : Nat)) w' ∧ w'.heap[g]? = some (.cells ((xs.take n ++ zs.drop (xs.take n).length).map Bf).toArray 5 (0, 0)) ∧ Turns (fun j => j = g) w w' := by
  obtain rfl : xs.length = sn := hs.len
  have hsz : (Try.prog.info? 5).map (·.size) = some 1 := by kernel_rfl
  have hl : (xs.take n).length = Nat.min xs.length n := by rw [List.length_take]; exact Nat.min_comm _ _
  by_cases h0 : (xs.take n).length = 0
  · have hr := run_copy_none (P := Try.prog) w 25 25 ty 5 (some ⟨g, 0, none⟩) sp n c xs.length sc Try.underlying25 hsz (by rw [← hl]; exact h0)
    refine ⟨w, by rw [hr, ← hl, h0]; rfl, ?_, .refl _ _⟩
    rw [h0, List.eq_nil_of_length_eq_zero h0]; simpa using hg
  · cases sp with
    | none => have := hs.none_eq.2.2; subst this; simp at h0
    | some ad =>
      have hsrc := (src_of hs).2 ad rfl
      have hr := run_copy_row (P := Try.prog) w 25 25 ty 5 g 0 n c ad xs.length sc (zs.map Bf).toArray 5 ((xs.take n).map Bf) Try.underlying25 hsz hg (by rw [List.length_map]; exact hl)
        (fun j v hj => hsrc j v (by
          rw [List.getElem?_map] at hj ⊢
          rw [List.getElem?_take] at hj
          split at hj
          · exact hj
          · cases hj)) (by simp; omega) (bf_one _)
      rw [List.length_map, hl] at hr
      refine ⟨_, hr, ?_, ⟨rfl, rfl, rfl, by simp [World.setRow], fun j hj hne => setRow_other w g j _ hne⟩⟩
      rw [setRow_heap w g _ _ _ _ hg]
      congr 2
      apply Array.ext'
      rw [hl]
      simp [List.map_drop]
theorem step_copyB {ops : Array Oper} {o : Oper} {a : Act} {w : World} {K : Act → World → Prop} {Q : Exit → Act → World → Prop} {E : Prop} (hgd : o.guard = none) (d x : Operand) (ho : o.op = Op.call { callee := Callee.builtin Builtin.copy, args := #[d, x], argTypes := #[25, 25] })
    (g n c : Nat) (zs : List UInt8) (sp : Option Addr) (sn sc : Nat) (xs : List UInt8) (hd : a.eval d = .slice (some ⟨g, 0, none⟩) n c) (hx : a.eval x = .slice sp sn sc) (hg : w.heap[g]? = some (.cells (zs.map Bf).toArray 5 (0, 0))) (hn : n ≤ zs.length) (hs : Sl Bf w sp sn sc xs) (m : Nat) (hm : Nat.min sn n = m)
    (h : ∀ w', w'.heap[g]? = some (.cells ((xs.take n ++ zs.drop (xs.take n).length).map Bf).toArray 5 (0, 0)) → Turns (fun j => j = g) w w' → K (a.put o.dst (goInt (m : Nat))) w') :
    if Region.wanted o (yielded ops a.tmps) = true then Oper.wp Try.prog o a w K Q else E := by
  subst hm
  obtain ⟨w', hr, h1, h2⟩ := run_copyB w o.type g n c zs sp sn sc xs hg hn hs
  exact step_copy_runI hgd d x _ _ ho _ _ hd hx hr (h w' h1 h2)
/-- a slice's value that reads so, its block in S, not g -/
def Lsv {α : Type} (f : α → Value) (w : World) (S : Nat → Prop) (g : Nat) (v : Value) (xs : List α) : Prop := ∃ a n c, v = .slice a n c ∧ Sl f w a n c xs ∧ ∀ b o, a = some ⟨b, o, none⟩ → 0 < n → S b ∧ b ≠ g
theorem Lsv.turns {α : Type} {f : α → Value} {w w' : World} {S T : Nat → Prop} {g : Nat} {v : Value} {xs : List α} (h : Lsv f w S g v xs) (ht : Turns T w w') (hd : ∀ j, S j → j ≠ g → ¬ T j) : Lsv f w' S g v xs := by
  obtain ⟨a, n, c, rfl, hs, hb⟩ := h
  exact ⟨a, n, c, rfl, hs.turns ht fun b o e hn => hd b (hb b o e hn).1 (hb b o e hn).2, hb⟩
/-- a source in block g, all its blocks in S -/
structure SrcP (g lo : Nat) (s : Src) (S : Nat → Prop) (w : World) : Prop where
  blk : ∃ vm vl, w.heap[g]? = some (.cells #[vm, .int .i64 s.fail, .int .i64 (s.calls : Nat), vl, .bool s.eager] 103 (0, 0)) ∧ Lsv fZ w S g vm s.most ∧ Lsv Bf w S g vl s.left
  own : S g
  inS : ∀ j, S j → lo ≤ j ∧ j < w.heap.size
  ints : Ints s.most
theorem SrcP.turns {g lo : Nat} {s : Src} {S T : Nat → Prop} {w w' : World} (h : SrcP g lo s S w) (ht : Turns T w w') (hd : ∀ j, S j → ¬ T j) : SrcP g lo s S w' := by
  obtain ⟨vm, vl, hb, h1, h2⟩ := h.blk
  exact ⟨⟨vm, vl, ht.heap hb (hd g h.own), h1.turns ht fun j hj _ => hd j hj, h2.turns ht fun j hj _ => hd j hj⟩, h.own, fun j hj => ⟨(h.inS j hj).1, Nat.lt_of_lt_of_le (h.inS j hj).2 ht.size⟩, h.ints⟩
theorem SrcP.keep {g lo : Nat} {s : Src} {S : Nat → Prop} {w w' : World} (h : SrcP g lo s S w) (hb : Below w.heap.size w w') : SrcP g lo s S w' := h.turns (T := fun _ => False) (.of_below hb) fun _ _ e => e
/-- it has gone on -/
theorem SrcP.upd {g lo gp : Nat} {s s' : Src} {S : Nat → Prop} {w w1 : World} (h : SrcP g lo s S w) (ht : Turns (fun j => j = g ∨ j = gp) w w1) (hg : ¬ S gp) (e1 : s'.most = s.most) (e2 : s'.fail = s.fail) (e3 : s'.eager = s.eager) {vm vl : Value}
    (hb : w1.heap[g]? = some (.cells #[vm, .int .i64 s.fail, .int .i64 (s'.calls : Nat), vl, .bool s.eager] 103 (0, 0))) (hm : Lsv fZ w S g vm s.most) (hl : Lsv Bf w1 S g vl s'.left) : SrcP g lo s' S w1 :=
  ⟨⟨vm, vl, by rw [e2, e3]; exact hb, by rw [e1]; exact hm.turns ht fun j hj hne e => by rcases e with e | e; (exact hne e); (exact hg (e ▸ hj)), hl⟩, h.own, fun j hj => ⟨(h.inS j hj).1, Nat.lt_of_lt_of_le (h.inS j hj).2 ht.size⟩, by rw [e1]; exact h.ints⟩
theorem Src.bad {s : Src} {n : Nat} (h : badB s.fail s.calls = true) : s.gives n = [] ∧ s.err n = 32 ∧ s.rest n = s.left := by
  have hb : s.broken = true := h
  unfold Src.gives Src.err Src.rest
  rw [hb]; exact ⟨rfl, rfl, rfl⟩
theorem Src.good {s : Src} {n : Nat} (h : badB s.fail s.calls = false) : s.gives n = s.left.take (mostN s.most (s.calls + 1) n) ∧ s.rest n = s.left.drop (mostN s.most (s.calls + 1) n) ∧ s.err n = (if s.left = [] then 31 else if s.eager ∧ s.left.drop (mostN s.most (s.calls + 1) n) = [] then 31 else 0) := by
  have hb : s.broken = false := h
  unfold Src.gives Src.err Src.rest
  rw [hb]; exact ⟨rfl, rfl, rfl⟩
/-- behind Read -/
def RdPostS (g lo : Nat) (s : Src) (S : Nat → Prop) (w : World) (gp n : Nat) (zs : List UInt8) (r : Ending) (w' : World) : Prop :=
  r = .returned (.tuple #[.int .i64 ((s.gives n).length : Nat), .int .i64 (s.err n : Nat)]) ∧ SrcP g lo (s.next n) S w' ∧ Turns (fun j => j = g ∨ j = gp) w w' ∧ w'.heap[gp]? = some (.cells ((s.gives n ++ zs.drop (s.gives n).length).map Bf).toArray 5 (0, 0))
set_option maxRecDepth 100000 in
set_option maxHeartbeats 2000000 in
theorem sread_any (g lo : Nat) (s : Src) (S : Nat → Prop) (gp n c : Nat) (zs : List UInt8) (w : World) (h : SrcP g lo s S w) (hc : s.calls ≤ 4611686018427387904) (hn : n ≤ zs.length) (hnc : n ≤ c) (hz : n ≤ 140737488351232) (hp : w.heap[gp]? = some (.cells (zs.map Bf).toArray 5 (0, 0))) (hg : ¬ S gp) :
    Calls Try.prog 151 #[.pointer (some ⟨g, 0, none⟩), .slice (some ⟨gp, 0, none⟩) n c] w (RdPostS g lo s S w gp n zs) := by
  obtain ⟨vm, vl, hb, ⟨am, nm, cm, rfl, hm, hmS⟩, ⟨al, nl, cl, rfl, hl, hlS⟩⟩ := h.blk
  obtain rfl : s.left.length = nl := hl.len
  have NX := Lib.hid (next_any g _ 103 am nm cm s.most s.fail s.calls n w hb rfl rfl rfl hm (fun b o e hn0 => (hmS b o e hn0).2) h.ints hc (by omega))
  have hset := set_block (i := 2) hb (.int .i64 ((s.calls : Int) + 1))
  have hgp : g ≠ gp := fun e => hg (e ▸ h.own)
  have H := Lib.hid h
  have T1 := Lib.hid (Turns.set (S := fun j => j = g) w (b := g) (i := 2) rfl (.int .i64 ((s.calls : Int) + 1)))
  have SET := Lib.hid hset
  have HP := Lib.hid hp
  have HM := Lib.hid (And.intro hm hmS)
  have HL := Lib.hid (And.intro hl hlS)
  have HG := Lib.hid hg
  clear hb hm hmS hl hlS hset h hp hg
  by_cases hbad : badB s.fail s.calls = true
  · have HB := Lib.hid hbad
    have NX2 := NX.out
    rw [nextK_bad hbad, hbad] at NX2
    replace NX := Lib.hid NX2
    clear NX2 hbad
    go_enter Try.func151, Try.ntmps151
    go_wp2_with fail
    refine NX.out.mono ?_
    rintro e w1 ⟨rfl, hd⟩
    have D1 := Lib.hid hd
    clear hd NX
    go_wp2_with fail
    go_ret2
    obtain ⟨e1, e2, e3⟩ := Src.bad (n := n) HB.out
    have ht := D1.out.below
    have tt := (T1.out.trans_below ht).mono (T := fun j => j = g ∨ j = gp) fun j _ e => .inl e
    refine ⟨by rw [e1, e2]; rfl, H.out.upd tt HG.out rfl rfl rfl ((ht.block g (Array.getElem?_eq_some_iff.1 SET.out).1).trans SET.out) ⟨am, _, cm, rfl, HM.out.1, HM.out.2⟩ ?_, tt, by rw [e1]; exact (ht.block gp (by simp; exact (Array.getElem?_eq_some_iff.1 HP.out).1)).trans ((Below.heap_setCell _ _ _ _ (Ne.symm hgp)).trans HP.out)⟩
    show Lsv Bf _ S g _ (s.rest n)
    rw [e3]
    exact (show Lsv Bf w S g _ s.left from ⟨al, _, cl, rfl, HL.out.1, HL.out.2⟩).turns tt fun j hj hne e => by rcases e with e | e; (exact hne e); (exact HG.out (e ▸ hj))
  · have hbad : badB s.fail s.calls = false := by simpa using hbad
    obtain ⟨e1, e2, e3⟩ := Src.good (n := n) hbad
    have NX2 := NX.out
    rw [nextK_ok hbad, hbad] at NX2
    replace NX := Lib.hid NX2
    have hk := mostN_le s.most (s.calls + 1) n
    obtain ⟨k, hkk⟩ : ∃ k, mostN s.most (s.calls + 1) n = k := ⟨_, rfl⟩
    rw [hkk] at e1 e2 e3 NX hk
    have E1 := Lib.hid e1
    have E2 := Lib.hid e2
    have E3 := Lib.hid e3
    have s3 : (w.setCell ⟨g, 2, none⟩ (.int .i64 ((s.calls : Int) + 1))).cell? ⟨g, 3, none⟩ = some (.slice al s.left.length cl) := cell_of SET.out 3 rfl
    have s4 : (w.setCell ⟨g, 2, none⟩ (.int .i64 ((s.calls : Int) + 1))).cell? ⟨g, 4, none⟩ = some (.bool s.eager) := cell_of SET.out 4 rfl
    have f3 : (w.setCell ⟨g, 2, none⟩ (.int .i64 ((s.calls : Int) + 1))).frozen? ⟨g, 3, none⟩ = false := free_block SET.out 3
    clear NX2 hbad hkk e1 e2 e3
    go_enter Try.func151, Try.ntmps151
    go_wp2_with fail
    refine NX.out.mono ?_
    rintro e w1 ⟨rfl, m, rfl⟩
    clear NX
    have HPW := Lib.hid (show (w.setCell ⟨g, 2, none⟩ (.int .i64 ((s.calls : Int) + 1))).heap[gp]? = some (.cells (zs.map Bf).toArray 5 (0, 0)) from (Below.heap_setCell _ _ _ _ (Ne.symm hgp)).trans HP.out)
    have HLW := Lib.hid (show Sl Bf (w.setCell ⟨g, 2, none⟩ (.int .i64 ((s.calls : Int) + 1))) al s.left.length cl s.left from HL.out.1.turns T1.out fun b o e hn0 e2 => (HL.out.2 b o e hn0).2 e2)
    generalize w.setCell ⟨g, 2, none⟩ (.int .i64 ((s.calls : Int) + 1)) = W at *
    by_cases hl0 : s.left.length = 0
    · have hl1 : s.left = [] := List.eq_nil_of_length_eq_zero hl0
      have HL1 := Lib.hid hl1
      have t1 : ((s.left.length : Int) == 0) = true := by rw [beq_iff_eq]; omega
      have t1' : (s.left.length == 0) = true := by rw [beq_iff_eq]; exact hl0
      clear hl0 hl1
      go_wp2_with fail
      go_ret2
      have hb1 : Below W.heap.size W (W.drewN m) := keep_drewN (Below.refl _ _) m
      have tt := (T1.out.trans_below hb1).mono (T := fun j => j = g ∨ j = gp) fun j _ e => .inl e
      have q1 : s.gives n = [] := by rw [E1.out, HL1.out, List.take_nil]
      refine ⟨by rw [q1, E3.out, if_pos HL1.out]; rfl, H.out.upd tt HG.out rfl rfl rfl SET.out ⟨am, _, cm, rfl, HM.out.1, HM.out.2⟩ ?_, tt, by rw [q1]; exact HPW.out⟩
      show Lsv Bf _ S g _ (s.rest n)
      rw [E2.out, HL1.out, List.drop_nil]
      refine ⟨al, _, cl, rfl, ?_, fun b o e hn0 => absurd hn0 (by simp)⟩
      have := HLW.out
      rw [HL1.out] at this
      exact this
    · have hl1 : s.left ≠ [] := fun e => hl0 (by rw [e]; rfl)
      have HL1 := Lib.hid hl1
      have t1 : ((s.left.length : Int) == 0) = false := by rw [beq_eq_false_iff_ne]; omega
      have t1' : (s.left.length == 0) = false := by rw [beq_eq_false_iff_ne]; exact hl0
      have hcut := fun V : World => run_cutto eltB V (some ⟨gp, 0, none⟩) n c .i64 k (by omega)
      obtain ⟨q, hq⟩ : ∃ q, Nat.min s.left.length k = q := ⟨_, rfl⟩
      have hq1 : q ≤ s.left.length := hq ▸ Nat.min_le_left _ _
      have HQ := Lib.hid hq
      have hcut2 := fun V : World => run_cutfrom eltB V al s.left.length cl .i64 q hq1
      clear hl0 hl1 hq
      go_wp2_with fail
      go_region_law (refine step_copyB rfl (.tmp 30) (.tmp 34) rfl gp k c zs al s.left.length cl s.left (by simp [Act.eval]) (by simp [Act.eval]) HPW.out (by omega) HLW.out q HQ.out ?_; intro w3 h3 t3)
      have T3 := Lib.hid t3
      have H3 := Lib.hid h3
      have HB3 := Lib.hid (t3.heap (show ((W.drewN m).drew).heap[g]? = _ from SET.out) hgp)
      have c3 : w3.cell? ⟨g, 3, none⟩ = some (.slice al s.left.length cl) := cell_of HB3.out 3 rfl
      have z3 : w3.frozen? ⟨g, 3, none⟩ = false := free_block HB3.out 3
      have hb5 := set_block (i := 3) HB3.out (.slice (adv al cl q) (s.left.length - q) (cl - q))
      have HB5 := Lib.hid hb5
      have d3 : (w3.setCell ⟨g, 3, none⟩ (.slice (adv al cl q) (s.left.length - q) (cl - q))).cell? ⟨g, 3, none⟩ = some (.slice (adv al cl q) (s.left.length - q) (cl - q)) := cell_of hb5 3 rfl
      have d4 : (w3.setCell ⟨g, 3, none⟩ (.slice (adv al cl q) (s.left.length - q) (cl - q))).cell? ⟨g, 4, none⟩ = some (.bool s.eager) := cell_of hb5 4 rfl
      clear h3 t3 s3 s4 f3 hb5
      have FIN := Lib.hid (show ∀ V : World, Drw (w3.setCell ⟨g, 3, none⟩ (.slice (adv al cl q) (s.left.length - q) (cl - q))) V → SrcP g lo (s.next n) S V ∧ Turns (fun j => j = g ∨ j = gp) w V ∧ V.heap[gp]? = some (.cells ((s.gives n ++ zs.drop (s.gives n).length).map Bf).toArray 5 (0, 0)) from fun V hV => by
        have t3 := T3.out
        have tA : Turns (fun j => j = g ∨ j = gp) w w3 := ((T1.out.trans_below (show Below W.heap.size W (W.drewN m).drew from keep_drewN (keep_drewN (Below.refl _ _) m) 1)).mono (T := fun j => j = g ∨ j = gp) fun j _ e => .inl e).trans (T := fun j => j = g ∨ j = gp) (t3.mono fun j _ e => .inr e) fun _ _ e => e
        have tB := (tA.trans (T := fun j => j = g ∨ j = gp) (Turns.set (S := fun j => j = g ∨ j = gp) w3 (b := g) (i := 3) (.inl rfl) (.slice (adv al cl q) (s.left.length - q) (cl - q))) fun _ _ e => e).trans_below hV.below
        refine ⟨H.out.upd tB HG.out rfl rfl rfl ((hV.below.block g (Array.getElem?_eq_some_iff.1 HB5.out).1).trans HB5.out) ⟨am, nm, cm, rfl, HM.out.1, HM.out.2⟩ ?_, tB, ?_⟩
        · show Lsv Bf V S g _ (s.rest n)
          rw [E2.out]
          have hq2 : s.left.drop k = s.left.drop q := by
            rw [← HQ.out]
            by_cases hh : k ≤ s.left.length
            · rw [show Nat.min s.left.length k = k from Nat.min_eq_right hh]
            · rw [show Nat.min s.left.length k = s.left.length from Nat.min_eq_left (by omega), List.drop_of_length_le (by omega), List.drop_of_length_le (Nat.le_refl _)]
          rw [hq2]
          have hs3 : Sl Bf V al s.left.length cl s.left := HL.out.1.turns tB fun b o e hn0 e2 => by
            have := HL.out.2 b o e hn0
            rcases e2 with e2 | e2
            · exact this.2 e2
            · exact HG.out (e2 ▸ this.1)
          refine ⟨adv al cl q, _, _, rfl, hs3.from q hq1, fun b o e hn0 => ?_⟩
          cases al with
          | none => unfold adv at e; split at e <;> simp at e
          | some ad =>
            obtain ⟨b0, o0, e0, _⟩ := HL.out.1.lt (by omega)
            have hb0 : b = b0 := by
              unfold adv at e
              split at e
              · rw [e0] at e; injection e with e; injection e with e; exact e.symm
              · rw [e0] at e; simp only [Option.map_some, Addr.add] at e; split at e <;> (injection e with e; injection e with e; exact e.symm)
            subst hb0
            exact HL.out.2 b o0 e0 (by omega)
        · rw [hV.below.block gp (by have := (Array.getElem?_eq_some_iff.1 H3.out).1; simpa using this), Below.heap_setCell _ _ _ _ (Ne.symm hgp), H3.out, E1.out])
      have GL := Lib.hid (show (s.gives n).length = q by rw [E1.out, List.length_take, ← HQ.out]; exact Nat.min_comm _ _)
      have hdr : s.left.drop k = [] ↔ s.left.length - q = 0 := by
        have := HQ.out
        rw [List.drop_eq_nil_iff]
        have e : Nat.min s.left.length k = min s.left.length k := rfl
        omega
      obtain ⟨eg, heg⟩ : ∃ e, s.eager = e := ⟨_, rfl⟩
      rw [heg] at d4
      cases eg with
      | false =>
        have HER := Lib.hid (show s.err n = 0 by rw [E3.out, if_neg HL1.out, heg]; rfl)
        clear hdr heg T3 H3 HB3 HB5 HP HM HL H T1 SET HPW HLW
        go_wp2_with fail
        go_ret2
        exact ⟨by rw [GL.out, HER.out]; rfl, FIN.out _ (Drw.refl _)⟩
      | true =>
        by_cases h0 : s.left.length - q = 0
        · have HER := Lib.hid (show s.err n = 31 by rw [E3.out, if_neg HL1.out, heg, if_pos ⟨rfl, hdr.2 h0⟩])
          have t5 : (((s.left.length - q : Nat) : Int) == 0) = true := by rw [beq_iff_eq]; omega
          have t5' : (s.left.length - q == 0) = true := by rw [beq_iff_eq]; exact h0
          clear hdr heg h0 T3 H3 HB3 HB5 HP HM HL H T1 SET HPW HLW
          go_wp2_with fail
          go_ret2
          exact ⟨by rw [GL.out, HER.out]; rfl, FIN.out _ (Drw.refl _)⟩
        · have HER := Lib.hid (show s.err n = 0 by rw [E3.out, if_neg HL1.out, heg, if_neg fun e => h0 (hdr.1 e.2)])
          have t5 : (((s.left.length - q : Nat) : Int) == 0) = false := by rw [beq_eq_false_iff_ne]; omega
          have t5' : (s.left.length - q == 0) = false := by rw [beq_eq_false_iff_ne]; exact h0
          clear hdr heg h0 T3 H3 HB3 HB5 HP HM HL H T1 SET HPW HLW
          go_wp2_with fail
          go_ret2
          exact ⟨by rw [GL.out, HER.out]; rfl, FIN.out _ (Drw.refl _)⟩
end Go.Proofs.Ytljcogimeimknaa
/- Clone of numbers: contract. Condition: the slice within reach. -/
namespace Go.Proofs.Ytljcogimeimknaa
set_option linter.unusedVariables false
open Go.RowKit

abbrev fZs (x : Int) : List Value := [fZ x]
theorem fZs_len (x : Int) : (fZs x).length = 1 := rfl
theorem eltTZ : EltT Try.prog 61 3 fZs 1 8 := EltT.mk1 Try.underlying61 (z := .int .i64 0) (by kernel_rfl) 0 rfl (fun _ => rfl)
theorem OwT.slZ {w : World} {base : Nat} {e : TypeId} {v : Value} {xs : List Int} (h : OwT fZs w base e v xs) : ∃ a c, v = .slice a xs.length c ∧ Sl fZ w a xs.length c xs := by
  obtain ⟨a, c, hv, hs⟩ := h.sl fZs_len
  exact ⟨a, c, hv, hs.to1⟩
theorem cloneZ_any (a : Option Addr) (n c : Nat) (xs : List Int) (w : World) (hn : n ≤ 17592186043904) (h : Sl fZ w a n c xs) :
    Calls Try.prog 58 #[.slice a n c] w fun e w' => ∃ v, e = .returned v ∧ OwT fZs w' w.heap.size 3 v xs ∧ Below w.heap.size w w' := by
  obtain rfl : n = xs.length := h.len.symm
  have H := Lib.hid h; clear h
  cases a with
  | none =>
    have HZ := Lib.hid H.out.none_eq.2.2
    have hnil := Lib.run_eql_slice_nil w 61 3 none xs.length c 0 0 Try.underlying61
    go_enter Try.func58, Try.ntmps58
    go_wp2_with fail
    go_ret
    exact ⟨_, rfl, by rw [HZ.out]; exact OwT.nil _ _ _ _, Below.refl _ _⟩
  | some p =>
    have hnil := Lib.run_eql_slice_nil w 61 3 (some p) xs.length c 0 0 Try.underlying61
    go_enter Try.func58, Try.ntmps58
    go_wp2_with (at_builtin; refine wpList_appT eltTZ rfl _ _ rfl w.heap.size _ [] (by rfl) (OwT.lit fZs _ w.heap.size _ _ [] 0 rfl rfl (Nat.le_refl _) (Nat.zero_le _)) (some p) xs.length c xs (by rfl) (H.out.keep ((Below.refl _ _).alloc (Nat.le_refl _) _)).toT (by unfold maxLen; simp; omega) (by simp; omega) (by simp) xs rfl ?_; intro v5 w5 h5 hg5 hv5 hb5)
    go_ret
    exact ⟨_, rfl, h5, ((Below.refl _ _).alloc (Nat.le_refl _) _).trans hb5⟩
end Go.Proofs.Ytljcogimeimknaa
/- Sinks that go as they are told, in memory: contracts of Write, Calls, Bytes. Conditions: numbers and what is taken within reach. -/
namespace Go.Proofs.Ytljcogimeimknaa
open Go.RowKit
set_option maxRecDepth 100000
set_option linter.unusedVariables false

theorem Snk.bad {s : Snk} (xs : List UInt8) (h : badB s.fail s.calls = true) : s.takes xs.length = 0 ∧ s.err = 32 ∧ (s.next xs).took = s.took := by
  have hb : s.broken = true := h
  have e1 : s.takes xs.length = 0 := by unfold Snk.takes; rw [hb]; rfl
  refine ⟨e1, by unfold Snk.err; rw [hb]; rfl, ?_⟩
  show s.took ++ xs.take (s.takes xs.length) = _
  rw [e1]; simp
theorem Snk.good {s : Snk} (xs : List UInt8) (h : badB s.fail s.calls = false) : s.takes xs.length = mostN s.most (s.calls + 1) xs.length ∧ s.err = 0 ∧ (s.next xs).took = s.took ++ xs.take (mostN s.most (s.calls + 1) xs.length) := by
  have hb : s.broken = false := h
  have e1 : s.takes xs.length = mostN s.most (s.calls + 1) xs.length := by unfold Snk.takes; rw [hb]; rfl
  refine ⟨e1, by unfold Snk.err; rw [hb]; rfl, ?_⟩
  show s.took ++ xs.take (s.takes xs.length) = _
  rw [e1]
end Go.Proofs.Ytljcogimeimknaa
/- NewSource, NewSink: contracts. Conditions: what they are made of within reach. -/
namespace Go.Proofs.Ytljcogimeimknaa
open Go.RowKit
set_option maxRecDepth 100000
set_option linter.unusedVariables false

theorem OwT.lsv {α : Type} {f : α → Value} {w w' : World} {lo g hi : Nat} {e : TypeId} {a : Option Addr} {n c : Nat} {xs : List α} (h : OwT (fun x => [f x]) w lo e (.slice a n c) xs) (hs : w'.heap.size = hi) (hg : w.heap.size ≤ g) (hw : ∀ j, j < w.heap.size → w'.heap[j]? = w.heap[j]?) (hz : w.heap.size ≤ hi) :
    Lsv f w' (fun j => lo ≤ j ∧ j < hi) g (.slice a n c) xs := by
  obtain ⟨a', c', hv, hsl⟩ := h.sl (k := 1) (fun _ => rfl)
  injection hv with e1 e2 e3
  subst e1 e2 e3
  refine ⟨a, _, c, rfl, hsl.to1.of_block fun b o ha hn => hw b (h.lt b (by rw [ha]; rfl)).2, fun b o ha hn => ?_⟩
  have := h.lt b (by rw [ha]; rfl)
  exact ⟨⟨this.1, by omega⟩, by omega⟩
theorem blk_keep {w w' : World} {g : Nat} {o : Obj} (h : w.heap[g]? = some o) (hb : Below w.heap.size w w') : w'.heap[g]? = some o := (hb.block g (Array.getElem?_eq_some_iff.1 h).1).trans h
set_option maxRecDepth 100000 in
set_option maxHeartbeats 2000000 in
theorem newSource_any (ab : Option Addr) (nb cb : Nat) (bs : List UInt8) (ag : Option Addr) (ng cg : Nat) (gs : List Int) (fail : Int) (eager : Bool) (w : World) (hnb : nb ≤ 140737488351232) (hng : ng ≤ 17592186043904) (hI : Ints gs) (hB : Sl Bf w ab nb cb bs) (hG : Sl fZ w ag ng cg gs) :
    Calls Try.prog 31 #[.agg #[.slice ab nb cb, .slice ag ng cg, .int .i64 fail, .bool eager]] w fun e w' => ∃ g S, e = .returned (.pointer (some ⟨g, 0, none⟩)) ∧ SrcP g w.heap.size ⟨gs, fail, 0, bs, eager⟩ S w' ∧ Below w.heap.size w w' := by
  have b1 : Below w.heap.size w (w.alloc (.cells #[.slice ab nb cb, .slice ag ng cg, .int .i64 fail, .bool eager] 63)) := (Below.refl _ _).alloc (Nat.le_refl _) _
  have HB := Lib.hid (hB.keep b1)
  have HG := Lib.hid (hG.keep b1)
  have BX := Lib.hid (heap_new w (.cells #[.slice ab nb cb, .slice ag ng cg, .int .i64 fail, .bool eager] 63))
  have c0 := cell_of BX.out 0 rfl
  have c1 := cell_of BX.out 1 rfl
  have c2 := cell_of BX.out 2 rfl
  have c3 := cell_of BX.out 3 rfl
  have BW := Lib.hid b1
  have HI := Lib.hid hI
  clear hB hG hI b1
  go_enter Try.func31, Try.ntmps31
  go_wp2_with fail
  generalize w.alloc (.cells #[.slice ab nb cb, .slice ag ng cg, .int .i64 fail, .bool eager] 63) = w1 at *
  obtain ⟨g1, hg1⟩ : ∃ g1, w.heap.size = g1 := ⟨_, rfl⟩
  have HG1 := Lib.hid hg1
  rw [hg1] at c0 c1 c2 c3 BX BW ⊢
  clear hg1
  go_region_held3 (fun w' => w'.cell? ⟨g1, 0, none⟩ = some (.slice ab nb cb) ∧ w'.cell? ⟨g1, 1, none⟩ = some (.slice ag ng cg) ∧ w'.cell? ⟨g1, 2, none⟩ = some (.int .i64 fail) ∧ w'.cell? ⟨g1, 3, none⟩ = some (.bool eager)) (first | go_keep | assumption) (first
    | ((go_at_call 58; refine (cloneZ_any ag ng cg gs _ hng (by exact HG.out)).mono ?_; rintro e w3 ⟨v, rfl, ho, hb⟩; obtain ⟨a3, k3, rfl, -⟩ := ho.slZ; have OZ := Lib.hid ho; have H3 : Hid (Below w1.heap.size w1 w3) := Lib.hid (((Below.refl _ _).drew).trans hb); have BX3 := Lib.hid (blk_keep BX.out H3.out); have d0 := cell_of BX3.out 0 rfl; have d1 := cell_of BX3.out 1 rfl; have d2 := cell_of BX3.out 2 rfl; have d3 := cell_of BX3.out 3 rfl; have HB3 := Lib.hid (HB.out.keep H3.out); clear ho hb))
    | ((go_at_call 42; refine (clone_any ab nb cb bs _ hnb (by exact HB3.out)).mono ?_; rintro e w4 ⟨v, rfl, ho, hb⟩; obtain ⟨a4, n4, k4, rfl, -⟩ := ho.slN; have OB := Lib.hid ho; have H4 := Lib.hid hb; have BX4 := Lib.hid (blk_keep BX3.out H4.out); have e0 := cell_of BX4.out 0 rfl; have e1 := cell_of BX4.out 1 rfl; have e2 := cell_of BX4.out 2 rfl; have e3 := cell_of BX4.out 3 rfl; clear ho hb)))
  all_goals
    go_wp2_with fail
    go_ret
    try rw [HG1.out]
    have hz1 : g1 ≤ w1.heap.size := by have := BW.out.size; have := HG1.out; omega
    have hz3 := H3.out.size
    have hz4 := H4.out.size
    have bF : Below w1.heap.size w1 (w4.alloc (.cells #[.slice a3 gs.length k3, .int .i64 fail, .int .i64 0, .slice a4 n4 k4, .bool eager] 103)) := ((H3.out.trans (H4.out.mono hz3)).alloc (by omega) _)
    have hs : (w4.alloc (.cells #[.slice a3 gs.length k3, .int .i64 fail, .int .i64 0, .slice a4 n4 k4, .bool eager] 103)).heap.size = w4.heap.size + 1 := by simp
    have oz := (OZ.out.keep H4.out).base (base' := g1) hz1
    have ob := OB.out.base (base' := g1) (Nat.le_trans hz1 hz3)
    have hn := fun j (hj : j < w4.heap.size) => Below.heap_alloc w4 (.cells #[.slice a3 gs.length k3, .int .i64 fail, .int .i64 0, .slice a4 n4 k4, .bool eager] 103) j hj
    refine ⟨w4.heap.size, fun j => g1 ≤ j ∧ j < w4.heap.size + 1, rfl, ⟨⟨_, _, heap_new w4 _, oz.lsv hs (Nat.le_refl _) hn (by omega), ob.lsv hs (Nat.le_refl _) hn (by omega)⟩, ⟨by omega, by omega⟩, fun j hj => ⟨hj.1, by rw [hs]; exact hj.2⟩, HI.out⟩, ?_⟩
    exact BW.out.trans (bF.mono hz1)
end Go.Proofs.Ytljcogimeimknaa
/- Readers and writers of any make: what a call tells, what it leaves; what Copy hands on: plain words; in memory. No condition. -/
namespace Go.Proofs.Ytljcogimeimknaa
open Go.RowKit
set_option maxRecDepth 100000
set_option linter.unusedVariables false

/-- a reader in plain words: the number, the error, what is laid at the buffer's head, what it is then; how much it can give still; how many calls there were -/
structure Rm (σ : Type) where
  num : σ → Nat → Int
  er : σ → Nat → Int
  lay : σ → Nat → List UInt8
  nxt : σ → Nat → σ
  mu : σ → Nat
  cnt : σ → Nat
  numB : ∀ s n, n ≤ 65537 → -9223372036854775808 ≤ num s n ∧ num s n ≤ 9223372036854775807
  layN : ∀ s n, (lay s n).length ≤ n
  layE : ∀ s n, 0 ≤ num s n → num s n ≤ n → ((lay s n).length : Int) = num s n
  muL : ∀ s n, er s n = 0 → 0 < num s n → num s n ≤ n → mu (nxt s n) < mu s
  muE : ∀ s n, er s n = 0 → mu (nxt s n) ≤ mu s
  cntS : ∀ s n, cnt (nxt s n) = cnt s + 1
  vol : σ → Nat → Nat
  volS : ∀ s n, 0 ≤ num s n → num s n ≤ n → vol (nxt s n) n + (num s n).toNat ≤ vol s n
/-- a writer in plain words -/
structure Wm (τ : Type) where
  num : τ → List UInt8 → Int
  er : τ → List UInt8 → Int
  nxt : τ → List UInt8 → τ
  cnt : τ → Nat
  room : τ → Nat
  numB : ∀ t p, p.length ≤ 65537 → -9223372036854775808 ≤ num t p ∧ num t p ≤ 9223372036854775807
  cntS : ∀ t p, cnt (nxt t p) = cnt t + 1
  roomS : ∀ t p, 0 ≤ num t p → num t p ≤ p.length → room (nxt t p) ≤ room t + (num t p).toNat
/-- how many calls running that move nothing -/
def waitN (wt : Nat) (moved : Bool) : Nat := if moved then 0 else wt + 1
section
variable {σ τ : Type} (R : Rm σ) (V : Wm τ)
end
section
variable {σ τ : Type} {R : Rm σ} {V : Wm τ}
theorem waitN_move (wt : Nat) : waitN wt true = 0 := rfl
theorem waitN_idle (wt : Nat) : waitN wt false = wt + 1 := rfl
variable {size F gv wt tk : Nat} {s : σ} {t : τ}
end
/-- a reader in memory: St s S w: in state s, its blocks S -/
structure Reader {σ : Type} (R : Rm σ) (fn : FuncId) (v : Value) (lo Bd : Nat) (St : σ → (Nat → Prop) → World → Prop) (bd : Nat) : Prop where
  frame : ∀ s S T w w', St s S w → Turns T w w' → (∀ j, S j → ¬ T j) → (∀ j, T j → bd ≤ j) → St s S w'
  inS : ∀ s S w, St s S w → ∀ j, S j → lo ≤ j ∧ j < w.heap.size
  read : ∀ s S w g n c (zs : List UInt8), St s S w → R.cnt s < Bd → n ≤ zs.length → n ≤ c → n ≤ 65537 → w.heap[g]? = some (.cells (zs.map Bf).toArray 5 (0, 0)) → ¬ S g → bd ≤ g →
    Calls Try.prog fn #[v, .slice (some ⟨g, 0, none⟩) n c] w fun e w' => e = .returned (.tuple #[.int .i64 (R.num s n), .int .i64 (R.er s n)]) ∧ ∃ S', St (R.nxt s n) S' w' ∧ (∀ j, S' j → S j ∨ w.heap.size ≤ j) ∧
      Turns (fun j => S j ∨ j = g) w w' ∧ w'.heap[g]? = some (.cells ((R.lay s n ++ zs.drop (R.lay s n).length).map Bf).toArray 5 (0, 0))
/-- a writer in memory -/
structure Writer {τ : Type} (V : Wm τ) (fn : FuncId) (v : Value) (lo Bd Rm : Nat) (St : τ → (Nat → Prop) → World → Prop) (bd : Nat) : Prop where
  frame : ∀ s S T w w', St s S w → Turns T w w' → (∀ j, S j → ¬ T j) → (∀ j, T j → bd ≤ j) → St s S w'
  inS : ∀ s S w, St s S w → ∀ j, S j → lo ≤ j ∧ j < w.heap.size
  write : ∀ t S w ap n c (xs : List UInt8), St t S w → V.cnt t < Bd → V.room t + n ≤ Rm → n ≤ 65537 → Sl Bf w ap n c xs → (∀ b o, ap = some ⟨b, o, none⟩ → 0 < n → ¬ S b) →
    Calls Try.prog fn #[v, .slice ap n c] w fun e w' => e = .returned (.tuple #[.int .i64 (V.num t xs), .int .i64 (V.er t xs)]) ∧ ∃ S', St (V.nxt t xs) S' w' ∧ (∀ j, S' j → S j ∨ w.heap.size ≤ j) ∧ Turns S w w'
/-- the program's source -/
def srcM : Rm Src where
  num s n := (s.gives n).length
  er s n := s.err n
  lay s n := s.gives n
  nxt s n := s.next n
  mu s := s.left.length
  cnt s := s.calls
  numB s n hn := by have := s.gives_le n; exact ⟨by omega, by show ((s.gives n).length : Int) ≤ _; omega⟩
  layN s n := s.gives_le n
  layE s n _ _ := rfl
  muL s n he h _ := by
    have := congrArg List.length (s.parts n)
    rw [List.length_append] at this
    show (s.rest n).length < s.left.length
    have h : (0 : Int) < ((s.gives n).length : Nat) := h
    omega
  muE s n _ := by
    have := congrArg List.length (s.parts n)
    rw [List.length_append] at this
    show (s.rest n).length ≤ s.left.length
    omega
  cntS _ _ := rfl
  vol s _ := s.left.length
  volS s n _ _ := by
    have := congrArg List.length (s.parts n)
    rw [List.length_append] at this
    show (s.rest n).length + ((s.gives n).length : Int).toNat ≤ s.left.length
    rw [Int.toNat_natCast]
    omega
theorem srcR (g lo : Nat) : Reader srcM 151 (.pointer (some ⟨g, 0, none⟩)) lo 4611686018427387904 (SrcP g lo) 0 where
  frame _ _ _ _ _ h ht hd _ := h.turns ht hd
  inS _ _ _ h := h.inS
  read s S w gp n c zs h hc hn hnc hn2 hp hg _ := (sread_any g lo s S gp n c zs w h (by have : s.calls < 4611686018427387904 := hc; omega) hn hnc (by omega) hp hg).mono fun e w' ⟨h1, h2, h3, h4⟩ =>
    ⟨h1, S, h2, fun j hj => .inl hj, h3.mono fun j _ hj => by rcases hj with rfl | rfl; (exact .inl h.own); (exact .inr rfl), h4⟩
end Go.Proofs.Ytljcogimeimknaa
