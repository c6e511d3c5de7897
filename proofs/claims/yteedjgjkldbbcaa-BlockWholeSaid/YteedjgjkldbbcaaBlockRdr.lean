/- block.tried, and a reader of blocks in memory. Condition: what is done ends, or is given up by a wrong. -/
import Derived.Test.YteedjgjkldbbcaaTurns
import Derived.Defers
import Derived.Recover
import Derived.WalkLawsBesides
import Derived.WalkSpells
import Derived.Test.YteedjgjkldbbcaaBlockRM
import Derived.Test.YteedjgjkldbbcaaPairRdDef
namespace Go.Proofs.Yteedjgjkldbbcaa
open Go.RowKit
set_option linter.unusedVariables false

/-- what a reader gives up by -/
def wrongBy (e q : Int) : Ending := .panicked [{ v := .iface 86 (.agg #[.int .i64 e, .int .i64 q]), recovered := false }]
/-- the cell of the named result -/
def WB (w : World) (g : Nat) (e q : Int) : Prop := w.heap[g]? = some (.cells #[.int .i64 e, .int .i64 q] 86 (0, 0))
theorem assertW (v : Value) (w : World) : (Instr.typeAssert (.iface 86 v) 20 86 false).run Try.prog w = .ok v w := by kernel_rfl
theorem WB.set {w : World} {g : Nat} {x y : Int} (h : WB w g x y) (e q : Int) : WB ((w.setCell ⟨g, 0, none⟩ (.int .i64 e)).setCell ⟨g, 1, none⟩ (.int .i64 q)) g e q := by
  unfold WB at h ⊢
  have h1 := set_block (i := 0) h (.int .i64 e)
  have h2 := set_block (i := 1) h1 (.int .i64 q)
  rw [h2]; rfl
set_option maxRecDepth 100000 in
theorem caught (g : Nat) (x y e q : Int) (w : World) (h : WB w g x y) :
    CallsD Try.prog 74 #[.pointer (some ⟨g, 0, none⟩)] (.panicking [{ v := .iface 86 (.agg #[.int .i64 e, .int .i64 q]), recovered := false }]) w fun r u' w' =>
      r = .returned (.tuple #[]) ∧ u' = .panicking [{ v := .iface 86 (.agg #[.int .i64 e, .int .i64 q]), recovered := true }] ∧ WB w' g e q ∧ Turns (fun j => j = g) w w' := by
  have c0 := cell_of h 0 rfl
  have c1 := cell_of h 1 rfl
  have z0 := free_block h 0
  have z1 := free_block h 1
  refine callsD_of_wpS Try.func74 rfl fun c₀ cs hu => ?_
  apply wpS_seq
  apply wpS_region
  simp [wpOpsS, go_sem, recoverD, hu, Try.ntmps74, Exit.thenS]
  apply wpS_seq
  apply wpS_region
  simp [wpOpsS, go_sem, recoverD, Exit.thenS]
  refine wpS_cond (t := true) (by simp [Act.eval, Array.replicate]) ?_
  simp only [if_true]
  apply wpS_region
  simp [wpOpsS, go_sem, assertW, c0, c1, z0, z1, bodyPostS, results, Try.results74]
  exact ⟨h.set e q, (Turns.set (S := fun j => j = g) _ rfl _).trans (T := fun j => j = g) (Turns.set (S := fun j => j = g) _ rfl _) fun _ _ t => t⟩
set_option maxRecDepth 100000 in
theorem idle (g : Nat) (w : World) :
    CallsD Try.prog 74 #[.pointer (some ⟨g, 0, none⟩)] .returning w fun e u' w' => e = .returned (.tuple #[]) ∧ u' = .returning ∧ w' = w := by
  refine callsD_of_wpS Try.func74 rfl fun c₀ cs hu => ?_
  apply wpS_seq
  apply wpS_region
  simp [wpOpsS, go_sem, recoverD, hu, Try.ntmps74, Exit.thenS]
  apply wpS_seq
  apply wpS_region
  simp [wpOpsS, go_sem, recoverD, Exit.thenS]
  refine wpS_cond (t := false) (by simp [Act.eval, Array.replicate]) ?_
  simp only [Bool.false_eq_true, if_false]
  refine wpS_of_wp (wp_skip ?_)
  cases c₀
  simp_all [bodyPostS, results, Try.results74]
set_option maxRecDepth 100000 in
theorem tried_any (fn : FuncId) (caps : Array Value) (Q : Int → Int → World → Prop) (w : World) (hr : ∀ (args : Array Value) (W : World), (callFunc fn args).run Try.prog W = .ok (.enter fn args) W)
    (h : Calls Try.prog fn caps (w.alloc (.cells #[.int .i64 0, .int .i64 0] 86)) fun r w2 => ∃ e q : Int, ((e = 0 ∧ q = 0 ∧ r = .returned (.tuple #[])) ∨ r = wrongBy e q) ∧ Q e q w2 ∧ WB w2 w.heap.size 0 0) :
    Calls Try.prog 53 #[.func (.func fn) #[] caps] w fun r w' => ∃ (e q : Int) (w2 : World), r = .returned (.agg #[.int .i64 e, .int .i64 q]) ∧ Q e q w2 ∧ Turns (fun j => j = w.heap.size) w2 w' := by
  have hmf : ∀ (fn : Fn) (first cap : Array Value) (w : World), (Instr.makeFunc fn first cap).run Try.prog w = .ok (.func fn first cap) w := fun _ _ _ _ => rfl
  have H := Lib.hid h; clear h
  go_enter_defers Try.func53, Try.ntmps53
  go_wp2_with fail
  refine H.out.mono ?_
  rintro r w2 ⟨e, q, hr2, hQ, hW⟩
  rcases hr2 with ⟨rfl, rfl, rfl⟩ | rfl
  · go_wp2_with fail
    refine leaves_cons (f := 74) (args := #[.pointer (some ⟨w.heap.size, 0, none⟩)]) (by simp) (by simp [go_sem]) ?_
    refine (idle w.heap.size _).mono ?_
    rintro e u' w'' ⟨rfl, rfl, rfl⟩
    have c0 := cell_of hW 0 rfl
    have c1 := cell_of hW 1 rfl
    simp [Leaves, settle, results, Try.results53, go_sem, c0, c1]
    exact ⟨0, 0, ⟨rfl, rfl⟩, w'', hQ, .refl _ _⟩
  · unfold wrongBy
    go_wp2_with fail
    refine leaves_cons (f := 74) (args := #[.pointer (some ⟨w.heap.size, 0, none⟩)]) (by simp) (by simp [go_sem]) ?_
    refine (caught w.heap.size 0 0 e q _ hW).mono ?_
    rintro r u' w'' ⟨rfl, rfl, hw, ht⟩
    have c0 := cell_of hw 0 rfl
    have c1 := cell_of hw 1 rfl
    simp [Leaves, settle, results, Try.results53, go_sem, c0, c1]
    exact ⟨e, q, ⟨rfl, rfl⟩, w2, hQ, ht⟩
abbrev fI (a : Nat) : List Value := [.int .i64 (a : Nat)]
theorem fI_len (x : Nat) : (fI x).length = 1 := rfl
theorem eltTI : EltT Try.prog 50 3 fI 1 8 := by
  have hi : (Try.prog.info? 3).map (fun i => (i.zero, i.size, i.bytes)) = some (some (.int .i64 0), 1, 8) := by kernel_rfl
  obtain ⟨i, hi1, hi2, hi3, hi4⟩ := info_parts hi
  exact ⟨Try.underlying50, ⟨i, _, hi1, hi2, hi3, hi4, 0, rfl⟩, fun _ => rfl, by decide, fun x u hu => by simp [fI] at hu; rw [hu]; rfl⟩
theorem OwT.slR {w : World} {base : Nat} {e : TypeId} {v : Value} {vs : List Nat} (h : OwT fI w base e v vs) : ∃ a n c, v = .slice a n c ∧ n = vs.length ∧ n ≤ c := by
  obtain ⟨a, c, hv, hs⟩ := h.sl fI_len
  exact ⟨a, _, c, hv, rfl, hs.2.1⟩
theorem SlT.litI (w : World) (x g : Nat) (hg : w.heap.size = g) : SlT fI 1 (w.alloc (.cells #[.int .i64 (x : Nat)] 3)) (some ⟨g, 0, none⟩) 1 1 [x] := by
  subst hg
  obtain ⟨a, c, hv, hs⟩ := (OwT.lit fI w w.heap.size 3 #[.int .i64 (x : Nat)] [x] 1 rfl rfl (Nat.le_refl _) (by decide)).sl fI_len
  cases hv; exact hs
/-- a reader: the bytes, how many entries, how many were read, the place, the last key, the restarts -/
structure Rdr (w : World) (lo g : Nat) (ab : Option Addr) (nb cb n d a : Nat) (vl vr : Value) (last : List UInt8) (runs : List Nat) : Prop where
  blk : w.heap[g]? = some (.cells #[.slice ab nb cb, .int .i64 (n : Nat), .int .i64 (d : Nat), .int .i64 (a : Nat), vl, vr] 90 (0, 0))
  rl : OwT fB w lo 5 vl last
  rr : OwT fI w lo 3 vr runs
  ol : Off vl g
  orr : Off vr g
  dis : ∀ b, vl.ownBlock = some b → vr.ownBlock ≠ some b
  low : lo ≤ g
  nil : vl = .slice none 0 0 ∧ last = [] ∨ 0 < last.length
def RdS (g : Nat) (vl vr : Value) (j : Nat) : Prop := j = g ∨ vl.ownBlock = some j ∨ vr.ownBlock = some j
section
variable {w w1 : World} {lo g nb cb n d a : Nat} {ab : Option Addr} {vl vr : Value} {last : List UInt8} {runs : List Nat}
theorem Rdr.lt (h : Rdr w lo g ab nb cb n d a vl vr last runs) : g < w.heap.size := (Array.getElem?_eq_some_iff.1 h.blk).1
theorem Rdr.inS (h : Rdr w lo g ab nb cb n d a vl vr last runs) : ∀ j, RdS g vl vr j → lo ≤ j ∧ j < w.heap.size := fun j hj => by
  rcases hj with rfl | hj | hj
  · exact ⟨h.low, h.lt⟩
  · exact h.rl.lt j hj
  · exact h.rr.lt j hj
theorem Rdr.turns {S : Nat → Prop} (h : Rdr w lo g ab nb cb n d a vl vr last runs) (ht : Turns S w w1) (hs : ∀ j, RdS g vl vr j → ¬ S j) : Rdr w1 lo g ab nb cb n d a vl vr last runs :=
  ⟨ht.heap h.blk (hs g (.inl rfl)), h.rl.turns ht fun j hj => hs j (.inr (.inl hj)), h.rr.turns ht fun j hj => hs j (.inr (.inr hj)), h.ol, h.orr, h.dis, h.low, h.nil⟩
theorem Rdr.keep (h : Rdr w lo g ab nb cb n d a vl vr last runs) (hb : Below w.heap.size w w1) : Rdr w1 lo g ab nb cb n d a vl vr last runs := h.turns (S := fun _ => False) (.of_below hb) fun _ _ e => e
theorem Rdr.drewN (h : Rdr w lo g ab nb cb n d a vl vr last runs) (m : Nat) : Rdr (w.drewN m) lo g ab nb cb n d a vl vr last runs := h.keep (keep_drewN (Below.refl _ _) m)
theorem Rdr.c0 (h : Rdr w lo g ab nb cb n d a vl vr last runs) : w.cell? ⟨g, 0, none⟩ = some (.slice ab nb cb) := cell_of h.blk 0 rfl
theorem Rdr.c1 (h : Rdr w lo g ab nb cb n d a vl vr last runs) : w.cell? ⟨g, 1, none⟩ = some (.int .i64 (n : Nat)) := cell_of h.blk 1 rfl
theorem Rdr.c2 (h : Rdr w lo g ab nb cb n d a vl vr last runs) : w.cell? ⟨g, 2, none⟩ = some (.int .i64 (d : Nat)) := cell_of h.blk 2 rfl
theorem Rdr.c3 (h : Rdr w lo g ab nb cb n d a vl vr last runs) : w.cell? ⟨g, 3, none⟩ = some (.int .i64 (a : Nat)) := cell_of h.blk 3 rfl
theorem Rdr.c4 (h : Rdr w lo g ab nb cb n d a vl vr last runs) : w.cell? ⟨g, 4, none⟩ = some vl := cell_of h.blk 4 rfl
theorem Rdr.c5 (h : Rdr w lo g ab nb cb n d a vl vr last runs) : w.cell? ⟨g, 5, none⟩ = some vr := cell_of h.blk 5 rfl
theorem Rdr.free (h : Rdr w lo g ab nb cb n d a vl vr last runs) (i : Nat) : w.frozen? ⟨g, i, none⟩ = false := free_block h.blk i
theorem Rdr.num (h : Rdr w lo g ab nb cb n d a vl vr last runs) (k : Nat) : Rdr (w.setCell ⟨g, 2, none⟩ (.int .i64 (k : Nat))) lo g ab nb cb n k a vl vr last runs :=
  ⟨set_block (i := 2) h.blk _, h.rl.of_block fun j hj => Below.heap_setCell _ _ _ _ (h.ol j hj), h.rr.of_block fun j hj => Below.heap_setCell _ _ _ _ (h.orr j hj), h.ol, h.orr, h.dis, h.low, h.nil⟩
theorem Rdr.place (h : Rdr w lo g ab nb cb n d a vl vr last runs) (k : Nat) : Rdr (w.setCell ⟨g, 3, none⟩ (.int .i64 (k : Nat))) lo g ab nb cb n d k vl vr last runs :=
  ⟨set_block (i := 3) h.blk _, h.rl.of_block fun j hj => Below.heap_setCell _ _ _ _ (h.ol j hj), h.rr.of_block fun j hj => Below.heap_setCell _ _ _ _ (h.orr j hj), h.ol, h.orr, h.dis, h.low, h.nil⟩
/-- the last key is laid anew -/
theorem Rdr.key {x : Value} {xs : List UInt8} (h : Rdr w lo g ab nb cb n d a vl vr last runs) (ho : OwT fB w lo 5 x xs) (hx : ∀ j, x.ownBlock = some j → ¬ RdS g vl vr j) (hn : 0 < xs.length) : Rdr (w.setCell ⟨g, 4, none⟩ x) lo g ab nb cb n d a x vr xs runs :=
  ⟨set_block (i := 4) h.blk _, ho.of_block fun j hj => Below.heap_setCell _ _ _ _ (fun e => hx j hj (.inl e)), h.rr.of_block fun j hj => Below.heap_setCell _ _ _ _ (h.orr j hj), fun j hj e => hx j hj (.inl e), h.orr, fun b hb hr => hx b hb (.inr (.inr hr)), h.low, .inr hn⟩
/-- a restart more -/
theorem Rdr.app {w0 : World} {x : Value} {ys : List Nat} (h : Rdr w lo g ab nb cb n d a vl vr last runs) (hw : Below w.heap.size w w0) (hg : w0.grownBy w1 vr.ownBlock) (ho : OwT fI w1 lo 3 x ys) (hx : x.ownBlock = vr.ownBlock ∨ x.ownBlock = some w0.heap.size) :
    w1.cell? ⟨g, 5, none⟩ = some vr ∧ w1.frozen? ⟨g, 5, none⟩ = false ∧ Rdr (w1.setCell ⟨g, 5, none⟩ x) lo g ab nb cb n d a vl x last ys ∧ Turns (RdS g vl vr) w w1 ∧ Turns (RdS g vl vr) w (w1.setCell ⟨g, 5, none⟩ x) ∧ ∀ j, RdS g vl x j → RdS g vl vr j ∨ w.heap.size ≤ j := by
  have ht : Turns (fun j => vr.ownBlock = some j) w w1 := (Turns.of_below hw).trans (.of_grown hg fun j e => e) fun _ _ e => e
  have hblk := ht.heap h.blk fun e => h.orr g e rfl
  have hz := hw.size
  have hxn : ∀ j, x.ownBlock = some j → vr.ownBlock = some j ∨ w.heap.size ≤ j := fun j hj => by
    rcases hx with e | e
    · exact .inl (e.symm.trans hj)
    · rw [e] at hj; injection hj with hj; exact .inr (by omega)
  have hxg : Off x g := fun j hj e => by
    rcases hxn j hj with h2 | h2
    · exact h.orr j h2 e
    · have := h.lt; omega
  have hlx : ∀ b, vl.ownBlock = some b → x.ownBlock ≠ some b := fun b hb hxb => by
    rcases hxn b hxb with h2 | h2
    · exact h.dis b hb h2
    · have := (h.rl.lt b hb).2; omega
  refine ⟨cell_of hblk 5 rfl, free_block hblk 5, ⟨set_block (i := 5) hblk _, ?_, ho.of_block fun j hj => Below.heap_setCell _ _ _ _ (hxg j hj), h.ol, hxg, hlx, h.low, h.nil⟩, ht.mono fun j _ hj => .inr (.inr hj), ?_, fun j hj => ?_⟩
  · exact (h.rl.turns ht fun j hj e2 => h.dis j hj e2).of_block fun j hj => Below.heap_setCell _ _ _ _ (h.ol j hj)
  · exact (ht.mono (T := RdS g vl vr) fun j _ hj => .inr (.inr hj)).trans (Turns.set (S := RdS g vl vr) w1 (.inl rfl) x) fun _ _ e => e
  · rcases hj with e | e | e
    · exact .inl (.inl e)
    · exact .inl (.inr (.inl e))
    · exact (hxn j e).imp (fun h => .inr (.inr h)) id
end
/-- behind a step: given up, or an entry of the call's own, the reader gone on -/
def NextPost (w : World) (lo g : Nat) (ab : Option Addr) (nb cb n d a : Nat) (vl vr : Value) (last : List UInt8) (runs : List Nat) (b : List UInt8) (r : Ending) (w' : World) : Prop :=
  ∃ (x : Ent) (q : Nat) (er : Int), erd (if d % 8 = 0 then [] else last) b a = (x, q, er) ∧ Turns (RdS g vl vr) w w' ∧
    (er ≠ 0 → r = wrongBy er q) ∧ (er = 0 → d % 8 = 0 ∧ 0 < last.length ∧ 0 ≤ cmp last x.1 → r = wrongBy 51 a) ∧
    (er = 0 → ¬ (d % 8 = 0 ∧ 0 < last.length ∧ 0 ≤ cmp last x.1) → ∃ vk vv vl' vr' mid, r = .returned (.agg #[vk, vv]) ∧ OwT fB w' w.heap.size 5 vk x.1 ∧ OwT fB w' mid 5 vv x.2 ∧ (∀ j, vk.ownBlock = some j → j < mid) ∧ w.heap.size ≤ mid ∧
      Rdr w' lo g ab nb cb n (d + 1) q vl' vr' x.1 (runs ++ if d % 8 = 0 then [a] else []) ∧ (∀ j, RdS g vl' vr' j → RdS g vl vr j ∨ w.heap.size ≤ j) ∧ ∀ j, RdS g vl' vr' j → vk.ownBlock ≠ some j ∧ vv.ownBlock ≠ some j)
/-- behind the reading of an entry in a step: where it lies -/
def ReadCut (w : World) (x : Ent) (q : Nat) (er : Int) (b5 b6 b7 : Value) (wx : World) : Prop :=
  ∃ gb vk vv mid, b5 = .pointer (some ⟨gb, 0, none⟩) ∧ b6 = .int .i64 q ∧ b7 = .int .i64 er ∧ Eb wx gb vk vv ∧ OwT fB wx w.heap.size 5 vk x.1 ∧ OwT fB wx mid 5 vv x.2 ∧ (∀ j, vk.ownBlock = some j → j < mid) ∧ w.heap.size ≤ mid ∧ w.heap.size ≤ gb ∧ Below w.heap.size w wx
theorem erd_in {p b : List UInt8} {z : Int} {x : Ent} {q : Nat} (h : erd p b z = (x, q, 0)) : 0 < x.1.length ∧ x.1.length ≤ 64 ∧ x.2.length ≤ 256 ∧ q ≤ b.length ∧ z < q ∧ (p.length = 0 ∨ cmp p x.1 < 0) := by
  unfold erd at h
  by_cases hz : 0 ≤ z ∧ z ≤ b.length
  · rw [if_pos hz] at h
    obtain ⟨hc, h1, h2, h3⟩ := pread_in h (by omega)
    refine ⟨?_, ?_, ?_, h2, by omega, h3⟩ <;> (unfold chk chkN keyN valN at hc; split at hc <;> split at hc <;> simp at hc <;> omega)
  · rw [if_neg hz] at h
    simp only [Prod.mk.injEq] at h
    exact absurd h.2.2 (by decide)
end Go.Proofs.Yteedjgjkldbbcaa
