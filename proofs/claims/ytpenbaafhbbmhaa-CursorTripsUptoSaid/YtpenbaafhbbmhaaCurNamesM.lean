/- CursorNames: what the examples answer, in plain words; an In in a long run of calls. No condition. -/
import Derived.Test.YtpenbaafhbbmhaaCurLives
import Derived.Test.YtpenbaafhbbmhaaCurTold
namespace Go.Proofs.Ytpenbaafhbbmhaa
open Go.RowKit Go.Shelf
set_option maxRecDepth 100000
set_option linter.unusedVariables false
set_option linter.unusedSimpArgs false

theorem newIn_nil (most : Int) (w : World) : Calls Try.prog 11 #[.nilIface, .int .i64 most] w fun r w' => r = .returned (.pointer none) ∧ w = w' := by
  go_enter Try.func11, Try.ntmps11
  go_wp2_with fail
  go_ret
  exact ⟨rfl, rfl⟩
theorem newOut_nil (w : World) : Calls Try.prog 22 #[.nilIface] w fun r w' => r = .returned (.pointer none) ∧ w = w' := by
  go_enter Try.func22, Try.ntmps22
  go_wp2_with fail
  go_ret
  exact ⟨rfl, rfl⟩
def cn (k : Nat) (l : List UInt8) (pl : Nat) (er : Int) : CIn Src := ⟨⟨[1, 0, 1], 0, k, l, false⟩, pl, er, 0, []⟩
theorem cn_1 : numM srcM 9 (cn 0 [5, 172, 2, 97, 98, 99] 0 0) = (5, 0, cn 1 [172, 2, 97, 98, 99] 1 0) := by rfl
theorem cn_2 : numM srcM 9 (cn 1 [172, 2, 97, 98, 99] 1 0) = (300, 0, cn 4 [97, 98, 99] 3 0) := by rfl
theorem cn_3 : bytesM srcM 9 2 (cn 4 [97, 98, 99] 3 0) = ([97, 98], 0, cn 5 [99] 5 0) := by rfl
theorem cn_4 : byteM srcM 9 (cn 5 [99] 5 0) = (99, 0, cn 6 [] 6 0) := by rfl
theorem cn_5 : endM srcM (cn 6 [] 6 0) = (true, 0, cn 7 [] 6 0) := by rfl
theorem cn_6 : byteM srcM 9 (cn 7 [] 6 0) = (0, 41, cn 8 [] 6 41) := by rfl
theorem cn_7 : bytesM srcM 9 10 (cn 0 [5, 172, 2, 97, 98, 99] 0 0) = ([], 42, cn 0 [5, 172, 2, 97, 98, 99] 0 42) := by rfl
theorem cn_8 : bytesM srcM 9 1 (cn 0 [5, 172, 2, 97, 98, 99] 0 42) = ([], 42, cn 0 [5, 172, 2, 97, 98, 99] 0 42) := by rfl
theorem cn_ok {k : Nat} {l : List UInt8} {pl : Nat} {er : Int} (hp : pl ≤ 9) (hl : l.length ≤ 6) (hk : k ≤ 9) : Okay srcM (SrcLe 6) 9 200 (cn k l pl er) :=
  { idle := fun _ => Nat.zero_le _, id2 := Nat.zero_le _, pl := by show (pl : Int) ≤ 9; omega, held := Nat.zero_le _, p := hl, bud := by show k + l.length * 17 ≤ 200; omega }
def cx0 (x : UInt8) : COut Snk := ⟨⟨[], 2, 0, []⟩, [] ++ List.replicate 5000 x, 0, 0, 0⟩
theorem cx_flush (x : UInt8) : (flushM snkM (cx0 x)).er = 32 ∧ (flushM snkM (cx0 x)).q.length = 904 := by
  have q0 : (cx0 x).q = List.replicate 5000 x := rfl
  have p1 : (cx0 x).q.take 4096 = List.replicate 4096 x := by rw [q0, List.take_replicate]; rfl
  have ne0 : (cx0 x).q ≠ [] := by rw [q0]; intro h; have := congrArg List.length h; simp at this
  have l1 : (List.replicate 4096 x).length = 4096 := List.length_replicate
  have n1 : snkM.num (cx0 x).t (List.replicate 4096 x) = ((4096 : Nat) : Int) := by
    show (((cx0 x).t.takes (List.replicate 4096 x).length : Nat) : Int) = _
    rw [l1]; rfl
  have e1 : pushM snkM (cx0 x) = _ := push_go (V := snkM) rfl ne0 p1 n1 (by rw [l1]; exact Nat.le_refl _) rfl (by show waitN 0 (decide (0 < 4096)) ≠ 16; decide)
  obtain ⟨c1, hc1⟩ : ∃ c1 : COut Snk, c1 = ⟨snkM.nxt (cx0 x).t (List.replicate 4096 x), (cx0 x).q.drop 4096, 4096, 0, 0⟩ := ⟨_, rfl⟩
  have e1' : (pushM snkM (cx0 x)).2.2 = c1 := by rw [e1, hc1]; rfl
  have q1 : c1.q = List.replicate 904 x := by rw [hc1]; show (cx0 x).q.drop 4096 = _; rw [q0, List.drop_replicate]
  have t1 : c1.t.fail = 2 ∧ c1.t.calls = 1 ∧ c1.t.most = [] := by rw [hc1]; exact ⟨rfl, rfl, rfl⟩
  have r1 : c1.er = 0 := by rw [hc1]
  have ne1 : c1.q ≠ [] := by rw [q1]; intro h; have := congrArg List.length h; simp at this
  have br : c1.t.broken = true := by unfold Snk.broken; rw [t1.1, t1.2.1]; rfl
  have n2 : snkM.num c1.t (c1.q.take 4096) = ((0 : Nat) : Int) := by
    show ((c1.t.takes _ : Nat) : Int) = _
    unfold Snk.takes; rw [if_pos br]
  have er2 : snkM.er c1.t (c1.q.take 4096) = 32 := by
    show ((c1.t.err : Nat) : Int) = _
    unfold Snk.err; rw [if_pos br]; rfl
  have e2 : pushM snkM c1 = _ := push_err (V := snkM) r1 ne1 rfl n2 (Nat.zero_le _) er2 (by decide)
  have F : (cx0 x).q.length * 17 + 17 = 85015 + 1 + 1 := by rw [q0, List.length_replicate]
  unfold flushM
  rw [F, flush_go ne0 rfl, e1', flush_go ne1 r1, e2, flush_end (.inr (by show (32 : Int) ≠ 0; decide))]
  exact ⟨rfl, by show (c1.q.drop 0).length = _; rw [List.drop_zero, q1, List.length_replicate]⟩
theorem flush_lay {τ : Type} {c : COut τ} (h : c.er ≠ 0) (xs : List UInt8) : layM xs c = c := by unfold layM; rw [if_neg h]
/-- an In in a long run: its blocks lie between A and Z, or are new -/
structure CPh (g lo gc : Nat) (most : Int) (T : TypeId) (A Z H : Nat) (c : CIn Src) (S : Nat → Prop) (w0 W : World) : Prop where
  io : InP W gc most (.iface T (.pointer (some ⟨g, 0, none⟩))) c.pl c.er c.idle c.held
  st : SrcP g lo c.s S W
  ng : ¬ S gc
  sub : ∀ j, S j → A ≤ j ∧ j < Z ∨ H ≤ j
  gz : A ≤ gc ∧ gc < Z
  hz : H ≤ W.heap.size
  tu : Turns (fun j => A ≤ j ∧ j < Z ∨ H ≤ j) w0 W
section
variable {g lo gc : Nat} {most : Int} {T : TypeId} {A Z H : Nat} {c c' : CIn Src} {S S' : Nat → Prop} {w0 W W' : World}
theorem CPh.step (h : CPh g lo gc most T A Z H c S w0 W) (hA : InA (SrcP g lo) gc most (.iface T (.pointer (some ⟨g, 0, none⟩))) W S c' S' W') : CPh g lo gc most T A Z H c' S' w0 W' where
  io := hA.io
  st := hA.st
  ng := fun e => by
    rcases hA.sub gc e with q | q
    · exact h.ng q
    · have := h.io.lt; omega
  sub j hj := by
    rcases hA.sub j hj with q | q
    · exact h.sub j q
    · have := h.hz; exact .inr (by omega)
  gz := h.gz
  hz := Nat.le_trans h.hz hA.tu.size
  tu := h.tu.trans hA.tu fun j _ e => by
    rcases e with e | e
    · exact h.sub j e
    · rw [e]; exact .inl h.gz
theorem CPh.keep (h : CPh g lo gc most T A Z H c S w0 W) (hb : Below W.heap.size W W') : CPh g lo gc most T A Z H c S w0 W' where
  io := h.io.turns (Turns.of_below (S := fun _ => False) hb) id
  st := h.st.keep hb
  ng := h.ng
  sub := h.sub
  gz := h.gz
  hz := Nat.le_trans h.hz hb.size
  tu := h.tu.trans_below hb
theorem CPh.rebase (h : CPh g lo gc most T A Z H c S w0 W) (hs : ∀ j, S j → A ≤ j ∧ j < Z) {H2 : Nat} (hH : H2 ≤ W.heap.size) : CPh g lo gc most T A Z H2 c S W W where
  io := h.io
  st := h.st
  ng := h.ng
  sub := fun j hj => .inl (hs j hj)
  gz := h.gz
  hz := hH
  tu := .refl _ _
/-- bytes that were handed out stay, whatever is asked next -/
theorem InA.bytes {rv bv : Value} {base : Nat} {xs : List UInt8} (hA : InA (SrcP g lo) gc most rv W S c' S' W') (ho : OwT fB W base 5 bv xs) (hn : ∀ j, bv.ownBlock = some j → ¬ S j ∧ j ≠ gc) : OwT fB W' base 5 bv xs ∧ ∀ j, bv.ownBlock = some j → ¬ S' j ∧ j ≠ gc :=
  ⟨ho.turns hA.tu fun j hj e => by rcases e with e | e; (exact (hn j hj).1 e); (exact (hn j hj).2 e), fun j hj => ⟨fun e => by
    rcases hA.sub j e with q | q
    · exact (hn j hj).1 q
    · have := (ho.lt j hj).2; omega, (hn j hj).2⟩⟩
end
end Go.Proofs.Ytpenbaafhbbmhaa
