/- Going through the numbers of bytes: what vint.All hands back, what List reads. Condition: the bytes within reach. -/
import Derived.Test.YthiebpiohkfjgaaVintNumsM
import Derived.Test.YthiebpiohkfjgaaVintSize
import Derived.Test.YthiebpiohkfjgaaVintRead
import Derived.Test.YthiebpiohkfjgaaVintWrites
import Derived.Test.YthiebpiohkfjgaaRowIn
import Derived.RangeFuncBox
import Derived.RangeFuncNested
import Derived.RangeFuncBound
import Derived.RangeFuncCalls
import Derived.RangeFuncLeaves
import Derived.Shelf.Abstract
import Derived.OwnWalkIn
import Derived.TacticsInMore
import Derived.LoopNIn
import Derived.LoopIn
namespace Go.Proofs.Ythiebpiohkfjgaa
open Go.RowKit Go.Shelf
attribute [local go_sem] Oper.semAt_some

/-- a place and a number, within their bounds -/
abbrev NP := { x : Nat × Nat // x.1 ≤ 1000000000000000 ∧ x.2 < 18446744073709551616 }
/-- what a round keeps: what lay below n₀, and the box -/
def Kb (n₀ Bx : Nat) (A B : World) : Prop := Below n₀ A B ∧ ∀ o, A.heap[Bx]? = some o → B.heap[Bx]? = some o
theorem Kb.t {n₀ Bx : Nat} {A B C : World} (h : Kb n₀ Bx A B) (k : Kb n₀ Bx B C) : Kb n₀ Bx A C := ⟨h.1.trans k.1, fun o ho => k.2 o (h.2 o ho)⟩
theorem Kb.b {n₀ Bx : Nat} {w : World} (hn : n₀ ≤ w.heap.size) (hx : Bx < w.heap.size) (W : World) (l : Nat) (o o' : Obj) (hl : w.heap.size ≤ l) (h : W.heap[l]? = some o) (hc : o.isCells = false) (hw : o.isWalk = false) : Kb n₀ Bx W (W.putObj l o') :=
  ⟨belowK_b hn W l o o' hl h hc hw, fun x hx2 => by
    have hlt := (Array.getElem?_eq_some_iff.1 hx2).1
    exact ((grownBy_putObj' W l o').block Bx hlt (by intro e; injection e; omega)).trans hx2⟩

set_option maxRecDepth 100000 in
set_option maxHeartbeats 2000000 in
theorem all1_in (l Bx n₀ : Nat) (a : Option Addr) (c : Nat) (b : List UInt8) (hn : b.length ≤ 1000000000000000) (J Jx : List NP → World → Prop)
    (hY : ∀ pre x W, J pre W → pre.length < (nums b).length → YieldAt Fence.wide 2 Try.prog l #[.int .i64 (x.1.1 : Nat), .int .u64 (x.1.2 : Nat)] W fun e W' =>
      (e = .returned (.bool true) ∧ J (pre ++ [x]) W' ∧ Kb n₀ Bx W W') ∨ (e = .returned (.bool false) ∧ Jx (pre ++ [x]) W'))
    (hJ : ∀ pre W W', J pre W → Below W.heap.size W W' → J pre W')
    (W : World) (hBx : Boxed W Bx 22 (.slice a b.length c)) (hS : Sl Bf W a b.length c b) (hSn : ∀ b' o, a = some ⟨b', o, none⟩ → 0 < b.length → b' < n₀) (hW : n₀ ≤ W.heap.size) (h0 : J [] W) :
    CallsIn Fence.wide 3 Try.prog 34 #[.func (.yield l) #[] #[], .pointer (some ⟨Bx, 0, none⟩)] W fun e W' => (∃ v, e = .returned v) ∧
      ((∃ ys, ys.map Subtype.val = nums b ∧ J ys W') ∨ (∃ pre, pre.map Subtype.val <+: nums b ∧ Jx pre W')) := by
  have HY := Lib.hid hY; clear hY
  have HJ := Lib.hid hJ; clear hJ
  have HB := Lib.hid hBx; clear hBx
  have HS := Lib.hid hS; clear hS
  have HN := Lib.hid hSn; clear hSn
  refine callsIn_of_wp Try.func34 rfl trivial ?_ rfl
  simp only [Try.ntmps34, List.size_toArray, List.length_cons, List.length_nil, Nat.reduceAdd, Nat.reduceSub, Array.replicate_succ, Array.replicate_zero, List.push_toArray, List.append_toArray, List.nil_append, List.cons_append]
  gi_wp2
  gi_loopw [3] (fun i wr => ∃ (k f : Nat) (pre : List NP), i = .int .i64 k ∧ Left b (pre.map Subtype.val) k f ∧ J pre wr ∧ Below n₀ W wr ∧ Boxed wr Bx 22 (.slice a b.length c)) (fun i _ => b.length - (intOf i).toNat)
  case atStart => exact ⟨0, _, [], rfl, Left.start b, h0, Below.refl _ _, HB.out⟩
  case round =>
    obtain ⟨k, f, pre, rfl, hL, hJs, hb, hX⟩ := hrel
    have hbx : wr.cell? ⟨Bx, 0, none⟩ = some (.slice a b.length c) := hX.cell
    have X := Lib.hid hX; clear hX
    have L := Lib.hid hL; clear hL
    have JJ := Lib.hid hJs; clear hJs
    have B := Lib.hid hb; clear hb
    by_cases hlt : k < b.length
    · obtain ⟨⟨v, j, e⟩, hr⟩ : ∃ R, rd (b.drop k) 0 0 = R := ⟨_, rfl⟩
      have hsl : Sl Bf wr a b.length c b := HS.out.of_block fun b' o ha h0 => B.out.block b' (HN.out b' o ha h0)
      have hv := vread_any _ _ _ b k wr hn (by omega) hsl
      rw [hr] at hv
      dsimp only at hv
      have HV := Lib.hid hv; clear hv hsl
      gi_wp2
      refine ⟨trivial, ?_⟩
      refine (callsIn_wide.2 HV.out).mono ?_
      rintro e2 W2 ⟨rfl, hb2⟩
      have JJ2 := Lib.hid (HJ.out _ _ _ JJ.out hb2)
      have B2 := Lib.hid (B.out.trans (hb2.mono (Nat.le_trans hW B.out.size)))
      have X2 : Hid (Boxed W2 Bx 22 (.slice a b.length c)) := Lib.hid ((hb2.block Bx X.out.lt).trans X.out)
      have hbx2 : W2.cell? ⟨Bx, 0, none⟩ = some (.slice a b.length c) := X2.out.cell
      clear hb2 hbx
      by_cases he : e = 0
      · subst he
        obtain ⟨f', rfl, hL'⟩ := L.out.go hlt hr
        have hpl : pre.length < (nums b).length := by
          have h2 := hL'.pre.length_le
          rw [List.length_append] at h2; simp at h2; omega
        obtain ⟨x, hx⟩ : ∃ x : NP, x.1 = (k, v) := ⟨⟨(k, v), by show k ≤ _; omega, (rd_in hr).2⟩, rfl⟩
        have hL2 : Left b ((pre ++ [x]).map Subtype.val) (k + j) f' := by rw [List.map_append]; show Left b (pre.map Subtype.val ++ [x.1]) _ _; rw [hx]; exact hL'
        obtain ⟨fn, tmps, assign, body, hy, hR⟩ := HY.out pre x W2 JJ2.out hpl
        rw [hx] at hy
        dsimp only at hy
        have HR := Lib.hid hR; clear hR
        have hj1 : 1 ≤ j := by have := (rd_vbs hr).2.2; have := vb_pos v; omega
        have L' := Lib.hid hL2; clear hL' hL2 hr hx
        gi_wp2
        refine HR.out.mono ?_
        rintro e3 W3 (⟨rfl, hJ3, hk3⟩ | ⟨rfl, hJx3⟩)
        · have J3 := Lib.hid hJ3
          have B3 := Lib.hid (B2.out.trans hk3.1)
          have X3 : Hid (Boxed W3 Bx 22 (.slice a b.length c)) := Lib.hid (hk3.2 _ X2.out)
          clear hJ3 hk3
          gi_wp2
          go_roundw
          case rel => exact ⟨k + j, f', pre ++ [x], by go_num, L'.out, J3.out, B3.out, X3.out⟩
          case measure => simp [intOf]; omega
        · have J3 := Lib.hid hJx3; clear hJx3
          gi_wp2
          refine bodyPost_ret (results_none rfl _ _ _) rfl ?_
          exact ⟨⟨_, rfl⟩, .inr ⟨_, L'.out.pre, J3.out⟩⟩
      · have f1 : (e != 0) = true := by rw [bne_iff_ne]; exact he
        have DN := Lib.hid (L.out.done (numsF_no hr he)); clear hr he
        gi_wp2
        refine ⟨fun _ h => (by cases h), ?_⟩
        gi_wp2
        refine bodyPost_ret (results_none rfl _ _ _) rfl ?_
        exact ⟨⟨_, rfl⟩, .inl ⟨_, DN.out, JJ2.out⟩⟩
    · have DN := Lib.hid (L.out.done (numsF_end (by omega)))
      gi_wp2
      go_end0
      exact ⟨⟨_, rfl⟩, .inl ⟨_, DN.out, JJ.out⟩⟩

theorem all_in (a : Option Addr) (n c : Nat) (w : World) :
    Calls Try.prog 31 #[.slice a n c] w fun e w' => e = .returned (.func (.func 34) #[] #[.pointer (some ⟨w.heap.size, 0, none⟩)]) ∧ w' = w.alloc (.cells #[.slice a n c] 22) := by
  go_enter Try.func31, Try.ntmps31
  go_wp2_with fail
  go_ret
  exact ⟨rfl, rfl⟩

theorem all_stops (Bx n₀ : Nat) (a : Option Addr) (c : Nat) (b : List UInt8) (hn : b.length ≤ 1000000000000000) (w : World) (hBx : Boxed w Bx 22 (.slice a b.length c)) (hS : Sl Bf w a b.length c b) (hSn : ∀ b' o, a = some ⟨b', o, none⟩ → 0 < b.length → b' < n₀) (hW : n₀ ≤ w.heap.size) :
    SeqStopsK Fence.wide 3 Try.prog 34 #[.pointer (some ⟨Bx, 0, none⟩)] (fun x : NP => #[Value.int .i64 (x.1.1 : Nat), Value.int .u64 (x.1.2 : Nat)]) (Kb n₀ Bx) (fun ys => ys.map Subtype.val = nums b) (fun pre => pre.map Subtype.val <+: nums b) (nums b).length w := fun l J Jx W hb hJ _ hY h0 =>
  all1_in l Bx n₀ a c b hn J Jx hY
    (fun pre A B h hk => hJ pre A B none h ⟨hk.os, hk.tape, hk.output, hk.size, fun k h1 _ => hk.block k h1⟩ (fun r e => by cases e))
    W ((hb.block Bx hBx.lt).trans hBx) (hS.of_block fun b' o ha h0 => hb.block b' (by have := hSn b' o ha h0; omega)) hSn (Nat.le_trans hW hb.size) h0
end Go.Proofs.Ythiebpiohkfjgaa
