/- NewSource, NewSink: contracts. Conditions: what they are made of within reach. -/
import Derived.Test.YtpenbaafhbbmhaaPipeSnk
import Derived.Deep.RegionHeld3
namespace Go.Proofs.Ytpenbaafhbbmhaa
open Go.RowKit
set_option maxRecDepth 100000
set_option linter.unusedVariables false

theorem OwT.lsv {α : Type} {f : α → Value} {w w' : World} {lo g hi : Nat} {e : TypeId} {a : Option Addr} {n c : Nat} {xs : List α} (h : OwT (fun x => [f x]) w lo e (.slice a n c) xs) (hs : w'.heap.size = hi) (hg : w.heap.size ≤ g) (hw : ∀ j, j < w.heap.size → w'.heap[j]? = w.heap[j]?) (hz : w.heap.size ≤ hi) :
    Lsv f w' (fun j => lo ≤ j ∧ j < hi) g (.slice a n c) xs := by
  obtain ⟨a', c', hv, hsl⟩ := h.sl (k := 1) (fun _ => rfl)
  injection hv with e1 e2 e3
  subst e1 e2 e3
  refine ⟨a, _, c, rfl, hsl.to1.of_block fun b o ha hn => hw b (h.lt b (by rw [ha]; rfl)).2, fun b o ha hn => ?_⟩
  have := h.lt b (by rw [ha]; rfl)
  exact ⟨⟨this.1, by omega⟩, by omega⟩
theorem blk_keep {w w' : World} {g : Nat} {o : Obj} (h : w.heap[g]? = some o) (hb : Below w.heap.size w w') : w'.heap[g]? = some o := (hb.block g (Array.getElem?_eq_some_iff.1 h).1).trans h
set_option maxRecDepth 100000 in
set_option maxHeartbeats 2000000 in
theorem newSource_any (ab : Option Addr) (nb cb : Nat) (bs : List UInt8) (ag : Option Addr) (ng cg : Nat) (gs : List Int) (fail : Int) (eager : Bool) (w : World) (hnb : nb ≤ 140737488351232) (hng : ng ≤ 17592186043904) (hI : Ints gs) (hB : Sl Bf w ab nb cb bs) (hG : Sl fZ w ag ng cg gs) :
    Calls Try.prog 10 #[.agg #[.slice ab nb cb, .slice ag ng cg, .int .i64 fail, .bool eager]] w fun e w' => ∃ g S, e = .returned (.pointer (some ⟨g, 0, none⟩)) ∧ SrcP g w.heap.size ⟨gs, fail, 0, bs, eager⟩ S w' ∧ Below w.heap.size w w' := by
  have b1 : Below w.heap.size w (w.alloc (.cells #[.slice ab nb cb, .slice ag ng cg, .int .i64 fail, .bool eager] 25)) := (Below.refl _ _).alloc (Nat.le_refl _) _
  have HB := Lib.hid (hB.keep b1)
  have HG := Lib.hid (hG.keep b1)
  have BX := Lib.hid (heap_new w (.cells #[.slice ab nb cb, .slice ag ng cg, .int .i64 fail, .bool eager] 25))
  have c0 := cell_of BX.out 0 rfl
  have c1 := cell_of BX.out 1 rfl
  have c2 := cell_of BX.out 2 rfl
  have c3 := cell_of BX.out 3 rfl
  have BW := Lib.hid b1
  have HI := Lib.hid hI
  clear hB hG hI b1
  go_enter Try.func10, Try.ntmps10
  go_wp2_with fail
  generalize w.alloc (.cells #[.slice ab nb cb, .slice ag ng cg, .int .i64 fail, .bool eager] 25) = w1 at *
  obtain ⟨g1, hg1⟩ : ∃ g1, w.heap.size = g1 := ⟨_, rfl⟩
  have HG1 := Lib.hid hg1
  rw [hg1] at c0 c1 c2 c3 BX BW ⊢
  clear hg1
  go_region_held3 (fun w' => w'.cell? ⟨g1, 0, none⟩ = some (.slice ab nb cb) ∧ w'.cell? ⟨g1, 1, none⟩ = some (.slice ag ng cg) ∧ w'.cell? ⟨g1, 2, none⟩ = some (.int .i64 fail) ∧ w'.cell? ⟨g1, 3, none⟩ = some (.bool eager)) (first | go_keep | assumption) (first
    | ((go_at_call 32; refine (cloneZ_any ag ng cg gs _ hng (by exact HG.out)).mono ?_; rintro e w3 ⟨v, rfl, ho, hb⟩; obtain ⟨a3, k3, rfl, -⟩ := ho.slZ; have OZ := Lib.hid ho; have H3 : Hid (Below w1.heap.size w1 w3) := Lib.hid (((Below.refl _ _).drew).trans hb); have BX3 := Lib.hid (blk_keep BX.out H3.out); have d0 := cell_of BX3.out 0 rfl; have d1 := cell_of BX3.out 1 rfl; have d2 := cell_of BX3.out 2 rfl; have d3 := cell_of BX3.out 3 rfl; have HB3 := Lib.hid (HB.out.keep H3.out); clear ho hb))
    | ((go_at_call 33; refine (clone_any ab nb cb bs _ hnb (by exact HB3.out)).mono ?_; rintro e w4 ⟨v, rfl, ho, hb⟩; obtain ⟨a4, n4, k4, rfl, -⟩ := ho.slN; have OB := Lib.hid ho; have H4 := Lib.hid hb; have BX4 := Lib.hid (blk_keep BX3.out H4.out); have e0 := cell_of BX4.out 0 rfl; have e1 := cell_of BX4.out 1 rfl; have e2 := cell_of BX4.out 2 rfl; have e3 := cell_of BX4.out 3 rfl; clear ho hb)))
  all_goals
    go_wp2_with fail
    go_ret
    try rw [HG1.out]
    have hz1 : g1 ≤ w1.heap.size := by have := BW.out.size; have := HG1.out; omega
    have hz3 := H3.out.size
    have hz4 := H4.out.size
    have bF : Below w1.heap.size w1 (w4.alloc (.cells #[.slice a3 gs.length k3, .int .i64 fail, .int .i64 0, .slice a4 n4 k4, .bool eager] 102)) := ((H3.out.trans (H4.out.mono hz3)).alloc (by omega) _)
    have hs : (w4.alloc (.cells #[.slice a3 gs.length k3, .int .i64 fail, .int .i64 0, .slice a4 n4 k4, .bool eager] 102)).heap.size = w4.heap.size + 1 := by simp
    have oz := (OZ.out.keep H4.out).base (base' := g1) hz1
    have ob := OB.out.base (base' := g1) (Nat.le_trans hz1 hz3)
    have hn := fun j (hj : j < w4.heap.size) => Below.heap_alloc w4 (.cells #[.slice a3 gs.length k3, .int .i64 fail, .int .i64 0, .slice a4 n4 k4, .bool eager] 102) j hj
    refine ⟨w4.heap.size, fun j => g1 ≤ j ∧ j < w4.heap.size + 1, rfl, ⟨⟨_, _, heap_new w4 _, oz.lsv hs (Nat.le_refl _) hn (by omega), ob.lsv hs (Nat.le_refl _) hn (by omega)⟩, ⟨by omega, by omega⟩, fun j hj => ⟨hj.1, by rw [hs]; exact hj.2⟩, HI.out⟩, ?_⟩
    exact BW.out.trans (bF.mono hz1)
theorem SnkP.new {w w3 : World} {g1 : Nat} {a : Option Addr} {n c : Nat} {l : List Int} {fail : Int} (h : OwT fZs w3 g1 3 (.slice a n c) l) (hI : Ints l) (hz : g1 ≤ w3.heap.size) :
    SnkP w3.heap.size g1 ⟨l, fail, 0, []⟩ (fun j => g1 ≤ j ∧ j < w3.heap.size + 1) (w3.alloc (.cells #[.slice a n c, .int .i64 fail, .int .i64 0, .slice none 0 0] 112)) := by
  have hs : (w3.alloc (.cells #[.slice a n c, .int .i64 fail, .int .i64 0, .slice none 0 0] 112)).heap.size = w3.heap.size + 1 := by simp
  have hl := h.lsv (g := w3.heap.size) hs (Nat.le_refl _) (fun j hj => Below.heap_alloc w3 (.cells #[.slice a n c, .int .i64 fail, .int .i64 0, .slice none 0 0] 112) j hj) (by omega)
  obtain ⟨a', n', c', e, hsl, hb⟩ := hl
  exact ⟨⟨_, _, heap_new w3 _, ⟨a', n', c', e, hsl, fun b o ha hn => ⟨⟨(hb b o ha hn).1, fun e => by cases e⟩, (hb b o ha hn).2⟩⟩, OwT.nil _ _ _ _, fun j hj => by cases hj⟩, ⟨hz, by omega⟩, fun j hj => ⟨hj.1, by rw [hs]; exact hj.2⟩, hI⟩
set_option maxRecDepth 100000 in
theorem newSink_any (ag : Option Addr) (ng cg : Nat) (gs : List Int) (fail : Int) (w : World) (hng : ng ≤ 17592186043904) (hI : Ints gs) (hG : Sl fZ w ag ng cg gs) :
    Calls Try.prog 21 #[.slice ag ng cg, .int .i64 fail] w fun e w' => ∃ g S, e = .returned (.pointer (some ⟨g, 0, none⟩)) ∧ SnkP g w.heap.size ⟨gs, fail, 0, []⟩ S w' ∧ Below w.heap.size w w' := by
  have HG := Lib.hid hG
  have HI := Lib.hid hI
  clear hG hI
  go_enter Try.func21, Try.ntmps21
  go_wp2_with fail
  refine (cloneZ_any ag ng cg gs w hng HG.out).mono ?_
  rintro e w3 ⟨v, rfl, ho, hb⟩
  obtain ⟨a3, k3, rfl, -⟩ := ho.slZ
  have O := Lib.hid ho
  have B := Lib.hid hb
  clear ho hb
  go_wp2_with fail
  go_ret
  exact ⟨_, _, rfl, SnkP.new (w := w3) O.out HI.out B.out.size, B.out.alloc B.out.size _⟩
end Go.Proofs.Ytpenbaafhbbmhaa
