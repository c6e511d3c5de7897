/- (*File).Range: contract. Conditions: the bounds within reach. -/
import Derived.Test.YtljcogimeimknaaGreatF8a
import Derived.Test.YtljcogimeimknaaGreatRangeW
import Derived.Test.YtljcogimeimknaaGreatK8b
import Derived.Deep.RegionHeld3
import Derived.Deep.Cut
namespace Go.Proofs.YtljcogimeimknaaGreat
open Go.RowKit Go.Shelf
open Lib (hid)
set_option linter.unusedVariables false
set_option linter.unusedSimpArgs false

/-- what Range hands back stands so -/
def RgBox (w : World) (lo B g : Nat) (kl kh : List UInt8) (vl vh : Value) : Prop :=
  Boxed w B 29 (.pointer (some ⟨g, 0, none⟩)) ∧ Boxed w (B + 1) 22 vl ∧ Boxed w (B + 1 + 1) 22 vh ∧ OwT fB w lo 5 vl kl ∧ OwT fB w lo 5 vh kh ∧ lo ≤ B
theorem rg_fin {w w3 w5 : World} {g N : Nat} {kl kh : List UInt8} {al ah a4 a5 : Option Addr} {nl cl nh ch n4 k4 n5 k5 : Nat} (hN : w.heap.size = N) (z3 : w3.heap.size = N + 1 + 1 + 1) (B3 : Below N w w3) (H5 : Below w3.heap.size w3 w5)
    (G0 : w3.heap[N]? = some (.cells #[.pointer (some ⟨g, 0, none⟩)] 29 (0, 0))) (G1 : w3.heap[N + 1]? = some (.cells #[.slice al nl cl] 22 (0, 0))) (G2 : w3.heap[N + 1 + 1]? = some (.cells #[.slice ah nh ch] 22 (0, 0)))
    (O4 : OwT fB w5 w3.heap.size 5 (.slice a4 n4 k4) kl) (O5 : OwT fB w5 w3.heap.size 5 (.slice a5 n5 k5) kh) :
    RgBox ((w5.setCell ⟨N + 1, 0, none⟩ (.slice a4 n4 k4)).setCell ⟨N + 1 + 1, 0, none⟩ (.slice a5 n5 k5)) N N g kl kh (.slice a4 n4 k4) (.slice a5 n5 k5) ∧ Below N w ((w5.setCell ⟨N + 1, 0, none⟩ (.slice a4 n4 k4)).setCell ⟨N + 1 + 1, 0, none⟩ (.slice a5 n5 k5)) := by
  have e0 : Boxed w5 N 29 (.pointer (some ⟨g, 0, none⟩)) := (H5.block _ (by omega)).trans G0
  have e1 : Boxed w5 (N + 1) 22 (.slice al nl cl) := (H5.block _ (by omega)).trans G1
  have e2 : Boxed w5 (N + 1 + 1) 22 (.slice ah nh ch) := (H5.block _ (by omega)).trans G2
  have T1 : Turns (fun j => j = N + 1) w5 (w5.setCell ⟨N + 1, 0, none⟩ (.slice a4 n4 k4)) := Turns.set (S := fun j => j = N + 1) w5 (b := N + 1) (i := 0) rfl _
  have q1 := e1.set (.slice a4 n4 k4)
  have l4 := O4.lt
  have l5 := O5.lt
  have p4 := O4.turns T1 fun j hj e => by have := (l4 j hj).1; omega
  have p5 := O5.turns T1 fun j hj e => by have := (l5 j hj).1; omega
  have p0 := T1.heap e0 (by omega)
  have p2 : Boxed (w5.setCell ⟨N + 1, 0, none⟩ (.slice a4 n4 k4)) (N + 1 + 1) 22 (.slice ah nh ch) := T1.heap e2 (by omega)
  have bb := T1.below (B3.trans (H5.mono (by omega))) (by have := H5.size; omega) fun j hj => by omega
  generalize w5.setCell ⟨N + 1, 0, none⟩ (.slice a4 n4 k4) = w6 at *
  have T2 : Turns (fun j => j = N + 1 + 1) w6 (w6.setCell ⟨N + 1 + 1, 0, none⟩ (.slice a5 n5 k5)) := Turns.set (S := fun j => j = N + 1 + 1) w6 (b := N + 1 + 1) (i := 0) rfl _
  have q2 := p2.set (.slice a5 n5 k5)
  have hz := bb.size
  exact ⟨⟨T2.heap p0 (by omega), T2.heap q1 (by omega), q2, (p4.base (by omega)).turns T2 fun j hj e => by (have := (p4.lt j hj).1; omega), (p5.base (by omega)).turns T2 fun j hj e => by (have := (p5.lt j hj).1; omega), Nat.le_refl _⟩, T2.below bb (by omega) fun j hj => by omega⟩
set_option maxRecDepth 100000 in
set_option maxHeartbeats 8000000 in
theorem srange_any (g : Nat) (al : Option Addr) (nl cl : Nat) (kl : List UInt8) (ah : Option Addr) (nh ch : Nat) (kh : List UInt8) (w : World) (hnl : nl ≤ 140737488351232) (hnh : nh ≤ 140737488351232) (hl : Sl Bf w al nl cl kl) (hh : Sl Bf w ah nh ch kh) :
    Calls Tryz.prog 19 #[.pointer (some ⟨g, 0, none⟩), .slice al nl cl, .slice ah nh ch] w fun e w' => ∃ vl vh, e = .returned (.func (.func 52) #[] #[.pointer (some ⟨w.heap.size, 0, none⟩), .pointer (some ⟨w.heap.size + 1, 0, none⟩), .pointer (some ⟨w.heap.size + 1 + 1, 0, none⟩)]) ∧
      RgBox w' w.heap.size w.heap.size g kl kh vl vh ∧ Below w.heap.size w w' := by
  have hmf : ∀ (fn : Fn) (first cap : Array Value) (w : World), (Instr.makeFunc fn first cap).run Tryz.prog w = .ok (.func fn first cap) w := fun _ _ _ _ => rfl
  obtain ⟨w3, hw3⟩ : ∃ V, ((w.alloc (.cells #[.pointer (some ⟨g, 0, none⟩)] 29)).alloc (.cells #[.slice al nl cl] 22)).alloc (.cells #[.slice ah nh ch] 22) = V := ⟨_, rfl⟩
  have b1 : Below w.heap.size w w3 := by
    have h1 := (Below.refl w.heap.size w).alloc (Nat.le_refl _) (.cells #[.pointer (some ⟨g, 0, none⟩)] 29)
    have h2 := h1.alloc h1.size (.cells #[.slice al nl cl] 22)
    have h3 := h2.alloc h2.size (.cells #[.slice ah nh ch] 22)
    rw [← hw3]; exact h3
  have z3 : w3.heap.size = w.heap.size + 1 + 1 + 1 := by rw [← hw3, World.size_alloc, World.size_alloc, World.size_alloc]
  have g0 : w3.heap[w.heap.size]? = some (.cells #[.pointer (some ⟨g, 0, none⟩)] 29 (0, 0)) := by
    rw [← hw3]
    exact (Below.heap_alloc _ _ _ (by simp only [World.size_alloc]; omega)).trans ((Below.heap_alloc _ _ _ (by simp only [World.size_alloc]; omega)).trans (heap_new w _))
  have g1 : w3.heap[w.heap.size + 1]? = some (.cells #[.slice al nl cl] 22 (0, 0)) := by
    have h := heap_new (w.alloc (.cells #[.pointer (some ⟨g, 0, none⟩)] 29)) (.cells #[.slice al nl cl] 22)
    rw [World.size_alloc] at h
    rw [← hw3]
    exact (Below.heap_alloc _ _ _ (by simp only [World.size_alloc]; omega)).trans h
  have g2 : w3.heap[w.heap.size + 1 + 1]? = some (.cells #[.slice ah nh ch] 22 (0, 0)) := by
    have h := heap_new ((w.alloc (.cells #[.pointer (some ⟨g, 0, none⟩)] 29)).alloc (.cells #[.slice al nl cl] 22)) (.cells #[.slice ah nh ch] 22)
    rw [World.size_alloc, World.size_alloc] at h
    rw [← hw3]; exact h
  have B3 := hid b1
  have HL := hid hl
  have HH := hid hh
  have G0 := hid g0
  have G1 := hid g1
  have G2 := hid g2
  have HW3 := hid hw3
  have Z3 := hid z3
  have c1 := cell_of g1 0 (v := .slice al nl cl) rfl
  have c2 := cell_of g2 0 (v := .slice ah nh ch) rfl
  have k1 := free_block g1 0
  have k2 := free_block g2 0
  clear b1 g0 g1 g2 hw3 hl hh z3
  go_enter Tryz.func19, Tryz.ntmps19
  go_upto_region 1 with (fail)
  rw [HW3.out]
  go_cut [] (fun wx => ∃ vl vh, RgBox wx w.heap.size w.heap.size g kl kh vl vh ∧ Below w.heap.size w wx)
  case rest =>
    obtain ⟨vl, vh, hrg, hb⟩ := hcut
    have RG := hid hrg
    have BB := hid hb
    clear hrg hb c1 c2 k1 k2
    go_wp2_with fail
    go_ret
    exact ⟨vl, vh, rfl, RG.out, BB.out⟩
  have CL1 := hid (fun (W : World) (hb : Below w3.heap.size w3 W) => clone_any al nl cl kl W (by omega) (HL.out.keep (keep_trans B3.out hb)))
  have CL2 := hid (fun (W : World) (hb : Below w3.heap.size w3 W) => clone_any ah nh ch kh W (by omega) (HH.out.keep (keep_trans B3.out hb)))
  have NB := hid (show ∀ W, Below w3.heap.size w3 W → W.cell? ⟨w.heap.size + 1, 0, none⟩ = some (.slice al nl cl) ∧ W.cell? ⟨w.heap.size + 1 + 1, 0, none⟩ = some (.slice ah nh ch) ∧ W.frozen? ⟨w.heap.size + 1, 0, none⟩ = false ∧ W.frozen? ⟨w.heap.size + 1 + 1, 0, none⟩ = false from
    fun W hb => ⟨(World.cell?_of_block (hb.block _ (cell_lt c1))).trans c1, (World.cell?_of_block (hb.block _ (cell_lt c2))).trans c2, (World.frozen?_of_block (hb.block _ (cell_lt c1))).trans k1, (World.frozen?_of_block (hb.block _ (cell_lt c2))).trans k2⟩)
  have HD : Hid (Below w3.heap.size w3 w3.drew) := hid ((Below.refl _ _).drew)
  obtain ⟨c1, c2, k1, k2⟩ := NB.out _ HD.out
  go_region_law (first
    | (go_simp; go_at_call 39; refine (CL1.out _ HD.out).mono ?_; rintro e w4 ⟨x4, rfl, ho4, hb4⟩; have H4 := hid (keep_trans HD.out hb4); obtain ⟨d1, d2, d3, d4⟩ := NB.out _ H4.out; have O4 := hid ho4; clear ho4 hb4)
    | (go_simp; go_at_call 39; refine (CL2.out _ H4.out).mono ?_; rintro e w5 ⟨x5, rfl, ho5, hb5⟩; have H5 := hid (keep_trans H4.out hb5); obtain ⟨a4, n4, k4, rfl, -⟩ := O4.out.slN; obtain ⟨a5, n5, k5, rfl, -⟩ := ho5.slN; obtain ⟨f1, f2, f3, f4⟩ := NB.out _ H5.out; have O5 := hid ho5; have O45 := hid (O4.out.keep hb5); clear ho5 hb5))
  all_goals
    go_wp2_with fail
    go_meet
    exact ⟨.slice a4 n4 k4, .slice a5 n5 k5, rg_fin rfl Z3.out B3.out H5.out G0.out G1.out G2.out (O45.out.base HD.out.size) (O5.out.base H4.out.size)⟩
end Go.Proofs.YtljcogimeimknaaGreat
