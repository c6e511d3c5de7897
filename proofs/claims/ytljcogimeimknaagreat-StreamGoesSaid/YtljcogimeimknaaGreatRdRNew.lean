/- The document's reader of streams is made: contract. Conditions: what it reads from within reach. -/
import Derived.Test.YtljcogimeimknaaGreatK8v
namespace Go.Proofs.YtljcogimeimknaaGreat
open Go.RowKit Go.Shelf
set_option linter.unusedVariables false
set_option linter.unusedSimpArgs false

/-- the document's In over the document's source -/
theorem robj_new8 {w : World} {gt gd lo : Nat} {bs : List UInt8} {ab : Option Addr} {nb cb : Nat} {ag : Option Addr} {ng cg : Nat} {gs : List Int} {xf most : Int} {eager : Bool}
    (hS : Sl Bf w ab nb cb bs) (hG : Sl fZ w ag ng cg gs) (hI : Ints gs) (hb : ∀ b o, ab = some ⟨b, o, none⟩ → 0 < nb → b < lo) (hg : ∀ b o, ag = some ⟨b, o, none⟩ → 0 < ng → b < lo) (ht : w.heap[gt]? = some (.cells (rcells ab nb cb ag ng cg xf eager 0 0) 65 (0, 0)))
    (hd : w.heap[gd]? = some (.cells #[.pointer (some ⟨gt, 0, none⟩), .int .i64 most, .int .i64 0, .int .i64 0, .slice none 0 0, .int .i64 0] 119 (0, 0))) (hlt : lo ≤ gt) (hld : lo ≤ gd) (hne : gt ≠ gd) :
    RObj (StR gt lo bs) lo gd most (.pointer (some ⟨gt, 0, none⟩)) ⟨⟨gs, xf, 0, bs, eager⟩, 0, 0, 0, []⟩ (fun j => j = gt ∨ j = gd) w := by
  have lt := (Array.getElem?_eq_some_iff.1 ht).1
  have ld := (Array.getElem?_eq_some_iff.1 hd).1
  exact ⟨fun j => j = gt, .slice none 0 0,
    { io := hd, ow := OwT.nil _ _ _ _
      st := ⟨fun j => Iff.rfl, { blk := ⟨ab, nb, cb, ag, ng, cg, 0, ht, ⟨ag, ng, cg, rfl, hG, fun b o e h0 => ⟨.inl (hg b o e h0), by have := hg b o e h0; omega⟩⟩, ⟨ab, nb, cb, rfl, hS, fun b o e h0 => ⟨.inl (hb b o e h0), by have := hb b o e h0; omega⟩⟩, Nat.zero_le _, rfl⟩
                                 own := .inr rfl, inS := fun j hj => by rcases hj with e | e <;> omega, ints := hI }, hlt⟩
      sr := fun j hj => .inl hj, sg := .inr rfl, ng := fun e => hne e.symm, hs := fun j e => (by cases e), inS := fun j hj => by rcases hj with e | e <;> omega }⟩
set_option maxRecDepth 100000 in
theorem refnew_any {w : World} {gt lo : Nat} {bs : List UInt8} {ab : Option Addr} {nb cb : Nat} {ag : Option Addr} {ng cg : Nat} {gs : List Int} {xf : Int} {eager : Bool}
    (hS : Sl Bf w ab nb cb bs) (hG : Sl fZ w ag ng cg gs) (hI : Ints gs) (hb : ∀ b o, ab = some ⟨b, o, none⟩ → 0 < nb → b < lo) (hg : ∀ b o, ag = some ⟨b, o, none⟩ → 0 < ng → b < lo) (ht : w.heap[gt]? = some (.cells (rcells ab nb cb ag ng cg xf eager 0 0) 65 (0, 0))) (hlt : lo ≤ gt) :
    Calls Tryz.prog 25 #[.pointer (some ⟨gt, 0, none⟩)] w fun r w' => ∃ g gi who, r = .returned (.pointer (some ⟨g, 0, none⟩)) ∧ Rrp w' bs lo gt g gi false (fun j => j = gt ∨ j = gi) (.slice none 0 0) (.slice none 0 0) [] (RS0 ⟨gs, xf, 0, bs, eager⟩) who ∧ Below w.heap.size w w' ∧ ∀ j, who j ≠ 0 → j = gt ∨ w.heap.size ≤ j := by
  have lt := (Array.getElem?_eq_some_iff.1 ht).1
  obtain ⟨w1, hw1⟩ : ∃ V, w.alloc (.cells #[.pointer (some ⟨gt, 0, none⟩), .int .i64 4611686018427387904, .int .i64 0, .int .i64 0, .slice none 0 0, .int .i64 0] 119) = V := ⟨_, rfl⟩
  have b1 : Below w.heap.size w w1 := hw1 ▸ (Below.refl _ _).alloc (Nat.le_refl _) _
  have x1 : w1.heap[w.heap.size]? = some (.cells #[.pointer (some ⟨gt, 0, none⟩), .int .i64 4611686018427387904, .int .i64 0, .int .i64 0, .slice none 0 0, .int .i64 0] 119 (0, 0)) := hw1 ▸ heap_new w _
  have z1 : w1.heap.size = w.heap.size + 1 := by rw [← hw1]; simp
  obtain ⟨w2, hw2⟩ : ∃ V, w1.alloc (.cells #[.pointer (some ⟨w.heap.size, 0, none⟩), .bool false, .bool false, .int .i64 0, .int .i64 0, .slice none 0 0, .slice none 0 0] 121) = V := ⟨_, rfl⟩
  have b2 : Below w1.heap.size w1 w2 := hw2 ▸ (Below.refl _ _).alloc (Nat.le_refl _) _
  have x2 : w2.heap[w1.heap.size]? = some (.cells #[.pointer (some ⟨w.heap.size, 0, none⟩), .bool false, .bool false, .int .i64 0, .int .i64 0, .slice none 0 0, .slice none 0 0] 121 (0, 0)) := hw2 ▸ heap_new w1 _
  have z2 : w2.heap.size = w.heap.size + 2 := by rw [← hw2]; simp; omega
  have hb2 := keep_trans b1 b2
  have RO := robj_new8 (xf := xf) (most := 4611686018427387904) (eager := eager) (hS.keep hb2) (hG.keep hb2) hI hb hg ((hb2.block _ lt).trans ht) ((b2.block _ (by omega)).trans x1) hlt (by omega) (by omega)
  have FIN := Lib.hid (show ∃ g gi who, (Ending.returned (.pointer (some ⟨w1.heap.size, 0, none⟩))) = .returned (.pointer (some ⟨g, 0, none⟩)) ∧ Rrp w2 bs lo gt g gi false (fun j => j = gt ∨ j = gi) (.slice none 0 0) (.slice none 0 0) [] (RS0 ⟨gs, xf, 0, bs, eager⟩) who ∧ Below w.heap.size w w2 ∧ ∀ j, who j ≠ 0 → j = gt ∨ w.heap.size ≤ j from
    ⟨w1.heap.size, w.heap.size, fun j => if j = w1.heap.size then 1 else if j = gt ∨ j = w.heap.size then 3 else 0, rfl,
      { low := fun j hj => by
          by_cases e1 : j = w1.heap.size
          · omega
          · by_cases e2 : j = gt ∨ j = w.heap.size
            · rcases e2 with e2 | e2 <;> omega
            · simp [e1, e2] at hj
        lw := by omega, blk := x2, b0 := fun _ => rfl, b1 := fun e => (by cases e), gw := by simp, io := RO
        sw := fun j hj => by
          have e1 : j ≠ w1.heap.size := by rcases hj with e | e <;> omega
          simp only [if_neg e1, if_pos hj]
        rw := OwT.nil _ _ _ _, rb := fun j e => (by cases e), rl := rfl, rk := fun i v r hv => by simp at hv }, hb2, fun j hj => by
          by_cases e1 : j = w1.heap.size
          · exact .inr (by omega)
          · by_cases e2 : j = gt ∨ j = w.heap.size
            · rcases e2 with e2 | e2
              · exact .inl e2
              · exact .inr (by omega)
            · simp [e1, e2] at hj⟩)
  have Z1 := Lib.hid z1
  have H1 := Lib.hid hw1
  have H2 := Lib.hid hw2
  clear hS hG hI hb hg ht b1 x1 z1 b2 x2 z2 hb2 RO hw1 hw2
  go_enter Tryz.func25, Tryz.ntmps25
  go_wp2_with fail
  go_ret
  rw [H1.out, H2.out]
  have F := FIN.out
  rw [Z1.out] at F
  exact F
end Go.Proofs.YtljcogimeimknaaGreat
