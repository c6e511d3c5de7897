/- The reference's taker: contracts of Take and Number. Conditions: the taker's two cells lie in a block of which they are known; its bytes are a row of the call's own. -/
import Derived.Test.YthiebpiohkfjgaaVintPieces
import Derived.Test.YthiebpiohkfjgaaVintPut
namespace Go.Proofs.Ythiebpiohkfjgaa
open Go.RowKit

/-- two takers of the reference's side by side in a block -/
def Rt (w : World) (g : Nat) (v : Nat → Value) (s : Nat → Nat) : Prop := w.heap[g]? = some (.cells #[v 0, .int .i64 (s 0), v 1, .int .i64 (s 1)] 40 (0, 0))
theorem Rt.lt {w : World} {g : Nat} {v : Nat → Value} {s : Nat → Nat} (h : Rt w g v s) : g < w.heap.size := (Array.getElem?_eq_some_iff.1 h).1
theorem Rt.keep {w w' : World} {g : Nat} {v : Nat → Value} {s : Nat → Nat} (h : Rt w g v s) (hb : Below w.heap.size w w') : Rt w' g v s := (hb.block g h.lt).trans h
theorem Rt.grown {w w' : World} {g : Nat} {v : Nat → Value} {s : Nat → Nat} {row : Option Nat} (h : Rt w g v s) (hb : w.grownBy w' row) (hne : row ≠ some g) : Rt w' g v s := (hb.block g h.lt hne.symm).trans h
theorem Rt.c0 {w : World} {g : Nat} {v : Nat → Value} {s : Nat → Nat} (h : Rt w g v s) (k : Nat) (hk : k < 2) : w.cell? ⟨g, 2 * k, none⟩ = some (v k) := by
  unfold Rt at h
  rcases (by omega : k = 0 ∨ k = 1) with e | e <;> subst e <;> simp [World.cell?, h]
theorem Rt.c1 {w : World} {g : Nat} {v : Nat → Value} {s : Nat → Nat} (h : Rt w g v s) (k : Nat) (hk : k < 2) : w.cell? ⟨g, 2 * k + 1, none⟩ = some (.int .i64 (s k)) := by
  unfold Rt at h
  rcases (by omega : k = 0 ∨ k = 1) with e | e <;> subst e <;> simp [World.cell?, h]
theorem Rt.free {w : World} {g : Nat} {v : Nat → Value} {s : Nat → Nat} (h : Rt w g v s) (i : Nat) : w.frozen? ⟨g, i, none⟩ = false := by
  unfold Rt at h; simp [World.frozen?, h]
theorem Rt.set0 {w : World} {g : Nat} {v : Nat → Value} {s : Nat → Nat} (h : Rt w g v s) (k : Nat) (hk : k < 2) (x : Value) : Rt (w.setCell ⟨g, 2 * k, none⟩ x) g (fun i => if i = k then x else v i) s := by
  unfold Rt at h ⊢
  simp only [World.setCell, Array.getElem?_modify, if_true]
  rw [h]
  rcases (by omega : k = 0 ∨ k = 1) with e | e <;> subst e <;> rfl
theorem Rt.set1 {w : World} {g : Nat} {v : Nat → Value} {s : Nat → Nat} (h : Rt w g v s) (k : Nat) (hk : k < 2) (x : Nat) : Rt (w.setCell ⟨g, 2 * k + 1, none⟩ (.int .i64 x)) g v (fun i => if i = k then x else s i) := by
  unfold Rt at h ⊢
  simp only [World.setCell, Array.getElem?_modify, if_true]
  rw [h]
  rcases (by omega : k = 0 ∨ k = 1) with e | e <;> subst e <;> rfl

theorem rtake_no (g k : Nat) (v : Nat → Value) (s : Nat → Nat) (c : UInt8) (w : World) (hk : k < 2) (hs : s k ≠ 0) (h : Rt w g v s) :
    Calls Try.prog 20 #[.pointer (some ⟨g, 2 * k, none⟩), .int .u8 (B c)] w fun e w' => e = .returned (.tuple #[.bool false, .int .i64 1]) ∧ w = w' := by
  have c1 := h.c1 k hk
  have f1 : ((s k : Int) != 0) = true := by rw [bne_iff_ne]; omega
  have HH := Lib.hid h; clear h
  go_enter Try.func20, Try.ntmps20
  go_wp2_with fail
  go_ret2
  exact ⟨rfl, rfl⟩
theorem rnumber_no (g k : Nat) (v : Nat → Value) (s : Nat → Nat) (w : World) (hk : k < 2) (hs : s k ≠ 1) (h : Rt w g v s) :
    Calls Try.prog 22 #[.pointer (some ⟨g, 2 * k, none⟩)] w fun e w' => e = .returned (.tuple #[.int .u64 0, .bool false]) ∧ w = w' := by
  have c1 := h.c1 k hk
  have f1 : ((s k : Int) != 1) = true := by rw [bne_iff_ne]; omega
  have HH := Lib.hid h; clear h
  go_enter Try.func22, Try.ntmps22
  go_wp2_with fail
  go_ret2
  exact ⟨rfl, rfl⟩
theorem rnumber_yes (g k : Nat) (v : Nat → Value) (s : Nat → Nat) (a : Option Addr) (n c : Nat) (bs : List UInt8) (w : World) (hk : k < 2) (hs : s k = 1) (hn : n ≤ 140737488351232) (hv : v k = .slice a n c) (h : Rt w g v s) (hb : Sl Bf w a n c bs) :
    Calls Try.prog 22 #[.pointer (some ⟨g, 2 * k, none⟩)] w fun e w' => e = .returned (.tuple #[.int .u64 (((rd bs 0 0).1 : Nat) : Int), .bool true]) ∧ w = w' := by
  have c1 := h.c1 k hk
  rw [hs] at c1
  have c1 : w.cell? ⟨g, 2 * k + 1, none⟩ = some (.int .i64 1) := c1
  have c0 := h.c0 k hk
  rw [hv] at c0
  have hr := rread_any _ _ _ bs 0 _ hn (Nat.zero_le _) hb
  rw [List.drop_zero] at hr
  have HR := Lib.hid hr; clear hr
  have HH := Lib.hid h; clear h hs hv
  have HB := Lib.hid hb; clear hb
  go_enter Try.func22, Try.ntmps22
  go_wp2_with fail
  refine HR.out.mono ?_
  rintro e w' ⟨rfl, rfl⟩
  go_wp2_with fail
  go_ret2
  exact ⟨rfl, rfl⟩
end Go.Proofs.Ythiebpiohkfjgaa
