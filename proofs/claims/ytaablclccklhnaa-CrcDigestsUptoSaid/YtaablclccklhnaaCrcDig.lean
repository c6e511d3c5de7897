/- The contracts of a digest: New, Write, Reset, Sum, Len. Conditions: the digest lies in one block; the length fits. -/
import Derived.Test.YtaablclccklhnaaCrc1
import Derived.Test.YtaablclccklhnaaHelp
import Derived.Deep.MidRow
namespace Go.Proofs.Ytaablclccklhnaa
open Go.RowKit

/-- a digest in a block of its own -/
def Dig (w : World) (g : Nat) (s : BitVec 32) (l : Int) : Prop := w.heap[g]? = some (.cells #[.int .u32 (U s), .int .i64 l] 57 (0, 0))
theorem Dig.lt {w : World} {g : Nat} {s : BitVec 32} {l : Int} (h : Dig w g s l) : g < w.heap.size := (Array.getElem?_eq_some_iff.1 h).1
theorem Dig.keep {w w' : World} {g : Nat} {s : BitVec 32} {l : Int} (h : Dig w g s l) (hb : Below w.heap.size w w') : Dig w' g s l := (hb.block g h.lt).trans h
theorem Dig.grown {w w' : World} {g : Nat} {s : BitVec 32} {l : Int} {row : Option Nat} (h : Dig w g s l) (hb : w.grownBy w' row) (hne : row ≠ some g) : Dig w' g s l := (hb.block g h.lt hne.symm).trans h
theorem Dig.c0 {w : World} {g : Nat} {s : BitVec 32} {l : Int} (h : Dig w g s l) : w.cell? ⟨g, 0, none⟩ = some (.int .u32 (U s)) := by
  unfold Dig at h; simp [World.cell?, h]
theorem Dig.c1 {w : World} {g : Nat} {s : BitVec 32} {l : Int} (h : Dig w g s l) : w.cell? ⟨g, 1, none⟩ = some (.int .i64 l) := by
  unfold Dig at h; simp [World.cell?, h]
theorem Dig.free {w : World} {g : Nat} {s : BitVec 32} {l : Int} (h : Dig w g s l) (i : Nat) : w.frozen? ⟨g, i, none⟩ = false := by
  unfold Dig at h; simp [World.frozen?, h]
theorem Dig.set0 {w : World} {g : Nat} {s : BitVec 32} {l : Int} (h : Dig w g s l) (t : BitVec 32) : Dig (w.setCell ⟨g, 0, none⟩ (.int .u32 (U t))) g t l := by
  unfold Dig at h ⊢
  simp only [World.setCell, Array.getElem?_modify, if_true]
  rw [h]; rfl
theorem Dig.set1 {w : World} {g : Nat} {s : BitVec 32} {l : Int} (h : Dig w g s l) (m : Int) : Dig (w.setCell ⟨g, 1, none⟩ (.int .i64 m)) g s m := by
  unfold Dig at h ⊢
  simp only [World.setCell, Array.getElem?_modify, if_true]
  rw [h]; rfl

theorem new_any (w : World) :
    Calls Try.prog 20 #[] w fun e w' => e = .returned (.pointer (some ⟨w.heap.size, 0, none⟩)) ∧ Dig w' w.heap.size 0#32 0 ∧ Below w.heap.size w w' := by
  go_enter Try.func20, Try.ntmps20
  go_wp2_with fail
  go_ret
  exact ⟨rfl, heap_new w _, (Below.refl _ _).alloc (Nat.le_refl _) _⟩

theorem write_any (g : Nat) (s : BitVec 32) (l : Nat) (a : Option Addr) (n c : Nat) (bs : List UInt8) (w : World) (hn : n ≤ 9223372036854775807) (hl : l + n ≤ 9223372036854775807) (hd : Dig w g s l) (h : Sl Bf w a n c bs) :
    Calls Try.prog 21 #[.pointer (some ⟨g, 0, none⟩), .slice a n c] w fun e w' => e = .returned (.tuple #[]) ∧ Dig w' g (more s bs) ((l + n : Nat) : Int) ∧ w.grownBy w' (some g) := by
  have H := Lib.hid h; clear h
  have c0 := hd.c0
  have c1 := (hd.set0 (more s bs)).c1
  have f0 := hd.free 0
  have f1 := (hd.set0 (more s bs)).free 1
  have D := Lib.hid hd; clear hd
  go_enter Try.func21, Try.ntmps21
  go_wp2_with (go_at_call 16; refine (more_any s _ _ _ _ _ hn H.out).mono ?_; rintro e w' ⟨rfl, rfl⟩)
  go_end0
  refine ⟨rfl, ?_, grown_set (grown_set (World.grownBy.refl _ _) ⟨g, 0, none⟩ rfl _) ⟨g, 1, none⟩ rfl _⟩
  have := (D.out.set0 (more s bs)).set1 ((l + n : Nat) : Int)
  exact this

theorem dsum_any (g : Nat) (s : BitVec 32) (l : Int) (w : World) (hd : Dig w g s l) :
    Calls Try.prog 24 #[.pointer (some ⟨g, 0, none⟩)] w fun e w' => e = .returned (.int .u32 (U s)) ∧ w = w' := by
  have c0 := hd.c0
  go_enter Try.func24, Try.ntmps24
  go_wp2_with fail
  go_ret
  exact ⟨rfl, rfl⟩
theorem dlen_any (g : Nat) (s : BitVec 32) (l : Int) (w : World) (hd : Dig w g s l) :
    Calls Try.prog 25 #[.pointer (some ⟨g, 0, none⟩)] w fun e w' => e = .returned (.int .i64 l) ∧ w = w' := by
  have c1 := hd.c1
  go_enter Try.func25, Try.ntmps25
  go_wp2_with fail
  go_ret
  exact ⟨rfl, rfl⟩
end Go.Proofs.Ytaablclccklhnaa
