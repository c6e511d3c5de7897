/- The contract of a digest's Reset. Condition: the digest lies in one block. -/
import Derived.Test.YtaablclccklhnaaCrcDig
import Derived.Deep.MidRow
namespace Go.Proofs.Ytaablclccklhnaa
open Go.RowKit

theorem reset_any (g : Nat) (s : BitVec 32) (l : Int) (w : World) (hd : Dig w g s l) :
    Calls Try.prog 23 #[.pointer (some ⟨g, 0, none⟩)] w fun e w' => e = .returned (.tuple #[]) ∧ Dig w' g 0#32 0 ∧ w.grownBy w' (some g) := by
  have D := Lib.hid hd; clear hd
  have c0 := D.out.c0
  have c1 := D.out.c1
  have f0 := D.out.free 0
  have f1 := D.out.free 1
  have h1 : Dig (w.setCell ⟨g, 0, none⟩ (.int .u32 0)) g 0#32 l := D.out.set0 0#32
  have c1' := h1.c1
  have f1' := h1.free 1
  have H1 := Lib.hid h1; clear h1
  go_enter Try.func23, Try.ntmps23
  go_wp2_with fail
  go_end0
  exact ⟨rfl, H1.out.set1 0, grown_set (grown_set (World.grownBy.refl _ _) ⟨g, 0, none⟩ rfl _) ⟨g, 1, none⟩ rfl _⟩
end Go.Proofs.Ytaablclccklhnaa
