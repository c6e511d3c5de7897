/- The methods of the program's source and sink. No condition. -/
import Derived.Test.YtpenbaafhbbmhaaPipeGen
namespace Go.Proofs.Ytpenbaafhbbmhaa
open Go.RowKit Go.Shelf
set_option linter.unusedVariables false

theorem methR (g : Nat) (w : World) : (method 249 28 (.pointer (some ⟨g, 0, none⟩)) "Read").run Try.prog w = .ok (75, .pointer (some ⟨g, 0, none⟩)) w := by kernel_rfl
theorem methW (g : Nat) (w : World) : (method 249 62 (.pointer (some ⟨g, 0, none⟩)) "Write").run Try.prog w = .ok (78, .pointer (some ⟨g, 0, none⟩)) w := by kernel_rfl
end Go.Proofs.Ytpenbaafhbbmhaa
