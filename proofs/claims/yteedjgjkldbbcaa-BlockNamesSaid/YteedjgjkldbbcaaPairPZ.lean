/- What is read of bytes behind a text, from any place: contract of the program's. Conditions: the texts within reach. -/
import Derived.Test.YteedjgjkldbbcaaPairRead
namespace Go.Proofs.Yteedjgjkldbbcaa
open Go.RowKit
set_option linter.unusedVariables false

theorem epread_z (ap : Option Addr) (np cp : Nat) (p : List UInt8) (ab : Option Addr) (nb cb : Nat) (b : List UInt8) (z : Int) (w : World) (hp : np ≤ 140737488351232) (hb : nb ≤ 140737499999999) (h0 : Sl Bf w ap np cp p) (h1 : Sl Bf w ab nb cb b) :
    Calls Try.prog 76 #[.slice ap np cp, .slice ab nb cb, .int .i64 z] w fun e w' => RdPost w (erd p b z).1.1 (erd p b z).1.2 (erd p b z).2.1 (erd p b z).2.2 e w' := by
  have hl := h1.len
  unfold erd
  by_cases hz : 0 ≤ z ∧ z ≤ b.length
  · rw [if_pos hz]
    obtain ⟨a, rfl⟩ : ∃ a : Nat, z = a := ⟨z.toNat, by omega⟩
    exact epread_any ap np cp p ab nb cb b a w hp hb (by omega) h0 h1
  · rw [if_neg hz]
    exact epread_bad ap np cp ab nb cb z w hb (by omega)
end Go.Proofs.Yteedjgjkldbbcaa
