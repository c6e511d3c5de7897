/- Bytes of a stream: plain words. No condition. -/
import Derived.Test.YtljcogimeimknaaK8f
namespace Go.Proofs.Ytljcogimeimknaa
open Go.RowKit
set_option linter.unusedVariables false

def wadds (m : Nat) : Nat → WS → List Ent → Nat × Nat × WS
  | _, s, [] => (0, 0, s)
  | i, s, e :: r => if (s.add m e).1 ≠ 0 then ((s.add m e).1, i, s) else wadds m (i + 1) (s.add m e).2 r
theorem wadds_nil (m i : Nat) (s : WS) : wadds m i s [] = (0, 0, s) := rfl
theorem wadds_bad {m i : Nat} {s : WS} {e : Ent} {r : List Ent} (h : (s.add m e).1 ≠ 0) : wadds m i s (e :: r) = ((s.add m e).1, i, s) := by rw [wadds, if_pos h]
theorem wadds_go {m i : Nat} {s : WS} {e : Ent} {r : List Ent} (h : (s.add m e).1 = 0) : wadds m i s (e :: r) = wadds m (i + 1) (s.add m e).2 r := by rw [wadds, if_neg (by omega)]
def sbytesW (w : Nat × Nat × WS) : List UInt8 × Nat × Nat := if w.1 ≠ 0 then ([], w.1, w.2.1) else (w.2.2.close.ready, 0, 0)
def sbytes (l : List Ent) (n : Int) : List UInt8 × Nat × Nat := if n < 1 ∨ 64 < n then ([], 1, 0) else sbytesW (wadds n.toNat 0 WS0 l)
theorem sbytes_bad {l : List Ent} {n : Int} (h : n < 1 ∨ 64 < n) : sbytes l n = ([], 1, 0) := by unfold sbytes; rw [if_pos h]
theorem sbytes_ok {l : List Ent} {m : Nat} (h1 : 1 ≤ m) (h2 : m ≤ 64) : sbytes l (m : Int) = sbytesW (wadds m 0 WS0 l) := by unfold sbytes; rw [if_neg (by omega)]; rfl
theorem add_shut {m : Nat} {s : WS} (e : Ent) (h : s.shut = false) : (s.add m e).2.shut = false := by
  unfold WS.add
  split
  · exact h
  split
  · exact h
  split
  · exact h
  split
  · exact h
  · dsimp only
    split
    · rw [WS.cut_shut]; exact h
    · exact h
theorem add_code (m : Nat) (s : WS) (e : Ent) : (s.add m e).1 ≤ 87 := by
  unfold WS.add
  split
  · exact Nat.le_refl _
  split
  · rcases chk_cases e with h | h <;> rw [h] <;> omega
  split
  · exact (by decide : 51 ≤ 87)
  split
  · exact (by decide : 71 ≤ 87)
  · exact Nat.zero_le _
theorem sbytes_code (l : List Ent) (n : Int) : (sbytes l n).2.1 ≤ 87 := by
  have h : ∀ (l : List Ent) (m i : Nat) (s : WS), (wadds m i s l).1 ≤ 87 := by
    intro l
    induction l with
    | nil => intro m i s; exact Nat.zero_le _
    | cons e r ih =>
      intro m i s
      by_cases h : (s.add m e).1 ≠ 0
      · rw [wadds_bad h]; exact add_code m s e
      · rw [wadds_go (by omega)]; exact ih _ _ _
  unfold sbytes
  split
  · decide
  · unfold sbytesW
    split
    · exact h _ _ _ _
    · exact Nat.zero_le _
theorem edrop_cons2 {es : List Ent} {k : Nat} {x : Ent} (h : es[k]? = some x) : es.drop k = x :: es.drop (k + 1) := edrop_cons h
end Go.Proofs.Ytljcogimeimknaa
