/- Sources and sinks that go as they are told: plain words: what a call gives, what it takes; what Chunks yields, what Copy hands on. No condition. -/
import Derived.Test.YtpenbaafhbbmhaaNum
namespace Go.Proofs.Ytpenbaafhbbmhaa
set_option linter.unusedVariables false

/-- how many bytes of n the call k may move -/
def mostN (l : List Int) (k n : Nat) : Nat := match l[k - 1]? with
  | some m => (max 0 (min (n : Int) m)).toNat
  | none => n
theorem mostN_le (l : List Int) (k n : Nat) : mostN l k n ≤ n := by
  unfold mostN; split <;> omega
theorem mostN_some {l : List Int} {k n : Nat} {m : Int} (h : l[k - 1]? = some m) : (mostN l k n : Int) = max 0 (min (n : Int) m) := by
  unfold mostN; rw [h]; dsimp only; omega
theorem mostN_none {l : List Int} {k n : Nat} (h : l.length < k) : mostN l k n = n := by
  unfold mostN; rw [List.getElem?_eq_none (by omega)]
/-- a source: how many its calls give at most, the first that fails, how many calls there were, what is left, is the end told with the last bytes -/
structure Src where
  most : List Int
  fail : Int
  calls : Nat
  left : List UInt8
  eager : Bool
/-- a call: what it gives, the error, what the source is then -/
def Src.broken (s : Src) : Bool := decide (0 < s.fail ∧ s.fail ≤ (s.calls : Int) + 1)
def Src.gives (s : Src) (n : Nat) : List UInt8 := if s.broken then [] else s.left.take (mostN s.most (s.calls + 1) n)
def Src.rest (s : Src) (n : Nat) : List UInt8 := if s.broken then s.left else s.left.drop (mostN s.most (s.calls + 1) n)
def Src.err (s : Src) (n : Nat) : Nat := if s.broken then 32 else if s.left = [] then 31 else if s.eager ∧ s.left.drop (mostN s.most (s.calls + 1) n) = [] then 31 else 0
def Src.next (s : Src) (n : Nat) : Src := { s with calls := s.calls + 1, left := s.rest n }
theorem Src.gives_le (s : Src) (n : Nat) : (s.gives n).length ≤ n := by
  unfold Src.gives; split
  · simp
  · rw [List.length_take]; have := mostN_le s.most (s.calls + 1) n; omega
theorem Src.parts (s : Src) (n : Nat) : s.gives n ++ s.rest n = s.left := by
  unfold Src.gives Src.rest; split
  · rfl
  · exact List.take_append_drop _ _
theorem Src.err_of (s : Src) (n : Nat) : s.err n = 0 ∨ s.err n = 31 ∨ s.err n = 32 := by unfold Src.err; split <;> (try split) <;> (try split) <;> simp
theorem Src.err_nil {s : Src} {n : Nat} (h : s.err n = 0) : s.left ≠ [] := by
  unfold Src.err at h
  split at h
  · cases h
  · split at h
    · cases h
    · assumption

/-- a sink: how many its calls take at most, the first that fails, how many calls there were, what it took -/
structure Snk where
  most : List Int
  fail : Int
  calls : Nat
  took : List UInt8
def Snk.broken (s : Snk) : Bool := decide (0 < s.fail ∧ s.fail ≤ (s.calls : Int) + 1)
def Snk.takes (s : Snk) (n : Nat) : Nat := if s.broken then 0 else mostN s.most (s.calls + 1) n
def Snk.err (s : Snk) : Nat := if s.broken then 32 else 0
def Snk.next (s : Snk) (p : List UInt8) : Snk := { s with calls := s.calls + 1, took := s.took ++ p.take (s.takes p.length) }
theorem Snk.takes_le (s : Snk) (n : Nat) : s.takes n ≤ n := by
  unfold Snk.takes; split
  · omega
  · exact mostN_le _ _ _
theorem Snk.err_of (s : Snk) : s.err = 0 ∨ s.err = 32 := by unfold Snk.err; split <;> simp
end Go.Proofs.Ytpenbaafhbbmhaa
