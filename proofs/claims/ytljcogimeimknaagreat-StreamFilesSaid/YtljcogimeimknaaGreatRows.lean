/-
  No cell of these rows narrows 'for every input' (looked for: loops, veiled, ifaces, maps, wideKeys, modest, calm, conditions, laid).
  DERIVED. THE GIVEN ROWS OF THIS SEAT. 4 by the template 'for every input the law returns true; each argument reads behind the call as it read before'; 0 by the template 'total and deterministic' (their statements: YtljcogimeimknaaGreatTotals.lean).
  GIVEN WITH THE SEED: the statements are not yours to turn. If you find one false, say at which input.
  Laid BY PROGRAM, IN A SANDBOX (cutbox-rows.mjs): the forced cells as the released guide's own fill.sh prints them over the translation f10836f8a954d039… (all of the seat's roots in one cut). By AI agents, Wed Nov 11 2026. No macro, syntax, notation, axiom, sorry.
-/
import Derived.Test.YtljcogimeimknaaGreatChecked
import GoSem.Claim
import GoSem.ClaimJoined
import GoSem.ClaimMapViews
import Derived.JoinedTies
import Derived.KernelRfl
namespace Go.Proofs.YtljcogimeimknaaGreat
/- THE CELL 'sum', in the pinned program and in every row, IS THE sha256 OF THE DUMP (.gsa) THAT YtljcogimeimknaaGreatProg.lean LOADS. Nothing in Lean hashes anything: it is a label: what it is worth is what the hold of that sum in a sandbox is worth. -/
noncomputable def Tryz.pinned : Pinned := { name := "ytljcogimeimknaagreat", sum := "f10836f8a954d039e9cd4704795f97d5b4c10f4c9370b37d66dd5d0111acc199", checked := Tryz.checked }
namespace Rows
def none {H : Type} : Left H := { results := [], args := [] }

/-- 'coppicelaw08.StreamFiles': WHATEVER THE INPUT: true; the input reads as it did. -/
def streamFilesSpec : ChangeSpec := { name := "streamFiles", fn := fun _ => fun
  | [d1, d2] => { results := [.lit (.bool true)], args := [d1, d2] }
  | _ => none }
def streamFilesRow : OpenClaim := { program := "ytljcogimeimknaagreat", sum := "f10836f8a954d039e9cd4704795f97d5b4c10f4c9370b37d66dd5d0111acc199", func := "coppice/coppicelaw08.StreamFiles", spec := "streamFiles", inPlace := ["internal/bytealg.Compare"], unfollowed := true, recurses := true, apart := false }
def StreamFilesSaid : Prop := streamFilesRow.holds Tryz.pinned (OpenSpec.ofChange streamFilesSpec)

/-- ITS FALSE NEIGHBOUR: 'it returns false'. Refute it at one input. -/
def streamFilesWrong : ChangeSpec := { name := "streamFiles", fn := fun _ => fun
  | [d1, d2] => { results := [.lit (.bool false)], args := [d1, d2] }
  | _ => none }
def StreamFilesWrongFalsely : Prop := streamFilesRow.holds Tryz.pinned (OpenSpec.ofChange streamFilesWrong)

/-- 'coppicelaw08.StreamReads': WHATEVER THE INPUT: true; the input reads as it did. -/
def streamReadsSpec : ChangeSpec := { name := "streamReads", fn := fun _ => fun
  | [d] => { results := [.lit (.bool true)], args := [d] }
  | _ => none }
def streamReadsRow : OpenClaim := { program := "ytljcogimeimknaagreat", sum := "f10836f8a954d039e9cd4704795f97d5b4c10f4c9370b37d66dd5d0111acc199", func := "coppice/coppicelaw08.StreamReads", spec := "streamReads", inPlace := ["internal/bytealg.Compare"], unfollowed := true, recurses := true, apart := false }
def StreamReadsSaid : Prop := streamReadsRow.holds Tryz.pinned (OpenSpec.ofChange streamReadsSpec)

/-- ITS FALSE NEIGHBOUR: 'it returns false'. Refute it at one input. -/
def streamReadsWrong : ChangeSpec := { name := "streamReads", fn := fun _ => fun
  | [d] => { results := [.lit (.bool false)], args := [d] }
  | _ => none }
def StreamReadsWrongFalsely : Prop := streamReadsRow.holds Tryz.pinned (OpenSpec.ofChange streamReadsWrong)

/-- 'coppicelaw08.StreamParses': WHATEVER THE INPUT: true; the input reads as it did. -/
def streamParsesSpec : ChangeSpec := { name := "streamParses", fn := fun _ => fun
  | [d] => { results := [.lit (.bool true)], args := [d] }
  | _ => none }
def streamParsesRow : OpenClaim := { program := "ytljcogimeimknaagreat", sum := "f10836f8a954d039e9cd4704795f97d5b4c10f4c9370b37d66dd5d0111acc199", func := "coppice/coppicelaw08.StreamParses", spec := "streamParses", inPlace := ["internal/bytealg.Compare"], unfollowed := true, recurses := true, apart := false }
def StreamParsesSaid : Prop := streamParsesRow.holds Tryz.pinned (OpenSpec.ofChange streamParsesSpec)

/-- ITS FALSE NEIGHBOUR: 'it returns false'. Refute it at one input. -/
def streamParsesWrong : ChangeSpec := { name := "streamParses", fn := fun _ => fun
  | [d] => { results := [.lit (.bool false)], args := [d] }
  | _ => none }
def StreamParsesWrongFalsely : Prop := streamParsesRow.holds Tryz.pinned (OpenSpec.ofChange streamParsesWrong)

/-- 'coppicelaw08.StreamGoes': WHATEVER THE INPUT: true; the input reads as it did. -/
def streamGoesSpec : ChangeSpec := { name := "streamGoes", fn := fun _ => fun
  | [d1, d2] => { results := [.lit (.bool true)], args := [d1, d2] }
  | _ => none }
def streamGoesRow : OpenClaim := { program := "ytljcogimeimknaagreat", sum := "f10836f8a954d039e9cd4704795f97d5b4c10f4c9370b37d66dd5d0111acc199", func := "coppice/coppicelaw08.StreamGoes", spec := "streamGoes", inPlace := ["internal/bytealg.Compare"], unfollowed := true, recurses := true, apart := false }
def StreamGoesSaid : Prop := streamGoesRow.holds Tryz.pinned (OpenSpec.ofChange streamGoesSpec)

/-- ITS FALSE NEIGHBOUR: 'it returns false'. Refute it at one input. -/
def streamGoesWrong : ChangeSpec := { name := "streamGoes", fn := fun _ => fun
  | [d1, d2] => { results := [.lit (.bool false)], args := [d1, d2] }
  | _ => none }
def StreamGoesWrongFalsely : Prop := streamGoesRow.holds Tryz.pinned (OpenSpec.ofChange streamGoesWrong)

/- THE SECOND FORM. 'bulk': how many values and letters a reading holds, each counted each time it is reached (what is shared counts as often as it is met; a slice's spare places count too). A statement '..UptoSaid' is the law's where the arguments, and the package variables that the reading takes, are together of bulk at most 1048576: NARROWER than '..Said'. Prove '..Said' where nothing that the law and all that it calls make is longer than what came in: it says more and counts as full. Else prove '..UptoSaid'. A law counts once. -/
mutual
def uptoBulk {H : Type} : DataW H → Nat
  | .lit (.string bytes) => bytes.length + 1
  | .lit _ => 1
  | .nil => 1
  | .ptr d => uptoBulk d + 1
  | .slice elems spare => uptoBulkAll elems + uptoBulkAll spare + 1
  | .agg parts => uptoBulkAll parts + 1
  | .iface _ d => uptoBulk d + 1
  | .map entries => uptoBulkEntries entries + 1
  | .held _ => 1
def uptoBulkAll {H : Type} : List (DataW H) → Nat
  | [] => 0
  | d :: r => uptoBulk d + uptoBulkAll r
def uptoBulkEntries {H : Type} : List (Lit × DataW H) → Nat
  | [] => 0
  | x :: r => uptoBulkEntry x + uptoBulkEntries r
def uptoBulkEntry {H : Type} : Lit × DataW H → Nat
  | (.string bytes, d) => bytes.length + uptoBulk d + 1
  | (_, d) => uptoBulk d + 1
 end
def uptoSmall : (H : Type) → List (DataW H) → Bool := fun _ ds => decide (uptoBulkAll ds ≤ 1048576)
def OpenSpec.upto (s : _root_.Go.ChangeSpec) : _root_.Go.OpenSpec := { _root_.Go.OpenSpec.ofChange s with cond := some uptoSmall }

/-- 'coppicelaw08.StreamFiles', WHERE WHAT IT READS IS OF BULK AT MOST 1048576: true; the input reads as it did. -/
def streamFilesUptoRow : OpenClaim := { program := "ytljcogimeimknaagreat", sum := "f10836f8a954d039e9cd4704795f97d5b4c10f4c9370b37d66dd5d0111acc199", func := "coppice/coppicelaw08.StreamFiles", spec := "streamFiles", inPlace := ["internal/bytealg.Compare"], unfollowed := true, recurses := true, apart := false, narrowed := true }
def StreamFilesUptoSaid : Prop := streamFilesUptoRow.holds Tryz.pinned (OpenSpec.upto streamFilesSpec)

/-- 'coppicelaw08.StreamReads', WHERE WHAT IT READS IS OF BULK AT MOST 1048576: true; the input reads as it did. -/
def streamReadsUptoRow : OpenClaim := { program := "ytljcogimeimknaagreat", sum := "f10836f8a954d039e9cd4704795f97d5b4c10f4c9370b37d66dd5d0111acc199", func := "coppice/coppicelaw08.StreamReads", spec := "streamReads", inPlace := ["internal/bytealg.Compare"], unfollowed := true, recurses := true, apart := false, narrowed := true }
def StreamReadsUptoSaid : Prop := streamReadsUptoRow.holds Tryz.pinned (OpenSpec.upto streamReadsSpec)

/-- 'coppicelaw08.StreamParses', WHERE WHAT IT READS IS OF BULK AT MOST 1048576: true; the input reads as it did. -/
def streamParsesUptoRow : OpenClaim := { program := "ytljcogimeimknaagreat", sum := "f10836f8a954d039e9cd4704795f97d5b4c10f4c9370b37d66dd5d0111acc199", func := "coppice/coppicelaw08.StreamParses", spec := "streamParses", inPlace := ["internal/bytealg.Compare"], unfollowed := true, recurses := true, apart := false, narrowed := true }
def StreamParsesUptoSaid : Prop := streamParsesUptoRow.holds Tryz.pinned (OpenSpec.upto streamParsesSpec)

/-- 'coppicelaw08.StreamGoes', WHERE WHAT IT READS IS OF BULK AT MOST 1048576: true; the input reads as it did. -/
def streamGoesUptoRow : OpenClaim := { program := "ytljcogimeimknaagreat", sum := "f10836f8a954d039e9cd4704795f97d5b4c10f4c9370b37d66dd5d0111acc199", func := "coppice/coppicelaw08.StreamGoes", spec := "streamGoes", inPlace := ["internal/bytealg.Compare"], unfollowed := true, recurses := true, apart := false, narrowed := true }
def StreamGoesUptoSaid : Prop := streamGoesUptoRow.holds Tryz.pinned (OpenSpec.upto streamGoesSpec)

end Rows
end Go.Proofs.YtljcogimeimknaaGreat
