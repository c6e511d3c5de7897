/-
  No cell of these rows narrows 'for every input' (looked for: loops, veiled, ifaces, maps, wideKeys, modest, calm, conditions, laid).
  DERIVED. THE GIVEN ROWS OF THIS SEAT. 8 by the template 'for every input the law returns true; each argument reads behind the call as it read before'; 0 by the template 'total and deterministic' (their statements: YtjkgncogpefnbaaTotals.lean).
  GIVEN WITH THE SEED: the statements are not yours to turn. If you find one false, say at which input.
  Laid BY PROGRAM, IN A SANDBOX (cutbox-rows.mjs): the forced cells as the released guide's own fill.sh prints them over the translation aa7c6429db0ce014… (all of the seat's roots in one cut). By AI agents, Wed Nov 11 2026. No macro, syntax, notation, axiom, sorry.
-/
import Derived.Test.YtjkgncogpefnbaaChecked
import GoSem.Claim
import GoSem.ClaimJoined
import GoSem.ClaimMapViews
import Derived.JoinedTies
import Derived.KernelRfl
namespace Go.Proofs.Ytjkgncogpefnbaa
/- THE CELL 'sum', in the pinned program and in every row, IS THE sha256 OF THE DUMP (.gsa) THAT YtjkgncogpefnbaaProg.lean LOADS. Nothing in Lean hashes anything: it is a label: what it is worth is what the hold of that sum in a sandbox is worth. -/
noncomputable def Try.pinned : Pinned := { name := "ytjkgncogpefnbaa", sum := "aa7c6429db0ce0143335c746a77811b5c781b5ce02a57b955d63454aecc16bfc", checked := Try.checked }
namespace Rows
def none {H : Type} : Left H := { results := [], args := [] }

/-- 'coppicelaw03.PipeNames': WHATEVER THE INPUT: true; the input reads as it did. -/
def pipeNamesSpec : ChangeSpec := { name := "pipeNames", fn := fun _ => fun
  | [] => { results := [.lit (.bool true)], args := [] }
  | _ => none }
def pipeNamesRow : OpenClaim := { program := "ytjkgncogpefnbaa", sum := "aa7c6429db0ce0143335c746a77811b5c781b5ce02a57b955d63454aecc16bfc", func := "coppice/coppicelaw03.PipeNames", spec := "pipeNames", unfollowed := true, recurses := true, apart := false }
def PipeNamesSaid : Prop := pipeNamesRow.holds Try.pinned (OpenSpec.ofChange pipeNamesSpec)

/-- ITS FALSE NEIGHBOUR: 'it returns false'. Refute it at one input. -/
def pipeNamesWrong : ChangeSpec := { name := "pipeNames", fn := fun _ => fun
  | [] => { results := [.lit (.bool false)], args := [] }
  | _ => none }
def PipeNamesWrongFalsely : Prop := pipeNamesRow.holds Try.pinned (OpenSpec.ofChange pipeNamesWrong)

/-- 'coppicelaw03.PipeOdd': WHATEVER THE INPUT: true; the input reads as it did. -/
def pipeOddSpec : ChangeSpec := { name := "pipeOdd", fn := fun _ => fun
  | [d] => { results := [.lit (.bool true)], args := [d] }
  | _ => none }
def pipeOddRow : OpenClaim := { program := "ytjkgncogpefnbaa", sum := "aa7c6429db0ce0143335c746a77811b5c781b5ce02a57b955d63454aecc16bfc", func := "coppice/coppicelaw03.PipeOdd", spec := "pipeOdd", unfollowed := true, recurses := true, apart := false }
def PipeOddSaid : Prop := pipeOddRow.holds Try.pinned (OpenSpec.ofChange pipeOddSpec)

/-- ITS FALSE NEIGHBOUR: 'it returns false'. Refute it at one input. -/
def pipeOddWrong : ChangeSpec := { name := "pipeOdd", fn := fun _ => fun
  | [d] => { results := [.lit (.bool false)], args := [d] }
  | _ => none }
def PipeOddWrongFalsely : Prop := pipeOddRow.holds Try.pinned (OpenSpec.ofChange pipeOddWrong)

/-- 'coppicelaw03.PipeSinks': WHATEVER THE INPUT: true; the input reads as it did. -/
def pipeSinksSpec : ChangeSpec := { name := "pipeSinks", fn := fun _ => fun
  | [d1, d2, d3] => { results := [.lit (.bool true)], args := [d1, d2, d3] }
  | _ => none }
def pipeSinksRow : OpenClaim := { program := "ytjkgncogpefnbaa", sum := "aa7c6429db0ce0143335c746a77811b5c781b5ce02a57b955d63454aecc16bfc", func := "coppice/coppicelaw03.PipeSinks", spec := "pipeSinks", unfollowed := true, recurses := true, apart := false }
def PipeSinksSaid : Prop := pipeSinksRow.holds Try.pinned (OpenSpec.ofChange pipeSinksSpec)

/-- ITS FALSE NEIGHBOUR: 'it returns false'. Refute it at one input. -/
def pipeSinksWrong : ChangeSpec := { name := "pipeSinks", fn := fun _ => fun
  | [d1, d2, d3] => { results := [.lit (.bool false)], args := [d1, d2, d3] }
  | _ => none }
def PipeSinksWrongFalsely : Prop := pipeSinksRow.holds Try.pinned (OpenSpec.ofChange pipeSinksWrong)

/-- 'coppicelaw03.PipeChunks': WHATEVER THE INPUT: true; the input reads as it did. -/
def pipeChunksSpec : ChangeSpec := { name := "pipeChunks", fn := fun _ => fun
  | [d1, d2, d3] => { results := [.lit (.bool true)], args := [d1, d2, d3] }
  | _ => none }
def pipeChunksRow : OpenClaim := { program := "ytjkgncogpefnbaa", sum := "aa7c6429db0ce0143335c746a77811b5c781b5ce02a57b955d63454aecc16bfc", func := "coppice/coppicelaw03.PipeChunks", spec := "pipeChunks", unfollowed := true, recurses := true, apart := false }
def PipeChunksSaid : Prop := pipeChunksRow.holds Try.pinned (OpenSpec.ofChange pipeChunksSpec)

/-- ITS FALSE NEIGHBOUR: 'it returns false'. Refute it at one input. -/
def pipeChunksWrong : ChangeSpec := { name := "pipeChunks", fn := fun _ => fun
  | [d1, d2, d3] => { results := [.lit (.bool false)], args := [d1, d2, d3] }
  | _ => none }
def PipeChunksWrongFalsely : Prop := pipeChunksRow.holds Try.pinned (OpenSpec.ofChange pipeChunksWrong)

/-- 'coppicelaw03.PipeBegins': WHATEVER THE INPUT: true; the input reads as it did. -/
def pipeBeginsSpec : ChangeSpec := { name := "pipeBegins", fn := fun _ => fun
  | [d1, d2, d3] => { results := [.lit (.bool true)], args := [d1, d2, d3] }
  | _ => none }
def pipeBeginsRow : OpenClaim := { program := "ytjkgncogpefnbaa", sum := "aa7c6429db0ce0143335c746a77811b5c781b5ce02a57b955d63454aecc16bfc", func := "coppice/coppicelaw03.PipeBegins", spec := "pipeBegins", unfollowed := true, recurses := true, apart := false }
def PipeBeginsSaid : Prop := pipeBeginsRow.holds Try.pinned (OpenSpec.ofChange pipeBeginsSpec)

/-- ITS FALSE NEIGHBOUR: 'it returns false'. Refute it at one input. -/
def pipeBeginsWrong : ChangeSpec := { name := "pipeBegins", fn := fun _ => fun
  | [d1, d2, d3] => { results := [.lit (.bool false)], args := [d1, d2, d3] }
  | _ => none }
def PipeBeginsWrongFalsely : Prop := pipeBeginsRow.holds Try.pinned (OpenSpec.ofChange pipeBeginsWrong)

/-- 'coppicelaw03.PipeWhole': WHATEVER THE INPUT: true; the input reads as it did. -/
def pipeWholeSpec : ChangeSpec := { name := "pipeWhole", fn := fun _ => fun
  | [d1, d2] => { results := [.lit (.bool true)], args := [d1, d2] }
  | _ => none }
def pipeWholeRow : OpenClaim := { program := "ytjkgncogpefnbaa", sum := "aa7c6429db0ce0143335c746a77811b5c781b5ce02a57b955d63454aecc16bfc", func := "coppice/coppicelaw03.PipeWhole", spec := "pipeWhole", unfollowed := true, recurses := true, apart := false }
def PipeWholeSaid : Prop := pipeWholeRow.holds Try.pinned (OpenSpec.ofChange pipeWholeSpec)

/-- ITS FALSE NEIGHBOUR: 'it returns false'. Refute it at one input. -/
def pipeWholeWrong : ChangeSpec := { name := "pipeWhole", fn := fun _ => fun
  | [d1, d2] => { results := [.lit (.bool false)], args := [d1, d2] }
  | _ => none }
def PipeWholeWrongFalsely : Prop := pipeWholeRow.holds Try.pinned (OpenSpec.ofChange pipeWholeWrong)

/-- 'coppicelaw03.PipeSources': WHATEVER THE INPUT: true; the input reads as it did. -/
def pipeSourcesSpec : ChangeSpec := { name := "pipeSources", fn := fun _ => fun
  | [d1, d2] => { results := [.lit (.bool true)], args := [d1, d2] }
  | _ => none }
def pipeSourcesRow : OpenClaim := { program := "ytjkgncogpefnbaa", sum := "aa7c6429db0ce0143335c746a77811b5c781b5ce02a57b955d63454aecc16bfc", func := "coppice/coppicelaw03.PipeSources", spec := "pipeSources", unfollowed := true, recurses := true, apart := false }
def PipeSourcesSaid : Prop := pipeSourcesRow.holds Try.pinned (OpenSpec.ofChange pipeSourcesSpec)

/-- ITS FALSE NEIGHBOUR: 'it returns false'. Refute it at one input. -/
def pipeSourcesWrong : ChangeSpec := { name := "pipeSources", fn := fun _ => fun
  | [d1, d2] => { results := [.lit (.bool false)], args := [d1, d2] }
  | _ => none }
def PipeSourcesWrongFalsely : Prop := pipeSourcesRow.holds Try.pinned (OpenSpec.ofChange pipeSourcesWrong)

/-- 'coppicelaw03.PipeCopies': WHATEVER THE INPUT: true; the input reads as it did. -/
def pipeCopiesSpec : ChangeSpec := { name := "pipeCopies", fn := fun _ => fun
  | [d] => { results := [.lit (.bool true)], args := [d] }
  | _ => none }
def pipeCopiesRow : OpenClaim := { program := "ytjkgncogpefnbaa", sum := "aa7c6429db0ce0143335c746a77811b5c781b5ce02a57b955d63454aecc16bfc", func := "coppice/coppicelaw03.PipeCopies", spec := "pipeCopies", unfollowed := true, recurses := true, apart := false }
def PipeCopiesSaid : Prop := pipeCopiesRow.holds Try.pinned (OpenSpec.ofChange pipeCopiesSpec)

/-- ITS FALSE NEIGHBOUR: 'it returns false'. Refute it at one input. -/
def pipeCopiesWrong : ChangeSpec := { name := "pipeCopies", fn := fun _ => fun
  | [d] => { results := [.lit (.bool false)], args := [d] }
  | _ => none }
def PipeCopiesWrongFalsely : Prop := pipeCopiesRow.holds Try.pinned (OpenSpec.ofChange pipeCopiesWrong)

/- THE SECOND FORM. 'bulk': how many values and letters a reading holds, each counted each time it is reached (what is shared counts as often as it is met; a slice's spare places count too). A statement '..UptoSaid' is the law's where the arguments, and the package variables that the reading takes, are together of bulk at most 1048576: NARROWER than '..Said'. Prove '..Said' where nothing that the law and all that it calls make is longer than what came in: it says more and counts as full. Else prove '..UptoSaid'. A law counts once. -/
mutual
def uptoBulk {H : Type} : DataW H → Nat
  | .lit (.string bytes) => bytes.length + 1
  | .lit _ => 1
  | .nil => 1
  | .ptr d => uptoBulk d + 1
  | .slice elems spare => uptoBulkAll elems + uptoBulkAll spare + 1
  | .agg parts => uptoBulkAll parts + 1
  | .iface _ d => uptoBulk d + 1
  | .map entries => uptoBulkEntries entries + 1
  | .held _ => 1
def uptoBulkAll {H : Type} : List (DataW H) → Nat
  | [] => 0
  | d :: r => uptoBulk d + uptoBulkAll r
def uptoBulkEntries {H : Type} : List (Lit × DataW H) → Nat
  | [] => 0
  | x :: r => uptoBulkEntry x + uptoBulkEntries r
def uptoBulkEntry {H : Type} : Lit × DataW H → Nat
  | (.string bytes, d) => bytes.length + uptoBulk d + 1
  | (_, d) => uptoBulk d + 1
 end
def uptoSmall : (H : Type) → List (DataW H) → Bool := fun _ ds => decide (uptoBulkAll ds ≤ 1048576)
def OpenSpec.upto (s : _root_.Go.ChangeSpec) : _root_.Go.OpenSpec := { _root_.Go.OpenSpec.ofChange s with cond := some uptoSmall }

/-- 'coppicelaw03.PipeNames', WHERE WHAT IT READS IS OF BULK AT MOST 1048576: true; the input reads as it did. -/
def pipeNamesUptoRow : OpenClaim := { program := "ytjkgncogpefnbaa", sum := "aa7c6429db0ce0143335c746a77811b5c781b5ce02a57b955d63454aecc16bfc", func := "coppice/coppicelaw03.PipeNames", spec := "pipeNames", unfollowed := true, recurses := true, apart := false, narrowed := true }
def PipeNamesUptoSaid : Prop := pipeNamesUptoRow.holds Try.pinned (OpenSpec.upto pipeNamesSpec)

/-- 'coppicelaw03.PipeOdd', WHERE WHAT IT READS IS OF BULK AT MOST 1048576: true; the input reads as it did. -/
def pipeOddUptoRow : OpenClaim := { program := "ytjkgncogpefnbaa", sum := "aa7c6429db0ce0143335c746a77811b5c781b5ce02a57b955d63454aecc16bfc", func := "coppice/coppicelaw03.PipeOdd", spec := "pipeOdd", unfollowed := true, recurses := true, apart := false, narrowed := true }
def PipeOddUptoSaid : Prop := pipeOddUptoRow.holds Try.pinned (OpenSpec.upto pipeOddSpec)

/-- 'coppicelaw03.PipeSinks', WHERE WHAT IT READS IS OF BULK AT MOST 1048576: true; the input reads as it did. -/
def pipeSinksUptoRow : OpenClaim := { program := "ytjkgncogpefnbaa", sum := "aa7c6429db0ce0143335c746a77811b5c781b5ce02a57b955d63454aecc16bfc", func := "coppice/coppicelaw03.PipeSinks", spec := "pipeSinks", unfollowed := true, recurses := true, apart := false, narrowed := true }
def PipeSinksUptoSaid : Prop := pipeSinksUptoRow.holds Try.pinned (OpenSpec.upto pipeSinksSpec)

/-- 'coppicelaw03.PipeChunks', WHERE WHAT IT READS IS OF BULK AT MOST 1048576: true; the input reads as it did. -/
def pipeChunksUptoRow : OpenClaim := { program := "ytjkgncogpefnbaa", sum := "aa7c6429db0ce0143335c746a77811b5c781b5ce02a57b955d63454aecc16bfc", func := "coppice/coppicelaw03.PipeChunks", spec := "pipeChunks", unfollowed := true, recurses := true, apart := false, narrowed := true }
def PipeChunksUptoSaid : Prop := pipeChunksUptoRow.holds Try.pinned (OpenSpec.upto pipeChunksSpec)

/-- 'coppicelaw03.PipeBegins', WHERE WHAT IT READS IS OF BULK AT MOST 1048576: true; the input reads as it did. -/
def pipeBeginsUptoRow : OpenClaim := { program := "ytjkgncogpefnbaa", sum := "aa7c6429db0ce0143335c746a77811b5c781b5ce02a57b955d63454aecc16bfc", func := "coppice/coppicelaw03.PipeBegins", spec := "pipeBegins", unfollowed := true, recurses := true, apart := false, narrowed := true }
def PipeBeginsUptoSaid : Prop := pipeBeginsUptoRow.holds Try.pinned (OpenSpec.upto pipeBeginsSpec)

/-- 'coppicelaw03.PipeWhole', WHERE WHAT IT READS IS OF BULK AT MOST 1048576: true; the input reads as it did. -/
def pipeWholeUptoRow : OpenClaim := { program := "ytjkgncogpefnbaa", sum := "aa7c6429db0ce0143335c746a77811b5c781b5ce02a57b955d63454aecc16bfc", func := "coppice/coppicelaw03.PipeWhole", spec := "pipeWhole", unfollowed := true, recurses := true, apart := false, narrowed := true }
def PipeWholeUptoSaid : Prop := pipeWholeUptoRow.holds Try.pinned (OpenSpec.upto pipeWholeSpec)

/-- 'coppicelaw03.PipeSources', WHERE WHAT IT READS IS OF BULK AT MOST 1048576: true; the input reads as it did. -/
def pipeSourcesUptoRow : OpenClaim := { program := "ytjkgncogpefnbaa", sum := "aa7c6429db0ce0143335c746a77811b5c781b5ce02a57b955d63454aecc16bfc", func := "coppice/coppicelaw03.PipeSources", spec := "pipeSources", unfollowed := true, recurses := true, apart := false, narrowed := true }
def PipeSourcesUptoSaid : Prop := pipeSourcesUptoRow.holds Try.pinned (OpenSpec.upto pipeSourcesSpec)

/-- 'coppicelaw03.PipeCopies', WHERE WHAT IT READS IS OF BULK AT MOST 1048576: true; the input reads as it did. -/
def pipeCopiesUptoRow : OpenClaim := { program := "ytjkgncogpefnbaa", sum := "aa7c6429db0ce0143335c746a77811b5c781b5ce02a57b955d63454aecc16bfc", func := "coppice/coppicelaw03.PipeCopies", spec := "pipeCopies", unfollowed := true, recurses := true, apart := false, narrowed := true }
def PipeCopiesUptoSaid : Prop := pipeCopiesUptoRow.holds Try.pinned (OpenSpec.upto pipeCopiesSpec)

end Rows
end Go.Proofs.Ytjkgncogpefnbaa
