/-
  No cell of these rows narrows 'for every input' (looked for: loops, veiled, ifaces, maps, wideKeys, modest, calm, conditions, laid).
  DERIVED. THE GIVEN ROWS OF THIS SEAT. 6 by the template 'for every input the law returns true; each argument reads behind the call as it read before'; 0 by the template 'total and deterministic' (their statements: YtpenbaafhbbmhaaTotals.lean).
  GIVEN WITH THE SEED: the statements are not yours to turn. If you find one false, say at which input.
  Laid BY PROGRAM, IN A SANDBOX (cutbox-rows.mjs): the forced cells as the released guide's own fill.sh prints them over the translation f16cd75f044ceb30… (all of the seat's roots in one cut). By AI agents, Wed Nov 11 2026. No macro, syntax, notation, axiom, sorry.
-/
import Derived.Test.YtpenbaafhbbmhaaChecked
import GoSem.Claim
import GoSem.ClaimJoined
import GoSem.ClaimMapViews
import Derived.JoinedTies
import Derived.KernelRfl
namespace Go.Proofs.Ytpenbaafhbbmhaa
/- THE CELL 'sum', in the pinned program and in every row, IS THE sha256 OF THE DUMP (.gsa) THAT YtpenbaafhbbmhaaProg.lean LOADS. Nothing in Lean hashes anything: it is a label: what it is worth is what the hold of that sum in a sandbox is worth. -/
noncomputable def Try.pinned : Pinned := { name := "ytpenbaafhbbmhaa", sum := "f16cd75f044ceb3001276d4eb798c271060451ffa5a5292554cdd65d327c9dd7", checked := Try.checked }
namespace Rows
def none {H : Type} : Left H := { results := [], args := [] }

/-- 'coppicelaw04.CursorIns': WHATEVER THE INPUT: true; the input reads as it did. -/
def cursorInsSpec : ChangeSpec := { name := "cursorIns", fn := fun _ => fun
  | [d1, d2, d3] => { results := [.lit (.bool true)], args := [d1, d2, d3] }
  | _ => none }
def cursorInsRow : OpenClaim := { program := "ytpenbaafhbbmhaa", sum := "f16cd75f044ceb3001276d4eb798c271060451ffa5a5292554cdd65d327c9dd7", func := "coppice/coppicelaw04.CursorIns", spec := "cursorIns", unfollowed := true, recurses := true, apart := false }
def CursorInsSaid : Prop := cursorInsRow.holds Try.pinned (OpenSpec.ofChange cursorInsSpec)

/-- ITS FALSE NEIGHBOUR: 'it returns false'. Refute it at one input. -/
def cursorInsWrong : ChangeSpec := { name := "cursorIns", fn := fun _ => fun
  | [d1, d2, d3] => { results := [.lit (.bool false)], args := [d1, d2, d3] }
  | _ => none }
def CursorInsWrongFalsely : Prop := cursorInsRow.holds Try.pinned (OpenSpec.ofChange cursorInsWrong)

/-- 'coppicelaw04.CursorTight': WHATEVER THE INPUT: true; the input reads as it did. -/
def cursorTightSpec : ChangeSpec := { name := "cursorTight", fn := fun _ => fun
  | [d1, d2, d3] => { results := [.lit (.bool true)], args := [d1, d2, d3] }
  | _ => none }
def cursorTightRow : OpenClaim := { program := "ytpenbaafhbbmhaa", sum := "f16cd75f044ceb3001276d4eb798c271060451ffa5a5292554cdd65d327c9dd7", func := "coppice/coppicelaw04.CursorTight", spec := "cursorTight", unfollowed := true, recurses := true, apart := false }
def CursorTightSaid : Prop := cursorTightRow.holds Try.pinned (OpenSpec.ofChange cursorTightSpec)

/-- ITS FALSE NEIGHBOUR: 'it returns false'. Refute it at one input. -/
def cursorTightWrong : ChangeSpec := { name := "cursorTight", fn := fun _ => fun
  | [d1, d2, d3] => { results := [.lit (.bool false)], args := [d1, d2, d3] }
  | _ => none }
def CursorTightWrongFalsely : Prop := cursorTightRow.holds Try.pinned (OpenSpec.ofChange cursorTightWrong)

/-- 'coppicelaw04.CursorOuts': WHATEVER THE INPUT: true; the input reads as it did. -/
def cursorOutsSpec : ChangeSpec := { name := "cursorOuts", fn := fun _ => fun
  | [d1, d2, d3] => { results := [.lit (.bool true)], args := [d1, d2, d3] }
  | _ => none }
def cursorOutsRow : OpenClaim := { program := "ytpenbaafhbbmhaa", sum := "f16cd75f044ceb3001276d4eb798c271060451ffa5a5292554cdd65d327c9dd7", func := "coppice/coppicelaw04.CursorOuts", spec := "cursorOuts", unfollowed := true, recurses := true, apart := false }
def CursorOutsSaid : Prop := cursorOutsRow.holds Try.pinned (OpenSpec.ofChange cursorOutsSpec)

/-- ITS FALSE NEIGHBOUR: 'it returns false'. Refute it at one input. -/
def cursorOutsWrong : ChangeSpec := { name := "cursorOuts", fn := fun _ => fun
  | [d1, d2, d3] => { results := [.lit (.bool false)], args := [d1, d2, d3] }
  | _ => none }
def CursorOutsWrongFalsely : Prop := cursorOutsRow.holds Try.pinned (OpenSpec.ofChange cursorOutsWrong)

/-- 'coppicelaw04.CursorOdd': WHATEVER THE INPUT: true; the input reads as it did. -/
def cursorOddSpec : ChangeSpec := { name := "cursorOdd", fn := fun _ => fun
  | [d] => { results := [.lit (.bool true)], args := [d] }
  | _ => none }
def cursorOddRow : OpenClaim := { program := "ytpenbaafhbbmhaa", sum := "f16cd75f044ceb3001276d4eb798c271060451ffa5a5292554cdd65d327c9dd7", func := "coppice/coppicelaw04.CursorOdd", spec := "cursorOdd", unfollowed := true, recurses := true, apart := false }
def CursorOddSaid : Prop := cursorOddRow.holds Try.pinned (OpenSpec.ofChange cursorOddSpec)

/-- ITS FALSE NEIGHBOUR: 'it returns false'. Refute it at one input. -/
def cursorOddWrong : ChangeSpec := { name := "cursorOdd", fn := fun _ => fun
  | [d] => { results := [.lit (.bool false)], args := [d] }
  | _ => none }
def CursorOddWrongFalsely : Prop := cursorOddRow.holds Try.pinned (OpenSpec.ofChange cursorOddWrong)

/-- 'coppicelaw04.CursorNames': WHATEVER THE INPUT: true; the input reads as it did. -/
def cursorNamesSpec : ChangeSpec := { name := "cursorNames", fn := fun _ => fun
  | [] => { results := [.lit (.bool true)], args := [] }
  | _ => none }
def cursorNamesRow : OpenClaim := { program := "ytpenbaafhbbmhaa", sum := "f16cd75f044ceb3001276d4eb798c271060451ffa5a5292554cdd65d327c9dd7", func := "coppice/coppicelaw04.CursorNames", spec := "cursorNames", unfollowed := true, recurses := true, apart := false }
def CursorNamesSaid : Prop := cursorNamesRow.holds Try.pinned (OpenSpec.ofChange cursorNamesSpec)

/-- ITS FALSE NEIGHBOUR: 'it returns false'. Refute it at one input. -/
def cursorNamesWrong : ChangeSpec := { name := "cursorNames", fn := fun _ => fun
  | [] => { results := [.lit (.bool false)], args := [] }
  | _ => none }
def CursorNamesWrongFalsely : Prop := cursorNamesRow.holds Try.pinned (OpenSpec.ofChange cursorNamesWrong)

/-- 'coppicelaw04.CursorTrips': WHATEVER THE INPUT: true; the input reads as it did. -/
def cursorTripsSpec : ChangeSpec := { name := "cursorTrips", fn := fun _ => fun
  | [d] => { results := [.lit (.bool true)], args := [d] }
  | _ => none }
def cursorTripsRow : OpenClaim := { program := "ytpenbaafhbbmhaa", sum := "f16cd75f044ceb3001276d4eb798c271060451ffa5a5292554cdd65d327c9dd7", func := "coppice/coppicelaw04.CursorTrips", spec := "cursorTrips", unfollowed := true, recurses := true, apart := false }
def CursorTripsSaid : Prop := cursorTripsRow.holds Try.pinned (OpenSpec.ofChange cursorTripsSpec)

/-- ITS FALSE NEIGHBOUR: 'it returns false'. Refute it at one input. -/
def cursorTripsWrong : ChangeSpec := { name := "cursorTrips", fn := fun _ => fun
  | [d] => { results := [.lit (.bool false)], args := [d] }
  | _ => none }
def CursorTripsWrongFalsely : Prop := cursorTripsRow.holds Try.pinned (OpenSpec.ofChange cursorTripsWrong)

/- THE SECOND FORM. 'bulk': how many values and letters a reading holds, each counted each time it is reached (what is shared counts as often as it is met; a slice's spare places count too). A statement '..UptoSaid' is the law's where the arguments, and the package variables that the reading takes, are together of bulk at most 1048576: NARROWER than '..Said'. Prove '..Said' where nothing that the law and all that it calls make is longer than what came in: it says more and counts as full. Else prove '..UptoSaid'. A law counts once. -/
mutual
def uptoBulk {H : Type} : DataW H → Nat
  | .lit (.string bytes) => bytes.length + 1
  | .lit _ => 1
  | .nil => 1
  | .ptr d => uptoBulk d + 1
  | .slice elems spare => uptoBulkAll elems + uptoBulkAll spare + 1
  | .agg parts => uptoBulkAll parts + 1
  | .iface _ d => uptoBulk d + 1
  | .map entries => uptoBulkEntries entries + 1
  | .held _ => 1
def uptoBulkAll {H : Type} : List (DataW H) → Nat
  | [] => 0
  | d :: r => uptoBulk d + uptoBulkAll r
def uptoBulkEntries {H : Type} : List (Lit × DataW H) → Nat
  | [] => 0
  | x :: r => uptoBulkEntry x + uptoBulkEntries r
def uptoBulkEntry {H : Type} : Lit × DataW H → Nat
  | (.string bytes, d) => bytes.length + uptoBulk d + 1
  | (_, d) => uptoBulk d + 1
 end
def uptoSmall : (H : Type) → List (DataW H) → Bool := fun _ ds => decide (uptoBulkAll ds ≤ 1048576)
def OpenSpec.upto (s : _root_.Go.ChangeSpec) : _root_.Go.OpenSpec := { _root_.Go.OpenSpec.ofChange s with cond := some uptoSmall }

/-- 'coppicelaw04.CursorIns', WHERE WHAT IT READS IS OF BULK AT MOST 1048576: true; the input reads as it did. -/
def cursorInsUptoRow : OpenClaim := { program := "ytpenbaafhbbmhaa", sum := "f16cd75f044ceb3001276d4eb798c271060451ffa5a5292554cdd65d327c9dd7", func := "coppice/coppicelaw04.CursorIns", spec := "cursorIns", unfollowed := true, recurses := true, apart := false, narrowed := true }
def CursorInsUptoSaid : Prop := cursorInsUptoRow.holds Try.pinned (OpenSpec.upto cursorInsSpec)

/-- 'coppicelaw04.CursorTight', WHERE WHAT IT READS IS OF BULK AT MOST 1048576: true; the input reads as it did. -/
def cursorTightUptoRow : OpenClaim := { program := "ytpenbaafhbbmhaa", sum := "f16cd75f044ceb3001276d4eb798c271060451ffa5a5292554cdd65d327c9dd7", func := "coppice/coppicelaw04.CursorTight", spec := "cursorTight", unfollowed := true, recurses := true, apart := false, narrowed := true }
def CursorTightUptoSaid : Prop := cursorTightUptoRow.holds Try.pinned (OpenSpec.upto cursorTightSpec)

/-- 'coppicelaw04.CursorOuts', WHERE WHAT IT READS IS OF BULK AT MOST 1048576: true; the input reads as it did. -/
def cursorOutsUptoRow : OpenClaim := { program := "ytpenbaafhbbmhaa", sum := "f16cd75f044ceb3001276d4eb798c271060451ffa5a5292554cdd65d327c9dd7", func := "coppice/coppicelaw04.CursorOuts", spec := "cursorOuts", unfollowed := true, recurses := true, apart := false, narrowed := true }
def CursorOutsUptoSaid : Prop := cursorOutsUptoRow.holds Try.pinned (OpenSpec.upto cursorOutsSpec)

/-- 'coppicelaw04.CursorOdd', WHERE WHAT IT READS IS OF BULK AT MOST 1048576: true; the input reads as it did. -/
def cursorOddUptoRow : OpenClaim := { program := "ytpenbaafhbbmhaa", sum := "f16cd75f044ceb3001276d4eb798c271060451ffa5a5292554cdd65d327c9dd7", func := "coppice/coppicelaw04.CursorOdd", spec := "cursorOdd", unfollowed := true, recurses := true, apart := false, narrowed := true }
def CursorOddUptoSaid : Prop := cursorOddUptoRow.holds Try.pinned (OpenSpec.upto cursorOddSpec)

/-- 'coppicelaw04.CursorNames', WHERE WHAT IT READS IS OF BULK AT MOST 1048576: true; the input reads as it did. -/
def cursorNamesUptoRow : OpenClaim := { program := "ytpenbaafhbbmhaa", sum := "f16cd75f044ceb3001276d4eb798c271060451ffa5a5292554cdd65d327c9dd7", func := "coppice/coppicelaw04.CursorNames", spec := "cursorNames", unfollowed := true, recurses := true, apart := false, narrowed := true }
def CursorNamesUptoSaid : Prop := cursorNamesUptoRow.holds Try.pinned (OpenSpec.upto cursorNamesSpec)

/-- 'coppicelaw04.CursorTrips', WHERE WHAT IT READS IS OF BULK AT MOST 1048576: true; the input reads as it did. -/
def cursorTripsUptoRow : OpenClaim := { program := "ytpenbaafhbbmhaa", sum := "f16cd75f044ceb3001276d4eb798c271060451ffa5a5292554cdd65d327c9dd7", func := "coppice/coppicelaw04.CursorTrips", spec := "cursorTrips", unfollowed := true, recurses := true, apart := false, narrowed := true }
def CursorTripsUptoSaid : Prop := cursorTripsUptoRow.holds Try.pinned (OpenSpec.upto cursorTripsSpec)

end Rows
end Go.Proofs.Ytpenbaafhbbmhaa
