/-
  No cell of these rows narrows 'for every input' (looked for: loops, veiled, ifaces, maps, wideKeys, modest, calm, conditions, laid).
  DERIVED. THE GIVEN ROWS OF THIS SEAT. 8 by the template 'for every input the law returns true; each argument reads behind the call as it read before'; 0 by the template 'total and deterministic' (their statements: YtajmojldckpchaaTotals.lean).
  GIVEN WITH THE SEED: the statements are not yours to turn. If you find one false, say at which input.
  Laid BY PROGRAM, IN A SANDBOX (cutbox-rows.mjs): the forced cells as the released guide's own fill.sh prints them over the translation f7f418484d720704… (all of the seat's roots in one cut). By AI agents, Wed Nov 11 2026. No macro, syntax, notation, axiom, sorry.
-/
import Derived.Test.YtajmojldckpchaaChecked
import GoSem.Claim
import GoSem.ClaimJoined
import GoSem.ClaimMapViews
import Derived.JoinedTies
import Derived.KernelRfl
namespace Go.Proofs.Ytajmojldckpchaa
/- THE CELL 'sum', in the pinned program and in every row, IS THE sha256 OF THE DUMP (.gsa) THAT YtajmojldckpchaaProg.lean LOADS. Nothing in Lean hashes anything: it is a label: what it is worth is what the hold of that sum in a sandbox is worth. -/
noncomputable def Try.pinned : Pinned := { name := "ytajmojldckpchaa", sum := "f7f418484d72070401433a9ddf4d601219906e863387ae5f7174fba2120d330d", checked := Try.checked }
namespace Rows
def none {H : Type} : Left H := { results := [], args := [] }

/-- 'coppicelaw05.PairOrder': WHATEVER THE INPUT: true; the input reads as it did. -/
def pairOrderSpec : ChangeSpec := { name := "pairOrder", fn := fun _ => fun
  | [d1, d2, d3] => { results := [.lit (.bool true)], args := [d1, d2, d3] }
  | _ => none }
def pairOrderRow : OpenClaim := { program := "ytajmojldckpchaa", sum := "f7f418484d72070401433a9ddf4d601219906e863387ae5f7174fba2120d330d", func := "coppice/coppicelaw05.PairOrder", spec := "pairOrder", inPlace := ["internal/bytealg.Compare"], apart := false }
def PairOrderSaid : Prop := pairOrderRow.holds Try.pinned (OpenSpec.ofChange pairOrderSpec)

/-- ITS FALSE NEIGHBOUR: 'it returns false'. Refute it at one input. -/
def pairOrderWrong : ChangeSpec := { name := "pairOrder", fn := fun _ => fun
  | [d1, d2, d3] => { results := [.lit (.bool false)], args := [d1, d2, d3] }
  | _ => none }
def PairOrderWrongFalsely : Prop := pairOrderRow.holds Try.pinned (OpenSpec.ofChange pairOrderWrong)

/-- 'coppicelaw05.PairChecks': WHATEVER THE INPUT: true; the input reads as it did. -/
def pairChecksSpec : ChangeSpec := { name := "pairChecks", fn := fun _ => fun
  | [d1, d2, d3] => { results := [.lit (.bool true)], args := [d1, d2, d3] }
  | _ => none }
def pairChecksRow : OpenClaim := { program := "ytajmojldckpchaa", sum := "f7f418484d72070401433a9ddf4d601219906e863387ae5f7174fba2120d330d", func := "coppice/coppicelaw05.PairChecks", spec := "pairChecks", inPlace := ["internal/bytealg.Compare"], apart := false }
def PairChecksSaid : Prop := pairChecksRow.holds Try.pinned (OpenSpec.ofChange pairChecksSpec)

/-- ITS FALSE NEIGHBOUR: 'it returns false'. Refute it at one input. -/
def pairChecksWrong : ChangeSpec := { name := "pairChecks", fn := fun _ => fun
  | [d1, d2, d3] => { results := [.lit (.bool false)], args := [d1, d2, d3] }
  | _ => none }
def PairChecksWrongFalsely : Prop := pairChecksRow.holds Try.pinned (OpenSpec.ofChange pairChecksWrong)

/-- 'coppicelaw05.PairCompares': WHATEVER THE INPUT: true; the input reads as it did. -/
def pairComparesSpec : ChangeSpec := { name := "pairCompares", fn := fun _ => fun
  | [d1, d2] => { results := [.lit (.bool true)], args := [d1, d2] }
  | _ => none }
def pairComparesRow : OpenClaim := { program := "ytajmojldckpchaa", sum := "f7f418484d72070401433a9ddf4d601219906e863387ae5f7174fba2120d330d", func := "coppice/coppicelaw05.PairCompares", spec := "pairCompares", inPlace := ["internal/bytealg.Compare"], apart := false }
def PairComparesSaid : Prop := pairComparesRow.holds Try.pinned (OpenSpec.ofChange pairComparesSpec)

/-- ITS FALSE NEIGHBOUR: 'it returns false'. Refute it at one input. -/
def pairComparesWrong : ChangeSpec := { name := "pairCompares", fn := fun _ => fun
  | [d1, d2] => { results := [.lit (.bool false)], args := [d1, d2] }
  | _ => none }
def PairComparesWrongFalsely : Prop := pairComparesRow.holds Try.pinned (OpenSpec.ofChange pairComparesWrong)

/-- 'coppicelaw05.PairLeast': WHATEVER THE INPUT: true; the input reads as it did. -/
def pairLeastSpec : ChangeSpec := { name := "pairLeast", fn := fun _ => fun
  | [d1, d2, d3] => { results := [.lit (.bool true)], args := [d1, d2, d3] }
  | _ => none }
def pairLeastRow : OpenClaim := { program := "ytajmojldckpchaa", sum := "f7f418484d72070401433a9ddf4d601219906e863387ae5f7174fba2120d330d", func := "coppice/coppicelaw05.PairLeast", spec := "pairLeast", inPlace := ["internal/bytealg.Compare"], apart := false }
def PairLeastSaid : Prop := pairLeastRow.holds Try.pinned (OpenSpec.ofChange pairLeastSpec)

/-- ITS FALSE NEIGHBOUR: 'it returns false'. Refute it at one input. -/
def pairLeastWrong : ChangeSpec := { name := "pairLeast", fn := fun _ => fun
  | [d1, d2, d3] => { results := [.lit (.bool false)], args := [d1, d2, d3] }
  | _ => none }
def PairLeastWrongFalsely : Prop := pairLeastRow.holds Try.pinned (OpenSpec.ofChange pairLeastWrong)

/-- 'coppicelaw05.PairWrites': WHATEVER THE INPUT: true; the input reads as it did. -/
def pairWritesSpec : ChangeSpec := { name := "pairWrites", fn := fun _ => fun
  | [d1, d2] => { results := [.lit (.bool true)], args := [d1, d2] }
  | _ => none }
def pairWritesRow : OpenClaim := { program := "ytajmojldckpchaa", sum := "f7f418484d72070401433a9ddf4d601219906e863387ae5f7174fba2120d330d", func := "coppice/coppicelaw05.PairWrites", spec := "pairWrites", inPlace := ["internal/bytealg.Compare"], apart := false }
def PairWritesSaid : Prop := pairWritesRow.holds Try.pinned (OpenSpec.ofChange pairWritesSpec)

/-- ITS FALSE NEIGHBOUR: 'it returns false'. Refute it at one input. -/
def pairWritesWrong : ChangeSpec := { name := "pairWrites", fn := fun _ => fun
  | [d1, d2] => { results := [.lit (.bool false)], args := [d1, d2] }
  | _ => none }
def PairWritesWrongFalsely : Prop := pairWritesRow.holds Try.pinned (OpenSpec.ofChange pairWritesWrong)

/-- 'coppicelaw05.PairReads': WHATEVER THE INPUT: true; the input reads as it did. -/
def pairReadsSpec : ChangeSpec := { name := "pairReads", fn := fun _ => fun
  | [d1, d2, d3] => { results := [.lit (.bool true)], args := [d1, d2, d3] }
  | _ => none }
def pairReadsRow : OpenClaim := { program := "ytajmojldckpchaa", sum := "f7f418484d72070401433a9ddf4d601219906e863387ae5f7174fba2120d330d", func := "coppice/coppicelaw05.PairReads", spec := "pairReads", inPlace := ["internal/bytealg.Compare"], apart := false }
def PairReadsSaid : Prop := pairReadsRow.holds Try.pinned (OpenSpec.ofChange pairReadsSpec)

/-- ITS FALSE NEIGHBOUR: 'it returns false'. Refute it at one input. -/
def pairReadsWrong : ChangeSpec := { name := "pairReads", fn := fun _ => fun
  | [d1, d2, d3] => { results := [.lit (.bool false)], args := [d1, d2, d3] }
  | _ => none }
def PairReadsWrongFalsely : Prop := pairReadsRow.holds Try.pinned (OpenSpec.ofChange pairReadsWrong)

/-- 'coppicelaw05.PairNames': WHATEVER THE INPUT: true; the input reads as it did. -/
def pairNamesSpec : ChangeSpec := { name := "pairNames", fn := fun _ => fun
  | [] => { results := [.lit (.bool true)], args := [] }
  | _ => none }
def pairNamesRow : OpenClaim := { program := "ytajmojldckpchaa", sum := "f7f418484d72070401433a9ddf4d601219906e863387ae5f7174fba2120d330d", func := "coppice/coppicelaw05.PairNames", spec := "pairNames", inPlace := ["internal/bytealg.Compare"], apart := false }
def PairNamesSaid : Prop := pairNamesRow.holds Try.pinned (OpenSpec.ofChange pairNamesSpec)

/-- ITS FALSE NEIGHBOUR: 'it returns false'. Refute it at one input. -/
def pairNamesWrong : ChangeSpec := { name := "pairNames", fn := fun _ => fun
  | [] => { results := [.lit (.bool false)], args := [] }
  | _ => none }
def PairNamesWrongFalsely : Prop := pairNamesRow.holds Try.pinned (OpenSpec.ofChange pairNamesWrong)

/-- 'coppicelaw05.PairTrips': WHATEVER THE INPUT: true; the input reads as it did. -/
def pairTripsSpec : ChangeSpec := { name := "pairTrips", fn := fun _ => fun
  | [d] => { results := [.lit (.bool true)], args := [d] }
  | _ => none }
def pairTripsRow : OpenClaim := { program := "ytajmojldckpchaa", sum := "f7f418484d72070401433a9ddf4d601219906e863387ae5f7174fba2120d330d", func := "coppice/coppicelaw05.PairTrips", spec := "pairTrips", inPlace := ["internal/bytealg.Compare"], apart := false }
def PairTripsSaid : Prop := pairTripsRow.holds Try.pinned (OpenSpec.ofChange pairTripsSpec)

/-- ITS FALSE NEIGHBOUR: 'it returns false'. Refute it at one input. -/
def pairTripsWrong : ChangeSpec := { name := "pairTrips", fn := fun _ => fun
  | [d] => { results := [.lit (.bool false)], args := [d] }
  | _ => none }
def PairTripsWrongFalsely : Prop := pairTripsRow.holds Try.pinned (OpenSpec.ofChange pairTripsWrong)

/- THE SECOND FORM. 'bulk': how many values and letters a reading holds, each counted each time it is reached (what is shared counts as often as it is met; a slice's spare places count too). A statement '..UptoSaid' is the law's where the arguments, and the package variables that the reading takes, are together of bulk at most 1048576: NARROWER than '..Said'. Prove '..Said' where nothing that the law and all that it calls make is longer than what came in: it says more and counts as full. Else prove '..UptoSaid'. A law counts once. -/
mutual
def uptoBulk {H : Type} : DataW H → Nat
  | .lit (.string bytes) => bytes.length + 1
  | .lit _ => 1
  | .nil => 1
  | .ptr d => uptoBulk d + 1
  | .slice elems spare => uptoBulkAll elems + uptoBulkAll spare + 1
  | .agg parts => uptoBulkAll parts + 1
  | .iface _ d => uptoBulk d + 1
  | .map entries => uptoBulkEntries entries + 1
  | .held _ => 1
def uptoBulkAll {H : Type} : List (DataW H) → Nat
  | [] => 0
  | d :: r => uptoBulk d + uptoBulkAll r
def uptoBulkEntries {H : Type} : List (Lit × DataW H) → Nat
  | [] => 0
  | x :: r => uptoBulkEntry x + uptoBulkEntries r
def uptoBulkEntry {H : Type} : Lit × DataW H → Nat
  | (.string bytes, d) => bytes.length + uptoBulk d + 1
  | (_, d) => uptoBulk d + 1
 end
def uptoSmall : (H : Type) → List (DataW H) → Bool := fun _ ds => decide (uptoBulkAll ds ≤ 1048576)
def OpenSpec.upto (s : _root_.Go.ChangeSpec) : _root_.Go.OpenSpec := { _root_.Go.OpenSpec.ofChange s with cond := some uptoSmall }

/-- 'coppicelaw05.PairOrder', WHERE WHAT IT READS IS OF BULK AT MOST 1048576: true; the input reads as it did. -/
def pairOrderUptoRow : OpenClaim := { program := "ytajmojldckpchaa", sum := "f7f418484d72070401433a9ddf4d601219906e863387ae5f7174fba2120d330d", func := "coppice/coppicelaw05.PairOrder", spec := "pairOrder", inPlace := ["internal/bytealg.Compare"], apart := false, narrowed := true }
def PairOrderUptoSaid : Prop := pairOrderUptoRow.holds Try.pinned (OpenSpec.upto pairOrderSpec)

/-- 'coppicelaw05.PairChecks', WHERE WHAT IT READS IS OF BULK AT MOST 1048576: true; the input reads as it did. -/
def pairChecksUptoRow : OpenClaim := { program := "ytajmojldckpchaa", sum := "f7f418484d72070401433a9ddf4d601219906e863387ae5f7174fba2120d330d", func := "coppice/coppicelaw05.PairChecks", spec := "pairChecks", inPlace := ["internal/bytealg.Compare"], apart := false, narrowed := true }
def PairChecksUptoSaid : Prop := pairChecksUptoRow.holds Try.pinned (OpenSpec.upto pairChecksSpec)

/-- 'coppicelaw05.PairCompares', WHERE WHAT IT READS IS OF BULK AT MOST 1048576: true; the input reads as it did. -/
def pairComparesUptoRow : OpenClaim := { program := "ytajmojldckpchaa", sum := "f7f418484d72070401433a9ddf4d601219906e863387ae5f7174fba2120d330d", func := "coppice/coppicelaw05.PairCompares", spec := "pairCompares", inPlace := ["internal/bytealg.Compare"], apart := false, narrowed := true }
def PairComparesUptoSaid : Prop := pairComparesUptoRow.holds Try.pinned (OpenSpec.upto pairComparesSpec)

/-- 'coppicelaw05.PairLeast', WHERE WHAT IT READS IS OF BULK AT MOST 1048576: true; the input reads as it did. -/
def pairLeastUptoRow : OpenClaim := { program := "ytajmojldckpchaa", sum := "f7f418484d72070401433a9ddf4d601219906e863387ae5f7174fba2120d330d", func := "coppice/coppicelaw05.PairLeast", spec := "pairLeast", inPlace := ["internal/bytealg.Compare"], apart := false, narrowed := true }
def PairLeastUptoSaid : Prop := pairLeastUptoRow.holds Try.pinned (OpenSpec.upto pairLeastSpec)

/-- 'coppicelaw05.PairWrites', WHERE WHAT IT READS IS OF BULK AT MOST 1048576: true; the input reads as it did. -/
def pairWritesUptoRow : OpenClaim := { program := "ytajmojldckpchaa", sum := "f7f418484d72070401433a9ddf4d601219906e863387ae5f7174fba2120d330d", func := "coppice/coppicelaw05.PairWrites", spec := "pairWrites", inPlace := ["internal/bytealg.Compare"], apart := false, narrowed := true }
def PairWritesUptoSaid : Prop := pairWritesUptoRow.holds Try.pinned (OpenSpec.upto pairWritesSpec)

/-- 'coppicelaw05.PairReads', WHERE WHAT IT READS IS OF BULK AT MOST 1048576: true; the input reads as it did. -/
def pairReadsUptoRow : OpenClaim := { program := "ytajmojldckpchaa", sum := "f7f418484d72070401433a9ddf4d601219906e863387ae5f7174fba2120d330d", func := "coppice/coppicelaw05.PairReads", spec := "pairReads", inPlace := ["internal/bytealg.Compare"], apart := false, narrowed := true }
def PairReadsUptoSaid : Prop := pairReadsUptoRow.holds Try.pinned (OpenSpec.upto pairReadsSpec)

/-- 'coppicelaw05.PairNames', WHERE WHAT IT READS IS OF BULK AT MOST 1048576: true; the input reads as it did. -/
def pairNamesUptoRow : OpenClaim := { program := "ytajmojldckpchaa", sum := "f7f418484d72070401433a9ddf4d601219906e863387ae5f7174fba2120d330d", func := "coppice/coppicelaw05.PairNames", spec := "pairNames", inPlace := ["internal/bytealg.Compare"], apart := false, narrowed := true }
def PairNamesUptoSaid : Prop := pairNamesUptoRow.holds Try.pinned (OpenSpec.upto pairNamesSpec)

/-- 'coppicelaw05.PairTrips', WHERE WHAT IT READS IS OF BULK AT MOST 1048576: true; the input reads as it did. -/
def pairTripsUptoRow : OpenClaim := { program := "ytajmojldckpchaa", sum := "f7f418484d72070401433a9ddf4d601219906e863387ae5f7174fba2120d330d", func := "coppice/coppicelaw05.PairTrips", spec := "pairTrips", inPlace := ["internal/bytealg.Compare"], apart := false, narrowed := true }
def PairTripsUptoSaid : Prop := pairTripsUptoRow.holds Try.pinned (OpenSpec.upto pairTripsSpec)

end Rows
end Go.Proofs.Ytajmojldckpchaa
