/-
  No cell of these rows narrows 'for every input' (looked for: loops, veiled, ifaces, maps, wideKeys, modest, calm, conditions, laid).
  DERIVED. THE GIVEN ROWS OF THIS SEAT. 5 by the template 'for every input the law returns true; each argument reads behind the call as it read before'; 0 by the template 'total and deterministic' (their statements: YtpmijgeakmmieaaTotals.lean).
  GIVEN WITH THE SEED: the statements are not yours to turn. If you find one false, say at which input.
  Laid BY PROGRAM, IN A SANDBOX (cutbox-rows.mjs): the forced cells as the released guide's own fill.sh prints them over the translation f85bb3a5b35743e2… (all of the seat's roots in one cut). By AI agents, Wed Nov 11 2026. No macro, syntax, notation, axiom, sorry.
-/
import Derived.Test.YtpmijgeakmmieaaChecked
import GoSem.Claim
import GoSem.ClaimJoined
import GoSem.ClaimMapViews
import Derived.JoinedTies
import Derived.KernelRfl
namespace Go.Proofs.Ytpmijgeakmmieaa
/- THE CELL 'sum', in the pinned program and in every row, IS THE sha256 OF THE DUMP (.gsa) THAT YtpmijgeakmmieaaProg.lean LOADS. Nothing in Lean hashes anything: it is a label: what it is worth is what the hold of that sum in a sandbox is worth. -/
noncomputable def Try.pinned : Pinned := { name := "ytpmijgeakmmieaa", sum := "f85bb3a5b35743e238914edc46126d88a2ef136f9c00954afc1051fb442dd7c6", checked := Try.checked }
namespace Rows
def none {H : Type} : Left H := { results := [], args := [] }

/-- 'coppicelaw07.FootWrites': WHATEVER THE INPUT: true; the input reads as it did. -/
def footWritesSpec : ChangeSpec := { name := "footWrites", fn := fun _ => fun
  | [d] => { results := [.lit (.bool true)], args := [d] }
  | _ => none }
def footWritesRow : OpenClaim := { program := "ytpmijgeakmmieaa", sum := "f85bb3a5b35743e238914edc46126d88a2ef136f9c00954afc1051fb442dd7c6", func := "coppice/coppicelaw07.FootWrites", spec := "footWrites", inPlace := ["internal/bytealg.Compare"], unfollowed := true, recurses := true, apart := false }
def FootWritesSaid : Prop := footWritesRow.holds Try.pinned (OpenSpec.ofChange footWritesSpec)

/-- ITS FALSE NEIGHBOUR: 'it returns false'. Refute it at one input. -/
def footWritesWrong : ChangeSpec := { name := "footWrites", fn := fun _ => fun
  | [d] => { results := [.lit (.bool false)], args := [d] }
  | _ => none }
def FootWritesWrongFalsely : Prop := footWritesRow.holds Try.pinned (OpenSpec.ofChange footWritesWrong)

/-- 'coppicelaw07.FootFinds': WHATEVER THE INPUT: true; the input reads as it did. -/
def footFindsSpec : ChangeSpec := { name := "footFinds", fn := fun _ => fun
  | [d1, d2] => { results := [.lit (.bool true)], args := [d1, d2] }
  | _ => none }
def footFindsRow : OpenClaim := { program := "ytpmijgeakmmieaa", sum := "f85bb3a5b35743e238914edc46126d88a2ef136f9c00954afc1051fb442dd7c6", func := "coppice/coppicelaw07.FootFinds", spec := "footFinds", inPlace := ["internal/bytealg.Compare"], unfollowed := true, recurses := true, apart := false }
def FootFindsSaid : Prop := footFindsRow.holds Try.pinned (OpenSpec.ofChange footFindsSpec)

/-- ITS FALSE NEIGHBOUR: 'it returns false'. Refute it at one input. -/
def footFindsWrong : ChangeSpec := { name := "footFinds", fn := fun _ => fun
  | [d1, d2] => { results := [.lit (.bool false)], args := [d1, d2] }
  | _ => none }
def FootFindsWrongFalsely : Prop := footFindsRow.holds Try.pinned (OpenSpec.ofChange footFindsWrong)

/-- 'coppicelaw07.FootReads': WHATEVER THE INPUT: true; the input reads as it did. -/
def footReadsSpec : ChangeSpec := { name := "footReads", fn := fun _ => fun
  | [d] => { results := [.lit (.bool true)], args := [d] }
  | _ => none }
def footReadsRow : OpenClaim := { program := "ytpmijgeakmmieaa", sum := "f85bb3a5b35743e238914edc46126d88a2ef136f9c00954afc1051fb442dd7c6", func := "coppice/coppicelaw07.FootReads", spec := "footReads", inPlace := ["internal/bytealg.Compare"], unfollowed := true, recurses := true, apart := false }
def FootReadsSaid : Prop := footReadsRow.holds Try.pinned (OpenSpec.ofChange footReadsSpec)

/-- ITS FALSE NEIGHBOUR: 'it returns false'. Refute it at one input. -/
def footReadsWrong : ChangeSpec := { name := "footReads", fn := fun _ => fun
  | [d] => { results := [.lit (.bool false)], args := [d] }
  | _ => none }
def FootReadsWrongFalsely : Prop := footReadsRow.holds Try.pinned (OpenSpec.ofChange footReadsWrong)

/-- 'coppicelaw07.FootTrips': WHATEVER THE INPUT: true; the input reads as it did. -/
def footTripsSpec : ChangeSpec := { name := "footTrips", fn := fun _ => fun
  | [d] => { results := [.lit (.bool true)], args := [d] }
  | _ => none }
def footTripsRow : OpenClaim := { program := "ytpmijgeakmmieaa", sum := "f85bb3a5b35743e238914edc46126d88a2ef136f9c00954afc1051fb442dd7c6", func := "coppice/coppicelaw07.FootTrips", spec := "footTrips", inPlace := ["internal/bytealg.Compare"], unfollowed := true, recurses := true, apart := false }
def FootTripsSaid : Prop := footTripsRow.holds Try.pinned (OpenSpec.ofChange footTripsSpec)

/-- ITS FALSE NEIGHBOUR: 'it returns false'. Refute it at one input. -/
def footTripsWrong : ChangeSpec := { name := "footTrips", fn := fun _ => fun
  | [d] => { results := [.lit (.bool false)], args := [d] }
  | _ => none }
def FootTripsWrongFalsely : Prop := footTripsRow.holds Try.pinned (OpenSpec.ofChange footTripsWrong)

/-- 'coppicelaw07.FootNames': WHATEVER THE INPUT: true; the input reads as it did. -/
def footNamesSpec : ChangeSpec := { name := "footNames", fn := fun _ => fun
  | [] => { results := [.lit (.bool true)], args := [] }
  | _ => none }
def footNamesRow : OpenClaim := { program := "ytpmijgeakmmieaa", sum := "f85bb3a5b35743e238914edc46126d88a2ef136f9c00954afc1051fb442dd7c6", func := "coppice/coppicelaw07.FootNames", spec := "footNames", inPlace := ["internal/bytealg.Compare"], unfollowed := true, recurses := true, apart := false }
def FootNamesSaid : Prop := footNamesRow.holds Try.pinned (OpenSpec.ofChange footNamesSpec)

/-- ITS FALSE NEIGHBOUR: 'it returns false'. Refute it at one input. -/
def footNamesWrong : ChangeSpec := { name := "footNames", fn := fun _ => fun
  | [] => { results := [.lit (.bool false)], args := [] }
  | _ => none }
def FootNamesWrongFalsely : Prop := footNamesRow.holds Try.pinned (OpenSpec.ofChange footNamesWrong)

/- THE SECOND FORM. 'bulk': how many values and letters a reading holds, each counted each time it is reached (what is shared counts as often as it is met; a slice's spare places count too). A statement '..UptoSaid' is the law's where the arguments, and the package variables that the reading takes, are together of bulk at most 1048576: NARROWER than '..Said'. Prove '..Said' where nothing that the law and all that it calls make is longer than what came in: it says more and counts as full. Else prove '..UptoSaid'. A law counts once. -/
mutual
def uptoBulk {H : Type} : DataW H → Nat
  | .lit (.string bytes) => bytes.length + 1
  | .lit _ => 1
  | .nil => 1
  | .ptr d => uptoBulk d + 1
  | .slice elems spare => uptoBulkAll elems + uptoBulkAll spare + 1
  | .agg parts => uptoBulkAll parts + 1
  | .iface _ d => uptoBulk d + 1
  | .map entries => uptoBulkEntries entries + 1
  | .held _ => 1
def uptoBulkAll {H : Type} : List (DataW H) → Nat
  | [] => 0
  | d :: r => uptoBulk d + uptoBulkAll r
def uptoBulkEntries {H : Type} : List (Lit × DataW H) → Nat
  | [] => 0
  | x :: r => uptoBulkEntry x + uptoBulkEntries r
def uptoBulkEntry {H : Type} : Lit × DataW H → Nat
  | (.string bytes, d) => bytes.length + uptoBulk d + 1
  | (_, d) => uptoBulk d + 1
 end
def uptoSmall : (H : Type) → List (DataW H) → Bool := fun _ ds => decide (uptoBulkAll ds ≤ 1048576)
def OpenSpec.upto (s : _root_.Go.ChangeSpec) : _root_.Go.OpenSpec := { _root_.Go.OpenSpec.ofChange s with cond := some uptoSmall }

/-- 'coppicelaw07.FootWrites', WHERE WHAT IT READS IS OF BULK AT MOST 1048576: true; the input reads as it did. -/
def footWritesUptoRow : OpenClaim := { program := "ytpmijgeakmmieaa", sum := "f85bb3a5b35743e238914edc46126d88a2ef136f9c00954afc1051fb442dd7c6", func := "coppice/coppicelaw07.FootWrites", spec := "footWrites", inPlace := ["internal/bytealg.Compare"], unfollowed := true, recurses := true, apart := false, narrowed := true }
def FootWritesUptoSaid : Prop := footWritesUptoRow.holds Try.pinned (OpenSpec.upto footWritesSpec)

/-- 'coppicelaw07.FootFinds', WHERE WHAT IT READS IS OF BULK AT MOST 1048576: true; the input reads as it did. -/
def footFindsUptoRow : OpenClaim := { program := "ytpmijgeakmmieaa", sum := "f85bb3a5b35743e238914edc46126d88a2ef136f9c00954afc1051fb442dd7c6", func := "coppice/coppicelaw07.FootFinds", spec := "footFinds", inPlace := ["internal/bytealg.Compare"], unfollowed := true, recurses := true, apart := false, narrowed := true }
def FootFindsUptoSaid : Prop := footFindsUptoRow.holds Try.pinned (OpenSpec.upto footFindsSpec)

/-- 'coppicelaw07.FootReads', WHERE WHAT IT READS IS OF BULK AT MOST 1048576: true; the input reads as it did. -/
def footReadsUptoRow : OpenClaim := { program := "ytpmijgeakmmieaa", sum := "f85bb3a5b35743e238914edc46126d88a2ef136f9c00954afc1051fb442dd7c6", func := "coppice/coppicelaw07.FootReads", spec := "footReads", inPlace := ["internal/bytealg.Compare"], unfollowed := true, recurses := true, apart := false, narrowed := true }
def FootReadsUptoSaid : Prop := footReadsUptoRow.holds Try.pinned (OpenSpec.upto footReadsSpec)

/-- 'coppicelaw07.FootTrips', WHERE WHAT IT READS IS OF BULK AT MOST 1048576: true; the input reads as it did. -/
def footTripsUptoRow : OpenClaim := { program := "ytpmijgeakmmieaa", sum := "f85bb3a5b35743e238914edc46126d88a2ef136f9c00954afc1051fb442dd7c6", func := "coppice/coppicelaw07.FootTrips", spec := "footTrips", inPlace := ["internal/bytealg.Compare"], unfollowed := true, recurses := true, apart := false, narrowed := true }
def FootTripsUptoSaid : Prop := footTripsUptoRow.holds Try.pinned (OpenSpec.upto footTripsSpec)

/-- 'coppicelaw07.FootNames', WHERE WHAT IT READS IS OF BULK AT MOST 1048576: true; the input reads as it did. -/
def footNamesUptoRow : OpenClaim := { program := "ytpmijgeakmmieaa", sum := "f85bb3a5b35743e238914edc46126d88a2ef136f9c00954afc1051fb442dd7c6", func := "coppice/coppicelaw07.FootNames", spec := "footNames", inPlace := ["internal/bytealg.Compare"], unfollowed := true, recurses := true, apart := false, narrowed := true }
def FootNamesUptoSaid : Prop := footNamesUptoRow.holds Try.pinned (OpenSpec.upto footNamesSpec)

end Rows
end Go.Proofs.Ytpmijgeakmmieaa
