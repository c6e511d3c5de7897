/-
  No cell of these rows narrows 'for every input' (looked for: loops, veiled, ifaces, maps, wideKeys, modest, calm, conditions, laid).
  DERIVED. THE GIVEN ROWS OF THIS SEAT. 8 by the template 'for every input the law returns true; each argument reads behind the call as it read before'; 0 by the template 'total and deterministic' (their statements: YteedjgjkldbbcaaTotals.lean).
  GIVEN WITH THE SEED: the statements are not yours to turn. If you find one false, say at which input.
  Laid BY PROGRAM, IN A SANDBOX (cutbox-rows.mjs): the forced cells as the released guide's own fill.sh prints them over the translation 5265ac14cf5fd892… (all of the seat's roots in one cut). By AI agents, Wed Nov 11 2026. No macro, syntax, notation, axiom, sorry.
-/
import Derived.Test.YteedjgjkldbbcaaChecked
import GoSem.Claim
import GoSem.ClaimJoined
import GoSem.ClaimMapViews
import Derived.JoinedTies
import Derived.KernelRfl
namespace Go.Proofs.Yteedjgjkldbbcaa
/- THE CELL 'sum', in the pinned program and in every row, IS THE sha256 OF THE DUMP (.gsa) THAT YteedjgjkldbbcaaProg.lean LOADS. Nothing in Lean hashes anything: it is a label: what it is worth is what the hold of that sum in a sandbox is worth. -/
noncomputable def Try.pinned : Pinned := { name := "yteedjgjkldbbcaa", sum := "5265ac14cf5fd89279fb8dd64f0cdfd079ef275950acac9b73b89452e3800f79", checked := Try.checked }
namespace Rows
def none {H : Type} : Left H := { results := [], args := [] }

/-- 'coppicelaw06.BlockBuilds': WHATEVER THE INPUT: true; the input reads as it did. -/
def blockBuildsSpec : ChangeSpec := { name := "blockBuilds", fn := fun _ => fun
  | [d] => { results := [.lit (.bool true)], args := [d] }
  | _ => none }
def blockBuildsRow : OpenClaim := { program := "yteedjgjkldbbcaa", sum := "5265ac14cf5fd89279fb8dd64f0cdfd079ef275950acac9b73b89452e3800f79", func := "coppice/coppicelaw06.BlockBuilds", spec := "blockBuilds", inPlace := ["internal/bytealg.Compare"], apart := false }
def BlockBuildsSaid : Prop := blockBuildsRow.holds Try.pinned (OpenSpec.ofChange blockBuildsSpec)

/-- ITS FALSE NEIGHBOUR: 'it returns false'. Refute it at one input. -/
def blockBuildsWrong : ChangeSpec := { name := "blockBuilds", fn := fun _ => fun
  | [d] => { results := [.lit (.bool false)], args := [d] }
  | _ => none }
def BlockBuildsWrongFalsely : Prop := blockBuildsRow.holds Try.pinned (OpenSpec.ofChange blockBuildsWrong)

/-- 'coppicelaw06.BlockBuilders': WHATEVER THE INPUT: true; the input reads as it did. -/
def blockBuildersSpec : ChangeSpec := { name := "blockBuilders", fn := fun _ => fun
  | [d] => { results := [.lit (.bool true)], args := [d] }
  | _ => none }
def blockBuildersRow : OpenClaim := { program := "yteedjgjkldbbcaa", sum := "5265ac14cf5fd89279fb8dd64f0cdfd079ef275950acac9b73b89452e3800f79", func := "coppice/coppicelaw06.BlockBuilders", spec := "blockBuilders", inPlace := ["internal/bytealg.Compare"], apart := false }
def BlockBuildersSaid : Prop := blockBuildersRow.holds Try.pinned (OpenSpec.ofChange blockBuildersSpec)

/-- ITS FALSE NEIGHBOUR: 'it returns false'. Refute it at one input. -/
def blockBuildersWrong : ChangeSpec := { name := "blockBuilders", fn := fun _ => fun
  | [d] => { results := [.lit (.bool false)], args := [d] }
  | _ => none }
def BlockBuildersWrongFalsely : Prop := blockBuildersRow.holds Try.pinned (OpenSpec.ofChange blockBuildersWrong)

/-- 'coppicelaw06.BlockGoes': WHATEVER THE INPUT: true; the input reads as it did. -/
def blockGoesSpec : ChangeSpec := { name := "blockGoes", fn := fun _ => fun
  | [d1, d2] => { results := [.lit (.bool true)], args := [d1, d2] }
  | _ => none }
def blockGoesRow : OpenClaim := { program := "yteedjgjkldbbcaa", sum := "5265ac14cf5fd89279fb8dd64f0cdfd079ef275950acac9b73b89452e3800f79", func := "coppice/coppicelaw06.BlockGoes", spec := "blockGoes", inPlace := ["internal/bytealg.Compare"], unfollowed := true, recurses := true, apart := false }
def BlockGoesSaid : Prop := blockGoesRow.holds Try.pinned (OpenSpec.ofChange blockGoesSpec)

/-- ITS FALSE NEIGHBOUR: 'it returns false'. Refute it at one input. -/
def blockGoesWrong : ChangeSpec := { name := "blockGoes", fn := fun _ => fun
  | [d1, d2] => { results := [.lit (.bool false)], args := [d1, d2] }
  | _ => none }
def BlockGoesWrongFalsely : Prop := blockGoesRow.holds Try.pinned (OpenSpec.ofChange blockGoesWrong)

/-- 'coppicelaw06.BlockReads': WHATEVER THE INPUT: true; the input reads as it did. -/
def blockReadsSpec : ChangeSpec := { name := "blockReads", fn := fun _ => fun
  | [d] => { results := [.lit (.bool true)], args := [d] }
  | _ => none }
def blockReadsRow : OpenClaim := { program := "yteedjgjkldbbcaa", sum := "5265ac14cf5fd89279fb8dd64f0cdfd079ef275950acac9b73b89452e3800f79", func := "coppice/coppicelaw06.BlockReads", spec := "blockReads", inPlace := ["internal/bytealg.Compare"], unfollowed := true, recurses := true, apart := false }
def BlockReadsSaid : Prop := blockReadsRow.holds Try.pinned (OpenSpec.ofChange blockReadsSpec)

/-- ITS FALSE NEIGHBOUR: 'it returns false'. Refute it at one input. -/
def blockReadsWrong : ChangeSpec := { name := "blockReads", fn := fun _ => fun
  | [d] => { results := [.lit (.bool false)], args := [d] }
  | _ => none }
def BlockReadsWrongFalsely : Prop := blockReadsRow.holds Try.pinned (OpenSpec.ofChange blockReadsWrong)

/-- 'coppicelaw06.BlockTrips': WHATEVER THE INPUT: true; the input reads as it did. -/
def blockTripsSpec : ChangeSpec := { name := "blockTrips", fn := fun _ => fun
  | [d1, d2] => { results := [.lit (.bool true)], args := [d1, d2] }
  | _ => none }
def blockTripsRow : OpenClaim := { program := "yteedjgjkldbbcaa", sum := "5265ac14cf5fd89279fb8dd64f0cdfd079ef275950acac9b73b89452e3800f79", func := "coppice/coppicelaw06.BlockTrips", spec := "blockTrips", inPlace := ["internal/bytealg.Compare"], unfollowed := true, recurses := true, apart := false }
def BlockTripsSaid : Prop := blockTripsRow.holds Try.pinned (OpenSpec.ofChange blockTripsSpec)

/-- ITS FALSE NEIGHBOUR: 'it returns false'. Refute it at one input. -/
def blockTripsWrong : ChangeSpec := { name := "blockTrips", fn := fun _ => fun
  | [d1, d2] => { results := [.lit (.bool false)], args := [d1, d2] }
  | _ => none }
def BlockTripsWrongFalsely : Prop := blockTripsRow.holds Try.pinned (OpenSpec.ofChange blockTripsWrong)

/-- 'coppicelaw06.BlockWhole': WHATEVER THE INPUT: true; the input reads as it did. -/
def blockWholeSpec : ChangeSpec := { name := "blockWhole", fn := fun _ => fun
  | [d1, d2, d3] => { results := [.lit (.bool true)], args := [d1, d2, d3] }
  | _ => none }
def blockWholeRow : OpenClaim := { program := "yteedjgjkldbbcaa", sum := "5265ac14cf5fd89279fb8dd64f0cdfd079ef275950acac9b73b89452e3800f79", func := "coppice/coppicelaw06.BlockWhole", spec := "blockWhole", inPlace := ["internal/bytealg.Compare"], unfollowed := true, recurses := true, apart := false }
def BlockWholeSaid : Prop := blockWholeRow.holds Try.pinned (OpenSpec.ofChange blockWholeSpec)

/-- ITS FALSE NEIGHBOUR: 'it returns false'. Refute it at one input. -/
def blockWholeWrong : ChangeSpec := { name := "blockWhole", fn := fun _ => fun
  | [d1, d2, d3] => { results := [.lit (.bool false)], args := [d1, d2, d3] }
  | _ => none }
def BlockWholeWrongFalsely : Prop := blockWholeRow.holds Try.pinned (OpenSpec.ofChange blockWholeWrong)

/-- 'coppicelaw06.BlockFinds': WHATEVER THE INPUT: true; the input reads as it did. -/
def blockFindsSpec : ChangeSpec := { name := "blockFinds", fn := fun _ => fun
  | [d1, d2] => { results := [.lit (.bool true)], args := [d1, d2] }
  | _ => none }
def blockFindsRow : OpenClaim := { program := "yteedjgjkldbbcaa", sum := "5265ac14cf5fd89279fb8dd64f0cdfd079ef275950acac9b73b89452e3800f79", func := "coppice/coppicelaw06.BlockFinds", spec := "blockFinds", inPlace := ["internal/bytealg.Compare"], unfollowed := true, recurses := true, apart := false }
def BlockFindsSaid : Prop := blockFindsRow.holds Try.pinned (OpenSpec.ofChange blockFindsSpec)

/-- ITS FALSE NEIGHBOUR: 'it returns false'. Refute it at one input. -/
def blockFindsWrong : ChangeSpec := { name := "blockFinds", fn := fun _ => fun
  | [d1, d2] => { results := [.lit (.bool false)], args := [d1, d2] }
  | _ => none }
def BlockFindsWrongFalsely : Prop := blockFindsRow.holds Try.pinned (OpenSpec.ofChange blockFindsWrong)

/-- 'coppicelaw06.BlockNames': WHATEVER THE INPUT: true; the input reads as it did. -/
def blockNamesSpec : ChangeSpec := { name := "blockNames", fn := fun _ => fun
  | [] => { results := [.lit (.bool true)], args := [] }
  | _ => none }
def blockNamesRow : OpenClaim := { program := "yteedjgjkldbbcaa", sum := "5265ac14cf5fd89279fb8dd64f0cdfd079ef275950acac9b73b89452e3800f79", func := "coppice/coppicelaw06.BlockNames", spec := "blockNames", inPlace := ["internal/bytealg.Compare"], unfollowed := true, recurses := true, apart := false }
def BlockNamesSaid : Prop := blockNamesRow.holds Try.pinned (OpenSpec.ofChange blockNamesSpec)

/-- ITS FALSE NEIGHBOUR: 'it returns false'. Refute it at one input. -/
def blockNamesWrong : ChangeSpec := { name := "blockNames", fn := fun _ => fun
  | [] => { results := [.lit (.bool false)], args := [] }
  | _ => none }
def BlockNamesWrongFalsely : Prop := blockNamesRow.holds Try.pinned (OpenSpec.ofChange blockNamesWrong)

/- THE SECOND FORM. 'bulk': how many values and letters a reading holds, each counted each time it is reached (what is shared counts as often as it is met; a slice's spare places count too). A statement '..UptoSaid' is the law's where the arguments, and the package variables that the reading takes, are together of bulk at most 1048576: NARROWER than '..Said'. Prove '..Said' where nothing that the law and all that it calls make is longer than what came in: it says more and counts as full. Else prove '..UptoSaid'. A law counts once. -/
mutual
def uptoBulk {H : Type} : DataW H → Nat
  | .lit (.string bytes) => bytes.length + 1
  | .lit _ => 1
  | .nil => 1
  | .ptr d => uptoBulk d + 1
  | .slice elems spare => uptoBulkAll elems + uptoBulkAll spare + 1
  | .agg parts => uptoBulkAll parts + 1
  | .iface _ d => uptoBulk d + 1
  | .map entries => uptoBulkEntries entries + 1
  | .held _ => 1
def uptoBulkAll {H : Type} : List (DataW H) → Nat
  | [] => 0
  | d :: r => uptoBulk d + uptoBulkAll r
def uptoBulkEntries {H : Type} : List (Lit × DataW H) → Nat
  | [] => 0
  | x :: r => uptoBulkEntry x + uptoBulkEntries r
def uptoBulkEntry {H : Type} : Lit × DataW H → Nat
  | (.string bytes, d) => bytes.length + uptoBulk d + 1
  | (_, d) => uptoBulk d + 1
 end
def uptoSmall : (H : Type) → List (DataW H) → Bool := fun _ ds => decide (uptoBulkAll ds ≤ 1048576)
def OpenSpec.upto (s : _root_.Go.ChangeSpec) : _root_.Go.OpenSpec := { _root_.Go.OpenSpec.ofChange s with cond := some uptoSmall }

/-- 'coppicelaw06.BlockBuilds', WHERE WHAT IT READS IS OF BULK AT MOST 1048576: true; the input reads as it did. -/
def blockBuildsUptoRow : OpenClaim := { program := "yteedjgjkldbbcaa", sum := "5265ac14cf5fd89279fb8dd64f0cdfd079ef275950acac9b73b89452e3800f79", func := "coppice/coppicelaw06.BlockBuilds", spec := "blockBuilds", inPlace := ["internal/bytealg.Compare"], apart := false, narrowed := true }
def BlockBuildsUptoSaid : Prop := blockBuildsUptoRow.holds Try.pinned (OpenSpec.upto blockBuildsSpec)

/-- 'coppicelaw06.BlockBuilders', WHERE WHAT IT READS IS OF BULK AT MOST 1048576: true; the input reads as it did. -/
def blockBuildersUptoRow : OpenClaim := { program := "yteedjgjkldbbcaa", sum := "5265ac14cf5fd89279fb8dd64f0cdfd079ef275950acac9b73b89452e3800f79", func := "coppice/coppicelaw06.BlockBuilders", spec := "blockBuilders", inPlace := ["internal/bytealg.Compare"], apart := false, narrowed := true }
def BlockBuildersUptoSaid : Prop := blockBuildersUptoRow.holds Try.pinned (OpenSpec.upto blockBuildersSpec)

/-- 'coppicelaw06.BlockGoes', WHERE WHAT IT READS IS OF BULK AT MOST 1048576: true; the input reads as it did. -/
def blockGoesUptoRow : OpenClaim := { program := "yteedjgjkldbbcaa", sum := "5265ac14cf5fd89279fb8dd64f0cdfd079ef275950acac9b73b89452e3800f79", func := "coppice/coppicelaw06.BlockGoes", spec := "blockGoes", inPlace := ["internal/bytealg.Compare"], unfollowed := true, recurses := true, apart := false, narrowed := true }
def BlockGoesUptoSaid : Prop := blockGoesUptoRow.holds Try.pinned (OpenSpec.upto blockGoesSpec)

/-- 'coppicelaw06.BlockReads', WHERE WHAT IT READS IS OF BULK AT MOST 1048576: true; the input reads as it did. -/
def blockReadsUptoRow : OpenClaim := { program := "yteedjgjkldbbcaa", sum := "5265ac14cf5fd89279fb8dd64f0cdfd079ef275950acac9b73b89452e3800f79", func := "coppice/coppicelaw06.BlockReads", spec := "blockReads", inPlace := ["internal/bytealg.Compare"], unfollowed := true, recurses := true, apart := false, narrowed := true }
def BlockReadsUptoSaid : Prop := blockReadsUptoRow.holds Try.pinned (OpenSpec.upto blockReadsSpec)

/-- 'coppicelaw06.BlockTrips', WHERE WHAT IT READS IS OF BULK AT MOST 1048576: true; the input reads as it did. -/
def blockTripsUptoRow : OpenClaim := { program := "yteedjgjkldbbcaa", sum := "5265ac14cf5fd89279fb8dd64f0cdfd079ef275950acac9b73b89452e3800f79", func := "coppice/coppicelaw06.BlockTrips", spec := "blockTrips", inPlace := ["internal/bytealg.Compare"], unfollowed := true, recurses := true, apart := false, narrowed := true }
def BlockTripsUptoSaid : Prop := blockTripsUptoRow.holds Try.pinned (OpenSpec.upto blockTripsSpec)

/-- 'coppicelaw06.BlockWhole', WHERE WHAT IT READS IS OF BULK AT MOST 1048576: true; the input reads as it did. -/
def blockWholeUptoRow : OpenClaim := { program := "yteedjgjkldbbcaa", sum := "5265ac14cf5fd89279fb8dd64f0cdfd079ef275950acac9b73b89452e3800f79", func := "coppice/coppicelaw06.BlockWhole", spec := "blockWhole", inPlace := ["internal/bytealg.Compare"], unfollowed := true, recurses := true, apart := false, narrowed := true }
def BlockWholeUptoSaid : Prop := blockWholeUptoRow.holds Try.pinned (OpenSpec.upto blockWholeSpec)

/-- 'coppicelaw06.BlockFinds', WHERE WHAT IT READS IS OF BULK AT MOST 1048576: true; the input reads as it did. -/
def blockFindsUptoRow : OpenClaim := { program := "yteedjgjkldbbcaa", sum := "5265ac14cf5fd89279fb8dd64f0cdfd079ef275950acac9b73b89452e3800f79", func := "coppice/coppicelaw06.BlockFinds", spec := "blockFinds", inPlace := ["internal/bytealg.Compare"], unfollowed := true, recurses := true, apart := false, narrowed := true }
def BlockFindsUptoSaid : Prop := blockFindsUptoRow.holds Try.pinned (OpenSpec.upto blockFindsSpec)

/-- 'coppicelaw06.BlockNames', WHERE WHAT IT READS IS OF BULK AT MOST 1048576: true; the input reads as it did. -/
def blockNamesUptoRow : OpenClaim := { program := "yteedjgjkldbbcaa", sum := "5265ac14cf5fd89279fb8dd64f0cdfd079ef275950acac9b73b89452e3800f79", func := "coppice/coppicelaw06.BlockNames", spec := "blockNames", inPlace := ["internal/bytealg.Compare"], unfollowed := true, recurses := true, apart := false, narrowed := true }
def BlockNamesUptoSaid : Prop := blockNamesUptoRow.holds Try.pinned (OpenSpec.upto blockNamesSpec)

end Rows
end Go.Proofs.Yteedjgjkldbbcaa
