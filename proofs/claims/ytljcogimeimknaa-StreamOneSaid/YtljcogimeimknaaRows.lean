/-
  No cell of these rows narrows 'for every input' (looked for: loops, veiled, ifaces, maps, wideKeys, modest, calm, conditions, laid).
  DERIVED. THE GIVEN ROWS OF THIS SEAT. 4 by the template 'for every input the law returns true; each argument reads behind the call as it read before'; 0 by the template 'total and deterministic' (their statements: YtljcogimeimknaaTotals.lean).
  GIVEN WITH THE SEED: the statements are not yours to turn. If you find one false, say at which input.
  Laid BY PROGRAM, IN A SANDBOX (cutbox-rows.mjs): the forced cells as the released guide's own fill.sh prints them over the translation b6e4a26986a74a71… (all of the seat's roots in one cut). By AI agents, Wed Nov 11 2026. No macro, syntax, notation, axiom, sorry.
-/
import Derived.Test.YtljcogimeimknaaChecked
import GoSem.Claim
import GoSem.ClaimJoined
import GoSem.ClaimMapViews
import Derived.JoinedTies
import Derived.KernelRfl
namespace Go.Proofs.Ytljcogimeimknaa
/- THE CELL 'sum', in the pinned program and in every row, IS THE sha256 OF THE DUMP (.gsa) THAT YtljcogimeimknaaProg.lean LOADS. Nothing in Lean hashes anything: it is a label: what it is worth is what the hold of that sum in a sandbox is worth. -/
noncomputable def Try.pinned : Pinned := { name := "ytljcogimeimknaa", sum := "b6e4a26986a74a718dbfb3c59f515a40db3d7eee7b741814f3f755e19a6fa66b", checked := Try.checked }
namespace Rows
def none {H : Type} : Left H := { results := [], args := [] }

/-- 'coppicelaw08.StreamBytes': WHATEVER THE INPUT: true; the input reads as it did. -/
def streamBytesSpec : ChangeSpec := { name := "streamBytes", fn := fun _ => fun
  | [d1, d2] => { results := [.lit (.bool true)], args := [d1, d2] }
  | _ => none }
def streamBytesRow : OpenClaim := { program := "ytljcogimeimknaa", sum := "b6e4a26986a74a718dbfb3c59f515a40db3d7eee7b741814f3f755e19a6fa66b", func := "coppice/coppicelaw08.StreamBytes", spec := "streamBytes", inPlace := ["internal/bytealg.Compare"], unfollowed := true, recurses := true, apart := false }
def StreamBytesSaid : Prop := streamBytesRow.holds Try.pinned (OpenSpec.ofChange streamBytesSpec)

/-- ITS FALSE NEIGHBOUR: 'it returns false'. Refute it at one input. -/
def streamBytesWrong : ChangeSpec := { name := "streamBytes", fn := fun _ => fun
  | [d1, d2] => { results := [.lit (.bool false)], args := [d1, d2] }
  | _ => none }
def StreamBytesWrongFalsely : Prop := streamBytesRow.holds Try.pinned (OpenSpec.ofChange streamBytesWrong)

/-- 'coppicelaw08.StreamWrites': WHATEVER THE INPUT: true; the input reads as it did. -/
def streamWritesSpec : ChangeSpec := { name := "streamWrites", fn := fun _ => fun
  | [d1, d2] => { results := [.lit (.bool true)], args := [d1, d2] }
  | _ => none }
def streamWritesRow : OpenClaim := { program := "ytljcogimeimknaa", sum := "b6e4a26986a74a718dbfb3c59f515a40db3d7eee7b741814f3f755e19a6fa66b", func := "coppice/coppicelaw08.StreamWrites", spec := "streamWrites", inPlace := ["internal/bytealg.Compare"], unfollowed := true, recurses := true, apart := false }
def StreamWritesSaid : Prop := streamWritesRow.holds Try.pinned (OpenSpec.ofChange streamWritesSpec)

/-- ITS FALSE NEIGHBOUR: 'it returns false'. Refute it at one input. -/
def streamWritesWrong : ChangeSpec := { name := "streamWrites", fn := fun _ => fun
  | [d1, d2] => { results := [.lit (.bool false)], args := [d1, d2] }
  | _ => none }
def StreamWritesWrongFalsely : Prop := streamWritesRow.holds Try.pinned (OpenSpec.ofChange streamWritesWrong)

/-- 'coppicelaw08.StreamNames': WHATEVER THE INPUT: true; the input reads as it did. -/
def streamNamesSpec : ChangeSpec := { name := "streamNames", fn := fun _ => fun
  | [] => { results := [.lit (.bool true)], args := [] }
  | _ => none }
def streamNamesRow : OpenClaim := { program := "ytljcogimeimknaa", sum := "b6e4a26986a74a718dbfb3c59f515a40db3d7eee7b741814f3f755e19a6fa66b", func := "coppice/coppicelaw08.StreamNames", spec := "streamNames", inPlace := ["internal/bytealg.Compare"], unfollowed := true, recurses := true, apart := false }
def StreamNamesSaid : Prop := streamNamesRow.holds Try.pinned (OpenSpec.ofChange streamNamesSpec)

/-- ITS FALSE NEIGHBOUR: 'it returns false'. Refute it at one input. -/
def streamNamesWrong : ChangeSpec := { name := "streamNames", fn := fun _ => fun
  | [] => { results := [.lit (.bool false)], args := [] }
  | _ => none }
def StreamNamesWrongFalsely : Prop := streamNamesRow.holds Try.pinned (OpenSpec.ofChange streamNamesWrong)

/-- 'coppicelaw08.StreamOne': WHATEVER THE INPUT: true; the input reads as it did. -/
def streamOneSpec : ChangeSpec := { name := "streamOne", fn := fun _ => fun
  | [d] => { results := [.lit (.bool true)], args := [d] }
  | _ => none }
def streamOneRow : OpenClaim := { program := "ytljcogimeimknaa", sum := "b6e4a26986a74a718dbfb3c59f515a40db3d7eee7b741814f3f755e19a6fa66b", func := "coppice/coppicelaw08.StreamOne", spec := "streamOne", inPlace := ["internal/bytealg.Compare"], unfollowed := true, recurses := true, apart := false }
def StreamOneSaid : Prop := streamOneRow.holds Try.pinned (OpenSpec.ofChange streamOneSpec)

/-- ITS FALSE NEIGHBOUR: 'it returns false'. Refute it at one input. -/
def streamOneWrong : ChangeSpec := { name := "streamOne", fn := fun _ => fun
  | [d] => { results := [.lit (.bool false)], args := [d] }
  | _ => none }
def StreamOneWrongFalsely : Prop := streamOneRow.holds Try.pinned (OpenSpec.ofChange streamOneWrong)

/- THE SECOND FORM. 'bulk': how many values and letters a reading holds, each counted each time it is reached (what is shared counts as often as it is met; a slice's spare places count too). A statement '..UptoSaid' is the law's where the arguments, and the package variables that the reading takes, are together of bulk at most 1048576: NARROWER than '..Said'. Prove '..Said' where nothing that the law and all that it calls make is longer than what came in: it says more and counts as full. Else prove '..UptoSaid'. A law counts once. -/
mutual
def uptoBulk {H : Type} : DataW H → Nat
  | .lit (.string bytes) => bytes.length + 1
  | .lit _ => 1
  | .nil => 1
  | .ptr d => uptoBulk d + 1
  | .slice elems spare => uptoBulkAll elems + uptoBulkAll spare + 1
  | .agg parts => uptoBulkAll parts + 1
  | .iface _ d => uptoBulk d + 1
  | .map entries => uptoBulkEntries entries + 1
  | .held _ => 1
def uptoBulkAll {H : Type} : List (DataW H) → Nat
  | [] => 0
  | d :: r => uptoBulk d + uptoBulkAll r
def uptoBulkEntries {H : Type} : List (Lit × DataW H) → Nat
  | [] => 0
  | x :: r => uptoBulkEntry x + uptoBulkEntries r
def uptoBulkEntry {H : Type} : Lit × DataW H → Nat
  | (.string bytes, d) => bytes.length + uptoBulk d + 1
  | (_, d) => uptoBulk d + 1
 end
def uptoSmall : (H : Type) → List (DataW H) → Bool := fun _ ds => decide (uptoBulkAll ds ≤ 1048576)
def OpenSpec.upto (s : _root_.Go.ChangeSpec) : _root_.Go.OpenSpec := { _root_.Go.OpenSpec.ofChange s with cond := some uptoSmall }

/-- 'coppicelaw08.StreamBytes', WHERE WHAT IT READS IS OF BULK AT MOST 1048576: true; the input reads as it did. -/
def streamBytesUptoRow : OpenClaim := { program := "ytljcogimeimknaa", sum := "b6e4a26986a74a718dbfb3c59f515a40db3d7eee7b741814f3f755e19a6fa66b", func := "coppice/coppicelaw08.StreamBytes", spec := "streamBytes", inPlace := ["internal/bytealg.Compare"], unfollowed := true, recurses := true, apart := false, narrowed := true }
def StreamBytesUptoSaid : Prop := streamBytesUptoRow.holds Try.pinned (OpenSpec.upto streamBytesSpec)

/-- 'coppicelaw08.StreamWrites', WHERE WHAT IT READS IS OF BULK AT MOST 1048576: true; the input reads as it did. -/
def streamWritesUptoRow : OpenClaim := { program := "ytljcogimeimknaa", sum := "b6e4a26986a74a718dbfb3c59f515a40db3d7eee7b741814f3f755e19a6fa66b", func := "coppice/coppicelaw08.StreamWrites", spec := "streamWrites", inPlace := ["internal/bytealg.Compare"], unfollowed := true, recurses := true, apart := false, narrowed := true }
def StreamWritesUptoSaid : Prop := streamWritesUptoRow.holds Try.pinned (OpenSpec.upto streamWritesSpec)

/-- 'coppicelaw08.StreamNames', WHERE WHAT IT READS IS OF BULK AT MOST 1048576: true; the input reads as it did. -/
def streamNamesUptoRow : OpenClaim := { program := "ytljcogimeimknaa", sum := "b6e4a26986a74a718dbfb3c59f515a40db3d7eee7b741814f3f755e19a6fa66b", func := "coppice/coppicelaw08.StreamNames", spec := "streamNames", inPlace := ["internal/bytealg.Compare"], unfollowed := true, recurses := true, apart := false, narrowed := true }
def StreamNamesUptoSaid : Prop := streamNamesUptoRow.holds Try.pinned (OpenSpec.upto streamNamesSpec)

/-- 'coppicelaw08.StreamOne', WHERE WHAT IT READS IS OF BULK AT MOST 1048576: true; the input reads as it did. -/
def streamOneUptoRow : OpenClaim := { program := "ytljcogimeimknaa", sum := "b6e4a26986a74a718dbfb3c59f515a40db3d7eee7b741814f3f755e19a6fa66b", func := "coppice/coppicelaw08.StreamOne", spec := "streamOne", inPlace := ["internal/bytealg.Compare"], unfollowed := true, recurses := true, apart := false, narrowed := true }
def StreamOneUptoSaid : Prop := streamOneUptoRow.holds Try.pinned (OpenSpec.upto streamOneSpec)

end Rows
end Go.Proofs.Ytljcogimeimknaa
