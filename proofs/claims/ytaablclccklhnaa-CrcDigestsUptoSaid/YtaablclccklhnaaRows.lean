/-
  No cell of these rows narrows 'for every input' (looked for: loops, veiled, ifaces, maps, wideKeys, modest, calm, conditions, laid).
  DERIVED. THE GIVEN ROWS OF THIS SEAT. 10 by the template 'for every input the law returns true; each argument reads behind the call as it read before'; 0 by the template 'total and deterministic' (their statements: YtaablclccklhnaaTotals.lean).
  GIVEN WITH THE SEED: the statements are not yours to turn. If you find one false, say at which input.
  Laid BY PROGRAM, IN A SANDBOX (cutbox-rows.mjs): the forced cells as the released guide's own fill.sh prints them over the translation 80686076d4d44037… (all of the seat's roots in one cut). By AI agents, Wed Nov 11 2026. No macro, syntax, notation, axiom, sorry.
-/
import Derived.Test.YtaablclccklhnaaChecked
import GoSem.Claim
import GoSem.ClaimJoined
import GoSem.ClaimMapViews
import Derived.JoinedTies
import Derived.KernelRfl
namespace Go.Proofs.Ytaablclccklhnaa
/- THE CELL 'sum', in the pinned program and in every row, IS THE sha256 OF THE DUMP (.gsa) THAT YtaablclccklhnaaProg.lean LOADS. Nothing in Lean hashes anything: it is a label: what it is worth is what the hold of that sum in a sandbox is worth. -/
noncomputable def Try.pinned : Pinned := { name := "ytaablclccklhnaa", sum := "80686076d4d440378e57c08be592491d95903804dd87ee4cfbfafe463febdc2f", checked := Try.checked }
namespace Rows
def none {H : Type} : Left H := { results := [], args := [] }

/-- 'coppicelaw02.CrcXors': WHATEVER THE INPUT: true; the input reads as it did. -/
def crcXorsSpec : ChangeSpec := { name := "crcXors", fn := fun _ => fun
  | [d1, d2, d3] => { results := [.lit (.bool true)], args := [d1, d2, d3] }
  | _ => none }
def crcXorsRow : OpenClaim := { program := "ytaablclccklhnaa", sum := "80686076d4d440378e57c08be592491d95903804dd87ee4cfbfafe463febdc2f", func := "coppice/coppicelaw02.CrcXors", spec := "crcXors", apart := false }
def CrcXorsSaid : Prop := crcXorsRow.holds Try.pinned (OpenSpec.ofChange crcXorsSpec)

/-- ITS FALSE NEIGHBOUR: 'it returns false'. Refute it at one input. -/
def crcXorsWrong : ChangeSpec := { name := "crcXors", fn := fun _ => fun
  | [d1, d2, d3] => { results := [.lit (.bool false)], args := [d1, d2, d3] }
  | _ => none }
def CrcXorsWrongFalsely : Prop := crcXorsRow.holds Try.pinned (OpenSpec.ofChange crcXorsWrong)

/-- 'coppicelaw02.CrcSums': WHATEVER THE INPUT: true; the input reads as it did. -/
def crcSumsSpec : ChangeSpec := { name := "crcSums", fn := fun _ => fun
  | [d1, d2, d3] => { results := [.lit (.bool true)], args := [d1, d2, d3] }
  | _ => none }
def crcSumsRow : OpenClaim := { program := "ytaablclccklhnaa", sum := "80686076d4d440378e57c08be592491d95903804dd87ee4cfbfafe463febdc2f", func := "coppice/coppicelaw02.CrcSums", spec := "crcSums", apart := false }
def CrcSumsSaid : Prop := crcSumsRow.holds Try.pinned (OpenSpec.ofChange crcSumsSpec)

/-- ITS FALSE NEIGHBOUR: 'it returns false'. Refute it at one input. -/
def crcSumsWrong : ChangeSpec := { name := "crcSums", fn := fun _ => fun
  | [d1, d2, d3] => { results := [.lit (.bool false)], args := [d1, d2, d3] }
  | _ => none }
def CrcSumsWrongFalsely : Prop := crcSumsRow.holds Try.pinned (OpenSpec.ofChange crcSumsWrong)

/-- 'coppicelaw02.CrcDigests': WHATEVER THE INPUT: true; the input reads as it did. -/
def crcDigestsSpec : ChangeSpec := { name := "crcDigests", fn := fun _ => fun
  | [d] => { results := [.lit (.bool true)], args := [d] }
  | _ => none }
def crcDigestsRow : OpenClaim := { program := "ytaablclccklhnaa", sum := "80686076d4d440378e57c08be592491d95903804dd87ee4cfbfafe463febdc2f", func := "coppice/coppicelaw02.CrcDigests", spec := "crcDigests", apart := false }
def CrcDigestsSaid : Prop := crcDigestsRow.holds Try.pinned (OpenSpec.ofChange crcDigestsSpec)

/-- ITS FALSE NEIGHBOUR: 'it returns false'. Refute it at one input. -/
def crcDigestsWrong : ChangeSpec := { name := "crcDigests", fn := fun _ => fun
  | [d] => { results := [.lit (.bool false)], args := [d] }
  | _ => none }
def CrcDigestsWrongFalsely : Prop := crcDigestsRow.holds Try.pinned (OpenSpec.ofChange crcDigestsWrong)

/-- 'coppicelaw02.CrcSeals': WHATEVER THE INPUT: true; the input reads as it did. -/
def crcSealsSpec : ChangeSpec := { name := "crcSeals", fn := fun _ => fun
  | [d] => { results := [.lit (.bool true)], args := [d] }
  | _ => none }
def crcSealsRow : OpenClaim := { program := "ytaablclccklhnaa", sum := "80686076d4d440378e57c08be592491d95903804dd87ee4cfbfafe463febdc2f", func := "coppice/coppicelaw02.CrcSeals", spec := "crcSeals", apart := false }
def CrcSealsSaid : Prop := crcSealsRow.holds Try.pinned (OpenSpec.ofChange crcSealsSpec)

/-- ITS FALSE NEIGHBOUR: 'it returns false'. Refute it at one input. -/
def crcSealsWrong : ChangeSpec := { name := "crcSeals", fn := fun _ => fun
  | [d] => { results := [.lit (.bool false)], args := [d] }
  | _ => none }
def CrcSealsWrongFalsely : Prop := crcSealsRow.holds Try.pinned (OpenSpec.ofChange crcSealsWrong)

/-- 'coppicelaw02.CrcBursts': WHATEVER THE INPUT: true; the input reads as it did. -/
def crcBurstsSpec : ChangeSpec := { name := "crcBursts", fn := fun _ => fun
  | [d1, d2, d3] => { results := [.lit (.bool true)], args := [d1, d2, d3] }
  | _ => none }
def crcBurstsRow : OpenClaim := { program := "ytaablclccklhnaa", sum := "80686076d4d440378e57c08be592491d95903804dd87ee4cfbfafe463febdc2f", func := "coppice/coppicelaw02.CrcBursts", spec := "crcBursts", apart := false }
def CrcBurstsSaid : Prop := crcBurstsRow.holds Try.pinned (OpenSpec.ofChange crcBurstsSpec)

/-- ITS FALSE NEIGHBOUR: 'it returns false'. Refute it at one input. -/
def crcBurstsWrong : ChangeSpec := { name := "crcBursts", fn := fun _ => fun
  | [d1, d2, d3] => { results := [.lit (.bool false)], args := [d1, d2, d3] }
  | _ => none }
def CrcBurstsWrongFalsely : Prop := crcBurstsRow.holds Try.pinned (OpenSpec.ofChange crcBurstsWrong)

/-- 'coppicelaw02.CrcPatches': WHATEVER THE INPUT: true; the input reads as it did. -/
def crcPatchesSpec : ChangeSpec := { name := "crcPatches", fn := fun _ => fun
  | [d1, d2, d3] => { results := [.lit (.bool true)], args := [d1, d2, d3] }
  | _ => none }
def crcPatchesRow : OpenClaim := { program := "ytaablclccklhnaa", sum := "80686076d4d440378e57c08be592491d95903804dd87ee4cfbfafe463febdc2f", func := "coppice/coppicelaw02.CrcPatches", spec := "crcPatches", apart := false }
def CrcPatchesSaid : Prop := crcPatchesRow.holds Try.pinned (OpenSpec.ofChange crcPatchesSpec)

/-- ITS FALSE NEIGHBOUR: 'it returns false'. Refute it at one input. -/
def crcPatchesWrong : ChangeSpec := { name := "crcPatches", fn := fun _ => fun
  | [d1, d2, d3] => { results := [.lit (.bool false)], args := [d1, d2, d3] }
  | _ => none }
def CrcPatchesWrongFalsely : Prop := crcPatchesRow.holds Try.pinned (OpenSpec.ofChange crcPatchesWrong)

/-- 'coppicelaw02.CrcOnly': WHATEVER THE INPUT: true; the input reads as it did. -/
def crcOnlySpec : ChangeSpec := { name := "crcOnly", fn := fun _ => fun
  | [d1, d2, d3] => { results := [.lit (.bool true)], args := [d1, d2, d3] }
  | _ => none }
def crcOnlyRow : OpenClaim := { program := "ytaablclccklhnaa", sum := "80686076d4d440378e57c08be592491d95903804dd87ee4cfbfafe463febdc2f", func := "coppice/coppicelaw02.CrcOnly", spec := "crcOnly", apart := false }
def CrcOnlySaid : Prop := crcOnlyRow.holds Try.pinned (OpenSpec.ofChange crcOnlySpec)

/-- ITS FALSE NEIGHBOUR: 'it returns false'. Refute it at one input. -/
def crcOnlyWrong : ChangeSpec := { name := "crcOnly", fn := fun _ => fun
  | [d1, d2, d3] => { results := [.lit (.bool false)], args := [d1, d2, d3] }
  | _ => none }
def CrcOnlyWrongFalsely : Prop := crcOnlyRow.holds Try.pinned (OpenSpec.ofChange crcOnlyWrong)

/-- 'coppicelaw02.CrcJoins': WHATEVER THE INPUT: true; the input reads as it did. -/
def crcJoinsSpec : ChangeSpec := { name := "crcJoins", fn := fun _ => fun
  | [d1, d2, d3] => { results := [.lit (.bool true)], args := [d1, d2, d3] }
  | _ => none }
def crcJoinsRow : OpenClaim := { program := "ytaablclccklhnaa", sum := "80686076d4d440378e57c08be592491d95903804dd87ee4cfbfafe463febdc2f", func := "coppice/coppicelaw02.CrcJoins", spec := "crcJoins", apart := false }
def CrcJoinsSaid : Prop := crcJoinsRow.holds Try.pinned (OpenSpec.ofChange crcJoinsSpec)

/-- ITS FALSE NEIGHBOUR: 'it returns false'. Refute it at one input. -/
def crcJoinsWrong : ChangeSpec := { name := "crcJoins", fn := fun _ => fun
  | [d1, d2, d3] => { results := [.lit (.bool false)], args := [d1, d2, d3] }
  | _ => none }
def CrcJoinsWrongFalsely : Prop := crcJoinsRow.holds Try.pinned (OpenSpec.ofChange crcJoinsWrong)

/-- 'coppicelaw02.CrcParts': WHATEVER THE INPUT: true; the input reads as it did. -/
def crcPartsSpec : ChangeSpec := { name := "crcParts", fn := fun _ => fun
  | [d1, d2, d3] => { results := [.lit (.bool true)], args := [d1, d2, d3] }
  | _ => none }
def crcPartsRow : OpenClaim := { program := "ytaablclccklhnaa", sum := "80686076d4d440378e57c08be592491d95903804dd87ee4cfbfafe463febdc2f", func := "coppice/coppicelaw02.CrcParts", spec := "crcParts", apart := false }
def CrcPartsSaid : Prop := crcPartsRow.holds Try.pinned (OpenSpec.ofChange crcPartsSpec)

/-- ITS FALSE NEIGHBOUR: 'it returns false'. Refute it at one input. -/
def crcPartsWrong : ChangeSpec := { name := "crcParts", fn := fun _ => fun
  | [d1, d2, d3] => { results := [.lit (.bool false)], args := [d1, d2, d3] }
  | _ => none }
def CrcPartsWrongFalsely : Prop := crcPartsRow.holds Try.pinned (OpenSpec.ofChange crcPartsWrong)

/-- 'coppicelaw02.CrcNames': WHATEVER THE INPUT: true; the input reads as it did. -/
def crcNamesSpec : ChangeSpec := { name := "crcNames", fn := fun _ => fun
  | [] => { results := [.lit (.bool true)], args := [] }
  | _ => none }
def crcNamesRow : OpenClaim := { program := "ytaablclccklhnaa", sum := "80686076d4d440378e57c08be592491d95903804dd87ee4cfbfafe463febdc2f", func := "coppice/coppicelaw02.CrcNames", spec := "crcNames", apart := false }
def CrcNamesSaid : Prop := crcNamesRow.holds Try.pinned (OpenSpec.ofChange crcNamesSpec)

/-- ITS FALSE NEIGHBOUR: 'it returns false'. Refute it at one input. -/
def crcNamesWrong : ChangeSpec := { name := "crcNames", fn := fun _ => fun
  | [] => { results := [.lit (.bool false)], args := [] }
  | _ => none }
def CrcNamesWrongFalsely : Prop := crcNamesRow.holds Try.pinned (OpenSpec.ofChange crcNamesWrong)

/- THE SECOND FORM. 'bulk': how many values and letters a reading holds, each counted each time it is reached (what is shared counts as often as it is met; a slice's spare places count too). A statement '..UptoSaid' is the law's where the arguments, and the package variables that the reading takes, are together of bulk at most 1048576: NARROWER than '..Said'. Prove '..Said' where nothing that the law and all that it calls make is longer than what came in: it says more and counts as full. Else prove '..UptoSaid'. A law counts once. -/
mutual
def uptoBulk {H : Type} : DataW H → Nat
  | .lit (.string bytes) => bytes.length + 1
  | .lit _ => 1
  | .nil => 1
  | .ptr d => uptoBulk d + 1
  | .slice elems spare => uptoBulkAll elems + uptoBulkAll spare + 1
  | .agg parts => uptoBulkAll parts + 1
  | .iface _ d => uptoBulk d + 1
  | .map entries => uptoBulkEntries entries + 1
  | .held _ => 1
def uptoBulkAll {H : Type} : List (DataW H) → Nat
  | [] => 0
  | d :: r => uptoBulk d + uptoBulkAll r
def uptoBulkEntries {H : Type} : List (Lit × DataW H) → Nat
  | [] => 0
  | x :: r => uptoBulkEntry x + uptoBulkEntries r
def uptoBulkEntry {H : Type} : Lit × DataW H → Nat
  | (.string bytes, d) => bytes.length + uptoBulk d + 1
  | (_, d) => uptoBulk d + 1
 end
def uptoSmall : (H : Type) → List (DataW H) → Bool := fun _ ds => decide (uptoBulkAll ds ≤ 1048576)
def OpenSpec.upto (s : _root_.Go.ChangeSpec) : _root_.Go.OpenSpec := { _root_.Go.OpenSpec.ofChange s with cond := some uptoSmall }

/-- 'coppicelaw02.CrcXors', WHERE WHAT IT READS IS OF BULK AT MOST 1048576: true; the input reads as it did. -/
def crcXorsUptoRow : OpenClaim := { program := "ytaablclccklhnaa", sum := "80686076d4d440378e57c08be592491d95903804dd87ee4cfbfafe463febdc2f", func := "coppice/coppicelaw02.CrcXors", spec := "crcXors", apart := false, narrowed := true }
def CrcXorsUptoSaid : Prop := crcXorsUptoRow.holds Try.pinned (OpenSpec.upto crcXorsSpec)

/-- 'coppicelaw02.CrcSums', WHERE WHAT IT READS IS OF BULK AT MOST 1048576: true; the input reads as it did. -/
def crcSumsUptoRow : OpenClaim := { program := "ytaablclccklhnaa", sum := "80686076d4d440378e57c08be592491d95903804dd87ee4cfbfafe463febdc2f", func := "coppice/coppicelaw02.CrcSums", spec := "crcSums", apart := false, narrowed := true }
def CrcSumsUptoSaid : Prop := crcSumsUptoRow.holds Try.pinned (OpenSpec.upto crcSumsSpec)

/-- 'coppicelaw02.CrcDigests', WHERE WHAT IT READS IS OF BULK AT MOST 1048576: true; the input reads as it did. -/
def crcDigestsUptoRow : OpenClaim := { program := "ytaablclccklhnaa", sum := "80686076d4d440378e57c08be592491d95903804dd87ee4cfbfafe463febdc2f", func := "coppice/coppicelaw02.CrcDigests", spec := "crcDigests", apart := false, narrowed := true }
def CrcDigestsUptoSaid : Prop := crcDigestsUptoRow.holds Try.pinned (OpenSpec.upto crcDigestsSpec)

/-- 'coppicelaw02.CrcSeals', WHERE WHAT IT READS IS OF BULK AT MOST 1048576: true; the input reads as it did. -/
def crcSealsUptoRow : OpenClaim := { program := "ytaablclccklhnaa", sum := "80686076d4d440378e57c08be592491d95903804dd87ee4cfbfafe463febdc2f", func := "coppice/coppicelaw02.CrcSeals", spec := "crcSeals", apart := false, narrowed := true }
def CrcSealsUptoSaid : Prop := crcSealsUptoRow.holds Try.pinned (OpenSpec.upto crcSealsSpec)

/-- 'coppicelaw02.CrcBursts', WHERE WHAT IT READS IS OF BULK AT MOST 1048576: true; the input reads as it did. -/
def crcBurstsUptoRow : OpenClaim := { program := "ytaablclccklhnaa", sum := "80686076d4d440378e57c08be592491d95903804dd87ee4cfbfafe463febdc2f", func := "coppice/coppicelaw02.CrcBursts", spec := "crcBursts", apart := false, narrowed := true }
def CrcBurstsUptoSaid : Prop := crcBurstsUptoRow.holds Try.pinned (OpenSpec.upto crcBurstsSpec)

/-- 'coppicelaw02.CrcPatches', WHERE WHAT IT READS IS OF BULK AT MOST 1048576: true; the input reads as it did. -/
def crcPatchesUptoRow : OpenClaim := { program := "ytaablclccklhnaa", sum := "80686076d4d440378e57c08be592491d95903804dd87ee4cfbfafe463febdc2f", func := "coppice/coppicelaw02.CrcPatches", spec := "crcPatches", apart := false, narrowed := true }
def CrcPatchesUptoSaid : Prop := crcPatchesUptoRow.holds Try.pinned (OpenSpec.upto crcPatchesSpec)

/-- 'coppicelaw02.CrcOnly', WHERE WHAT IT READS IS OF BULK AT MOST 1048576: true; the input reads as it did. -/
def crcOnlyUptoRow : OpenClaim := { program := "ytaablclccklhnaa", sum := "80686076d4d440378e57c08be592491d95903804dd87ee4cfbfafe463febdc2f", func := "coppice/coppicelaw02.CrcOnly", spec := "crcOnly", apart := false, narrowed := true }
def CrcOnlyUptoSaid : Prop := crcOnlyUptoRow.holds Try.pinned (OpenSpec.upto crcOnlySpec)

/-- 'coppicelaw02.CrcJoins', WHERE WHAT IT READS IS OF BULK AT MOST 1048576: true; the input reads as it did. -/
def crcJoinsUptoRow : OpenClaim := { program := "ytaablclccklhnaa", sum := "80686076d4d440378e57c08be592491d95903804dd87ee4cfbfafe463febdc2f", func := "coppice/coppicelaw02.CrcJoins", spec := "crcJoins", apart := false, narrowed := true }
def CrcJoinsUptoSaid : Prop := crcJoinsUptoRow.holds Try.pinned (OpenSpec.upto crcJoinsSpec)

/-- 'coppicelaw02.CrcParts', WHERE WHAT IT READS IS OF BULK AT MOST 1048576: true; the input reads as it did. -/
def crcPartsUptoRow : OpenClaim := { program := "ytaablclccklhnaa", sum := "80686076d4d440378e57c08be592491d95903804dd87ee4cfbfafe463febdc2f", func := "coppice/coppicelaw02.CrcParts", spec := "crcParts", apart := false, narrowed := true }
def CrcPartsUptoSaid : Prop := crcPartsUptoRow.holds Try.pinned (OpenSpec.upto crcPartsSpec)

/-- 'coppicelaw02.CrcNames', WHERE WHAT IT READS IS OF BULK AT MOST 1048576: true; the input reads as it did. -/
def crcNamesUptoRow : OpenClaim := { program := "ytaablclccklhnaa", sum := "80686076d4d440378e57c08be592491d95903804dd87ee4cfbfafe463febdc2f", func := "coppice/coppicelaw02.CrcNames", spec := "crcNames", apart := false, narrowed := true }
def CrcNamesUptoSaid : Prop := crcNamesUptoRow.holds Try.pinned (OpenSpec.upto crcNamesSpec)

end Rows
end Go.Proofs.Ytaablclccklhnaa
