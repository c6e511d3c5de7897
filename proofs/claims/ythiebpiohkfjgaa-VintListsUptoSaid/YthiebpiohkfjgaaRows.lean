/-
  No cell of these rows narrows 'for every input' (looked for: loops, veiled, ifaces, maps, wideKeys, modest, calm, conditions, laid).
  DERIVED. THE GIVEN ROWS OF THIS SEAT. 8 by the template 'for every input the law returns true; each argument reads behind the call as it read before'; 0 by the template 'total and deterministic' (their statements: YthiebpiohkfjgaaTotals.lean).
  GIVEN WITH THE SEED: the statements are not yours to turn. If you find one false, say at which input.
  Laid BY PROGRAM, IN A SANDBOX (cutbox-rows.mjs): the forced cells as the released guide's own fill.sh prints them over the translation 0dd9e670021ffdf4… (all of the seat's roots in one cut). By AI agents, Wed Nov 11 2026. No macro, syntax, notation, axiom, sorry.
-/
import Derived.Test.YthiebpiohkfjgaaChecked
import GoSem.Claim
import GoSem.ClaimJoined
import GoSem.ClaimMapViews
import Derived.JoinedTies
import Derived.KernelRfl
namespace Go.Proofs.Ythiebpiohkfjgaa
/- THE CELL 'sum', in the pinned program and in every row, IS THE sha256 OF THE DUMP (.gsa) THAT YthiebpiohkfjgaaProg.lean LOADS. Nothing in Lean hashes anything: it is a label: what it is worth is what the hold of that sum in a sandbox is worth. -/
noncomputable def Try.pinned : Pinned := { name := "ythiebpiohkfjgaa", sum := "0dd9e670021ffdf469df63c831f094c560871aa5481026526b70607b6cf0bbe4", checked := Try.checked }
namespace Rows
def none {H : Type} : Left H := { results := [], args := [] }

/-- 'coppicelaw01.VintReads': WHATEVER THE INPUT: true; the input reads as it did. -/
def vintReadsSpec : ChangeSpec := { name := "vintReads", fn := fun _ => fun
  | [d1, d2] => { results := [.lit (.bool true)], args := [d1, d2] }
  | _ => none }
def vintReadsRow : OpenClaim := { program := "ythiebpiohkfjgaa", sum := "0dd9e670021ffdf469df63c831f094c560871aa5481026526b70607b6cf0bbe4", func := "coppice/coppicelaw01.VintReads", spec := "vintReads", apart := false }
def VintReadsSaid : Prop := vintReadsRow.holds Try.pinned (OpenSpec.ofChange vintReadsSpec)

/-- ITS FALSE NEIGHBOUR: 'it returns false'. Refute it at one input. -/
def vintReadsWrong : ChangeSpec := { name := "vintReads", fn := fun _ => fun
  | [d1, d2] => { results := [.lit (.bool false)], args := [d1, d2] }
  | _ => none }
def VintReadsWrongFalsely : Prop := vintReadsRow.holds Try.pinned (OpenSpec.ofChange vintReadsWrong)

/-- 'coppicelaw01.VintApart': WHATEVER THE INPUT: true; the input reads as it did. -/
def vintApartSpec : ChangeSpec := { name := "vintApart", fn := fun _ => fun
  | [d1, d2, d3] => { results := [.lit (.bool true)], args := [d1, d2, d3] }
  | _ => none }
def vintApartRow : OpenClaim := { program := "ythiebpiohkfjgaa", sum := "0dd9e670021ffdf469df63c831f094c560871aa5481026526b70607b6cf0bbe4", func := "coppice/coppicelaw01.VintApart", spec := "vintApart", apart := false }
def VintApartSaid : Prop := vintApartRow.holds Try.pinned (OpenSpec.ofChange vintApartSpec)

/-- ITS FALSE NEIGHBOUR: 'it returns false'. Refute it at one input. -/
def vintApartWrong : ChangeSpec := { name := "vintApart", fn := fun _ => fun
  | [d1, d2, d3] => { results := [.lit (.bool false)], args := [d1, d2, d3] }
  | _ => none }
def VintApartWrongFalsely : Prop := vintApartRow.holds Try.pinned (OpenSpec.ofChange vintApartWrong)

/-- 'coppicelaw01.VintTakes': WHATEVER THE INPUT: true; the input reads as it did. -/
def vintTakesSpec : ChangeSpec := { name := "vintTakes", fn := fun _ => fun
  | [d1, d2] => { results := [.lit (.bool true)], args := [d1, d2] }
  | _ => none }
def vintTakesRow : OpenClaim := { program := "ythiebpiohkfjgaa", sum := "0dd9e670021ffdf469df63c831f094c560871aa5481026526b70607b6cf0bbe4", func := "coppice/coppicelaw01.VintTakes", spec := "vintTakes", apart := false }
def VintTakesSaid : Prop := vintTakesRow.holds Try.pinned (OpenSpec.ofChange vintTakesSpec)

/-- ITS FALSE NEIGHBOUR: 'it returns false'. Refute it at one input. -/
def vintTakesWrong : ChangeSpec := { name := "vintTakes", fn := fun _ => fun
  | [d1, d2] => { results := [.lit (.bool false)], args := [d1, d2] }
  | _ => none }
def VintTakesWrongFalsely : Prop := vintTakesRow.holds Try.pinned (OpenSpec.ofChange vintTakesWrong)

/-- 'coppicelaw01.VintPieces': WHATEVER THE INPUT: true; the input reads as it did. -/
def vintPiecesSpec : ChangeSpec := { name := "vintPieces", fn := fun _ => fun
  | [d] => { results := [.lit (.bool true)], args := [d] }
  | _ => none }
def vintPiecesRow : OpenClaim := { program := "ythiebpiohkfjgaa", sum := "0dd9e670021ffdf469df63c831f094c560871aa5481026526b70607b6cf0bbe4", func := "coppice/coppicelaw01.VintPieces", spec := "vintPieces", apart := false }
def VintPiecesSaid : Prop := vintPiecesRow.holds Try.pinned (OpenSpec.ofChange vintPiecesSpec)

/-- ITS FALSE NEIGHBOUR: 'it returns false'. Refute it at one input. -/
def vintPiecesWrong : ChangeSpec := { name := "vintPieces", fn := fun _ => fun
  | [d] => { results := [.lit (.bool false)], args := [d] }
  | _ => none }
def VintPiecesWrongFalsely : Prop := vintPiecesRow.holds Try.pinned (OpenSpec.ofChange vintPiecesWrong)

/-- 'coppicelaw01.VintWrites': WHATEVER THE INPUT: true; the input reads as it did. -/
def vintWritesSpec : ChangeSpec := { name := "vintWrites", fn := fun _ => fun
  | [d] => { results := [.lit (.bool true)], args := [d] }
  | _ => none }
def vintWritesRow : OpenClaim := { program := "ythiebpiohkfjgaa", sum := "0dd9e670021ffdf469df63c831f094c560871aa5481026526b70607b6cf0bbe4", func := "coppice/coppicelaw01.VintWrites", spec := "vintWrites", apart := false }
def VintWritesSaid : Prop := vintWritesRow.holds Try.pinned (OpenSpec.ofChange vintWritesSpec)

/-- ITS FALSE NEIGHBOUR: 'it returns false'. Refute it at one input. -/
def vintWritesWrong : ChangeSpec := { name := "vintWrites", fn := fun _ => fun
  | [d] => { results := [.lit (.bool false)], args := [d] }
  | _ => none }
def VintWritesWrongFalsely : Prop := vintWritesRow.holds Try.pinned (OpenSpec.ofChange vintWritesWrong)

/-- 'coppicelaw01.VintLists': WHATEVER THE INPUT: true; the input reads as it did. -/
def vintListsSpec : ChangeSpec := { name := "vintLists", fn := fun _ => fun
  | [d1, d2] => { results := [.lit (.bool true)], args := [d1, d2] }
  | _ => none }
def vintListsRow : OpenClaim := { program := "ythiebpiohkfjgaa", sum := "0dd9e670021ffdf469df63c831f094c560871aa5481026526b70607b6cf0bbe4", func := "coppice/coppicelaw01.VintLists", spec := "vintLists", unfollowed := true, recurses := true, apart := false }
def VintListsSaid : Prop := vintListsRow.holds Try.pinned (OpenSpec.ofChange vintListsSpec)

/-- ITS FALSE NEIGHBOUR: 'it returns false'. Refute it at one input. -/
def vintListsWrong : ChangeSpec := { name := "vintLists", fn := fun _ => fun
  | [d1, d2] => { results := [.lit (.bool false)], args := [d1, d2] }
  | _ => none }
def VintListsWrongFalsely : Prop := vintListsRow.holds Try.pinned (OpenSpec.ofChange vintListsWrong)

/-- 'coppicelaw01.VintNames': WHATEVER THE INPUT: true; the input reads as it did. -/
def vintNamesSpec : ChangeSpec := { name := "vintNames", fn := fun _ => fun
  | [] => { results := [.lit (.bool true)], args := [] }
  | _ => none }
def vintNamesRow : OpenClaim := { program := "ythiebpiohkfjgaa", sum := "0dd9e670021ffdf469df63c831f094c560871aa5481026526b70607b6cf0bbe4", func := "coppice/coppicelaw01.VintNames", spec := "vintNames", unfollowed := true, recurses := true, apart := false }
def VintNamesSaid : Prop := vintNamesRow.holds Try.pinned (OpenSpec.ofChange vintNamesSpec)

/-- ITS FALSE NEIGHBOUR: 'it returns false'. Refute it at one input. -/
def vintNamesWrong : ChangeSpec := { name := "vintNames", fn := fun _ => fun
  | [] => { results := [.lit (.bool false)], args := [] }
  | _ => none }
def VintNamesWrongFalsely : Prop := vintNamesRow.holds Try.pinned (OpenSpec.ofChange vintNamesWrong)

/-- 'coppicelaw01.VintBack': WHATEVER THE INPUT: true; the input reads as it did. -/
def vintBackSpec : ChangeSpec := { name := "vintBack", fn := fun _ => fun
  | [d1, d2, d3] => { results := [.lit (.bool true)], args := [d1, d2, d3] }
  | _ => none }
def vintBackRow : OpenClaim := { program := "ythiebpiohkfjgaa", sum := "0dd9e670021ffdf469df63c831f094c560871aa5481026526b70607b6cf0bbe4", func := "coppice/coppicelaw01.VintBack", spec := "vintBack", unfollowed := true, recurses := true, apart := false }
def VintBackSaid : Prop := vintBackRow.holds Try.pinned (OpenSpec.ofChange vintBackSpec)

/-- ITS FALSE NEIGHBOUR: 'it returns false'. Refute it at one input. -/
def vintBackWrong : ChangeSpec := { name := "vintBack", fn := fun _ => fun
  | [d1, d2, d3] => { results := [.lit (.bool false)], args := [d1, d2, d3] }
  | _ => none }
def VintBackWrongFalsely : Prop := vintBackRow.holds Try.pinned (OpenSpec.ofChange vintBackWrong)

/- THE SECOND FORM. 'bulk': how many values and letters a reading holds, each counted each time it is reached (what is shared counts as often as it is met; a slice's spare places count too). A statement '..UptoSaid' is the law's where the arguments, and the package variables that the reading takes, are together of bulk at most 1048576: NARROWER than '..Said'. Prove '..Said' where nothing that the law and all that it calls make is longer than what came in: it says more and counts as full. Else prove '..UptoSaid'. A law counts once. -/
mutual
def uptoBulk {H : Type} : DataW H → Nat
  | .lit (.string bytes) => bytes.length + 1
  | .lit _ => 1
  | .nil => 1
  | .ptr d => uptoBulk d + 1
  | .slice elems spare => uptoBulkAll elems + uptoBulkAll spare + 1
  | .agg parts => uptoBulkAll parts + 1
  | .iface _ d => uptoBulk d + 1
  | .map entries => uptoBulkEntries entries + 1
  | .held _ => 1
def uptoBulkAll {H : Type} : List (DataW H) → Nat
  | [] => 0
  | d :: r => uptoBulk d + uptoBulkAll r
def uptoBulkEntries {H : Type} : List (Lit × DataW H) → Nat
  | [] => 0
  | x :: r => uptoBulkEntry x + uptoBulkEntries r
def uptoBulkEntry {H : Type} : Lit × DataW H → Nat
  | (.string bytes, d) => bytes.length + uptoBulk d + 1
  | (_, d) => uptoBulk d + 1
 end
def uptoSmall : (H : Type) → List (DataW H) → Bool := fun _ ds => decide (uptoBulkAll ds ≤ 1048576)
def OpenSpec.upto (s : _root_.Go.ChangeSpec) : _root_.Go.OpenSpec := { _root_.Go.OpenSpec.ofChange s with cond := some uptoSmall }

/-- 'coppicelaw01.VintReads', WHERE WHAT IT READS IS OF BULK AT MOST 1048576: true; the input reads as it did. -/
def vintReadsUptoRow : OpenClaim := { program := "ythiebpiohkfjgaa", sum := "0dd9e670021ffdf469df63c831f094c560871aa5481026526b70607b6cf0bbe4", func := "coppice/coppicelaw01.VintReads", spec := "vintReads", apart := false, narrowed := true }
def VintReadsUptoSaid : Prop := vintReadsUptoRow.holds Try.pinned (OpenSpec.upto vintReadsSpec)

/-- 'coppicelaw01.VintApart', WHERE WHAT IT READS IS OF BULK AT MOST 1048576: true; the input reads as it did. -/
def vintApartUptoRow : OpenClaim := { program := "ythiebpiohkfjgaa", sum := "0dd9e670021ffdf469df63c831f094c560871aa5481026526b70607b6cf0bbe4", func := "coppice/coppicelaw01.VintApart", spec := "vintApart", apart := false, narrowed := true }
def VintApartUptoSaid : Prop := vintApartUptoRow.holds Try.pinned (OpenSpec.upto vintApartSpec)

/-- 'coppicelaw01.VintTakes', WHERE WHAT IT READS IS OF BULK AT MOST 1048576: true; the input reads as it did. -/
def vintTakesUptoRow : OpenClaim := { program := "ythiebpiohkfjgaa", sum := "0dd9e670021ffdf469df63c831f094c560871aa5481026526b70607b6cf0bbe4", func := "coppice/coppicelaw01.VintTakes", spec := "vintTakes", apart := false, narrowed := true }
def VintTakesUptoSaid : Prop := vintTakesUptoRow.holds Try.pinned (OpenSpec.upto vintTakesSpec)

/-- 'coppicelaw01.VintPieces', WHERE WHAT IT READS IS OF BULK AT MOST 1048576: true; the input reads as it did. -/
def vintPiecesUptoRow : OpenClaim := { program := "ythiebpiohkfjgaa", sum := "0dd9e670021ffdf469df63c831f094c560871aa5481026526b70607b6cf0bbe4", func := "coppice/coppicelaw01.VintPieces", spec := "vintPieces", apart := false, narrowed := true }
def VintPiecesUptoSaid : Prop := vintPiecesUptoRow.holds Try.pinned (OpenSpec.upto vintPiecesSpec)

/-- 'coppicelaw01.VintWrites', WHERE WHAT IT READS IS OF BULK AT MOST 1048576: true; the input reads as it did. -/
def vintWritesUptoRow : OpenClaim := { program := "ythiebpiohkfjgaa", sum := "0dd9e670021ffdf469df63c831f094c560871aa5481026526b70607b6cf0bbe4", func := "coppice/coppicelaw01.VintWrites", spec := "vintWrites", apart := false, narrowed := true }
def VintWritesUptoSaid : Prop := vintWritesUptoRow.holds Try.pinned (OpenSpec.upto vintWritesSpec)

/-- 'coppicelaw01.VintLists', WHERE WHAT IT READS IS OF BULK AT MOST 1048576: true; the input reads as it did. -/
def vintListsUptoRow : OpenClaim := { program := "ythiebpiohkfjgaa", sum := "0dd9e670021ffdf469df63c831f094c560871aa5481026526b70607b6cf0bbe4", func := "coppice/coppicelaw01.VintLists", spec := "vintLists", unfollowed := true, recurses := true, apart := false, narrowed := true }
def VintListsUptoSaid : Prop := vintListsUptoRow.holds Try.pinned (OpenSpec.upto vintListsSpec)

/-- 'coppicelaw01.VintNames', WHERE WHAT IT READS IS OF BULK AT MOST 1048576: true; the input reads as it did. -/
def vintNamesUptoRow : OpenClaim := { program := "ythiebpiohkfjgaa", sum := "0dd9e670021ffdf469df63c831f094c560871aa5481026526b70607b6cf0bbe4", func := "coppice/coppicelaw01.VintNames", spec := "vintNames", unfollowed := true, recurses := true, apart := false, narrowed := true }
def VintNamesUptoSaid : Prop := vintNamesUptoRow.holds Try.pinned (OpenSpec.upto vintNamesSpec)

/-- 'coppicelaw01.VintBack', WHERE WHAT IT READS IS OF BULK AT MOST 1048576: true; the input reads as it did. -/
def vintBackUptoRow : OpenClaim := { program := "ythiebpiohkfjgaa", sum := "0dd9e670021ffdf469df63c831f094c560871aa5481026526b70607b6cf0bbe4", func := "coppice/coppicelaw01.VintBack", spec := "vintBack", unfollowed := true, recurses := true, apart := false, narrowed := true }
def VintBackUptoSaid : Prop := vintBackUptoRow.holds Try.pinned (OpenSpec.upto vintBackSpec)

end Rows
end Go.Proofs.Ythiebpiohkfjgaa
