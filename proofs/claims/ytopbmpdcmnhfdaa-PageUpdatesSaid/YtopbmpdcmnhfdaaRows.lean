/-
  No cell of these rows narrows 'for every input' (looked for: loops, veiled, ifaces, maps, wideKeys, modest, calm, conditions, laid).
  DERIVED. THE GIVEN ROWS OF THIS SEAT. 8 by the template 'for every input the law returns true; each argument reads behind the call as it read before'; 0 by the template 'total and deterministic' (their statements: YtopbmpdcmnhfdaaTotals.lean).
  GIVEN WITH THE SEED: the statements are not yours to turn. If you find one false, say at which input.
  Laid BY PROGRAM, IN A SANDBOX (cutbox-rows.mjs): the forced cells as the released guide's own fill.sh prints them over the translation ffc2b3863b1fd504… (all of the seat's roots in one cut). By AI agents, Wed Nov 11 2026. No macro, syntax, notation, axiom, sorry.
-/
import Derived.Test.YtopbmpdcmnhfdaaChecked
import GoSem.Claim
import GoSem.ClaimJoined
import GoSem.ClaimMapViews
import Derived.JoinedTies
import Derived.KernelRfl
namespace Go.Proofs.Ytopbmpdcmnhfdaa
/- THE CELL 'sum', in the pinned program and in every row, IS THE sha256 OF THE DUMP (.gsa) THAT YtopbmpdcmnhfdaaProg.lean LOADS. Nothing in Lean hashes anything: it is a label: what it is worth is what the hold of that sum in a sandbox is worth. -/
noncomputable def Try.pinned : Pinned := { name := "ytopbmpdcmnhfdaa", sum := "ffc2b3863b1fd5046285a0d3e24e67181b31d5892c75be3e415e700fd8d77a18", checked := Try.checked }
namespace Rows
def none {H : Type} : Left H := { results := [], args := [] }

/-- 'lineagelaw14.PageLayout': WHATEVER THE INPUT: true; the input reads as it did. -/
def pageLayoutSpec : ChangeSpec := { name := "pageLayout", fn := fun _ => fun
  | [d1, d2] => { results := [.lit (.bool true)], args := [d1, d2] }
  | _ => none }
def pageLayoutRow : OpenClaim := { program := "ytopbmpdcmnhfdaa", sum := "ffc2b3863b1fd5046285a0d3e24e67181b31d5892c75be3e415e700fd8d77a18", func := "lineage/lineagelaw14.PageLayout", spec := "pageLayout", unfollowed := true, recurses := true, apart := false }
def PageLayoutSaid : Prop := pageLayoutRow.holds Try.pinned (OpenSpec.ofChange pageLayoutSpec)

/-- ITS FALSE NEIGHBOUR: 'it returns false'. Refute it at one input. -/
def pageLayoutWrong : ChangeSpec := { name := "pageLayout", fn := fun _ => fun
  | [d1, d2] => { results := [.lit (.bool false)], args := [d1, d2] }
  | _ => none }
def PageLayoutWrongFalsely : Prop := pageLayoutRow.holds Try.pinned (OpenSpec.ofChange pageLayoutWrong)

/-- 'lineagelaw14.PageDetermined': WHATEVER THE INPUT: true; the input reads as it did. -/
def pageDeterminedSpec : ChangeSpec := { name := "pageDetermined", fn := fun _ => fun
  | [d] => { results := [.lit (.bool true)], args := [d] }
  | _ => none }
def pageDeterminedRow : OpenClaim := { program := "ytopbmpdcmnhfdaa", sum := "ffc2b3863b1fd5046285a0d3e24e67181b31d5892c75be3e415e700fd8d77a18", func := "lineage/lineagelaw14.PageDetermined", spec := "pageDetermined", unfollowed := true, recurses := true, apart := false }
def PageDeterminedSaid : Prop := pageDeterminedRow.holds Try.pinned (OpenSpec.ofChange pageDeterminedSpec)

/-- ITS FALSE NEIGHBOUR: 'it returns false'. Refute it at one input. -/
def pageDeterminedWrong : ChangeSpec := { name := "pageDetermined", fn := fun _ => fun
  | [d] => { results := [.lit (.bool false)], args := [d] }
  | _ => none }
def PageDeterminedWrongFalsely : Prop := pageDeterminedRow.holds Try.pinned (OpenSpec.ofChange pageDeterminedWrong)

/-- 'lineagelaw14.PageReading': WHATEVER THE INPUT: true; the input reads as it did. -/
def pageReadingSpec : ChangeSpec := { name := "pageReading", fn := fun _ => fun
  | [d1, d2] => { results := [.lit (.bool true)], args := [d1, d2] }
  | _ => none }
def pageReadingRow : OpenClaim := { program := "ytopbmpdcmnhfdaa", sum := "ffc2b3863b1fd5046285a0d3e24e67181b31d5892c75be3e415e700fd8d77a18", func := "lineage/lineagelaw14.PageReading", spec := "pageReading", unfollowed := true, recurses := true, apart := false }
def PageReadingSaid : Prop := pageReadingRow.holds Try.pinned (OpenSpec.ofChange pageReadingSpec)

/-- ITS FALSE NEIGHBOUR: 'it returns false'. Refute it at one input. -/
def pageReadingWrong : ChangeSpec := { name := "pageReading", fn := fun _ => fun
  | [d1, d2] => { results := [.lit (.bool false)], args := [d1, d2] }
  | _ => none }
def PageReadingWrongFalsely : Prop := pageReadingRow.holds Try.pinned (OpenSpec.ofChange pageReadingWrong)

/-- 'lineagelaw14.PageChecksum': WHATEVER THE INPUT: true; the input reads as it did. -/
def pageChecksumSpec : ChangeSpec := { name := "pageChecksum", fn := fun _ => fun
  | [d1, d2, d3] => { results := [.lit (.bool true)], args := [d1, d2, d3] }
  | _ => none }
def pageChecksumRow : OpenClaim := { program := "ytopbmpdcmnhfdaa", sum := "ffc2b3863b1fd5046285a0d3e24e67181b31d5892c75be3e415e700fd8d77a18", func := "lineage/lineagelaw14.PageChecksum", spec := "pageChecksum", unfollowed := true, recurses := true, apart := false }
def PageChecksumSaid : Prop := pageChecksumRow.holds Try.pinned (OpenSpec.ofChange pageChecksumSpec)

/-- ITS FALSE NEIGHBOUR: 'it returns false'. Refute it at one input. -/
def pageChecksumWrong : ChangeSpec := { name := "pageChecksum", fn := fun _ => fun
  | [d1, d2, d3] => { results := [.lit (.bool false)], args := [d1, d2, d3] }
  | _ => none }
def PageChecksumWrongFalsely : Prop := pageChecksumRow.holds Try.pinned (OpenSpec.ofChange pageChecksumWrong)

/-- 'lineagelaw14.PageSpace': WHATEVER THE INPUT: true; the input reads as it did. -/
def pageSpaceSpec : ChangeSpec := { name := "pageSpace", fn := fun _ => fun
  | [d1, d2, d3] => { results := [.lit (.bool true)], args := [d1, d2, d3] }
  | _ => none }
def pageSpaceRow : OpenClaim := { program := "ytopbmpdcmnhfdaa", sum := "ffc2b3863b1fd5046285a0d3e24e67181b31d5892c75be3e415e700fd8d77a18", func := "lineage/lineagelaw14.PageSpace", spec := "pageSpace", inPlace := ["slices.overlaps[[]byte]"], unfollowed := true, recurses := true, apart := false }
def PageSpaceSaid : Prop := pageSpaceRow.holds Try.pinned (OpenSpec.ofChange pageSpaceSpec)

/-- ITS FALSE NEIGHBOUR: 'it returns false'. Refute it at one input. -/
def pageSpaceWrong : ChangeSpec := { name := "pageSpace", fn := fun _ => fun
  | [d1, d2, d3] => { results := [.lit (.bool false)], args := [d1, d2, d3] }
  | _ => none }
def PageSpaceWrongFalsely : Prop := pageSpaceRow.holds Try.pinned (OpenSpec.ofChange pageSpaceWrong)

/-- 'lineagelaw14.PageUpdates': WHATEVER THE INPUT: true; the input reads as it did. -/
def pageUpdatesSpec : ChangeSpec := { name := "pageUpdates", fn := fun _ => fun
  | [d1, d2, d3] => { results := [.lit (.bool true)], args := [d1, d2, d3] }
  | _ => none }
def pageUpdatesRow : OpenClaim := { program := "ytopbmpdcmnhfdaa", sum := "ffc2b3863b1fd5046285a0d3e24e67181b31d5892c75be3e415e700fd8d77a18", func := "lineage/lineagelaw14.PageUpdates", spec := "pageUpdates", inPlace := ["slices.overlaps[[]byte]"], unfollowed := true, recurses := true, apart := false }
def PageUpdatesSaid : Prop := pageUpdatesRow.holds Try.pinned (OpenSpec.ofChange pageUpdatesSpec)

/-- ITS FALSE NEIGHBOUR: 'it returns false'. Refute it at one input. -/
def pageUpdatesWrong : ChangeSpec := { name := "pageUpdates", fn := fun _ => fun
  | [d1, d2, d3] => { results := [.lit (.bool false)], args := [d1, d2, d3] }
  | _ => none }
def PageUpdatesWrongFalsely : Prop := pageUpdatesRow.holds Try.pinned (OpenSpec.ofChange pageUpdatesWrong)

/-- 'lineagelaw14.PageCells': WHATEVER THE INPUT: true; the input reads as it did. -/
def pageCellsSpec : ChangeSpec := { name := "pageCells", fn := fun _ => fun
  | [d1, d2, d3] => { results := [.lit (.bool true)], args := [d1, d2, d3] }
  | _ => none }
def pageCellsRow : OpenClaim := { program := "ytopbmpdcmnhfdaa", sum := "ffc2b3863b1fd5046285a0d3e24e67181b31d5892c75be3e415e700fd8d77a18", func := "lineage/lineagelaw14.PageCells", spec := "pageCells", inPlace := ["slices.overlaps[[]byte]"], unfollowed := true, recurses := true, apart := false }
def PageCellsSaid : Prop := pageCellsRow.holds Try.pinned (OpenSpec.ofChange pageCellsSpec)

/-- ITS FALSE NEIGHBOUR: 'it returns false'. Refute it at one input. -/
def pageCellsWrong : ChangeSpec := { name := "pageCells", fn := fun _ => fun
  | [d1, d2, d3] => { results := [.lit (.bool false)], args := [d1, d2, d3] }
  | _ => none }
def PageCellsWrongFalsely : Prop := pageCellsRow.holds Try.pinned (OpenSpec.ofChange pageCellsWrong)

/-- 'lineagelaw14.PageInverse': WHATEVER THE INPUT: true; the input reads as it did. -/
def pageInverseSpec : ChangeSpec := { name := "pageInverse", fn := fun _ => fun
  | [d1, d2, d3] => { results := [.lit (.bool true)], args := [d1, d2, d3] }
  | _ => none }
def pageInverseRow : OpenClaim := { program := "ytopbmpdcmnhfdaa", sum := "ffc2b3863b1fd5046285a0d3e24e67181b31d5892c75be3e415e700fd8d77a18", func := "lineage/lineagelaw14.PageInverse", spec := "pageInverse", inPlace := ["slices.overlaps[[]byte]"], unfollowed := true, recurses := true, apart := false }
def PageInverseSaid : Prop := pageInverseRow.holds Try.pinned (OpenSpec.ofChange pageInverseSpec)

/-- ITS FALSE NEIGHBOUR: 'it returns false'. Refute it at one input. -/
def pageInverseWrong : ChangeSpec := { name := "pageInverse", fn := fun _ => fun
  | [d1, d2, d3] => { results := [.lit (.bool false)], args := [d1, d2, d3] }
  | _ => none }
def PageInverseWrongFalsely : Prop := pageInverseRow.holds Try.pinned (OpenSpec.ofChange pageInverseWrong)

/- THE SECOND FORM. 'bulk': how many values and letters a reading holds, each counted each time it is reached (what is shared counts as often as it is met; a slice's spare places count too). A statement '..UptoSaid' is the law's where the arguments, and the package variables that the reading takes, are together of bulk at most 1048576: NARROWER than '..Said'. Prove '..Said' where nothing that the law and all that it calls make is longer than what came in: it says more and counts as full. Else prove '..UptoSaid'. A law counts once. -/
mutual
def uptoBulk {H : Type} : DataW H → Nat
  | .lit (.string bytes) => bytes.length + 1
  | .lit _ => 1
  | .nil => 1
  | .ptr d => uptoBulk d + 1
  | .slice elems spare => uptoBulkAll elems + uptoBulkAll spare + 1
  | .agg parts => uptoBulkAll parts + 1
  | .iface _ d => uptoBulk d + 1
  | .map entries => uptoBulkEntries entries + 1
  | .held _ => 1
def uptoBulkAll {H : Type} : List (DataW H) → Nat
  | [] => 0
  | d :: r => uptoBulk d + uptoBulkAll r
def uptoBulkEntries {H : Type} : List (Lit × DataW H) → Nat
  | [] => 0
  | x :: r => uptoBulkEntry x + uptoBulkEntries r
def uptoBulkEntry {H : Type} : Lit × DataW H → Nat
  | (.string bytes, d) => bytes.length + uptoBulk d + 1
  | (_, d) => uptoBulk d + 1
 end
def uptoSmall : (H : Type) → List (DataW H) → Bool := fun _ ds => decide (uptoBulkAll ds ≤ 1048576)
def OpenSpec.upto (s : _root_.Go.ChangeSpec) : _root_.Go.OpenSpec := { _root_.Go.OpenSpec.ofChange s with cond := some uptoSmall }

/-- 'lineagelaw14.PageLayout', WHERE WHAT IT READS IS OF BULK AT MOST 1048576: true; the input reads as it did. -/
def pageLayoutUptoRow : OpenClaim := { program := "ytopbmpdcmnhfdaa", sum := "ffc2b3863b1fd5046285a0d3e24e67181b31d5892c75be3e415e700fd8d77a18", func := "lineage/lineagelaw14.PageLayout", spec := "pageLayout", unfollowed := true, recurses := true, apart := false, narrowed := true }
def PageLayoutUptoSaid : Prop := pageLayoutUptoRow.holds Try.pinned (OpenSpec.upto pageLayoutSpec)

/-- 'lineagelaw14.PageDetermined', WHERE WHAT IT READS IS OF BULK AT MOST 1048576: true; the input reads as it did. -/
def pageDeterminedUptoRow : OpenClaim := { program := "ytopbmpdcmnhfdaa", sum := "ffc2b3863b1fd5046285a0d3e24e67181b31d5892c75be3e415e700fd8d77a18", func := "lineage/lineagelaw14.PageDetermined", spec := "pageDetermined", unfollowed := true, recurses := true, apart := false, narrowed := true }
def PageDeterminedUptoSaid : Prop := pageDeterminedUptoRow.holds Try.pinned (OpenSpec.upto pageDeterminedSpec)

/-- 'lineagelaw14.PageReading', WHERE WHAT IT READS IS OF BULK AT MOST 1048576: true; the input reads as it did. -/
def pageReadingUptoRow : OpenClaim := { program := "ytopbmpdcmnhfdaa", sum := "ffc2b3863b1fd5046285a0d3e24e67181b31d5892c75be3e415e700fd8d77a18", func := "lineage/lineagelaw14.PageReading", spec := "pageReading", unfollowed := true, recurses := true, apart := false, narrowed := true }
def PageReadingUptoSaid : Prop := pageReadingUptoRow.holds Try.pinned (OpenSpec.upto pageReadingSpec)

/-- 'lineagelaw14.PageChecksum', WHERE WHAT IT READS IS OF BULK AT MOST 1048576: true; the input reads as it did. -/
def pageChecksumUptoRow : OpenClaim := { program := "ytopbmpdcmnhfdaa", sum := "ffc2b3863b1fd5046285a0d3e24e67181b31d5892c75be3e415e700fd8d77a18", func := "lineage/lineagelaw14.PageChecksum", spec := "pageChecksum", unfollowed := true, recurses := true, apart := false, narrowed := true }
def PageChecksumUptoSaid : Prop := pageChecksumUptoRow.holds Try.pinned (OpenSpec.upto pageChecksumSpec)

/-- 'lineagelaw14.PageSpace', WHERE WHAT IT READS IS OF BULK AT MOST 1048576: true; the input reads as it did. -/
def pageSpaceUptoRow : OpenClaim := { program := "ytopbmpdcmnhfdaa", sum := "ffc2b3863b1fd5046285a0d3e24e67181b31d5892c75be3e415e700fd8d77a18", func := "lineage/lineagelaw14.PageSpace", spec := "pageSpace", inPlace := ["slices.overlaps[[]byte]"], unfollowed := true, recurses := true, apart := false, narrowed := true }
def PageSpaceUptoSaid : Prop := pageSpaceUptoRow.holds Try.pinned (OpenSpec.upto pageSpaceSpec)

/-- 'lineagelaw14.PageUpdates', WHERE WHAT IT READS IS OF BULK AT MOST 1048576: true; the input reads as it did. -/
def pageUpdatesUptoRow : OpenClaim := { program := "ytopbmpdcmnhfdaa", sum := "ffc2b3863b1fd5046285a0d3e24e67181b31d5892c75be3e415e700fd8d77a18", func := "lineage/lineagelaw14.PageUpdates", spec := "pageUpdates", inPlace := ["slices.overlaps[[]byte]"], unfollowed := true, recurses := true, apart := false, narrowed := true }
def PageUpdatesUptoSaid : Prop := pageUpdatesUptoRow.holds Try.pinned (OpenSpec.upto pageUpdatesSpec)

/-- 'lineagelaw14.PageCells', WHERE WHAT IT READS IS OF BULK AT MOST 1048576: true; the input reads as it did. -/
def pageCellsUptoRow : OpenClaim := { program := "ytopbmpdcmnhfdaa", sum := "ffc2b3863b1fd5046285a0d3e24e67181b31d5892c75be3e415e700fd8d77a18", func := "lineage/lineagelaw14.PageCells", spec := "pageCells", inPlace := ["slices.overlaps[[]byte]"], unfollowed := true, recurses := true, apart := false, narrowed := true }
def PageCellsUptoSaid : Prop := pageCellsUptoRow.holds Try.pinned (OpenSpec.upto pageCellsSpec)

/-- 'lineagelaw14.PageInverse', WHERE WHAT IT READS IS OF BULK AT MOST 1048576: true; the input reads as it did. -/
def pageInverseUptoRow : OpenClaim := { program := "ytopbmpdcmnhfdaa", sum := "ffc2b3863b1fd5046285a0d3e24e67181b31d5892c75be3e415e700fd8d77a18", func := "lineage/lineagelaw14.PageInverse", spec := "pageInverse", inPlace := ["slices.overlaps[[]byte]"], unfollowed := true, recurses := true, apart := false, narrowed := true }
def PageInverseUptoSaid : Prop := pageInverseUptoRow.holds Try.pinned (OpenSpec.upto pageInverseSpec)

end Rows
end Go.Proofs.Ytopbmpdcmnhfdaa
