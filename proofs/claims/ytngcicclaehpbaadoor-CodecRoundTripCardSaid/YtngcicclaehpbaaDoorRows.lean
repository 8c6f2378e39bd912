/-
  NARROWER THAN 'FOR EVERY INPUT', by the rows' own cells (each row's printed sentence says how): CodecKeyOrder: laid · CodecChecksums: laid · CodecSuccessors: laid · CodecUints: laid · CodecKeys: laid · CodecStrings: laid · CodecDecodes: laid · CodecRoundTrip: laid.
  DERIVED. THE GIVEN ROWS OF THIS SEAT. 8 by the template 'for every input the law returns true; each argument reads behind the call as it read before'; 0 by the template 'total and deterministic' (their statements: YtngcicclaehpbaaDoorTotals.lean).
  GIVEN WITH THE SEED: the statements are not yours to turn. If you find one false, say at which input.
  Laid BY PROGRAM, IN A SANDBOX (cutbox-rows.mjs): the forced cells as the released guide's own fill.sh prints them over the translation 5eece5bf22a63bb2… (all of the seat's roots in one cut). By AI agents, Wed Nov 11 2026. No macro, syntax, notation, axiom, sorry.
-/
import Derived.Test.YtngcicclaehpbaaDoorChecked
import GoSem.PinnedTables
import GoSem.Claim
import GoSem.ClaimJoined
import GoSem.ClaimMapViews
import Derived.JoinedTies
import Derived.KernelRfl
namespace Go.Proofs.YtngcicclaehpbaaDoor
/- THE CELL 'sum', in the pinned program and in every row, IS THE sha256 OF THE DUMP (.gsa) THAT YtngcicclaehpbaaDoorProg.lean LOADS. Nothing in Lean hashes anything: it is a label: what it is worth is what the hold of that sum in a sandbox is worth. -/
noncomputable def Tryd.pinned : Pinned := { name := "ytngcicclaehpbaadoor", sum := "5eece5bf22a63bb248df2a178089870e2e9c27c83c4786ed59be4d4dc6aded5d", checked := Tryd.checked }
namespace Rows
def none {H : Type} : Left H := { results := [], args := [] }

/- WHAT THE LISTED PACKAGE-LEVEL VARIABLES READ AS WHEN THE CALL BEGINS. Each datum BY PROGRAM (the guide's laid-datum.mjs) off the statement by which the dump's own 'gosem.cut.vars' lays the variable. In a bare row this is a premise. The card (YtngcicclaehpbaaDoorCards.lean) ties it to the program's text. -/
def laid_unicode_utf8_acceptRanges {H : Type} : DataW H := .agg [.agg [.lit (.int .u8 128), .lit (.int .u8 191)], .agg [.lit (.int .u8 160), .lit (.int .u8 191)], .agg [.lit (.int .u8 128), .lit (.int .u8 159)], .agg [.lit (.int .u8 144), .lit (.int .u8 191)], .agg [.lit (.int .u8 128), .lit (.int .u8 143)], .agg [.lit (.int .u8 0), .lit (.int .u8 0)], .agg [.lit (.int .u8 0), .lit (.int .u8 0)], .agg [.lit (.int .u8 0), .lit (.int .u8 0)], .agg [.lit (.int .u8 0), .lit (.int .u8 0)], .agg [.lit (.int .u8 0), .lit (.int .u8 0)], .agg [.lit (.int .u8 0), .lit (.int .u8 0)], .agg [.lit (.int .u8 0), .lit (.int .u8 0)], .agg [.lit (.int .u8 0), .lit (.int .u8 0)], .agg [.lit (.int .u8 0), .lit (.int .u8 0)], .agg [.lit (.int .u8 0), .lit (.int .u8 0)], .agg [.lit (.int .u8 0), .lit (.int .u8 0)]]
/-- One of Go's own tables, pinned by name: the form's constant. -/
def laid_unicode_utf8_first : DataW Unit := Go.Pinned.utf8First

/-- 'lineagelaw04.CodecKeyOrder': WHATEVER THE INPUT: true; the input reads as it did. -/
def codecKeyOrderSpec : ChangeSpec := { name := "codecKeyOrder", fn := fun _ => fun
  | [d1, d2] => { results := [.lit (.bool true)], args := [d1, d2] }
  | _ => none }
def codecKeyOrderRow : OpenClaim := { program := "ytngcicclaehpbaadoor", sum := "5eece5bf22a63bb248df2a178089870e2e9c27c83c4786ed59be4d4dc6aded5d", func := "lineage/lineagelaw04.CodecKeyOrder", spec := "codecKeyOrder", inPlace := ["internal/bytealg.Count", "internal/bytealg.IndexByte", "internal/bytealg.Index"], named := ["internal/bytealg.MaxLen", "unicode/utf8.first", "unicode/utf8.acceptRanges"], apart := false, laid := [("unicode/utf8.acceptRanges", laid_unicode_utf8_acceptRanges), ("unicode/utf8.first", laid_unicode_utf8_first)] }
def CodecKeyOrderSaid : Prop := codecKeyOrderRow.holds Tryd.pinned (OpenSpec.ofChange codecKeyOrderSpec)

/-- ITS FALSE NEIGHBOUR: 'it returns false'. Refute it at one input. -/
def codecKeyOrderWrong : ChangeSpec := { name := "codecKeyOrder", fn := fun _ => fun
  | [d1, d2] => { results := [.lit (.bool false)], args := [d1, d2] }
  | _ => none }
def CodecKeyOrderWrongFalsely : Prop := codecKeyOrderRow.holds Tryd.pinned (OpenSpec.ofChange codecKeyOrderWrong)

/-- 'lineagelaw04.CodecChecksums': WHATEVER THE INPUT: true; the input reads as it did. -/
def codecChecksumsSpec : ChangeSpec := { name := "codecChecksums", fn := fun _ => fun
  | [d1, d2, d3] => { results := [.lit (.bool true)], args := [d1, d2, d3] }
  | _ => none }
def codecChecksumsRow : OpenClaim := { program := "ytngcicclaehpbaadoor", sum := "5eece5bf22a63bb248df2a178089870e2e9c27c83c4786ed59be4d4dc6aded5d", func := "lineage/lineagelaw04.CodecChecksums", spec := "codecChecksums", inPlace := ["internal/bytealg.Count", "internal/bytealg.IndexByte", "internal/bytealg.Index"], named := ["internal/bytealg.MaxLen", "unicode/utf8.first", "unicode/utf8.acceptRanges"], apart := false, laid := [("unicode/utf8.acceptRanges", laid_unicode_utf8_acceptRanges), ("unicode/utf8.first", laid_unicode_utf8_first)] }
def CodecChecksumsSaid : Prop := codecChecksumsRow.holds Tryd.pinned (OpenSpec.ofChange codecChecksumsSpec)

/-- ITS FALSE NEIGHBOUR: 'it returns false'. Refute it at one input. -/
def codecChecksumsWrong : ChangeSpec := { name := "codecChecksums", fn := fun _ => fun
  | [d1, d2, d3] => { results := [.lit (.bool false)], args := [d1, d2, d3] }
  | _ => none }
def CodecChecksumsWrongFalsely : Prop := codecChecksumsRow.holds Tryd.pinned (OpenSpec.ofChange codecChecksumsWrong)

/-- 'lineagelaw04.CodecSuccessors': WHATEVER THE INPUT: true; the input reads as it did. -/
def codecSuccessorsSpec : ChangeSpec := { name := "codecSuccessors", fn := fun _ => fun
  | [d1, d2] => { results := [.lit (.bool true)], args := [d1, d2] }
  | _ => none }
def codecSuccessorsRow : OpenClaim := { program := "ytngcicclaehpbaadoor", sum := "5eece5bf22a63bb248df2a178089870e2e9c27c83c4786ed59be4d4dc6aded5d", func := "lineage/lineagelaw04.CodecSuccessors", spec := "codecSuccessors", inPlace := ["internal/bytealg.Count", "internal/bytealg.IndexByte", "internal/bytealg.Index"], named := ["internal/bytealg.MaxLen", "unicode/utf8.first", "unicode/utf8.acceptRanges"], apart := false, laid := [("unicode/utf8.acceptRanges", laid_unicode_utf8_acceptRanges), ("unicode/utf8.first", laid_unicode_utf8_first)] }
def CodecSuccessorsSaid : Prop := codecSuccessorsRow.holds Tryd.pinned (OpenSpec.ofChange codecSuccessorsSpec)

/-- ITS FALSE NEIGHBOUR: 'it returns false'. Refute it at one input. -/
def codecSuccessorsWrong : ChangeSpec := { name := "codecSuccessors", fn := fun _ => fun
  | [d1, d2] => { results := [.lit (.bool false)], args := [d1, d2] }
  | _ => none }
def CodecSuccessorsWrongFalsely : Prop := codecSuccessorsRow.holds Tryd.pinned (OpenSpec.ofChange codecSuccessorsWrong)

/-- 'lineagelaw04.CodecUints': WHATEVER THE INPUT: true; the input reads as it did. -/
def codecUintsSpec : ChangeSpec := { name := "codecUints", fn := fun _ => fun
  | [d1, d2] => { results := [.lit (.bool true)], args := [d1, d2] }
  | _ => none }
def codecUintsRow : OpenClaim := { program := "ytngcicclaehpbaadoor", sum := "5eece5bf22a63bb248df2a178089870e2e9c27c83c4786ed59be4d4dc6aded5d", func := "lineage/lineagelaw04.CodecUints", spec := "codecUints", inPlace := ["internal/bytealg.Count", "internal/bytealg.IndexByte", "internal/bytealg.Index"], named := ["internal/bytealg.MaxLen", "unicode/utf8.first", "unicode/utf8.acceptRanges"], apart := false, laid := [("unicode/utf8.acceptRanges", laid_unicode_utf8_acceptRanges), ("unicode/utf8.first", laid_unicode_utf8_first)] }
def CodecUintsSaid : Prop := codecUintsRow.holds Tryd.pinned (OpenSpec.ofChange codecUintsSpec)

/-- ITS FALSE NEIGHBOUR: 'it returns false'. Refute it at one input. -/
def codecUintsWrong : ChangeSpec := { name := "codecUints", fn := fun _ => fun
  | [d1, d2] => { results := [.lit (.bool false)], args := [d1, d2] }
  | _ => none }
def CodecUintsWrongFalsely : Prop := codecUintsRow.holds Tryd.pinned (OpenSpec.ofChange codecUintsWrong)

/-- 'lineagelaw04.CodecKeys': WHATEVER THE INPUT: true; the input reads as it did. -/
def codecKeysSpec : ChangeSpec := { name := "codecKeys", fn := fun _ => fun
  | [d] => { results := [.lit (.bool true)], args := [d] }
  | _ => none }
def codecKeysRow : OpenClaim := { program := "ytngcicclaehpbaadoor", sum := "5eece5bf22a63bb248df2a178089870e2e9c27c83c4786ed59be4d4dc6aded5d", func := "lineage/lineagelaw04.CodecKeys", spec := "codecKeys", inPlace := ["internal/bytealg.Count", "internal/bytealg.IndexByte", "internal/bytealg.Index"], named := ["internal/bytealg.MaxLen", "unicode/utf8.first", "unicode/utf8.acceptRanges"], apart := false, laid := [("unicode/utf8.acceptRanges", laid_unicode_utf8_acceptRanges), ("unicode/utf8.first", laid_unicode_utf8_first)] }
def CodecKeysSaid : Prop := codecKeysRow.holds Tryd.pinned (OpenSpec.ofChange codecKeysSpec)

/-- ITS FALSE NEIGHBOUR: 'it returns false'. Refute it at one input. -/
def codecKeysWrong : ChangeSpec := { name := "codecKeys", fn := fun _ => fun
  | [d] => { results := [.lit (.bool false)], args := [d] }
  | _ => none }
def CodecKeysWrongFalsely : Prop := codecKeysRow.holds Tryd.pinned (OpenSpec.ofChange codecKeysWrong)

/-- 'lineagelaw04.CodecStrings': WHATEVER THE INPUT: true; the input reads as it did. -/
def codecStringsSpec : ChangeSpec := { name := "codecStrings", fn := fun _ => fun
  | [d1, d2] => { results := [.lit (.bool true)], args := [d1, d2] }
  | _ => none }
def codecStringsRow : OpenClaim := { program := "ytngcicclaehpbaadoor", sum := "5eece5bf22a63bb248df2a178089870e2e9c27c83c4786ed59be4d4dc6aded5d", func := "lineage/lineagelaw04.CodecStrings", spec := "codecStrings", inPlace := ["internal/bytealg.Count", "internal/bytealg.IndexByte", "internal/bytealg.Index"], named := ["internal/bytealg.MaxLen", "unicode/utf8.first", "unicode/utf8.acceptRanges"], apart := false, laid := [("unicode/utf8.acceptRanges", laid_unicode_utf8_acceptRanges), ("unicode/utf8.first", laid_unicode_utf8_first)] }
def CodecStringsSaid : Prop := codecStringsRow.holds Tryd.pinned (OpenSpec.ofChange codecStringsSpec)

/-- ITS FALSE NEIGHBOUR: 'it returns false'. Refute it at one input. -/
def codecStringsWrong : ChangeSpec := { name := "codecStrings", fn := fun _ => fun
  | [d1, d2] => { results := [.lit (.bool false)], args := [d1, d2] }
  | _ => none }
def CodecStringsWrongFalsely : Prop := codecStringsRow.holds Tryd.pinned (OpenSpec.ofChange codecStringsWrong)

/-- 'lineagelaw04.CodecDecodes': WHATEVER THE INPUT: true; the input reads as it did. -/
def codecDecodesSpec : ChangeSpec := { name := "codecDecodes", fn := fun _ => fun
  | [d] => { results := [.lit (.bool true)], args := [d] }
  | _ => none }
def codecDecodesRow : OpenClaim := { program := "ytngcicclaehpbaadoor", sum := "5eece5bf22a63bb248df2a178089870e2e9c27c83c4786ed59be4d4dc6aded5d", func := "lineage/lineagelaw04.CodecDecodes", spec := "codecDecodes", inPlace := ["internal/bytealg.Count", "internal/bytealg.IndexByte", "internal/bytealg.Index"], named := ["internal/bytealg.MaxLen", "unicode/utf8.first", "unicode/utf8.acceptRanges"], apart := false, laid := [("unicode/utf8.acceptRanges", laid_unicode_utf8_acceptRanges), ("unicode/utf8.first", laid_unicode_utf8_first)] }
def CodecDecodesSaid : Prop := codecDecodesRow.holds Tryd.pinned (OpenSpec.ofChange codecDecodesSpec)

/-- ITS FALSE NEIGHBOUR: 'it returns false'. Refute it at one input. -/
def codecDecodesWrong : ChangeSpec := { name := "codecDecodes", fn := fun _ => fun
  | [d] => { results := [.lit (.bool false)], args := [d] }
  | _ => none }
def CodecDecodesWrongFalsely : Prop := codecDecodesRow.holds Tryd.pinned (OpenSpec.ofChange codecDecodesWrong)

/-- 'lineagelaw04.CodecRoundTrip': WHATEVER THE INPUT: true; the input reads as it did. -/
def codecRoundTripSpec : ChangeSpec := { name := "codecRoundTrip", fn := fun _ => fun
  | [d1, d2] => { results := [.lit (.bool true)], args := [d1, d2] }
  | _ => none }
def codecRoundTripRow : OpenClaim := { program := "ytngcicclaehpbaadoor", sum := "5eece5bf22a63bb248df2a178089870e2e9c27c83c4786ed59be4d4dc6aded5d", func := "lineage/lineagelaw04.CodecRoundTrip", spec := "codecRoundTrip", inPlace := ["internal/bytealg.Count", "internal/bytealg.IndexByte", "internal/bytealg.Index"], named := ["internal/bytealg.MaxLen", "unicode/utf8.first", "unicode/utf8.acceptRanges"], apart := false, laid := [("unicode/utf8.acceptRanges", laid_unicode_utf8_acceptRanges), ("unicode/utf8.first", laid_unicode_utf8_first)] }
def CodecRoundTripSaid : Prop := codecRoundTripRow.holds Tryd.pinned (OpenSpec.ofChange codecRoundTripSpec)

/-- ITS FALSE NEIGHBOUR: 'it returns false'. Refute it at one input. -/
def codecRoundTripWrong : ChangeSpec := { name := "codecRoundTrip", fn := fun _ => fun
  | [d1, d2] => { results := [.lit (.bool false)], args := [d1, d2] }
  | _ => none }
def CodecRoundTripWrongFalsely : Prop := codecRoundTripRow.holds Tryd.pinned (OpenSpec.ofChange codecRoundTripWrong)

/- THE SECOND FORM. 'bulk': how many values and letters a reading holds, each counted each time it is reached (what is shared counts as often as it is met; a slice's spare places count too). A statement '..UptoSaid' is the law's where the arguments, and the package variables that the reading takes, are together of bulk at most 1048576: NARROWER than '..Said'. Prove '..Said' where nothing that the law and all that it calls make is longer than what came in: it says more and counts as full. Else prove '..UptoSaid'. A law counts once. -/
mutual
def uptoBulk {H : Type} : DataW H → Nat
  | .lit (.string bytes) => bytes.length + 1
  | .lit _ => 1
  | .nil => 1
  | .ptr d => uptoBulk d + 1
  | .slice elems spare => uptoBulkAll elems + uptoBulkAll spare + 1
  | .agg parts => uptoBulkAll parts + 1
  | .iface _ d => uptoBulk d + 1
  | .map entries => uptoBulkEntries entries + 1
  | .held _ => 1
def uptoBulkAll {H : Type} : List (DataW H) → Nat
  | [] => 0
  | d :: r => uptoBulk d + uptoBulkAll r
def uptoBulkEntries {H : Type} : List (Lit × DataW H) → Nat
  | [] => 0
  | x :: r => uptoBulkEntry x + uptoBulkEntries r
def uptoBulkEntry {H : Type} : Lit × DataW H → Nat
  | (.string bytes, d) => bytes.length + uptoBulk d + 1
  | (_, d) => uptoBulk d + 1
 end
def uptoSmall : (H : Type) → List (DataW H) → Bool := fun _ ds => decide (uptoBulkAll ds ≤ 1048576)
def OpenSpec.upto (s : _root_.Go.ChangeSpec) : _root_.Go.OpenSpec := { _root_.Go.OpenSpec.ofChange s with cond := some uptoSmall }

/-- 'lineagelaw04.CodecKeyOrder', WHERE WHAT IT READS IS OF BULK AT MOST 1048576: true; the input reads as it did. -/
def codecKeyOrderUptoRow : OpenClaim := { program := "ytngcicclaehpbaadoor", sum := "5eece5bf22a63bb248df2a178089870e2e9c27c83c4786ed59be4d4dc6aded5d", func := "lineage/lineagelaw04.CodecKeyOrder", spec := "codecKeyOrder", inPlace := ["internal/bytealg.Count", "internal/bytealg.IndexByte", "internal/bytealg.Index"], named := ["internal/bytealg.MaxLen", "unicode/utf8.first", "unicode/utf8.acceptRanges"], apart := false, laid := [("unicode/utf8.acceptRanges", laid_unicode_utf8_acceptRanges), ("unicode/utf8.first", laid_unicode_utf8_first)], narrowed := true }
def CodecKeyOrderUptoSaid : Prop := codecKeyOrderUptoRow.holds Tryd.pinned (OpenSpec.upto codecKeyOrderSpec)

/-- 'lineagelaw04.CodecChecksums', WHERE WHAT IT READS IS OF BULK AT MOST 1048576: true; the input reads as it did. -/
def codecChecksumsUptoRow : OpenClaim := { program := "ytngcicclaehpbaadoor", sum := "5eece5bf22a63bb248df2a178089870e2e9c27c83c4786ed59be4d4dc6aded5d", func := "lineage/lineagelaw04.CodecChecksums", spec := "codecChecksums", inPlace := ["internal/bytealg.Count", "internal/bytealg.IndexByte", "internal/bytealg.Index"], named := ["internal/bytealg.MaxLen", "unicode/utf8.first", "unicode/utf8.acceptRanges"], apart := false, laid := [("unicode/utf8.acceptRanges", laid_unicode_utf8_acceptRanges), ("unicode/utf8.first", laid_unicode_utf8_first)], narrowed := true }
def CodecChecksumsUptoSaid : Prop := codecChecksumsUptoRow.holds Tryd.pinned (OpenSpec.upto codecChecksumsSpec)

/-- 'lineagelaw04.CodecSuccessors', WHERE WHAT IT READS IS OF BULK AT MOST 1048576: true; the input reads as it did. -/
def codecSuccessorsUptoRow : OpenClaim := { program := "ytngcicclaehpbaadoor", sum := "5eece5bf22a63bb248df2a178089870e2e9c27c83c4786ed59be4d4dc6aded5d", func := "lineage/lineagelaw04.CodecSuccessors", spec := "codecSuccessors", inPlace := ["internal/bytealg.Count", "internal/bytealg.IndexByte", "internal/bytealg.Index"], named := ["internal/bytealg.MaxLen", "unicode/utf8.first", "unicode/utf8.acceptRanges"], apart := false, laid := [("unicode/utf8.acceptRanges", laid_unicode_utf8_acceptRanges), ("unicode/utf8.first", laid_unicode_utf8_first)], narrowed := true }
def CodecSuccessorsUptoSaid : Prop := codecSuccessorsUptoRow.holds Tryd.pinned (OpenSpec.upto codecSuccessorsSpec)

/-- 'lineagelaw04.CodecUints', WHERE WHAT IT READS IS OF BULK AT MOST 1048576: true; the input reads as it did. -/
def codecUintsUptoRow : OpenClaim := { program := "ytngcicclaehpbaadoor", sum := "5eece5bf22a63bb248df2a178089870e2e9c27c83c4786ed59be4d4dc6aded5d", func := "lineage/lineagelaw04.CodecUints", spec := "codecUints", inPlace := ["internal/bytealg.Count", "internal/bytealg.IndexByte", "internal/bytealg.Index"], named := ["internal/bytealg.MaxLen", "unicode/utf8.first", "unicode/utf8.acceptRanges"], apart := false, laid := [("unicode/utf8.acceptRanges", laid_unicode_utf8_acceptRanges), ("unicode/utf8.first", laid_unicode_utf8_first)], narrowed := true }
def CodecUintsUptoSaid : Prop := codecUintsUptoRow.holds Tryd.pinned (OpenSpec.upto codecUintsSpec)

/-- 'lineagelaw04.CodecKeys', WHERE WHAT IT READS IS OF BULK AT MOST 1048576: true; the input reads as it did. -/
def codecKeysUptoRow : OpenClaim := { program := "ytngcicclaehpbaadoor", sum := "5eece5bf22a63bb248df2a178089870e2e9c27c83c4786ed59be4d4dc6aded5d", func := "lineage/lineagelaw04.CodecKeys", spec := "codecKeys", inPlace := ["internal/bytealg.Count", "internal/bytealg.IndexByte", "internal/bytealg.Index"], named := ["internal/bytealg.MaxLen", "unicode/utf8.first", "unicode/utf8.acceptRanges"], apart := false, laid := [("unicode/utf8.acceptRanges", laid_unicode_utf8_acceptRanges), ("unicode/utf8.first", laid_unicode_utf8_first)], narrowed := true }
def CodecKeysUptoSaid : Prop := codecKeysUptoRow.holds Tryd.pinned (OpenSpec.upto codecKeysSpec)

/-- 'lineagelaw04.CodecStrings', WHERE WHAT IT READS IS OF BULK AT MOST 1048576: true; the input reads as it did. -/
def codecStringsUptoRow : OpenClaim := { program := "ytngcicclaehpbaadoor", sum := "5eece5bf22a63bb248df2a178089870e2e9c27c83c4786ed59be4d4dc6aded5d", func := "lineage/lineagelaw04.CodecStrings", spec := "codecStrings", inPlace := ["internal/bytealg.Count", "internal/bytealg.IndexByte", "internal/bytealg.Index"], named := ["internal/bytealg.MaxLen", "unicode/utf8.first", "unicode/utf8.acceptRanges"], apart := false, laid := [("unicode/utf8.acceptRanges", laid_unicode_utf8_acceptRanges), ("unicode/utf8.first", laid_unicode_utf8_first)], narrowed := true }
def CodecStringsUptoSaid : Prop := codecStringsUptoRow.holds Tryd.pinned (OpenSpec.upto codecStringsSpec)

/-- 'lineagelaw04.CodecDecodes', WHERE WHAT IT READS IS OF BULK AT MOST 1048576: true; the input reads as it did. -/
def codecDecodesUptoRow : OpenClaim := { program := "ytngcicclaehpbaadoor", sum := "5eece5bf22a63bb248df2a178089870e2e9c27c83c4786ed59be4d4dc6aded5d", func := "lineage/lineagelaw04.CodecDecodes", spec := "codecDecodes", inPlace := ["internal/bytealg.Count", "internal/bytealg.IndexByte", "internal/bytealg.Index"], named := ["internal/bytealg.MaxLen", "unicode/utf8.first", "unicode/utf8.acceptRanges"], apart := false, laid := [("unicode/utf8.acceptRanges", laid_unicode_utf8_acceptRanges), ("unicode/utf8.first", laid_unicode_utf8_first)], narrowed := true }
def CodecDecodesUptoSaid : Prop := codecDecodesUptoRow.holds Tryd.pinned (OpenSpec.upto codecDecodesSpec)

/-- 'lineagelaw04.CodecRoundTrip', WHERE WHAT IT READS IS OF BULK AT MOST 1048576: true; the input reads as it did. -/
def codecRoundTripUptoRow : OpenClaim := { program := "ytngcicclaehpbaadoor", sum := "5eece5bf22a63bb248df2a178089870e2e9c27c83c4786ed59be4d4dc6aded5d", func := "lineage/lineagelaw04.CodecRoundTrip", spec := "codecRoundTrip", inPlace := ["internal/bytealg.Count", "internal/bytealg.IndexByte", "internal/bytealg.Index"], named := ["internal/bytealg.MaxLen", "unicode/utf8.first", "unicode/utf8.acceptRanges"], apart := false, laid := [("unicode/utf8.acceptRanges", laid_unicode_utf8_acceptRanges), ("unicode/utf8.first", laid_unicode_utf8_first)], narrowed := true }
def CodecRoundTripUptoSaid : Prop := codecRoundTripUptoRow.holds Tryd.pinned (OpenSpec.upto codecRoundTripSpec)

end Rows
end Go.Proofs.YtngcicclaehpbaaDoor
