/-
  No cell of these rows narrows 'for every input' (looked for: loops, veiled, ifaces, maps, wideKeys, modest, calm, conditions, laid).
  DERIVED. THE GIVEN ROWS OF THIS SEAT. 8 by the template 'for every input the law returns true; each argument reads behind the call as it read before'; 0 by the template 'total and deterministic' (their statements: YtagebnmealiedaaTotals.lean).
  GIVEN WITH THE SEED: the statements are not yours to turn. If you find one false, say at which input.
  Laid BY PROGRAM, IN A SANDBOX (cutbox-rows.mjs): the forced cells as the released guide's own fill.sh prints them over the translation e18e3f337d450a2b… (all of the seat's roots in one cut). By AI agents, Wed Nov 11 2026. No macro, syntax, notation, axiom, sorry.
-/
import Derived.Test.YtagebnmealiedaaChecked
import GoSem.Claim
import GoSem.ClaimJoined
import GoSem.ClaimMapViews
import Derived.JoinedTies
import Derived.KernelRfl
namespace Go.Proofs.Ytagebnmealiedaa
/- THE CELL 'sum', in the pinned program and in every row, IS THE sha256 OF THE DUMP (.gsa) THAT YtagebnmealiedaaProg.lean LOADS. Nothing in Lean hashes anything: it is a label: what it is worth is what the hold of that sum in a sandbox is worth. -/
noncomputable def Try.pinned : Pinned := { name := "ytagebnmealiedaa", sum := "e18e3f337d450a2b0f361e146a0ec28afeece9008c98a92ccf5e57a1ae73ea5d", checked := Try.checked }
namespace Rows
def none {H : Type} : Left H := { results := [], args := [] }

/-- 'lineagelaw07.AggregateApply': WHATEVER THE INPUT: true; the input reads as it did. -/
def aggregateApplySpec : ChangeSpec := { name := "aggregateApply", fn := fun _ => fun
  | [d1, d2] => { results := [.lit (.bool true)], args := [d1, d2] }
  | _ => none }
def aggregateApplyRow : OpenClaim := { program := "ytagebnmealiedaa", sum := "e18e3f337d450a2b0f361e146a0ec28afeece9008c98a92ccf5e57a1ae73ea5d", func := "lineage/lineagelaw07.AggregateApply", spec := "aggregateApply", inPlace := ["internal/bytealg.abigen_runtime_cmpstring"], unfollowed := true, recurses := true, apart := false }
def AggregateApplySaid : Prop := aggregateApplyRow.holds Try.pinned (OpenSpec.ofChange aggregateApplySpec)

/-- ITS FALSE NEIGHBOUR: 'it returns false'. Refute it at one input. -/
def aggregateApplyWrong : ChangeSpec := { name := "aggregateApply", fn := fun _ => fun
  | [d1, d2] => { results := [.lit (.bool false)], args := [d1, d2] }
  | _ => none }
def AggregateApplyWrongFalsely : Prop := aggregateApplyRow.holds Try.pinned (OpenSpec.ofChange aggregateApplyWrong)

/-- 'lineagelaw07.AggregateOrder': WHATEVER THE INPUT: true; the input reads as it did. -/
def aggregateOrderSpec : ChangeSpec := { name := "aggregateOrder", fn := fun _ => fun
  | [d1, d2, d3, d4] => { results := [.lit (.bool true)], args := [d1, d2, d3, d4] }
  | _ => none }
def aggregateOrderRow : OpenClaim := { program := "ytagebnmealiedaa", sum := "e18e3f337d450a2b0f361e146a0ec28afeece9008c98a92ccf5e57a1ae73ea5d", func := "lineage/lineagelaw07.AggregateOrder", spec := "aggregateOrder", inPlace := ["internal/bytealg.abigen_runtime_cmpstring"], unfollowed := true, recurses := true, apart := false }
def AggregateOrderSaid : Prop := aggregateOrderRow.holds Try.pinned (OpenSpec.ofChange aggregateOrderSpec)

/-- ITS FALSE NEIGHBOUR: 'it returns false'. Refute it at one input. -/
def aggregateOrderWrong : ChangeSpec := { name := "aggregateOrder", fn := fun _ => fun
  | [d1, d2, d3, d4] => { results := [.lit (.bool false)], args := [d1, d2, d3, d4] }
  | _ => none }
def AggregateOrderWrongFalsely : Prop := aggregateOrderRow.holds Try.pinned (OpenSpec.ofChange aggregateOrderWrong)

/-- 'lineagelaw07.AggregateCopies': WHATEVER THE INPUT: true; the input reads as it did. -/
def aggregateCopiesSpec : ChangeSpec := { name := "aggregateCopies", fn := fun _ => fun
  | [d1, d2] => { results := [.lit (.bool true)], args := [d1, d2] }
  | _ => none }
def aggregateCopiesRow : OpenClaim := { program := "ytagebnmealiedaa", sum := "e18e3f337d450a2b0f361e146a0ec28afeece9008c98a92ccf5e57a1ae73ea5d", func := "lineage/lineagelaw07.AggregateCopies", spec := "aggregateCopies", inPlace := ["internal/bytealg.abigen_runtime_cmpstring"], unfollowed := true, recurses := true, apart := false }
def AggregateCopiesSaid : Prop := aggregateCopiesRow.holds Try.pinned (OpenSpec.ofChange aggregateCopiesSpec)

/-- ITS FALSE NEIGHBOUR: 'it returns false'. Refute it at one input. -/
def aggregateCopiesWrong : ChangeSpec := { name := "aggregateCopies", fn := fun _ => fun
  | [d1, d2] => { results := [.lit (.bool false)], args := [d1, d2] }
  | _ => none }
def AggregateCopiesWrongFalsely : Prop := aggregateCopiesRow.holds Try.pinned (OpenSpec.ofChange aggregateCopiesWrong)

/-- 'lineagelaw07.AggregateExtend': WHATEVER THE INPUT: true; the input reads as it did. -/
def aggregateExtendSpec : ChangeSpec := { name := "aggregateExtend", fn := fun _ => fun
  | [d1, d2, d3, d4, d5] => { results := [.lit (.bool true)], args := [d1, d2, d3, d4, d5] }
  | _ => none }
def aggregateExtendRow : OpenClaim := { program := "ytagebnmealiedaa", sum := "e18e3f337d450a2b0f361e146a0ec28afeece9008c98a92ccf5e57a1ae73ea5d", func := "lineage/lineagelaw07.AggregateExtend", spec := "aggregateExtend", inPlace := ["internal/bytealg.abigen_runtime_cmpstring"], unfollowed := true, recurses := true, apart := false }
def AggregateExtendSaid : Prop := aggregateExtendRow.holds Try.pinned (OpenSpec.ofChange aggregateExtendSpec)

/-- ITS FALSE NEIGHBOUR: 'it returns false'. Refute it at one input. -/
def aggregateExtendWrong : ChangeSpec := { name := "aggregateExtend", fn := fun _ => fun
  | [d1, d2, d3, d4, d5] => { results := [.lit (.bool false)], args := [d1, d2, d3, d4, d5] }
  | _ => none }
def AggregateExtendWrongFalsely : Prop := aggregateExtendRow.holds Try.pinned (OpenSpec.ofChange aggregateExtendWrong)

/-- 'lineagelaw07.AggregateMatches': WHATEVER THE INPUT: true; the input reads as it did. -/
def aggregateMatchesSpec : ChangeSpec := { name := "aggregateMatches", fn := fun _ => fun
  | [d1, d2, d3] => { results := [.lit (.bool true)], args := [d1, d2, d3] }
  | _ => none }
def aggregateMatchesRow : OpenClaim := { program := "ytagebnmealiedaa", sum := "e18e3f337d450a2b0f361e146a0ec28afeece9008c98a92ccf5e57a1ae73ea5d", func := "lineage/lineagelaw07.AggregateMatches", spec := "aggregateMatches", inPlace := ["internal/bytealg.abigen_runtime_cmpstring"], unfollowed := true, recurses := true, apart := false }
def AggregateMatchesSaid : Prop := aggregateMatchesRow.holds Try.pinned (OpenSpec.ofChange aggregateMatchesSpec)

/-- ITS FALSE NEIGHBOUR: 'it returns false'. Refute it at one input. -/
def aggregateMatchesWrong : ChangeSpec := { name := "aggregateMatches", fn := fun _ => fun
  | [d1, d2, d3] => { results := [.lit (.bool false)], args := [d1, d2, d3] }
  | _ => none }
def AggregateMatchesWrongFalsely : Prop := aggregateMatchesRow.holds Try.pinned (OpenSpec.ofChange aggregateMatchesWrong)

/-- 'lineagelaw07.AggregateTypes': WHATEVER THE INPUT: true; the input reads as it did. -/
def aggregateTypesSpec : ChangeSpec := { name := "aggregateTypes", fn := fun _ => fun
  | [d1, d2, d3] => { results := [.lit (.bool true)], args := [d1, d2, d3] }
  | _ => none }
def aggregateTypesRow : OpenClaim := { program := "ytagebnmealiedaa", sum := "e18e3f337d450a2b0f361e146a0ec28afeece9008c98a92ccf5e57a1ae73ea5d", func := "lineage/lineagelaw07.AggregateTypes", spec := "aggregateTypes", inPlace := ["internal/bytealg.abigen_runtime_cmpstring"], unfollowed := true, recurses := true, apart := false }
def AggregateTypesSaid : Prop := aggregateTypesRow.holds Try.pinned (OpenSpec.ofChange aggregateTypesSpec)

/-- ITS FALSE NEIGHBOUR: 'it returns false'. Refute it at one input. -/
def aggregateTypesWrong : ChangeSpec := { name := "aggregateTypes", fn := fun _ => fun
  | [d1, d2, d3] => { results := [.lit (.bool false)], args := [d1, d2, d3] }
  | _ => none }
def AggregateTypesWrongFalsely : Prop := aggregateTypesRow.holds Try.pinned (OpenSpec.ofChange aggregateTypesWrong)

/-- 'lineagelaw07.AggregateHolds': WHATEVER THE INPUT: true; the input reads as it did. -/
def aggregateHoldsSpec : ChangeSpec := { name := "aggregateHolds", fn := fun _ => fun
  | [d1, d2, d3, d4] => { results := [.lit (.bool true)], args := [d1, d2, d3, d4] }
  | _ => none }
def aggregateHoldsRow : OpenClaim := { program := "ytagebnmealiedaa", sum := "e18e3f337d450a2b0f361e146a0ec28afeece9008c98a92ccf5e57a1ae73ea5d", func := "lineage/lineagelaw07.AggregateHolds", spec := "aggregateHolds", inPlace := ["internal/bytealg.abigen_runtime_cmpstring"], unfollowed := true, recurses := true, apart := false }
def AggregateHoldsSaid : Prop := aggregateHoldsRow.holds Try.pinned (OpenSpec.ofChange aggregateHoldsSpec)

/-- ITS FALSE NEIGHBOUR: 'it returns false'. Refute it at one input. -/
def aggregateHoldsWrong : ChangeSpec := { name := "aggregateHolds", fn := fun _ => fun
  | [d1, d2, d3, d4] => { results := [.lit (.bool false)], args := [d1, d2, d3, d4] }
  | _ => none }
def AggregateHoldsWrongFalsely : Prop := aggregateHoldsRow.holds Try.pinned (OpenSpec.ofChange aggregateHoldsWrong)

/-- 'lineagelaw07.AggregateMerge': WHATEVER THE INPUT: true; the input reads as it did. -/
def aggregateMergeSpec : ChangeSpec := { name := "aggregateMerge", fn := fun _ => fun
  | [d] => { results := [.lit (.bool true)], args := [d] }
  | _ => none }
def aggregateMergeRow : OpenClaim := { program := "ytagebnmealiedaa", sum := "e18e3f337d450a2b0f361e146a0ec28afeece9008c98a92ccf5e57a1ae73ea5d", func := "lineage/lineagelaw07.AggregateMerge", spec := "aggregateMerge", inPlace := ["internal/bytealg.abigen_runtime_cmpstring", "slices.overlaps[lineage/api.Counted]"], unfollowed := true, recurses := true, apart := false }
def AggregateMergeSaid : Prop := aggregateMergeRow.holds Try.pinned (OpenSpec.ofChange aggregateMergeSpec)

/-- ITS FALSE NEIGHBOUR: 'it returns false'. Refute it at one input. -/
def aggregateMergeWrong : ChangeSpec := { name := "aggregateMerge", fn := fun _ => fun
  | [d] => { results := [.lit (.bool false)], args := [d] }
  | _ => none }
def AggregateMergeWrongFalsely : Prop := aggregateMergeRow.holds Try.pinned (OpenSpec.ofChange aggregateMergeWrong)

/- THE SECOND FORM. 'bulk': how many values and letters a reading holds, each counted each time it is reached (what is shared counts as often as it is met; a slice's spare places count too). A statement '..UptoSaid' is the law's where the arguments, and the package variables that the reading takes, are together of bulk at most 1048576: NARROWER than '..Said'. Prove '..Said' where nothing that the law and all that it calls make is longer than what came in: it says more and counts as full. Else prove '..UptoSaid'. A law counts once. -/
mutual
def uptoBulk {H : Type} : DataW H → Nat
  | .lit (.string bytes) => bytes.length + 1
  | .lit _ => 1
  | .nil => 1
  | .ptr d => uptoBulk d + 1
  | .slice elems spare => uptoBulkAll elems + uptoBulkAll spare + 1
  | .agg parts => uptoBulkAll parts + 1
  | .iface _ d => uptoBulk d + 1
  | .map entries => uptoBulkEntries entries + 1
  | .held _ => 1
def uptoBulkAll {H : Type} : List (DataW H) → Nat
  | [] => 0
  | d :: r => uptoBulk d + uptoBulkAll r
def uptoBulkEntries {H : Type} : List (Lit × DataW H) → Nat
  | [] => 0
  | x :: r => uptoBulkEntry x + uptoBulkEntries r
def uptoBulkEntry {H : Type} : Lit × DataW H → Nat
  | (.string bytes, d) => bytes.length + uptoBulk d + 1
  | (_, d) => uptoBulk d + 1
 end
def uptoSmall : (H : Type) → List (DataW H) → Bool := fun _ ds => decide (uptoBulkAll ds ≤ 1048576)
def OpenSpec.upto (s : _root_.Go.ChangeSpec) : _root_.Go.OpenSpec := { _root_.Go.OpenSpec.ofChange s with cond := some uptoSmall }

/-- 'lineagelaw07.AggregateApply', WHERE WHAT IT READS IS OF BULK AT MOST 1048576: true; the input reads as it did. -/
def aggregateApplyUptoRow : OpenClaim := { program := "ytagebnmealiedaa", sum := "e18e3f337d450a2b0f361e146a0ec28afeece9008c98a92ccf5e57a1ae73ea5d", func := "lineage/lineagelaw07.AggregateApply", spec := "aggregateApply", inPlace := ["internal/bytealg.abigen_runtime_cmpstring"], unfollowed := true, recurses := true, apart := false, narrowed := true }
def AggregateApplyUptoSaid : Prop := aggregateApplyUptoRow.holds Try.pinned (OpenSpec.upto aggregateApplySpec)

/-- 'lineagelaw07.AggregateOrder', WHERE WHAT IT READS IS OF BULK AT MOST 1048576: true; the input reads as it did. -/
def aggregateOrderUptoRow : OpenClaim := { program := "ytagebnmealiedaa", sum := "e18e3f337d450a2b0f361e146a0ec28afeece9008c98a92ccf5e57a1ae73ea5d", func := "lineage/lineagelaw07.AggregateOrder", spec := "aggregateOrder", inPlace := ["internal/bytealg.abigen_runtime_cmpstring"], unfollowed := true, recurses := true, apart := false, narrowed := true }
def AggregateOrderUptoSaid : Prop := aggregateOrderUptoRow.holds Try.pinned (OpenSpec.upto aggregateOrderSpec)

/-- 'lineagelaw07.AggregateCopies', WHERE WHAT IT READS IS OF BULK AT MOST 1048576: true; the input reads as it did. -/
def aggregateCopiesUptoRow : OpenClaim := { program := "ytagebnmealiedaa", sum := "e18e3f337d450a2b0f361e146a0ec28afeece9008c98a92ccf5e57a1ae73ea5d", func := "lineage/lineagelaw07.AggregateCopies", spec := "aggregateCopies", inPlace := ["internal/bytealg.abigen_runtime_cmpstring"], unfollowed := true, recurses := true, apart := false, narrowed := true }
def AggregateCopiesUptoSaid : Prop := aggregateCopiesUptoRow.holds Try.pinned (OpenSpec.upto aggregateCopiesSpec)

/-- 'lineagelaw07.AggregateExtend', WHERE WHAT IT READS IS OF BULK AT MOST 1048576: true; the input reads as it did. -/
def aggregateExtendUptoRow : OpenClaim := { program := "ytagebnmealiedaa", sum := "e18e3f337d450a2b0f361e146a0ec28afeece9008c98a92ccf5e57a1ae73ea5d", func := "lineage/lineagelaw07.AggregateExtend", spec := "aggregateExtend", inPlace := ["internal/bytealg.abigen_runtime_cmpstring"], unfollowed := true, recurses := true, apart := false, narrowed := true }
def AggregateExtendUptoSaid : Prop := aggregateExtendUptoRow.holds Try.pinned (OpenSpec.upto aggregateExtendSpec)

/-- 'lineagelaw07.AggregateMatches', WHERE WHAT IT READS IS OF BULK AT MOST 1048576: true; the input reads as it did. -/
def aggregateMatchesUptoRow : OpenClaim := { program := "ytagebnmealiedaa", sum := "e18e3f337d450a2b0f361e146a0ec28afeece9008c98a92ccf5e57a1ae73ea5d", func := "lineage/lineagelaw07.AggregateMatches", spec := "aggregateMatches", inPlace := ["internal/bytealg.abigen_runtime_cmpstring"], unfollowed := true, recurses := true, apart := false, narrowed := true }
def AggregateMatchesUptoSaid : Prop := aggregateMatchesUptoRow.holds Try.pinned (OpenSpec.upto aggregateMatchesSpec)

/-- 'lineagelaw07.AggregateTypes', WHERE WHAT IT READS IS OF BULK AT MOST 1048576: true; the input reads as it did. -/
def aggregateTypesUptoRow : OpenClaim := { program := "ytagebnmealiedaa", sum := "e18e3f337d450a2b0f361e146a0ec28afeece9008c98a92ccf5e57a1ae73ea5d", func := "lineage/lineagelaw07.AggregateTypes", spec := "aggregateTypes", inPlace := ["internal/bytealg.abigen_runtime_cmpstring"], unfollowed := true, recurses := true, apart := false, narrowed := true }
def AggregateTypesUptoSaid : Prop := aggregateTypesUptoRow.holds Try.pinned (OpenSpec.upto aggregateTypesSpec)

/-- 'lineagelaw07.AggregateHolds', WHERE WHAT IT READS IS OF BULK AT MOST 1048576: true; the input reads as it did. -/
def aggregateHoldsUptoRow : OpenClaim := { program := "ytagebnmealiedaa", sum := "e18e3f337d450a2b0f361e146a0ec28afeece9008c98a92ccf5e57a1ae73ea5d", func := "lineage/lineagelaw07.AggregateHolds", spec := "aggregateHolds", inPlace := ["internal/bytealg.abigen_runtime_cmpstring"], unfollowed := true, recurses := true, apart := false, narrowed := true }
def AggregateHoldsUptoSaid : Prop := aggregateHoldsUptoRow.holds Try.pinned (OpenSpec.upto aggregateHoldsSpec)

/-- 'lineagelaw07.AggregateMerge', WHERE WHAT IT READS IS OF BULK AT MOST 1048576: true; the input reads as it did. -/
def aggregateMergeUptoRow : OpenClaim := { program := "ytagebnmealiedaa", sum := "e18e3f337d450a2b0f361e146a0ec28afeece9008c98a92ccf5e57a1ae73ea5d", func := "lineage/lineagelaw07.AggregateMerge", spec := "aggregateMerge", inPlace := ["internal/bytealg.abigen_runtime_cmpstring", "slices.overlaps[lineage/api.Counted]"], unfollowed := true, recurses := true, apart := false, narrowed := true }
def AggregateMergeUptoSaid : Prop := aggregateMergeUptoRow.holds Try.pinned (OpenSpec.upto aggregateMergeSpec)

end Rows
end Go.Proofs.Ytagebnmealiedaa
