/-
  No cell of these rows narrows 'for every input' (looked for: loops, veiled, ifaces, maps, wideKeys, modest, calm, conditions, laid).
  DERIVED. THE GIVEN ROWS OF THIS SEAT. 6 by the template 'for every input the law returns true; each argument reads behind the call as it read before'; 0 by the template 'total and deterministic' (their statements: YtpmlphefdoaohaaTotals.lean).
  GIVEN WITH THE SEED: the statements are not yours to turn. If you find one false, say at which input.
  Laid BY PROGRAM, IN A SANDBOX (cutbox-rows.mjs): the forced cells as the released guide's own fill.sh prints them over the translation 1aaf4bfb2b60965d… (all of the seat's roots in one cut). By AI agents, Wed Nov 11 2026. No macro, syntax, notation, axiom, sorry.
-/
import Derived.Test.YtpmlphefdoaohaaChecked
import GoSem.Claim
import GoSem.ClaimJoined
import GoSem.ClaimMapViews
import Derived.JoinedTies
import Derived.KernelRfl
namespace Go.Proofs.Ytpmlphefdoaohaa
/- THE CELL 'sum', in the pinned program and in every row, IS THE sha256 OF THE DUMP (.gsa) THAT YtpmlphefdoaohaaProg.lean LOADS. Nothing in Lean hashes anything: it is a label: what it is worth is what the hold of that sum in a sandbox is worth. -/
noncomputable def Try.pinned : Pinned := { name := "ytpmlphefdoaohaa", sum := "1aaf4bfb2b60965d0899cacf74fd4e0bb9b3d8bf2f749b80496243cdfd1ff0eb", checked := Try.checked }
namespace Rows
def none {H : Type} : Left H := { results := [], args := [] }

/-- 'lineagelaw22.MvccInterval': WHATEVER THE INPUT: true; the input reads as it did. -/
def mvccIntervalSpec : ChangeSpec := { name := "mvccInterval", fn := fun _ => fun
  | [d1, d2, d3, d4] => { results := [.lit (.bool true)], args := [d1, d2, d3, d4] }
  | _ => none }
def mvccIntervalRow : OpenClaim := { program := "ytpmlphefdoaohaa", sum := "1aaf4bfb2b60965d0899cacf74fd4e0bb9b3d8bf2f749b80496243cdfd1ff0eb", func := "lineage/lineagelaw22.MvccInterval", spec := "mvccInterval", inPlace := ["slices.overlaps[int]"], apart := false }
def MvccIntervalSaid : Prop := mvccIntervalRow.holds Try.pinned (OpenSpec.ofChange mvccIntervalSpec)

/-- ITS FALSE NEIGHBOUR: 'it returns false'. Refute it at one input. -/
def mvccIntervalWrong : ChangeSpec := { name := "mvccInterval", fn := fun _ => fun
  | [d1, d2, d3, d4] => { results := [.lit (.bool false)], args := [d1, d2, d3, d4] }
  | _ => none }
def MvccIntervalWrongFalsely : Prop := mvccIntervalRow.holds Try.pinned (OpenSpec.ofChange mvccIntervalWrong)

/-- 'lineagelaw22.MvccHorizon': WHATEVER THE INPUT: true; the input reads as it did. -/
def mvccHorizonSpec : ChangeSpec := { name := "mvccHorizon", fn := fun _ => fun
  | [d1, d2] => { results := [.lit (.bool true)], args := [d1, d2] }
  | _ => none }
def mvccHorizonRow : OpenClaim := { program := "ytpmlphefdoaohaa", sum := "1aaf4bfb2b60965d0899cacf74fd4e0bb9b3d8bf2f749b80496243cdfd1ff0eb", func := "lineage/lineagelaw22.MvccHorizon", spec := "mvccHorizon", inPlace := ["slices.overlaps[int]"], apart := false }
def MvccHorizonSaid : Prop := mvccHorizonRow.holds Try.pinned (OpenSpec.ofChange mvccHorizonSpec)

/-- ITS FALSE NEIGHBOUR: 'it returns false'. Refute it at one input. -/
def mvccHorizonWrong : ChangeSpec := { name := "mvccHorizon", fn := fun _ => fun
  | [d1, d2] => { results := [.lit (.bool false)], args := [d1, d2] }
  | _ => none }
def MvccHorizonWrongFalsely : Prop := mvccHorizonRow.holds Try.pinned (OpenSpec.ofChange mvccHorizonWrong)

/-- 'lineagelaw22.MvccStability': WHATEVER THE INPUT: true; the input reads as it did. -/
def mvccStabilitySpec : ChangeSpec := { name := "mvccStability", fn := fun _ => fun
  | [d1, d2, d3, d4] => { results := [.lit (.bool true)], args := [d1, d2, d3, d4] }
  | _ => none }
def mvccStabilityRow : OpenClaim := { program := "ytpmlphefdoaohaa", sum := "1aaf4bfb2b60965d0899cacf74fd4e0bb9b3d8bf2f749b80496243cdfd1ff0eb", func := "lineage/lineagelaw22.MvccStability", spec := "mvccStability", inPlace := ["slices.overlaps[int]"], unfollowed := true, recurses := true, apart := false }
def MvccStabilitySaid : Prop := mvccStabilityRow.holds Try.pinned (OpenSpec.ofChange mvccStabilitySpec)

/-- ITS FALSE NEIGHBOUR: 'it returns false'. Refute it at one input. -/
def mvccStabilityWrong : ChangeSpec := { name := "mvccStability", fn := fun _ => fun
  | [d1, d2, d3, d4] => { results := [.lit (.bool false)], args := [d1, d2, d3, d4] }
  | _ => none }
def MvccStabilityWrongFalsely : Prop := mvccStabilityRow.holds Try.pinned (OpenSpec.ofChange mvccStabilityWrong)

/-- 'lineagelaw22.MvccVacuum': WHATEVER THE INPUT: true; the input reads as it did. -/
def mvccVacuumSpec : ChangeSpec := { name := "mvccVacuum", fn := fun _ => fun
  | [d1, d2, d3, d4] => { results := [.lit (.bool true)], args := [d1, d2, d3, d4] }
  | _ => none }
def mvccVacuumRow : OpenClaim := { program := "ytpmlphefdoaohaa", sum := "1aaf4bfb2b60965d0899cacf74fd4e0bb9b3d8bf2f749b80496243cdfd1ff0eb", func := "lineage/lineagelaw22.MvccVacuum", spec := "mvccVacuum", inPlace := ["slices.overlaps[int]"], unfollowed := true, recurses := true, apart := false }
def MvccVacuumSaid : Prop := mvccVacuumRow.holds Try.pinned (OpenSpec.ofChange mvccVacuumSpec)

/-- ITS FALSE NEIGHBOUR: 'it returns false'. Refute it at one input. -/
def mvccVacuumWrong : ChangeSpec := { name := "mvccVacuum", fn := fun _ => fun
  | [d1, d2, d3, d4] => { results := [.lit (.bool false)], args := [d1, d2, d3, d4] }
  | _ => none }
def MvccVacuumWrongFalsely : Prop := mvccVacuumRow.holds Try.pinned (OpenSpec.ofChange mvccVacuumWrong)

/-- 'lineagelaw22.MvccConflicts': WHATEVER THE INPUT: true; the input reads as it did. -/
def mvccConflictsSpec : ChangeSpec := { name := "mvccConflicts", fn := fun _ => fun
  | [d1, d2, d3] => { results := [.lit (.bool true)], args := [d1, d2, d3] }
  | _ => none }
def mvccConflictsRow : OpenClaim := { program := "ytpmlphefdoaohaa", sum := "1aaf4bfb2b60965d0899cacf74fd4e0bb9b3d8bf2f749b80496243cdfd1ff0eb", func := "lineage/lineagelaw22.MvccConflicts", spec := "mvccConflicts", inPlace := ["slices.overlaps[int]"], unfollowed := true, recurses := true, apart := false }
def MvccConflictsSaid : Prop := mvccConflictsRow.holds Try.pinned (OpenSpec.ofChange mvccConflictsSpec)

/-- ITS FALSE NEIGHBOUR: 'it returns false'. Refute it at one input. -/
def mvccConflictsWrong : ChangeSpec := { name := "mvccConflicts", fn := fun _ => fun
  | [d1, d2, d3] => { results := [.lit (.bool false)], args := [d1, d2, d3] }
  | _ => none }
def MvccConflictsWrongFalsely : Prop := mvccConflictsRow.holds Try.pinned (OpenSpec.ofChange mvccConflictsWrong)

/-- 'lineagelaw22.MvccVisibility': WHATEVER THE INPUT: true; the input reads as it did. -/
def mvccVisibilitySpec : ChangeSpec := { name := "mvccVisibility", fn := fun _ => fun
  | [d1, d2, d3] => { results := [.lit (.bool true)], args := [d1, d2, d3] }
  | _ => none }
def mvccVisibilityRow : OpenClaim := { program := "ytpmlphefdoaohaa", sum := "1aaf4bfb2b60965d0899cacf74fd4e0bb9b3d8bf2f749b80496243cdfd1ff0eb", func := "lineage/lineagelaw22.MvccVisibility", spec := "mvccVisibility", inPlace := ["slices.overlaps[int]"], unfollowed := true, recurses := true, apart := false }
def MvccVisibilitySaid : Prop := mvccVisibilityRow.holds Try.pinned (OpenSpec.ofChange mvccVisibilitySpec)

/-- ITS FALSE NEIGHBOUR: 'it returns false'. Refute it at one input. -/
def mvccVisibilityWrong : ChangeSpec := { name := "mvccVisibility", fn := fun _ => fun
  | [d1, d2, d3] => { results := [.lit (.bool false)], args := [d1, d2, d3] }
  | _ => none }
def MvccVisibilityWrongFalsely : Prop := mvccVisibilityRow.holds Try.pinned (OpenSpec.ofChange mvccVisibilityWrong)

/- THE SECOND FORM. 'bulk': how many values and letters a reading holds, each counted each time it is reached (what is shared counts as often as it is met; a slice's spare places count too). A statement '..UptoSaid' is the law's where the arguments, and the package variables that the reading takes, are together of bulk at most 1048576: NARROWER than '..Said'. Prove '..Said' where nothing that the law and all that it calls make is longer than what came in: it says more and counts as full. Else prove '..UptoSaid'. A law counts once. -/
mutual
def uptoBulk {H : Type} : DataW H → Nat
  | .lit (.string bytes) => bytes.length + 1
  | .lit _ => 1
  | .nil => 1
  | .ptr d => uptoBulk d + 1
  | .slice elems spare => uptoBulkAll elems + uptoBulkAll spare + 1
  | .agg parts => uptoBulkAll parts + 1
  | .iface _ d => uptoBulk d + 1
  | .map entries => uptoBulkEntries entries + 1
  | .held _ => 1
def uptoBulkAll {H : Type} : List (DataW H) → Nat
  | [] => 0
  | d :: r => uptoBulk d + uptoBulkAll r
def uptoBulkEntries {H : Type} : List (Lit × DataW H) → Nat
  | [] => 0
  | x :: r => uptoBulkEntry x + uptoBulkEntries r
def uptoBulkEntry {H : Type} : Lit × DataW H → Nat
  | (.string bytes, d) => bytes.length + uptoBulk d + 1
  | (_, d) => uptoBulk d + 1
 end
def uptoSmall : (H : Type) → List (DataW H) → Bool := fun _ ds => decide (uptoBulkAll ds ≤ 1048576)
def OpenSpec.upto (s : _root_.Go.ChangeSpec) : _root_.Go.OpenSpec := { _root_.Go.OpenSpec.ofChange s with cond := some uptoSmall }

/-- 'lineagelaw22.MvccInterval', WHERE WHAT IT READS IS OF BULK AT MOST 1048576: true; the input reads as it did. -/
def mvccIntervalUptoRow : OpenClaim := { program := "ytpmlphefdoaohaa", sum := "1aaf4bfb2b60965d0899cacf74fd4e0bb9b3d8bf2f749b80496243cdfd1ff0eb", func := "lineage/lineagelaw22.MvccInterval", spec := "mvccInterval", inPlace := ["slices.overlaps[int]"], apart := false, narrowed := true }
def MvccIntervalUptoSaid : Prop := mvccIntervalUptoRow.holds Try.pinned (OpenSpec.upto mvccIntervalSpec)

/-- 'lineagelaw22.MvccHorizon', WHERE WHAT IT READS IS OF BULK AT MOST 1048576: true; the input reads as it did. -/
def mvccHorizonUptoRow : OpenClaim := { program := "ytpmlphefdoaohaa", sum := "1aaf4bfb2b60965d0899cacf74fd4e0bb9b3d8bf2f749b80496243cdfd1ff0eb", func := "lineage/lineagelaw22.MvccHorizon", spec := "mvccHorizon", inPlace := ["slices.overlaps[int]"], apart := false, narrowed := true }
def MvccHorizonUptoSaid : Prop := mvccHorizonUptoRow.holds Try.pinned (OpenSpec.upto mvccHorizonSpec)

/-- 'lineagelaw22.MvccStability', WHERE WHAT IT READS IS OF BULK AT MOST 1048576: true; the input reads as it did. -/
def mvccStabilityUptoRow : OpenClaim := { program := "ytpmlphefdoaohaa", sum := "1aaf4bfb2b60965d0899cacf74fd4e0bb9b3d8bf2f749b80496243cdfd1ff0eb", func := "lineage/lineagelaw22.MvccStability", spec := "mvccStability", inPlace := ["slices.overlaps[int]"], unfollowed := true, recurses := true, apart := false, narrowed := true }
def MvccStabilityUptoSaid : Prop := mvccStabilityUptoRow.holds Try.pinned (OpenSpec.upto mvccStabilitySpec)

/-- 'lineagelaw22.MvccVacuum', WHERE WHAT IT READS IS OF BULK AT MOST 1048576: true; the input reads as it did. -/
def mvccVacuumUptoRow : OpenClaim := { program := "ytpmlphefdoaohaa", sum := "1aaf4bfb2b60965d0899cacf74fd4e0bb9b3d8bf2f749b80496243cdfd1ff0eb", func := "lineage/lineagelaw22.MvccVacuum", spec := "mvccVacuum", inPlace := ["slices.overlaps[int]"], unfollowed := true, recurses := true, apart := false, narrowed := true }
def MvccVacuumUptoSaid : Prop := mvccVacuumUptoRow.holds Try.pinned (OpenSpec.upto mvccVacuumSpec)

/-- 'lineagelaw22.MvccConflicts', WHERE WHAT IT READS IS OF BULK AT MOST 1048576: true; the input reads as it did. -/
def mvccConflictsUptoRow : OpenClaim := { program := "ytpmlphefdoaohaa", sum := "1aaf4bfb2b60965d0899cacf74fd4e0bb9b3d8bf2f749b80496243cdfd1ff0eb", func := "lineage/lineagelaw22.MvccConflicts", spec := "mvccConflicts", inPlace := ["slices.overlaps[int]"], unfollowed := true, recurses := true, apart := false, narrowed := true }
def MvccConflictsUptoSaid : Prop := mvccConflictsUptoRow.holds Try.pinned (OpenSpec.upto mvccConflictsSpec)

/-- 'lineagelaw22.MvccVisibility', WHERE WHAT IT READS IS OF BULK AT MOST 1048576: true; the input reads as it did. -/
def mvccVisibilityUptoRow : OpenClaim := { program := "ytpmlphefdoaohaa", sum := "1aaf4bfb2b60965d0899cacf74fd4e0bb9b3d8bf2f749b80496243cdfd1ff0eb", func := "lineage/lineagelaw22.MvccVisibility", spec := "mvccVisibility", inPlace := ["slices.overlaps[int]"], unfollowed := true, recurses := true, apart := false, narrowed := true }
def MvccVisibilityUptoSaid : Prop := mvccVisibilityUptoRow.holds Try.pinned (OpenSpec.upto mvccVisibilitySpec)

end Rows
end Go.Proofs.Ytpmlphefdoaohaa
