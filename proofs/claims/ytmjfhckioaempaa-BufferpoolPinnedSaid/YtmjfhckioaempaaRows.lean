/-
  No cell of these rows narrows 'for every input' (looked for: loops, veiled, ifaces, maps, wideKeys, modest, calm, conditions, laid).
  DERIVED. THE GIVEN ROWS OF THIS SEAT. 7 by the template 'for every input the law returns true; each argument reads behind the call as it read before'; 0 by the template 'total and deterministic' (their statements: YtmjfhckioaempaaTotals.lean).
  GIVEN WITH THE SEED: the statements are not yours to turn. If you find one false, say at which input.
  Laid BY PROGRAM, IN A SANDBOX (cutbox-rows.mjs): the forced cells as the released guide's own fill.sh prints them over the translation 35e817dab39ff783… (all of the seat's roots in one cut). By AI agents, Wed Nov 11 2026. No macro, syntax, notation, axiom, sorry.
-/
import Derived.Test.YtmjfhckioaempaaChecked
import GoSem.Claim
import GoSem.ClaimJoined
import GoSem.ClaimMapViews
import Derived.JoinedTies
import Derived.KernelRfl
namespace Go.Proofs.Ytmjfhckioaempaa
/- THE CELL 'sum', in the pinned program and in every row, IS THE sha256 OF THE DUMP (.gsa) THAT YtmjfhckioaempaaProg.lean LOADS. Nothing in Lean hashes anything: it is a label: what it is worth is what the hold of that sum in a sandbox is worth. -/
noncomputable def Try.pinned : Pinned := { name := "ytmjfhckioaempaa", sum := "35e817dab39ff7839876fb8c03740e98f3d1d8961f41f7008ac5a6bab91b3e83", checked := Try.checked }
namespace Rows
def none {H : Type} : Left H := { results := [], args := [] }

/-- 'lineagelaw16.BufferpoolNews': WHATEVER THE INPUT: true; the input reads as it did. -/
def bufferpoolNewsSpec : ChangeSpec := { name := "bufferpoolNews", fn := fun _ => fun
  | [d] => { results := [.lit (.bool true)], args := [d] }
  | _ => none }
def bufferpoolNewsRow : OpenClaim := { program := "ytmjfhckioaempaa", sum := "35e817dab39ff7839876fb8c03740e98f3d1d8961f41f7008ac5a6bab91b3e83", func := "lineage/lineagelaw16.BufferpoolNews", spec := "bufferpoolNews", unfollowed := true, recurses := true, apart := false }
def BufferpoolNewsSaid : Prop := bufferpoolNewsRow.holds Try.pinned (OpenSpec.ofChange bufferpoolNewsSpec)

/-- ITS FALSE NEIGHBOUR: 'it returns false'. Refute it at one input. -/
def bufferpoolNewsWrong : ChangeSpec := { name := "bufferpoolNews", fn := fun _ => fun
  | [d] => { results := [.lit (.bool false)], args := [d] }
  | _ => none }
def BufferpoolNewsWrongFalsely : Prop := bufferpoolNewsRow.holds Try.pinned (OpenSpec.ofChange bufferpoolNewsWrong)

/-- 'lineagelaw16.BufferpoolContents': WHATEVER THE INPUT: true; the input reads as it did. -/
def bufferpoolContentsSpec : ChangeSpec := { name := "bufferpoolContents", fn := fun _ => fun
  | [d1, d2, d3] => { results := [.lit (.bool true)], args := [d1, d2, d3] }
  | _ => none }
def bufferpoolContentsRow : OpenClaim := { program := "ytmjfhckioaempaa", sum := "35e817dab39ff7839876fb8c03740e98f3d1d8961f41f7008ac5a6bab91b3e83", func := "lineage/lineagelaw16.BufferpoolContents", spec := "bufferpoolContents", unfollowed := true, recurses := true, apart := false }
def BufferpoolContentsSaid : Prop := bufferpoolContentsRow.holds Try.pinned (OpenSpec.ofChange bufferpoolContentsSpec)

/-- ITS FALSE NEIGHBOUR: 'it returns false'. Refute it at one input. -/
def bufferpoolContentsWrong : ChangeSpec := { name := "bufferpoolContents", fn := fun _ => fun
  | [d1, d2, d3] => { results := [.lit (.bool false)], args := [d1, d2, d3] }
  | _ => none }
def BufferpoolContentsWrongFalsely : Prop := bufferpoolContentsRow.holds Try.pinned (OpenSpec.ofChange bufferpoolContentsWrong)

/-- 'lineagelaw16.BufferpoolReads': WHATEVER THE INPUT: true; the input reads as it did. -/
def bufferpoolReadsSpec : ChangeSpec := { name := "bufferpoolReads", fn := fun _ => fun
  | [d1, d2, d3] => { results := [.lit (.bool true)], args := [d1, d2, d3] }
  | _ => none }
def bufferpoolReadsRow : OpenClaim := { program := "ytmjfhckioaempaa", sum := "35e817dab39ff7839876fb8c03740e98f3d1d8961f41f7008ac5a6bab91b3e83", func := "lineage/lineagelaw16.BufferpoolReads", spec := "bufferpoolReads", unfollowed := true, recurses := true, apart := false }
def BufferpoolReadsSaid : Prop := bufferpoolReadsRow.holds Try.pinned (OpenSpec.ofChange bufferpoolReadsSpec)

/-- ITS FALSE NEIGHBOUR: 'it returns false'. Refute it at one input. -/
def bufferpoolReadsWrong : ChangeSpec := { name := "bufferpoolReads", fn := fun _ => fun
  | [d1, d2, d3] => { results := [.lit (.bool false)], args := [d1, d2, d3] }
  | _ => none }
def BufferpoolReadsWrongFalsely : Prop := bufferpoolReadsRow.holds Try.pinned (OpenSpec.ofChange bufferpoolReadsWrong)

/-- 'lineagelaw16.BufferpoolFlushes': WHATEVER THE INPUT: true; the input reads as it did. -/
def bufferpoolFlushesSpec : ChangeSpec := { name := "bufferpoolFlushes", fn := fun _ => fun
  | [d1, d2, d3] => { results := [.lit (.bool true)], args := [d1, d2, d3] }
  | _ => none }
def bufferpoolFlushesRow : OpenClaim := { program := "ytmjfhckioaempaa", sum := "35e817dab39ff7839876fb8c03740e98f3d1d8961f41f7008ac5a6bab91b3e83", func := "lineage/lineagelaw16.BufferpoolFlushes", spec := "bufferpoolFlushes", unfollowed := true, recurses := true, apart := false }
def BufferpoolFlushesSaid : Prop := bufferpoolFlushesRow.holds Try.pinned (OpenSpec.ofChange bufferpoolFlushesSpec)

/-- ITS FALSE NEIGHBOUR: 'it returns false'. Refute it at one input. -/
def bufferpoolFlushesWrong : ChangeSpec := { name := "bufferpoolFlushes", fn := fun _ => fun
  | [d1, d2, d3] => { results := [.lit (.bool false)], args := [d1, d2, d3] }
  | _ => none }
def BufferpoolFlushesWrongFalsely : Prop := bufferpoolFlushesRow.holds Try.pinned (OpenSpec.ofChange bufferpoolFlushesWrong)

/-- 'lineagelaw16.BufferpoolCalls': WHATEVER THE INPUT: true; the input reads as it did. -/
def bufferpoolCallsSpec : ChangeSpec := { name := "bufferpoolCalls", fn := fun _ => fun
  | [d1, d2, d3] => { results := [.lit (.bool true)], args := [d1, d2, d3] }
  | _ => none }
def bufferpoolCallsRow : OpenClaim := { program := "ytmjfhckioaempaa", sum := "35e817dab39ff7839876fb8c03740e98f3d1d8961f41f7008ac5a6bab91b3e83", func := "lineage/lineagelaw16.BufferpoolCalls", spec := "bufferpoolCalls", unfollowed := true, recurses := true, apart := false }
def BufferpoolCallsSaid : Prop := bufferpoolCallsRow.holds Try.pinned (OpenSpec.ofChange bufferpoolCallsSpec)

/-- ITS FALSE NEIGHBOUR: 'it returns false'. Refute it at one input. -/
def bufferpoolCallsWrong : ChangeSpec := { name := "bufferpoolCalls", fn := fun _ => fun
  | [d1, d2, d3] => { results := [.lit (.bool false)], args := [d1, d2, d3] }
  | _ => none }
def BufferpoolCallsWrongFalsely : Prop := bufferpoolCallsRow.holds Try.pinned (OpenSpec.ofChange bufferpoolCallsWrong)

/-- 'lineagelaw16.BufferpoolPinned': WHATEVER THE INPUT: true; the input reads as it did. -/
def bufferpoolPinnedSpec : ChangeSpec := { name := "bufferpoolPinned", fn := fun _ => fun
  | [d1, d2, d3] => { results := [.lit (.bool true)], args := [d1, d2, d3] }
  | _ => none }
def bufferpoolPinnedRow : OpenClaim := { program := "ytmjfhckioaempaa", sum := "35e817dab39ff7839876fb8c03740e98f3d1d8961f41f7008ac5a6bab91b3e83", func := "lineage/lineagelaw16.BufferpoolPinned", spec := "bufferpoolPinned", unfollowed := true, recurses := true, apart := false }
def BufferpoolPinnedSaid : Prop := bufferpoolPinnedRow.holds Try.pinned (OpenSpec.ofChange bufferpoolPinnedSpec)

/-- ITS FALSE NEIGHBOUR: 'it returns false'. Refute it at one input. -/
def bufferpoolPinnedWrong : ChangeSpec := { name := "bufferpoolPinned", fn := fun _ => fun
  | [d1, d2, d3] => { results := [.lit (.bool false)], args := [d1, d2, d3] }
  | _ => none }
def BufferpoolPinnedWrongFalsely : Prop := bufferpoolPinnedRow.holds Try.pinned (OpenSpec.ofChange bufferpoolPinnedWrong)

/-- 'lineagelaw16.BufferpoolSurvives': WHATEVER THE INPUT: true; the input reads as it did. -/
def bufferpoolSurvivesSpec : ChangeSpec := { name := "bufferpoolSurvives", fn := fun _ => fun
  | [d1, d2, d3, d4] => { results := [.lit (.bool true)], args := [d1, d2, d3, d4] }
  | _ => none }
def bufferpoolSurvivesRow : OpenClaim := { program := "ytmjfhckioaempaa", sum := "35e817dab39ff7839876fb8c03740e98f3d1d8961f41f7008ac5a6bab91b3e83", func := "lineage/lineagelaw16.BufferpoolSurvives", spec := "bufferpoolSurvives", unfollowed := true, recurses := true, apart := false }
def BufferpoolSurvivesSaid : Prop := bufferpoolSurvivesRow.holds Try.pinned (OpenSpec.ofChange bufferpoolSurvivesSpec)

/-- ITS FALSE NEIGHBOUR: 'it returns false'. Refute it at one input. -/
def bufferpoolSurvivesWrong : ChangeSpec := { name := "bufferpoolSurvives", fn := fun _ => fun
  | [d1, d2, d3, d4] => { results := [.lit (.bool false)], args := [d1, d2, d3, d4] }
  | _ => none }
def BufferpoolSurvivesWrongFalsely : Prop := bufferpoolSurvivesRow.holds Try.pinned (OpenSpec.ofChange bufferpoolSurvivesWrong)

/- THE SECOND FORM. 'bulk': how many values and letters a reading holds, each counted each time it is reached (what is shared counts as often as it is met; a slice's spare places count too). A statement '..UptoSaid' is the law's where the arguments, and the package variables that the reading takes, are together of bulk at most 1048576: NARROWER than '..Said'. Prove '..Said' where nothing that the law and all that it calls make is longer than what came in: it says more and counts as full. Else prove '..UptoSaid'. A law counts once. -/
mutual
def uptoBulk {H : Type} : DataW H → Nat
  | .lit (.string bytes) => bytes.length + 1
  | .lit _ => 1
  | .nil => 1
  | .ptr d => uptoBulk d + 1
  | .slice elems spare => uptoBulkAll elems + uptoBulkAll spare + 1
  | .agg parts => uptoBulkAll parts + 1
  | .iface _ d => uptoBulk d + 1
  | .map entries => uptoBulkEntries entries + 1
  | .held _ => 1
def uptoBulkAll {H : Type} : List (DataW H) → Nat
  | [] => 0
  | d :: r => uptoBulk d + uptoBulkAll r
def uptoBulkEntries {H : Type} : List (Lit × DataW H) → Nat
  | [] => 0
  | x :: r => uptoBulkEntry x + uptoBulkEntries r
def uptoBulkEntry {H : Type} : Lit × DataW H → Nat
  | (.string bytes, d) => bytes.length + uptoBulk d + 1
  | (_, d) => uptoBulk d + 1
 end
def uptoSmall : (H : Type) → List (DataW H) → Bool := fun _ ds => decide (uptoBulkAll ds ≤ 1048576)
def OpenSpec.upto (s : _root_.Go.ChangeSpec) : _root_.Go.OpenSpec := { _root_.Go.OpenSpec.ofChange s with cond := some uptoSmall }

/-- 'lineagelaw16.BufferpoolNews', WHERE WHAT IT READS IS OF BULK AT MOST 1048576: true; the input reads as it did. -/
def bufferpoolNewsUptoRow : OpenClaim := { program := "ytmjfhckioaempaa", sum := "35e817dab39ff7839876fb8c03740e98f3d1d8961f41f7008ac5a6bab91b3e83", func := "lineage/lineagelaw16.BufferpoolNews", spec := "bufferpoolNews", unfollowed := true, recurses := true, apart := false, narrowed := true }
def BufferpoolNewsUptoSaid : Prop := bufferpoolNewsUptoRow.holds Try.pinned (OpenSpec.upto bufferpoolNewsSpec)

/-- 'lineagelaw16.BufferpoolContents', WHERE WHAT IT READS IS OF BULK AT MOST 1048576: true; the input reads as it did. -/
def bufferpoolContentsUptoRow : OpenClaim := { program := "ytmjfhckioaempaa", sum := "35e817dab39ff7839876fb8c03740e98f3d1d8961f41f7008ac5a6bab91b3e83", func := "lineage/lineagelaw16.BufferpoolContents", spec := "bufferpoolContents", unfollowed := true, recurses := true, apart := false, narrowed := true }
def BufferpoolContentsUptoSaid : Prop := bufferpoolContentsUptoRow.holds Try.pinned (OpenSpec.upto bufferpoolContentsSpec)

/-- 'lineagelaw16.BufferpoolReads', WHERE WHAT IT READS IS OF BULK AT MOST 1048576: true; the input reads as it did. -/
def bufferpoolReadsUptoRow : OpenClaim := { program := "ytmjfhckioaempaa", sum := "35e817dab39ff7839876fb8c03740e98f3d1d8961f41f7008ac5a6bab91b3e83", func := "lineage/lineagelaw16.BufferpoolReads", spec := "bufferpoolReads", unfollowed := true, recurses := true, apart := false, narrowed := true }
def BufferpoolReadsUptoSaid : Prop := bufferpoolReadsUptoRow.holds Try.pinned (OpenSpec.upto bufferpoolReadsSpec)

/-- 'lineagelaw16.BufferpoolFlushes', WHERE WHAT IT READS IS OF BULK AT MOST 1048576: true; the input reads as it did. -/
def bufferpoolFlushesUptoRow : OpenClaim := { program := "ytmjfhckioaempaa", sum := "35e817dab39ff7839876fb8c03740e98f3d1d8961f41f7008ac5a6bab91b3e83", func := "lineage/lineagelaw16.BufferpoolFlushes", spec := "bufferpoolFlushes", unfollowed := true, recurses := true, apart := false, narrowed := true }
def BufferpoolFlushesUptoSaid : Prop := bufferpoolFlushesUptoRow.holds Try.pinned (OpenSpec.upto bufferpoolFlushesSpec)

/-- 'lineagelaw16.BufferpoolCalls', WHERE WHAT IT READS IS OF BULK AT MOST 1048576: true; the input reads as it did. -/
def bufferpoolCallsUptoRow : OpenClaim := { program := "ytmjfhckioaempaa", sum := "35e817dab39ff7839876fb8c03740e98f3d1d8961f41f7008ac5a6bab91b3e83", func := "lineage/lineagelaw16.BufferpoolCalls", spec := "bufferpoolCalls", unfollowed := true, recurses := true, apart := false, narrowed := true }
def BufferpoolCallsUptoSaid : Prop := bufferpoolCallsUptoRow.holds Try.pinned (OpenSpec.upto bufferpoolCallsSpec)

/-- 'lineagelaw16.BufferpoolPinned', WHERE WHAT IT READS IS OF BULK AT MOST 1048576: true; the input reads as it did. -/
def bufferpoolPinnedUptoRow : OpenClaim := { program := "ytmjfhckioaempaa", sum := "35e817dab39ff7839876fb8c03740e98f3d1d8961f41f7008ac5a6bab91b3e83", func := "lineage/lineagelaw16.BufferpoolPinned", spec := "bufferpoolPinned", unfollowed := true, recurses := true, apart := false, narrowed := true }
def BufferpoolPinnedUptoSaid : Prop := bufferpoolPinnedUptoRow.holds Try.pinned (OpenSpec.upto bufferpoolPinnedSpec)

/-- 'lineagelaw16.BufferpoolSurvives', WHERE WHAT IT READS IS OF BULK AT MOST 1048576: true; the input reads as it did. -/
def bufferpoolSurvivesUptoRow : OpenClaim := { program := "ytmjfhckioaempaa", sum := "35e817dab39ff7839876fb8c03740e98f3d1d8961f41f7008ac5a6bab91b3e83", func := "lineage/lineagelaw16.BufferpoolSurvives", spec := "bufferpoolSurvives", unfollowed := true, recurses := true, apart := false, narrowed := true }
def BufferpoolSurvivesUptoSaid : Prop := bufferpoolSurvivesUptoRow.holds Try.pinned (OpenSpec.upto bufferpoolSurvivesSpec)

end Rows
end Go.Proofs.Ytmjfhckioaempaa
