/-
  No cell of these rows narrows 'for every input' (looked for: loops, veiled, ifaces, maps, wideKeys, modest, calm, conditions, laid).
  DERIVED. THE GIVEN ROWS OF THIS SEAT. 2 by the template 'for every input the law returns true; each argument reads behind the call as it read before'; 0 by the template 'total and deterministic' (their statements: YtcaolnmpldbkjaaGreatTotals.lean).
  GIVEN WITH THE SEED: the statements are not yours to turn. If you find one false, say at which input.
  Laid BY PROGRAM, IN A SANDBOX (cutbox-rows.mjs): the forced cells as the released guide's own fill.sh prints them over the translation c933fcfaf88ed0ff… (all of the seat's roots in one cut). By AI agents, Wed Nov 11 2026. No macro, syntax, notation, axiom, sorry.
-/
import Derived.Test.YtcaolnmpldbkjaaGreatChecked
import GoSem.Claim
import GoSem.ClaimJoined
import GoSem.ClaimMapViews
import Derived.JoinedTies
import Derived.KernelRfl
namespace Go.Proofs.YtcaolnmpldbkjaaGreat
/- THE CELL 'sum', in the pinned program and in every row, IS THE sha256 OF THE DUMP (.gsa) THAT YtcaolnmpldbkjaaGreatProg.lean LOADS. Nothing in Lean hashes anything: it is a label: what it is worth is what the hold of that sum in a sandbox is worth. -/
noncomputable def Tryz.pinned : Pinned := { name := "ytcaolnmpldbkjaagreat", sum := "c933fcfaf88ed0ff073d49ca7ddb5ba0595ed9eb1caf065e5f6ace2a5bd1a2fa", checked := Tryz.checked }
namespace Rows
def none {H : Type} : Left H := { results := [], args := [] }

/-- 'lineagelaw47.TransactionRows': WHATEVER THE INPUT: true; the input reads as it did. -/
def transactionRowsSpec : ChangeSpec := { name := "transactionRows", fn := fun _ => fun
  | [d1, d2, d3, d4, d5] => { results := [.lit (.bool true)], args := [d1, d2, d3, d4, d5] }
  | _ => none }
def transactionRowsRow : OpenClaim := { program := "ytcaolnmpldbkjaagreat", sum := "c933fcfaf88ed0ff073d49ca7ddb5ba0595ed9eb1caf065e5f6ace2a5bd1a2fa", func := "lineage/lineagelaw47.TransactionRows", spec := "transactionRows", inPlace := ["internal/bytealg.abigen_runtime_cmpstring"], unfollowed := true, recurses := true, plainKeys := false, apart := false }
def TransactionRowsSaid : Prop := transactionRowsRow.holds Tryz.pinned (OpenSpec.ofChange transactionRowsSpec)

/-- ITS FALSE NEIGHBOUR: 'it returns false'. Refute it at one input. -/
def transactionRowsWrong : ChangeSpec := { name := "transactionRows", fn := fun _ => fun
  | [d1, d2, d3, d4, d5] => { results := [.lit (.bool false)], args := [d1, d2, d3, d4, d5] }
  | _ => none }
def TransactionRowsWrongFalsely : Prop := transactionRowsRow.holds Tryz.pinned (OpenSpec.ofChange transactionRowsWrong)

/-- 'lineagelaw47.TransactionMemory': WHATEVER THE INPUT: true; the input reads as it did. -/
def transactionMemorySpec : ChangeSpec := { name := "transactionMemory", fn := fun _ => fun
  | [d1, d2] => { results := [.lit (.bool true)], args := [d1, d2] }
  | _ => none }
def transactionMemoryRow : OpenClaim := { program := "ytcaolnmpldbkjaagreat", sum := "c933fcfaf88ed0ff073d49ca7ddb5ba0595ed9eb1caf065e5f6ace2a5bd1a2fa", func := "lineage/lineagelaw47.TransactionMemory", spec := "transactionMemory", inPlace := ["internal/bytealg.abigen_runtime_cmpstring"], unfollowed := true, recurses := true, plainKeys := false, apart := false }
def TransactionMemorySaid : Prop := transactionMemoryRow.holds Tryz.pinned (OpenSpec.ofChange transactionMemorySpec)

/-- ITS FALSE NEIGHBOUR: 'it returns false'. Refute it at one input. -/
def transactionMemoryWrong : ChangeSpec := { name := "transactionMemory", fn := fun _ => fun
  | [d1, d2] => { results := [.lit (.bool false)], args := [d1, d2] }
  | _ => none }
def TransactionMemoryWrongFalsely : Prop := transactionMemoryRow.holds Tryz.pinned (OpenSpec.ofChange transactionMemoryWrong)

/- THE SECOND FORM. 'bulk': how many values and letters a reading holds, each counted each time it is reached (what is shared counts as often as it is met; a slice's spare places count too). A statement '..UptoSaid' is the law's where the arguments, and the package variables that the reading takes, are together of bulk at most 1048576: NARROWER than '..Said'. Prove '..Said' where nothing that the law and all that it calls make is longer than what came in: it says more and counts as full. Else prove '..UptoSaid'. A law counts once. -/
mutual
def uptoBulk {H : Type} : DataW H → Nat
  | .lit (.string bytes) => bytes.length + 1
  | .lit _ => 1
  | .nil => 1
  | .ptr d => uptoBulk d + 1
  | .slice elems spare => uptoBulkAll elems + uptoBulkAll spare + 1
  | .agg parts => uptoBulkAll parts + 1
  | .iface _ d => uptoBulk d + 1
  | .map entries => uptoBulkEntries entries + 1
  | .held _ => 1
def uptoBulkAll {H : Type} : List (DataW H) → Nat
  | [] => 0
  | d :: r => uptoBulk d + uptoBulkAll r
def uptoBulkEntries {H : Type} : List (Lit × DataW H) → Nat
  | [] => 0
  | x :: r => uptoBulkEntry x + uptoBulkEntries r
def uptoBulkEntry {H : Type} : Lit × DataW H → Nat
  | (.string bytes, d) => bytes.length + uptoBulk d + 1
  | (_, d) => uptoBulk d + 1
 end
def uptoSmall : (H : Type) → List (DataW H) → Bool := fun _ ds => decide (uptoBulkAll ds ≤ 1048576)
def OpenSpec.upto (s : _root_.Go.ChangeSpec) : _root_.Go.OpenSpec := { _root_.Go.OpenSpec.ofChange s with cond := some uptoSmall }

/-- 'lineagelaw47.TransactionRows', WHERE WHAT IT READS IS OF BULK AT MOST 1048576: true; the input reads as it did. -/
def transactionRowsUptoRow : OpenClaim := { program := "ytcaolnmpldbkjaagreat", sum := "c933fcfaf88ed0ff073d49ca7ddb5ba0595ed9eb1caf065e5f6ace2a5bd1a2fa", func := "lineage/lineagelaw47.TransactionRows", spec := "transactionRows", inPlace := ["internal/bytealg.abigen_runtime_cmpstring"], unfollowed := true, recurses := true, plainKeys := false, apart := false, narrowed := true }
def TransactionRowsUptoSaid : Prop := transactionRowsUptoRow.holds Tryz.pinned (OpenSpec.upto transactionRowsSpec)

/-- 'lineagelaw47.TransactionMemory', WHERE WHAT IT READS IS OF BULK AT MOST 1048576: true; the input reads as it did. -/
def transactionMemoryUptoRow : OpenClaim := { program := "ytcaolnmpldbkjaagreat", sum := "c933fcfaf88ed0ff073d49ca7ddb5ba0595ed9eb1caf065e5f6ace2a5bd1a2fa", func := "lineage/lineagelaw47.TransactionMemory", spec := "transactionMemory", inPlace := ["internal/bytealg.abigen_runtime_cmpstring"], unfollowed := true, recurses := true, plainKeys := false, apart := false, narrowed := true }
def TransactionMemoryUptoSaid : Prop := transactionMemoryUptoRow.holds Tryz.pinned (OpenSpec.upto transactionMemorySpec)

end Rows
end Go.Proofs.YtcaolnmpldbkjaaGreat
