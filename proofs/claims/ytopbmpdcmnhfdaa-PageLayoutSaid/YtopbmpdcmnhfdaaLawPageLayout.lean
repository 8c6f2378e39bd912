-- Written by wip/hp.py, a program of this session, over the kit's printer; texts proved by hand are put among the printed ones.
import Derived.Test.YtopbmpdcmnhfdaaRows
import Derived.Test.YtopbmpdcmnhfdaaPx5
import Derived.Test.YtopbmpdcmnhfdaaStmtPageLayout
import Derived.Test.YtopbmpdcmnhfdaaPurePageLayout
import Derived.Test.YtopbmpdcmnhfdaaOWords
import Derived.WalkKit
import Derived.ProofKit
import Derived.OpenShut
import Derived.ShutString
import Derived.ChangeOld
import Derived.Below
import Derived.SizedLaws
namespace Go.Proofs.Ytopbmpdcmnhfdaa.pageLayout
open Go.ChangeShapes Go.WideShapes Go.ChangeAt Go.RowKit Go.Proofs.Ytopbmpdcmnhfdaa.P Go.Proofs.YtopbmpdcmnhfdaaH Go.Proofs.Ytopbmpdcmnhfdaa.StmtPageLayout Go.Proofs.YtopbmpdcmnhfdaaW.PrintWords Go.Proofs.YtopbmpdcmnhfdaaW.PrintLast Go.Proofs.YtopbmpdcmnhfdaaW.PrintMore
open Go.ChangeMaps (open_string shut_string)
set_option linter.unusedVariables false
theorem own : ownKnob Try.prog.godebug = none := by kernel_rfl
theorem laidOut : laidOutB Try.prog = true := by kernel_rfl
theorem open_T3 : Opens Try.prog 3 (Kd.int .i64) (fun y : Int => (Lit.int .i64 y).wf = true) :=
  Opens.int Try.underlying3 (by kernel_rfl)
theorem open_T5 : Opens Try.prog 5 (Kd.int .u8) (fun y : Int => (Lit.int .u8 y).wf = true) :=
  Opens.int Try.underlying5 (by kernel_rfl)
theorem open_T25 : Opens Try.prog 25 (Kd.slice 5 (Kd.int .u8)) (fun ys : List Int => ys.length ≤ maxLen ∧ ys.length * 1 ≤ 140737488351232 ∧ ∀ y ∈ ys, (fun y : Int => (Lit.int .u8 y).wf = true) y) :=
  Opens.slice Try.underlying25 (by kernel_rfl) (B := 1) (by kernel_rfl) open_T5
theorem open_T22 : Opens Try.prog 22 (Kd.slice 25 (Kd.slice 5 (Kd.int .u8))) (fun ys : List (List Int) => ys.length ≤ maxLen ∧ ys.length * 24 ≤ 140737488351232 ∧ ∀ y ∈ ys, (fun ys : List Int => ys.length ≤ maxLen ∧ ys.length * 1 ≤ 140737488351232 ∧ ∀ y ∈ ys, (fun y : Int => (Lit.int .u8 y).wf = true) y) y) :=
  Opens.slice Try.underlying22 (by kernel_rfl) (B := 24) (by kernel_rfl) open_T25
set_option maxRecDepth 100000 in
theorem lifted (os : Os) (started : os.Started) (H : Type) (enc : TypeId × Value → H) :
    ReturnsInHanded {} Try.checked os 3 .any (Rows.pageLayoutSpec.pre6 enc Try.prog Try.f3 Rows.pageLayoutRow.domain false) (Rows.pageLayoutSpec.post enc Try.prog Try.f3 false true false false) := by
  refine returnsInHanded_of_change_sized (C := Try.checked) own started (by kernel_rfl) Try.func3
    (ChangeSpec.witness6 (enc := enc) (C := Try.checked) false ⟨#[], #[.int .i64 0, .slice none 0 0], []⟩ 8 (by kernel_rfl) (by kernel_rfl) (by kernel_rfl) (by kernel_rfl)) ?_
  intro W base args ds gs before hval0 hW hcnd hsz0 _
  have hsz : (DataW.weightsEach Try.prog (Try.f3.params.toList ++ Rows.pageLayoutSpec.plain.varTypes Try.prog) (ds ++ gs)).all (· ≤ reachBytes) = true := hsz0
  have hval : ∀ (j : Nat) t v, Try.f3.params[j]? = some t → args[j]? = some v → Value.okWide Try.prog W .any base t v := hval0
  have hW' := hW
  obtain ⟨p, q, hA0, hV, rfl, hfz, hnd⟩ := hW
  have hA : DataW.TrodAll enc Try.prog W 0 (fun _ => true) true Try.f3.params.toList args.toList ds p := hA0
  rw [Try.params3] at hA hval hsz
  obtain ⟨v0, vs0, d0, ds0, p0, q0, hargs, rfl, rfl, h0, r0⟩ := trodAll_cons hA
  obtain ⟨v1, vs1, d1, ds1, p1, q1, rfl, rfl, rfl, h1, r1⟩ := trodAll_cons r0
  obtain ⟨rfl, rfl, rfl⟩ := trodAll_nil r1
  obtain rfl : args = #[v0, v1] := by cases args; simp_all
  obtain ⟨rfl, rfl⟩ := trodVars_none hV
  have s_ : (DataW.weightsEach Try.prog [3, 22] [d0, d1]).all (· ≤ reachBytes) = true := hsz
  obtain ⟨s0, s_⟩ := sized_cons s_
  have k0 := h0
  have lt0 : ∀ x ∈ p0, x.block < W.heap.size := by obtain ⟨m, hm⟩ := k0; exact DataW.trod_lt m _ _ _ hm
  obtain ⟨a0, K0, G0⟩ := Opens.arg open_T3 h0 s0
  obtain ⟨n0, rfl⟩ := okWide_int Try.underlying3 (hval 0 3 v0 rfl rfl)
  obtain rfl := arg_int K0
  obtain ⟨s1, s_⟩ := sized_cons s_
  have k1 := h1
  have lt1 : ∀ x ∈ p1, x.block < W.heap.size := by obtain ⟨m, hm⟩ := k1; exact DataW.trod_lt m _ _ _ hm
  obtain ⟨l1, K1, G1⟩ := Opens.arg open_T22 h1 s1
  obtain ⟨A1, len1, c1, rfl⟩ := okWide_slice Try.underlying22 (hval 1 22 v1 rfl rfl)
  obtain ⟨rfl, hc1, hC1⟩ := arg_slice K1
  clear hA0 hval0 hsz0 hsz
  obtain ⟨k, hf⟩ := Pure.PageLayout n0 l1 G0 G1
  refine (lineagelaw14_PageLayout.calls k n0 _ _ l1 true W hC1 hc1 hf).mono fun e W' ⟨he, bel0⟩ => ?_
  subst he
  have bel : Below W.heap.size W W' := bel0
  exact ⟨_, rfl, _, _, _, [], _, [], hW', trodAll_mk1 (shut_bool Try.underlying4 _), (trodAll_cons_mk (Below.trod laidOut (by kernel_rfl) (of_decide_eq_true (by kernel_rfl)) k0 bel lt0) (trodAll_cons_mk (Below.trod laidOut (by kernel_rfl) (of_decide_eq_true (by kernel_rfl)) k1 bel lt1) trodAll_mk0)), rfl, bel.frame _, fun h => by cases h⟩
theorem over : Rows.pageLayoutRow.holds Try.pinned (OpenSpec.ofChange Rows.pageLayoutSpec) :=
  OpenClaim.holds_of_wide 3 Try.f3 rfl rfl rfl rfl rfl rfl rfl ⟨rfl, rfl, rfl, rfl, rfl⟩ rfl rfl rfl rfl rfl (by kernel_rfl) Try.func3 (by kernel_rfl)
    (of_decide_eq_true (by kernel_rfl)) (by unfold Func.isWrapper; first | (rw [if_pos (by decide +kernel)]; kernel_rfl) | (rw [if_neg (by decide +kernel)]; exact ⟨rfl, rfl⟩))
    (fun os started H enc _ => lifted os started H enc)
theorem proved : Rows.PageLayoutSaid := over
#print axioms proved
end Go.Proofs.Ytopbmpdcmnhfdaa.pageLayout
namespace Go.Proofs.Ytopbmpdcmnhfdaa
/-- The row, under a short name, for the claim. -/
theorem pageLayout_holds : Rows.PageLayoutSaid := pageLayout.proved
end Go.Proofs.Ytopbmpdcmnhfdaa
