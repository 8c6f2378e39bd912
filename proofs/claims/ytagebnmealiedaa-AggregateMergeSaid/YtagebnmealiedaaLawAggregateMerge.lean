/- The row of lineagelaw.AggregateMerge: for every input the law returns true and the input reads as it did. Proved by the second reading of the code (Ax texts). -/
import Derived.Test.YtagebnmealiedaaRows
import Derived.Test.YtagebnmealiedaaQU
import Derived.Test.YtagebnmealiedaaAx29
import Derived.WalkKit
import Derived.ProofKit
import Derived.OpenShut
import Derived.ShutString
import Derived.ChangeOld
import Derived.Below
import Derived.SizedLaws
namespace Go.Proofs.Ytagebnmealiedaa.aggregateMerge
open Go Go.ChangeShapes Go.WideShapes Go.ChangeAt Go.RowKit Go.Proofs.YtagebnmealiedaaA
set_option linter.unusedVariables false
theorem own : ownKnob Try.prog.godebug = none := by kernel_rfl
theorem laidOut : laidOutB Try.prog = true := by kernel_rfl
theorem opn2 : Opn Try.prog 2 (.int .i64) := Opn.int Try.underlying2
theorem opn3 : Opn Try.prog 3 (.int .i64) := Opn.int Try.underlying3
theorem opn9 : Opn Try.prog 9 .str := Opn.str Try.underlying9
theorem opn26 : Opn Try.prog 26 (.cat (.int .i64) (.cat (.int .i64) .str)) := Opn.struct Try.underlying26 (sz := 3) (by kernel_rfl) (OpnF.cons rfl (s1 := 1) (s2 := 2) (by kernel_rfl) opn3 (OpnF.cons rfl (s1 := 1) (s2 := 1) (by kernel_rfl) opn2 (OpnF.one rfl (sz := 1) (by kernel_rfl) opn9)))
theorem opn32 : Opn Try.prog 32 (.cat (.int .i64) (.cat (.int .i64) (.cat (.int .i64) .str))) := Opn.struct Try.underlying32 (sz := 4) (by kernel_rfl) (OpnF.cons rfl (s1 := 1) (s2 := 3) (by kernel_rfl) opn2 (OpnF.one rfl (sz := 3) (by kernel_rfl) opn26))
theorem opn22 : Opn Try.prog 22 (.slice 4 40 (.cat (.int .i64) (.cat (.int .i64) (.cat (.int .i64) .str)))) := Opn.slice Try.underlying22 (by kernel_rfl) (by decide) (by kernel_rfl) opn32
set_option maxRecDepth 100000 in
theorem lifted (os : Os) (started : os.Started) (H : Type) (enc : TypeId × Value → H) :
    ReturnsInHanded {} Try.checked os 10 .any (Rows.aggregateMergeSpec.pre6 enc Try.prog Try.f10 Rows.aggregateMergeRow.domain false) (Rows.aggregateMergeSpec.post enc Try.prog Try.f10 false true false false) := by
  refine returnsInHanded_of_change_sized (C := Try.checked) own started (by kernel_rfl) Try.func10
    (ChangeSpec.witness6 (enc := enc) (C := Try.checked) false ⟨#[], #[.slice none 0 0], []⟩ 8 (by kernel_rfl) (by kernel_rfl) (by kernel_rfl) (by kernel_rfl)) ?_
  intro W base args ds gs before hval0 hW hcnd hsz0 _
  have hsz : (DataW.weightsEach Try.prog (Try.f10.params.toList ++ Rows.aggregateMergeSpec.plain.varTypes Try.prog) (ds ++ gs)).all (· ≤ reachBytes) = true := hsz0
  have hval : ∀ (j : Nat) t v, Try.f10.params[j]? = some t → args[j]? = some v → Value.okWide Try.prog W .any base t v := hval0
  have hW' := hW
  obtain ⟨p, q, hA0, hV, rfl, hfz, hnd⟩ := hW
  have hA : DataW.TrodAll enc Try.prog W 0 (fun _ => true) true Try.f10.params.toList args.toList ds p := hA0
  rw [Try.params10] at hA hval hsz
  obtain ⟨v0, vs0, d0, ds0, p0, q0, hargs, rfl, rfl, h0, r0⟩ := trodAll_cons hA
  obtain ⟨rfl, rfl, rfl⟩ := trodAll_nil r0
  obtain rfl : args = #[v0] := by cases args; simp_all
  obtain ⟨rfl, rfl⟩ := trodVars_none hV
  have s_ : (DataW.weightsEach Try.prog [22] [d0]).all (· ≤ reachBytes) = true := hsz
  obtain ⟨s0, s_⟩ := sized_cons' s_
  have k0 := h0
  have lt0 : ∀ x ∈ p0, x.block < W.heap.size := by obtain ⟨m, hm⟩ := k0; exact DataW.trod_lt m _ _ _ hm
  obtain ⟨ι0, g0, u0, c0, sb0, ex0, rv0, av0⟩ := Opn.argL Try.underlying22 rfl opn22 (hval 0 22 v0 rfl rfl) h0 s0 (by obtain ⟨e0, e1, e2, rfl⟩ := okWide_slice Try.underlying22 (hval 0 22 v0 rfl rfl); rfl) (Cx.nil W)
  clear hA0 hval0 hsz0 hsz
  have hw := row10 (h := g0) u0 av0
  refine (calls_of (Checked.mixed Try.checked) (by exact named) (hk_sound) Try.func10 rfl hw c0.rel (by exact RVs.cons  rv0 (.nil _)) c0.free c0.ro).mono fun e W' ⟨v, hh, x, κ, hv, he, hx, hst, bel⟩ => ?_
  subst he
  subst hv
  obtain rfl := hx.bool_inv
  exact ⟨_, rfl, _, _, _, [], _, [], hW', trodAll_mk1 (shut_bool Try.underlying4 _), (trodAll_cons_mk (Below.trod laidOut (by kernel_rfl) (of_decide_eq_true (by kernel_rfl)) k0 bel lt0) trodAll_mk0), rfl, bel.frame _, fun h => by cases h⟩
theorem over : Rows.aggregateMergeRow.holds Try.pinned (OpenSpec.ofChange Rows.aggregateMergeSpec) :=
  OpenClaim.holds_of_wide 10 Try.f10 rfl rfl rfl rfl rfl rfl rfl ⟨rfl, rfl, rfl, rfl, rfl⟩ rfl rfl rfl rfl rfl (by kernel_rfl) Try.func10 (by kernel_rfl)
    (of_decide_eq_true (by kernel_rfl)) (by unfold Func.isWrapper; first | (rw [if_pos (by decide +kernel)]; kernel_rfl) | (rw [if_neg (by decide +kernel)]; exact ⟨rfl, rfl⟩))
    (fun os started H enc _ => lifted os started H enc)
theorem proved0 : Rows.AggregateMergeSaid := over
theorem proved : Rows.AggregateMergeSaid := proved0
#print axioms proved
end Go.Proofs.Ytagebnmealiedaa.aggregateMerge
namespace Go.Proofs.Ytagebnmealiedaa
/-- The row, under a short name, for the claim. -/
theorem aggregateMerge_holds : Rows.AggregateMergeSaid := aggregateMerge.proved
end Go.Proofs.Ytagebnmealiedaa
