/- The row of lineagelaw.BufferpoolPinned: for every input the law returns true and the input reads as it did. Proved by the second reading of the code (Ax texts). -/
import Derived.Test.YtmjfhckioaempaaRows
import Derived.Test.YtmjfhckioaempaaPQ
import Derived.Test.YtmjfhckioaempaaAx29
import Derived.WalkKit
import Derived.ProofKit
import Derived.OpenShut
import Derived.ShutString
import Derived.ChangeOld
import Derived.Below
import Derived.SizedLaws
namespace Go.Proofs.Ytmjfhckioaempaa.bufferpoolPinned
open Go Go.ChangeShapes Go.WideShapes Go.ChangeAt Go.RowKit Go.Proofs.YtmjfhckioaempaaA
set_option linter.unusedVariables false
theorem own : ownKnob Try.prog.godebug = none := by kernel_rfl
theorem laidOut : laidOutB Try.prog = true := by kernel_rfl
theorem opn3 : Opn Try.prog 3 (.int .i64) := Opn.int Try.underlying3
theorem opn5 : Opn Try.prog 5 (.int .u8) := Opn.int Try.underlying5
theorem opn44 : Opn Try.prog 44 (.cat (.int .i64) (.cat (.int .i64) (.cat (.int .i64) (.int .u8)))) := Opn.struct Try.underlying44 (sz := 4) (by kernel_rfl) (OpnF.cons rfl (s1 := 1) (s2 := 3) (by kernel_rfl) opn3 (OpnF.cons rfl (s1 := 1) (s2 := 2) (by kernel_rfl) opn3 (OpnF.cons rfl (s1 := 1) (s2 := 1) (by kernel_rfl) opn3 (OpnF.one rfl (sz := 1) (by kernel_rfl) opn5))))
theorem opn34 : Opn Try.prog 34 (.slice 4 32 (.cat (.int .i64) (.cat (.int .i64) (.cat (.int .i64) (.int .u8))))) := Opn.slice Try.underlying34 (by kernel_rfl) (by decide) (by kernel_rfl) opn44
set_option maxRecDepth 100000 in
theorem lifted (os : Os) (started : os.Started) (H : Type) (enc : TypeId × Value → H) :
    ReturnsInHanded {} Try.checked os 8 .any (Rows.bufferpoolPinnedSpec.pre6 enc Try.prog Try.f8 Rows.bufferpoolPinnedRow.domain false) (Rows.bufferpoolPinnedSpec.post enc Try.prog Try.f8 false true false false) := by
  refine returnsInHanded_of_change_sized (C := Try.checked) own started (by kernel_rfl) Try.func8
    (ChangeSpec.witness6 (enc := enc) (C := Try.checked) false ⟨#[], #[.int .i64 0, .int .i64 0, .slice none 0 0], []⟩ 8 (by kernel_rfl) (by kernel_rfl) (by kernel_rfl) (by kernel_rfl)) ?_
  intro W base args ds gs before hval0 hW hcnd hsz0 _
  have hsz : (DataW.weightsEach Try.prog (Try.f8.params.toList ++ Rows.bufferpoolPinnedSpec.plain.varTypes Try.prog) (ds ++ gs)).all (· ≤ reachBytes) = true := hsz0
  have hval : ∀ (j : Nat) t v, Try.f8.params[j]? = some t → args[j]? = some v → Value.okWide Try.prog W .any base t v := hval0
  have hW' := hW
  obtain ⟨p, q, hA0, hV, rfl, hfz, hnd⟩ := hW
  have hA : DataW.TrodAll enc Try.prog W 0 (fun _ => true) true Try.f8.params.toList args.toList ds p := hA0
  rw [Try.params8] at hA hval hsz
  obtain ⟨v0, vs0, d0, ds0, p0, q0, hargs, rfl, rfl, h0, r0⟩ := trodAll_cons hA
  obtain ⟨v1, vs1, d1, ds1, p1, q1, rfl, rfl, rfl, h1, r1⟩ := trodAll_cons r0
  obtain ⟨v2, vs2, d2, ds2, p2, q2, rfl, rfl, rfl, h2, r2⟩ := trodAll_cons r1
  obtain ⟨rfl, rfl, rfl⟩ := trodAll_nil r2
  obtain rfl : args = #[v0, v1, v2] := by cases args; simp_all
  obtain ⟨rfl, rfl⟩ := trodVars_none hV
  have s_ : (DataW.weightsEach Try.prog [3, 3, 34] [d0, d1, d2]).all (· ≤ reachBytes) = true := hsz
  obtain ⟨s0, s_⟩ := sized_cons' s_
  have k0 := h0
  have lt0 : ∀ x ∈ p0, x.block < W.heap.size := by obtain ⟨m, hm⟩ := k0; exact DataW.trod_lt m _ _ _ hm
  obtain ⟨ι0, g0, u0, c0, sb0, ex0, rv0, av0⟩ := Opn.argL Try.underlying3 rfl opn3 (hval 0 3 v0 rfl rfl) h0 s0 (by obtain ⟨e0, rfl⟩ := okWide_int Try.underlying3 (hval 0 3 v0 rfl rfl); rfl) (Cx.nil W)
  obtain ⟨s1, s_⟩ := sized_cons' s_
  have k1 := h1
  have lt1 : ∀ x ∈ p1, x.block < W.heap.size := by obtain ⟨m, hm⟩ := k1; exact DataW.trod_lt m _ _ _ hm
  obtain ⟨ι1, g1, u1, c1, sb1, ex1, rv1, av1⟩ := Opn.argL Try.underlying3 rfl opn3 (hval 1 3 v1 rfl rfl) h1 s1 (by obtain ⟨e0, rfl⟩ := okWide_int Try.underlying3 (hval 1 3 v1 rfl rfl); rfl) c0
  obtain ⟨s2, s_⟩ := sized_cons' s_
  have k2 := h2
  have lt2 : ∀ x ∈ p2, x.block < W.heap.size := by obtain ⟨m, hm⟩ := k2; exact DataW.trod_lt m _ _ _ hm
  obtain ⟨ι2, g2, u2, c2, sb2, ex2, rv2, av2⟩ := Opn.argL Try.underlying34 rfl opn34 (hval 2 34 v2 rfl rfl) h2 s2 (by obtain ⟨e0, e1, e2, rfl⟩ := okWide_slice Try.underlying34 (hval 2 34 v2 rfl rfl); rfl) c1
  clear hA0 hval0 hsz0 hsz
  have hw := row8 (h := g2) u0 u1 u2 ((av0.ext ex1).ext ex2) (av1.ext ex2) av2
  refine (hw.calls c2.rel (by exact RVs.cons ((rv0.mono sb1).mono sb2) (.cons (rv1.mono sb2) (.cons rv2 (.nil _)))) c2.free c2.ro).mono fun e W' ⟨v, hh, x, κ, hv, he, hx, hst, bel⟩ => ?_
  subst he
  subst hv
  obtain rfl := hx.bool_inv
  exact ⟨_, rfl, _, _, _, [], _, [], hW', trodAll_mk1 (shut_bool Try.underlying4 _), (trodAll_cons_mk (Below.trod laidOut (by kernel_rfl) (of_decide_eq_true (by kernel_rfl)) k0 bel lt0) (trodAll_cons_mk (Below.trod laidOut (by kernel_rfl) (of_decide_eq_true (by kernel_rfl)) k1 bel lt1) (trodAll_cons_mk (Below.trod laidOut (by kernel_rfl) (of_decide_eq_true (by kernel_rfl)) k2 bel lt2) trodAll_mk0))), rfl, bel.frame _, fun h => by cases h⟩
theorem over : Rows.bufferpoolPinnedRow.holds Try.pinned (OpenSpec.ofChange Rows.bufferpoolPinnedSpec) :=
  OpenClaim.holds_of_wide 8 Try.f8 rfl rfl rfl rfl rfl rfl rfl ⟨rfl, rfl, rfl, rfl, rfl⟩ rfl rfl rfl rfl rfl (by kernel_rfl) Try.func8 (by kernel_rfl)
    (of_decide_eq_true (by kernel_rfl)) (by unfold Func.isWrapper; first | (rw [if_pos (by decide +kernel)]; kernel_rfl) | (rw [if_neg (by decide +kernel)]; exact ⟨rfl, rfl⟩))
    (fun os started H enc _ => lifted os started H enc)
theorem proved0 : Rows.BufferpoolPinnedSaid := over
theorem proved : Rows.BufferpoolPinnedSaid := proved0
#print axioms proved
end Go.Proofs.Ytmjfhckioaempaa.bufferpoolPinned
namespace Go.Proofs.Ytmjfhckioaempaa
/-- The row, under a short name, for the claim. -/
theorem bufferpoolPinned_holds : Rows.BufferpoolPinnedSaid := bufferpoolPinned.proved
end Go.Proofs.Ytmjfhckioaempaa
