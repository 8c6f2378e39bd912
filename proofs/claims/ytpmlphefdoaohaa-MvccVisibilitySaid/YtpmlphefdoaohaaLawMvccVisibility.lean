/- The row of lineagelaw.MvccVisibility: for every input the law returns true and the input reads as it did. Proved by the second reading of the code (Ax texts). -/
import Derived.Test.YtpmlphefdoaohaaRows
import Derived.Test.YtpmlphefdoaohaaQY
import Derived.Test.YtpmlphefdoaohaaAx29
import Derived.WalkKit
import Derived.ProofKit
import Derived.OpenShut
import Derived.ShutString
import Derived.ChangeOld
import Derived.Below
import Derived.SizedLaws
namespace Go.Proofs.Ytpmlphefdoaohaa.mvccVisibility
open Go Go.ChangeShapes Go.WideShapes Go.ChangeAt Go.RowKit Go.Proofs.YtpmlphefdoaohaaA
set_option linter.unusedVariables false
theorem own : ownKnob Try.prog.godebug = none := by kernel_rfl
theorem laidOut : laidOutB Try.prog = true := by kernel_rfl
theorem opn3 : Opn Try.prog 3 (.int .i64) := Opn.int Try.underlying3
theorem opn23 : Opn Try.prog 23 (.cat (.int .i64) (.int .i64)) := Opn.struct Try.underlying23 (sz := 2) (by kernel_rfl) (OpnF.cons rfl (s1 := 1) (s2 := 1) (by kernel_rfl) opn3 (OpnF.one rfl (sz := 1) (by kernel_rfl) opn3))
theorem opn2 : Opn Try.prog 2 (.int .i64) := Opn.int Try.underlying2
theorem opn9 : Opn Try.prog 9 .str := Opn.str Try.underlying9
theorem opn74 : Opn Try.prog 74 (.cat (.int .i64) (.cat (.int .i64) .str)) := Opn.struct Try.underlying74 (sz := 3) (by kernel_rfl) (OpnF.cons rfl (s1 := 1) (s2 := 2) (by kernel_rfl) opn3 (OpnF.cons rfl (s1 := 1) (s2 := 1) (by kernel_rfl) opn2 (OpnF.one rfl (sz := 1) (by kernel_rfl) opn9)))
theorem opn24 : Opn Try.prog 24 (.slice 3 32 (.cat (.int .i64) (.cat (.int .i64) .str))) := Opn.slice Try.underlying24 (by kernel_rfl) (by decide) (by kernel_rfl) opn74
theorem opn26 : Opn Try.prog 26 (.cat (.cat (.int .i64) (.int .i64)) (.cat (.slice 3 32 (.cat (.int .i64) (.cat (.int .i64) .str))) (.cat (.int .i64) (.int .i64)))) := Opn.struct Try.underlying26 (sz := 5) (by kernel_rfl) (OpnF.cons rfl (s1 := 2) (s2 := 3) (by kernel_rfl) opn23 (OpnF.cons rfl (s1 := 1) (s2 := 2) (by kernel_rfl) opn24 (OpnF.cons rfl (s1 := 1) (s2 := 1) (by kernel_rfl) opn3 (OpnF.one rfl (sz := 1) (by kernel_rfl) opn3))))
theorem opn41 : Opn Try.prog 41 (.slice 5 56 (.cat (.cat (.int .i64) (.int .i64)) (.cat (.slice 3 32 (.cat (.int .i64) (.cat (.int .i64) .str))) (.cat (.int .i64) (.int .i64))))) := Opn.slice Try.underlying41 (by kernel_rfl) (by decide) (by kernel_rfl) opn26
theorem opn48 : Opn Try.prog 48 (.slice 2 16 (.cat (.int .i64) (.int .i64))) := Opn.slice Try.underlying48 (by kernel_rfl) (by decide) (by kernel_rfl) opn23
set_option maxRecDepth 100000 in
theorem lifted (os : Os) (started : os.Started) (H : Type) (enc : TypeId × Value → H) :
    ReturnsInHanded {} Try.checked os 8 .any (Rows.mvccVisibilitySpec.pre6 enc Try.prog Try.f8 Rows.mvccVisibilityRow.domain false) (Rows.mvccVisibilitySpec.post enc Try.prog Try.f8 false true false false) := by
  refine returnsInHanded_of_change_sized (C := Try.checked) own started (by kernel_rfl) Try.func8
    (ChangeSpec.witness6 (enc := enc) (C := Try.checked) false ⟨#[], #[.slice none 0 0, .int .i64 0, .slice none 0 0], []⟩ 8 (by kernel_rfl) (by kernel_rfl) (by kernel_rfl) (by kernel_rfl)) ?_
  intro W base args ds gs before hval0 hW hcnd hsz0 _
  have hsz : (DataW.weightsEach Try.prog (Try.f8.params.toList ++ Rows.mvccVisibilitySpec.plain.varTypes Try.prog) (ds ++ gs)).all (· ≤ reachBytes) = true := hsz0
  have hval : ∀ (j : Nat) t v, Try.f8.params[j]? = some t → args[j]? = some v → Value.okWide Try.prog W .any base t v := hval0
  have hW' := hW
  obtain ⟨p, q, hA0, hV, rfl, hfz, hnd⟩ := hW
  have hA : DataW.TrodAll enc Try.prog W 0 (fun _ => true) true Try.f8.params.toList args.toList ds p := hA0
  rw [Try.params8] at hA hval hsz
  obtain ⟨v0, vs0, d0, ds0, p0, q0, hargs, rfl, rfl, h0, r0⟩ := trodAll_cons hA
  obtain ⟨v1, vs1, d1, ds1, p1, q1, rfl, rfl, rfl, h1, r1⟩ := trodAll_cons r0
  obtain ⟨v2, vs2, d2, ds2, p2, q2, rfl, rfl, rfl, h2, r2⟩ := trodAll_cons r1
  obtain ⟨rfl, rfl, rfl⟩ := trodAll_nil r2
  obtain rfl : args = #[v0, v1, v2] := by cases args; simp_all
  obtain ⟨rfl, rfl⟩ := trodVars_none hV
  have s_ : (DataW.weightsEach Try.prog [41, 3, 48] [d0, d1, d2]).all (· ≤ reachBytes) = true := hsz
  obtain ⟨s0, s_⟩ := sized_cons' s_
  have k0 := h0
  have lt0 : ∀ x ∈ p0, x.block < W.heap.size := by obtain ⟨m, hm⟩ := k0; exact DataW.trod_lt m _ _ _ hm
  obtain ⟨ι0, g0, u0, c0, sb0, ex0, rv0, av0⟩ := Opn.argL Try.underlying41 rfl opn41 (hval 0 41 v0 rfl rfl) h0 s0 (by obtain ⟨e0, e1, e2, rfl⟩ := okWide_slice Try.underlying41 (hval 0 41 v0 rfl rfl); rfl) (Cx.nil W)
  obtain ⟨s1, s_⟩ := sized_cons' s_
  have k1 := h1
  have lt1 : ∀ x ∈ p1, x.block < W.heap.size := by obtain ⟨m, hm⟩ := k1; exact DataW.trod_lt m _ _ _ hm
  obtain ⟨ι1, g1, u1, c1, sb1, ex1, rv1, av1⟩ := Opn.argL Try.underlying3 rfl opn3 (hval 1 3 v1 rfl rfl) h1 s1 (by obtain ⟨e0, rfl⟩ := okWide_int Try.underlying3 (hval 1 3 v1 rfl rfl); rfl) c0
  obtain ⟨s2, s_⟩ := sized_cons' s_
  have k2 := h2
  have lt2 : ∀ x ∈ p2, x.block < W.heap.size := by obtain ⟨m, hm⟩ := k2; exact DataW.trod_lt m _ _ _ hm
  obtain ⟨ι2, g2, u2, c2, sb2, ex2, rv2, av2⟩ := Opn.argL Try.underlying48 rfl opn48 (hval 2 48 v2 rfl rfl) h2 s2 (by obtain ⟨e0, e1, e2, rfl⟩ := okWide_slice Try.underlying48 (hval 2 48 v2 rfl rfl); rfl) c1
  clear hA0 hval0 hsz0 hsz
  have hw := row8 (h := g2) u0 u1 u2 ((av0.ext ex1).ext ex2) (av1.ext ex2) av2
  refine (calls_of (Checked.mixed Try.checked) (by exact named) (hk_sound) Try.func8 rfl hw c2.rel (by exact RVs.cons  ((rv0.mono sb1).mono sb2) (.cons (rv1.mono sb2) (.cons rv2 (.nil _)))) c2.free c2.ro).mono fun e W' ⟨v, hh, x, κ, hv, he, hx, hst, bel⟩ => ?_
  subst he
  subst hv
  obtain rfl := hx.bool_inv
  exact ⟨_, rfl, _, _, _, [], _, [], hW', trodAll_mk1 (shut_bool Try.underlying4 _), (trodAll_cons_mk (Below.trod laidOut (by kernel_rfl) (of_decide_eq_true (by kernel_rfl)) k0 bel lt0) (trodAll_cons_mk (Below.trod laidOut (by kernel_rfl) (of_decide_eq_true (by kernel_rfl)) k1 bel lt1) (trodAll_cons_mk (Below.trod laidOut (by kernel_rfl) (of_decide_eq_true (by kernel_rfl)) k2 bel lt2) trodAll_mk0))), rfl, bel.frame _, fun h => by cases h⟩
theorem over : Rows.mvccVisibilityRow.holds Try.pinned (OpenSpec.ofChange Rows.mvccVisibilitySpec) :=
  OpenClaim.holds_of_wide 8 Try.f8 rfl rfl rfl rfl rfl rfl rfl ⟨rfl, rfl, rfl, rfl, rfl⟩ rfl rfl rfl rfl rfl (by kernel_rfl) Try.func8 (by kernel_rfl)
    (of_decide_eq_true (by kernel_rfl)) (by unfold Func.isWrapper; first | (rw [if_pos (by decide +kernel)]; kernel_rfl) | (rw [if_neg (by decide +kernel)]; exact ⟨rfl, rfl⟩))
    (fun os started H enc _ => lifted os started H enc)
theorem proved0 : Rows.MvccVisibilitySaid := over
theorem proved : Rows.MvccVisibilitySaid := proved0
#print axioms proved
end Go.Proofs.Ytpmlphefdoaohaa.mvccVisibility
namespace Go.Proofs.Ytpmlphefdoaohaa
/-- The row, under a short name, for the claim. -/
theorem mvccVisibility_holds : Rows.MvccVisibilitySaid := mvccVisibility.proved
end Go.Proofs.Ytpmlphefdoaohaa
