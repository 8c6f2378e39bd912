/- The row of lineagelaw.TransactionRows: for every input the law returns true and the input reads as it did. Proved by the second reading of the code (Ax texts). -/
import Derived.Test.YtcaolnmpldbkjaaGreatRows
import Derived.Test.YtcaolnmpldbkjaaGreatPB
import Derived.Test.YtcaolnmpldbkjaaGreatAx29
import Derived.WalkKit
import Derived.ProofKit
import Derived.OpenShut
import Derived.ShutString
import Derived.ChangeOld
import Derived.Below
import Derived.SizedLaws
namespace Go.Proofs.YtcaolnmpldbkjaaGreat.transactionRows
open Go Go.ChangeShapes Go.WideShapes Go.ChangeAt Go.RowKit Go.Proofs.YtcaolnmpldbkjaaGreatA
set_option linter.unusedVariables false
theorem own : ownKnob Tryz.prog.godebug = none := by kernel_rfl
theorem laidOut : laidOutB Tryz.prog = true := by kernel_rfl
theorem opn3 : Opn Tryz.prog 3 (.int .i64) := Opn.int Tryz.underlying3
theorem opn9 : Opn Tryz.prog 9 .str := Opn.str Tryz.underlying9
theorem opn91 : Opn Tryz.prog 91 (.cat .str (.int .i64)) := Opn.struct Tryz.underlying91 (sz := 2) (by kernel_rfl) (OpnF.cons rfl (s1 := 1) (s2 := 1) (by kernel_rfl) opn9 (OpnF.one rfl (sz := 1) (by kernel_rfl) opn3))
theorem opn57 : Opn Tryz.prog 57 (.slice 2 24 (.cat .str (.int .i64))) := Opn.slice Tryz.underlying57 (by kernel_rfl) (by decide) (by kernel_rfl) opn91
theorem opn58 : Opn Tryz.prog 58 (.slice 1 8 (.int .i64)) := Opn.slice Tryz.underlying58 (by kernel_rfl) (by decide) (by kernel_rfl) opn3
theorem opn204 : Opn Tryz.prog 204 (.cat (.int .i64) (.cat .str (.slice 1 8 (.int .i64)))) := Opn.struct Tryz.underlying204 (sz := 3) (by kernel_rfl) (OpnF.cons rfl (s1 := 1) (s2 := 2) (by kernel_rfl) opn3 (OpnF.cons rfl (s1 := 1) (s2 := 1) (by kernel_rfl) opn9 (OpnF.one rfl (sz := 1) (by kernel_rfl) opn58)))
theorem opn59 : Opn Tryz.prog 59 (.slice 3 48 (.cat (.int .i64) (.cat .str (.slice 1 8 (.int .i64))))) := Opn.slice Tryz.underlying59 (by kernel_rfl) (by decide) (by kernel_rfl) opn204
theorem opn61 : Opn Tryz.prog 61 (.cat (.int .i64) (.cat .str (.cat (.slice 2 24 (.cat .str (.int .i64))) (.cat (.slice 1 8 (.int .i64)) (.slice 3 48 (.cat (.int .i64) (.cat .str (.slice 1 8 (.int .i64))))))))) := Opn.struct Tryz.underlying61 (sz := 5) (by kernel_rfl) (OpnF.cons rfl (s1 := 1) (s2 := 4) (by kernel_rfl) opn3 (OpnF.cons rfl (s1 := 1) (s2 := 3) (by kernel_rfl) opn9 (OpnF.cons rfl (s1 := 1) (s2 := 2) (by kernel_rfl) opn57 (OpnF.cons rfl (s1 := 1) (s2 := 1) (by kernel_rfl) opn58 (OpnF.one rfl (sz := 1) (by kernel_rfl) opn59)))))
theorem opn22 : Opn Tryz.prog 22 (.slice 5 96 (.cat (.int .i64) (.cat .str (.cat (.slice 2 24 (.cat .str (.int .i64))) (.cat (.slice 1 8 (.int .i64)) (.slice 3 48 (.cat (.int .i64) (.cat .str (.slice 1 8 (.int .i64)))))))))) := Opn.slice Tryz.underlying22 (by kernel_rfl) (by decide) (by kernel_rfl) opn61
theorem opn5 : Opn Tryz.prog 5 (.int .u8) := Opn.int Tryz.underlying5
theorem opn33 : Opn Tryz.prog 33 (.cat (.int .i64) (.int .i64)) := Opn.struct Tryz.underlying33 (sz := 2) (by kernel_rfl) (OpnF.cons rfl (s1 := 1) (s2 := 1) (by kernel_rfl) opn3 (OpnF.one rfl (sz := 1) (by kernel_rfl) opn3))
theorem opn2 : Opn Tryz.prog 2 (.int .i64) := Opn.int Tryz.underlying2
theorem opn49 : Opn Tryz.prog 49 (.cat (.int .i64) (.cat (.int .i64) .str)) := Opn.struct Tryz.underlying49 (sz := 3) (by kernel_rfl) (OpnF.cons rfl (s1 := 1) (s2 := 2) (by kernel_rfl) opn3 (OpnF.cons rfl (s1 := 1) (s2 := 1) (by kernel_rfl) opn2 (OpnF.one rfl (sz := 1) (by kernel_rfl) opn9)))
theorem opn34 : Opn Tryz.prog 34 (.slice 3 32 (.cat (.int .i64) (.cat (.int .i64) .str))) := Opn.slice Tryz.underlying34 (by kernel_rfl) (by decide) (by kernel_rfl) opn49
theorem opn36 : Opn Tryz.prog 36 (.cat (.cat (.int .i64) (.int .i64)) (.cat (.slice 3 32 (.cat (.int .i64) (.cat (.int .i64) .str))) (.cat (.int .i64) (.int .i64)))) := Opn.struct Tryz.underlying36 (sz := 5) (by kernel_rfl) (OpnF.cons rfl (s1 := 2) (s2 := 3) (by kernel_rfl) opn33 (OpnF.cons rfl (s1 := 1) (s2 := 2) (by kernel_rfl) opn34 (OpnF.cons rfl (s1 := 1) (s2 := 1) (by kernel_rfl) opn3 (OpnF.one rfl (sz := 1) (by kernel_rfl) opn3))))
theorem opn38 : Opn Tryz.prog 38 (.cat (.int .u8) (.cat (.cat (.cat (.int .i64) (.int .i64)) (.cat (.slice 3 32 (.cat (.int .i64) (.cat (.int .i64) .str))) (.cat (.int .i64) (.int .i64)))) (.int .i64))) := Opn.struct Tryz.underlying38 (sz := 7) (by kernel_rfl) (OpnF.cons rfl (s1 := 1) (s2 := 6) (by kernel_rfl) opn5 (OpnF.cons rfl (s1 := 5) (s2 := 1) (by kernel_rfl) opn36 (OpnF.one rfl (sz := 1) (by kernel_rfl) opn3)))
theorem opn23 : Opn Tryz.prog 23 (.slice 7 72 (.cat (.int .u8) (.cat (.cat (.cat (.int .i64) (.int .i64)) (.cat (.slice 3 32 (.cat (.int .i64) (.cat (.int .i64) .str))) (.cat (.int .i64) (.int .i64)))) (.int .i64)))) := Opn.slice Tryz.underlying23 (by kernel_rfl) (by decide) (by kernel_rfl) opn38
theorem opn24 : Opn Tryz.prog 24 (.slice 5 56 (.cat (.cat (.int .i64) (.int .i64)) (.cat (.slice 3 32 (.cat (.int .i64) (.cat (.int .i64) .str))) (.cat (.int .i64) (.int .i64))))) := Opn.slice Tryz.underlying24 (by kernel_rfl) (by decide) (by kernel_rfl) opn36
set_option maxRecDepth 100000 in
theorem lifted (os : Os) (started : os.Started) (H : Type) (enc : TypeId × Value → H) :
    ReturnsInHanded {} Tryz.checked os 3 .any (Rows.transactionRowsSpec.pre6 enc Tryz.prog Tryz.f3 Rows.transactionRowsRow.domain false) (Rows.transactionRowsSpec.post enc Tryz.prog Tryz.f3 false true false false) := by
  refine returnsInHanded_of_change_sized (C := Tryz.checked) own started (by kernel_rfl) Tryz.func3
    (ChangeSpec.witness6 (enc := enc) (C := Tryz.checked) false ⟨#[], #[.int .i64 0, .slice none 0 0, .slice none 0 0, .slice none 0 0, .int .i64 0], []⟩ 8 (by kernel_rfl) (by kernel_rfl) (by kernel_rfl) (by kernel_rfl)) ?_
  intro W base args ds gs before hval0 hW hcnd hsz0 _
  have hsz : (DataW.weightsEach Tryz.prog (Tryz.f3.params.toList ++ Rows.transactionRowsSpec.plain.varTypes Tryz.prog) (ds ++ gs)).all (· ≤ reachBytes) = true := hsz0
  have hval : ∀ (j : Nat) t v, Tryz.f3.params[j]? = some t → args[j]? = some v → Value.okWide Tryz.prog W .any base t v := hval0
  have hW' := hW
  obtain ⟨p, q, hA0, hV, rfl, hfz, hnd⟩ := hW
  have hA : DataW.TrodAll enc Tryz.prog W 0 (fun _ => true) true Tryz.f3.params.toList args.toList ds p := hA0
  rw [Tryz.params3] at hA hval hsz
  obtain ⟨v0, vs0, d0, ds0, p0, q0, hargs, rfl, rfl, h0, r0⟩ := trodAll_cons hA
  obtain ⟨v1, vs1, d1, ds1, p1, q1, rfl, rfl, rfl, h1, r1⟩ := trodAll_cons r0
  obtain ⟨v2, vs2, d2, ds2, p2, q2, rfl, rfl, rfl, h2, r2⟩ := trodAll_cons r1
  obtain ⟨v3, vs3, d3, ds3, p3, q3, rfl, rfl, rfl, h3, r3⟩ := trodAll_cons r2
  obtain ⟨v4, vs4, d4, ds4, p4, q4, rfl, rfl, rfl, h4, r4⟩ := trodAll_cons r3
  obtain ⟨rfl, rfl, rfl⟩ := trodAll_nil r4
  obtain rfl : args = #[v0, v1, v2, v3, v4] := by cases args; simp_all
  obtain ⟨rfl, rfl⟩ := trodVars_none hV
  have s_ : (DataW.weightsEach Tryz.prog [3, 22, 23, 24, 3] [d0, d1, d2, d3, d4]).all (· ≤ reachBytes) = true := hsz
  obtain ⟨s0, s_⟩ := sized_cons' s_
  have k0 := h0
  have lt0 : ∀ x ∈ p0, x.block < W.heap.size := by obtain ⟨m, hm⟩ := k0; exact DataW.trod_lt m _ _ _ hm
  obtain ⟨ι0, g0, u0, c0, sb0, ex0, rv0, av0⟩ := Opn.argL Tryz.underlying3 rfl opn3 (hval 0 3 v0 rfl rfl) h0 s0 (by obtain ⟨e0, rfl⟩ := okWide_int Tryz.underlying3 (hval 0 3 v0 rfl rfl); rfl) (Cx.nil W)
  obtain ⟨s1, s_⟩ := sized_cons' s_
  have k1 := h1
  have lt1 : ∀ x ∈ p1, x.block < W.heap.size := by obtain ⟨m, hm⟩ := k1; exact DataW.trod_lt m _ _ _ hm
  obtain ⟨ι1, g1, u1, c1, sb1, ex1, rv1, av1⟩ := Opn.argL Tryz.underlying22 rfl opn22 (hval 1 22 v1 rfl rfl) h1 s1 (by obtain ⟨e0, e1, e2, rfl⟩ := okWide_slice Tryz.underlying22 (hval 1 22 v1 rfl rfl); rfl) c0
  obtain ⟨s2, s_⟩ := sized_cons' s_
  have k2 := h2
  have lt2 : ∀ x ∈ p2, x.block < W.heap.size := by obtain ⟨m, hm⟩ := k2; exact DataW.trod_lt m _ _ _ hm
  obtain ⟨ι2, g2, u2, c2, sb2, ex2, rv2, av2⟩ := Opn.argL Tryz.underlying23 rfl opn23 (hval 2 23 v2 rfl rfl) h2 s2 (by obtain ⟨e0, e1, e2, rfl⟩ := okWide_slice Tryz.underlying23 (hval 2 23 v2 rfl rfl); rfl) c1
  obtain ⟨s3, s_⟩ := sized_cons' s_
  have k3 := h3
  have lt3 : ∀ x ∈ p3, x.block < W.heap.size := by obtain ⟨m, hm⟩ := k3; exact DataW.trod_lt m _ _ _ hm
  obtain ⟨ι3, g3, u3, c3, sb3, ex3, rv3, av3⟩ := Opn.argL Tryz.underlying24 rfl opn24 (hval 3 24 v3 rfl rfl) h3 s3 (by obtain ⟨e0, e1, e2, rfl⟩ := okWide_slice Tryz.underlying24 (hval 3 24 v3 rfl rfl); rfl) c2
  obtain ⟨s4, s_⟩ := sized_cons' s_
  have k4 := h4
  have lt4 : ∀ x ∈ p4, x.block < W.heap.size := by obtain ⟨m, hm⟩ := k4; exact DataW.trod_lt m _ _ _ hm
  obtain ⟨ι4, g4, u4, c4, sb4, ex4, rv4, av4⟩ := Opn.argL Tryz.underlying3 rfl opn3 (hval 4 3 v4 rfl rfl) h4 s4 (by obtain ⟨e0, rfl⟩ := okWide_int Tryz.underlying3 (hval 4 3 v4 rfl rfl); rfl) c3
  clear hA0 hval0 hsz0 hsz
  have hw := rowRows (h := g4) u0 u1 u2 u3 u4 ((((av0.ext ex1).ext ex2).ext ex3).ext ex4) (((av1.ext ex2).ext ex3).ext ex4) ((av2.ext ex3).ext ex4) (av3.ext ex4) av4
  refine (calls_of (Checked.mixed Tryz.checked) (by exact named) (hk_sound) Tryz.func3 rfl hw c4.rel (by exact RVs.cons  ((((rv0.mono sb1).mono sb2).mono sb3).mono sb4) (.cons (((rv1.mono sb2).mono sb3).mono sb4) (.cons ((rv2.mono sb3).mono sb4) (.cons (rv3.mono sb4) (.cons rv4 (.nil _)))))) c4.free c4.ro).mono fun e W' ⟨v, hh, x, κ, hv, he, hx, hst, bel⟩ => ?_
  subst he
  subst hv
  obtain rfl := hx.bool_inv
  exact ⟨_, rfl, _, _, _, [], _, [], hW', trodAll_mk1 (shut_bool Tryz.underlying4 _), (trodAll_cons_mk (Below.trod laidOut (by kernel_rfl) (of_decide_eq_true (by kernel_rfl)) k0 bel lt0) (trodAll_cons_mk (Below.trod laidOut (by kernel_rfl) (of_decide_eq_true (by kernel_rfl)) k1 bel lt1) (trodAll_cons_mk (Below.trod laidOut (by kernel_rfl) (of_decide_eq_true (by kernel_rfl)) k2 bel lt2) (trodAll_cons_mk (Below.trod laidOut (by kernel_rfl) (of_decide_eq_true (by kernel_rfl)) k3 bel lt3) (trodAll_cons_mk (Below.trod laidOut (by kernel_rfl) (of_decide_eq_true (by kernel_rfl)) k4 bel lt4) trodAll_mk0))))), rfl, bel.frame _, fun h => by cases h⟩
theorem over : Rows.transactionRowsRow.holds Tryz.pinned (OpenSpec.ofChange Rows.transactionRowsSpec) :=
  OpenClaim.holds_of_wide 3 Tryz.f3 rfl rfl rfl rfl rfl rfl rfl ⟨rfl, rfl, rfl, rfl, rfl⟩ rfl rfl rfl rfl rfl (by kernel_rfl) Tryz.func3 (by kernel_rfl)
    (of_decide_eq_true (by kernel_rfl)) (by unfold Func.isWrapper; first | (rw [if_pos (by decide +kernel)]; kernel_rfl) | (rw [if_neg (by decide +kernel)]; exact ⟨rfl, rfl⟩))
    (fun os started H enc _ => lifted os started H enc)
theorem proved0 : Rows.TransactionRowsSaid := over
theorem proved : Rows.TransactionRowsSaid := proved0
#print axioms proved
end Go.Proofs.YtcaolnmpldbkjaaGreat.transactionRows
namespace Go.Proofs.YtcaolnmpldbkjaaGreat
/-- The row, under a short name, for the claim. -/
theorem transactionRows_holds : Rows.TransactionRowsSaid := transactionRows.proved
end Go.Proofs.YtcaolnmpldbkjaaGreat
