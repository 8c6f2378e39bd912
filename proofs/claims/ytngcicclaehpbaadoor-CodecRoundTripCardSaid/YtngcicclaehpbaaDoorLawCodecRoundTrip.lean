/- The row of lineagelaw.CodecRoundTrip: for every input the law returns true and the input reads as it did. Proved by the second reading of the code (Ax texts). -/
import Derived.Test.YtngcicclaehpbaaDoorRows
import Derived.Test.YtngcicclaehpbaaDoorPZ
import Derived.Test.YtngcicclaehpbaaDoorAx29
import Derived.Test.YtngcicclaehpbaaDoorCards
import Derived.Test.YtngcicclaehpbaaDoorTie
import Derived.WalkKit
import Derived.ProofKit
import Derived.OpenShut
import Derived.ShutString
import Derived.ChangeOld
import Derived.Below
import Derived.SizedLaws
import Derived.LaidMore
import Derived.Lay
import Derived.SevenTiedAt
import Derived.Stop.Joined
namespace Go.Proofs.YtngcicclaehpbaaDoor.codecRoundTrip
open Go Go.ChangeShapes Go.WideShapes Go.ChangeAt Go.RowKit Go.Proofs.YtngcicclaehpbaaDoorA
set_option linter.unusedVariables false
theorem own : ownKnob Tryd.prog.godebug = none := by kernel_rfl
theorem laidOut : laidOutB Tryd.prog = true := by kernel_rfl
theorem opn3 : Opn Tryd.prog 3 (.int .i64) := Opn.int Tryd.underlying3
theorem opn2 : Opn Tryd.prog 2 (.int .i64) := Opn.int Tryd.underlying2
theorem opn9 : Opn Tryd.prog 9 .str := Opn.str Tryd.underlying9
theorem opn26 : Opn Tryd.prog 26 (.cat (.int .i64) (.cat (.int .i64) .str)) := Opn.struct Tryd.underlying26 (sz := 3) (by kernel_rfl) (OpnF.cons rfl (s1 := 1) (s2 := 2) (by kernel_rfl) opn3 (OpnF.cons rfl (s1 := 1) (s2 := 1) (by kernel_rfl) opn2 (OpnF.one rfl (sz := 1) (by kernel_rfl) opn9)))
theorem opn22 : Opn Tryd.prog 22 (.slice 3 32 (.cat (.int .i64) (.cat (.int .i64) .str))) := Opn.slice Tryd.underlying22 (by kernel_rfl) (by decide) (by kernel_rfl) opn26
theorem opn5 : Opn Tryd.prog 5 (.int .u8) := Opn.int Tryd.underlying5
theorem opn28 : Opn Tryd.prog 28 (.slice 1 1 (.int .u8)) := Opn.slice Tryd.underlying28 (by kernel_rfl) (by decide) (by kernel_rfl) opn5
set_option maxRecDepth 100000 in
theorem lifted (os : Os) (started : os.Started) (H : Type) (enc : TypeId × Value → H) :
    ReturnsInHanded {} Tryd.checked os 10 .any (fun w args => (Rows.codecRoundTripSpec.pre enc Tryd.prog Tryd.f10 Rows.codecRoundTripRow.domain false w args ∧ laidMetH Tryd.prog Rows.codecRoundTripRow.laid w) ∧ sizedMet enc Tryd.prog Tryd.f10 (OpenSpec.ofChange Rows.codecRoundTripSpec) false w args) (Rows.codecRoundTripSpec.post enc Tryd.prog Tryd.f10 false true false false) := by
  refine returnsInHanded_of_change_and (C := Tryd.checked) (X := fun w _ => laidMetH Tryd.prog Rows.codecRoundTripRow.laid w) (fun _ _ _ hh h => h.of_heap hh) own started (by kernel_rfl) Tryd.func10
    (ChangeSpec.witness_shaped (enc := enc) (C := Tryd.checked) (os := os) (X := fun w _ => laidMetH Tryd.prog Rows.codecRoundTripRow.laid w) false (World.laidAll Tryd.prog os Rows.codecRoundTripRow.laid) #[.slice none 0 0, .slice none 0 0] 8 (World.laidAll_os _ _ _)
      (World.shaped_of_ZipB (by kernel_rfl) (by kernel_rfl)) (by kernel_rfl) (by kernel_rfl) (by kernel_rfl)
      (by rw [MakeChecks.laidMetH_plain _ _ _ (by kernel_rfl)]; exact laidMet_laidAll _ (by kernel_rfl) (by kernel_rfl))) ?_
  intro W base args ds gs before hval0 hW hcnd hsz0 hL_ _
  have hsz : (DataW.weightsEach Tryd.prog (Tryd.f10.params.toList ++ Rows.codecRoundTripSpec.plain.varTypes Tryd.prog) (ds ++ gs)).all (· ≤ reachBytes) = true := hsz0
  have hval : ∀ (j : Nat) t v, Tryd.f10.params[j]? = some t → args[j]? = some v → Value.okWide Tryd.prog W .any base t v := hval0
  have hW' := hW
  obtain ⟨p, q, hA0, hV, rfl, hfz, hnd⟩ := hW
  have hA : DataW.TrodAll enc Tryd.prog W 0 (fun _ => true) true Tryd.f10.params.toList args.toList ds p := hA0
  rw [Tryd.params10] at hA hval hsz
  obtain ⟨v0, vs0, d0, ds0, p0, q0, hargs, rfl, rfl, h0, r0⟩ := trodAll_cons hA
  obtain ⟨v1, vs1, d1, ds1, p1, q1, rfl, rfl, rfl, h1, r1⟩ := trodAll_cons r0
  obtain ⟨rfl, rfl, rfl⟩ := trodAll_nil r1
  obtain rfl : args = #[v0, v1] := by cases args; simp_all
  obtain ⟨rfl, rfl⟩ := trodVars_none hV
  have s_ : (DataW.weightsEach Tryd.prog [22, 28] [d0, d1]).all (· ≤ reachBytes) = true := hsz
  obtain ⟨s0, s_⟩ := sized_cons' s_
  have k0 := h0
  have lt0 : ∀ x ∈ p0, x.block < W.heap.size := by obtain ⟨m, hm⟩ := k0; exact DataW.trod_lt m _ _ _ hm
  obtain ⟨ι0, g0, u0, c0, sb0, ex0, rv0, av0⟩ := Opn.argL Tryd.underlying22 rfl opn22 (hval 0 22 v0 rfl rfl) h0 s0 (by obtain ⟨e0, e1, e2, rfl⟩ := okWide_slice Tryd.underlying22 (hval 0 22 v0 rfl rfl); rfl) (Cx.nil W)
  obtain ⟨s1, s_⟩ := sized_cons' s_
  have k1 := h1
  have lt1 : ∀ x ∈ p1, x.block < W.heap.size := by obtain ⟨m, hm⟩ := k1; exact DataW.trod_lt m _ _ _ hm
  obtain ⟨ι1, g1, u1, c1, sb1, ex1, rv1, av1⟩ := Opn.argL Tryd.underlying28 rfl opn28 (hval 1 28 v1 rfl rfl) h1 s1 (by obtain ⟨e0, e1, e2, rfl⟩ := okWide_slice Tryd.underlying28 (hval 1 28 v1 rfl rfl); rfl) c0
  clear hA0 hval0 hsz0 hsz
  have hw := row10 (h := g1) u0 u1 (av0.ext ex1) av1
  refine (calls_of (Checked.mixed Tryd.checked) (by exact named) (hk_sound) Tryd.func10 rfl hw c1.rel (by exact RVs.cons  (rv0.mono sb1) (.cons rv1 (.nil _))) c1.free c1.ro).mono fun e W' ⟨v, hh, x, κ, hv, he, hx, hst, bel⟩ => ?_
  subst he
  subst hv
  obtain rfl := hx.bool_inv
  exact ⟨_, rfl, _, _, _, [], _, [], hW', trodAll_mk1 (shut_bool Tryd.underlying4 _), (trodAll_cons_mk (Below.trod laidOut (by kernel_rfl) (of_decide_eq_true (by kernel_rfl)) k0 bel lt0) (trodAll_cons_mk (Below.trod laidOut (by kernel_rfl) (of_decide_eq_true (by kernel_rfl)) k1 bel lt1) trodAll_mk0)), rfl, bel.frame _, fun h => by cases h⟩
theorem over : Rows.codecRoundTripRow.holds Tryd.pinned (OpenSpec.ofChange Rows.codecRoundTripSpec) :=
  OpenClaim.holds_of_wide 10 Tryd.f10 rfl rfl rfl rfl rfl rfl rfl ⟨rfl, rfl, rfl, rfl, rfl⟩ rfl rfl rfl rfl rfl (by kernel_rfl) Tryd.func10 (by kernel_rfl)
    (of_decide_eq_true (by kernel_rfl)) (by unfold Func.isWrapper; first | (rw [if_pos (by decide +kernel)]; kernel_rfl) | (rw [if_neg (by decide +kernel)]; exact ⟨rfl, rfl⟩))
    (fun os started H enc _ => lifted os started H enc)
theorem proved0 : Rows.CodecRoundTripSaid := over
theorem card : Rows.CodecRoundTripCardSaid :=
  Claim7.holds_tied_plain_at .later [] [.data, .pinned] true (true, "7cb52f85df0593f4000ed915baeff6c20d433fc94e0fa51b069bf8db8a5cde42") false proved0 (fun _ h => by cases h) (by kernel_rfl) (fun _ h => by cases h) codecRoundTrip_row_tie rfl ⟨rfl, rfl⟩ (by kernel_rfl) rfl
    (fun f fn hf hfn => by
      obtain rfl : f = 10 := Option.some.inj ((show Tryd.prog.funcNamed "lineage/lineagelaw04.CodecRoundTrip" = some 10 by kernel_rfl).symm.trans hf) |>.symm
      obtain rfl : fn = Tryd.f10 := (Option.some.inj (Tryd.func10.symm.trans hfn)).symm
      exact ⟨by kernel_rfl, fun j t ht => by
        rw [Tryd.params10] at ht
        have hm : t ∈ [22, 28] := by simpa using Array.mem_of_getElem? ht
        have hall : ([22, 28].all fun u => !Tryd.prog.wantsStandIn u) = true := by kernel_rfl
        exact (show Tryd.prog.wantsStandIn t = false by simpa using List.all_eq_true.1 hall t hm)⟩)
    (by kernel_rfl)
theorem proved : Rows.CodecRoundTripCardSaid := card
#print axioms proved
end Go.Proofs.YtngcicclaehpbaaDoor.codecRoundTrip
namespace Go.Proofs.YtngcicclaehpbaaDoor
/-- The row, under a short name, for the claim. -/
theorem codecRoundTrip_holds : Rows.CodecRoundTripCardSaid := codecRoundTrip.proved
end Go.Proofs.YtngcicclaehpbaaDoor
