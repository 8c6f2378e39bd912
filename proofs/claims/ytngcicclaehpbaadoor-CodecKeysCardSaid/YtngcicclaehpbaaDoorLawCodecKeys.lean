/- The row of lineagelaw.CodecKeys: for every input the law returns true and the input reads as it did. Proved by the second reading of the code (Ax texts). -/
import Derived.Test.YtngcicclaehpbaaDoorRows
import Derived.Test.YtngcicclaehpbaaDoorPP
import Derived.Test.YtngcicclaehpbaaDoorAx29
import Derived.Test.YtngcicclaehpbaaDoorCards
import Derived.Test.YtngcicclaehpbaaDoorTie
import Derived.WalkKit
import Derived.ProofKit
import Derived.OpenShut
import Derived.ShutString
import Derived.ChangeOld
import Derived.Below
import Derived.SizedLaws
import Derived.LaidMore
import Derived.Lay
import Derived.SevenTiedAt
import Derived.Stop.Joined
namespace Go.Proofs.YtngcicclaehpbaaDoor.codecKeys
open Go Go.ChangeShapes Go.WideShapes Go.ChangeAt Go.RowKit Go.Proofs.YtngcicclaehpbaaDoorA
set_option linter.unusedVariables false
theorem own : ownKnob Tryd.prog.godebug = none := by kernel_rfl
theorem laidOut : laidOutB Tryd.prog = true := by kernel_rfl
theorem opn3 : Opn Tryd.prog 3 (.int .i64) := Opn.int Tryd.underlying3
theorem opn2 : Opn Tryd.prog 2 (.int .i64) := Opn.int Tryd.underlying2
theorem opn9 : Opn Tryd.prog 9 .str := Opn.str Tryd.underlying9
theorem opn26 : Opn Tryd.prog 26 (.cat (.int .i64) (.cat (.int .i64) .str)) := Opn.struct Tryd.underlying26 (sz := 3) (by kernel_rfl) (OpnF.cons rfl (s1 := 1) (s2 := 2) (by kernel_rfl) opn3 (OpnF.cons rfl (s1 := 1) (s2 := 1) (by kernel_rfl) opn2 (OpnF.one rfl (sz := 1) (by kernel_rfl) opn9)))
theorem opn22 : Opn Tryd.prog 22 (.slice 3 32 (.cat (.int .i64) (.cat (.int .i64) .str))) := Opn.slice Tryd.underlying22 (by kernel_rfl) (by decide) (by kernel_rfl) opn26
set_option maxRecDepth 100000 in
theorem lifted (os : Os) (started : os.Started) (H : Type) (enc : TypeId × Value → H) :
    ReturnsInHanded {} Tryd.checked os 7 .any (fun w args => (Rows.codecKeysSpec.pre enc Tryd.prog Tryd.f7 Rows.codecKeysRow.domain false w args ∧ laidMetH Tryd.prog Rows.codecKeysRow.laid w) ∧ sizedMet enc Tryd.prog Tryd.f7 (OpenSpec.ofChange Rows.codecKeysSpec) false w args) (Rows.codecKeysSpec.post enc Tryd.prog Tryd.f7 false true false false) := by
  refine returnsInHanded_of_change_and (C := Tryd.checked) (X := fun w _ => laidMetH Tryd.prog Rows.codecKeysRow.laid w) (fun _ _ _ hh h => h.of_heap hh) own started (by kernel_rfl) Tryd.func7
    (ChangeSpec.witness_shaped (enc := enc) (C := Tryd.checked) (os := os) (X := fun w _ => laidMetH Tryd.prog Rows.codecKeysRow.laid w) false (World.laidAll Tryd.prog os Rows.codecKeysRow.laid) #[.slice none 0 0] 8 (World.laidAll_os _ _ _)
      (World.shaped_of_ZipB (by kernel_rfl) (by kernel_rfl)) (by kernel_rfl) (by kernel_rfl) (by kernel_rfl)
      (by rw [MakeChecks.laidMetH_plain _ _ _ (by kernel_rfl)]; exact laidMet_laidAll _ (by kernel_rfl) (by kernel_rfl))) ?_
  intro W base args ds gs before hval0 hW hcnd hsz0 hL_ _
  have hsz : (DataW.weightsEach Tryd.prog (Tryd.f7.params.toList ++ Rows.codecKeysSpec.plain.varTypes Tryd.prog) (ds ++ gs)).all (· ≤ reachBytes) = true := hsz0
  have hval : ∀ (j : Nat) t v, Tryd.f7.params[j]? = some t → args[j]? = some v → Value.okWide Tryd.prog W .any base t v := hval0
  have hW' := hW
  obtain ⟨p, q, hA0, hV, rfl, hfz, hnd⟩ := hW
  have hA : DataW.TrodAll enc Tryd.prog W 0 (fun _ => true) true Tryd.f7.params.toList args.toList ds p := hA0
  rw [Tryd.params7] at hA hval hsz
  obtain ⟨v0, vs0, d0, ds0, p0, q0, hargs, rfl, rfl, h0, r0⟩ := trodAll_cons hA
  obtain ⟨rfl, rfl, rfl⟩ := trodAll_nil r0
  obtain rfl : args = #[v0] := by cases args; simp_all
  obtain ⟨rfl, rfl⟩ := trodVars_none hV
  have s_ : (DataW.weightsEach Tryd.prog [22] [d0]).all (· ≤ reachBytes) = true := hsz
  obtain ⟨s0, s_⟩ := sized_cons' s_
  have k0 := h0
  have lt0 : ∀ x ∈ p0, x.block < W.heap.size := by obtain ⟨m, hm⟩ := k0; exact DataW.trod_lt m _ _ _ hm
  obtain ⟨ι0, g0, u0, c0, sb0, ex0, rv0, av0⟩ := Opn.argL Tryd.underlying22 rfl opn22 (hval 0 22 v0 rfl rfl) h0 s0 (by obtain ⟨e0, e1, e2, rfl⟩ := okWide_slice Tryd.underlying22 (hval 0 22 v0 rfl rfl); rfl) (Cx.nil W)
  clear hA0 hval0 hsz0 hsz
  have hw := row7 (h := g0) u0 av0
  refine (calls_of (Checked.mixed Tryd.checked) (by exact named) (hk_sound) Tryd.func7 rfl hw c0.rel (by exact RVs.cons  rv0 (.nil _)) c0.free c0.ro).mono fun e W' ⟨v, hh, x, κ, hv, he, hx, hst, bel⟩ => ?_
  subst he
  subst hv
  obtain rfl := hx.bool_inv
  exact ⟨_, rfl, _, _, _, [], _, [], hW', trodAll_mk1 (shut_bool Tryd.underlying4 _), (trodAll_cons_mk (Below.trod laidOut (by kernel_rfl) (of_decide_eq_true (by kernel_rfl)) k0 bel lt0) trodAll_mk0), rfl, bel.frame _, fun h => by cases h⟩
theorem over : Rows.codecKeysRow.holds Tryd.pinned (OpenSpec.ofChange Rows.codecKeysSpec) :=
  OpenClaim.holds_of_wide 7 Tryd.f7 rfl rfl rfl rfl rfl rfl rfl ⟨rfl, rfl, rfl, rfl, rfl⟩ rfl rfl rfl rfl rfl (by kernel_rfl) Tryd.func7 (by kernel_rfl)
    (of_decide_eq_true (by kernel_rfl)) (by unfold Func.isWrapper; first | (rw [if_pos (by decide +kernel)]; kernel_rfl) | (rw [if_neg (by decide +kernel)]; exact ⟨rfl, rfl⟩))
    (fun os started H enc _ => lifted os started H enc)
theorem proved0 : Rows.CodecKeysSaid := over
theorem card : Rows.CodecKeysCardSaid :=
  Claim7.holds_tied_plain_at .later [] [.data, .pinned] true (true, "7cb52f85df0593f4000ed915baeff6c20d433fc94e0fa51b069bf8db8a5cde42") false proved0 (fun _ h => by cases h) (by kernel_rfl) (fun _ h => by cases h) codecKeys_row_tie rfl ⟨rfl, rfl⟩ (by kernel_rfl) rfl
    (fun f fn hf hfn => by
      obtain rfl : f = 7 := Option.some.inj ((show Tryd.prog.funcNamed "lineage/lineagelaw04.CodecKeys" = some 7 by kernel_rfl).symm.trans hf) |>.symm
      obtain rfl : fn = Tryd.f7 := (Option.some.inj (Tryd.func7.symm.trans hfn)).symm
      exact ⟨by kernel_rfl, fun j t ht => by
        rw [Tryd.params7] at ht
        have hm : t ∈ [22] := by simpa using Array.mem_of_getElem? ht
        have hall : ([22].all fun u => !Tryd.prog.wantsStandIn u) = true := by kernel_rfl
        exact (show Tryd.prog.wantsStandIn t = false by simpa using List.all_eq_true.1 hall t hm)⟩)
    (by kernel_rfl)
theorem proved : Rows.CodecKeysCardSaid := card
#print axioms proved
end Go.Proofs.YtngcicclaehpbaaDoor.codecKeys
namespace Go.Proofs.YtngcicclaehpbaaDoor
/-- The row, under a short name, for the claim. -/
theorem codecKeys_holds : Rows.CodecKeysCardSaid := codecKeys.proved
end Go.Proofs.YtngcicclaehpbaaDoor
