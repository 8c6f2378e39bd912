/- Words of this session: chapter 4: which values are valid; bytes.ReplaceAll of a zero byte. Words of this session: chapter 4: bytes.Replace of each zero byte. -/
import Derived.Test.YtngcicclaehpbaaDoorPA
import Derived.Test.YtngcicclaehpbaaDoorAx37
import Derived.Test.YtngcicclaehpbaaDoorAx38
import Derived.Test.YtngcicclaehpbaaDoorTy
import Derived.Test.YtngcicclaehpbaaDoorHk
namespace Go.Proofs.YtngcicclaehpbaaDoorA
open Go Go.Proofs Go.RowKit
set_option linter.unusedVariables false
set_option linter.unusedSimpArgs false
set_option maxRecDepth 10000
set_option maxHeartbeats 1000000
noncomputable def hk : Hooks := fun f => if f = 60 then some cntHook else if f = 68 then some idxHook else none
theorem hk_sound : SoundH Tryd.prog hk := by
  constructor
  · intro f g hf args h r q
    unfold hk at hf
    split at hf
    · cases hf; exact cntHook_mono q
    · split at hf
      · cases hf; exact idxHook_mono q
      · cases hf
  · intro f g hf args h v h' q ι w A hr ha hfr
    unfold hk at hf
    split at hf
    · rename_i e
      cases hf; subst e
      exact cntHook_goes Tryd.func60 (by kernel_rfl) (by kernel_rfl) (by kernel_rfl) (by kernel_rfl) q ι w A hr ha hfr
    · split at hf
      · rename_i e
        cases hf; subst e
        exact idxHook_goes Tryd.func68 (by kernel_rfl) (by kernel_rfl) (by kernel_rfl) (by kernel_rfl) q ι w A hr ha hfr
      · cases hf
theorem cnt_call (args : List V) (h : Heap) : callE Tryd.prog hk 60 args h = cntHook args h := rfl
theorem idx_call (args : List V) (h : Heap) : callE Tryd.prog hk 68 args h = idxHook args h := rfl
theorem valid_ok {h : Heap} (v : Vl) : WR (callE Tryd.prog hk 46 [.agg v.enc] h) fun r h' => Ext h h' ∧ r = .bool (validV v) := by
  refine WR.call (hH := rfl) Tryd.func46 rfl (n := 36) rfl rfl (by simp) ?_
  simp -dsimp (disch := first | with_reducible assumption | omega | (intro h_; cases h_; done) | (simp only [LN] <;> omega) | (simp only [LF]; done) | (repeat (first | with_reducible assumption | apply Ext.refl | apply Ext.app | (apply Ext.set <;> omega) | (refine Ext.trans ?_ (by assumption))))) only [AX, TY, gV, dstOf, p_makeFunc, p_mapUpdate, mapPut, entsOf, p_lookup, p_extract, p_nilCheck, oneV, p_load, p_store, p_binOp, p_unOp, p_indexAddr, p_index, p_box, p_build, evParts, builtinV, load1, ldc, splice, minds, disj, rcOf, isCall, touchV, idsOf, mapId, touchB, p_buildSlice, buildSliceV, reps, fillV, p_convert, p_slice, evO, p_makeSlice, sid_some, soff_some, Nat.reduceLT, Nat.reduceLeDiff, Nat.reduceEqDiff, Nat.reduceAdd, Nat.reduceMul, Int.reduceBEq, Int.reduceEq, Int.reduceNeg, Int.reduceLT, Int.reduceLE, Int.reduceAdd, Int.reduceSub, Int.reduceMul, Int.reduceToNat, Int.reduceGT, Nat.reduceBEq, Nat.reducePow, Nat.reduceGT, reduceCtorEq, ↓reduceIte, Vl.enc]
  all_goals try ((first | refine WC_dec (fun hq => ?_) (fun hq => ?_) | refine WC_bool (fun hq => ?_) (fun hq => ?_)) <;> (try simp -dsimp (disch := first | with_reducible assumption | omega | (intro h_; cases h_; done) | (simp only [LN] <;> omega) | (simp only [LF]; done) | (repeat (first | with_reducible assumption | apply Ext.refl | apply Ext.app | (apply Ext.set <;> omega) | (refine Ext.trans ?_ (by assumption))))) only [AX, TY, gV, dstOf, p_makeFunc, p_mapUpdate, mapPut, entsOf, p_lookup, p_extract, p_nilCheck, oneV, p_load, p_store, p_binOp, p_unOp, p_indexAddr, p_index, p_box, p_build, evParts, builtinV, load1, ldc, splice, minds, disj, rcOf, isCall, touchV, idsOf, mapId, touchB, p_buildSlice, buildSliceV, reps, fillV, p_convert, p_slice, evO, p_makeSlice, sid_some, soff_some, Nat.reduceLT, Nat.reduceLeDiff, Nat.reduceEqDiff, Nat.reduceAdd, Nat.reduceMul, Int.reduceBEq, Int.reduceEq, Int.reduceNeg, Int.reduceLT, Int.reduceLE, Int.reduceAdd, Int.reduceSub, Int.reduceMul, Int.reduceToNat, Int.reduceGT, Nat.reduceBEq, Nat.reducePow, Nat.reduceGT, reduceCtorEq, ↓reduceIte, *]))
  all_goals try ((first | refine WC_dec (fun hq => ?_) (fun hq => ?_) | refine WC_bool (fun hq => ?_) (fun hq => ?_)) <;> (try simp -dsimp (disch := first | with_reducible assumption | omega | (intro h_; cases h_; done) | (simp only [LN] <;> omega) | (simp only [LF]; done) | (repeat (first | with_reducible assumption | apply Ext.refl | apply Ext.app | (apply Ext.set <;> omega) | (refine Ext.trans ?_ (by assumption))))) only [AX, TY, gV, dstOf, p_makeFunc, p_mapUpdate, mapPut, entsOf, p_lookup, p_extract, p_nilCheck, oneV, p_load, p_store, p_binOp, p_unOp, p_indexAddr, p_index, p_box, p_build, evParts, builtinV, load1, ldc, splice, minds, disj, rcOf, isCall, touchV, idsOf, mapId, touchB, p_buildSlice, buildSliceV, reps, fillV, p_convert, p_slice, evO, p_makeSlice, sid_some, soff_some, Nat.reduceLT, Nat.reduceLeDiff, Nat.reduceEqDiff, Nat.reduceAdd, Nat.reduceMul, Int.reduceBEq, Int.reduceEq, Int.reduceNeg, Int.reduceLT, Int.reduceLE, Int.reduceAdd, Int.reduceSub, Int.reduceMul, Int.reduceToNat, Int.reduceGT, Nat.reduceBEq, Nat.reducePow, Nat.reduceGT, reduceCtorEq, ↓reduceIte, *]))
  all_goals try ((first | refine WC_dec (fun hq => ?_) (fun hq => ?_) | refine WC_bool (fun hq => ?_) (fun hq => ?_)) <;> (try simp -dsimp (disch := first | with_reducible assumption | omega | (intro h_; cases h_; done) | (simp only [LN] <;> omega) | (simp only [LF]; done) | (repeat (first | with_reducible assumption | apply Ext.refl | apply Ext.app | (apply Ext.set <;> omega) | (refine Ext.trans ?_ (by assumption))))) only [AX, TY, gV, dstOf, p_makeFunc, p_mapUpdate, mapPut, entsOf, p_lookup, p_extract, p_nilCheck, oneV, p_load, p_store, p_binOp, p_unOp, p_indexAddr, p_index, p_box, p_build, evParts, builtinV, load1, ldc, splice, minds, disj, rcOf, isCall, touchV, idsOf, mapId, touchB, p_buildSlice, buildSliceV, reps, fillV, p_convert, p_slice, evO, p_makeSlice, sid_some, soff_some, Nat.reduceLT, Nat.reduceLeDiff, Nat.reduceEqDiff, Nat.reduceAdd, Nat.reduceMul, Int.reduceBEq, Int.reduceEq, Int.reduceNeg, Int.reduceLT, Int.reduceLE, Int.reduceAdd, Int.reduceSub, Int.reduceMul, Int.reduceToNat, Int.reduceGT, Nat.reduceBEq, Nat.reducePow, Nat.reduceGT, reduceCtorEq, ↓reduceIte, *]))
  all_goals try ((first | refine WC_dec (fun hq => ?_) (fun hq => ?_) | refine WC_bool (fun hq => ?_) (fun hq => ?_)) <;> (try simp -dsimp (disch := first | with_reducible assumption | omega | (intro h_; cases h_; done) | (simp only [LN] <;> omega) | (simp only [LF]; done) | (repeat (first | with_reducible assumption | apply Ext.refl | apply Ext.app | (apply Ext.set <;> omega) | (refine Ext.trans ?_ (by assumption))))) only [AX, TY, gV, dstOf, p_makeFunc, p_mapUpdate, mapPut, entsOf, p_lookup, p_extract, p_nilCheck, oneV, p_load, p_store, p_binOp, p_unOp, p_indexAddr, p_index, p_box, p_build, evParts, builtinV, load1, ldc, splice, minds, disj, rcOf, isCall, touchV, idsOf, mapId, touchB, p_buildSlice, buildSliceV, reps, fillV, p_convert, p_slice, evO, p_makeSlice, sid_some, soff_some, Nat.reduceLT, Nat.reduceLeDiff, Nat.reduceEqDiff, Nat.reduceAdd, Nat.reduceMul, Int.reduceBEq, Int.reduceEq, Int.reduceNeg, Int.reduceLT, Int.reduceLE, Int.reduceAdd, Int.reduceSub, Int.reduceMul, Int.reduceToNat, Int.reduceGT, Nat.reduceBEq, Nat.reducePow, Nat.reduceGT, reduceCtorEq, ↓reduceIte, *]))
  all_goals try ((first | refine WC_dec (fun hq => ?_) (fun hq => ?_) | refine WC_bool (fun hq => ?_) (fun hq => ?_)) <;> (try simp -dsimp (disch := first | with_reducible assumption | omega | (intro h_; cases h_; done) | (simp only [LN] <;> omega) | (simp only [LF]; done) | (repeat (first | with_reducible assumption | apply Ext.refl | apply Ext.app | (apply Ext.set <;> omega) | (refine Ext.trans ?_ (by assumption))))) only [AX, TY, gV, dstOf, p_makeFunc, p_mapUpdate, mapPut, entsOf, p_lookup, p_extract, p_nilCheck, oneV, p_load, p_store, p_binOp, p_unOp, p_indexAddr, p_index, p_box, p_build, evParts, builtinV, load1, ldc, splice, minds, disj, rcOf, isCall, touchV, idsOf, mapId, touchB, p_buildSlice, buildSliceV, reps, fillV, p_convert, p_slice, evO, p_makeSlice, sid_some, soff_some, Nat.reduceLT, Nat.reduceLeDiff, Nat.reduceEqDiff, Nat.reduceAdd, Nat.reduceMul, Int.reduceBEq, Int.reduceEq, Int.reduceNeg, Int.reduceLT, Int.reduceLE, Int.reduceAdd, Int.reduceSub, Int.reduceMul, Int.reduceToNat, Int.reduceGT, Nat.reduceBEq, Nat.reducePow, Nat.reduceGT, reduceCtorEq, ↓reduceIte, *]))
  all_goals try ((first | refine WC_dec (fun hq => ?_) (fun hq => ?_) | refine WC_bool (fun hq => ?_) (fun hq => ?_)) <;> (try simp -dsimp (disch := first | with_reducible assumption | omega | (intro h_; cases h_; done) | (simp only [LN] <;> omega) | (simp only [LF]; done) | (repeat (first | with_reducible assumption | apply Ext.refl | apply Ext.app | (apply Ext.set <;> omega) | (refine Ext.trans ?_ (by assumption))))) only [AX, TY, gV, dstOf, p_makeFunc, p_mapUpdate, mapPut, entsOf, p_lookup, p_extract, p_nilCheck, oneV, p_load, p_store, p_binOp, p_unOp, p_indexAddr, p_index, p_box, p_build, evParts, builtinV, load1, ldc, splice, minds, disj, rcOf, isCall, touchV, idsOf, mapId, touchB, p_buildSlice, buildSliceV, reps, fillV, p_convert, p_slice, evO, p_makeSlice, sid_some, soff_some, Nat.reduceLT, Nat.reduceLeDiff, Nat.reduceEqDiff, Nat.reduceAdd, Nat.reduceMul, Int.reduceBEq, Int.reduceEq, Int.reduceNeg, Int.reduceLT, Int.reduceLE, Int.reduceAdd, Int.reduceSub, Int.reduceMul, Int.reduceToNat, Int.reduceGT, Nat.reduceBEq, Nat.reducePow, Nat.reduceGT, reduceCtorEq, ↓reduceIte, *]))
  all_goals (refine ⟨(by (repeat (first | assumption | apply Ext.refl | apply Ext.app | (apply Ext.set <;> omega) | exact Ext.trans (by assumption) (by assumption) | (refine Ext.trans ?_ (by assumption))))), ?_⟩; simp [validV, *] <;> omega)
theorem refValid_ok {h : Heap} (v : Vl) : WR (callE Tryd.prog hk 13 [.agg v.enc] h) fun r h' => Ext h h' ∧ r = .bool (validV v) := by
  refine WR.call (hH := rfl) Tryd.func13 rfl (n := 36) rfl rfl (by simp) ?_
  simp -dsimp (disch := first | with_reducible assumption | omega | (intro h_; cases h_; done) | (simp only [LN] <;> omega) | (simp only [LF]; done) | (repeat (first | with_reducible assumption | apply Ext.refl | apply Ext.app | (apply Ext.set <;> omega) | (refine Ext.trans ?_ (by assumption))))) only [AX, TY, gV, dstOf, p_makeFunc, p_mapUpdate, mapPut, entsOf, p_lookup, p_extract, p_nilCheck, oneV, p_load, p_store, p_binOp, p_unOp, p_indexAddr, p_index, p_box, p_build, evParts, builtinV, load1, ldc, splice, minds, disj, rcOf, isCall, touchV, idsOf, mapId, touchB, p_buildSlice, buildSliceV, reps, fillV, p_convert, p_slice, evO, p_makeSlice, sid_some, soff_some, Nat.reduceLT, Nat.reduceLeDiff, Nat.reduceEqDiff, Nat.reduceAdd, Nat.reduceMul, Int.reduceBEq, Int.reduceEq, Int.reduceNeg, Int.reduceLT, Int.reduceLE, Int.reduceAdd, Int.reduceSub, Int.reduceMul, Int.reduceToNat, Int.reduceGT, Nat.reduceBEq, Nat.reducePow, Nat.reduceGT, reduceCtorEq, ↓reduceIte, Vl.enc]
  all_goals try ((first | refine WC_dec (fun hq => ?_) (fun hq => ?_) | refine WC_bool (fun hq => ?_) (fun hq => ?_)) <;> (try simp -dsimp (disch := first | with_reducible assumption | omega | (intro h_; cases h_; done) | (simp only [LN] <;> omega) | (simp only [LF]; done) | (repeat (first | with_reducible assumption | apply Ext.refl | apply Ext.app | (apply Ext.set <;> omega) | (refine Ext.trans ?_ (by assumption))))) only [AX, TY, gV, dstOf, p_makeFunc, p_mapUpdate, mapPut, entsOf, p_lookup, p_extract, p_nilCheck, oneV, p_load, p_store, p_binOp, p_unOp, p_indexAddr, p_index, p_box, p_build, evParts, builtinV, load1, ldc, splice, minds, disj, rcOf, isCall, touchV, idsOf, mapId, touchB, p_buildSlice, buildSliceV, reps, fillV, p_convert, p_slice, evO, p_makeSlice, sid_some, soff_some, Nat.reduceLT, Nat.reduceLeDiff, Nat.reduceEqDiff, Nat.reduceAdd, Nat.reduceMul, Int.reduceBEq, Int.reduceEq, Int.reduceNeg, Int.reduceLT, Int.reduceLE, Int.reduceAdd, Int.reduceSub, Int.reduceMul, Int.reduceToNat, Int.reduceGT, Nat.reduceBEq, Nat.reducePow, Nat.reduceGT, reduceCtorEq, ↓reduceIte, *]))
  all_goals try ((first | refine WC_dec (fun hq => ?_) (fun hq => ?_) | refine WC_bool (fun hq => ?_) (fun hq => ?_)) <;> (try simp -dsimp (disch := first | with_reducible assumption | omega | (intro h_; cases h_; done) | (simp only [LN] <;> omega) | (simp only [LF]; done) | (repeat (first | with_reducible assumption | apply Ext.refl | apply Ext.app | (apply Ext.set <;> omega) | (refine Ext.trans ?_ (by assumption))))) only [AX, TY, gV, dstOf, p_makeFunc, p_mapUpdate, mapPut, entsOf, p_lookup, p_extract, p_nilCheck, oneV, p_load, p_store, p_binOp, p_unOp, p_indexAddr, p_index, p_box, p_build, evParts, builtinV, load1, ldc, splice, minds, disj, rcOf, isCall, touchV, idsOf, mapId, touchB, p_buildSlice, buildSliceV, reps, fillV, p_convert, p_slice, evO, p_makeSlice, sid_some, soff_some, Nat.reduceLT, Nat.reduceLeDiff, Nat.reduceEqDiff, Nat.reduceAdd, Nat.reduceMul, Int.reduceBEq, Int.reduceEq, Int.reduceNeg, Int.reduceLT, Int.reduceLE, Int.reduceAdd, Int.reduceSub, Int.reduceMul, Int.reduceToNat, Int.reduceGT, Nat.reduceBEq, Nat.reducePow, Nat.reduceGT, reduceCtorEq, ↓reduceIte, *]))
  all_goals try ((first | refine WC_dec (fun hq => ?_) (fun hq => ?_) | refine WC_bool (fun hq => ?_) (fun hq => ?_)) <;> (try simp -dsimp (disch := first | with_reducible assumption | omega | (intro h_; cases h_; done) | (simp only [LN] <;> omega) | (simp only [LF]; done) | (repeat (first | with_reducible assumption | apply Ext.refl | apply Ext.app | (apply Ext.set <;> omega) | (refine Ext.trans ?_ (by assumption))))) only [AX, TY, gV, dstOf, p_makeFunc, p_mapUpdate, mapPut, entsOf, p_lookup, p_extract, p_nilCheck, oneV, p_load, p_store, p_binOp, p_unOp, p_indexAddr, p_index, p_box, p_build, evParts, builtinV, load1, ldc, splice, minds, disj, rcOf, isCall, touchV, idsOf, mapId, touchB, p_buildSlice, buildSliceV, reps, fillV, p_convert, p_slice, evO, p_makeSlice, sid_some, soff_some, Nat.reduceLT, Nat.reduceLeDiff, Nat.reduceEqDiff, Nat.reduceAdd, Nat.reduceMul, Int.reduceBEq, Int.reduceEq, Int.reduceNeg, Int.reduceLT, Int.reduceLE, Int.reduceAdd, Int.reduceSub, Int.reduceMul, Int.reduceToNat, Int.reduceGT, Nat.reduceBEq, Nat.reducePow, Nat.reduceGT, reduceCtorEq, ↓reduceIte, *]))
  all_goals try ((first | refine WC_dec (fun hq => ?_) (fun hq => ?_) | refine WC_bool (fun hq => ?_) (fun hq => ?_)) <;> (try simp -dsimp (disch := first | with_reducible assumption | omega | (intro h_; cases h_; done) | (simp only [LN] <;> omega) | (simp only [LF]; done) | (repeat (first | with_reducible assumption | apply Ext.refl | apply Ext.app | (apply Ext.set <;> omega) | (refine Ext.trans ?_ (by assumption))))) only [AX, TY, gV, dstOf, p_makeFunc, p_mapUpdate, mapPut, entsOf, p_lookup, p_extract, p_nilCheck, oneV, p_load, p_store, p_binOp, p_unOp, p_indexAddr, p_index, p_box, p_build, evParts, builtinV, load1, ldc, splice, minds, disj, rcOf, isCall, touchV, idsOf, mapId, touchB, p_buildSlice, buildSliceV, reps, fillV, p_convert, p_slice, evO, p_makeSlice, sid_some, soff_some, Nat.reduceLT, Nat.reduceLeDiff, Nat.reduceEqDiff, Nat.reduceAdd, Nat.reduceMul, Int.reduceBEq, Int.reduceEq, Int.reduceNeg, Int.reduceLT, Int.reduceLE, Int.reduceAdd, Int.reduceSub, Int.reduceMul, Int.reduceToNat, Int.reduceGT, Nat.reduceBEq, Nat.reducePow, Nat.reduceGT, reduceCtorEq, ↓reduceIte, *]))
  all_goals try ((first | refine WC_dec (fun hq => ?_) (fun hq => ?_) | refine WC_bool (fun hq => ?_) (fun hq => ?_)) <;> (try simp -dsimp (disch := first | with_reducible assumption | omega | (intro h_; cases h_; done) | (simp only [LN] <;> omega) | (simp only [LF]; done) | (repeat (first | with_reducible assumption | apply Ext.refl | apply Ext.app | (apply Ext.set <;> omega) | (refine Ext.trans ?_ (by assumption))))) only [AX, TY, gV, dstOf, p_makeFunc, p_mapUpdate, mapPut, entsOf, p_lookup, p_extract, p_nilCheck, oneV, p_load, p_store, p_binOp, p_unOp, p_indexAddr, p_index, p_box, p_build, evParts, builtinV, load1, ldc, splice, minds, disj, rcOf, isCall, touchV, idsOf, mapId, touchB, p_buildSlice, buildSliceV, reps, fillV, p_convert, p_slice, evO, p_makeSlice, sid_some, soff_some, Nat.reduceLT, Nat.reduceLeDiff, Nat.reduceEqDiff, Nat.reduceAdd, Nat.reduceMul, Int.reduceBEq, Int.reduceEq, Int.reduceNeg, Int.reduceLT, Int.reduceLE, Int.reduceAdd, Int.reduceSub, Int.reduceMul, Int.reduceToNat, Int.reduceGT, Nat.reduceBEq, Nat.reducePow, Nat.reduceGT, reduceCtorEq, ↓reduceIte, *]))
  all_goals try ((first | refine WC_dec (fun hq => ?_) (fun hq => ?_) | refine WC_bool (fun hq => ?_) (fun hq => ?_)) <;> (try simp -dsimp (disch := first | with_reducible assumption | omega | (intro h_; cases h_; done) | (simp only [LN] <;> omega) | (simp only [LF]; done) | (repeat (first | with_reducible assumption | apply Ext.refl | apply Ext.app | (apply Ext.set <;> omega) | (refine Ext.trans ?_ (by assumption))))) only [AX, TY, gV, dstOf, p_makeFunc, p_mapUpdate, mapPut, entsOf, p_lookup, p_extract, p_nilCheck, oneV, p_load, p_store, p_binOp, p_unOp, p_indexAddr, p_index, p_box, p_build, evParts, builtinV, load1, ldc, splice, minds, disj, rcOf, isCall, touchV, idsOf, mapId, touchB, p_buildSlice, buildSliceV, reps, fillV, p_convert, p_slice, evO, p_makeSlice, sid_some, soff_some, Nat.reduceLT, Nat.reduceLeDiff, Nat.reduceEqDiff, Nat.reduceAdd, Nat.reduceMul, Int.reduceBEq, Int.reduceEq, Int.reduceNeg, Int.reduceLT, Int.reduceLE, Int.reduceAdd, Int.reduceSub, Int.reduceMul, Int.reduceToNat, Int.reduceGT, Nat.reduceBEq, Nat.reducePow, Nat.reduceGT, reduceCtorEq, ↓reduceIte, *]))
  all_goals (refine ⟨(by (repeat (first | assumption | apply Ext.refl | apply Ext.app | (apply Ext.set <;> omega) | exact Ext.trans (by assumption) (by assumption) | (refine Ext.trans ?_ (by assumption))))), ?_⟩; simp [validV, *] <;> omega)
theorem allValid_ok {h : Heap} {p : Option (Nat × Nat)} {c : Option Nat} {ys : List Vl} (hs : Sl h p 3 Vl.enc ys) : WR (callE Tryd.prog hk 39 [.slice p ys.length c] h) fun r h' => Ext h h' ∧ r = .bool (ys.all validV) := by
  have hn := hs.nil'
  have hl := hs.small
  refine WR.call (hH := rfl) Tryd.func39 rfl (n := 15) rfl rfl (by simp) ?_
  simp -dsimp (disch := first | with_reducible assumption | omega | (intro h_; cases h_; done) | (simp only [LN] <;> omega) | (simp only [LF]; done) | (repeat (first | with_reducible assumption | apply Ext.refl | apply Ext.app | (apply Ext.set <;> omega) | (refine Ext.trans ?_ (by assumption))))) only [AX, TY, gV, dstOf, p_makeFunc, p_mapUpdate, mapPut, entsOf, p_lookup, p_extract, p_nilCheck, oneV, p_load, p_store, p_binOp, p_unOp, p_indexAddr, p_index, p_box, p_build, evParts, builtinV, load1, ldc, splice, minds, disj, rcOf, isCall, touchV, idsOf, mapId, touchB, p_buildSlice, buildSliceV, reps, fillV, p_convert, p_slice, evO, p_makeSlice, sid_some, soff_some, Nat.reduceLT, Nat.reduceLeDiff, Nat.reduceEqDiff, Nat.reduceAdd, Nat.reduceMul, Int.reduceBEq, Int.reduceEq, Int.reduceNeg, Int.reduceLT, Int.reduceLE, Int.reduceAdd, Int.reduceSub, Int.reduceMul, Int.reduceToNat, Int.reduceGT, Nat.reduceBEq, Nat.reducePow, Nat.reduceGT, reduceCtorEq, ↓reduceIte]
  refine W.loop (fun m τ hh => Ext h hh ∧ ∃ i : Nat, m + i = ys.length ∧ τ 5 = .slice p ys.length c ∧ τ 6 = .int .i64 ys.length ∧ τ 7 = .int .i64 i ∧ (ys.take i).all validV = true) ?_ (m := ys.length) ?_
  rotate_left
  · exact ⟨.refl _, 0, by simp, rfl, rfl, rfl, rfl⟩
  rintro m τ hh ⟨e, i, hm, t5, t6, t7, hall⟩
  by_cases h1 : (i : Int) < (ys.length : Int)
  · have hi : i < ys.length := by omega
    simp -dsimp (disch := first | with_reducible assumption | omega | (intro h_; cases h_; done) | (simp only [LN] <;> omega) | (simp only [LF]; done) | (repeat (first | with_reducible assumption | apply Ext.refl | apply Ext.app | (apply Ext.set <;> omega) | (refine Ext.trans ?_ (by assumption))))) only [AX, TY, gV, dstOf, p_makeFunc, p_mapUpdate, mapPut, entsOf, p_lookup, p_extract, p_nilCheck, oneV, p_load, p_store, p_binOp, p_unOp, p_indexAddr, p_index, p_box, p_build, evParts, builtinV, load1, ldc, splice, minds, disj, rcOf, isCall, touchV, idsOf, mapId, touchB, p_buildSlice, buildSliceV, reps, fillV, p_convert, p_slice, evO, p_makeSlice, sid_some, soff_some, Nat.reduceLT, Nat.reduceLeDiff, Nat.reduceEqDiff, Nat.reduceAdd, Nat.reduceMul, Int.reduceBEq, Int.reduceEq, Int.reduceNeg, Int.reduceLT, Int.reduceLE, Int.reduceAdd, Int.reduceSub, Int.reduceMul, Int.reduceToNat, Int.reduceGT, Nat.reduceBEq, Nat.reducePow, Nat.reduceGT, reduceCtorEq, ↓reduceIte, t5, t6, t7, h1, hs.load0, Vl.enc]
    refine (valid_ok ys[i]).mono ?_
    rintro _ h2 ⟨e2, rfl⟩
    have e12 : Ext h h2 := (by (repeat (first | assumption | apply Ext.refl | apply Ext.app | (apply Ext.set <;> omega) | exact Ext.trans (by assumption) (by assumption) | (refine Ext.trans ?_ (by assumption)))))
    cases hv : validV ys[i]
    · simp -dsimp (disch := first | with_reducible assumption | omega | (intro h_; cases h_; done) | (simp only [LN] <;> omega) | (simp only [LF]; done) | (repeat (first | with_reducible assumption | apply Ext.refl | apply Ext.app | (apply Ext.set <;> omega) | (refine Ext.trans ?_ (by assumption))))) only [AX, TY, gV, dstOf, p_makeFunc, p_mapUpdate, mapPut, entsOf, p_lookup, p_extract, p_nilCheck, oneV, p_load, p_store, p_binOp, p_unOp, p_indexAddr, p_index, p_box, p_build, evParts, builtinV, load1, ldc, splice, minds, disj, rcOf, isCall, touchV, idsOf, mapId, touchB, p_buildSlice, buildSliceV, reps, fillV, p_convert, p_slice, evO, p_makeSlice, sid_some, soff_some, Nat.reduceLT, Nat.reduceLeDiff, Nat.reduceEqDiff, Nat.reduceAdd, Nat.reduceMul, Int.reduceBEq, Int.reduceEq, Int.reduceNeg, Int.reduceLT, Int.reduceLE, Int.reduceAdd, Int.reduceSub, Int.reduceMul, Int.reduceToNat, Int.reduceGT, Nat.reduceBEq, Nat.reducePow, Nat.reduceGT, reduceCtorEq, ↓reduceIte, t5, t6, t7]
      refine ⟨e12, ?_⟩
      have : ys.all validV = false := List.all_eq_false.2 ⟨_, List.getElem_mem hi, by simp [hv]⟩
      rw [this]
    · simp -dsimp (disch := first | with_reducible assumption | omega | (intro h_; cases h_; done) | (simp only [LN] <;> omega) | (simp only [LF]; done) | (repeat (first | with_reducible assumption | apply Ext.refl | apply Ext.app | (apply Ext.set <;> omega) | (refine Ext.trans ?_ (by assumption))))) only [AX, TY, gV, dstOf, p_makeFunc, p_mapUpdate, mapPut, entsOf, p_lookup, p_extract, p_nilCheck, oneV, p_load, p_store, p_binOp, p_unOp, p_indexAddr, p_index, p_box, p_build, evParts, builtinV, load1, ldc, splice, minds, disj, rcOf, isCall, touchV, idsOf, mapId, touchB, p_buildSlice, buildSliceV, reps, fillV, p_convert, p_slice, evO, p_makeSlice, sid_some, soff_some, Nat.reduceLT, Nat.reduceLeDiff, Nat.reduceEqDiff, Nat.reduceAdd, Nat.reduceMul, Int.reduceBEq, Int.reduceEq, Int.reduceNeg, Int.reduceLT, Int.reduceLE, Int.reduceAdd, Int.reduceSub, Int.reduceMul, Int.reduceToNat, Int.reduceGT, Nat.reduceBEq, Nat.reducePow, Nat.reduceGT, reduceCtorEq, ↓reduceIte, t5, t6, t7, wrap_in]
      refine ⟨m - 1, by omega, e12, i + 1, by omega, by simp, ?_⟩
      rw [List.take_succ_eq_append_getElem hi, List.all_append, hall]; simp [hv]
  · simp -dsimp (disch := first | with_reducible assumption | omega | (intro h_; cases h_; done) | (simp only [LN] <;> omega) | (simp only [LF]; done) | (repeat (first | with_reducible assumption | apply Ext.refl | apply Ext.app | (apply Ext.set <;> omega) | (refine Ext.trans ?_ (by assumption))))) only [AX, TY, gV, dstOf, p_makeFunc, p_mapUpdate, mapPut, entsOf, p_lookup, p_extract, p_nilCheck, oneV, p_load, p_store, p_binOp, p_unOp, p_indexAddr, p_index, p_box, p_build, evParts, builtinV, load1, ldc, splice, minds, disj, rcOf, isCall, touchV, idsOf, mapId, touchB, p_buildSlice, buildSliceV, reps, fillV, p_convert, p_slice, evO, p_makeSlice, sid_some, soff_some, Nat.reduceLT, Nat.reduceLeDiff, Nat.reduceEqDiff, Nat.reduceAdd, Nat.reduceMul, Int.reduceBEq, Int.reduceEq, Int.reduceNeg, Int.reduceLT, Int.reduceLE, Int.reduceAdd, Int.reduceSub, Int.reduceMul, Int.reduceToNat, Int.reduceGT, Nat.reduceBEq, Nat.reducePow, Nat.reduceGT, reduceCtorEq, ↓reduceIte, t5, t6, t7, h1]
    rw [List.take_of_length_le (by omega)] at hall
    exact ⟨e, by rw [hall]⟩
theorem count_ok {h : Heap} {p po : Option (Nat × Nat)} {c co : Option Nat} {s : List Int} {x : Int} (hs : Sl h p 1 eb s) (hb : Bt s) (ho : Sl h po 1 eb [x]) (hx : 0 ≤ x ∧ x < 256) : WR (callE Tryd.prog hk 56 [.slice p s.length c, .slice po 1 co] h) fun r h' => h = h' ∧ r = .int .i64 (s.count x : Nat) := by
  have hn : po = none → 1 = 0 := ho.nil'
  have hc : cntHook [.slice p s.length c, .int .u8 x] h = some (.int .i64 (s.count x : Nat), h) := by
    simp only [cntHook, bytesAt_sl hs (.refl h) hb]; rw [if_pos hx]
  have h0 := ho.load0 (.refl h) (i := 0) (m := 1) (by simp) (Nat.le_refl _)
  simp only [List.getElem_cons_zero, Nat.zero_mul, Nat.add_zero] at h0
  refine WR.call (hH := rfl) Tryd.func56 rfl (n := 35) rfl rfl (by simp) ?_
  simp -dsimp (disch := first | with_reducible assumption | omega | (intro h_; cases h_; done) | (simp only [LN] <;> omega) | (simp only [LF]; done) | (repeat (first | with_reducible assumption | apply Ext.refl | apply Ext.app | (apply Ext.set <;> omega) | (refine Ext.trans ?_ (by assumption))))) only [AX, TY, gV, dstOf, p_makeFunc, p_mapUpdate, mapPut, entsOf, p_lookup, p_extract, p_nilCheck, oneV, p_load, p_store, p_binOp, p_unOp, p_indexAddr, p_index, p_box, p_build, evParts, builtinV, load1, ldc, splice, minds, disj, rcOf, isCall, touchV, idsOf, mapId, touchB, p_buildSlice, buildSliceV, reps, fillV, p_convert, p_slice, evO, p_makeSlice, sid_some, soff_some, Nat.reduceLT, Nat.reduceLeDiff, Nat.reduceEqDiff, Nat.reduceAdd, Nat.reduceMul, Int.reduceBEq, Int.reduceEq, Int.reduceNeg, Int.reduceLT, Int.reduceLE, Int.reduceAdd, Int.reduceSub, Int.reduceMul, Int.reduceToNat, Int.reduceGT, Nat.reduceBEq, Nat.reducePow, Nat.reduceGT, reduceCtorEq, ↓reduceIte, h0, eb, cnt_call, hc]
theorem indexByte_ok {h : Heap} {p : Option (Nat × Nat)} {c : Option Nat} {s : List Int} {x : Int} (hs : Sl h p 1 eb s) (hb : Bt s) (hx : 0 ≤ x ∧ x < 256) : WR (callE Tryd.prog hk 61 [.slice p s.length c, .int .u8 x] h) fun r h' => h = h' ∧ r = .int .i64 (idxL s x) := by
  have hc : idxHook [.slice p s.length c, .int .u8 x] h = some (.int .i64 (idxL s x), h) := by
    simp only [idxHook, bytesAt_sl hs (.refl h) hb]; rw [if_pos hx]
  refine WR.call (hH := rfl) Tryd.func61 rfl (n := 8) rfl rfl (by simp) ?_
  simp -dsimp (disch := first | with_reducible assumption | omega | (intro h_; cases h_; done) | (simp only [LN] <;> omega) | (simp only [LF]; done) | (repeat (first | with_reducible assumption | apply Ext.refl | apply Ext.app | (apply Ext.set <;> omega) | (refine Ext.trans ?_ (by assumption))))) only [AX, TY, gV, dstOf, p_makeFunc, p_mapUpdate, mapPut, entsOf, p_lookup, p_extract, p_nilCheck, oneV, p_load, p_store, p_binOp, p_unOp, p_indexAddr, p_index, p_box, p_build, evParts, builtinV, load1, ldc, splice, minds, disj, rcOf, isCall, touchV, idsOf, mapId, touchB, p_buildSlice, buildSliceV, reps, fillV, p_convert, p_slice, evO, p_makeSlice, sid_some, soff_some, Nat.reduceLT, Nat.reduceLeDiff, Nat.reduceEqDiff, Nat.reduceAdd, Nat.reduceMul, Int.reduceBEq, Int.reduceEq, Int.reduceNeg, Int.reduceLT, Int.reduceLE, Int.reduceAdd, Int.reduceSub, Int.reduceMul, Int.reduceToNat, Int.reduceGT, Nat.reduceBEq, Nat.reducePow, Nat.reduceGT, reduceCtorEq, ↓reduceIte, idx_call, hc]
theorem index_ok {h : Heap} {p po : Option (Nat × Nat)} {c co : Option Nat} {s : List Int} {x : Int} (hs : Sl h p 1 eb s) (hb : Bt s) (ho : Sl h po 1 eb [x]) (hx : 0 ≤ x ∧ x < 256) : WR (callE Tryd.prog hk 57 [.slice p s.length c, .slice po 1 co] h) fun r h' => h = h' ∧ r = .int .i64 (idxL s x) := by
  have hn : po = none → 1 = 0 := ho.nil'
  have h0 := ho.load0 (.refl h) (i := 0) (m := 1) (by simp) (Nat.le_refl _)
  simp only [List.getElem_cons_zero, Nat.zero_mul, Nat.add_zero] at h0
  refine WR.call (hH := rfl) Tryd.func57 rfl (n := 200) rfl rfl (by simp) ?_
  simp -dsimp (disch := first | with_reducible assumption | omega | (intro h_; cases h_; done) | (simp only [LN] <;> omega) | (simp only [LF]; done) | (repeat (first | with_reducible assumption | apply Ext.refl | apply Ext.app | (apply Ext.set <;> omega) | (refine Ext.trans ?_ (by assumption))))) only [AX, TY, gV, dstOf, p_makeFunc, p_mapUpdate, mapPut, entsOf, p_lookup, p_extract, p_nilCheck, oneV, p_load, p_store, p_binOp, p_unOp, p_indexAddr, p_index, p_box, p_build, evParts, builtinV, load1, ldc, splice, minds, disj, rcOf, isCall, touchV, idsOf, mapId, touchB, p_buildSlice, buildSliceV, reps, fillV, p_convert, p_slice, evO, p_makeSlice, sid_some, soff_some, Nat.reduceLT, Nat.reduceLeDiff, Nat.reduceEqDiff, Nat.reduceAdd, Nat.reduceMul, Int.reduceBEq, Int.reduceEq, Int.reduceNeg, Int.reduceLT, Int.reduceLE, Int.reduceAdd, Int.reduceSub, Int.reduceMul, Int.reduceToNat, Int.reduceGT, Nat.reduceBEq, Nat.reducePow, Nat.reduceGT, reduceCtorEq, ↓reduceIte, h0, eb]
  refine (indexByte_ok hs hb hx).mono ?_
  rintro _ _ ⟨rfl, rfl⟩
  simp -dsimp (disch := first | with_reducible assumption | omega | (intro h_; cases h_; done) | (simp only [LN] <;> omega) | (simp only [LF]; done) | (repeat (first | with_reducible assumption | apply Ext.refl | apply Ext.app | (apply Ext.set <;> omega) | (refine Ext.trans ?_ (by assumption))))) only [AX, TY, gV, dstOf, p_makeFunc, p_mapUpdate, mapPut, entsOf, p_lookup, p_extract, p_nilCheck, oneV, p_load, p_store, p_binOp, p_unOp, p_indexAddr, p_index, p_box, p_build, evParts, builtinV, load1, ldc, splice, minds, disj, rcOf, isCall, touchV, idsOf, mapId, touchB, p_buildSlice, buildSliceV, reps, fillV, p_convert, p_slice, evO, p_makeSlice, sid_some, soff_some, Nat.reduceLT, Nat.reduceLeDiff, Nat.reduceEqDiff, Nat.reduceAdd, Nat.reduceMul, Int.reduceBEq, Int.reduceEq, Int.reduceNeg, Int.reduceLT, Int.reduceLE, Int.reduceAdd, Int.reduceSub, Int.reduceMul, Int.reduceToNat, Int.reduceGT, Nat.reduceBEq, Nat.reducePow, Nat.reduceGT, reduceCtorEq, ↓reduceIte]
end Go.Proofs.YtngcicclaehpbaaDoorA
namespace Go.Proofs.YtngcicclaehpbaaDoorA
open Go Go.Proofs Go.RowKit
set_option linter.unusedVariables false
set_option linter.unusedSimpArgs false
set_option maxRecDepth 10000
set_option maxHeartbeats 1000000
theorem esc_length (s : List Int) : (esc s).length = s.length + s.count 0 := by
  induction s with
  | nil => rfl
  | cons c s ih =>
    simp only [esc]
    by_cases h : c = 0
    · subst h; simp [ih]; omega
    · rw [if_neg h, List.length_cons, ih, List.length_cons, List.count_cons_of_ne h]; omega
theorem esc_none {s : List Int} (h : s.count 0 = 0) : esc s = s := by
  induction s with
  | nil => rfl
  | cons c s ih =>
    by_cases hc : c = 0
    · subst hc; simp at h
    · rw [List.count_cons_of_ne hc] at h
      simp only [esc, if_neg hc, ih h]
/-- Where a byte is found first. -/
theorem idx_spec : ∀ {s : List Int} {x : Int}, s.count x ≠ 0 → ∃ j : Nat, idxL s x = j ∧ j < s.length ∧ (s.take j).count x = 0 ∧ s.drop j = x :: s.drop (j + 1)
  | [], x, h => by simp at h
  | b :: s, x, h => by
    by_cases e : b = x
    · subst e
      exact ⟨0, by simp [idxL], by simp, by simp, by simp⟩
    · rw [List.count_cons_of_ne e] at h
      obtain ⟨j, h1, h2, h3, h4⟩ := idx_spec h
      refine ⟨j + 1, ?_, by simp; omega, ?_, by simpa using h4⟩
      · rw [idxL, if_neg e, h1, if_neg (by omega)]; omega
      · rw [List.take_succ_cons, List.count_cons_of_ne e]; exact h3
theorem esc_step {s : List Int} {a j : Nat} (h3 : ((s.drop a).take j).count 0 = 0) (h4 : (s.drop a).drop j = 0 :: (s.drop a).drop (j + 1)) : esc (s.take (a + j + 1)) = esc (s.take a) ++ (s.drop a).take j ++ [0, 255] ∧ (s.drop (a + j + 1)).count 0 + 1 = (s.drop a).count 0 := by
  have e1 : s.take (a + j + 1) = s.take a ++ (s.drop a).take j ++ [0] := by
    rw [Nat.add_assoc, List.take_add, List.append_assoc]
    congr 1
    have : j < (s.drop a).length := by
      have := congrArg List.length h4
      simp only [List.length_drop, List.length_cons] at this ⊢; omega
    rw [List.take_succ_eq_append_getElem this]
    congr 1
    have := List.drop_eq_getElem_cons this
    rw [this] at h4
    simp only [List.cons.injEq] at h4
    rw [h4.1]
  constructor
  · rw [e1, esc_app, esc_app, esc_none h3]; rfl
  · have e2 : s.drop (a + j + 1) = (s.drop a).drop (j + 1) := by rw [List.drop_drop]; congr 1
    have e3 : s.drop a = (s.drop a).take j ++ 0 :: (s.drop a).drop (j + 1) := by rw [← h4, List.take_append_drop]
    conv => rhs; rw [e3]
    rw [e2, List.count_append, h3, List.count_cons_self]; omega
structure LR (h1 : Heap) (p : Option (Nat × Nat)) (c : Option Nat) (s : List Int) (po pn : Option (Nat × Nat)) (co cn : Option Nat) (t L : Nat) (i a : Nat) (τ : Tp) (hh : Heap) : Prop where
  t0 : τ 0 = .slice p s.length c
  t1 : τ 1 = .slice po 1 co
  t2 : τ 2 = .slice pn 2 cn
  t10 : τ 10 = .slice (some (t, 0)) L (some L)
  t11 : τ 11 = .int .i64 ((esc (s.take a)).length : Nat)
  t12 : τ 12 = .int .i64 (a : Nat)
  t48 : τ 48 = .int .i64 (s.count 0 : Nat)
  t49 : τ 49 = .int .i64 (i : Nat)
  blk : ∃ Z, hh[t]? = some (.cells ((esc (s.take a) ++ Z).flatMap eb) .rw) ∧ (esc (s.take a) ++ Z).length = L
  ha : a ≤ s.length
  hi : (s.drop a).count 0 + i = s.count 0
theorem reps_eb (n : Nat) : (List.replicate n [V.int .u8 0]).flatten = (List.replicate n (0 : Int)).flatMap eb := by
  induction n with
  | zero => rfl
  | succ n ih => rw [List.replicate_succ, List.flatten_cons, ih, List.replicate_succ, List.flatMap_cons]; rfl
theorem drop_plus {α : Type} (E Z : List α) (j : Nat) : (E ++ Z).drop (E.length + j) = Z.drop j := by
  rw [← List.drop_drop, List.drop_left' rfl]
theorem replace_ok {h : Heap} {p po pn : Option (Nat × Nat)} {c co cn : Option Nat} {s : List Int} (hs : Rs h p c 1 eb s) (hb : Bt s) (ho : Sl h po 1 eb [0]) (hnw : Sl h pn 1 eb [0, 255]) (hl : s.length ≤ 1000000) :
    WR (callE Tryd.prog hk 55 [.slice p s.length c, .slice po 1 co, .slice pn 2 cn, .int .i64 (-1)] h) fun r h' => Ext h h' ∧ ∃ p' c', r = .slice p' (esc s).length c' ∧ Rs h' p' c' 1 eb (esc s) := by
  have hcl : s.count 0 ≤ s.length := List.count_le_length
  refine WR.call (hH := rfl) Tryd.func55 rfl (n := 132) rfl rfl (by simp) ?_
  simp -dsimp (disch := first | with_reducible assumption | omega | (intro h_; cases h_; done) | (simp only [LN] <;> omega) | (simp only [LF]; done) | (repeat (first | with_reducible assumption | apply Ext.refl | apply Ext.app | (apply Ext.set <;> omega) | (refine Ext.trans ?_ (by assumption))))) only [AX, TY, gV, dstOf, p_makeFunc, p_mapUpdate, mapPut, entsOf, p_lookup, p_extract, p_nilCheck, oneV, p_load, p_store, p_binOp, p_unOp, p_indexAddr, p_index, p_box, p_build, evParts, builtinV, load1, ldc, splice, minds, disj, rcOf, isCall, touchV, idsOf, mapId, touchB, p_buildSlice, buildSliceV, reps, fillV, p_convert, p_slice, evO, p_makeSlice, sid_some, soff_some, Nat.reduceLT, Nat.reduceLeDiff, Nat.reduceEqDiff, Nat.reduceAdd, Nat.reduceMul, Int.reduceBEq, Int.reduceEq, Int.reduceNeg, Int.reduceLT, Int.reduceLE, Int.reduceAdd, Int.reduceSub, Int.reduceMul, Int.reduceToNat, Int.reduceGT, Nat.reduceBEq, Nat.reducePow, Nat.reduceGT, reduceCtorEq, ↓reduceIte]
  refine (count_ok hs.sl hb ho (by omega)).mono ?_
  rintro _ _ ⟨rfl, rfl⟩
  by_cases h0 : ((s.count 0 : Nat) : Int) = 0
  · simp -dsimp (disch := first | with_reducible assumption | omega | (intro h_; cases h_; done) | (simp only [LN] <;> omega) | (simp only [LF]; done) | (repeat (first | with_reducible assumption | apply Ext.refl | apply Ext.app | (apply Ext.set <;> omega) | (refine Ext.trans ?_ (by assumption))))) only [AX, TY, gV, dstOf, p_makeFunc, p_mapUpdate, mapPut, entsOf, p_lookup, p_extract, p_nilCheck, oneV, p_load, p_store, p_binOp, p_unOp, p_indexAddr, p_index, p_box, p_build, evParts, builtinV, load1, ldc, splice, minds, disj, rcOf, isCall, touchV, idsOf, mapId, touchB, p_buildSlice, buildSliceV, reps, fillV, p_convert, p_slice, evO, p_makeSlice, sid_some, soff_some, Nat.reduceLT, Nat.reduceLeDiff, Nat.reduceEqDiff, Nat.reduceAdd, Nat.reduceMul, Int.reduceBEq, Int.reduceEq, Int.reduceNeg, Int.reduceLT, Int.reduceLE, Int.reduceAdd, Int.reduceSub, Int.reduceMul, Int.reduceToNat, Int.reduceGT, Nat.reduceBEq, Nat.reducePow, Nat.reduceGT, reduceCtorEq, ↓reduceIte, h0]
    refine ((Gr.nil h.length h 1 eb).wrS (bytes := 1) (Nat.le_refl _) (.refl h) hs.sl (eb_l s) (by simp; omega) (by simp; omega)).mono ?_
    rintro _ h2 ⟨p', c', oid, rfl, gr, ho2, hle, hk2⟩
    simp -dsimp (disch := first | with_reducible assumption | omega | (intro h_; cases h_; done) | (simp only [LN] <;> omega) | (simp only [LF]; done) | (repeat (first | with_reducible assumption | apply Ext.refl | apply Ext.app | (apply Ext.set <;> omega) | (refine Ext.trans ?_ (by assumption))))) only [AX, TY, gV, dstOf, p_makeFunc, p_mapUpdate, mapPut, entsOf, p_lookup, p_extract, p_nilCheck, oneV, p_load, p_store, p_binOp, p_unOp, p_indexAddr, p_index, p_box, p_build, evParts, builtinV, load1, ldc, splice, minds, disj, rcOf, isCall, touchV, idsOf, mapId, touchB, p_buildSlice, buildSliceV, reps, fillV, p_convert, p_slice, evO, p_makeSlice, sid_some, soff_some, Nat.reduceLT, Nat.reduceLeDiff, Nat.reduceEqDiff, Nat.reduceAdd, Nat.reduceMul, Int.reduceBEq, Int.reduceEq, Int.reduceNeg, Int.reduceLT, Int.reduceLE, Int.reduceAdd, Int.reduceSub, Int.reduceMul, Int.reduceToNat, Int.reduceGT, Nat.reduceBEq, Nat.reducePow, Nat.reduceGT, reduceCtorEq, ↓reduceIte]
    rw [esc_none (by omega)]
    exact ⟨Ext.of_keep fun i hi => hk2 i (by simp) hi, p', c', rfl, by simpa using gr.rs⟩
  have hel := esc_length s
  have hsum : (s.length : Int) + (s.count 0 : Nat) * 1 = ((esc s).length : Nat) := by rw [hel]; omega
  simp -dsimp (disch := first | with_reducible assumption | omega | (intro h_; cases h_; done) | (simp only [LN] <;> omega) | (simp only [LF]; done) | (repeat (first | with_reducible assumption | apply Ext.refl | apply Ext.app | (apply Ext.set <;> omega) | (refine Ext.trans ?_ (by assumption))))) only [AX, TY, gV, dstOf, p_makeFunc, p_mapUpdate, mapPut, entsOf, p_lookup, p_extract, p_nilCheck, oneV, p_load, p_store, p_binOp, p_unOp, p_indexAddr, p_index, p_box, p_build, evParts, builtinV, load1, ldc, splice, minds, disj, rcOf, isCall, touchV, idsOf, mapId, touchB, p_buildSlice, buildSliceV, reps, fillV, p_convert, p_slice, evO, p_makeSlice, sid_some, soff_some, Nat.reduceLT, Nat.reduceLeDiff, Nat.reduceEqDiff, Nat.reduceAdd, Nat.reduceMul, Int.reduceBEq, Int.reduceEq, Int.reduceNeg, Int.reduceLT, Int.reduceLE, Int.reduceAdd, Int.reduceSub, Int.reduceMul, Int.reduceToNat, Int.reduceGT, Nat.reduceBEq, Nat.reducePow, Nat.reduceGT, reduceCtorEq, ↓reduceIte, h0, wrap_in, hsum, ho.nil', reps_eb]
  have hx1 : Ext h (h ++ [O.cells ((List.replicate (esc s).length (0 : Int)).flatMap eb) Kd.rw]) := (by (repeat (first | assumption | apply Ext.refl | apply Ext.app | (apply Ext.set <;> omega) | exact Ext.trans (by assumption) (by assumption) | (refine Ext.trans ?_ (by assumption)))))
  have hbl : (h ++ [O.cells ((List.replicate (esc s).length (0 : Int)).flatMap eb) Kd.rw])[h.length]? = some (.cells ((List.replicate (esc s).length (0 : Int)).flatMap eb) .rw) := snoc_last _ rfl
  generalize h ++ [O.cells ((List.replicate (esc s).length (0 : Int)).flatMap eb) Kd.rw] = h1 at hx1 hbl
  have hle1 := lt_of_some hbl
  have hesc : (esc s).length ≤ 2000000 := by omega
  refine W.loop (fun m τ hh => Ext h hh ∧ ∃ i a, m + i = s.count 0 ∧ LR h1 p c s po pn co cn h.length (esc s).length i a τ hh) ?_ (m := s.count 0) ?_
  rotate_left
  · refine ⟨hx1, 0, 0, by simp, ?_⟩
    constructor <;> (try first | assumption | ((repeat (first | assumption | apply Ext.refl | apply Ext.app | (apply Ext.set <;> omega) | exact Ext.trans (by assumption) (by assumption) | (refine Ext.trans ?_ (by assumption)))); done) | (refine Sl.ext (by assumption) ?_; (repeat (first | assumption | apply Ext.refl | apply Ext.app | (apply Ext.set <;> omega) | exact Ext.trans (by assumption) (by assumption) | (refine Ext.trans ?_ (by assumption)))); done) | (simp -dsimp (disch := first | with_reducible assumption | omega | (intro h_; cases h_; done) | (simp only [LN] <;> omega) | (simp only [LF]; done) | (repeat (first | with_reducible assumption | apply Ext.refl | apply Ext.app | (apply Ext.set <;> omega) | (refine Ext.trans ?_ (by assumption))))) only [AX, TY, gV, dstOf, p_makeFunc, p_mapUpdate, mapPut, entsOf, p_lookup, p_extract, p_nilCheck, oneV, p_load, p_store, p_binOp, p_unOp, p_indexAddr, p_index, p_box, p_build, evParts, builtinV, load1, ldc, splice, minds, disj, rcOf, isCall, touchV, idsOf, mapId, touchB, p_buildSlice, buildSliceV, reps, fillV, p_convert, p_slice, evO, p_makeSlice, sid_some, soff_some, Nat.reduceLT, Nat.reduceLeDiff, Nat.reduceEqDiff, Nat.reduceAdd, Nat.reduceMul, Int.reduceBEq, Int.reduceEq, Int.reduceNeg, Int.reduceLT, Int.reduceLE, Int.reduceAdd, Int.reduceSub, Int.reduceMul, Int.reduceToNat, Int.reduceGT, Nat.reduceBEq, Nat.reducePow, Nat.reduceGT, reduceCtorEq, ↓reduceIte, Int.natCast_add, Int.natCast_one, Int.natCast_zero]; try (first | assumption | with_reducible rfl)))
    · simp [esc]
    · exact ⟨List.replicate (esc s).length 0, by simpa [esc] using hbl, by simp [esc]⟩
    · omega
  rintro m τ hh ⟨e, i, a, hmi, t0, t1, t2, t10, t11, t12, t48, t49, ⟨Z, hblk, hlen⟩, ha, hcnt⟩
  have lt1 := lt_of_some hblk
  have hsh := hs.ext e
  by_cases h5 : (i : Int) < (s.count 0 : Nat)
  · have hne : (s.drop a).count 0 ≠ 0 := by omega
    obtain ⟨j, hj1, hj2, hj3, hj4⟩ := idx_spec hne
    have hj2' : j < s.length - a := by simpa using hj2
    obtain ⟨st1, st2⟩ := esc_step hj3 hj4
    obtain ⟨p2, c2, hcut, rs2⟩ := hsh.lo ha
    simp -dsimp (disch := first | with_reducible assumption | omega | (intro h_; cases h_; done) | (simp only [LN] <;> omega) | (simp only [LF]; done) | (repeat (first | with_reducible assumption | apply Ext.refl | apply Ext.app | (apply Ext.set <;> omega) | (refine Ext.trans ?_ (by assumption))))) only [AX, TY, gV, dstOf, p_makeFunc, p_mapUpdate, mapPut, entsOf, p_lookup, p_extract, p_nilCheck, oneV, p_load, p_store, p_binOp, p_unOp, p_indexAddr, p_index, p_box, p_build, evParts, builtinV, load1, ldc, splice, minds, disj, rcOf, isCall, touchV, idsOf, mapId, touchB, p_buildSlice, buildSliceV, reps, fillV, p_convert, p_slice, evO, p_makeSlice, sid_some, soff_some, Nat.reduceLT, Nat.reduceLeDiff, Nat.reduceEqDiff, Nat.reduceAdd, Nat.reduceMul, Int.reduceBEq, Int.reduceEq, Int.reduceNeg, Int.reduceLT, Int.reduceLE, Int.reduceAdd, Int.reduceSub, Int.reduceMul, Int.reduceToNat, Int.reduceGT, Nat.reduceBEq, Nat.reducePow, Nat.reduceGT, reduceCtorEq, ↓reduceIte, t0, t1, t2, t10, t11, t12, t48, t49, h5, hcut]
    have hidx := index_ok (c := c2) (co := co) rs2.sl (hb.drop a) (ho.ext e) (by omega)
    rw [List.length_drop] at hidx
    refine hidx.mono ?_
    rintro _ _ ⟨rfl, rfl⟩
    have hw3 : IntKind.i64.wrap ((a : Int) + idxL (s.drop a) 0) = ((a + j : Nat) : Int) := by rw [hj1, IntKind.wrap_i64]; omega
    simp -dsimp (disch := first | with_reducible assumption | omega | (intro h_; cases h_; done) | (simp only [LN] <;> omega) | (simp only [LF]; done) | (repeat (first | with_reducible assumption | apply Ext.refl | apply Ext.app | (apply Ext.set <;> omega) | (refine Ext.trans ?_ (by assumption))))) only [AX, TY, gV, dstOf, p_makeFunc, p_mapUpdate, mapPut, entsOf, p_lookup, p_extract, p_nilCheck, oneV, p_load, p_store, p_binOp, p_unOp, p_indexAddr, p_index, p_box, p_build, evParts, builtinV, load1, ldc, splice, minds, disj, rcOf, isCall, touchV, idsOf, mapId, touchB, p_buildSlice, buildSliceV, reps, fillV, p_convert, p_slice, evO, p_makeSlice, sid_some, soff_some, Nat.reduceLT, Nat.reduceLeDiff, Nat.reduceEqDiff, Nat.reduceAdd, Nat.reduceMul, Int.reduceBEq, Int.reduceEq, Int.reduceNeg, Int.reduceLT, Int.reduceLE, Int.reduceAdd, Int.reduceSub, Int.reduceMul, Int.reduceToNat, Int.reduceGT, Nat.reduceBEq, Nat.reducePow, Nat.reduceGT, reduceCtorEq, ↓reduceIte, t0, t1, t2, t10, t11, t12, t48, t49, hw3]
    refine W.drawn [(0, []), (1, [0]), (2, [1, 0]), (3, [0]), (4, [3, 2, 1, 0]), (5, [4, 3, 2, 1, 0]), (6, [5, 4, 3, 2, 1, 0]), (7, [3, 2, 1, 0]), (8, [0]), (9, []), (10, [])] (by decide +kernel) ?_
    have hea : (esc (s.take a)).length + j + 2 ≤ (esc s).length := by
      have h1 := congrArg List.length st1
      have h2 : (esc (s.take (a + j + 1))).length ≤ (esc s).length := by
        conv => rhs; rw [← List.take_append_drop (a + j + 1) s, esc_app, List.length_append]
        omega
      rw [List.length_append, List.length_append, List.length_take, List.length_drop] at h1
      simp only [List.length_cons, List.length_nil] at h1
      omega
    obtain ⟨o3, hcut3, ho3⟩ := Blk.lo (sz := 1) (t := h.length) (o0 := 0) (L := (esc s).length) (a := (esc (s.take a)).length) (by omega)
    obtain ⟨p4, c4, hcut4, rs4⟩ := hsh.cut (a := a) (b := a + j) (by omega) (by omega)
    have hsrc : (s.take (a + j)).drop a = (s.drop a).take j := by rw [List.drop_take, Nat.add_sub_cancel_left]
    rw [hsrc] at rs4
    have hsrcl : ((s.drop a).take j).length = j := by simp; omega
    have hzl : Z.length = (esc s).length - (esc (s.take a)).length := by rw [List.length_append] at hlen; omega
    have hcp := Blk.copy (dl := (esc s).length - (esc (s.take a)).length) (a := (esc (s.take a)).length) (o := o3) (xc := c4) hblk (by simp) (eb_w _) rs4.sl (eb_l _) (.inr (by omega)) (by omega) (by omega) (Nat.le_refl 1)
    rw [hsrcl, List.take_left' rfl, drop_plus] at hcp
    simp -dsimp (disch := first | with_reducible assumption | omega | (intro h_; cases h_; done) | (simp only [LN] <;> omega) | (simp only [LF]; done) | (repeat (first | with_reducible assumption | apply Ext.refl | apply Ext.app | (apply Ext.set <;> omega) | (refine Ext.trans ?_ (by assumption))))) only [AX, TY, gV, dstOf, p_makeFunc, p_mapUpdate, mapPut, entsOf, p_lookup, p_extract, p_nilCheck, oneV, p_load, p_store, p_binOp, p_unOp, p_indexAddr, p_index, p_box, p_build, evParts, builtinV, load1, ldc, splice, minds, disj, rcOf, isCall, touchV, idsOf, mapId, touchB, p_buildSlice, buildSliceV, reps, fillV, p_convert, p_slice, evO, p_makeSlice, sid_some, soff_some, Nat.reduceLT, Nat.reduceLeDiff, Nat.reduceEqDiff, Nat.reduceAdd, Nat.reduceMul, Int.reduceBEq, Int.reduceEq, Int.reduceNeg, Int.reduceLT, Int.reduceLE, Int.reduceAdd, Int.reduceSub, Int.reduceMul, Int.reduceToNat, Int.reduceGT, Nat.reduceBEq, Nat.reducePow, Nat.reduceGT, reduceCtorEq, ↓reduceIte, t0, t1, t2, t10, t11, t12, t48, t49, hcut3, hcut4, Nat.add_sub_cancel_left, hcp]
    generalize hh2 : hh.set h.length (O.cells ((esc (s.take a) ++ (s.drop a).take j ++ Z.drop j).flatMap eb) Kd.rw) = h2
    have hblk2 : h2[h.length]? = some (.cells ((esc (s.take a) ++ (s.drop a).take j ++ Z.drop j).flatMap eb) .rw) := by rw [← hh2]; exact set_same _ lt1
    have e2 : Ext h h2 := by rw [← hh2]; exact Ext.set e (Nat.le_refl _) _
    have hw4 : IntKind.i64.wrap (((esc (s.take a)).length : Int) + (j : Nat)) = (((esc (s.take a)).length + j : Nat) : Int) := by rw [IntKind.wrap_i64]; omega
    obtain ⟨o5, hcut5, ho5⟩ := Blk.lo (sz := 1) (t := h.length) (o0 := 0) (L := (esc s).length) (a := (esc (s.take a)).length + j) (by omega)
    have hcp2 := Blk.copy (dl := (esc s).length - ((esc (s.take a)).length + j)) (a := (esc (s.take a)).length + j) (o := o5) (xc := cn) hblk2 (by simp) (eb_w _) (hnw.ext e2) (eb_l _) (.inr (by omega)) (by simp; omega) (by simp; omega) (Nat.le_refl 1)
    have hEm : (esc (s.take a) ++ (s.drop a).take j).length = (esc (s.take a)).length + j := by rw [List.length_append, hsrcl]
    rw [List.take_left' hEm, ← hEm, drop_plus, ← st1] at hcp2
    rw [hEm] at hcp2
    simp only [List.length_cons, List.length_nil, Nat.zero_add, Nat.reduceAdd] at hcp2
    have hw5 : IntKind.i64.wrap ((((esc (s.take a)).length + j : Nat) : Int) + ((2 : Nat) : Int)) = ((esc (s.take (a + j + 1))).length : Int) := by
      rw [st1, IntKind.wrap_i64]; simp only [List.length_append, List.length_cons, List.length_nil, hsrcl]; omega
    have hw6 : IntKind.i64.wrap (((a + j : Nat) : Int) + 1) = ((a + j + 1 : Nat) : Int) := by rw [IntKind.wrap_i64]; omega
    simp -dsimp (disch := first | with_reducible assumption | omega | (intro h_; cases h_; done) | (simp only [LN] <;> omega) | (simp only [LF]; done) | (repeat (first | with_reducible assumption | apply Ext.refl | apply Ext.app | (apply Ext.set <;> omega) | (refine Ext.trans ?_ (by assumption))))) only [AX, TY, gV, dstOf, p_makeFunc, p_mapUpdate, mapPut, entsOf, p_lookup, p_extract, p_nilCheck, oneV, p_load, p_store, p_binOp, p_unOp, p_indexAddr, p_index, p_box, p_build, evParts, builtinV, load1, ldc, splice, minds, disj, rcOf, isCall, touchV, idsOf, mapId, touchB, p_buildSlice, buildSliceV, reps, fillV, p_convert, p_slice, evO, p_makeSlice, sid_some, soff_some, Nat.reduceLT, Nat.reduceLeDiff, Nat.reduceEqDiff, Nat.reduceAdd, Nat.reduceMul, Int.reduceBEq, Int.reduceEq, Int.reduceNeg, Int.reduceLT, Int.reduceLE, Int.reduceAdd, Int.reduceSub, Int.reduceMul, Int.reduceToNat, Int.reduceGT, Nat.reduceBEq, Nat.reducePow, Nat.reduceGT, reduceCtorEq, ↓reduceIte, t0, t1, t2, t10, t11, t12, t48, t49, hw4, hcut5, hcp2, hw5, hw6, wrap_in]
    refine ⟨m - 1, by omega, Ext.set e2 (Nat.le_refl _) _, i + 1, a + j + 1, by omega, ?_⟩
    constructor <;> (try first | assumption | ((repeat (first | assumption | apply Ext.refl | apply Ext.app | (apply Ext.set <;> omega) | exact Ext.trans (by assumption) (by assumption) | (refine Ext.trans ?_ (by assumption)))); done) | (refine Sl.ext (by assumption) ?_; (repeat (first | assumption | apply Ext.refl | apply Ext.app | (apply Ext.set <;> omega) | exact Ext.trans (by assumption) (by assumption) | (refine Ext.trans ?_ (by assumption)))); done) | (simp -dsimp (disch := first | with_reducible assumption | omega | (intro h_; cases h_; done) | (simp only [LN] <;> omega) | (simp only [LF]; done) | (repeat (first | with_reducible assumption | apply Ext.refl | apply Ext.app | (apply Ext.set <;> omega) | (refine Ext.trans ?_ (by assumption))))) only [AX, TY, gV, dstOf, p_makeFunc, p_mapUpdate, mapPut, entsOf, p_lookup, p_extract, p_nilCheck, oneV, p_load, p_store, p_binOp, p_unOp, p_indexAddr, p_index, p_box, p_build, evParts, builtinV, load1, ldc, splice, minds, disj, rcOf, isCall, touchV, idsOf, mapId, touchB, p_buildSlice, buildSliceV, reps, fillV, p_convert, p_slice, evO, p_makeSlice, sid_some, soff_some, Nat.reduceLT, Nat.reduceLeDiff, Nat.reduceEqDiff, Nat.reduceAdd, Nat.reduceMul, Int.reduceBEq, Int.reduceEq, Int.reduceNeg, Int.reduceLT, Int.reduceLE, Int.reduceAdd, Int.reduceSub, Int.reduceMul, Int.reduceToNat, Int.reduceGT, Nat.reduceBEq, Nat.reducePow, Nat.reduceGT, reduceCtorEq, ↓reduceIte, t0, t1, t2, t10, t11, t12, t48, t49, hw4, hcut5, hcp2, hw5, hw6, wrap_in, Int.natCast_add, Int.natCast_one, Int.natCast_zero]; try (first | assumption | with_reducible rfl)))
    · have q := congrArg List.length st1
      rw [List.length_append, hEm] at q
      simp only [List.length_cons, List.length_nil] at q
      rw [q]; congr 1
    · refine ⟨(Z.drop j).drop 2, set_same _ (lt_of_some hblk2), ?_⟩
      rw [st1]
      simp only [List.length_append, List.length_drop, List.length_cons, List.length_nil, hsrcl]; omega
    · omega
    · omega
  · have hz0 : (s.drop a).count 0 = 0 := by omega
    obtain ⟨p2, c2, hcut, rs2⟩ := hsh.lo ha
    have hE : esc s = esc (s.take a) ++ s.drop a := by
      conv => lhs; rw [← List.take_append_drop a s, esc_app, esc_none hz0]
    have hEl := congrArg List.length hE
    rw [List.length_append, List.length_drop] at hEl
    obtain ⟨o3, hcut3, ho3⟩ := Blk.lo (sz := 1) (t := h.length) (o0 := 0) (L := (esc s).length) (a := (esc (s.take a)).length) (by omega)
    have hzl : Z.length = s.length - a := by rw [List.length_append] at hlen; omega
    have hcp := Blk.copy (dl := (esc s).length - (esc (s.take a)).length) (a := (esc (s.take a)).length) (o := o3) (xc := c2) hblk (by simp) (eb_w _) rs2.sl (eb_l _) (by
      by_cases q : s.drop a = []
      · exact .inl q
      · refine .inr ?_
        have : (s.drop a).length ≠ 0 := fun q2 => q (List.eq_nil_of_length_eq_zero q2)
        rw [List.length_drop] at this
        rcases ho3 with h | h <;> omega) (by rw [List.length_drop]; omega) (by rw [List.length_append, List.length_drop]; omega) (Nat.le_refl 1)
    rw [List.length_drop, List.take_left' rfl, drop_plus, List.drop_of_length_le (show Z.length ≤ s.length - a by omega), List.append_nil, ← hE] at hcp
    have hw7 : IntKind.i64.wrap (((esc (s.take a)).length : Int) + ((s.length - a : Nat) : Int)) = ((esc s).length : Int) := by rw [IntKind.wrap_i64]; omega
    simp -dsimp (disch := first | with_reducible assumption | omega | (intro h_; cases h_; done) | (simp only [LN] <;> omega) | (simp only [LF]; done) | (repeat (first | with_reducible assumption | apply Ext.refl | apply Ext.app | (apply Ext.set <;> omega) | (refine Ext.trans ?_ (by assumption))))) only [AX, TY, gV, dstOf, p_makeFunc, p_mapUpdate, mapPut, entsOf, p_lookup, p_extract, p_nilCheck, oneV, p_load, p_store, p_binOp, p_unOp, p_indexAddr, p_index, p_box, p_build, evParts, builtinV, load1, ldc, splice, minds, disj, rcOf, isCall, touchV, idsOf, mapId, touchB, p_buildSlice, buildSliceV, reps, fillV, p_convert, p_slice, evO, p_makeSlice, sid_some, soff_some, Nat.reduceLT, Nat.reduceLeDiff, Nat.reduceEqDiff, Nat.reduceAdd, Nat.reduceMul, Int.reduceBEq, Int.reduceEq, Int.reduceNeg, Int.reduceLT, Int.reduceLE, Int.reduceAdd, Int.reduceSub, Int.reduceMul, Int.reduceToNat, Int.reduceGT, Nat.reduceBEq, Nat.reducePow, Nat.reduceGT, reduceCtorEq, ↓reduceIte, t0, t1, t2, t10, t11, t12, t48, t49, h5]
    refine W.drawn [(0, []), (1, [0]), (2, [1, 0]), (3, [0]), (4, [3, 2, 1, 0]), (5, [4, 3, 2, 1, 0]), (6, [3, 2, 1, 0]), (7, [0]), (8, []), (9, [])] (by decide +kernel) ?_
    simp -dsimp (disch := first | with_reducible assumption | omega | (intro h_; cases h_; done) | (simp only [LN] <;> omega) | (simp only [LF]; done) | (repeat (first | with_reducible assumption | apply Ext.refl | apply Ext.app | (apply Ext.set <;> omega) | (refine Ext.trans ?_ (by assumption))))) only [AX, TY, gV, dstOf, p_makeFunc, p_mapUpdate, mapPut, entsOf, p_lookup, p_extract, p_nilCheck, oneV, p_load, p_store, p_binOp, p_unOp, p_indexAddr, p_index, p_box, p_build, evParts, builtinV, load1, ldc, splice, minds, disj, rcOf, isCall, touchV, idsOf, mapId, touchB, p_buildSlice, buildSliceV, reps, fillV, p_convert, p_slice, evO, p_makeSlice, sid_some, soff_some, Nat.reduceLT, Nat.reduceLeDiff, Nat.reduceEqDiff, Nat.reduceAdd, Nat.reduceMul, Int.reduceBEq, Int.reduceEq, Int.reduceNeg, Int.reduceLT, Int.reduceLE, Int.reduceAdd, Int.reduceSub, Int.reduceMul, Int.reduceToNat, Int.reduceGT, Nat.reduceBEq, Nat.reducePow, Nat.reduceGT, reduceCtorEq, ↓reduceIte, t0, t1, t2, t10, t11, t12, t48, t49, hcut, hcut3, hcp]
    have hE2 : Ext h (hh.set h.length (O.cells ((esc s).flatMap eb) Kd.rw)) := Ext.set e (Nat.le_refl _) _
    have hself : Rs (hh.set h.length (O.cells ((esc s).flatMap eb) Kd.rw)) (some (h.length, 0)) (some (esc s).length) 1 eb (esc s) := Rs.ofSome (.whole (set_same _ lt1) (eb_w _) rfl (by omega)) (by omega)
    obtain ⟨p9, c9, hcut9, rs9⟩ := hself.cut (a := 0) (b := (esc s).length) (by omega) (Nat.le_refl _)
    rw [List.take_length, List.drop_zero] at rs9
    have hcut9' := fun k k' => hcut9 _ k k' (.refl _)
    simp only [Int.natCast_zero, Nat.sub_zero] at hcut9'
    simp -dsimp (disch := first | with_reducible assumption | omega | (intro h_; cases h_; done) | (simp only [LN] <;> omega) | (simp only [LF]; done) | (repeat (first | with_reducible assumption | apply Ext.refl | apply Ext.app | (apply Ext.set <;> omega) | (refine Ext.trans ?_ (by assumption))))) only [AX, TY, gV, dstOf, p_makeFunc, p_mapUpdate, mapPut, entsOf, p_lookup, p_extract, p_nilCheck, oneV, p_load, p_store, p_binOp, p_unOp, p_indexAddr, p_index, p_box, p_build, evParts, builtinV, load1, ldc, splice, minds, disj, rcOf, isCall, touchV, idsOf, mapId, touchB, p_buildSlice, buildSliceV, reps, fillV, p_convert, p_slice, evO, p_makeSlice, sid_some, soff_some, Nat.reduceLT, Nat.reduceLeDiff, Nat.reduceEqDiff, Nat.reduceAdd, Nat.reduceMul, Int.reduceBEq, Int.reduceEq, Int.reduceNeg, Int.reduceLT, Int.reduceLE, Int.reduceAdd, Int.reduceSub, Int.reduceMul, Int.reduceToNat, Int.reduceGT, Nat.reduceBEq, Nat.reducePow, Nat.reduceGT, reduceCtorEq, ↓reduceIte, t0, t1, t2, t10, t11, t12, t48, t49, hw7, hcut9']
    exact ⟨hE2, p9, c9, rfl, rs9⟩
theorem replaceAll_ok {h : Heap} {p po pn : Option (Nat × Nat)} {c co cn : Option Nat} {s : List Int} (hs : Rs h p c 1 eb s) (hb : Bt s) (ho : Sl h po 1 eb [0]) (hnw : Sl h pn 1 eb [0, 255]) (hl : s.length ≤ 1000000) :
    WR (callE Tryd.prog hk 52 [.slice p s.length c, .slice po 1 co, .slice pn 2 cn] h) fun r h' => Ext h h' ∧ ∃ p' c', r = .slice p' (esc s).length c' ∧ Rs h' p' c' 1 eb (esc s) := by
  refine WR.call (hH := rfl) Tryd.func52 rfl (n := 11) rfl rfl (by simp) ?_
  simp -dsimp (disch := first | with_reducible assumption | omega | (intro h_; cases h_; done) | (simp only [LN] <;> omega) | (simp only [LF]; done) | (repeat (first | with_reducible assumption | apply Ext.refl | apply Ext.app | (apply Ext.set <;> omega) | (refine Ext.trans ?_ (by assumption))))) only [AX, TY, gV, dstOf, p_makeFunc, p_mapUpdate, mapPut, entsOf, p_lookup, p_extract, p_nilCheck, oneV, p_load, p_store, p_binOp, p_unOp, p_indexAddr, p_index, p_box, p_build, evParts, builtinV, load1, ldc, splice, minds, disj, rcOf, isCall, touchV, idsOf, mapId, touchB, p_buildSlice, buildSliceV, reps, fillV, p_convert, p_slice, evO, p_makeSlice, sid_some, soff_some, Nat.reduceLT, Nat.reduceLeDiff, Nat.reduceEqDiff, Nat.reduceAdd, Nat.reduceMul, Int.reduceBEq, Int.reduceEq, Int.reduceNeg, Int.reduceLT, Int.reduceLE, Int.reduceAdd, Int.reduceSub, Int.reduceMul, Int.reduceToNat, Int.reduceGT, Nat.reduceBEq, Nat.reducePow, Nat.reduceGT, reduceCtorEq, ↓reduceIte]
  refine (replace_ok hs hb ho hnw hl).mono ?_
  rintro _ h2 ⟨e2, p', c', rfl, rs⟩
  simp -dsimp (disch := first | with_reducible assumption | omega | (intro h_; cases h_; done) | (simp only [LN] <;> omega) | (simp only [LF]; done) | (repeat (first | with_reducible assumption | apply Ext.refl | apply Ext.app | (apply Ext.set <;> omega) | (refine Ext.trans ?_ (by assumption))))) only [AX, TY, gV, dstOf, p_makeFunc, p_mapUpdate, mapPut, entsOf, p_lookup, p_extract, p_nilCheck, oneV, p_load, p_store, p_binOp, p_unOp, p_indexAddr, p_index, p_box, p_build, evParts, builtinV, load1, ldc, splice, minds, disj, rcOf, isCall, touchV, idsOf, mapId, touchB, p_buildSlice, buildSliceV, reps, fillV, p_convert, p_slice, evO, p_makeSlice, sid_some, soff_some, Nat.reduceLT, Nat.reduceLeDiff, Nat.reduceEqDiff, Nat.reduceAdd, Nat.reduceMul, Int.reduceBEq, Int.reduceEq, Int.reduceNeg, Int.reduceLT, Int.reduceLE, Int.reduceAdd, Int.reduceSub, Int.reduceMul, Int.reduceToNat, Int.reduceGT, Nat.reduceBEq, Nat.reducePow, Nat.reduceGT, reduceCtorEq, ↓reduceIte]
  exact ⟨e2, p', c', rfl, rs⟩
end Go.Proofs.YtngcicclaehpbaaDoorA
