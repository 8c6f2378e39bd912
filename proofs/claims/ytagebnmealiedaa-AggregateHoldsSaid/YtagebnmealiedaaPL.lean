/- Words of this session: chapter 7: the laws of Holds and Matches. -/
import Derived.Test.YtagebnmealiedaaPJ
namespace Go.Proofs.YtagebnmealiedaaA
open Go Go.Proofs Go.RowKit
set_option linter.unusedVariables false
set_option linter.unusedSimpArgs false
set_option maxRecDepth 10000
set_option maxHeartbeats 1000000
theorem law9_ok {h : Heap} {p : Option (Nat × Nat)} {c : Option Nat} {ys : List En} (hs : Sl h p 4 En.enc ys) (fn op : Int) (b : Vl) : WR (callE Try.prog hk 9 [.int .i64 fn, .int .i64 op, .agg b.enc, .slice p ys.length c] h) fun r h' => r = .bool true := by
  refine WR.call (hH := rfl) Try.func9 rfl (n := 53) rfl rfl (by simp) ?_
  simp -dsimp (disch := first | assumption | omega | (intro h_; cases h_; done) | (simp only [LN] <;> omega) | (simp only [LF]; done) | (repeat (first | assumption | apply Ext.refl | apply Ext.app | (apply Ext.set <;> omega)))) only [AX, TY, gV, dstOf, p_makeFunc, p_mapUpdate, mapPut, entsOf, p_lookup, p_extract, p_nilCheck, oneV, p_load, p_store, p_binOp, p_unOp, p_indexAddr, p_index, p_box, p_build, evParts, builtinV, load1, ldc, splice, minds, disj, rcOf, isCall, touchV, idsOf, mapId, touchB, p_buildSlice, buildSliceV, reps, fillV, p_convert, p_slice, evO, p_makeSlice, sid_some, soff_some, Nat.reduceLT, Nat.reduceLeDiff, Nat.reduceEqDiff, Nat.reduceAdd, Nat.reduceMul, Int.reduceBEq, Int.reduceEq, Int.reduceNeg, Int.reduceLT, Int.reduceLE, Int.reduceAdd, Int.reduceSub, Int.reduceMul, Int.reduceToNat, Int.reduceGT, Nat.reduceBEq, Nat.reducePow, Nat.reduceGT, reduceCtorEq, Vl.enc]
  refine awake_ok.mono ?_
  rintro _ h1 ⟨e1, rfl⟩
  have g := e1 _ _ (snoc_last (h := h) _ rfl)
  have eh : Ext h h1 := Ext.trans (by (repeat (first | assumption | apply Ext.refl | apply Ext.app | (apply Ext.set <;> omega) | exact Ext.trans (by assumption) (by assumption)))) e1
  simp -dsimp (disch := first | assumption | omega | (intro h_; cases h_; done) | (simp only [LN] <;> omega) | (simp only [LF]; done) | (repeat (first | assumption | apply Ext.refl | apply Ext.app | (apply Ext.set <;> omega)))) only [AX, TY, gV, dstOf, p_makeFunc, p_mapUpdate, mapPut, entsOf, p_lookup, p_extract, p_nilCheck, oneV, p_load, p_store, p_binOp, p_unOp, p_indexAddr, p_index, p_box, p_build, evParts, builtinV, load1, ldc, splice, minds, disj, rcOf, isCall, touchV, idsOf, mapId, touchB, p_buildSlice, buildSliceV, reps, fillV, p_convert, p_slice, evO, p_makeSlice, sid_some, soff_some, Nat.reduceLT, Nat.reduceLeDiff, Nat.reduceEqDiff, Nat.reduceAdd, Nat.reduceMul, Int.reduceBEq, Int.reduceEq, Int.reduceNeg, Int.reduceLT, Int.reduceLE, Int.reduceAdd, Int.reduceSub, Int.reduceMul, Int.reduceToNat, Int.reduceGT, Nat.reduceBEq, Nat.reducePow, Nat.reduceGT, reduceCtorEq]
  refine (few_ok (hs.ext eh)).mono ?_
  rintro _ _ ⟨rfl, rfl⟩
  cases hb : (decide (ys.length ≤ 40) && ys.all fun y => decide (y.v.text.length ≤ 300))
  · simp -dsimp (disch := first | assumption | omega | (intro h_; cases h_; done) | (simp only [LN] <;> omega) | (simp only [LF]; done) | (repeat (first | assumption | apply Ext.refl | apply Ext.app | (apply Ext.set <;> omega)))) only [AX, TY, gV, dstOf, p_makeFunc, p_mapUpdate, mapPut, entsOf, p_lookup, p_extract, p_nilCheck, oneV, p_load, p_store, p_binOp, p_unOp, p_indexAddr, p_index, p_box, p_build, evParts, builtinV, load1, ldc, splice, minds, disj, rcOf, isCall, touchV, idsOf, mapId, touchB, p_buildSlice, buildSliceV, reps, fillV, p_convert, p_slice, evO, p_makeSlice, sid_some, soff_some, Nat.reduceLT, Nat.reduceLeDiff, Nat.reduceEqDiff, Nat.reduceAdd, Nat.reduceMul, Int.reduceBEq, Int.reduceEq, Int.reduceNeg, Int.reduceLT, Int.reduceLE, Int.reduceAdd, Int.reduceSub, Int.reduceMul, Int.reduceToNat, Int.reduceGT, Nat.reduceBEq, Nat.reducePow, Nat.reduceGT, reduceCtorEq]
    refine awake_ok.mono ?_
    rintro _ h2 ⟨e2, rfl⟩
    simp -dsimp (disch := first | assumption | omega | (intro h_; cases h_; done) | (simp only [LN] <;> omega) | (simp only [LF]; done) | (repeat (first | assumption | apply Ext.refl | apply Ext.app | (apply Ext.set <;> omega)))) only [AX, TY, gV, dstOf, p_makeFunc, p_mapUpdate, mapPut, entsOf, p_lookup, p_extract, p_nilCheck, oneV, p_load, p_store, p_binOp, p_unOp, p_indexAddr, p_index, p_box, p_build, evParts, builtinV, load1, ldc, splice, minds, disj, rcOf, isCall, touchV, idsOf, mapId, touchB, p_buildSlice, buildSliceV, reps, fillV, p_convert, p_slice, evO, p_makeSlice, sid_some, soff_some, Nat.reduceLT, Nat.reduceLeDiff, Nat.reduceEqDiff, Nat.reduceAdd, Nat.reduceMul, Int.reduceBEq, Int.reduceEq, Int.reduceNeg, Int.reduceLT, Int.reduceLE, Int.reduceAdd, Int.reduceSub, Int.reduceMul, Int.reduceToNat, Int.reduceGT, Nat.reduceBEq, Nat.reducePow, Nat.reduceGT, reduceCtorEq]
  cases hl : decide (300 < (b.text.length : Int))
  rotate_left
  · simp -dsimp (disch := first | assumption | omega | (intro h_; cases h_; done) | (simp only [LN] <;> omega) | (simp only [LF]; done) | (repeat (first | assumption | apply Ext.refl | apply Ext.app | (apply Ext.set <;> omega)))) only [AX, TY, gV, dstOf, p_makeFunc, p_mapUpdate, mapPut, entsOf, p_lookup, p_extract, p_nilCheck, oneV, p_load, p_store, p_binOp, p_unOp, p_indexAddr, p_index, p_box, p_build, evParts, builtinV, load1, ldc, splice, minds, disj, rcOf, isCall, touchV, idsOf, mapId, touchB, p_buildSlice, buildSliceV, reps, fillV, p_convert, p_slice, evO, p_makeSlice, sid_some, soff_some, Nat.reduceLT, Nat.reduceLeDiff, Nat.reduceEqDiff, Nat.reduceAdd, Nat.reduceMul, Int.reduceBEq, Int.reduceEq, Int.reduceNeg, Int.reduceLT, Int.reduceLE, Int.reduceAdd, Int.reduceSub, Int.reduceMul, Int.reduceToNat, Int.reduceGT, Nat.reduceBEq, Nat.reducePow, Nat.reduceGT, reduceCtorEq, loadN_fact g, hl]
    refine awake_ok.mono ?_
    rintro _ h2 ⟨e2, rfl⟩
    simp -dsimp (disch := first | assumption | omega | (intro h_; cases h_; done) | (simp only [LN] <;> omega) | (simp only [LF]; done) | (repeat (first | assumption | apply Ext.refl | apply Ext.app | (apply Ext.set <;> omega)))) only [AX, TY, gV, dstOf, p_makeFunc, p_mapUpdate, mapPut, entsOf, p_lookup, p_extract, p_nilCheck, oneV, p_load, p_store, p_binOp, p_unOp, p_indexAddr, p_index, p_box, p_build, evParts, builtinV, load1, ldc, splice, minds, disj, rcOf, isCall, touchV, idsOf, mapId, touchB, p_buildSlice, buildSliceV, reps, fillV, p_convert, p_slice, evO, p_makeSlice, sid_some, soff_some, Nat.reduceLT, Nat.reduceLeDiff, Nat.reduceEqDiff, Nat.reduceAdd, Nat.reduceMul, Int.reduceBEq, Int.reduceEq, Int.reduceNeg, Int.reduceLT, Int.reduceLE, Int.reduceAdd, Int.reduceSub, Int.reduceMul, Int.reduceToNat, Int.reduceGT, Nat.reduceBEq, Nat.reducePow, Nat.reduceGT, reduceCtorEq]
  simp -dsimp (disch := first | assumption | omega | (intro h_; cases h_; done) | (simp only [LN] <;> omega) | (simp only [LF]; done) | (repeat (first | assumption | apply Ext.refl | apply Ext.app | (apply Ext.set <;> omega)))) only [AX, TY, gV, dstOf, p_makeFunc, p_mapUpdate, mapPut, entsOf, p_lookup, p_extract, p_nilCheck, oneV, p_load, p_store, p_binOp, p_unOp, p_indexAddr, p_index, p_box, p_build, evParts, builtinV, load1, ldc, splice, minds, disj, rcOf, isCall, touchV, idsOf, mapId, touchB, p_buildSlice, buildSliceV, reps, fillV, p_convert, p_slice, evO, p_makeSlice, sid_some, soff_some, Nat.reduceLT, Nat.reduceLeDiff, Nat.reduceEqDiff, Nat.reduceAdd, Nat.reduceMul, Int.reduceBEq, Int.reduceEq, Int.reduceNeg, Int.reduceLT, Int.reduceLE, Int.reduceAdd, Int.reduceSub, Int.reduceMul, Int.reduceToNat, Int.reduceGT, Nat.reduceBEq, Nat.reducePow, Nat.reduceGT, reduceCtorEq, loadN_fact g, hl]
  refine (holds_ok (hs.ext eh) fn op b).mono ?_
  rintro _ h2 ⟨e2, rfl⟩
  have := lt_of_some g; replace g := (Ext.trans (by (repeat (first | assumption | apply Ext.refl | apply Ext.app | (apply Ext.set <;> omega) | exact Ext.trans (by assumption) (by assumption)))) e2).get _ _ g; have := lt_of_some g
  have eh2 : Ext h h2 := eh.trans e2
  simp -dsimp (disch := first | assumption | omega | (intro h_; cases h_; done) | (simp only [LN] <;> omega) | (simp only [LF]; done) | (repeat (first | assumption | apply Ext.refl | apply Ext.app | (apply Ext.set <;> omega)))) only [AX, TY, gV, dstOf, p_makeFunc, p_mapUpdate, mapPut, entsOf, p_lookup, p_extract, p_nilCheck, oneV, p_load, p_store, p_binOp, p_unOp, p_indexAddr, p_index, p_box, p_build, evParts, builtinV, load1, ldc, splice, minds, disj, rcOf, isCall, touchV, idsOf, mapId, touchB, p_buildSlice, buildSliceV, reps, fillV, p_convert, p_slice, evO, p_makeSlice, sid_some, soff_some, Nat.reduceLT, Nat.reduceLeDiff, Nat.reduceEqDiff, Nat.reduceAdd, Nat.reduceMul, Int.reduceBEq, Int.reduceEq, Int.reduceNeg, Int.reduceLT, Int.reduceLE, Int.reduceAdd, Int.reduceSub, Int.reduceMul, Int.reduceToNat, Int.reduceGT, Nat.reduceBEq, Nat.reducePow, Nat.reduceGT, reduceCtorEq, loadN_fact g]
  refine (refHolds_ok (hs.ext eh2) fn op b).mono ?_
  rintro _ h3 ⟨e3, rfl⟩
  have := lt_of_some g; replace g := (Ext.trans (by (repeat (first | assumption | apply Ext.refl | apply Ext.app | (apply Ext.set <;> omega) | exact Ext.trans (by assumption) (by assumption)))) e3).get _ _ g; have := lt_of_some g
  have eh3 : Ext h h3 := eh2.trans e3
  simp -dsimp (disch := first | assumption | omega | (intro h_; cases h_; done) | (simp only [LN] <;> omega) | (simp only [LF]; done) | (repeat (first | assumption | apply Ext.refl | apply Ext.app | (apply Ext.set <;> omega)))) only [AX, TY, gV, dstOf, p_makeFunc, p_mapUpdate, mapPut, entsOf, p_lookup, p_extract, p_nilCheck, oneV, p_load, p_store, p_binOp, p_unOp, p_indexAddr, p_index, p_box, p_build, evParts, builtinV, load1, ldc, splice, minds, disj, rcOf, isCall, touchV, idsOf, mapId, touchB, p_buildSlice, buildSliceV, reps, fillV, p_convert, p_slice, evO, p_makeSlice, sid_some, soff_some, Nat.reduceLT, Nat.reduceLeDiff, Nat.reduceEqDiff, Nat.reduceAdd, Nat.reduceMul, Int.reduceBEq, Int.reduceEq, Int.reduceNeg, Int.reduceLT, Int.reduceLE, Int.reduceAdd, Int.reduceSub, Int.reduceMul, Int.reduceToNat, Int.reduceGT, Nat.reduceBEq, Nat.reducePow, Nat.reduceGT, reduceCtorEq]
  refine (apply_ok (hs.ext eh3) fn).mono ?_
  rintro _ h4 ⟨e4, rfl⟩
  have := lt_of_some g; replace g := (Ext.trans (by (repeat (first | assumption | apply Ext.refl | apply Ext.app | (apply Ext.set <;> omega) | exact Ext.trans (by assumption) (by assumption)))) e4).get _ _ g; have := lt_of_some g
  have l4 := lt_of_some g
  generalize applyV fn ys = q
  obtain ⟨v, ok⟩ := q
  cases ok
  · simp -dsimp (disch := first | assumption | omega | (intro h_; cases h_; done) | (simp only [LN] <;> omega) | (simp only [LF]; done) | (repeat (first | assumption | apply Ext.refl | apply Ext.app | (apply Ext.set <;> omega)))) only [AX, TY, gV, dstOf, p_makeFunc, p_mapUpdate, mapPut, entsOf, p_lookup, p_extract, p_nilCheck, oneV, p_load, p_store, p_binOp, p_unOp, p_indexAddr, p_index, p_box, p_build, evParts, builtinV, load1, ldc, splice, minds, disj, rcOf, isCall, touchV, idsOf, mapId, touchB, p_buildSlice, buildSliceV, reps, fillV, p_convert, p_slice, evO, p_makeSlice, sid_some, soff_some, Nat.reduceLT, Nat.reduceLeDiff, Nat.reduceEqDiff, Nat.reduceAdd, Nat.reduceMul, Int.reduceBEq, Int.reduceEq, Int.reduceNeg, Int.reduceLT, Int.reduceLE, Int.reduceAdd, Int.reduceSub, Int.reduceMul, Int.reduceToNat, Int.reduceGT, Nat.reduceBEq, Nat.reducePow, Nat.reduceGT, reduceCtorEq, Vl.enc]
  · simp -dsimp (disch := first | assumption | omega | (intro h_; cases h_; done) | (simp only [LN] <;> omega) | (simp only [LF]; done) | (repeat (first | assumption | apply Ext.refl | apply Ext.app | (apply Ext.set <;> omega)))) only [AX, TY, gV, dstOf, p_makeFunc, p_mapUpdate, mapPut, entsOf, p_lookup, p_extract, p_nilCheck, oneV, p_load, p_store, p_binOp, p_unOp, p_indexAddr, p_index, p_box, p_build, evParts, builtinV, load1, ldc, splice, minds, disj, rcOf, isCall, touchV, idsOf, mapId, touchB, p_buildSlice, buildSliceV, reps, fillV, p_convert, p_slice, evO, p_makeSlice, sid_some, soff_some, Nat.reduceLT, Nat.reduceLeDiff, Nat.reduceEqDiff, Nat.reduceAdd, Nat.reduceMul, Int.reduceBEq, Int.reduceEq, Int.reduceNeg, Int.reduceLT, Int.reduceLE, Int.reduceAdd, Int.reduceSub, Int.reduceMul, Int.reduceToNat, Int.reduceGT, Nat.reduceBEq, Nat.reducePow, Nat.reduceGT, reduceCtorEq, Vl.enc, loadN_fact g]
    refine (matches_ok op v b).mono ?_
    rintro _ h5 ⟨e5, rfl⟩
    simp -dsimp (disch := first | assumption | omega | (intro h_; cases h_; done) | (simp only [LN] <;> omega) | (simp only [LF]; done) | (repeat (first | assumption | apply Ext.refl | apply Ext.app | (apply Ext.set <;> omega)))) only [AX, TY, gV, dstOf, p_makeFunc, p_mapUpdate, mapPut, entsOf, p_lookup, p_extract, p_nilCheck, oneV, p_load, p_store, p_binOp, p_unOp, p_indexAddr, p_index, p_box, p_build, evParts, builtinV, load1, ldc, splice, minds, disj, rcOf, isCall, touchV, idsOf, mapId, touchB, p_buildSlice, buildSliceV, reps, fillV, p_convert, p_slice, evO, p_makeSlice, sid_some, soff_some, Nat.reduceLT, Nat.reduceLeDiff, Nat.reduceEqDiff, Nat.reduceAdd, Nat.reduceMul, Int.reduceBEq, Int.reduceEq, Int.reduceNeg, Int.reduceLT, Int.reduceLE, Int.reduceAdd, Int.reduceSub, Int.reduceMul, Int.reduceToNat, Int.reduceGT, Nat.reduceBEq, Nat.reducePow, Nat.reduceGT, reduceCtorEq]
theorem cmpI_swap (a b : Int) : cmpI b a = - cmpI a b := by unfold cmpI; split <;> split <;> (try split) <;> omega
theorem lessL_asymm : ∀ {a b : List Int}, lessL a b = true → lessL b a = false
  | _, [], h => by cases ‹List Int› <;> simp [lessL] at h
  | [], _ :: _, _ => by simp [lessL]
  | x :: a, y :: b, h => by
    simp only [lessL, Bool.or_eq_true, decide_eq_true_eq, Bool.and_eq_true, beq_iff_eq] at h
    simp only [lessL, Bool.or_eq_false_iff, decide_eq_false_iff_not, Bool.and_eq_false_iff, beq_eq_false_iff_ne]
    rcases h with h | ⟨rfl, h⟩
    · exact ⟨by omega, .inl (by omega)⟩
    · exact ⟨by omega, .inr (lessL_asymm h)⟩
theorem lessL_total : ∀ (a b : List Int), lessL a b = false → lessL b a = false → a = b
  | [], [], _, _ => rfl
  | [], _ :: _, h, _ => by simp [lessL] at h
  | _ :: _, [], _, h => by simp [lessL] at h
  | x :: a, y :: b, h, h2 => by
    simp only [lessL, Bool.or_eq_false_iff, decide_eq_false_iff_not, Bool.and_eq_false_iff, beq_eq_false_iff_ne] at h h2
    have : x = y := by omega
    subst this
    rw [lessL_total a b (h.2.resolve_left (by simp)) (h2.2.resolve_left (by simp))]
theorem cmpL_swap (a b : List Int) : cmpL b a = - cmpL a b := by
  unfold cmpL
  by_cases h1 : lessL a b = true
  · rw [lessL_asymm h1, h1]
    have : ¬ b = a := fun e => by subst e; rw [lessL_irrefl] at h1; cases h1
    simp [this]
  · by_cases h2 : lessL b a = true
    · rw [lessL_asymm h2, h2]
      have : ¬ a = b := fun e => by subst e; rw [lessL_irrefl] at h2; cases h2
      simp [this]
    · have := lessL_total a b (by simpa using h1) (by simpa using h2)
      subst this
      simp [lessL_irrefl]
theorem cmpV_swap (a b : Vl) : cmpV b a = - cmpV a b := by
  unfold cmpV
  by_cases h1 : a.kind = b.kind
  · by_cases h2 : a.int = b.int
    · simp [h1, h2, cmpL_swap b.text a.text]
    · have h3 : ¬ b.int = a.int := fun e => h2 e.symm
      simp [h1, h2, h3, cmpI_swap a.int b.int]
  · have h3 : ¬ b.kind = a.kind := fun e => h1 e.symm
    simp [h1, h3, cmpI_swap a.kind b.kind]
theorem law7_ok {h : Heap} (op : Int) (a b : Vl) : WR (callE Try.prog hk 7 [.int .i64 op, .agg a.enc, .agg b.enc] h) fun r h' => r = .bool true := by
  refine WR.call (hH := rfl) Try.func7 rfl (n := 122) rfl rfl (by simp) ?_
  simp -dsimp (disch := first | assumption | omega | (intro h_; cases h_; done) | (simp only [LN] <;> omega) | (simp only [LF]; done) | (repeat (first | assumption | apply Ext.refl | apply Ext.app | (apply Ext.set <;> omega)))) only [AX, TY, gV, dstOf, p_makeFunc, p_mapUpdate, mapPut, entsOf, p_lookup, p_extract, p_nilCheck, oneV, p_load, p_store, p_binOp, p_unOp, p_indexAddr, p_index, p_box, p_build, evParts, builtinV, load1, ldc, splice, minds, disj, rcOf, isCall, touchV, idsOf, mapId, touchB, p_buildSlice, buildSliceV, reps, fillV, p_convert, p_slice, evO, p_makeSlice, sid_some, soff_some, Nat.reduceLT, Nat.reduceLeDiff, Nat.reduceEqDiff, Nat.reduceAdd, Nat.reduceMul, Int.reduceBEq, Int.reduceEq, Int.reduceNeg, Int.reduceLT, Int.reduceLE, Int.reduceAdd, Int.reduceSub, Int.reduceMul, Int.reduceToNat, Int.reduceGT, Nat.reduceBEq, Nat.reducePow, Nat.reduceGT, reduceCtorEq, Vl.enc]
  refine awake_ok.mono ?_
  rintro _ h1 ⟨e1, rfl⟩
  have ga : h1[h.length]? = some (.cells a.enc .rw) := e1 _ _ (by simp -dsimp (disch := first | assumption | omega | (intro h_; cases h_; done) | (simp only [LN] <;> omega) | (simp only [LF]; done) | (repeat (first | assumption | apply Ext.refl | apply Ext.app | (apply Ext.set <;> omega)))) only [AX, TY, gV, dstOf, p_makeFunc, p_mapUpdate, mapPut, entsOf, p_lookup, p_extract, p_nilCheck, oneV, p_load, p_store, p_binOp, p_unOp, p_indexAddr, p_index, p_box, p_build, evParts, builtinV, load1, ldc, splice, minds, disj, rcOf, isCall, touchV, idsOf, mapId, touchB, p_buildSlice, buildSliceV, reps, fillV, p_convert, p_slice, evO, p_makeSlice, sid_some, soff_some, Nat.reduceLT, Nat.reduceLeDiff, Nat.reduceEqDiff, Nat.reduceAdd, Nat.reduceMul, Int.reduceBEq, Int.reduceEq, Int.reduceNeg, Int.reduceLT, Int.reduceLE, Int.reduceAdd, Int.reduceSub, Int.reduceMul, Int.reduceToNat, Int.reduceGT, Nat.reduceBEq, Nat.reducePow, Nat.reduceGT, reduceCtorEq]; rfl)
  have gb : h1[h.length + 1]? = some (.cells b.enc .rw) := e1 _ _ (by simp -dsimp (disch := first | assumption | omega | (intro h_; cases h_; done) | (simp only [LN] <;> omega) | (simp only [LF]; done) | (repeat (first | assumption | apply Ext.refl | apply Ext.app | (apply Ext.set <;> omega)))) only [AX, TY, gV, dstOf, p_makeFunc, p_mapUpdate, mapPut, entsOf, p_lookup, p_extract, p_nilCheck, oneV, p_load, p_store, p_binOp, p_unOp, p_indexAddr, p_index, p_box, p_build, evParts, builtinV, load1, ldc, splice, minds, disj, rcOf, isCall, touchV, idsOf, mapId, touchB, p_buildSlice, buildSliceV, reps, fillV, p_convert, p_slice, evO, p_makeSlice, sid_some, soff_some, Nat.reduceLT, Nat.reduceLeDiff, Nat.reduceEqDiff, Nat.reduceAdd, Nat.reduceMul, Int.reduceBEq, Int.reduceEq, Int.reduceNeg, Int.reduceLT, Int.reduceLE, Int.reduceAdd, Int.reduceSub, Int.reduceMul, Int.reduceToNat, Int.reduceGT, Nat.reduceBEq, Nat.reducePow, Nat.reduceGT, reduceCtorEq]; rfl)
  simp only [Vl.enc] at ga gb
  have eh : Ext h h1 := Ext.trans (by (repeat (first | assumption | apply Ext.refl | apply Ext.app | (apply Ext.set <;> omega) | exact Ext.trans (by assumption) (by assumption)))) e1
  cases hl : decide (300 < (a.text.length : Int))
  rotate_left
  · simp -dsimp (disch := first | assumption | omega | (intro h_; cases h_; done) | (simp only [LN] <;> omega) | (simp only [LF]; done) | (repeat (first | assumption | apply Ext.refl | apply Ext.app | (apply Ext.set <;> omega)))) only [AX, TY, gV, dstOf, p_makeFunc, p_mapUpdate, mapPut, entsOf, p_lookup, p_extract, p_nilCheck, oneV, p_load, p_store, p_binOp, p_unOp, p_indexAddr, p_index, p_box, p_build, evParts, builtinV, load1, ldc, splice, minds, disj, rcOf, isCall, touchV, idsOf, mapId, touchB, p_buildSlice, buildSliceV, reps, fillV, p_convert, p_slice, evO, p_makeSlice, sid_some, soff_some, Nat.reduceLT, Nat.reduceLeDiff, Nat.reduceEqDiff, Nat.reduceAdd, Nat.reduceMul, Int.reduceBEq, Int.reduceEq, Int.reduceNeg, Int.reduceLT, Int.reduceLE, Int.reduceAdd, Int.reduceSub, Int.reduceMul, Int.reduceToNat, Int.reduceGT, Nat.reduceBEq, Nat.reducePow, Nat.reduceGT, reduceCtorEq, loadN_fact ga, hl]
    refine awake_ok.mono ?_
    rintro _ h2 ⟨e2, rfl⟩
    simp -dsimp (disch := first | assumption | omega | (intro h_; cases h_; done) | (simp only [LN] <;> omega) | (simp only [LF]; done) | (repeat (first | assumption | apply Ext.refl | apply Ext.app | (apply Ext.set <;> omega)))) only [AX, TY, gV, dstOf, p_makeFunc, p_mapUpdate, mapPut, entsOf, p_lookup, p_extract, p_nilCheck, oneV, p_load, p_store, p_binOp, p_unOp, p_indexAddr, p_index, p_box, p_build, evParts, builtinV, load1, ldc, splice, minds, disj, rcOf, isCall, touchV, idsOf, mapId, touchB, p_buildSlice, buildSliceV, reps, fillV, p_convert, p_slice, evO, p_makeSlice, sid_some, soff_some, Nat.reduceLT, Nat.reduceLeDiff, Nat.reduceEqDiff, Nat.reduceAdd, Nat.reduceMul, Int.reduceBEq, Int.reduceEq, Int.reduceNeg, Int.reduceLT, Int.reduceLE, Int.reduceAdd, Int.reduceSub, Int.reduceMul, Int.reduceToNat, Int.reduceGT, Nat.reduceBEq, Nat.reducePow, Nat.reduceGT, reduceCtorEq]
  cases hl2 : decide (300 < (b.text.length : Int))
  rotate_left
  · simp -dsimp (disch := first | assumption | omega | (intro h_; cases h_; done) | (simp only [LN] <;> omega) | (simp only [LF]; done) | (repeat (first | assumption | apply Ext.refl | apply Ext.app | (apply Ext.set <;> omega)))) only [AX, TY, gV, dstOf, p_makeFunc, p_mapUpdate, mapPut, entsOf, p_lookup, p_extract, p_nilCheck, oneV, p_load, p_store, p_binOp, p_unOp, p_indexAddr, p_index, p_box, p_build, evParts, builtinV, load1, ldc, splice, minds, disj, rcOf, isCall, touchV, idsOf, mapId, touchB, p_buildSlice, buildSliceV, reps, fillV, p_convert, p_slice, evO, p_makeSlice, sid_some, soff_some, Nat.reduceLT, Nat.reduceLeDiff, Nat.reduceEqDiff, Nat.reduceAdd, Nat.reduceMul, Int.reduceBEq, Int.reduceEq, Int.reduceNeg, Int.reduceLT, Int.reduceLE, Int.reduceAdd, Int.reduceSub, Int.reduceMul, Int.reduceToNat, Int.reduceGT, Nat.reduceBEq, Nat.reducePow, Nat.reduceGT, reduceCtorEq, loadN_fact ga, loadN_fact gb, hl, hl2]
    refine awake_ok.mono ?_
    rintro _ h2 ⟨e2, rfl⟩
    simp -dsimp (disch := first | assumption | omega | (intro h_; cases h_; done) | (simp only [LN] <;> omega) | (simp only [LF]; done) | (repeat (first | assumption | apply Ext.refl | apply Ext.app | (apply Ext.set <;> omega)))) only [AX, TY, gV, dstOf, p_makeFunc, p_mapUpdate, mapPut, entsOf, p_lookup, p_extract, p_nilCheck, oneV, p_load, p_store, p_binOp, p_unOp, p_indexAddr, p_index, p_box, p_build, evParts, builtinV, load1, ldc, splice, minds, disj, rcOf, isCall, touchV, idsOf, mapId, touchB, p_buildSlice, buildSliceV, reps, fillV, p_convert, p_slice, evO, p_makeSlice, sid_some, soff_some, Nat.reduceLT, Nat.reduceLeDiff, Nat.reduceEqDiff, Nat.reduceAdd, Nat.reduceMul, Int.reduceBEq, Int.reduceEq, Int.reduceNeg, Int.reduceLT, Int.reduceLE, Int.reduceAdd, Int.reduceSub, Int.reduceMul, Int.reduceToNat, Int.reduceGT, Nat.reduceBEq, Nat.reducePow, Nat.reduceGT, reduceCtorEq]
  simp -dsimp (disch := first | assumption | omega | (intro h_; cases h_; done) | (simp only [LN] <;> omega) | (simp only [LF]; done) | (repeat (first | assumption | apply Ext.refl | apply Ext.app | (apply Ext.set <;> omega)))) only [AX, TY, gV, dstOf, p_makeFunc, p_mapUpdate, mapPut, entsOf, p_lookup, p_extract, p_nilCheck, oneV, p_load, p_store, p_binOp, p_unOp, p_indexAddr, p_index, p_box, p_build, evParts, builtinV, load1, ldc, splice, minds, disj, rcOf, isCall, touchV, idsOf, mapId, touchB, p_buildSlice, buildSliceV, reps, fillV, p_convert, p_slice, evO, p_makeSlice, sid_some, soff_some, Nat.reduceLT, Nat.reduceLeDiff, Nat.reduceEqDiff, Nat.reduceAdd, Nat.reduceMul, Int.reduceBEq, Int.reduceEq, Int.reduceNeg, Int.reduceLT, Int.reduceLE, Int.reduceAdd, Int.reduceSub, Int.reduceMul, Int.reduceToNat, Int.reduceGT, Nat.reduceBEq, Nat.reducePow, Nat.reduceGT, reduceCtorEq, loadN_fact ga, loadN_fact gb, hl, hl2]
  refine W.drawn [(0, []), (1, [0]), (2, [1, 0]), (4, [2, 1, 0]), (5, [4, 2, 1, 0]), (6, [5, 4, 2, 1, 0]), (3, [6, 5, 4]), (7, []), (8, [])] (by decide +kernel) ?_
  simp -dsimp (disch := first | assumption | omega | (intro h_; cases h_; done) | (simp only [LN] <;> omega) | (simp only [LF]; done) | (repeat (first | assumption | apply Ext.refl | apply Ext.app | (apply Ext.set <;> omega)))) only [AX, TY, gV, dstOf, p_makeFunc, p_mapUpdate, mapPut, entsOf, p_lookup, p_extract, p_nilCheck, oneV, p_load, p_store, p_binOp, p_unOp, p_indexAddr, p_index, p_box, p_build, evParts, builtinV, load1, ldc, splice, minds, disj, rcOf, isCall, touchV, idsOf, mapId, touchB, p_buildSlice, buildSliceV, reps, fillV, p_convert, p_slice, evO, p_makeSlice, sid_some, soff_some, Nat.reduceLT, Nat.reduceLeDiff, Nat.reduceEqDiff, Nat.reduceAdd, Nat.reduceMul, Int.reduceBEq, Int.reduceEq, Int.reduceNeg, Int.reduceLT, Int.reduceLE, Int.reduceAdd, Int.reduceSub, Int.reduceMul, Int.reduceToNat, Int.reduceGT, Nat.reduceBEq, Nat.reducePow, Nat.reduceGT, reduceCtorEq, loadN_fact ga, loadN_fact gb]
  refine (matches_ok op a b).mono ?_
  rintro _ h2 ⟨e2, rfl⟩
  have := lt_of_some ga; replace ga := (Ext.trans (by (repeat (first | assumption | apply Ext.refl | apply Ext.app | (apply Ext.set <;> omega) | exact Ext.trans (by assumption) (by assumption)))) e2).get _ _ ga; have := lt_of_some ga
  have := lt_of_some gb; replace gb := (Ext.trans (by (repeat (first | assumption | apply Ext.refl | apply Ext.app | (apply Ext.set <;> omega) | exact Ext.trans (by assumption) (by assumption)))) e2).get _ _ gb; have := lt_of_some gb
  simp -dsimp (disch := first | assumption | omega | (intro h_; cases h_; done) | (simp only [LN] <;> omega) | (simp only [LF]; done) | (repeat (first | assumption | apply Ext.refl | apply Ext.app | (apply Ext.set <;> omega)))) only [AX, TY, gV, dstOf, p_makeFunc, p_mapUpdate, mapPut, entsOf, p_lookup, p_extract, p_nilCheck, oneV, p_load, p_store, p_binOp, p_unOp, p_indexAddr, p_index, p_box, p_build, evParts, builtinV, load1, ldc, splice, minds, disj, rcOf, isCall, touchV, idsOf, mapId, touchB, p_buildSlice, buildSliceV, reps, fillV, p_convert, p_slice, evO, p_makeSlice, sid_some, soff_some, Nat.reduceLT, Nat.reduceLeDiff, Nat.reduceEqDiff, Nat.reduceAdd, Nat.reduceMul, Int.reduceBEq, Int.reduceEq, Int.reduceNeg, Int.reduceLT, Int.reduceLE, Int.reduceAdd, Int.reduceSub, Int.reduceMul, Int.reduceToNat, Int.reduceGT, Nat.reduceBEq, Nat.reducePow, Nat.reduceGT, reduceCtorEq, loadN_fact ga, loadN_fact gb]
  refine (refMatches_ok op a b).mono ?_
  rintro _ h3 ⟨e3, rfl⟩
  have := lt_of_some ga; replace ga := (Ext.trans (by (repeat (first | assumption | apply Ext.refl | apply Ext.app | (apply Ext.set <;> omega) | exact Ext.trans (by assumption) (by assumption)))) e3).get _ _ ga; have := lt_of_some ga
  have := lt_of_some gb; replace gb := (Ext.trans (by (repeat (first | assumption | apply Ext.refl | apply Ext.app | (apply Ext.set <;> omega) | exact Ext.trans (by assumption) (by assumption)))) e3).get _ _ gb; have := lt_of_some gb
  have eh3 : Ext h h3 := Ext.trans eh (Ext.trans e2 e3)
  simp -dsimp (disch := first | assumption | omega | (intro h_; cases h_; done) | (simp only [LN] <;> omega) | (simp only [LF]; done) | (repeat (first | assumption | apply Ext.refl | apply Ext.app | (apply Ext.set <;> omega)))) only [AX, TY, gV, dstOf, p_makeFunc, p_mapUpdate, mapPut, entsOf, p_lookup, p_extract, p_nilCheck, oneV, p_load, p_store, p_binOp, p_unOp, p_indexAddr, p_index, p_box, p_build, evParts, builtinV, load1, ldc, splice, minds, disj, rcOf, isCall, touchV, idsOf, mapId, touchB, p_buildSlice, buildSliceV, reps, fillV, p_convert, p_slice, evO, p_makeSlice, sid_some, soff_some, Nat.reduceLT, Nat.reduceLeDiff, Nat.reduceEqDiff, Nat.reduceAdd, Nat.reduceMul, Int.reduceBEq, Int.reduceEq, Int.reduceNeg, Int.reduceLT, Int.reduceLE, Int.reduceAdd, Int.reduceSub, Int.reduceMul, Int.reduceToNat, Int.reduceGT, Nat.reduceBEq, Nat.reducePow, Nat.reduceGT, reduceCtorEq, loadN_fact ga, loadN_fact gb]
  refine (refValid_ok a).mono ?_
  rintro _ h4 ⟨e4, rfl⟩
  have := lt_of_some ga; replace ga := (Ext.trans (by (repeat (first | assumption | apply Ext.refl | apply Ext.app | (apply Ext.set <;> omega) | exact Ext.trans (by assumption) (by assumption)))) e4).get _ _ ga; have := lt_of_some ga
  have := lt_of_some gb; replace gb := (Ext.trans (by (repeat (first | assumption | apply Ext.refl | apply Ext.app | (apply Ext.set <;> omega) | exact Ext.trans (by assumption) (by assumption)))) e4).get _ _ gb; have := lt_of_some gb
  cases hva : validV a
  · simp -dsimp (disch := first | assumption | omega | (intro h_; cases h_; done) | (simp only [LN] <;> omega) | (simp only [LF]; done) | (repeat (first | assumption | apply Ext.refl | apply Ext.app | (apply Ext.set <;> omega)))) only [AX, TY, gV, dstOf, p_makeFunc, p_mapUpdate, mapPut, entsOf, p_lookup, p_extract, p_nilCheck, oneV, p_load, p_store, p_binOp, p_unOp, p_indexAddr, p_index, p_box, p_build, evParts, builtinV, load1, ldc, splice, minds, disj, rcOf, isCall, touchV, idsOf, mapId, touchB, p_buildSlice, buildSliceV, reps, fillV, p_convert, p_slice, evO, p_makeSlice, sid_some, soff_some, Nat.reduceLT, Nat.reduceLeDiff, Nat.reduceEqDiff, Nat.reduceAdd, Nat.reduceMul, Int.reduceBEq, Int.reduceEq, Int.reduceNeg, Int.reduceLT, Int.reduceLE, Int.reduceAdd, Int.reduceSub, Int.reduceMul, Int.reduceToNat, Int.reduceGT, Nat.reduceBEq, Nat.reducePow, Nat.reduceGT, reduceCtorEq]
  simp -dsimp (disch := first | assumption | omega | (intro h_; cases h_; done) | (simp only [LN] <;> omega) | (simp only [LF]; done) | (repeat (first | assumption | apply Ext.refl | apply Ext.app | (apply Ext.set <;> omega)))) only [AX, TY, gV, dstOf, p_makeFunc, p_mapUpdate, mapPut, entsOf, p_lookup, p_extract, p_nilCheck, oneV, p_load, p_store, p_binOp, p_unOp, p_indexAddr, p_index, p_box, p_build, evParts, builtinV, load1, ldc, splice, minds, disj, rcOf, isCall, touchV, idsOf, mapId, touchB, p_buildSlice, buildSliceV, reps, fillV, p_convert, p_slice, evO, p_makeSlice, sid_some, soff_some, Nat.reduceLT, Nat.reduceLeDiff, Nat.reduceEqDiff, Nat.reduceAdd, Nat.reduceMul, Int.reduceBEq, Int.reduceEq, Int.reduceNeg, Int.reduceLT, Int.reduceLE, Int.reduceAdd, Int.reduceSub, Int.reduceMul, Int.reduceToNat, Int.reduceGT, Nat.reduceBEq, Nat.reducePow, Nat.reduceGT, reduceCtorEq, loadN_fact ga, loadN_fact gb]
  refine (refValid_ok b).mono ?_
  rintro _ h5 ⟨e5, rfl⟩
  have := lt_of_some ga; replace ga := (Ext.trans (by (repeat (first | assumption | apply Ext.refl | apply Ext.app | (apply Ext.set <;> omega) | exact Ext.trans (by assumption) (by assumption)))) e5).get _ _ ga; have := lt_of_some ga
  have := lt_of_some gb; replace gb := (Ext.trans (by (repeat (first | assumption | apply Ext.refl | apply Ext.app | (apply Ext.set <;> omega) | exact Ext.trans (by assumption) (by assumption)))) e5).get _ _ gb; have := lt_of_some gb
  cases hvb : validV b
  · simp -dsimp (disch := first | assumption | omega | (intro h_; cases h_; done) | (simp only [LN] <;> omega) | (simp only [LF]; done) | (repeat (first | assumption | apply Ext.refl | apply Ext.app | (apply Ext.set <;> omega)))) only [AX, TY, gV, dstOf, p_makeFunc, p_mapUpdate, mapPut, entsOf, p_lookup, p_extract, p_nilCheck, oneV, p_load, p_store, p_binOp, p_unOp, p_indexAddr, p_index, p_box, p_build, evParts, builtinV, load1, ldc, splice, minds, disj, rcOf, isCall, touchV, idsOf, mapId, touchB, p_buildSlice, buildSliceV, reps, fillV, p_convert, p_slice, evO, p_makeSlice, sid_some, soff_some, Nat.reduceLT, Nat.reduceLeDiff, Nat.reduceEqDiff, Nat.reduceAdd, Nat.reduceMul, Int.reduceBEq, Int.reduceEq, Int.reduceNeg, Int.reduceLT, Int.reduceLE, Int.reduceAdd, Int.reduceSub, Int.reduceMul, Int.reduceToNat, Int.reduceGT, Nat.reduceBEq, Nat.reducePow, Nat.reduceGT, reduceCtorEq]
  by_cases hk : a.kind = b.kind
  rotate_left
  · simp -dsimp (disch := first | assumption | omega | (intro h_; cases h_; done) | (simp only [LN] <;> omega) | (simp only [LF]; done) | (repeat (first | assumption | apply Ext.refl | apply Ext.app | (apply Ext.set <;> omega)))) only [AX, TY, gV, dstOf, p_makeFunc, p_mapUpdate, mapPut, entsOf, p_lookup, p_extract, p_nilCheck, oneV, p_load, p_store, p_binOp, p_unOp, p_indexAddr, p_index, p_box, p_build, evParts, builtinV, load1, ldc, splice, minds, disj, rcOf, isCall, touchV, idsOf, mapId, touchB, p_buildSlice, buildSliceV, reps, fillV, p_convert, p_slice, evO, p_makeSlice, sid_some, soff_some, Nat.reduceLT, Nat.reduceLeDiff, Nat.reduceEqDiff, Nat.reduceAdd, Nat.reduceMul, Int.reduceBEq, Int.reduceEq, Int.reduceNeg, Int.reduceLT, Int.reduceLE, Int.reduceAdd, Int.reduceSub, Int.reduceMul, Int.reduceToNat, Int.reduceGT, Nat.reduceBEq, Nat.reducePow, Nat.reduceGT, reduceCtorEq, loadN_fact ga, loadN_fact gb, decide_eq_true hk]
  have hk' : decide (¬ a.kind = b.kind) = false := by simp [hk]
  simp -dsimp (disch := first | assumption | omega | (intro h_; cases h_; done) | (simp only [LN] <;> omega) | (simp only [LF]; done) | (repeat (first | assumption | apply Ext.refl | apply Ext.app | (apply Ext.set <;> omega)))) only [AX, TY, gV, dstOf, p_makeFunc, p_mapUpdate, mapPut, entsOf, p_lookup, p_extract, p_nilCheck, oneV, p_load, p_store, p_binOp, p_unOp, p_indexAddr, p_index, p_box, p_build, evParts, builtinV, load1, ldc, splice, minds, disj, rcOf, isCall, touchV, idsOf, mapId, touchB, p_buildSlice, buildSliceV, reps, fillV, p_convert, p_slice, evO, p_makeSlice, sid_some, soff_some, Nat.reduceLT, Nat.reduceLeDiff, Nat.reduceEqDiff, Nat.reduceAdd, Nat.reduceMul, Int.reduceBEq, Int.reduceEq, Int.reduceNeg, Int.reduceLT, Int.reduceLE, Int.reduceAdd, Int.reduceSub, Int.reduceMul, Int.reduceToNat, Int.reduceGT, Nat.reduceBEq, Nat.reducePow, Nat.reduceGT, reduceCtorEq, loadN_fact ga, loadN_fact gb, hk']
  have e7 : ∀ op, matchV op a b = opB op (cmpV a b) := fun op => by simp [matchV, hva, hvb, hk]
  have e8 : ∀ op, matchV op b a = opB op (- cmpV a b) := fun op => by simp [matchV, hva, hvb, hk, cmpV_swap a b]
  have tab : ∃ x5 x7 x9 : Bool, matchV 5 a b = x5 ∧ matchV 7 a b = x7 ∧ matchV 9 a b = x9 ∧ matchV 10 a b = !x7 ∧ matchV 6 a b = !x5 ∧ matchV 8 a b = !x9 ∧ matchV 7 b a = x9 ∧ ((x7 = true ∧ x5 = false ∧ x9 = false) ∨ (x7 = false ∧ x5 = true ∧ x9 = false) ∨ (x7 = false ∧ x5 = false ∧ x9 = true)) := by
    rw [e7, e7, e7, e7, e7, e7, e8]
    rcases cmpV_range a b with hc | hc | hc <;> rw [hc] <;> exact ⟨_, _, _, rfl, rfl, rfl, rfl, rfl, rfl, rfl, by decide⟩
  clear e7 e8
  obtain ⟨x5, x7, x9, m5, m7, m9, m10, m6, m8, s7, hx⟩ := tab
  first | refine cut_wpo ?_ | refine cut_wpc ?_ | refine cut_wpd ?_ | refine cut_W ?_
  intro τ hτ_
  have n4 := (congrFun hτ_ 4).symm
  have n5 := (congrFun hτ_ 5).symm
  have n49 := (congrFun hτ_ 49).symm
  simp -dsimp (disch := first | assumption | omega | (intro h_; cases h_; done) | (simp only [LN] <;> omega) | (simp only [LF]; done) | (repeat (first | assumption | apply Ext.refl | apply Ext.app | (apply Ext.set <;> omega)))) only [upd_eq, upd_ne, argF_zero, argF_succ, argF_nil, putF_some, putF_none, Nat.reduceEqDiff, Nat.reduceAdd, not_false_eq_true, Nat.reduceSucc] at n4 n5 n49
  try rw [t4] at n4
  try rw [t5] at n5
  try rw [t49] at n49
  have t4 := n4
  clear n4
  have t5 := n5
  clear n5
  have t49 := n49
  clear n49
  clear hτ_
  refine W.drawn [(0, []), (1, [0]), (3, [1, 0]), (4, [3, 1, 0]), (6, [4, 3, 1, 0]), (7, [6, 4, 3, 1, 0]), (2, [7, 6, 4, 3]), (5, [7, 6]), (8, []), (9, []), (10, []), (11, [])] (by decide +kernel) ?_
  simp -dsimp (disch := first | assumption | omega | (intro h_; cases h_; done) | (simp only [LN] <;> omega) | (simp only [LF]; done) | (repeat (first | assumption | apply Ext.refl | apply Ext.app | (apply Ext.set <;> omega)))) only [AX, TY, gV, dstOf, p_makeFunc, p_mapUpdate, mapPut, entsOf, p_lookup, p_extract, p_nilCheck, oneV, p_load, p_store, p_binOp, p_unOp, p_indexAddr, p_index, p_box, p_build, evParts, builtinV, load1, ldc, splice, minds, disj, rcOf, isCall, touchV, idsOf, mapId, touchB, p_buildSlice, buildSliceV, reps, fillV, p_convert, p_slice, evO, p_makeSlice, sid_some, soff_some, Nat.reduceLT, Nat.reduceLeDiff, Nat.reduceEqDiff, Nat.reduceAdd, Nat.reduceMul, Int.reduceBEq, Int.reduceEq, Int.reduceNeg, Int.reduceLT, Int.reduceLE, Int.reduceAdd, Int.reduceSub, Int.reduceMul, Int.reduceToNat, Int.reduceGT, Nat.reduceBEq, Nat.reducePow, Nat.reduceGT, reduceCtorEq, t4, t5, loadN_fact ga, loadN_fact gb]
  refine (matches_ok 7 a b).mono ?_
  rintro _ h6 ⟨e6, rfl⟩
  have := lt_of_some ga; replace ga := (Ext.trans (by (repeat (first | assumption | apply Ext.refl | apply Ext.app | (apply Ext.set <;> omega) | exact Ext.trans (by assumption) (by assumption)))) e6).get _ _ ga; have := lt_of_some ga
  have := lt_of_some gb; replace gb := (Ext.trans (by (repeat (first | assumption | apply Ext.refl | apply Ext.app | (apply Ext.set <;> omega) | exact Ext.trans (by assumption) (by assumption)))) e6).get _ _ gb; have := lt_of_some gb
  simp -dsimp (disch := first | assumption | omega | (intro h_; cases h_; done) | (simp only [LN] <;> omega) | (simp only [LF]; done) | (repeat (first | assumption | apply Ext.refl | apply Ext.app | (apply Ext.set <;> omega)))) only [AX, TY, gV, dstOf, p_makeFunc, p_mapUpdate, mapPut, entsOf, p_lookup, p_extract, p_nilCheck, oneV, p_load, p_store, p_binOp, p_unOp, p_indexAddr, p_index, p_box, p_build, evParts, builtinV, load1, ldc, splice, minds, disj, rcOf, isCall, touchV, idsOf, mapId, touchB, p_buildSlice, buildSliceV, reps, fillV, p_convert, p_slice, evO, p_makeSlice, sid_some, soff_some, Nat.reduceLT, Nat.reduceLeDiff, Nat.reduceEqDiff, Nat.reduceAdd, Nat.reduceMul, Int.reduceBEq, Int.reduceEq, Int.reduceNeg, Int.reduceLT, Int.reduceLE, Int.reduceAdd, Int.reduceSub, Int.reduceMul, Int.reduceToNat, Int.reduceGT, Nat.reduceBEq, Nat.reducePow, Nat.reduceGT, reduceCtorEq, t4, t5, loadN_fact ga, loadN_fact gb]
  refine (matches_ok 5 a b).mono ?_
  rintro _ h7 ⟨e7, rfl⟩
  have := lt_of_some ga; replace ga := (Ext.trans (by (repeat (first | assumption | apply Ext.refl | apply Ext.app | (apply Ext.set <;> omega) | exact Ext.trans (by assumption) (by assumption)))) e7).get _ _ ga; have := lt_of_some ga
  have := lt_of_some gb; replace gb := (Ext.trans (by (repeat (first | assumption | apply Ext.refl | apply Ext.app | (apply Ext.set <;> omega) | exact Ext.trans (by assumption) (by assumption)))) e7).get _ _ gb; have := lt_of_some gb
  simp -dsimp (disch := first | assumption | omega | (intro h_; cases h_; done) | (simp only [LN] <;> omega) | (simp only [LF]; done) | (repeat (first | assumption | apply Ext.refl | apply Ext.app | (apply Ext.set <;> omega)))) only [AX, TY, gV, dstOf, p_makeFunc, p_mapUpdate, mapPut, entsOf, p_lookup, p_extract, p_nilCheck, oneV, p_load, p_store, p_binOp, p_unOp, p_indexAddr, p_index, p_box, p_build, evParts, builtinV, load1, ldc, splice, minds, disj, rcOf, isCall, touchV, idsOf, mapId, touchB, p_buildSlice, buildSliceV, reps, fillV, p_convert, p_slice, evO, p_makeSlice, sid_some, soff_some, Nat.reduceLT, Nat.reduceLeDiff, Nat.reduceEqDiff, Nat.reduceAdd, Nat.reduceMul, Int.reduceBEq, Int.reduceEq, Int.reduceNeg, Int.reduceLT, Int.reduceLE, Int.reduceAdd, Int.reduceSub, Int.reduceMul, Int.reduceToNat, Int.reduceGT, Nat.reduceBEq, Nat.reducePow, Nat.reduceGT, reduceCtorEq, t4, t5, loadN_fact ga, loadN_fact gb]
  refine (matches_ok 9 a b).mono ?_
  rintro _ h8 ⟨e8, rfl⟩
  have := lt_of_some ga; replace ga := (Ext.trans (by (repeat (first | assumption | apply Ext.refl | apply Ext.app | (apply Ext.set <;> omega) | exact Ext.trans (by assumption) (by assumption)))) e8).get _ _ ga; have := lt_of_some ga
  have := lt_of_some gb; replace gb := (Ext.trans (by (repeat (first | assumption | apply Ext.refl | apply Ext.app | (apply Ext.set <;> omega) | exact Ext.trans (by assumption) (by assumption)))) e8).get _ _ gb; have := lt_of_some gb
  rw [m5, m7, m9]
  have eh78 : Ext h6 h8 := Ext.trans e7 e8
  refine ⟨?_, wpd_cut (fun τ' h' => h' = h8 ∧ τ' 4 = .ptr (some (h.length, 0)) ∧ τ' 5 = .ptr (some (h.length + 1, 0)) ∧ τ' 7 = .bool x7 ∧ τ' 8 = .bool x5 ∧ τ' 9 = .bool x9) ?_ ?_⟩
  · simp -dsimp (disch := first | assumption | omega | (intro h_; cases h_; done) | (simp only [LN] <;> omega) | (simp only [LF]; done) | (repeat (first | assumption | apply Ext.refl | apply Ext.app | (apply Ext.set <;> omega)))) only [AX, TY, gV, dstOf, p_makeFunc, p_mapUpdate, mapPut, entsOf, p_lookup, p_extract, p_nilCheck, oneV, p_load, p_store, p_binOp, p_unOp, p_indexAddr, p_index, p_box, p_build, evParts, builtinV, load1, ldc, splice, minds, disj, rcOf, isCall, touchV, idsOf, mapId, touchB, p_buildSlice, buildSliceV, reps, fillV, p_convert, p_slice, evO, p_makeSlice, sid_some, soff_some, Nat.reduceLT, Nat.reduceLeDiff, Nat.reduceEqDiff, Nat.reduceAdd, Nat.reduceMul, Int.reduceBEq, Int.reduceEq, Int.reduceNeg, Int.reduceLT, Int.reduceLE, Int.reduceAdd, Int.reduceSub, Int.reduceMul, Int.reduceToNat, Int.reduceGT, Nat.reduceBEq, Nat.reducePow, Nat.reduceGT, reduceCtorEq, t4, t5]
  · simp -dsimp (disch := first | assumption | omega | (intro h_; cases h_; done) | (simp only [LN] <;> omega) | (simp only [LF]; done) | (repeat (first | assumption | apply Ext.refl | apply Ext.app | (apply Ext.set <;> omega)))) only [AX, TY, gV, dstOf, p_makeFunc, p_mapUpdate, mapPut, entsOf, p_lookup, p_extract, p_nilCheck, oneV, p_load, p_store, p_binOp, p_unOp, p_indexAddr, p_index, p_box, p_build, evParts, builtinV, load1, ldc, splice, minds, disj, rcOf, isCall, touchV, idsOf, mapId, touchB, p_buildSlice, buildSliceV, reps, fillV, p_convert, p_slice, evO, p_makeSlice, sid_some, soff_some, Nat.reduceLT, Nat.reduceLeDiff, Nat.reduceEqDiff, Nat.reduceAdd, Nat.reduceMul, Int.reduceBEq, Int.reduceEq, Int.reduceNeg, Int.reduceLT, Int.reduceLE, Int.reduceAdd, Int.reduceSub, Int.reduceMul, Int.reduceToNat, Int.reduceGT, Nat.reduceBEq, Nat.reducePow, Nat.reduceGT, reduceCtorEq, t4, t5]
  clear t4 t5 t49
  rintro τ h8 ⟨rfl, t4, t5, t7, t8, t9⟩
  simp only [thenQ_norm]
  refine wpc_cut (fun τ' h' => h' = h8 ∧ τ' 4 = .ptr (some (h.length, 0)) ∧ τ' 5 = .ptr (some (h.length + 1, 0)) ∧ τ' 7 = .bool x7 ∧ τ' 8 = .bool x5 ∧ τ' 9 = .bool x9 ∧ τ' 10 = .bool true) ?_ ?_
  · rcases hx with ⟨rfl, rfl, rfl⟩ | ⟨rfl, rfl, rfl⟩ | ⟨rfl, rfl, rfl⟩
    · simp -dsimp (disch := first | assumption | omega | (intro h_; cases h_; done) | (simp only [LN] <;> omega) | (simp only [LF]; done) | (repeat (first | assumption | apply Ext.refl | apply Ext.app | (apply Ext.set <;> omega)))) only [AX, TY, gV, dstOf, p_makeFunc, p_mapUpdate, mapPut, entsOf, p_lookup, p_extract, p_nilCheck, oneV, p_load, p_store, p_binOp, p_unOp, p_indexAddr, p_index, p_box, p_build, evParts, builtinV, load1, ldc, splice, minds, disj, rcOf, isCall, touchV, idsOf, mapId, touchB, p_buildSlice, buildSliceV, reps, fillV, p_convert, p_slice, evO, p_makeSlice, sid_some, soff_some, Nat.reduceLT, Nat.reduceLeDiff, Nat.reduceEqDiff, Nat.reduceAdd, Nat.reduceMul, Int.reduceBEq, Int.reduceEq, Int.reduceNeg, Int.reduceLT, Int.reduceLE, Int.reduceAdd, Int.reduceSub, Int.reduceMul, Int.reduceToNat, Int.reduceGT, Nat.reduceBEq, Nat.reducePow, Nat.reduceGT, reduceCtorEq, t4, t5, t7, t8, t9]
    · simp -dsimp (disch := first | assumption | omega | (intro h_; cases h_; done) | (simp only [LN] <;> omega) | (simp only [LF]; done) | (repeat (first | assumption | apply Ext.refl | apply Ext.app | (apply Ext.set <;> omega)))) only [AX, TY, gV, dstOf, p_makeFunc, p_mapUpdate, mapPut, entsOf, p_lookup, p_extract, p_nilCheck, oneV, p_load, p_store, p_binOp, p_unOp, p_indexAddr, p_index, p_box, p_build, evParts, builtinV, load1, ldc, splice, minds, disj, rcOf, isCall, touchV, idsOf, mapId, touchB, p_buildSlice, buildSliceV, reps, fillV, p_convert, p_slice, evO, p_makeSlice, sid_some, soff_some, Nat.reduceLT, Nat.reduceLeDiff, Nat.reduceEqDiff, Nat.reduceAdd, Nat.reduceMul, Int.reduceBEq, Int.reduceEq, Int.reduceNeg, Int.reduceLT, Int.reduceLE, Int.reduceAdd, Int.reduceSub, Int.reduceMul, Int.reduceToNat, Int.reduceGT, Nat.reduceBEq, Nat.reducePow, Nat.reduceGT, reduceCtorEq, t4, t5, t7, t8, t9]
    · simp -dsimp (disch := first | assumption | omega | (intro h_; cases h_; done) | (simp only [LN] <;> omega) | (simp only [LF]; done) | (repeat (first | assumption | apply Ext.refl | apply Ext.app | (apply Ext.set <;> omega)))) only [AX, TY, gV, dstOf, p_makeFunc, p_mapUpdate, mapPut, entsOf, p_lookup, p_extract, p_nilCheck, oneV, p_load, p_store, p_binOp, p_unOp, p_indexAddr, p_index, p_box, p_build, evParts, builtinV, load1, ldc, splice, minds, disj, rcOf, isCall, touchV, idsOf, mapId, touchB, p_buildSlice, buildSliceV, reps, fillV, p_convert, p_slice, evO, p_makeSlice, sid_some, soff_some, Nat.reduceLT, Nat.reduceLeDiff, Nat.reduceEqDiff, Nat.reduceAdd, Nat.reduceMul, Int.reduceBEq, Int.reduceEq, Int.reduceNeg, Int.reduceLT, Int.reduceLE, Int.reduceAdd, Int.reduceSub, Int.reduceMul, Int.reduceToNat, Int.reduceGT, Nat.reduceBEq, Nat.reducePow, Nat.reduceGT, reduceCtorEq, t4, t5, t7, t8, t9]
  clear t4 t5 t7 t8 t9
  rintro τ h8 ⟨rfl, t4, t5, t7, t8, t9, t10⟩
  simp -dsimp (disch := first | assumption | omega | (intro h_; cases h_; done) | (simp only [LN] <;> omega) | (simp only [LF]; done) | (repeat (first | assumption | apply Ext.refl | apply Ext.app | (apply Ext.set <;> omega)))) only [AX, TY, gV, dstOf, p_makeFunc, p_mapUpdate, mapPut, entsOf, p_lookup, p_extract, p_nilCheck, oneV, p_load, p_store, p_binOp, p_unOp, p_indexAddr, p_index, p_box, p_build, evParts, builtinV, load1, ldc, splice, minds, disj, rcOf, isCall, touchV, idsOf, mapId, touchB, p_buildSlice, buildSliceV, reps, fillV, p_convert, p_slice, evO, p_makeSlice, sid_some, soff_some, Nat.reduceLT, Nat.reduceLeDiff, Nat.reduceEqDiff, Nat.reduceAdd, Nat.reduceMul, Int.reduceBEq, Int.reduceEq, Int.reduceNeg, Int.reduceLT, Int.reduceLE, Int.reduceAdd, Int.reduceSub, Int.reduceMul, Int.reduceToNat, Int.reduceGT, Nat.reduceBEq, Nat.reducePow, Nat.reduceGT, reduceCtorEq, t4, t5, t7, t8, t9, t10, loadN_fact ga, loadN_fact gb]
  refine (matches_ok 10 a b).mono ?_
  rintro _ h9 ⟨e9, rfl⟩
  have := lt_of_some ga; replace ga := (Ext.trans (by (repeat (first | assumption | apply Ext.refl | apply Ext.app | (apply Ext.set <;> omega) | exact Ext.trans (by assumption) (by assumption)))) e9).get _ _ ga; have := lt_of_some ga
  have := lt_of_some gb; replace gb := (Ext.trans (by (repeat (first | assumption | apply Ext.refl | apply Ext.app | (apply Ext.set <;> omega) | exact Ext.trans (by assumption) (by assumption)))) e9).get _ _ gb; have := lt_of_some gb
  rw [m10]
  first | refine cut_wpo ?_ | refine cut_wpc ?_ | refine cut_wpd ?_ | refine cut_W ?_
  intro τ hτ_
  have n4 := (congrFun hτ_ 4).symm
  have n5 := (congrFun hτ_ 5).symm
  have n7 := (congrFun hτ_ 7).symm
  have n8 := (congrFun hτ_ 8).symm
  have n9 := (congrFun hτ_ 9).symm
  have n91 := (congrFun hτ_ 91).symm
  have n94 := (congrFun hτ_ 94).symm
  simp -dsimp (disch := first | assumption | omega | (intro h_; cases h_; done) | (simp only [LN] <;> omega) | (simp only [LF]; done) | (repeat (first | assumption | apply Ext.refl | apply Ext.app | (apply Ext.set <;> omega)))) only [upd_eq, upd_ne, argF_zero, argF_succ, argF_nil, putF_some, putF_none, Nat.reduceEqDiff, Nat.reduceAdd, not_false_eq_true, Nat.reduceSucc] at n4 n5 n7 n8 n9 n91 n94
  try rw [t4] at n4
  try rw [t5] at n5
  try rw [t7] at n7
  try rw [t8] at n8
  try rw [t9] at n9
  try rw [t91] at n91
  try rw [t94] at n94
  have t4 := n4
  clear n4
  have t5 := n5
  clear n5
  have t7 := n7
  clear n7
  have t8 := n8
  clear n8
  have t9 := n9
  clear n9
  have t91 := n91
  clear n91
  have t94 := n94
  clear n94
  clear hτ_
  simp -dsimp (disch := first | assumption | omega | (intro h_; cases h_; done) | (simp only [LN] <;> omega) | (simp only [LF]; done) | (repeat (first | assumption | apply Ext.refl | apply Ext.app | (apply Ext.set <;> omega)))) only [AX, TY, gV, dstOf, p_makeFunc, p_mapUpdate, mapPut, entsOf, p_lookup, p_extract, p_nilCheck, oneV, p_load, p_store, p_binOp, p_unOp, p_indexAddr, p_index, p_box, p_build, evParts, builtinV, load1, ldc, splice, minds, disj, rcOf, isCall, touchV, idsOf, mapId, touchB, p_buildSlice, buildSliceV, reps, fillV, p_convert, p_slice, evO, p_makeSlice, sid_some, soff_some, Nat.reduceLT, Nat.reduceLeDiff, Nat.reduceEqDiff, Nat.reduceAdd, Nat.reduceMul, Int.reduceBEq, Int.reduceEq, Int.reduceNeg, Int.reduceLT, Int.reduceLE, Int.reduceAdd, Int.reduceSub, Int.reduceMul, Int.reduceToNat, Int.reduceGT, Nat.reduceBEq, Nat.reducePow, Nat.reduceGT, reduceCtorEq, t4, t5, t7, t8, t9, t91, t94, loadN_fact ga, loadN_fact gb]
  refine (matches_ok 6 a b).mono ?_
  rintro _ h10 ⟨e10, rfl⟩
  have := lt_of_some ga; replace ga := (Ext.trans (by (repeat (first | assumption | apply Ext.refl | apply Ext.app | (apply Ext.set <;> omega) | exact Ext.trans (by assumption) (by assumption)))) e10).get _ _ ga; have := lt_of_some ga
  have := lt_of_some gb; replace gb := (Ext.trans (by (repeat (first | assumption | apply Ext.refl | apply Ext.app | (apply Ext.set <;> omega) | exact Ext.trans (by assumption) (by assumption)))) e10).get _ _ gb; have := lt_of_some gb
  rw [m6]
  first | refine cut_wpo ?_ | refine cut_wpc ?_ | refine cut_wpd ?_ | refine cut_W ?_
  intro τ hτ_
  have n4 := (congrFun hτ_ 4).symm
  have n5 := (congrFun hτ_ 5).symm
  have n8 := (congrFun hτ_ 8).symm
  have n9 := (congrFun hτ_ 9).symm
  have n99 := (congrFun hτ_ 99).symm
  have n102 := (congrFun hτ_ 102).symm
  simp -dsimp (disch := first | assumption | omega | (intro h_; cases h_; done) | (simp only [LN] <;> omega) | (simp only [LF]; done) | (repeat (first | assumption | apply Ext.refl | apply Ext.app | (apply Ext.set <;> omega)))) only [upd_eq, upd_ne, argF_zero, argF_succ, argF_nil, putF_some, putF_none, Nat.reduceEqDiff, Nat.reduceAdd, not_false_eq_true, Nat.reduceSucc] at n4 n5 n8 n9 n99 n102
  try rw [t4] at n4
  try rw [t5] at n5
  try rw [t8] at n8
  try rw [t9] at n9
  try rw [t99] at n99
  try rw [t102] at n102
  have t4 := n4
  clear n4
  have t5 := n5
  clear n5
  have t8 := n8
  clear n8
  have t9 := n9
  clear n9
  have t99 := n99
  clear n99
  have t102 := n102
  clear n102
  clear hτ_
  simp -dsimp (disch := first | assumption | omega | (intro h_; cases h_; done) | (simp only [LN] <;> omega) | (simp only [LF]; done) | (repeat (first | assumption | apply Ext.refl | apply Ext.app | (apply Ext.set <;> omega)))) only [AX, TY, gV, dstOf, p_makeFunc, p_mapUpdate, mapPut, entsOf, p_lookup, p_extract, p_nilCheck, oneV, p_load, p_store, p_binOp, p_unOp, p_indexAddr, p_index, p_box, p_build, evParts, builtinV, load1, ldc, splice, minds, disj, rcOf, isCall, touchV, idsOf, mapId, touchB, p_buildSlice, buildSliceV, reps, fillV, p_convert, p_slice, evO, p_makeSlice, sid_some, soff_some, Nat.reduceLT, Nat.reduceLeDiff, Nat.reduceEqDiff, Nat.reduceAdd, Nat.reduceMul, Int.reduceBEq, Int.reduceEq, Int.reduceNeg, Int.reduceLT, Int.reduceLE, Int.reduceAdd, Int.reduceSub, Int.reduceMul, Int.reduceToNat, Int.reduceGT, Nat.reduceBEq, Nat.reducePow, Nat.reduceGT, reduceCtorEq, t4, t5, t8, t9, t99, t102, loadN_fact ga, loadN_fact gb]
  refine (matches_ok 8 a b).mono ?_
  rintro _ h11 ⟨e11, rfl⟩
  have := lt_of_some ga; replace ga := (Ext.trans (by (repeat (first | assumption | apply Ext.refl | apply Ext.app | (apply Ext.set <;> omega) | exact Ext.trans (by assumption) (by assumption)))) e11).get _ _ ga; have := lt_of_some ga
  have := lt_of_some gb; replace gb := (Ext.trans (by (repeat (first | assumption | apply Ext.refl | apply Ext.app | (apply Ext.set <;> omega) | exact Ext.trans (by assumption) (by assumption)))) e11).get _ _ gb; have := lt_of_some gb
  rw [m8]
  first | refine cut_wpo ?_ | refine cut_wpc ?_ | refine cut_wpd ?_ | refine cut_W ?_
  intro τ hτ_
  have n4 := (congrFun hτ_ 4).symm
  have n5 := (congrFun hτ_ 5).symm
  have n9 := (congrFun hτ_ 9).symm
  have n107 := (congrFun hτ_ 107).symm
  have n110 := (congrFun hτ_ 110).symm
  simp -dsimp (disch := first | assumption | omega | (intro h_; cases h_; done) | (simp only [LN] <;> omega) | (simp only [LF]; done) | (repeat (first | assumption | apply Ext.refl | apply Ext.app | (apply Ext.set <;> omega)))) only [upd_eq, upd_ne, argF_zero, argF_succ, argF_nil, putF_some, putF_none, Nat.reduceEqDiff, Nat.reduceAdd, not_false_eq_true, Nat.reduceSucc] at n4 n5 n9 n107 n110
  try rw [t4] at n4
  try rw [t5] at n5
  try rw [t9] at n9
  try rw [t107] at n107
  try rw [t110] at n110
  have t4 := n4
  clear n4
  have t5 := n5
  clear n5
  have t9 := n9
  clear n9
  have t107 := n107
  clear n107
  have t110 := n110
  clear n110
  clear hτ_
  simp -dsimp (disch := first | assumption | omega | (intro h_; cases h_; done) | (simp only [LN] <;> omega) | (simp only [LF]; done) | (repeat (first | assumption | apply Ext.refl | apply Ext.app | (apply Ext.set <;> omega)))) only [AX, TY, gV, dstOf, p_makeFunc, p_mapUpdate, mapPut, entsOf, p_lookup, p_extract, p_nilCheck, oneV, p_load, p_store, p_binOp, p_unOp, p_indexAddr, p_index, p_box, p_build, evParts, builtinV, load1, ldc, splice, minds, disj, rcOf, isCall, touchV, idsOf, mapId, touchB, p_buildSlice, buildSliceV, reps, fillV, p_convert, p_slice, evO, p_makeSlice, sid_some, soff_some, Nat.reduceLT, Nat.reduceLeDiff, Nat.reduceEqDiff, Nat.reduceAdd, Nat.reduceMul, Int.reduceBEq, Int.reduceEq, Int.reduceNeg, Int.reduceLT, Int.reduceLE, Int.reduceAdd, Int.reduceSub, Int.reduceMul, Int.reduceToNat, Int.reduceGT, Nat.reduceBEq, Nat.reducePow, Nat.reduceGT, reduceCtorEq, t4, t5, t9, t107, t110, loadN_fact ga, loadN_fact gb]
  refine (matches_ok 7 b a).mono ?_
  rintro _ h12 ⟨e12, rfl⟩
  rw [s7]
  simp -dsimp (disch := first | assumption | omega | (intro h_; cases h_; done) | (simp only [LN] <;> omega) | (simp only [LF]; done) | (repeat (first | assumption | apply Ext.refl | apply Ext.app | (apply Ext.set <;> omega)))) only [AX, TY, gV, dstOf, p_makeFunc, p_mapUpdate, mapPut, entsOf, p_lookup, p_extract, p_nilCheck, oneV, p_load, p_store, p_binOp, p_unOp, p_indexAddr, p_index, p_box, p_build, evParts, builtinV, load1, ldc, splice, minds, disj, rcOf, isCall, touchV, idsOf, mapId, touchB, p_buildSlice, buildSliceV, reps, fillV, p_convert, p_slice, evO, p_makeSlice, sid_some, soff_some, Nat.reduceLT, Nat.reduceLeDiff, Nat.reduceEqDiff, Nat.reduceAdd, Nat.reduceMul, Int.reduceBEq, Int.reduceEq, Int.reduceNeg, Int.reduceLT, Int.reduceLE, Int.reduceAdd, Int.reduceSub, Int.reduceMul, Int.reduceToNat, Int.reduceGT, Nat.reduceBEq, Nat.reducePow, Nat.reduceGT, reduceCtorEq, t4, t5, t9, t107, t110]
end Go.Proofs.YtagebnmealiedaaA
