/- Words of this session: chapter 7: the law of extending. -/
import Derived.Test.YtagebnmealiedaaPU
namespace Go.Proofs.YtagebnmealiedaaA
open Go Go.Proofs Go.RowKit
set_option linter.unusedVariables false
set_option linter.unusedSimpArgs false
set_option maxRecDepth 10000
set_option maxHeartbeats 1000000
theorem extend_apply {fn : Int} (hf : 0 ≤ fn ∧ fn ≤ 3) {l : List En} {n : Int} {b : Vl} (hok : (applyV fn l).2 = true) (hn : countV fn ⟨n, b⟩ = true) : extendV fn (applyV fn l).1 n b = applyV fn (l ++ [⟨n, b⟩]) := by
  obtain ⟨h1, h2, h3⟩ := applyV_valid hok
  have hn1 : ¬ n < 1 := by
    intro h; simp [countV, h] at hn
  have hC : ¬ (¬ (0 ≤ fn ∧ fn ≤ 3) ∨ validV (applyV fn l).1 = false ∨ (fn ≤ 1 ∧ isIntV (applyV fn l).1 = false)) := by
    rintro (h | h | ⟨h, h'⟩)
    · exact h hf
    · rw [h1] at h; cases h
    · simp [isIntV, h1, h2 h] at h'
  rw [applyV_snoc hf, extendV, if_neg hC, if_neg hn1, if_pos hn]
  generalize applyV fn l = q at hok
  obtain ⟨v, ok⟩ := q
  simp only at hok
  subst hok
  simp [goStep, hn]
theorem law6_ok {h : Heap} {p : Option (Nat × Nat)} {c : Option Nat} {ys : List En} (hs : Sl h p 4 En.enc ys) (fn : Int) (a : Vl) (n : Int) (b : Vl) : WR (callE Try.prog hk 6 [.int .i64 fn, .slice p ys.length c, .agg a.enc, .int .i64 n, .agg b.enc] h) fun r h' => r = .bool true := by
  have hn := hs.nil'
  have hsm := hs.small
  refine WR.call (hH := rfl) Try.func6 rfl (n := 111) rfl rfl (by simp) ?_
  simp -dsimp (disch := first | assumption | omega | (intro h_; cases h_; done) | (simp only [LN] <;> omega) | (simp only [LF]; done) | (repeat (first | assumption | apply Ext.refl | apply Ext.app | (apply Ext.set <;> omega)))) only [AX, TY, gV, dstOf, p_makeFunc, p_mapUpdate, mapPut, entsOf, p_lookup, p_extract, p_nilCheck, oneV, p_load, p_store, p_binOp, p_unOp, p_indexAddr, p_index, p_box, p_build, evParts, builtinV, load1, ldc, splice, minds, disj, rcOf, isCall, touchV, idsOf, mapId, touchB, p_buildSlice, buildSliceV, reps, fillV, p_convert, p_slice, evO, p_makeSlice, sid_some, soff_some, Nat.reduceLT, Nat.reduceLeDiff, Nat.reduceEqDiff, Nat.reduceAdd, Nat.reduceMul, Int.reduceBEq, Int.reduceEq, Int.reduceNeg, Int.reduceLT, Int.reduceLE, Int.reduceAdd, Int.reduceSub, Int.reduceMul, Int.reduceToNat, Int.reduceGT, Nat.reduceBEq, Nat.reducePow, Nat.reduceGT, reduceCtorEq, Vl.enc]
  refine awake_ok.mono ?_
  rintro _ h1 ⟨e1, rfl⟩
  have eh1 : Ext h h1 := Ext.trans (by (repeat (first | assumption | apply Ext.refl | apply Ext.app | (apply Ext.set <;> omega) | exact Ext.trans (by assumption) (by assumption)))) e1
  have q7 : h1[h.length]? = some (.cells [.int .i64 a.kind, .int .i64 a.int, .str a.text] .rw) := e1 _ _ (by simp -dsimp (disch := first | assumption | omega | (intro h_; cases h_; done) | (simp only [LN] <;> omega) | (simp only [LF]; done) | (repeat (first | assumption | apply Ext.refl | apply Ext.app | (apply Ext.set <;> omega)))) only [AX, TY, gV, dstOf, p_makeFunc, p_mapUpdate, mapPut, entsOf, p_lookup, p_extract, p_nilCheck, oneV, p_load, p_store, p_binOp, p_unOp, p_indexAddr, p_index, p_box, p_build, evParts, builtinV, load1, ldc, splice, minds, disj, rcOf, isCall, touchV, idsOf, mapId, touchB, p_buildSlice, buildSliceV, reps, fillV, p_convert, p_slice, evO, p_makeSlice, sid_some, soff_some, Nat.reduceLT, Nat.reduceLeDiff, Nat.reduceEqDiff, Nat.reduceAdd, Nat.reduceMul, Int.reduceBEq, Int.reduceEq, Int.reduceNeg, Int.reduceLT, Int.reduceLE, Int.reduceAdd, Int.reduceSub, Int.reduceMul, Int.reduceToNat, Int.reduceGT, Nat.reduceBEq, Nat.reducePow, Nat.reduceGT, reduceCtorEq])
  have q9 : h1[h.length + 1]? = some (.cells [.int .i64 b.kind, .int .i64 b.int, .str b.text] .rw) := e1 _ _ (by simp -dsimp (disch := first | assumption | omega | (intro h_; cases h_; done) | (simp only [LN] <;> omega) | (simp only [LF]; done) | (repeat (first | assumption | apply Ext.refl | apply Ext.app | (apply Ext.set <;> omega)))) only [AX, TY, gV, dstOf, p_makeFunc, p_mapUpdate, mapPut, entsOf, p_lookup, p_extract, p_nilCheck, oneV, p_load, p_store, p_binOp, p_unOp, p_indexAddr, p_index, p_box, p_build, evParts, builtinV, load1, ldc, splice, minds, disj, rcOf, isCall, touchV, idsOf, mapId, touchB, p_buildSlice, buildSliceV, reps, fillV, p_convert, p_slice, evO, p_makeSlice, sid_some, soff_some, Nat.reduceLT, Nat.reduceLeDiff, Nat.reduceEqDiff, Nat.reduceAdd, Nat.reduceMul, Int.reduceBEq, Int.reduceEq, Int.reduceNeg, Int.reduceLT, Int.reduceLE, Int.reduceAdd, Int.reduceSub, Int.reduceMul, Int.reduceToNat, Int.reduceGT, Nat.reduceBEq, Nat.reducePow, Nat.reduceGT, reduceCtorEq])
  simp -dsimp (disch := first | assumption | omega | (intro h_; cases h_; done) | (simp only [LN] <;> omega) | (simp only [LF]; done) | (repeat (first | assumption | apply Ext.refl | apply Ext.app | (apply Ext.set <;> omega)))) only [AX, TY, gV, dstOf, p_makeFunc, p_mapUpdate, mapPut, entsOf, p_lookup, p_extract, p_nilCheck, oneV, p_load, p_store, p_binOp, p_unOp, p_indexAddr, p_index, p_box, p_build, evParts, builtinV, load1, ldc, splice, minds, disj, rcOf, isCall, touchV, idsOf, mapId, touchB, p_buildSlice, buildSliceV, reps, fillV, p_convert, p_slice, evO, p_makeSlice, sid_some, soff_some, Nat.reduceLT, Nat.reduceLeDiff, Nat.reduceEqDiff, Nat.reduceAdd, Nat.reduceMul, Int.reduceBEq, Int.reduceEq, Int.reduceNeg, Int.reduceLT, Int.reduceLE, Int.reduceAdd, Int.reduceSub, Int.reduceMul, Int.reduceToNat, Int.reduceGT, Nat.reduceBEq, Nat.reducePow, Nat.reduceGT, reduceCtorEq]
  refine (few_ok (hs.ext eh1)).mono ?_
  rintro _ h1 ⟨rfl, rfl⟩
  cases hb : (decide (ys.length ≤ 40) && ys.all fun y => decide (y.v.text.length ≤ 300))
  · simp -dsimp (disch := first | assumption | omega | (intro h_; cases h_; done) | (simp only [LN] <;> omega) | (simp only [LF]; done) | (repeat (first | assumption | apply Ext.refl | apply Ext.app | (apply Ext.set <;> omega)))) only [AX, TY, gV, dstOf, p_makeFunc, p_mapUpdate, mapPut, entsOf, p_lookup, p_extract, p_nilCheck, oneV, p_load, p_store, p_binOp, p_unOp, p_indexAddr, p_index, p_box, p_build, evParts, builtinV, load1, ldc, splice, minds, disj, rcOf, isCall, touchV, idsOf, mapId, touchB, p_buildSlice, buildSliceV, reps, fillV, p_convert, p_slice, evO, p_makeSlice, sid_some, soff_some, Nat.reduceLT, Nat.reduceLeDiff, Nat.reduceEqDiff, Nat.reduceAdd, Nat.reduceMul, Int.reduceBEq, Int.reduceEq, Int.reduceNeg, Int.reduceLT, Int.reduceLE, Int.reduceAdd, Int.reduceSub, Int.reduceMul, Int.reduceToNat, Int.reduceGT, Nat.reduceBEq, Nat.reducePow, Nat.reduceGT, reduceCtorEq]
    refine awake_ok.mono ?_
    rintro _ h2 ⟨e2, rfl⟩
    simp -dsimp (disch := first | assumption | omega | (intro h_; cases h_; done) | (simp only [LN] <;> omega) | (simp only [LF]; done) | (repeat (first | assumption | apply Ext.refl | apply Ext.app | (apply Ext.set <;> omega)))) only [AX, TY, gV, dstOf, p_makeFunc, p_mapUpdate, mapPut, entsOf, p_lookup, p_extract, p_nilCheck, oneV, p_load, p_store, p_binOp, p_unOp, p_indexAddr, p_index, p_box, p_build, evParts, builtinV, load1, ldc, splice, minds, disj, rcOf, isCall, touchV, idsOf, mapId, touchB, p_buildSlice, buildSliceV, reps, fillV, p_convert, p_slice, evO, p_makeSlice, sid_some, soff_some, Nat.reduceLT, Nat.reduceLeDiff, Nat.reduceEqDiff, Nat.reduceAdd, Nat.reduceMul, Int.reduceBEq, Int.reduceEq, Int.reduceNeg, Int.reduceLT, Int.reduceLE, Int.reduceAdd, Int.reduceSub, Int.reduceMul, Int.reduceToNat, Int.reduceGT, Nat.reduceBEq, Nat.reducePow, Nat.reduceGT, reduceCtorEq]
  have h40 : ys.length ≤ 40 := by simp only [Bool.and_eq_true, decide_eq_true_eq] at hb; exact hb.1
  cases hl : decide (300 < (a.text.length : Int))
  rotate_left
  · simp -dsimp (disch := first | assumption | omega | (intro h_; cases h_; done) | (simp only [LN] <;> omega) | (simp only [LF]; done) | (repeat (first | assumption | apply Ext.refl | apply Ext.app | (apply Ext.set <;> omega)))) only [AX, TY, gV, dstOf, p_makeFunc, p_mapUpdate, mapPut, entsOf, p_lookup, p_extract, p_nilCheck, oneV, p_load, p_store, p_binOp, p_unOp, p_indexAddr, p_index, p_box, p_build, evParts, builtinV, load1, ldc, splice, minds, disj, rcOf, isCall, touchV, idsOf, mapId, touchB, p_buildSlice, buildSliceV, reps, fillV, p_convert, p_slice, evO, p_makeSlice, sid_some, soff_some, Nat.reduceLT, Nat.reduceLeDiff, Nat.reduceEqDiff, Nat.reduceAdd, Nat.reduceMul, Int.reduceBEq, Int.reduceEq, Int.reduceNeg, Int.reduceLT, Int.reduceLE, Int.reduceAdd, Int.reduceSub, Int.reduceMul, Int.reduceToNat, Int.reduceGT, Nat.reduceBEq, Nat.reducePow, Nat.reduceGT, reduceCtorEq, loadN_fact q7, hl]
    refine awake_ok.mono ?_
    rintro _ h2 ⟨e2, rfl⟩
    simp -dsimp (disch := first | assumption | omega | (intro h_; cases h_; done) | (simp only [LN] <;> omega) | (simp only [LF]; done) | (repeat (first | assumption | apply Ext.refl | apply Ext.app | (apply Ext.set <;> omega)))) only [AX, TY, gV, dstOf, p_makeFunc, p_mapUpdate, mapPut, entsOf, p_lookup, p_extract, p_nilCheck, oneV, p_load, p_store, p_binOp, p_unOp, p_indexAddr, p_index, p_box, p_build, evParts, builtinV, load1, ldc, splice, minds, disj, rcOf, isCall, touchV, idsOf, mapId, touchB, p_buildSlice, buildSliceV, reps, fillV, p_convert, p_slice, evO, p_makeSlice, sid_some, soff_some, Nat.reduceLT, Nat.reduceLeDiff, Nat.reduceEqDiff, Nat.reduceAdd, Nat.reduceMul, Int.reduceBEq, Int.reduceEq, Int.reduceNeg, Int.reduceLT, Int.reduceLE, Int.reduceAdd, Int.reduceSub, Int.reduceMul, Int.reduceToNat, Int.reduceGT, Nat.reduceBEq, Nat.reducePow, Nat.reduceGT, reduceCtorEq]
  cases hl2 : decide (300 < (b.text.length : Int))
  rotate_left
  · simp -dsimp (disch := first | assumption | omega | (intro h_; cases h_; done) | (simp only [LN] <;> omega) | (simp only [LF]; done) | (repeat (first | assumption | apply Ext.refl | apply Ext.app | (apply Ext.set <;> omega)))) only [AX, TY, gV, dstOf, p_makeFunc, p_mapUpdate, mapPut, entsOf, p_lookup, p_extract, p_nilCheck, oneV, p_load, p_store, p_binOp, p_unOp, p_indexAddr, p_index, p_box, p_build, evParts, builtinV, load1, ldc, splice, minds, disj, rcOf, isCall, touchV, idsOf, mapId, touchB, p_buildSlice, buildSliceV, reps, fillV, p_convert, p_slice, evO, p_makeSlice, sid_some, soff_some, Nat.reduceLT, Nat.reduceLeDiff, Nat.reduceEqDiff, Nat.reduceAdd, Nat.reduceMul, Int.reduceBEq, Int.reduceEq, Int.reduceNeg, Int.reduceLT, Int.reduceLE, Int.reduceAdd, Int.reduceSub, Int.reduceMul, Int.reduceToNat, Int.reduceGT, Nat.reduceBEq, Nat.reducePow, Nat.reduceGT, reduceCtorEq, loadN_fact q7, loadN_fact q9, hl, hl2]
    refine awake_ok.mono ?_
    rintro _ h2 ⟨e2, rfl⟩
    simp -dsimp (disch := first | assumption | omega | (intro h_; cases h_; done) | (simp only [LN] <;> omega) | (simp only [LF]; done) | (repeat (first | assumption | apply Ext.refl | apply Ext.app | (apply Ext.set <;> omega)))) only [AX, TY, gV, dstOf, p_makeFunc, p_mapUpdate, mapPut, entsOf, p_lookup, p_extract, p_nilCheck, oneV, p_load, p_store, p_binOp, p_unOp, p_indexAddr, p_index, p_box, p_build, evParts, builtinV, load1, ldc, splice, minds, disj, rcOf, isCall, touchV, idsOf, mapId, touchB, p_buildSlice, buildSliceV, reps, fillV, p_convert, p_slice, evO, p_makeSlice, sid_some, soff_some, Nat.reduceLT, Nat.reduceLeDiff, Nat.reduceEqDiff, Nat.reduceAdd, Nat.reduceMul, Int.reduceBEq, Int.reduceEq, Int.reduceNeg, Int.reduceLT, Int.reduceLE, Int.reduceAdd, Int.reduceSub, Int.reduceMul, Int.reduceToNat, Int.reduceGT, Nat.reduceBEq, Nat.reducePow, Nat.reduceGT, reduceCtorEq]
  simp -dsimp (disch := first | assumption | omega | (intro h_; cases h_; done) | (simp only [LN] <;> omega) | (simp only [LF]; done) | (repeat (first | assumption | apply Ext.refl | apply Ext.app | (apply Ext.set <;> omega)))) only [AX, TY, gV, dstOf, p_makeFunc, p_mapUpdate, mapPut, entsOf, p_lookup, p_extract, p_nilCheck, oneV, p_load, p_store, p_binOp, p_unOp, p_indexAddr, p_index, p_box, p_build, evParts, builtinV, load1, ldc, splice, minds, disj, rcOf, isCall, touchV, idsOf, mapId, touchB, p_buildSlice, buildSliceV, reps, fillV, p_convert, p_slice, evO, p_makeSlice, sid_some, soff_some, Nat.reduceLT, Nat.reduceLeDiff, Nat.reduceEqDiff, Nat.reduceAdd, Nat.reduceMul, Int.reduceBEq, Int.reduceEq, Int.reduceNeg, Int.reduceLT, Int.reduceLE, Int.reduceAdd, Int.reduceSub, Int.reduceMul, Int.reduceToNat, Int.reduceGT, Nat.reduceBEq, Nat.reducePow, Nat.reduceGT, reduceCtorEq, loadN_fact q7, loadN_fact q9, hl, hl2]
  refine (extend_ok fn a n b).mono ?_
  rintro _ h2 ⟨e2, rfl⟩
  have := lt_of_some q7; replace q7 := (Ext.trans (by (repeat (first | assumption | apply Ext.refl | apply Ext.app | (apply Ext.set <;> omega) | exact Ext.trans (by assumption) (by assumption)))) e2).get _ _ q7; have := lt_of_some q7
  have := lt_of_some q9; replace q9 := (Ext.trans (by (repeat (first | assumption | apply Ext.refl | apply Ext.app | (apply Ext.set <;> omega) | exact Ext.trans (by assumption) (by assumption)))) e2).get _ _ q9; have := lt_of_some q9
  have eh2 : Ext h h2 := eh1.trans e2
  first | refine cut_wpo ?_ | refine cut_wpc ?_ | refine cut_wpd ?_ | refine cut_W ?_
  intro τ hτ_
  have n0 := (congrFun hτ_ 0).symm
  have n1 := (congrFun hτ_ 1).symm
  have n3 := (congrFun hτ_ 3).symm
  have n7 := (congrFun hτ_ 7).symm
  have n9 := (congrFun hτ_ 9).symm
  have n47 := (congrFun hτ_ 47).symm
  simp -dsimp (disch := first | assumption | omega | (intro h_; cases h_; done) | (simp only [LN] <;> omega) | (simp only [LF]; done) | (repeat (first | assumption | apply Ext.refl | apply Ext.app | (apply Ext.set <;> omega)))) only [upd_eq, upd_ne, argF_zero, argF_succ, argF_nil, putF_some, putF_none, Nat.reduceEqDiff, Nat.reduceAdd, not_false_eq_true, Nat.reduceSucc] at n0 n1 n3 n7 n9 n47
  try rw [t0] at n0
  try rw [t1] at n1
  try rw [t3] at n3
  try rw [t7] at n7
  try rw [t9] at n9
  try rw [t47] at n47
  have t0 := n0
  clear n0
  have t1 := n1
  clear n1
  have t3 := n3
  clear n3
  have t7 := n7
  clear n7
  have t9 := n9
  clear n9
  have t47 := n47
  clear n47
  clear hτ_
  simp -dsimp (disch := first | assumption | omega | (intro h_; cases h_; done) | (simp only [LN] <;> omega) | (simp only [LF]; done) | (repeat (first | assumption | apply Ext.refl | apply Ext.app | (apply Ext.set <;> omega)))) only [AX, TY, gV, dstOf, p_makeFunc, p_mapUpdate, mapPut, entsOf, p_lookup, p_extract, p_nilCheck, oneV, p_load, p_store, p_binOp, p_unOp, p_indexAddr, p_index, p_box, p_build, evParts, builtinV, load1, ldc, splice, minds, disj, rcOf, isCall, touchV, idsOf, mapId, touchB, p_buildSlice, buildSliceV, reps, fillV, p_convert, p_slice, evO, p_makeSlice, sid_some, soff_some, Nat.reduceLT, Nat.reduceLeDiff, Nat.reduceEqDiff, Nat.reduceAdd, Nat.reduceMul, Int.reduceBEq, Int.reduceEq, Int.reduceNeg, Int.reduceLT, Int.reduceLE, Int.reduceAdd, Int.reduceSub, Int.reduceMul, Int.reduceToNat, Int.reduceGT, Nat.reduceBEq, Nat.reducePow, Nat.reduceGT, reduceCtorEq, t0, t1, t3, t7, t9, t47, loadN_fact q7, loadN_fact q9, Vl.enc]
  refine (refExtend_ok fn a n b).mono ?_
  rintro _ h3 ⟨e3, rfl⟩
  have q11 : h3[h2.length]? = some (.cells [.int .i64 (extendV fn a n b).1.kind, .int .i64 (extendV fn a n b).1.int, .str (extendV fn a n b).1.text] .rw) := e3 _ _ (by simp -dsimp (disch := first | assumption | omega | (intro h_; cases h_; done) | (simp only [LN] <;> omega) | (simp only [LF]; done) | (repeat (first | assumption | apply Ext.refl | apply Ext.app | (apply Ext.set <;> omega)))) only [AX, TY, gV, dstOf, p_makeFunc, p_mapUpdate, mapPut, entsOf, p_lookup, p_extract, p_nilCheck, oneV, p_load, p_store, p_binOp, p_unOp, p_indexAddr, p_index, p_box, p_build, evParts, builtinV, load1, ldc, splice, minds, disj, rcOf, isCall, touchV, idsOf, mapId, touchB, p_buildSlice, buildSliceV, reps, fillV, p_convert, p_slice, evO, p_makeSlice, sid_some, soff_some, Nat.reduceLT, Nat.reduceLeDiff, Nat.reduceEqDiff, Nat.reduceAdd, Nat.reduceMul, Int.reduceBEq, Int.reduceEq, Int.reduceNeg, Int.reduceLT, Int.reduceLE, Int.reduceAdd, Int.reduceSub, Int.reduceMul, Int.reduceToNat, Int.reduceGT, Nat.reduceBEq, Nat.reducePow, Nat.reduceGT, reduceCtorEq])
  have := lt_of_some q7; replace q7 := (Ext.trans (by (repeat (first | assumption | apply Ext.refl | apply Ext.app | (apply Ext.set <;> omega) | exact Ext.trans (by assumption) (by assumption)))) e3).get _ _ q7; have := lt_of_some q7
  have := lt_of_some q9; replace q9 := (Ext.trans (by (repeat (first | assumption | apply Ext.refl | apply Ext.app | (apply Ext.set <;> omega) | exact Ext.trans (by assumption) (by assumption)))) e3).get _ _ q9; have := lt_of_some q9
  have eh3 : Ext h h3 := eh2.trans (Ext.trans (by (repeat (first | assumption | apply Ext.refl | apply Ext.app | (apply Ext.set <;> omega) | exact Ext.trans (by assumption) (by assumption)))) e3)
  have l11 := lt_of_some q11
  first | refine cut_wpo ?_ | refine cut_wpc ?_ | refine cut_wpd ?_ | refine cut_W ?_
  intro τ hτ_
  have n0 := (congrFun hτ_ 0).symm
  have n1 := (congrFun hτ_ 1).symm
  have n3 := (congrFun hτ_ 3).symm
  have n9 := (congrFun hτ_ 9).symm
  have n11 := (congrFun hτ_ 11).symm
  have n12 := (congrFun hτ_ 12).symm
  have n55 := (congrFun hτ_ 55).symm
  simp -dsimp (disch := first | assumption | omega | (intro h_; cases h_; done) | (simp only [LN] <;> omega) | (simp only [LF]; done) | (repeat (first | assumption | apply Ext.refl | apply Ext.app | (apply Ext.set <;> omega)))) only [upd_eq, upd_ne, argF_zero, argF_succ, argF_nil, putF_some, putF_none, Nat.reduceEqDiff, Nat.reduceAdd, not_false_eq_true, Nat.reduceSucc] at n0 n1 n3 n9 n11 n12 n55
  try rw [t0] at n0
  try rw [t1] at n1
  try rw [t3] at n3
  try rw [t9] at n9
  try rw [t11] at n11
  try rw [t12] at n12
  try rw [t55] at n55
  have t0 := n0
  clear n0
  have t1 := n1
  clear n1
  have t3 := n3
  clear n3
  have t9 := n9
  clear n9
  have t11 := n11
  clear n11
  have t12 := n12
  clear n12
  have t55 := n55
  clear n55
  clear hτ_
  simp -dsimp (disch := first | assumption | omega | (intro h_; cases h_; done) | (simp only [LN] <;> omega) | (simp only [LF]; done) | (repeat (first | assumption | apply Ext.refl | apply Ext.app | (apply Ext.set <;> omega)))) only [AX, TY, gV, dstOf, p_makeFunc, p_mapUpdate, mapPut, entsOf, p_lookup, p_extract, p_nilCheck, oneV, p_load, p_store, p_binOp, p_unOp, p_indexAddr, p_index, p_box, p_build, evParts, builtinV, load1, ldc, splice, minds, disj, rcOf, isCall, touchV, idsOf, mapId, touchB, p_buildSlice, buildSliceV, reps, fillV, p_convert, p_slice, evO, p_makeSlice, sid_some, soff_some, Nat.reduceLT, Nat.reduceLeDiff, Nat.reduceEqDiff, Nat.reduceAdd, Nat.reduceMul, Int.reduceBEq, Int.reduceEq, Int.reduceNeg, Int.reduceLT, Int.reduceLE, Int.reduceAdd, Int.reduceSub, Int.reduceMul, Int.reduceToNat, Int.reduceGT, Nat.reduceBEq, Nat.reducePow, Nat.reduceGT, reduceCtorEq, t0, t1, t3, t9, t11, t12, t55, loadN_fact q11, loadN_fact q9, Vl.enc, eqt_26]
  refine (is_ok fn).mono ?_
  rintro _ h4 ⟨rfl, rfl⟩
  cases hf : (decide (0 ≤ fn) && decide (fn ≤ 3))
  · simp -dsimp (disch := first | assumption | omega | (intro h_; cases h_; done) | (simp only [LN] <;> omega) | (simp only [LF]; done) | (repeat (first | assumption | apply Ext.refl | apply Ext.app | (apply Ext.set <;> omega)))) only [AX, TY, gV, dstOf, p_makeFunc, p_mapUpdate, mapPut, entsOf, p_lookup, p_extract, p_nilCheck, oneV, p_load, p_store, p_binOp, p_unOp, p_indexAddr, p_index, p_box, p_build, evParts, builtinV, load1, ldc, splice, minds, disj, rcOf, isCall, touchV, idsOf, mapId, touchB, p_buildSlice, buildSliceV, reps, fillV, p_convert, p_slice, evO, p_makeSlice, sid_some, soff_some, Nat.reduceLT, Nat.reduceLeDiff, Nat.reduceEqDiff, Nat.reduceAdd, Nat.reduceMul, Int.reduceBEq, Int.reduceEq, Int.reduceNeg, Int.reduceLT, Int.reduceLE, Int.reduceAdd, Int.reduceSub, Int.reduceMul, Int.reduceToNat, Int.reduceGT, Nat.reduceBEq, Nat.reducePow, Nat.reduceGT, reduceCtorEq, t0, t1, t3, t9, t11, t12, t55]
  have hf' : 0 ≤ fn ∧ fn ≤ 3 := by simpa using hf
  simp -dsimp (disch := first | assumption | omega | (intro h_; cases h_; done) | (simp only [LN] <;> omega) | (simp only [LF]; done) | (repeat (first | assumption | apply Ext.refl | apply Ext.app | (apply Ext.set <;> omega)))) only [AX, TY, gV, dstOf, p_makeFunc, p_mapUpdate, mapPut, entsOf, p_lookup, p_extract, p_nilCheck, oneV, p_load, p_store, p_binOp, p_unOp, p_indexAddr, p_index, p_box, p_build, evParts, builtinV, load1, ldc, splice, minds, disj, rcOf, isCall, touchV, idsOf, mapId, touchB, p_buildSlice, buildSliceV, reps, fillV, p_convert, p_slice, evO, p_makeSlice, sid_some, soff_some, Nat.reduceLT, Nat.reduceLeDiff, Nat.reduceEqDiff, Nat.reduceAdd, Nat.reduceMul, Int.reduceBEq, Int.reduceEq, Int.reduceNeg, Int.reduceLT, Int.reduceLE, Int.reduceAdd, Int.reduceSub, Int.reduceMul, Int.reduceToNat, Int.reduceGT, Nat.reduceBEq, Nat.reducePow, Nat.reduceGT, reduceCtorEq, t0, t1, t3, t9, t11, t12, t55]
  refine (refCounts_ok fn ⟨n, b⟩).mono ?_
  rintro _ h5 ⟨e5, rfl⟩
  have q15 : h5[h3.length + 1]? = some (.cells [.int .i64 n, .int .i64 b.kind, .int .i64 b.int, .str b.text] .rw) := e5 _ _ (by simp -dsimp (disch := first | assumption | omega | (intro h_; cases h_; done) | (simp only [LN] <;> omega) | (simp only [LF]; done) | (repeat (first | assumption | apply Ext.refl | apply Ext.app | (apply Ext.set <;> omega)))) only [AX, TY, gV, dstOf, p_makeFunc, p_mapUpdate, mapPut, entsOf, p_lookup, p_extract, p_nilCheck, oneV, p_load, p_store, p_binOp, p_unOp, p_indexAddr, p_index, p_box, p_build, evParts, builtinV, load1, ldc, splice, minds, disj, rcOf, isCall, touchV, idsOf, mapId, touchB, p_buildSlice, buildSliceV, reps, fillV, p_convert, p_slice, evO, p_makeSlice, sid_some, soff_some, Nat.reduceLT, Nat.reduceLeDiff, Nat.reduceEqDiff, Nat.reduceAdd, Nat.reduceMul, Int.reduceBEq, Int.reduceEq, Int.reduceNeg, Int.reduceLT, Int.reduceLE, Int.reduceAdd, Int.reduceSub, Int.reduceMul, Int.reduceToNat, Int.reduceGT, Nat.reduceBEq, Nat.reducePow, Nat.reduceGT, reduceCtorEq])
  have eh5 : Ext h h5 := eh3.trans (Ext.trans (by (repeat (first | assumption | apply Ext.refl | apply Ext.app | (apply Ext.set <;> omega) | exact Ext.trans (by assumption) (by assumption)))) e5)
  have := lt_of_some q9; replace q9 := (Ext.trans (by (repeat (first | assumption | apply Ext.refl | apply Ext.app | (apply Ext.set <;> omega) | exact Ext.trans (by assumption) (by assumption)))) e5).get _ _ q9; have := lt_of_some q9
  first | refine cut_wpo ?_ | refine cut_wpc ?_ | refine cut_wpd ?_ | refine cut_W ?_
  intro τ hτ_
  have n0 := (congrFun hτ_ 0).symm
  have n1 := (congrFun hτ_ 1).symm
  have n3 := (congrFun hτ_ 3).symm
  have n9 := (congrFun hτ_ 9).symm
  have n15 := (congrFun hτ_ 15).symm
  have n72 := (congrFun hτ_ 72).symm
  have n75 := (congrFun hτ_ 75).symm
  simp -dsimp (disch := first | assumption | omega | (intro h_; cases h_; done) | (simp only [LN] <;> omega) | (simp only [LF]; done) | (repeat (first | assumption | apply Ext.refl | apply Ext.app | (apply Ext.set <;> omega)))) only [upd_eq, upd_ne, argF_zero, argF_succ, argF_nil, putF_some, putF_none, Nat.reduceEqDiff, Nat.reduceAdd, not_false_eq_true, Nat.reduceSucc] at n0 n1 n3 n9 n15 n72 n75
  try rw [t0] at n0
  try rw [t1] at n1
  try rw [t3] at n3
  try rw [t9] at n9
  try rw [t15] at n15
  try rw [t72] at n72
  try rw [t75] at n75
  have t0 := n0
  clear n0
  have t1 := n1
  clear n1
  have t3 := n3
  clear n3
  have t9 := n9
  clear n9
  have t15 := n15
  clear n15
  have t72 := n72
  clear n72
  have t75 := n75
  clear n75
  clear hτ_
  cases hcn : countV fn ⟨n, b⟩
  · simp -dsimp (disch := first | assumption | omega | (intro h_; cases h_; done) | (simp only [LN] <;> omega) | (simp only [LF]; done) | (repeat (first | assumption | apply Ext.refl | apply Ext.app | (apply Ext.set <;> omega)))) only [AX, TY, gV, dstOf, p_makeFunc, p_mapUpdate, mapPut, entsOf, p_lookup, p_extract, p_nilCheck, oneV, p_load, p_store, p_binOp, p_unOp, p_indexAddr, p_index, p_box, p_build, evParts, builtinV, load1, ldc, splice, minds, disj, rcOf, isCall, touchV, idsOf, mapId, touchB, p_buildSlice, buildSliceV, reps, fillV, p_convert, p_slice, evO, p_makeSlice, sid_some, soff_some, Nat.reduceLT, Nat.reduceLeDiff, Nat.reduceEqDiff, Nat.reduceAdd, Nat.reduceMul, Int.reduceBEq, Int.reduceEq, Int.reduceNeg, Int.reduceLT, Int.reduceLE, Int.reduceAdd, Int.reduceSub, Int.reduceMul, Int.reduceToNat, Int.reduceGT, Nat.reduceBEq, Nat.reducePow, Nat.reduceGT, reduceCtorEq, t0, t1, t3, t9, t15, t72, t75, hcn]
  simp -dsimp (disch := first | assumption | omega | (intro h_; cases h_; done) | (simp only [LN] <;> omega) | (simp only [LF]; done) | (repeat (first | assumption | apply Ext.refl | apply Ext.app | (apply Ext.set <;> omega)))) only [AX, TY, gV, dstOf, p_makeFunc, p_mapUpdate, mapPut, entsOf, p_lookup, p_extract, p_nilCheck, oneV, p_load, p_store, p_binOp, p_unOp, p_indexAddr, p_index, p_box, p_build, evParts, builtinV, load1, ldc, splice, minds, disj, rcOf, isCall, touchV, idsOf, mapId, touchB, p_buildSlice, buildSliceV, reps, fillV, p_convert, p_slice, evO, p_makeSlice, sid_some, soff_some, Nat.reduceLT, Nat.reduceLeDiff, Nat.reduceEqDiff, Nat.reduceAdd, Nat.reduceMul, Int.reduceBEq, Int.reduceEq, Int.reduceNeg, Int.reduceLT, Int.reduceLE, Int.reduceAdd, Int.reduceSub, Int.reduceMul, Int.reduceToNat, Int.reduceGT, Nat.reduceBEq, Nat.reducePow, Nat.reduceGT, reduceCtorEq, t0, t1, t3, t9, t15, t72, t75, hcn]
  refine (apply_ok (hs.ext eh5) fn).mono ?_
  rintro _ h6 ⟨e6, rfl⟩
  have := lt_of_some q9; replace q9 := (Ext.trans (by (repeat (first | assumption | apply Ext.refl | apply Ext.app | (apply Ext.set <;> omega) | exact Ext.trans (by assumption) (by assumption)))) e6).get _ _ q9; have := lt_of_some q9
  have := lt_of_some q15; replace q15 := (Ext.trans (by (repeat (first | assumption | apply Ext.refl | apply Ext.app | (apply Ext.set <;> omega) | exact Ext.trans (by assumption) (by assumption)))) e6).get _ _ q15; have := lt_of_some q15
  have eh6 : Ext h h6 := eh5.trans e6
  first | refine cut_wpo ?_ | refine cut_wpc ?_ | refine cut_wpd ?_ | refine cut_W ?_
  intro τ hτ_
  have n0 := (congrFun hτ_ 0).symm
  have n1 := (congrFun hτ_ 1).symm
  have n3 := (congrFun hτ_ 3).symm
  have n9 := (congrFun hτ_ 9).symm
  have n15 := (congrFun hτ_ 15).symm
  have n81 := (congrFun hτ_ 81).symm
  simp -dsimp (disch := first | assumption | omega | (intro h_; cases h_; done) | (simp only [LN] <;> omega) | (simp only [LF]; done) | (repeat (first | assumption | apply Ext.refl | apply Ext.app | (apply Ext.set <;> omega)))) only [upd_eq, upd_ne, argF_zero, argF_succ, argF_nil, putF_some, putF_none, Nat.reduceEqDiff, Nat.reduceAdd, not_false_eq_true, Nat.reduceSucc] at n0 n1 n3 n9 n15 n81
  try rw [t0] at n0
  try rw [t1] at n1
  try rw [t3] at n3
  try rw [t9] at n9
  try rw [t15] at n15
  try rw [t81] at n81
  have t0 := n0
  clear n0
  have t1 := n1
  clear n1
  have t3 := n3
  clear n3
  have t9 := n9
  clear n9
  have t15 := n15
  clear n15
  have t81 := n81
  clear n81
  clear hτ_
  cases hok : (applyV fn ys).2
  · simp -dsimp (disch := first | assumption | omega | (intro h_; cases h_; done) | (simp only [LN] <;> omega) | (simp only [LF]; done) | (repeat (first | assumption | apply Ext.refl | apply Ext.app | (apply Ext.set <;> omega)))) only [AX, TY, gV, dstOf, p_makeFunc, p_mapUpdate, mapPut, entsOf, p_lookup, p_extract, p_nilCheck, oneV, p_load, p_store, p_binOp, p_unOp, p_indexAddr, p_index, p_box, p_build, evParts, builtinV, load1, ldc, splice, minds, disj, rcOf, isCall, touchV, idsOf, mapId, touchB, p_buildSlice, buildSliceV, reps, fillV, p_convert, p_slice, evO, p_makeSlice, sid_some, soff_some, Nat.reduceLT, Nat.reduceLeDiff, Nat.reduceEqDiff, Nat.reduceAdd, Nat.reduceMul, Int.reduceBEq, Int.reduceEq, Int.reduceNeg, Int.reduceLT, Int.reduceLE, Int.reduceAdd, Int.reduceSub, Int.reduceMul, Int.reduceToNat, Int.reduceGT, Nat.reduceBEq, Nat.reducePow, Nat.reduceGT, reduceCtorEq, t0, t1, t3, t9, t15, t81, hok, Vl.enc]
  have hea := @extend_apply fn hf' ys n b hok hcn
  simp -dsimp (disch := first | assumption | omega | (intro h_; cases h_; done) | (simp only [LN] <;> omega) | (simp only [LF]; done) | (repeat (first | assumption | apply Ext.refl | apply Ext.app | (apply Ext.set <;> omega)))) only [AX, TY, gV, dstOf, p_makeFunc, p_mapUpdate, mapPut, entsOf, p_lookup, p_extract, p_nilCheck, oneV, p_load, p_store, p_binOp, p_unOp, p_indexAddr, p_index, p_box, p_build, evParts, builtinV, load1, ldc, splice, minds, disj, rcOf, isCall, touchV, idsOf, mapId, touchB, p_buildSlice, buildSliceV, reps, fillV, p_convert, p_slice, evO, p_makeSlice, sid_some, soff_some, Nat.reduceLT, Nat.reduceLeDiff, Nat.reduceEqDiff, Nat.reduceAdd, Nat.reduceMul, Int.reduceBEq, Int.reduceEq, Int.reduceNeg, Int.reduceLT, Int.reduceLE, Int.reduceAdd, Int.reduceSub, Int.reduceMul, Int.reduceToNat, Int.reduceGT, Nat.reduceBEq, Nat.reducePow, Nat.reduceGT, reduceCtorEq, t0, t1, t3, t9, t15, t81, hok, Vl.enc]
  first | refine cut_wpo ?_ | refine cut_wpc ?_ | refine cut_wpd ?_ | refine cut_W ?_
  intro τ hτ_
  have n0 := (congrFun hτ_ 0).symm
  have n1 := (congrFun hτ_ 1).symm
  have n3 := (congrFun hτ_ 3).symm
  have n9 := (congrFun hτ_ 9).symm
  have n15 := (congrFun hτ_ 15).symm
  have n16 := (congrFun hτ_ 16).symm
  have n85 := (congrFun hτ_ 85).symm
  simp -dsimp (disch := first | assumption | omega | (intro h_; cases h_; done) | (simp only [LN] <;> omega) | (simp only [LF]; done) | (repeat (first | assumption | apply Ext.refl | apply Ext.app | (apply Ext.set <;> omega)))) only [upd_eq, upd_ne, argF_zero, argF_succ, argF_nil, putF_some, putF_none, Nat.reduceEqDiff, Nat.reduceAdd, not_false_eq_true, Nat.reduceSucc] at n0 n1 n3 n9 n15 n16 n85
  try rw [t0] at n0
  try rw [t1] at n1
  try rw [t3] at n3
  try rw [t9] at n9
  try rw [t15] at n15
  try rw [t16] at n16
  try rw [t85] at n85
  have t0 := n0
  clear n0
  have t1 := n1
  clear n1
  have t3 := n3
  clear n3
  have t9 := n9
  clear n9
  have t15 := n15
  clear n15
  have t16 := n16
  clear n16
  have t85 := n85
  clear n85
  clear hτ_
  refine W.drawn [(0, []), (1, [0]), (2, [1, 0]), (3, [0]), (4, [3, 2, 1, 0]), (5, [3, 2, 1, 0]), (6, [0]), (11, [6, 5, 4, 3, 2, 1, 0]), (7, [11]), (8, [11]), (9, [11]), (10, [9, 11]), (12, [10]), (13, [])] (by decide +kernel) ?_
  have l15 := lt_of_some q15
  simp -dsimp (disch := first | assumption | omega | (intro h_; cases h_; done) | (simp only [LN] <;> omega) | (simp only [LF]; done) | (repeat (first | assumption | apply Ext.refl | apply Ext.app | (apply Ext.set <;> omega)))) only [AX, TY, gV, dstOf, p_makeFunc, p_mapUpdate, mapPut, entsOf, p_lookup, p_extract, p_nilCheck, oneV, p_load, p_store, p_binOp, p_unOp, p_indexAddr, p_index, p_box, p_build, evParts, builtinV, load1, ldc, splice, minds, disj, rcOf, isCall, touchV, idsOf, mapId, touchB, p_buildSlice, buildSliceV, reps, fillV, p_convert, p_slice, evO, p_makeSlice, sid_some, soff_some, Nat.reduceLT, Nat.reduceLeDiff, Nat.reduceEqDiff, Nat.reduceAdd, Nat.reduceMul, Int.reduceBEq, Int.reduceEq, Int.reduceNeg, Int.reduceLT, Int.reduceLE, Int.reduceAdd, Int.reduceSub, Int.reduceMul, Int.reduceToNat, Int.reduceGT, Nat.reduceBEq, Nat.reducePow, Nat.reduceGT, reduceCtorEq, t0, t1, t3, t9, t15, t16, t85, loadN_fact q15]
  have hw1 := Ext.app (Ext.app (Ext.refl h6) [O.cells [V.int IntKind.i64 (applyV fn ys).1.kind, V.int IntKind.i64 (applyV fn ys).1.int, V.str (applyV fn ys).1.text] Kd.rw]) [O.cells [] Kd.rw]
  have hf1 := (hs.ext (eh6.trans hw1)).first c (Nat.le_refl _) ys.length
  rw [List.take_of_length_le (Nat.le_refl _)] at hf1
  obtain ⟨p1, c1, o1, h7, hap1, gr1, ho1, hl1, hk1, hb1⟩ := Gr.append (b := h6.length + 1) (ys := ([] : List En)) (zs := ys) (n := ys.length) (bytes := 40) (Gr.built (C := []) (snoc_last _ (by simp)) rfl (Nat.le_refl _) (by simp) (by simp) (by simp) (n := 0) rfl) (by simp) rfl hf1 (en_w ys) (en_l ys) (by simp; omega) (by simp; omega)
  simp only [List.nil_append, List.length_nil] at hap1 gr1
  simp only [List.length_append, List.length_cons, List.length_nil] at hl1
  have q15' := hb1 (h3.length + 1) (by omega)
  rw [snoc_old _ (by simp; omega), snoc_old _ (by omega), q15] at q15'
  have q16 := hb1 h6.length (by omega)
  rw [snoc_old _ (by simp), snoc_last _ rfl] at q16
  have q9' := hb1 (h.length + 1) (by omega)
  rw [snoc_old _ (by simp; omega), snoc_old _ (by omega), q9] at q9'
  have e67 : Ext h6 h7 := Ext.below hw1 (by omega) hb1
  have l15' := lt_of_some q15'
  simp -dsimp (disch := first | assumption | omega | (intro h_; cases h_; done) | (simp only [LN] <;> omega) | (simp only [LF]; done) | (repeat (first | assumption | apply Ext.refl | apply Ext.app | (apply Ext.set <;> omega)))) only [AX, TY, gV, dstOf, p_makeFunc, p_mapUpdate, mapPut, entsOf, p_lookup, p_extract, p_nilCheck, oneV, p_load, p_store, p_binOp, p_unOp, p_indexAddr, p_index, p_box, p_build, evParts, builtinV, load1, ldc, splice, minds, disj, rcOf, isCall, touchV, idsOf, mapId, touchB, p_buildSlice, buildSliceV, reps, fillV, p_convert, p_slice, evO, p_makeSlice, sid_some, soff_some, Nat.reduceLT, Nat.reduceLeDiff, Nat.reduceEqDiff, Nat.reduceAdd, Nat.reduceMul, Int.reduceBEq, Int.reduceEq, Int.reduceNeg, Int.reduceLT, Int.reduceLE, Int.reduceAdd, Int.reduceSub, Int.reduceMul, Int.reduceToNat, Int.reduceGT, Nat.reduceBEq, Nat.reducePow, Nat.reduceGT, reduceCtorEq, t0, t1, t3, t9, t15, t16, t85, hap1, loadN_fact q15']
  have hfx : firstV 4 1 (h7 ++ [O.cells [V.int IntKind.i64 n, V.int IntKind.i64 b.kind, V.int IntKind.i64 b.int, V.str b.text] Kd.rw]) (.slice (some (h7.length, 0)) 1 (some 1)) = some ([(⟨n, b⟩ : En)].flatMap En.enc) := by
    simp only [firstV]; rw [loadN_of (snoc_last _ rfl) (by simp)]; rfl
  have e78' := Ext.app (Ext.refl h7) [O.cells [V.int IntKind.i64 n, V.int IntKind.i64 b.kind, V.int IntKind.i64 b.int, V.str b.text] Kd.rw]
  obtain ⟨p2, c2, o2, h8, hap2, gr2, ho2, hl2', hk2, hb2⟩ := (gr1.ext e78').append (zs := [(⟨n, b⟩ : En)]) (n := 1) (bytes := 40) (by simp; omega) rfl hfx (en_w _) (en_l _) (by simp; omega) (by simp; omega)
  have ho1b : ∀ id, o1 = some id → h6.length + 1 ≤ id := gr1.base
  have hm1 := fun f hf => gr1.muts (.slice (some (h7.length, 0)) 1 (some 1)) f hf
  simp -dsimp (disch := first | assumption | omega | (intro h_; cases h_; done) | (simp only [LN] <;> omega) | (simp only [LF]; done) | (repeat (first | assumption | apply Ext.refl | apply Ext.app | (apply Ext.set <;> omega)))) only [AX, TY, gV, dstOf, p_makeFunc, p_mapUpdate, mapPut, entsOf, p_lookup, p_extract, p_nilCheck, oneV, p_load, p_store, p_binOp, p_unOp, p_indexAddr, p_index, p_box, p_build, evParts, builtinV, load1, ldc, splice, minds, disj, rcOf, isCall, touchV, idsOf, mapId, touchB, p_buildSlice, buildSliceV, reps, fillV, p_convert, p_slice, evO, p_makeSlice, sid_some, soff_some, Nat.reduceLT, Nat.reduceLeDiff, Nat.reduceEqDiff, Nat.reduceAdd, Nat.reduceMul, Int.reduceBEq, Int.reduceEq, Int.reduceNeg, Int.reduceLT, Int.reduceLE, Int.reduceAdd, Int.reduceSub, Int.reduceMul, Int.reduceToNat, Int.reduceGT, Nat.reduceBEq, Nat.reducePow, Nat.reduceGT, reduceCtorEq, t0, t1, t3, t9, t15, t16, t85, hap2]
  have happ := apply_ok (gr2.sl.ext (hh := h8 ++ [O.cells [V.int IntKind.i64 0, V.int IntKind.i64 0, V.str []] Kd.rw]) (by (repeat (first | assumption | apply Ext.refl | apply Ext.app | (apply Ext.set <;> omega) | exact Ext.trans (by assumption) (by assumption))))) (c := c2) fn
  simp only [List.length_append, List.length_cons, List.length_nil, Nat.zero_add] at happ
  refine happ.mono ?_
  rintro _ h9 ⟨e9, rfl⟩
  have e89 : Ext h8 h9 := Ext.trans (by (repeat (first | assumption | apply Ext.refl | apply Ext.app | (apply Ext.set <;> omega) | exact Ext.trans (by assumption) (by assumption)))) e9
  have e68 : Ext h6 h8 := Ext.below (h := h7 ++ [O.cells [V.int IntKind.i64 n, V.int IntKind.i64 b.kind, V.int IntKind.i64 b.int, V.str b.text] Kd.rw]) (Ext.trans e67 e78') (by omega) hb2
  have q18 := e9 _ _ (snoc_last (h := h8) _ rfl)
  have l18 := lt_of_some q18
  have e78 : ∀ i, i < h6.length + 1 → h8[i]? = h7[i]? := fun i hi => by rw [hb2 i hi, snoc_old _ (by omega)]
  have q16a : h9[h6.length]? = some (.cells [.int .i64 (applyV fn ys).1.kind, .int .i64 (applyV fn ys).1.int, .str (applyV fn ys).1.text] .rw) := e89 _ _ (by rw [e78 _ (by omega)]; exact q16)
  have q9a : h9[h.length + 1]? = some (.cells [.int .i64 b.kind, .int .i64 b.int, .str b.text] .rw) := e89 _ _ (by rw [e78 _ (by omega)]; exact q9')
  rw [← hea]
  simp only [List.length_append, List.length_cons, List.length_nil] at hl2'
  have l1 := e67.le
  have l2 := e68.le
  have nq : ¬ h6.length = h8.length := by omega
  have nq2 : ¬ h.length + 1 = h8.length := by omega
  simp -dsimp (disch := first | assumption | omega | (intro h_; cases h_; done) | (simp only [LN] <;> omega) | (simp only [LF]; done) | (repeat (first | assumption | apply Ext.refl | apply Ext.app | (apply Ext.set <;> omega)))) only [AX, TY, gV, dstOf, p_makeFunc, p_mapUpdate, mapPut, entsOf, p_lookup, p_extract, p_nilCheck, oneV, p_load, p_store, p_binOp, p_unOp, p_indexAddr, p_index, p_box, p_build, evParts, builtinV, load1, ldc, splice, minds, disj, rcOf, isCall, touchV, idsOf, mapId, touchB, p_buildSlice, buildSliceV, reps, fillV, p_convert, p_slice, evO, p_makeSlice, sid_some, soff_some, Nat.reduceLT, Nat.reduceLeDiff, Nat.reduceEqDiff, Nat.reduceAdd, Nat.reduceMul, Int.reduceBEq, Int.reduceEq, Int.reduceNeg, Int.reduceLT, Int.reduceLE, Int.reduceAdd, Int.reduceSub, Int.reduceMul, Int.reduceToNat, Int.reduceGT, Nat.reduceBEq, Nat.reducePow, Nat.reduceGT, reduceCtorEq, t0, t1, t3, t9, t15, t16, t85, q18, storeN_fact q18 (by simp), Vl.enc, loadN_fact q16a, loadN_fact q9a]
  refine (extend_ok fn (applyV fn ys).1 n b).mono ?_
  rintro _ h10 ⟨e10, rfl⟩
  have q18b : h10[h8.length]? = some (.cells [.int .i64 (extendV fn (applyV fn ys).1 n b).1.kind, .int .i64 (extendV fn (applyV fn ys).1 n b).1.int, .str (extendV fn (applyV fn ys).1 n b).1.text] .rw) := e10 _ _ (set_same _ l18)
  have l18b := lt_of_some q18b
  have hext : (extendV fn (applyV fn ys).1 n b).2 = true := by
    rw [hea, applyV_snoc hf']; simp [goStep, hcn]
  simp -dsimp (disch := first | assumption | omega | (intro h_; cases h_; done) | (simp only [LN] <;> omega) | (simp only [LF]; done) | (repeat (first | assumption | apply Ext.refl | apply Ext.app | (apply Ext.set <;> omega)))) only [AX, TY, gV, dstOf, p_makeFunc, p_mapUpdate, mapPut, entsOf, p_lookup, p_extract, p_nilCheck, oneV, p_load, p_store, p_binOp, p_unOp, p_indexAddr, p_index, p_box, p_build, evParts, builtinV, load1, ldc, splice, minds, disj, rcOf, isCall, touchV, idsOf, mapId, touchB, p_buildSlice, buildSliceV, reps, fillV, p_convert, p_slice, evO, p_makeSlice, sid_some, soff_some, Nat.reduceLT, Nat.reduceLeDiff, Nat.reduceEqDiff, Nat.reduceAdd, Nat.reduceMul, Int.reduceBEq, Int.reduceEq, Int.reduceNeg, Int.reduceLT, Int.reduceLE, Int.reduceAdd, Int.reduceSub, Int.reduceMul, Int.reduceToNat, Int.reduceGT, Nat.reduceBEq, Nat.reducePow, Nat.reduceGT, reduceCtorEq, t0, t1, t3, t9, t15, t16, t85, hext, Vl.enc, loadN_fact q18b, eqt_26]
end Go.Proofs.YtagebnmealiedaaA
