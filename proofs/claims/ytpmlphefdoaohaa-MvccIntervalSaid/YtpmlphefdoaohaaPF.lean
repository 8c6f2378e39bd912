/- Words of this session: chapter 22: MvccInterval. -/
import Derived.Test.YtpmlphefdoaohaaPE
namespace Go.Proofs.YtpmlphefdoaohaaA
open Go Go.Proofs Go.RowKit
set_option linter.unusedVariables false
set_option linter.unusedSimpArgs false
set_option maxRecDepth 10000
set_option maxHeartbeats 8000000
theorem sc_pure {c d : Int} (q : d = 0 ∨ ¬ d ≤ c) : sees c d c = (decide (¬ d = c) || decide (c = 0)) := by
  unfold sees
  by_cases u1 : d = 0
  · subst u1; by_cases u2 : c = 0
    · subst u2; rfl
    · simp [u2, Ne.symm u2]
  · have u3 : c < d := by omega
    have u4 : ¬ d = c := by omega
    simp [u1, u3, u4]
theorem interval_ok {h : Heap} {i i2 : Int} {p : Option (Nat × Nat)} {n : Nat} {cc : Option Nat} (c d x y z : Int) : WR (callE Try.prog hk 3 [.agg [.int .i64 i, .int .i64 i2, .slice p n cc, .int .i64 c, .int .i64 d], .int .i64 x, .int .i64 y, .int .i64 z] h) fun r h' => r = .bool true := by
  refine WR.call (hH := rfl) Try.func3 rfl (n := 72) rfl rfl (by simp) ?_
  simp -dsimp (disch := first | assumption | omega | (intro h_; cases h_; done) | (simp only [LN] <;> omega) | (simp only [LF]; done) | (repeat (first | assumption | apply Ext.refl | apply Ext.app | (apply Ext.set <;> omega)))) only [AX, TY, gV, dstOf, p_makeFunc, p_mapUpdate, mapPut, entsOf, p_lookup, p_extract, p_nilCheck, oneV, p_load, p_store, p_binOp, p_unOp, p_indexAddr, p_index, p_box, p_build, evParts, builtinV, load1, ldc, splice, minds, disj, rcOf, isCall, touchV, idsOf, mapId, touchB, p_buildSlice, buildSliceV, reps, fillV, p_convert, p_slice, evO, p_makeSlice, sid_some, soff_some, Nat.reduceLT, Nat.reduceLeDiff, Nat.reduceEqDiff, Nat.reduceAdd, Nat.reduceMul, Int.reduceBEq, Int.reduceEq, Int.reduceNeg, Int.reduceLT, Int.reduceLE, Int.reduceAdd, Int.reduceSub, Int.reduceMul, Int.reduceToNat, Int.reduceGT, Nat.reduceBEq, Nat.reducePow, Nat.reduceGT, reduceCtorEq]
  refine (awake_ok).mono ?_
  rintro _ h1 ⟨e1, rfl⟩
  have hb := e1.get _ _ (snoc_last _ rfl)
  have hlt := lt_of_some hb
  have l5 : loadN h1 _ 0 5 = _ := loadN_of hb (by simp)
  have l3 : loadN h1 _ 3 1 = _ := loadN_of hb (by simp)
  have l4 : loadN h1 _ 4 1 = _ := loadN_of hb (by simp)
  simp only [List.drop_zero, List.take_succ_cons, List.take_zero, List.drop_succ_cons] at l5 l3 l4
  cases q0 : decide (¬ d = 0) <;> cases q2 : decide (d ≤ c) <;> cases q3 : decide (x > y) <;> cases q4 : decide (y > z) <;> first | (simp -dsimp (disch := first | assumption | omega | (intro h_; cases h_; done) | (simp only [LN] <;> omega) | (simp only [LF]; done) | (repeat (first | assumption | apply Ext.refl | apply Ext.app | (apply Ext.set <;> omega)))) only [AX, TY, gV, dstOf, p_makeFunc, p_mapUpdate, mapPut, entsOf, p_lookup, p_extract, p_nilCheck, oneV, p_load, p_store, p_binOp, p_unOp, p_indexAddr, p_index, p_box, p_build, evParts, builtinV, load1, ldc, splice, minds, disj, rcOf, isCall, touchV, idsOf, mapId, touchB, p_buildSlice, buildSliceV, reps, fillV, p_convert, p_slice, evO, p_makeSlice, sid_some, soff_some, Nat.reduceLT, Nat.reduceLeDiff, Nat.reduceEqDiff, Nat.reduceAdd, Nat.reduceMul, Int.reduceBEq, Int.reduceEq, Int.reduceNeg, Int.reduceLT, Int.reduceLE, Int.reduceAdd, Int.reduceSub, Int.reduceMul, Int.reduceToNat, Int.reduceGT, Nat.reduceBEq, Nat.reducePow, Nat.reduceGT, reduceCtorEq, q0, q2, q3, q4, l3, l4]; done) | skip
  all_goals (
    simp -dsimp (disch := first | assumption | omega | (intro h_; cases h_; done) | (simp only [LN] <;> omega) | (simp only [LF]; done) | (repeat (first | assumption | apply Ext.refl | apply Ext.app | (apply Ext.set <;> omega)))) only [AX, TY, gV, dstOf, p_makeFunc, p_mapUpdate, mapPut, entsOf, p_lookup, p_extract, p_nilCheck, oneV, p_load, p_store, p_binOp, p_unOp, p_indexAddr, p_index, p_box, p_build, evParts, builtinV, load1, ldc, splice, minds, disj, rcOf, isCall, touchV, idsOf, mapId, touchB, p_buildSlice, buildSliceV, reps, fillV, p_convert, p_slice, evO, p_makeSlice, sid_some, soff_some, Nat.reduceLT, Nat.reduceLeDiff, Nat.reduceEqDiff, Nat.reduceAdd, Nat.reduceMul, Int.reduceBEq, Int.reduceEq, Int.reduceNeg, Int.reduceLT, Int.reduceLE, Int.reduceAdd, Int.reduceSub, Int.reduceMul, Int.reduceToNat, Int.reduceGT, Nat.reduceBEq, Nat.reducePow, Nat.reduceGT, reduceCtorEq, q0, q2, q3, q4, l3, l4, l5]
    refine (sees_ok c d x).mono ?_
    rintro _ h2 ⟨e2, rfl⟩)
  ·
    skip
    replace hb := e2.get _ _ hb
    have m5 : loadN h2 _ 0 5 = _ := loadN_of hb (by simp)
    have m3 : loadN h2 _ 3 1 = _ := loadN_of hb (by simp)
    have m4 : loadN h2 _ 4 1 = _ := loadN_of hb (by simp)
    simp only [List.drop_zero, List.take_succ_cons, List.take_zero, List.drop_succ_cons] at m5 m3 m4
    cases s1 : sees c d x with
    | false =>
      simp -dsimp (disch := first | assumption | omega | (intro h_; cases h_; done) | (simp only [LN] <;> omega) | (simp only [LF]; done) | (repeat (first | assumption | apply Ext.refl | apply Ext.app | (apply Ext.set <;> omega)))) only [AX, TY, gV, dstOf, p_makeFunc, p_mapUpdate, mapPut, entsOf, p_lookup, p_extract, p_nilCheck, oneV, p_load, p_store, p_binOp, p_unOp, p_indexAddr, p_index, p_box, p_build, evParts, builtinV, load1, ldc, splice, minds, disj, rcOf, isCall, touchV, idsOf, mapId, touchB, p_buildSlice, buildSliceV, reps, fillV, p_convert, p_slice, evO, p_makeSlice, sid_some, soff_some, Nat.reduceLT, Nat.reduceLeDiff, Nat.reduceEqDiff, Nat.reduceAdd, Nat.reduceMul, Int.reduceBEq, Int.reduceEq, Int.reduceNeg, Int.reduceLT, Int.reduceLE, Int.reduceAdd, Int.reduceSub, Int.reduceMul, Int.reduceToNat, Int.reduceGT, Nat.reduceBEq, Nat.reducePow, Nat.reduceGT, reduceCtorEq, m5, m3, m4]
      refine W.drawn [(0, []), (1, [0]), (2, [0]), (4, [2, 1, 0]), (5, [2, 1, 0]), (6, [5, 4, 2, 1, 0]), (7, [5, 4, 2, 1, 0]), (8, [2, 1, 0]), (3, [8, 7, 6, 5, 4]), (9, []), (10, []), (11, []), (12, []), (13, []), (14, []), (15, []), (16, []), (17, []), (18, []), (19, []), (20, []), (21, [20]), (22, [20]), (23, []), (24, []), (25, []), (26, []), (27, [])] (by decide +kernel) ?_
      simp -dsimp (disch := first | assumption | omega | (intro h_; cases h_; done) | (simp only [LN] <;> omega) | (simp only [LF]; done) | (repeat (first | assumption | apply Ext.refl | apply Ext.app | (apply Ext.set <;> omega)))) only [AX, TY, gV, dstOf, p_makeFunc, p_mapUpdate, mapPut, entsOf, p_lookup, p_extract, p_nilCheck, oneV, p_load, p_store, p_binOp, p_unOp, p_indexAddr, p_index, p_box, p_build, evParts, builtinV, load1, ldc, splice, minds, disj, rcOf, isCall, touchV, idsOf, mapId, touchB, p_buildSlice, buildSliceV, reps, fillV, p_convert, p_slice, evO, p_makeSlice, sid_some, soff_some, Nat.reduceLT, Nat.reduceLeDiff, Nat.reduceEqDiff, Nat.reduceAdd, Nat.reduceMul, Int.reduceBEq, Int.reduceEq, Int.reduceNeg, Int.reduceLT, Int.reduceLE, Int.reduceAdd, Int.reduceSub, Int.reduceMul, Int.reduceToNat, Int.reduceGT, Nat.reduceBEq, Nat.reducePow, Nat.reduceGT, reduceCtorEq, m5, m3, m4]
      have hb2 := hb
      refine (sees_ok c d c).mono ?_
      rintro _ h7 ⟨e7, rfl⟩
      replace hb := e7.get _ _ hb
      have n5 : loadN h7 _ 0 5 = _ := loadN_of hb (by simp)
      have n3 : loadN h7 _ 3 1 = _ := loadN_of hb (by simp)
      have n4 : loadN h7 _ 4 1 = _ := loadN_of hb (by simp)
      simp only [List.drop_zero, List.take_succ_cons, List.take_zero, List.drop_succ_cons] at n5 n3 n4
      have so : sameO h2[List.length h]? h7[List.length h]? = true := by rw [hb2, hb]; exact sameO_refl _
      have sc : sees c d c = (decide (¬ d = c) || decide (c = 0)) := sc_pure (by
        simp only [decide_eq_true_eq, decide_eq_false_iff_not, Decidable.not_not] at q0 q2
        first | exact .inl q0 | exact .inr q2)
      rw [sc]
      cases q5 : decide (¬ d = c) <;> cases q6 : decide (c = 0) <;> cases q7 : decide (d ≤ 0) <;> (try simp -dsimp (disch := first | assumption | omega | (intro h_; cases h_; done) | (simp only [LN] <;> omega) | (simp only [LF]; done) | (repeat (first | assumption | apply Ext.refl | apply Ext.app | (apply Ext.set <;> omega)))) only [AX, TY, gV, dstOf, p_makeFunc, p_mapUpdate, mapPut, entsOf, p_lookup, p_extract, p_nilCheck, oneV, p_load, p_store, p_binOp, p_unOp, p_indexAddr, p_index, p_box, p_build, evParts, builtinV, load1, ldc, splice, minds, disj, rcOf, isCall, touchV, idsOf, mapId, touchB, p_buildSlice, buildSliceV, reps, fillV, p_convert, p_slice, evO, p_makeSlice, sid_some, soff_some, Nat.reduceLT, Nat.reduceLeDiff, Nat.reduceEqDiff, Nat.reduceAdd, Nat.reduceMul, Int.reduceBEq, Int.reduceEq, Int.reduceNeg, Int.reduceLT, Int.reduceLE, Int.reduceAdd, Int.reduceSub, Int.reduceMul, Int.reduceToNat, Int.reduceGT, Nat.reduceBEq, Nat.reducePow, Nat.reduceGT, reduceCtorEq, n5, n3, n4, so, q5, q6, q7, Bool.or_false, Bool.or_true, Bool.false_or, Bool.true_or])
      all_goals (
        refine (sees_ok c d d).mono ?_
        rintro _ h8 ⟨e8, rfl⟩
        have so2 : sameO h7[List.length h]? h8[List.length h]? = true := by rw [hb, e8.get _ _ hb]; exact sameO_refl _
        have sd : sees c d d = false := by
          have := of_decide_eq_false q7
          unfold sees; simp; omega
        rw [sd]
        simp -dsimp (disch := first | assumption | omega | (intro h_; cases h_; done) | (simp only [LN] <;> omega) | (simp only [LF]; done) | (repeat (first | assumption | apply Ext.refl | apply Ext.app | (apply Ext.set <;> omega)))) only [AX, TY, gV, dstOf, p_makeFunc, p_mapUpdate, mapPut, entsOf, p_lookup, p_extract, p_nilCheck, oneV, p_load, p_store, p_binOp, p_unOp, p_indexAddr, p_index, p_box, p_build, evParts, builtinV, load1, ldc, splice, minds, disj, rcOf, isCall, touchV, idsOf, mapId, touchB, p_buildSlice, buildSliceV, reps, fillV, p_convert, p_slice, evO, p_makeSlice, sid_some, soff_some, Nat.reduceLT, Nat.reduceLeDiff, Nat.reduceEqDiff, Nat.reduceAdd, Nat.reduceMul, Int.reduceBEq, Int.reduceEq, Int.reduceNeg, Int.reduceLT, Int.reduceLE, Int.reduceAdd, Int.reduceSub, Int.reduceMul, Int.reduceToNat, Int.reduceGT, Nat.reduceBEq, Nat.reducePow, Nat.reduceGT, reduceCtorEq, so2])
    | true =>
      simp -dsimp (disch := first | assumption | omega | (intro h_; cases h_; done) | (simp only [LN] <;> omega) | (simp only [LF]; done) | (repeat (first | assumption | apply Ext.refl | apply Ext.app | (apply Ext.set <;> omega)))) only [AX, TY, gV, dstOf, p_makeFunc, p_mapUpdate, mapPut, entsOf, p_lookup, p_extract, p_nilCheck, oneV, p_load, p_store, p_binOp, p_unOp, p_indexAddr, p_index, p_box, p_build, evParts, builtinV, load1, ldc, splice, minds, disj, rcOf, isCall, touchV, idsOf, mapId, touchB, p_buildSlice, buildSliceV, reps, fillV, p_convert, p_slice, evO, p_makeSlice, sid_some, soff_some, Nat.reduceLT, Nat.reduceLeDiff, Nat.reduceEqDiff, Nat.reduceAdd, Nat.reduceMul, Int.reduceBEq, Int.reduceEq, Int.reduceNeg, Int.reduceLT, Int.reduceLE, Int.reduceAdd, Int.reduceSub, Int.reduceMul, Int.reduceToNat, Int.reduceGT, Nat.reduceBEq, Nat.reducePow, Nat.reduceGT, reduceCtorEq, m5, m3, m4]
      refine (sees_ok c d z).mono ?_
      rintro _ h3 ⟨e3, rfl⟩
      replace hb := e3.get _ _ hb
      have o5 : loadN h3 _ 0 5 = _ := loadN_of hb (by simp)
      have o3 : loadN h3 _ 3 1 = _ := loadN_of hb (by simp)
      have o4 : loadN h3 _ 4 1 = _ := loadN_of hb (by simp)
      simp only [List.drop_zero, List.take_succ_cons, List.take_zero, List.drop_succ_cons] at o5 o3 o4
      cases s3 : sees c d z with
      | false =>
        simp -dsimp (disch := first | assumption | omega | (intro h_; cases h_; done) | (simp only [LN] <;> omega) | (simp only [LF]; done) | (repeat (first | assumption | apply Ext.refl | apply Ext.app | (apply Ext.set <;> omega)))) only [AX, TY, gV, dstOf, p_makeFunc, p_mapUpdate, mapPut, entsOf, p_lookup, p_extract, p_nilCheck, oneV, p_load, p_store, p_binOp, p_unOp, p_indexAddr, p_index, p_box, p_build, evParts, builtinV, load1, ldc, splice, minds, disj, rcOf, isCall, touchV, idsOf, mapId, touchB, p_buildSlice, buildSliceV, reps, fillV, p_convert, p_slice, evO, p_makeSlice, sid_some, soff_some, Nat.reduceLT, Nat.reduceLeDiff, Nat.reduceEqDiff, Nat.reduceAdd, Nat.reduceMul, Int.reduceBEq, Int.reduceEq, Int.reduceNeg, Int.reduceLT, Int.reduceLE, Int.reduceAdd, Int.reduceSub, Int.reduceMul, Int.reduceToNat, Int.reduceGT, Nat.reduceBEq, Nat.reducePow, Nat.reduceGT, reduceCtorEq, o5, o3, o4]
        refine W.drawn [(0, []), (1, [0]), (2, [0]), (4, [2, 1, 0]), (5, [2, 1, 0]), (6, [5, 4, 2, 1, 0]), (7, [5, 4, 2, 1, 0]), (8, [2, 1, 0]), (3, [8, 7, 6, 5, 4]), (9, []), (10, []), (11, []), (12, []), (13, []), (14, []), (15, []), (16, []), (17, []), (18, []), (19, []), (20, []), (21, [20]), (22, [20]), (23, []), (24, []), (25, []), (26, []), (27, [])] (by decide +kernel) ?_
        simp -dsimp (disch := first | assumption | omega | (intro h_; cases h_; done) | (simp only [LN] <;> omega) | (simp only [LF]; done) | (repeat (first | assumption | apply Ext.refl | apply Ext.app | (apply Ext.set <;> omega)))) only [AX, TY, gV, dstOf, p_makeFunc, p_mapUpdate, mapPut, entsOf, p_lookup, p_extract, p_nilCheck, oneV, p_load, p_store, p_binOp, p_unOp, p_indexAddr, p_index, p_box, p_build, evParts, builtinV, load1, ldc, splice, minds, disj, rcOf, isCall, touchV, idsOf, mapId, touchB, p_buildSlice, buildSliceV, reps, fillV, p_convert, p_slice, evO, p_makeSlice, sid_some, soff_some, Nat.reduceLT, Nat.reduceLeDiff, Nat.reduceEqDiff, Nat.reduceAdd, Nat.reduceMul, Int.reduceBEq, Int.reduceEq, Int.reduceNeg, Int.reduceLT, Int.reduceLE, Int.reduceAdd, Int.reduceSub, Int.reduceMul, Int.reduceToNat, Int.reduceGT, Nat.reduceBEq, Nat.reducePow, Nat.reduceGT, reduceCtorEq, o5, o3, o4]
        have hb2 := hb
        refine (sees_ok c d c).mono ?_
        rintro _ h7 ⟨e7, rfl⟩
        replace hb := e7.get _ _ hb
        have n5 : loadN h7 _ 0 5 = _ := loadN_of hb (by simp)
        have n3 : loadN h7 _ 3 1 = _ := loadN_of hb (by simp)
        have n4 : loadN h7 _ 4 1 = _ := loadN_of hb (by simp)
        simp only [List.drop_zero, List.take_succ_cons, List.take_zero, List.drop_succ_cons] at n5 n3 n4
        have so : sameO h3[List.length h]? h7[List.length h]? = true := by rw [hb2, hb]; exact sameO_refl _
        have sc : sees c d c = (decide (¬ d = c) || decide (c = 0)) := sc_pure (by
          simp only [decide_eq_true_eq, decide_eq_false_iff_not, Decidable.not_not] at q0 q2
          first | exact .inl q0 | exact .inr q2)
        rw [sc]
        cases q5 : decide (¬ d = c) <;> cases q6 : decide (c = 0) <;> cases q7 : decide (d ≤ 0) <;> (try simp -dsimp (disch := first | assumption | omega | (intro h_; cases h_; done) | (simp only [LN] <;> omega) | (simp only [LF]; done) | (repeat (first | assumption | apply Ext.refl | apply Ext.app | (apply Ext.set <;> omega)))) only [AX, TY, gV, dstOf, p_makeFunc, p_mapUpdate, mapPut, entsOf, p_lookup, p_extract, p_nilCheck, oneV, p_load, p_store, p_binOp, p_unOp, p_indexAddr, p_index, p_box, p_build, evParts, builtinV, load1, ldc, splice, minds, disj, rcOf, isCall, touchV, idsOf, mapId, touchB, p_buildSlice, buildSliceV, reps, fillV, p_convert, p_slice, evO, p_makeSlice, sid_some, soff_some, Nat.reduceLT, Nat.reduceLeDiff, Nat.reduceEqDiff, Nat.reduceAdd, Nat.reduceMul, Int.reduceBEq, Int.reduceEq, Int.reduceNeg, Int.reduceLT, Int.reduceLE, Int.reduceAdd, Int.reduceSub, Int.reduceMul, Int.reduceToNat, Int.reduceGT, Nat.reduceBEq, Nat.reducePow, Nat.reduceGT, reduceCtorEq, n5, n3, n4, so, q5, q6, q7, Bool.or_false, Bool.or_true, Bool.false_or, Bool.true_or])
        all_goals (
          refine (sees_ok c d d).mono ?_
          rintro _ h8 ⟨e8, rfl⟩
          have so2 : sameO h7[List.length h]? h8[List.length h]? = true := by rw [hb, e8.get _ _ hb]; exact sameO_refl _
          have sd : sees c d d = false := by
            have := of_decide_eq_false q7
            unfold sees; simp; omega
          rw [sd]
          simp -dsimp (disch := first | assumption | omega | (intro h_; cases h_; done) | (simp only [LN] <;> omega) | (simp only [LF]; done) | (repeat (first | assumption | apply Ext.refl | apply Ext.app | (apply Ext.set <;> omega)))) only [AX, TY, gV, dstOf, p_makeFunc, p_mapUpdate, mapPut, entsOf, p_lookup, p_extract, p_nilCheck, oneV, p_load, p_store, p_binOp, p_unOp, p_indexAddr, p_index, p_box, p_build, evParts, builtinV, load1, ldc, splice, minds, disj, rcOf, isCall, touchV, idsOf, mapId, touchB, p_buildSlice, buildSliceV, reps, fillV, p_convert, p_slice, evO, p_makeSlice, sid_some, soff_some, Nat.reduceLT, Nat.reduceLeDiff, Nat.reduceEqDiff, Nat.reduceAdd, Nat.reduceMul, Int.reduceBEq, Int.reduceEq, Int.reduceNeg, Int.reduceLT, Int.reduceLE, Int.reduceAdd, Int.reduceSub, Int.reduceMul, Int.reduceToNat, Int.reduceGT, Nat.reduceBEq, Nat.reducePow, Nat.reduceGT, reduceCtorEq, so2])
      | true =>
        simp -dsimp (disch := first | assumption | omega | (intro h_; cases h_; done) | (simp only [LN] <;> omega) | (simp only [LF]; done) | (repeat (first | assumption | apply Ext.refl | apply Ext.app | (apply Ext.set <;> omega)))) only [AX, TY, gV, dstOf, p_makeFunc, p_mapUpdate, mapPut, entsOf, p_lookup, p_extract, p_nilCheck, oneV, p_load, p_store, p_binOp, p_unOp, p_indexAddr, p_index, p_box, p_build, evParts, builtinV, load1, ldc, splice, minds, disj, rcOf, isCall, touchV, idsOf, mapId, touchB, p_buildSlice, buildSliceV, reps, fillV, p_convert, p_slice, evO, p_makeSlice, sid_some, soff_some, Nat.reduceLT, Nat.reduceLeDiff, Nat.reduceEqDiff, Nat.reduceAdd, Nat.reduceMul, Int.reduceBEq, Int.reduceEq, Int.reduceNeg, Int.reduceLT, Int.reduceLE, Int.reduceAdd, Int.reduceSub, Int.reduceMul, Int.reduceToNat, Int.reduceGT, Nat.reduceBEq, Nat.reducePow, Nat.reduceGT, reduceCtorEq, o5, o3, o4]
        refine (sees_ok c d y).mono ?_
        rintro _ h4 ⟨e4, rfl⟩
        replace hb := e4.get _ _ hb
        have u5 : loadN h4 _ 0 5 = _ := loadN_of hb (by simp)
        have u3 : loadN h4 _ 3 1 = _ := loadN_of hb (by simp)
        have u4 : loadN h4 _ 4 1 = _ := loadN_of hb (by simp)
        simp only [List.drop_zero, List.take_succ_cons, List.take_zero, List.drop_succ_cons] at u5 u3 u4
        have s2 : sees c d y = true := by
          have := of_decide_eq_false q3
          have := of_decide_eq_false q4
          unfold sees at s1 s3 ⊢
          simp at s1 s3 ⊢
          omega
        rw [s2]
        simp -dsimp (disch := first | assumption | omega | (intro h_; cases h_; done) | (simp only [LN] <;> omega) | (simp only [LF]; done) | (repeat (first | assumption | apply Ext.refl | apply Ext.app | (apply Ext.set <;> omega)))) only [AX, TY, gV, dstOf, p_makeFunc, p_mapUpdate, mapPut, entsOf, p_lookup, p_extract, p_nilCheck, oneV, p_load, p_store, p_binOp, p_unOp, p_indexAddr, p_index, p_box, p_build, evParts, builtinV, load1, ldc, splice, minds, disj, rcOf, isCall, touchV, idsOf, mapId, touchB, p_buildSlice, buildSliceV, reps, fillV, p_convert, p_slice, evO, p_makeSlice, sid_some, soff_some, Nat.reduceLT, Nat.reduceLeDiff, Nat.reduceEqDiff, Nat.reduceAdd, Nat.reduceMul, Int.reduceBEq, Int.reduceEq, Int.reduceNeg, Int.reduceLT, Int.reduceLE, Int.reduceAdd, Int.reduceSub, Int.reduceMul, Int.reduceToNat, Int.reduceGT, Nat.reduceBEq, Nat.reducePow, Nat.reduceGT, reduceCtorEq, u5, u3, u4]
        refine W.drawn [(0, []), (1, [0]), (2, [0]), (4, [2, 1, 0]), (5, [2, 1, 0]), (6, [5, 4, 2, 1, 0]), (7, [5, 4, 2, 1, 0]), (8, [2, 1, 0]), (3, [8, 7, 6, 5, 4]), (9, []), (10, []), (11, []), (12, []), (13, []), (14, []), (15, []), (16, []), (17, []), (18, []), (19, []), (20, []), (21, [20]), (22, [20]), (23, []), (24, []), (25, []), (26, []), (27, [])] (by decide +kernel) ?_
        simp -dsimp (disch := first | assumption | omega | (intro h_; cases h_; done) | (simp only [LN] <;> omega) | (simp only [LF]; done) | (repeat (first | assumption | apply Ext.refl | apply Ext.app | (apply Ext.set <;> omega)))) only [AX, TY, gV, dstOf, p_makeFunc, p_mapUpdate, mapPut, entsOf, p_lookup, p_extract, p_nilCheck, oneV, p_load, p_store, p_binOp, p_unOp, p_indexAddr, p_index, p_box, p_build, evParts, builtinV, load1, ldc, splice, minds, disj, rcOf, isCall, touchV, idsOf, mapId, touchB, p_buildSlice, buildSliceV, reps, fillV, p_convert, p_slice, evO, p_makeSlice, sid_some, soff_some, Nat.reduceLT, Nat.reduceLeDiff, Nat.reduceEqDiff, Nat.reduceAdd, Nat.reduceMul, Int.reduceBEq, Int.reduceEq, Int.reduceNeg, Int.reduceLT, Int.reduceLE, Int.reduceAdd, Int.reduceSub, Int.reduceMul, Int.reduceToNat, Int.reduceGT, Nat.reduceBEq, Nat.reducePow, Nat.reduceGT, reduceCtorEq, u5, u3, u4]
        have hb2 := hb
        refine (sees_ok c d c).mono ?_
        rintro _ h7 ⟨e7, rfl⟩
        replace hb := e7.get _ _ hb
        have n5 : loadN h7 _ 0 5 = _ := loadN_of hb (by simp)
        have n3 : loadN h7 _ 3 1 = _ := loadN_of hb (by simp)
        have n4 : loadN h7 _ 4 1 = _ := loadN_of hb (by simp)
        simp only [List.drop_zero, List.take_succ_cons, List.take_zero, List.drop_succ_cons] at n5 n3 n4
        have so : sameO h4[List.length h]? h7[List.length h]? = true := by rw [hb2, hb]; exact sameO_refl _
        have sc : sees c d c = (decide (¬ d = c) || decide (c = 0)) := sc_pure (by
          simp only [decide_eq_true_eq, decide_eq_false_iff_not, Decidable.not_not] at q0 q2
          first | exact .inl q0 | exact .inr q2)
        rw [sc]
        cases q5 : decide (¬ d = c) <;> cases q6 : decide (c = 0) <;> cases q7 : decide (d ≤ 0) <;> (try simp -dsimp (disch := first | assumption | omega | (intro h_; cases h_; done) | (simp only [LN] <;> omega) | (simp only [LF]; done) | (repeat (first | assumption | apply Ext.refl | apply Ext.app | (apply Ext.set <;> omega)))) only [AX, TY, gV, dstOf, p_makeFunc, p_mapUpdate, mapPut, entsOf, p_lookup, p_extract, p_nilCheck, oneV, p_load, p_store, p_binOp, p_unOp, p_indexAddr, p_index, p_box, p_build, evParts, builtinV, load1, ldc, splice, minds, disj, rcOf, isCall, touchV, idsOf, mapId, touchB, p_buildSlice, buildSliceV, reps, fillV, p_convert, p_slice, evO, p_makeSlice, sid_some, soff_some, Nat.reduceLT, Nat.reduceLeDiff, Nat.reduceEqDiff, Nat.reduceAdd, Nat.reduceMul, Int.reduceBEq, Int.reduceEq, Int.reduceNeg, Int.reduceLT, Int.reduceLE, Int.reduceAdd, Int.reduceSub, Int.reduceMul, Int.reduceToNat, Int.reduceGT, Nat.reduceBEq, Nat.reducePow, Nat.reduceGT, reduceCtorEq, n5, n3, n4, so, q5, q6, q7, Bool.or_false, Bool.or_true, Bool.false_or, Bool.true_or])
        all_goals (
          refine (sees_ok c d d).mono ?_
          rintro _ h8 ⟨e8, rfl⟩
          have so2 : sameO h7[List.length h]? h8[List.length h]? = true := by rw [hb, e8.get _ _ hb]; exact sameO_refl _
          have sd : sees c d d = false := by
            have := of_decide_eq_false q7
            unfold sees; simp; omega
          rw [sd]
          simp -dsimp (disch := first | assumption | omega | (intro h_; cases h_; done) | (simp only [LN] <;> omega) | (simp only [LF]; done) | (repeat (first | assumption | apply Ext.refl | apply Ext.app | (apply Ext.set <;> omega)))) only [AX, TY, gV, dstOf, p_makeFunc, p_mapUpdate, mapPut, entsOf, p_lookup, p_extract, p_nilCheck, oneV, p_load, p_store, p_binOp, p_unOp, p_indexAddr, p_index, p_box, p_build, evParts, builtinV, load1, ldc, splice, minds, disj, rcOf, isCall, touchV, idsOf, mapId, touchB, p_buildSlice, buildSliceV, reps, fillV, p_convert, p_slice, evO, p_makeSlice, sid_some, soff_some, Nat.reduceLT, Nat.reduceLeDiff, Nat.reduceEqDiff, Nat.reduceAdd, Nat.reduceMul, Int.reduceBEq, Int.reduceEq, Int.reduceNeg, Int.reduceLT, Int.reduceLE, Int.reduceAdd, Int.reduceSub, Int.reduceMul, Int.reduceToNat, Int.reduceGT, Nat.reduceBEq, Nat.reducePow, Nat.reduceGT, reduceCtorEq, so2])
  ·
    skip
    replace hb := e2.get _ _ hb
    have m5 : loadN h2 _ 0 5 = _ := loadN_of hb (by simp)
    have m3 : loadN h2 _ 3 1 = _ := loadN_of hb (by simp)
    have m4 : loadN h2 _ 4 1 = _ := loadN_of hb (by simp)
    simp only [List.drop_zero, List.take_succ_cons, List.take_zero, List.drop_succ_cons] at m5 m3 m4
    cases s1 : sees c d x with
    | false =>
      simp -dsimp (disch := first | assumption | omega | (intro h_; cases h_; done) | (simp only [LN] <;> omega) | (simp only [LF]; done) | (repeat (first | assumption | apply Ext.refl | apply Ext.app | (apply Ext.set <;> omega)))) only [AX, TY, gV, dstOf, p_makeFunc, p_mapUpdate, mapPut, entsOf, p_lookup, p_extract, p_nilCheck, oneV, p_load, p_store, p_binOp, p_unOp, p_indexAddr, p_index, p_box, p_build, evParts, builtinV, load1, ldc, splice, minds, disj, rcOf, isCall, touchV, idsOf, mapId, touchB, p_buildSlice, buildSliceV, reps, fillV, p_convert, p_slice, evO, p_makeSlice, sid_some, soff_some, Nat.reduceLT, Nat.reduceLeDiff, Nat.reduceEqDiff, Nat.reduceAdd, Nat.reduceMul, Int.reduceBEq, Int.reduceEq, Int.reduceNeg, Int.reduceLT, Int.reduceLE, Int.reduceAdd, Int.reduceSub, Int.reduceMul, Int.reduceToNat, Int.reduceGT, Nat.reduceBEq, Nat.reducePow, Nat.reduceGT, reduceCtorEq, m5, m3, m4]
      refine W.drawn [(0, []), (1, [0]), (2, [0]), (4, [2, 1, 0]), (5, [2, 1, 0]), (6, [5, 4, 2, 1, 0]), (7, [5, 4, 2, 1, 0]), (8, [2, 1, 0]), (3, [8, 7, 6, 5, 4]), (9, []), (10, []), (11, []), (12, []), (13, []), (14, []), (15, []), (16, []), (17, []), (18, []), (19, []), (20, []), (21, [20]), (22, [20]), (23, []), (24, []), (25, []), (26, []), (27, [])] (by decide +kernel) ?_
      simp -dsimp (disch := first | assumption | omega | (intro h_; cases h_; done) | (simp only [LN] <;> omega) | (simp only [LF]; done) | (repeat (first | assumption | apply Ext.refl | apply Ext.app | (apply Ext.set <;> omega)))) only [AX, TY, gV, dstOf, p_makeFunc, p_mapUpdate, mapPut, entsOf, p_lookup, p_extract, p_nilCheck, oneV, p_load, p_store, p_binOp, p_unOp, p_indexAddr, p_index, p_box, p_build, evParts, builtinV, load1, ldc, splice, minds, disj, rcOf, isCall, touchV, idsOf, mapId, touchB, p_buildSlice, buildSliceV, reps, fillV, p_convert, p_slice, evO, p_makeSlice, sid_some, soff_some, Nat.reduceLT, Nat.reduceLeDiff, Nat.reduceEqDiff, Nat.reduceAdd, Nat.reduceMul, Int.reduceBEq, Int.reduceEq, Int.reduceNeg, Int.reduceLT, Int.reduceLE, Int.reduceAdd, Int.reduceSub, Int.reduceMul, Int.reduceToNat, Int.reduceGT, Nat.reduceBEq, Nat.reducePow, Nat.reduceGT, reduceCtorEq, m5, m3, m4]
      have hb2 := hb
      refine (sees_ok c d c).mono ?_
      rintro _ h7 ⟨e7, rfl⟩
      replace hb := e7.get _ _ hb
      have n5 : loadN h7 _ 0 5 = _ := loadN_of hb (by simp)
      have n3 : loadN h7 _ 3 1 = _ := loadN_of hb (by simp)
      have n4 : loadN h7 _ 4 1 = _ := loadN_of hb (by simp)
      simp only [List.drop_zero, List.take_succ_cons, List.take_zero, List.drop_succ_cons] at n5 n3 n4
      have so : sameO h2[List.length h]? h7[List.length h]? = true := by rw [hb2, hb]; exact sameO_refl _
      have sc : sees c d c = (decide (¬ d = c) || decide (c = 0)) := sc_pure (by
        simp only [decide_eq_true_eq, decide_eq_false_iff_not, Decidable.not_not] at q0 q2
        first | exact .inl q0 | exact .inr q2)
      rw [sc]
      cases q5 : decide (¬ d = c) <;> cases q6 : decide (c = 0) <;> cases q7 : decide (d ≤ 0) <;> (try simp -dsimp (disch := first | assumption | omega | (intro h_; cases h_; done) | (simp only [LN] <;> omega) | (simp only [LF]; done) | (repeat (first | assumption | apply Ext.refl | apply Ext.app | (apply Ext.set <;> omega)))) only [AX, TY, gV, dstOf, p_makeFunc, p_mapUpdate, mapPut, entsOf, p_lookup, p_extract, p_nilCheck, oneV, p_load, p_store, p_binOp, p_unOp, p_indexAddr, p_index, p_box, p_build, evParts, builtinV, load1, ldc, splice, minds, disj, rcOf, isCall, touchV, idsOf, mapId, touchB, p_buildSlice, buildSliceV, reps, fillV, p_convert, p_slice, evO, p_makeSlice, sid_some, soff_some, Nat.reduceLT, Nat.reduceLeDiff, Nat.reduceEqDiff, Nat.reduceAdd, Nat.reduceMul, Int.reduceBEq, Int.reduceEq, Int.reduceNeg, Int.reduceLT, Int.reduceLE, Int.reduceAdd, Int.reduceSub, Int.reduceMul, Int.reduceToNat, Int.reduceGT, Nat.reduceBEq, Nat.reducePow, Nat.reduceGT, reduceCtorEq, n5, n3, n4, so, q5, q6, q7, Bool.or_false, Bool.or_true, Bool.false_or, Bool.true_or])
      all_goals (
        refine (sees_ok c d d).mono ?_
        rintro _ h8 ⟨e8, rfl⟩
        have so2 : sameO h7[List.length h]? h8[List.length h]? = true := by rw [hb, e8.get _ _ hb]; exact sameO_refl _
        have sd : sees c d d = false := by
          have := of_decide_eq_false q7
          unfold sees; simp; omega
        rw [sd]
        simp -dsimp (disch := first | assumption | omega | (intro h_; cases h_; done) | (simp only [LN] <;> omega) | (simp only [LF]; done) | (repeat (first | assumption | apply Ext.refl | apply Ext.app | (apply Ext.set <;> omega)))) only [AX, TY, gV, dstOf, p_makeFunc, p_mapUpdate, mapPut, entsOf, p_lookup, p_extract, p_nilCheck, oneV, p_load, p_store, p_binOp, p_unOp, p_indexAddr, p_index, p_box, p_build, evParts, builtinV, load1, ldc, splice, minds, disj, rcOf, isCall, touchV, idsOf, mapId, touchB, p_buildSlice, buildSliceV, reps, fillV, p_convert, p_slice, evO, p_makeSlice, sid_some, soff_some, Nat.reduceLT, Nat.reduceLeDiff, Nat.reduceEqDiff, Nat.reduceAdd, Nat.reduceMul, Int.reduceBEq, Int.reduceEq, Int.reduceNeg, Int.reduceLT, Int.reduceLE, Int.reduceAdd, Int.reduceSub, Int.reduceMul, Int.reduceToNat, Int.reduceGT, Nat.reduceBEq, Nat.reducePow, Nat.reduceGT, reduceCtorEq, so2])
    | true =>
      simp -dsimp (disch := first | assumption | omega | (intro h_; cases h_; done) | (simp only [LN] <;> omega) | (simp only [LF]; done) | (repeat (first | assumption | apply Ext.refl | apply Ext.app | (apply Ext.set <;> omega)))) only [AX, TY, gV, dstOf, p_makeFunc, p_mapUpdate, mapPut, entsOf, p_lookup, p_extract, p_nilCheck, oneV, p_load, p_store, p_binOp, p_unOp, p_indexAddr, p_index, p_box, p_build, evParts, builtinV, load1, ldc, splice, minds, disj, rcOf, isCall, touchV, idsOf, mapId, touchB, p_buildSlice, buildSliceV, reps, fillV, p_convert, p_slice, evO, p_makeSlice, sid_some, soff_some, Nat.reduceLT, Nat.reduceLeDiff, Nat.reduceEqDiff, Nat.reduceAdd, Nat.reduceMul, Int.reduceBEq, Int.reduceEq, Int.reduceNeg, Int.reduceLT, Int.reduceLE, Int.reduceAdd, Int.reduceSub, Int.reduceMul, Int.reduceToNat, Int.reduceGT, Nat.reduceBEq, Nat.reducePow, Nat.reduceGT, reduceCtorEq, m5, m3, m4]
      refine (sees_ok c d z).mono ?_
      rintro _ h3 ⟨e3, rfl⟩
      replace hb := e3.get _ _ hb
      have o5 : loadN h3 _ 0 5 = _ := loadN_of hb (by simp)
      have o3 : loadN h3 _ 3 1 = _ := loadN_of hb (by simp)
      have o4 : loadN h3 _ 4 1 = _ := loadN_of hb (by simp)
      simp only [List.drop_zero, List.take_succ_cons, List.take_zero, List.drop_succ_cons] at o5 o3 o4
      cases s3 : sees c d z with
      | false =>
        simp -dsimp (disch := first | assumption | omega | (intro h_; cases h_; done) | (simp only [LN] <;> omega) | (simp only [LF]; done) | (repeat (first | assumption | apply Ext.refl | apply Ext.app | (apply Ext.set <;> omega)))) only [AX, TY, gV, dstOf, p_makeFunc, p_mapUpdate, mapPut, entsOf, p_lookup, p_extract, p_nilCheck, oneV, p_load, p_store, p_binOp, p_unOp, p_indexAddr, p_index, p_box, p_build, evParts, builtinV, load1, ldc, splice, minds, disj, rcOf, isCall, touchV, idsOf, mapId, touchB, p_buildSlice, buildSliceV, reps, fillV, p_convert, p_slice, evO, p_makeSlice, sid_some, soff_some, Nat.reduceLT, Nat.reduceLeDiff, Nat.reduceEqDiff, Nat.reduceAdd, Nat.reduceMul, Int.reduceBEq, Int.reduceEq, Int.reduceNeg, Int.reduceLT, Int.reduceLE, Int.reduceAdd, Int.reduceSub, Int.reduceMul, Int.reduceToNat, Int.reduceGT, Nat.reduceBEq, Nat.reducePow, Nat.reduceGT, reduceCtorEq, o5, o3, o4]
        refine W.drawn [(0, []), (1, [0]), (2, [0]), (4, [2, 1, 0]), (5, [2, 1, 0]), (6, [5, 4, 2, 1, 0]), (7, [5, 4, 2, 1, 0]), (8, [2, 1, 0]), (3, [8, 7, 6, 5, 4]), (9, []), (10, []), (11, []), (12, []), (13, []), (14, []), (15, []), (16, []), (17, []), (18, []), (19, []), (20, []), (21, [20]), (22, [20]), (23, []), (24, []), (25, []), (26, []), (27, [])] (by decide +kernel) ?_
        simp -dsimp (disch := first | assumption | omega | (intro h_; cases h_; done) | (simp only [LN] <;> omega) | (simp only [LF]; done) | (repeat (first | assumption | apply Ext.refl | apply Ext.app | (apply Ext.set <;> omega)))) only [AX, TY, gV, dstOf, p_makeFunc, p_mapUpdate, mapPut, entsOf, p_lookup, p_extract, p_nilCheck, oneV, p_load, p_store, p_binOp, p_unOp, p_indexAddr, p_index, p_box, p_build, evParts, builtinV, load1, ldc, splice, minds, disj, rcOf, isCall, touchV, idsOf, mapId, touchB, p_buildSlice, buildSliceV, reps, fillV, p_convert, p_slice, evO, p_makeSlice, sid_some, soff_some, Nat.reduceLT, Nat.reduceLeDiff, Nat.reduceEqDiff, Nat.reduceAdd, Nat.reduceMul, Int.reduceBEq, Int.reduceEq, Int.reduceNeg, Int.reduceLT, Int.reduceLE, Int.reduceAdd, Int.reduceSub, Int.reduceMul, Int.reduceToNat, Int.reduceGT, Nat.reduceBEq, Nat.reducePow, Nat.reduceGT, reduceCtorEq, o5, o3, o4]
        have hb2 := hb
        refine (sees_ok c d c).mono ?_
        rintro _ h7 ⟨e7, rfl⟩
        replace hb := e7.get _ _ hb
        have n5 : loadN h7 _ 0 5 = _ := loadN_of hb (by simp)
        have n3 : loadN h7 _ 3 1 = _ := loadN_of hb (by simp)
        have n4 : loadN h7 _ 4 1 = _ := loadN_of hb (by simp)
        simp only [List.drop_zero, List.take_succ_cons, List.take_zero, List.drop_succ_cons] at n5 n3 n4
        have so : sameO h3[List.length h]? h7[List.length h]? = true := by rw [hb2, hb]; exact sameO_refl _
        have sc : sees c d c = (decide (¬ d = c) || decide (c = 0)) := sc_pure (by
          simp only [decide_eq_true_eq, decide_eq_false_iff_not, Decidable.not_not] at q0 q2
          first | exact .inl q0 | exact .inr q2)
        rw [sc]
        cases q5 : decide (¬ d = c) <;> cases q6 : decide (c = 0) <;> cases q7 : decide (d ≤ 0) <;> (try simp -dsimp (disch := first | assumption | omega | (intro h_; cases h_; done) | (simp only [LN] <;> omega) | (simp only [LF]; done) | (repeat (first | assumption | apply Ext.refl | apply Ext.app | (apply Ext.set <;> omega)))) only [AX, TY, gV, dstOf, p_makeFunc, p_mapUpdate, mapPut, entsOf, p_lookup, p_extract, p_nilCheck, oneV, p_load, p_store, p_binOp, p_unOp, p_indexAddr, p_index, p_box, p_build, evParts, builtinV, load1, ldc, splice, minds, disj, rcOf, isCall, touchV, idsOf, mapId, touchB, p_buildSlice, buildSliceV, reps, fillV, p_convert, p_slice, evO, p_makeSlice, sid_some, soff_some, Nat.reduceLT, Nat.reduceLeDiff, Nat.reduceEqDiff, Nat.reduceAdd, Nat.reduceMul, Int.reduceBEq, Int.reduceEq, Int.reduceNeg, Int.reduceLT, Int.reduceLE, Int.reduceAdd, Int.reduceSub, Int.reduceMul, Int.reduceToNat, Int.reduceGT, Nat.reduceBEq, Nat.reducePow, Nat.reduceGT, reduceCtorEq, n5, n3, n4, so, q5, q6, q7, Bool.or_false, Bool.or_true, Bool.false_or, Bool.true_or])
        all_goals (
          refine (sees_ok c d d).mono ?_
          rintro _ h8 ⟨e8, rfl⟩
          have so2 : sameO h7[List.length h]? h8[List.length h]? = true := by rw [hb, e8.get _ _ hb]; exact sameO_refl _
          have sd : sees c d d = false := by
            have := of_decide_eq_false q7
            unfold sees; simp; omega
          rw [sd]
          simp -dsimp (disch := first | assumption | omega | (intro h_; cases h_; done) | (simp only [LN] <;> omega) | (simp only [LF]; done) | (repeat (first | assumption | apply Ext.refl | apply Ext.app | (apply Ext.set <;> omega)))) only [AX, TY, gV, dstOf, p_makeFunc, p_mapUpdate, mapPut, entsOf, p_lookup, p_extract, p_nilCheck, oneV, p_load, p_store, p_binOp, p_unOp, p_indexAddr, p_index, p_box, p_build, evParts, builtinV, load1, ldc, splice, minds, disj, rcOf, isCall, touchV, idsOf, mapId, touchB, p_buildSlice, buildSliceV, reps, fillV, p_convert, p_slice, evO, p_makeSlice, sid_some, soff_some, Nat.reduceLT, Nat.reduceLeDiff, Nat.reduceEqDiff, Nat.reduceAdd, Nat.reduceMul, Int.reduceBEq, Int.reduceEq, Int.reduceNeg, Int.reduceLT, Int.reduceLE, Int.reduceAdd, Int.reduceSub, Int.reduceMul, Int.reduceToNat, Int.reduceGT, Nat.reduceBEq, Nat.reducePow, Nat.reduceGT, reduceCtorEq, so2])
      | true =>
        simp -dsimp (disch := first | assumption | omega | (intro h_; cases h_; done) | (simp only [LN] <;> omega) | (simp only [LF]; done) | (repeat (first | assumption | apply Ext.refl | apply Ext.app | (apply Ext.set <;> omega)))) only [AX, TY, gV, dstOf, p_makeFunc, p_mapUpdate, mapPut, entsOf, p_lookup, p_extract, p_nilCheck, oneV, p_load, p_store, p_binOp, p_unOp, p_indexAddr, p_index, p_box, p_build, evParts, builtinV, load1, ldc, splice, minds, disj, rcOf, isCall, touchV, idsOf, mapId, touchB, p_buildSlice, buildSliceV, reps, fillV, p_convert, p_slice, evO, p_makeSlice, sid_some, soff_some, Nat.reduceLT, Nat.reduceLeDiff, Nat.reduceEqDiff, Nat.reduceAdd, Nat.reduceMul, Int.reduceBEq, Int.reduceEq, Int.reduceNeg, Int.reduceLT, Int.reduceLE, Int.reduceAdd, Int.reduceSub, Int.reduceMul, Int.reduceToNat, Int.reduceGT, Nat.reduceBEq, Nat.reducePow, Nat.reduceGT, reduceCtorEq, o5, o3, o4]
        refine (sees_ok c d y).mono ?_
        rintro _ h4 ⟨e4, rfl⟩
        replace hb := e4.get _ _ hb
        have u5 : loadN h4 _ 0 5 = _ := loadN_of hb (by simp)
        have u3 : loadN h4 _ 3 1 = _ := loadN_of hb (by simp)
        have u4 : loadN h4 _ 4 1 = _ := loadN_of hb (by simp)
        simp only [List.drop_zero, List.take_succ_cons, List.take_zero, List.drop_succ_cons] at u5 u3 u4
        have s2 : sees c d y = true := by
          have := of_decide_eq_false q3
          have := of_decide_eq_false q4
          unfold sees at s1 s3 ⊢
          simp at s1 s3 ⊢
          omega
        rw [s2]
        simp -dsimp (disch := first | assumption | omega | (intro h_; cases h_; done) | (simp only [LN] <;> omega) | (simp only [LF]; done) | (repeat (first | assumption | apply Ext.refl | apply Ext.app | (apply Ext.set <;> omega)))) only [AX, TY, gV, dstOf, p_makeFunc, p_mapUpdate, mapPut, entsOf, p_lookup, p_extract, p_nilCheck, oneV, p_load, p_store, p_binOp, p_unOp, p_indexAddr, p_index, p_box, p_build, evParts, builtinV, load1, ldc, splice, minds, disj, rcOf, isCall, touchV, idsOf, mapId, touchB, p_buildSlice, buildSliceV, reps, fillV, p_convert, p_slice, evO, p_makeSlice, sid_some, soff_some, Nat.reduceLT, Nat.reduceLeDiff, Nat.reduceEqDiff, Nat.reduceAdd, Nat.reduceMul, Int.reduceBEq, Int.reduceEq, Int.reduceNeg, Int.reduceLT, Int.reduceLE, Int.reduceAdd, Int.reduceSub, Int.reduceMul, Int.reduceToNat, Int.reduceGT, Nat.reduceBEq, Nat.reducePow, Nat.reduceGT, reduceCtorEq, u5, u3, u4]
        refine W.drawn [(0, []), (1, [0]), (2, [0]), (4, [2, 1, 0]), (5, [2, 1, 0]), (6, [5, 4, 2, 1, 0]), (7, [5, 4, 2, 1, 0]), (8, [2, 1, 0]), (3, [8, 7, 6, 5, 4]), (9, []), (10, []), (11, []), (12, []), (13, []), (14, []), (15, []), (16, []), (17, []), (18, []), (19, []), (20, []), (21, [20]), (22, [20]), (23, []), (24, []), (25, []), (26, []), (27, [])] (by decide +kernel) ?_
        simp -dsimp (disch := first | assumption | omega | (intro h_; cases h_; done) | (simp only [LN] <;> omega) | (simp only [LF]; done) | (repeat (first | assumption | apply Ext.refl | apply Ext.app | (apply Ext.set <;> omega)))) only [AX, TY, gV, dstOf, p_makeFunc, p_mapUpdate, mapPut, entsOf, p_lookup, p_extract, p_nilCheck, oneV, p_load, p_store, p_binOp, p_unOp, p_indexAddr, p_index, p_box, p_build, evParts, builtinV, load1, ldc, splice, minds, disj, rcOf, isCall, touchV, idsOf, mapId, touchB, p_buildSlice, buildSliceV, reps, fillV, p_convert, p_slice, evO, p_makeSlice, sid_some, soff_some, Nat.reduceLT, Nat.reduceLeDiff, Nat.reduceEqDiff, Nat.reduceAdd, Nat.reduceMul, Int.reduceBEq, Int.reduceEq, Int.reduceNeg, Int.reduceLT, Int.reduceLE, Int.reduceAdd, Int.reduceSub, Int.reduceMul, Int.reduceToNat, Int.reduceGT, Nat.reduceBEq, Nat.reducePow, Nat.reduceGT, reduceCtorEq, u5, u3, u4]
        have hb2 := hb
        refine (sees_ok c d c).mono ?_
        rintro _ h7 ⟨e7, rfl⟩
        replace hb := e7.get _ _ hb
        have n5 : loadN h7 _ 0 5 = _ := loadN_of hb (by simp)
        have n3 : loadN h7 _ 3 1 = _ := loadN_of hb (by simp)
        have n4 : loadN h7 _ 4 1 = _ := loadN_of hb (by simp)
        simp only [List.drop_zero, List.take_succ_cons, List.take_zero, List.drop_succ_cons] at n5 n3 n4
        have so : sameO h4[List.length h]? h7[List.length h]? = true := by rw [hb2, hb]; exact sameO_refl _
        have sc : sees c d c = (decide (¬ d = c) || decide (c = 0)) := sc_pure (by
          simp only [decide_eq_true_eq, decide_eq_false_iff_not, Decidable.not_not] at q0 q2
          first | exact .inl q0 | exact .inr q2)
        rw [sc]
        cases q5 : decide (¬ d = c) <;> cases q6 : decide (c = 0) <;> cases q7 : decide (d ≤ 0) <;> (try simp -dsimp (disch := first | assumption | omega | (intro h_; cases h_; done) | (simp only [LN] <;> omega) | (simp only [LF]; done) | (repeat (first | assumption | apply Ext.refl | apply Ext.app | (apply Ext.set <;> omega)))) only [AX, TY, gV, dstOf, p_makeFunc, p_mapUpdate, mapPut, entsOf, p_lookup, p_extract, p_nilCheck, oneV, p_load, p_store, p_binOp, p_unOp, p_indexAddr, p_index, p_box, p_build, evParts, builtinV, load1, ldc, splice, minds, disj, rcOf, isCall, touchV, idsOf, mapId, touchB, p_buildSlice, buildSliceV, reps, fillV, p_convert, p_slice, evO, p_makeSlice, sid_some, soff_some, Nat.reduceLT, Nat.reduceLeDiff, Nat.reduceEqDiff, Nat.reduceAdd, Nat.reduceMul, Int.reduceBEq, Int.reduceEq, Int.reduceNeg, Int.reduceLT, Int.reduceLE, Int.reduceAdd, Int.reduceSub, Int.reduceMul, Int.reduceToNat, Int.reduceGT, Nat.reduceBEq, Nat.reducePow, Nat.reduceGT, reduceCtorEq, n5, n3, n4, so, q5, q6, q7, Bool.or_false, Bool.or_true, Bool.false_or, Bool.true_or])
        all_goals (
          refine (sees_ok c d d).mono ?_
          rintro _ h8 ⟨e8, rfl⟩
          have so2 : sameO h7[List.length h]? h8[List.length h]? = true := by rw [hb, e8.get _ _ hb]; exact sameO_refl _
          have sd : sees c d d = false := by
            have := of_decide_eq_false q7
            unfold sees; simp; omega
          rw [sd]
          simp -dsimp (disch := first | assumption | omega | (intro h_; cases h_; done) | (simp only [LN] <;> omega) | (simp only [LF]; done) | (repeat (first | assumption | apply Ext.refl | apply Ext.app | (apply Ext.set <;> omega)))) only [AX, TY, gV, dstOf, p_makeFunc, p_mapUpdate, mapPut, entsOf, p_lookup, p_extract, p_nilCheck, oneV, p_load, p_store, p_binOp, p_unOp, p_indexAddr, p_index, p_box, p_build, evParts, builtinV, load1, ldc, splice, minds, disj, rcOf, isCall, touchV, idsOf, mapId, touchB, p_buildSlice, buildSliceV, reps, fillV, p_convert, p_slice, evO, p_makeSlice, sid_some, soff_some, Nat.reduceLT, Nat.reduceLeDiff, Nat.reduceEqDiff, Nat.reduceAdd, Nat.reduceMul, Int.reduceBEq, Int.reduceEq, Int.reduceNeg, Int.reduceLT, Int.reduceLE, Int.reduceAdd, Int.reduceSub, Int.reduceMul, Int.reduceToNat, Int.reduceGT, Nat.reduceBEq, Nat.reducePow, Nat.reduceGT, reduceCtorEq, so2])
  ·
    skip
    replace hb := e2.get _ _ hb
    have m5 : loadN h2 _ 0 5 = _ := loadN_of hb (by simp)
    have m3 : loadN h2 _ 3 1 = _ := loadN_of hb (by simp)
    have m4 : loadN h2 _ 4 1 = _ := loadN_of hb (by simp)
    simp only [List.drop_zero, List.take_succ_cons, List.take_zero, List.drop_succ_cons] at m5 m3 m4
    cases s1 : sees c d x with
    | false =>
      simp -dsimp (disch := first | assumption | omega | (intro h_; cases h_; done) | (simp only [LN] <;> omega) | (simp only [LF]; done) | (repeat (first | assumption | apply Ext.refl | apply Ext.app | (apply Ext.set <;> omega)))) only [AX, TY, gV, dstOf, p_makeFunc, p_mapUpdate, mapPut, entsOf, p_lookup, p_extract, p_nilCheck, oneV, p_load, p_store, p_binOp, p_unOp, p_indexAddr, p_index, p_box, p_build, evParts, builtinV, load1, ldc, splice, minds, disj, rcOf, isCall, touchV, idsOf, mapId, touchB, p_buildSlice, buildSliceV, reps, fillV, p_convert, p_slice, evO, p_makeSlice, sid_some, soff_some, Nat.reduceLT, Nat.reduceLeDiff, Nat.reduceEqDiff, Nat.reduceAdd, Nat.reduceMul, Int.reduceBEq, Int.reduceEq, Int.reduceNeg, Int.reduceLT, Int.reduceLE, Int.reduceAdd, Int.reduceSub, Int.reduceMul, Int.reduceToNat, Int.reduceGT, Nat.reduceBEq, Nat.reducePow, Nat.reduceGT, reduceCtorEq, m5, m3, m4]
      refine W.drawn [(0, []), (1, [0]), (2, [0]), (4, [2, 1, 0]), (5, [2, 1, 0]), (6, [5, 4, 2, 1, 0]), (7, [5, 4, 2, 1, 0]), (8, [2, 1, 0]), (3, [8, 7, 6, 5, 4]), (9, []), (10, []), (11, []), (12, []), (13, []), (14, []), (15, []), (16, []), (17, []), (18, []), (19, []), (20, []), (21, [20]), (22, [20]), (23, []), (24, []), (25, []), (26, []), (27, [])] (by decide +kernel) ?_
      simp -dsimp (disch := first | assumption | omega | (intro h_; cases h_; done) | (simp only [LN] <;> omega) | (simp only [LF]; done) | (repeat (first | assumption | apply Ext.refl | apply Ext.app | (apply Ext.set <;> omega)))) only [AX, TY, gV, dstOf, p_makeFunc, p_mapUpdate, mapPut, entsOf, p_lookup, p_extract, p_nilCheck, oneV, p_load, p_store, p_binOp, p_unOp, p_indexAddr, p_index, p_box, p_build, evParts, builtinV, load1, ldc, splice, minds, disj, rcOf, isCall, touchV, idsOf, mapId, touchB, p_buildSlice, buildSliceV, reps, fillV, p_convert, p_slice, evO, p_makeSlice, sid_some, soff_some, Nat.reduceLT, Nat.reduceLeDiff, Nat.reduceEqDiff, Nat.reduceAdd, Nat.reduceMul, Int.reduceBEq, Int.reduceEq, Int.reduceNeg, Int.reduceLT, Int.reduceLE, Int.reduceAdd, Int.reduceSub, Int.reduceMul, Int.reduceToNat, Int.reduceGT, Nat.reduceBEq, Nat.reducePow, Nat.reduceGT, reduceCtorEq, m5, m3, m4]
      have hb2 := hb
      refine (sees_ok c d c).mono ?_
      rintro _ h7 ⟨e7, rfl⟩
      replace hb := e7.get _ _ hb
      have n5 : loadN h7 _ 0 5 = _ := loadN_of hb (by simp)
      have n3 : loadN h7 _ 3 1 = _ := loadN_of hb (by simp)
      have n4 : loadN h7 _ 4 1 = _ := loadN_of hb (by simp)
      simp only [List.drop_zero, List.take_succ_cons, List.take_zero, List.drop_succ_cons] at n5 n3 n4
      have so : sameO h2[List.length h]? h7[List.length h]? = true := by rw [hb2, hb]; exact sameO_refl _
      have sc : sees c d c = (decide (¬ d = c) || decide (c = 0)) := sc_pure (by
        simp only [decide_eq_true_eq, decide_eq_false_iff_not, Decidable.not_not] at q0 q2
        first | exact .inl q0 | exact .inr q2)
      rw [sc]
      cases q5 : decide (¬ d = c) <;> cases q6 : decide (c = 0) <;> cases q7 : decide (d ≤ 0) <;> (try simp -dsimp (disch := first | assumption | omega | (intro h_; cases h_; done) | (simp only [LN] <;> omega) | (simp only [LF]; done) | (repeat (first | assumption | apply Ext.refl | apply Ext.app | (apply Ext.set <;> omega)))) only [AX, TY, gV, dstOf, p_makeFunc, p_mapUpdate, mapPut, entsOf, p_lookup, p_extract, p_nilCheck, oneV, p_load, p_store, p_binOp, p_unOp, p_indexAddr, p_index, p_box, p_build, evParts, builtinV, load1, ldc, splice, minds, disj, rcOf, isCall, touchV, idsOf, mapId, touchB, p_buildSlice, buildSliceV, reps, fillV, p_convert, p_slice, evO, p_makeSlice, sid_some, soff_some, Nat.reduceLT, Nat.reduceLeDiff, Nat.reduceEqDiff, Nat.reduceAdd, Nat.reduceMul, Int.reduceBEq, Int.reduceEq, Int.reduceNeg, Int.reduceLT, Int.reduceLE, Int.reduceAdd, Int.reduceSub, Int.reduceMul, Int.reduceToNat, Int.reduceGT, Nat.reduceBEq, Nat.reducePow, Nat.reduceGT, reduceCtorEq, n5, n3, n4, so, q5, q6, q7, Bool.or_false, Bool.or_true, Bool.false_or, Bool.true_or])
      all_goals (
        refine (sees_ok c d d).mono ?_
        rintro _ h8 ⟨e8, rfl⟩
        have so2 : sameO h7[List.length h]? h8[List.length h]? = true := by rw [hb, e8.get _ _ hb]; exact sameO_refl _
        have sd : sees c d d = false := by
          have := of_decide_eq_false q7
          unfold sees; simp; omega
        rw [sd]
        simp -dsimp (disch := first | assumption | omega | (intro h_; cases h_; done) | (simp only [LN] <;> omega) | (simp only [LF]; done) | (repeat (first | assumption | apply Ext.refl | apply Ext.app | (apply Ext.set <;> omega)))) only [AX, TY, gV, dstOf, p_makeFunc, p_mapUpdate, mapPut, entsOf, p_lookup, p_extract, p_nilCheck, oneV, p_load, p_store, p_binOp, p_unOp, p_indexAddr, p_index, p_box, p_build, evParts, builtinV, load1, ldc, splice, minds, disj, rcOf, isCall, touchV, idsOf, mapId, touchB, p_buildSlice, buildSliceV, reps, fillV, p_convert, p_slice, evO, p_makeSlice, sid_some, soff_some, Nat.reduceLT, Nat.reduceLeDiff, Nat.reduceEqDiff, Nat.reduceAdd, Nat.reduceMul, Int.reduceBEq, Int.reduceEq, Int.reduceNeg, Int.reduceLT, Int.reduceLE, Int.reduceAdd, Int.reduceSub, Int.reduceMul, Int.reduceToNat, Int.reduceGT, Nat.reduceBEq, Nat.reducePow, Nat.reduceGT, reduceCtorEq, so2])
    | true =>
      simp -dsimp (disch := first | assumption | omega | (intro h_; cases h_; done) | (simp only [LN] <;> omega) | (simp only [LF]; done) | (repeat (first | assumption | apply Ext.refl | apply Ext.app | (apply Ext.set <;> omega)))) only [AX, TY, gV, dstOf, p_makeFunc, p_mapUpdate, mapPut, entsOf, p_lookup, p_extract, p_nilCheck, oneV, p_load, p_store, p_binOp, p_unOp, p_indexAddr, p_index, p_box, p_build, evParts, builtinV, load1, ldc, splice, minds, disj, rcOf, isCall, touchV, idsOf, mapId, touchB, p_buildSlice, buildSliceV, reps, fillV, p_convert, p_slice, evO, p_makeSlice, sid_some, soff_some, Nat.reduceLT, Nat.reduceLeDiff, Nat.reduceEqDiff, Nat.reduceAdd, Nat.reduceMul, Int.reduceBEq, Int.reduceEq, Int.reduceNeg, Int.reduceLT, Int.reduceLE, Int.reduceAdd, Int.reduceSub, Int.reduceMul, Int.reduceToNat, Int.reduceGT, Nat.reduceBEq, Nat.reducePow, Nat.reduceGT, reduceCtorEq, m5, m3, m4]
      refine (sees_ok c d z).mono ?_
      rintro _ h3 ⟨e3, rfl⟩
      replace hb := e3.get _ _ hb
      have o5 : loadN h3 _ 0 5 = _ := loadN_of hb (by simp)
      have o3 : loadN h3 _ 3 1 = _ := loadN_of hb (by simp)
      have o4 : loadN h3 _ 4 1 = _ := loadN_of hb (by simp)
      simp only [List.drop_zero, List.take_succ_cons, List.take_zero, List.drop_succ_cons] at o5 o3 o4
      cases s3 : sees c d z with
      | false =>
        simp -dsimp (disch := first | assumption | omega | (intro h_; cases h_; done) | (simp only [LN] <;> omega) | (simp only [LF]; done) | (repeat (first | assumption | apply Ext.refl | apply Ext.app | (apply Ext.set <;> omega)))) only [AX, TY, gV, dstOf, p_makeFunc, p_mapUpdate, mapPut, entsOf, p_lookup, p_extract, p_nilCheck, oneV, p_load, p_store, p_binOp, p_unOp, p_indexAddr, p_index, p_box, p_build, evParts, builtinV, load1, ldc, splice, minds, disj, rcOf, isCall, touchV, idsOf, mapId, touchB, p_buildSlice, buildSliceV, reps, fillV, p_convert, p_slice, evO, p_makeSlice, sid_some, soff_some, Nat.reduceLT, Nat.reduceLeDiff, Nat.reduceEqDiff, Nat.reduceAdd, Nat.reduceMul, Int.reduceBEq, Int.reduceEq, Int.reduceNeg, Int.reduceLT, Int.reduceLE, Int.reduceAdd, Int.reduceSub, Int.reduceMul, Int.reduceToNat, Int.reduceGT, Nat.reduceBEq, Nat.reducePow, Nat.reduceGT, reduceCtorEq, o5, o3, o4]
        refine W.drawn [(0, []), (1, [0]), (2, [0]), (4, [2, 1, 0]), (5, [2, 1, 0]), (6, [5, 4, 2, 1, 0]), (7, [5, 4, 2, 1, 0]), (8, [2, 1, 0]), (3, [8, 7, 6, 5, 4]), (9, []), (10, []), (11, []), (12, []), (13, []), (14, []), (15, []), (16, []), (17, []), (18, []), (19, []), (20, []), (21, [20]), (22, [20]), (23, []), (24, []), (25, []), (26, []), (27, [])] (by decide +kernel) ?_
        simp -dsimp (disch := first | assumption | omega | (intro h_; cases h_; done) | (simp only [LN] <;> omega) | (simp only [LF]; done) | (repeat (first | assumption | apply Ext.refl | apply Ext.app | (apply Ext.set <;> omega)))) only [AX, TY, gV, dstOf, p_makeFunc, p_mapUpdate, mapPut, entsOf, p_lookup, p_extract, p_nilCheck, oneV, p_load, p_store, p_binOp, p_unOp, p_indexAddr, p_index, p_box, p_build, evParts, builtinV, load1, ldc, splice, minds, disj, rcOf, isCall, touchV, idsOf, mapId, touchB, p_buildSlice, buildSliceV, reps, fillV, p_convert, p_slice, evO, p_makeSlice, sid_some, soff_some, Nat.reduceLT, Nat.reduceLeDiff, Nat.reduceEqDiff, Nat.reduceAdd, Nat.reduceMul, Int.reduceBEq, Int.reduceEq, Int.reduceNeg, Int.reduceLT, Int.reduceLE, Int.reduceAdd, Int.reduceSub, Int.reduceMul, Int.reduceToNat, Int.reduceGT, Nat.reduceBEq, Nat.reducePow, Nat.reduceGT, reduceCtorEq, o5, o3, o4]
        have hb2 := hb
        refine (sees_ok c d c).mono ?_
        rintro _ h7 ⟨e7, rfl⟩
        replace hb := e7.get _ _ hb
        have n5 : loadN h7 _ 0 5 = _ := loadN_of hb (by simp)
        have n3 : loadN h7 _ 3 1 = _ := loadN_of hb (by simp)
        have n4 : loadN h7 _ 4 1 = _ := loadN_of hb (by simp)
        simp only [List.drop_zero, List.take_succ_cons, List.take_zero, List.drop_succ_cons] at n5 n3 n4
        have so : sameO h3[List.length h]? h7[List.length h]? = true := by rw [hb2, hb]; exact sameO_refl _
        have sc : sees c d c = (decide (¬ d = c) || decide (c = 0)) := sc_pure (by
          simp only [decide_eq_true_eq, decide_eq_false_iff_not, Decidable.not_not] at q0 q2
          first | exact .inl q0 | exact .inr q2)
        rw [sc]
        cases q5 : decide (¬ d = c) <;> cases q6 : decide (c = 0) <;> cases q7 : decide (d ≤ 0) <;> (try simp -dsimp (disch := first | assumption | omega | (intro h_; cases h_; done) | (simp only [LN] <;> omega) | (simp only [LF]; done) | (repeat (first | assumption | apply Ext.refl | apply Ext.app | (apply Ext.set <;> omega)))) only [AX, TY, gV, dstOf, p_makeFunc, p_mapUpdate, mapPut, entsOf, p_lookup, p_extract, p_nilCheck, oneV, p_load, p_store, p_binOp, p_unOp, p_indexAddr, p_index, p_box, p_build, evParts, builtinV, load1, ldc, splice, minds, disj, rcOf, isCall, touchV, idsOf, mapId, touchB, p_buildSlice, buildSliceV, reps, fillV, p_convert, p_slice, evO, p_makeSlice, sid_some, soff_some, Nat.reduceLT, Nat.reduceLeDiff, Nat.reduceEqDiff, Nat.reduceAdd, Nat.reduceMul, Int.reduceBEq, Int.reduceEq, Int.reduceNeg, Int.reduceLT, Int.reduceLE, Int.reduceAdd, Int.reduceSub, Int.reduceMul, Int.reduceToNat, Int.reduceGT, Nat.reduceBEq, Nat.reducePow, Nat.reduceGT, reduceCtorEq, n5, n3, n4, so, q5, q6, q7, Bool.or_false, Bool.or_true, Bool.false_or, Bool.true_or])
        all_goals (
          refine (sees_ok c d d).mono ?_
          rintro _ h8 ⟨e8, rfl⟩
          have so2 : sameO h7[List.length h]? h8[List.length h]? = true := by rw [hb, e8.get _ _ hb]; exact sameO_refl _
          have sd : sees c d d = false := by
            have := of_decide_eq_false q7
            unfold sees; simp; omega
          rw [sd]
          simp -dsimp (disch := first | assumption | omega | (intro h_; cases h_; done) | (simp only [LN] <;> omega) | (simp only [LF]; done) | (repeat (first | assumption | apply Ext.refl | apply Ext.app | (apply Ext.set <;> omega)))) only [AX, TY, gV, dstOf, p_makeFunc, p_mapUpdate, mapPut, entsOf, p_lookup, p_extract, p_nilCheck, oneV, p_load, p_store, p_binOp, p_unOp, p_indexAddr, p_index, p_box, p_build, evParts, builtinV, load1, ldc, splice, minds, disj, rcOf, isCall, touchV, idsOf, mapId, touchB, p_buildSlice, buildSliceV, reps, fillV, p_convert, p_slice, evO, p_makeSlice, sid_some, soff_some, Nat.reduceLT, Nat.reduceLeDiff, Nat.reduceEqDiff, Nat.reduceAdd, Nat.reduceMul, Int.reduceBEq, Int.reduceEq, Int.reduceNeg, Int.reduceLT, Int.reduceLE, Int.reduceAdd, Int.reduceSub, Int.reduceMul, Int.reduceToNat, Int.reduceGT, Nat.reduceBEq, Nat.reducePow, Nat.reduceGT, reduceCtorEq, so2])
      | true =>
        simp -dsimp (disch := first | assumption | omega | (intro h_; cases h_; done) | (simp only [LN] <;> omega) | (simp only [LF]; done) | (repeat (first | assumption | apply Ext.refl | apply Ext.app | (apply Ext.set <;> omega)))) only [AX, TY, gV, dstOf, p_makeFunc, p_mapUpdate, mapPut, entsOf, p_lookup, p_extract, p_nilCheck, oneV, p_load, p_store, p_binOp, p_unOp, p_indexAddr, p_index, p_box, p_build, evParts, builtinV, load1, ldc, splice, minds, disj, rcOf, isCall, touchV, idsOf, mapId, touchB, p_buildSlice, buildSliceV, reps, fillV, p_convert, p_slice, evO, p_makeSlice, sid_some, soff_some, Nat.reduceLT, Nat.reduceLeDiff, Nat.reduceEqDiff, Nat.reduceAdd, Nat.reduceMul, Int.reduceBEq, Int.reduceEq, Int.reduceNeg, Int.reduceLT, Int.reduceLE, Int.reduceAdd, Int.reduceSub, Int.reduceMul, Int.reduceToNat, Int.reduceGT, Nat.reduceBEq, Nat.reducePow, Nat.reduceGT, reduceCtorEq, o5, o3, o4]
        refine (sees_ok c d y).mono ?_
        rintro _ h4 ⟨e4, rfl⟩
        replace hb := e4.get _ _ hb
        have u5 : loadN h4 _ 0 5 = _ := loadN_of hb (by simp)
        have u3 : loadN h4 _ 3 1 = _ := loadN_of hb (by simp)
        have u4 : loadN h4 _ 4 1 = _ := loadN_of hb (by simp)
        simp only [List.drop_zero, List.take_succ_cons, List.take_zero, List.drop_succ_cons] at u5 u3 u4
        have s2 : sees c d y = true := by
          have := of_decide_eq_false q3
          have := of_decide_eq_false q4
          unfold sees at s1 s3 ⊢
          simp at s1 s3 ⊢
          omega
        rw [s2]
        simp -dsimp (disch := first | assumption | omega | (intro h_; cases h_; done) | (simp only [LN] <;> omega) | (simp only [LF]; done) | (repeat (first | assumption | apply Ext.refl | apply Ext.app | (apply Ext.set <;> omega)))) only [AX, TY, gV, dstOf, p_makeFunc, p_mapUpdate, mapPut, entsOf, p_lookup, p_extract, p_nilCheck, oneV, p_load, p_store, p_binOp, p_unOp, p_indexAddr, p_index, p_box, p_build, evParts, builtinV, load1, ldc, splice, minds, disj, rcOf, isCall, touchV, idsOf, mapId, touchB, p_buildSlice, buildSliceV, reps, fillV, p_convert, p_slice, evO, p_makeSlice, sid_some, soff_some, Nat.reduceLT, Nat.reduceLeDiff, Nat.reduceEqDiff, Nat.reduceAdd, Nat.reduceMul, Int.reduceBEq, Int.reduceEq, Int.reduceNeg, Int.reduceLT, Int.reduceLE, Int.reduceAdd, Int.reduceSub, Int.reduceMul, Int.reduceToNat, Int.reduceGT, Nat.reduceBEq, Nat.reducePow, Nat.reduceGT, reduceCtorEq, u5, u3, u4]
        refine W.drawn [(0, []), (1, [0]), (2, [0]), (4, [2, 1, 0]), (5, [2, 1, 0]), (6, [5, 4, 2, 1, 0]), (7, [5, 4, 2, 1, 0]), (8, [2, 1, 0]), (3, [8, 7, 6, 5, 4]), (9, []), (10, []), (11, []), (12, []), (13, []), (14, []), (15, []), (16, []), (17, []), (18, []), (19, []), (20, []), (21, [20]), (22, [20]), (23, []), (24, []), (25, []), (26, []), (27, [])] (by decide +kernel) ?_
        simp -dsimp (disch := first | assumption | omega | (intro h_; cases h_; done) | (simp only [LN] <;> omega) | (simp only [LF]; done) | (repeat (first | assumption | apply Ext.refl | apply Ext.app | (apply Ext.set <;> omega)))) only [AX, TY, gV, dstOf, p_makeFunc, p_mapUpdate, mapPut, entsOf, p_lookup, p_extract, p_nilCheck, oneV, p_load, p_store, p_binOp, p_unOp, p_indexAddr, p_index, p_box, p_build, evParts, builtinV, load1, ldc, splice, minds, disj, rcOf, isCall, touchV, idsOf, mapId, touchB, p_buildSlice, buildSliceV, reps, fillV, p_convert, p_slice, evO, p_makeSlice, sid_some, soff_some, Nat.reduceLT, Nat.reduceLeDiff, Nat.reduceEqDiff, Nat.reduceAdd, Nat.reduceMul, Int.reduceBEq, Int.reduceEq, Int.reduceNeg, Int.reduceLT, Int.reduceLE, Int.reduceAdd, Int.reduceSub, Int.reduceMul, Int.reduceToNat, Int.reduceGT, Nat.reduceBEq, Nat.reducePow, Nat.reduceGT, reduceCtorEq, u5, u3, u4]
        have hb2 := hb
        refine (sees_ok c d c).mono ?_
        rintro _ h7 ⟨e7, rfl⟩
        replace hb := e7.get _ _ hb
        have n5 : loadN h7 _ 0 5 = _ := loadN_of hb (by simp)
        have n3 : loadN h7 _ 3 1 = _ := loadN_of hb (by simp)
        have n4 : loadN h7 _ 4 1 = _ := loadN_of hb (by simp)
        simp only [List.drop_zero, List.take_succ_cons, List.take_zero, List.drop_succ_cons] at n5 n3 n4
        have so : sameO h4[List.length h]? h7[List.length h]? = true := by rw [hb2, hb]; exact sameO_refl _
        have sc : sees c d c = (decide (¬ d = c) || decide (c = 0)) := sc_pure (by
          simp only [decide_eq_true_eq, decide_eq_false_iff_not, Decidable.not_not] at q0 q2
          first | exact .inl q0 | exact .inr q2)
        rw [sc]
        cases q5 : decide (¬ d = c) <;> cases q6 : decide (c = 0) <;> cases q7 : decide (d ≤ 0) <;> (try simp -dsimp (disch := first | assumption | omega | (intro h_; cases h_; done) | (simp only [LN] <;> omega) | (simp only [LF]; done) | (repeat (first | assumption | apply Ext.refl | apply Ext.app | (apply Ext.set <;> omega)))) only [AX, TY, gV, dstOf, p_makeFunc, p_mapUpdate, mapPut, entsOf, p_lookup, p_extract, p_nilCheck, oneV, p_load, p_store, p_binOp, p_unOp, p_indexAddr, p_index, p_box, p_build, evParts, builtinV, load1, ldc, splice, minds, disj, rcOf, isCall, touchV, idsOf, mapId, touchB, p_buildSlice, buildSliceV, reps, fillV, p_convert, p_slice, evO, p_makeSlice, sid_some, soff_some, Nat.reduceLT, Nat.reduceLeDiff, Nat.reduceEqDiff, Nat.reduceAdd, Nat.reduceMul, Int.reduceBEq, Int.reduceEq, Int.reduceNeg, Int.reduceLT, Int.reduceLE, Int.reduceAdd, Int.reduceSub, Int.reduceMul, Int.reduceToNat, Int.reduceGT, Nat.reduceBEq, Nat.reducePow, Nat.reduceGT, reduceCtorEq, n5, n3, n4, so, q5, q6, q7, Bool.or_false, Bool.or_true, Bool.false_or, Bool.true_or])
        all_goals (
          refine (sees_ok c d d).mono ?_
          rintro _ h8 ⟨e8, rfl⟩
          have so2 : sameO h7[List.length h]? h8[List.length h]? = true := by rw [hb, e8.get _ _ hb]; exact sameO_refl _
          have sd : sees c d d = false := by
            have := of_decide_eq_false q7
            unfold sees; simp; omega
          rw [sd]
          simp -dsimp (disch := first | assumption | omega | (intro h_; cases h_; done) | (simp only [LN] <;> omega) | (simp only [LF]; done) | (repeat (first | assumption | apply Ext.refl | apply Ext.app | (apply Ext.set <;> omega)))) only [AX, TY, gV, dstOf, p_makeFunc, p_mapUpdate, mapPut, entsOf, p_lookup, p_extract, p_nilCheck, oneV, p_load, p_store, p_binOp, p_unOp, p_indexAddr, p_index, p_box, p_build, evParts, builtinV, load1, ldc, splice, minds, disj, rcOf, isCall, touchV, idsOf, mapId, touchB, p_buildSlice, buildSliceV, reps, fillV, p_convert, p_slice, evO, p_makeSlice, sid_some, soff_some, Nat.reduceLT, Nat.reduceLeDiff, Nat.reduceEqDiff, Nat.reduceAdd, Nat.reduceMul, Int.reduceBEq, Int.reduceEq, Int.reduceNeg, Int.reduceLT, Int.reduceLE, Int.reduceAdd, Int.reduceSub, Int.reduceMul, Int.reduceToNat, Int.reduceGT, Nat.reduceBEq, Nat.reducePow, Nat.reduceGT, reduceCtorEq, so2])
end Go.Proofs.YtpmlphefdoaohaaA
