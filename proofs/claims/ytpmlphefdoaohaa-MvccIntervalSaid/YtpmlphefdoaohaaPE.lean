/- Words of this session: chapter 22: Sees, awake. -/
import Derived.Test.YtpmlphefdoaohaaPD
namespace Go.Proofs.YtpmlphefdoaohaaA
open Go Go.Proofs Go.RowKit
set_option linter.unusedVariables false
set_option linter.unusedSimpArgs false
set_option maxRecDepth 10000
def sees (c d s : Int) : Bool := decide (c ≤ s) && (decide (d = 0) || decide (d > s))
theorem sees_ok {h : Heap} {i i2 : Int} {p : Option (Nat × Nat)} {n : Nat} {cc : Option Nat} (c d s : Int) : WR (callE Try.prog hk 10 [.agg [.int .i64 i, .int .i64 i2, .slice p n cc, .int .i64 c, .int .i64 d], .int .i64 s] h) fun r h' => Ext h h' ∧ r = .bool (sees c d s) := by
  refine WR.call (hH := rfl) Try.func10 rfl (n := 20) rfl rfl (by simp) ?_
  cases h1 : decide (c ≤ s) <;> cases h2 : decide (d = 0) <;> cases h3 : decide (d > s) <;> (simp -dsimp (disch := first | assumption | omega | (intro h_; cases h_; done) | (simp only [LN] <;> omega) | (simp only [LF]; done) | (repeat (first | assumption | apply Ext.refl | apply Ext.app | (apply Ext.set <;> omega)))) only [AX, TY, gV, dstOf, p_makeFunc, p_mapUpdate, mapPut, entsOf, p_lookup, p_extract, p_nilCheck, oneV, p_load, p_store, p_binOp, p_unOp, p_indexAddr, p_index, p_box, p_build, evParts, builtinV, load1, ldc, splice, minds, disj, rcOf, isCall, touchV, idsOf, mapId, touchB, p_buildSlice, buildSliceV, reps, fillV, p_convert, p_slice, evO, p_makeSlice, sid_some, soff_some, Nat.reduceLT, Nat.reduceLeDiff, Nat.reduceEqDiff, Nat.reduceAdd, Nat.reduceMul, Int.reduceBEq, Int.reduceEq, Int.reduceNeg, Int.reduceLT, Int.reduceLE, Int.reduceAdd, Int.reduceSub, Int.reduceMul, Int.reduceToNat, Int.reduceGT, Nat.reduceBEq, Nat.reducePow, Nat.reduceGT, reduceCtorEq, h1, h2, h3]; simp [sees, h1, h2, h3]; try (exact (by (repeat (first | assumption | apply Ext.refl | apply Ext.app | (apply Ext.set <;> omega) | exact Ext.trans (by assumption) (by assumption))))))
theorem ext_of {h h' : Heap} (q : ∀ i, i < h.length → h'[i]? = h[i]?) : Ext h h' := ⟨fun i o hi => by rw [q i (lt_of_some hi)]; exact hi⟩
theorem awake_ok {h : Heap} : WR (callE Try.prog hk 9 [] h) fun r h' => Ext h h' ∧ r = .bool true := by
  refine WR.call (hH := rfl) Try.func9 rfl (n := 39) rfl rfl (by simp) ?_
  simp -dsimp (disch := first | assumption | omega | (intro h_; cases h_; done) | (simp only [LN] <;> omega) | (simp only [LF]; done) | (repeat (first | assumption | apply Ext.refl | apply Ext.app | (apply Ext.set <;> omega)))) only [AX, TY, gV, dstOf, p_makeFunc, p_mapUpdate, mapPut, entsOf, p_lookup, p_extract, p_nilCheck, oneV, p_load, p_store, p_binOp, p_unOp, p_indexAddr, p_index, p_box, p_build, evParts, builtinV, load1, ldc, splice, minds, disj, rcOf, isCall, touchV, idsOf, mapId, touchB, p_buildSlice, buildSliceV, reps, fillV, p_convert, p_slice, evO, p_makeSlice, sid_some, soff_some, Nat.reduceLT, Nat.reduceLeDiff, Nat.reduceEqDiff, Nat.reduceAdd, Nat.reduceMul, Int.reduceBEq, Int.reduceEq, Int.reduceNeg, Int.reduceLT, Int.reduceLE, Int.reduceAdd, Int.reduceSub, Int.reduceMul, Int.reduceToNat, Int.reduceGT, Nat.reduceBEq, Nat.reducePow, Nat.reduceGT, reduceCtorEq]
  refine (new_ok 5).mono ?_
  rintro _ _ ⟨rfl, rfl⟩
  have c1 := new_clk h 5
  have e1 : Ext h (h ++ [O.cells [.int .i64 (mx0 5), .slice none 0 (some 0)] .rw]) := (by (repeat (first | assumption | apply Ext.refl | apply Ext.app | (apply Ext.set <;> omega) | exact Ext.trans (by assumption) (by assumption))))
  have l1 : h.length ≤ (h ++ [O.cells [.int .i64 (mx0 5), .slice none 0 (some 0)] .rw]).length := by simp
  generalize h ++ [O.cells [.int .i64 (mx0 5), .slice none 0 (some 0)] .rw] = h1 at c1 e1 l1
  rw [show mx0 5 = 5 from rfl] at c1
  simp -dsimp (disch := first | assumption | omega | (intro h_; cases h_; done) | (simp only [LN] <;> omega) | (simp only [LF]; done) | (repeat (first | assumption | apply Ext.refl | apply Ext.app | (apply Ext.set <;> omega)))) only [AX, TY, gV, dstOf, p_makeFunc, p_mapUpdate, mapPut, entsOf, p_lookup, p_extract, p_nilCheck, oneV, p_load, p_store, p_binOp, p_unOp, p_indexAddr, p_index, p_box, p_build, evParts, builtinV, load1, ldc, splice, minds, disj, rcOf, isCall, touchV, idsOf, mapId, touchB, p_buildSlice, buildSliceV, reps, fillV, p_convert, p_slice, evO, p_makeSlice, sid_some, soff_some, Nat.reduceLT, Nat.reduceLeDiff, Nat.reduceEqDiff, Nat.reduceAdd, Nat.reduceMul, Int.reduceBEq, Int.reduceEq, Int.reduceNeg, Int.reduceLT, Int.reduceLE, Int.reduceAdd, Int.reduceSub, Int.reduceMul, Int.reduceToNat, Int.reduceGT, Nat.reduceBEq, Nat.reducePow, Nat.reduceGT, reduceCtorEq]
  refine (begin_ok c1 (by simp) l1).mono ?_
  rintro _ h2 ⟨rfl, ⟨i, hat, c2⟩, k2, l2⟩
  have hi0 : i = 0 := by simpa using hat.le
  subst hi0
  have c2 : Clk h.length h2 h.length 5 [5] := c2
  simp -dsimp (disch := first | assumption | omega | (intro h_; cases h_; done) | (simp only [LN] <;> omega) | (simp only [LF]; done) | (repeat (first | assumption | apply Ext.refl | apply Ext.app | (apply Ext.set <;> omega)))) only [AX, TY, gV, dstOf, p_makeFunc, p_mapUpdate, mapPut, entsOf, p_lookup, p_extract, p_nilCheck, oneV, p_load, p_store, p_binOp, p_unOp, p_indexAddr, p_index, p_box, p_build, evParts, builtinV, load1, ldc, splice, minds, disj, rcOf, isCall, touchV, idsOf, mapId, touchB, p_buildSlice, buildSliceV, reps, fillV, p_convert, p_slice, evO, p_makeSlice, sid_some, soff_some, Nat.reduceLT, Nat.reduceLeDiff, Nat.reduceEqDiff, Nat.reduceAdd, Nat.reduceMul, Int.reduceBEq, Int.reduceEq, Int.reduceNeg, Int.reduceLT, Int.reduceLE, Int.reduceAdd, Int.reduceSub, Int.reduceMul, Int.reduceToNat, Int.reduceGT, Nat.reduceBEq, Nat.reducePow, Nat.reduceGT, reduceCtorEq]
  refine (next_ok c2 (by decide)).mono ?_
  rintro _ h3 ⟨rfl, c3, k3, l3⟩
  rw [show nxt 5 = 6 from rfl] at c3 ⊢
  simp -dsimp (disch := first | assumption | omega | (intro h_; cases h_; done) | (simp only [LN] <;> omega) | (simp only [LF]; done) | (repeat (first | assumption | apply Ext.refl | apply Ext.app | (apply Ext.set <;> omega)))) only [AX, TY, gV, dstOf, p_makeFunc, p_mapUpdate, mapPut, entsOf, p_lookup, p_extract, p_nilCheck, oneV, p_load, p_store, p_binOp, p_unOp, p_indexAddr, p_index, p_box, p_build, evParts, builtinV, load1, ldc, splice, minds, disj, rcOf, isCall, touchV, idsOf, mapId, touchB, p_buildSlice, buildSliceV, reps, fillV, p_convert, p_slice, evO, p_makeSlice, sid_some, soff_some, Nat.reduceLT, Nat.reduceLeDiff, Nat.reduceEqDiff, Nat.reduceAdd, Nat.reduceMul, Int.reduceBEq, Int.reduceEq, Int.reduceNeg, Int.reduceLT, Int.reduceLE, Int.reduceAdd, Int.reduceSub, Int.reduceMul, Int.reduceToNat, Int.reduceGT, Nat.reduceBEq, Nat.reducePow, Nat.reduceGT, reduceCtorEq]
  refine (horizon_ok c3).mono ?_
  rintro _ _ ⟨rfl, rfl⟩
  rw [show ([5] : List Int).headD 6 = 5 from rfl]
  rename_i h3
  simp -dsimp (disch := first | assumption | omega | (intro h_; cases h_; done) | (simp only [LN] <;> omega) | (simp only [LF]; done) | (repeat (first | assumption | apply Ext.refl | apply Ext.app | (apply Ext.set <;> omega)))) only [AX, TY, gV, dstOf, p_makeFunc, p_mapUpdate, mapPut, entsOf, p_lookup, p_extract, p_nilCheck, oneV, p_load, p_store, p_binOp, p_unOp, p_indexAddr, p_index, p_box, p_build, evParts, builtinV, load1, ldc, splice, minds, disj, rcOf, isCall, touchV, idsOf, mapId, touchB, p_buildSlice, buildSliceV, reps, fillV, p_convert, p_slice, evO, p_makeSlice, sid_some, soff_some, Nat.reduceLT, Nat.reduceLeDiff, Nat.reduceEqDiff, Nat.reduceAdd, Nat.reduceMul, Int.reduceBEq, Int.reduceEq, Int.reduceNeg, Int.reduceLT, Int.reduceLE, Int.reduceAdd, Int.reduceSub, Int.reduceMul, Int.reduceToNat, Int.reduceGT, Nat.reduceBEq, Nat.reducePow, Nat.reduceGT, reduceCtorEq]
  refine (end_ok (x := 5) c3 (by simp) (by omega)).mono ?_
  rintro _ h4 ⟨i, hat, hr, k4, l4⟩
  have hi0 : i = 0 := by
    have h1 := hat.le
    by_cases h2 : i = 0
    · exact h2
    · have := hat.lo 0 (by omega) 5 rfl
      omega
  subst hi0
  rcases hr with ⟨_, rfl, c4⟩ | ⟨hno, _⟩
  · have c4 : Clk h.length h4 h.length 6 [] := c4
    have e4 : Ext h h4 := ext_of fun i hi => by rw [k4 i hi, k3 i hi, k2 i hi]; have := (e1.get _ _ (List.getElem?_eq_getElem hi)); rw [this, List.getElem?_eq_getElem hi]
    simp -dsimp (disch := first | assumption | omega | (intro h_; cases h_; done) | (simp only [LN] <;> omega) | (simp only [LF]; done) | (repeat (first | assumption | apply Ext.refl | apply Ext.app | (apply Ext.set <;> omega)))) only [AX, TY, gV, dstOf, p_makeFunc, p_mapUpdate, mapPut, entsOf, p_lookup, p_extract, p_nilCheck, oneV, p_load, p_store, p_binOp, p_unOp, p_indexAddr, p_index, p_box, p_build, evParts, builtinV, load1, ldc, splice, minds, disj, rcOf, isCall, touchV, idsOf, mapId, touchB, p_buildSlice, buildSliceV, reps, fillV, p_convert, p_slice, evO, p_makeSlice, sid_some, soff_some, Nat.reduceLT, Nat.reduceLeDiff, Nat.reduceEqDiff, Nat.reduceAdd, Nat.reduceMul, Int.reduceBEq, Int.reduceEq, Int.reduceNeg, Int.reduceLT, Int.reduceLE, Int.reduceAdd, Int.reduceSub, Int.reduceMul, Int.reduceToNat, Int.reduceGT, Nat.reduceBEq, Nat.reducePow, Nat.reduceGT, reduceCtorEq]
    refine (horizon_ok c4).mono ?_
    rintro _ _ ⟨rfl, rfl⟩
    rename_i h4
    rw [show ([] : List Int).headD 6 = 6 from rfl]
    simp -dsimp (disch := first | assumption | omega | (intro h_; cases h_; done) | (simp only [LN] <;> omega) | (simp only [LF]; done) | (repeat (first | assumption | apply Ext.refl | apply Ext.app | (apply Ext.set <;> omega)))) only [AX, TY, gV, dstOf, p_makeFunc, p_mapUpdate, mapPut, entsOf, p_lookup, p_extract, p_nilCheck, oneV, p_load, p_store, p_binOp, p_unOp, p_indexAddr, p_index, p_box, p_build, evParts, builtinV, load1, ldc, splice, minds, disj, rcOf, isCall, touchV, idsOf, mapId, touchB, p_buildSlice, buildSliceV, reps, fillV, p_convert, p_slice, evO, p_makeSlice, sid_some, soff_some, Nat.reduceLT, Nat.reduceLeDiff, Nat.reduceEqDiff, Nat.reduceAdd, Nat.reduceMul, Int.reduceBEq, Int.reduceEq, Int.reduceNeg, Int.reduceLT, Int.reduceLE, Int.reduceAdd, Int.reduceSub, Int.reduceMul, Int.reduceToNat, Int.reduceGT, Nat.reduceBEq, Nat.reducePow, Nat.reduceGT, reduceCtorEq]
    refine (sees_ok 3 6 5).mono ?_
    rintro _ h5 ⟨e5, rfl⟩
    rw [show sees 3 6 5 = true from rfl]
    simp -dsimp (disch := first | assumption | omega | (intro h_; cases h_; done) | (simp only [LN] <;> omega) | (simp only [LF]; done) | (repeat (first | assumption | apply Ext.refl | apply Ext.app | (apply Ext.set <;> omega)))) only [AX, TY, gV, dstOf, p_makeFunc, p_mapUpdate, mapPut, entsOf, p_lookup, p_extract, p_nilCheck, oneV, p_load, p_store, p_binOp, p_unOp, p_indexAddr, p_index, p_box, p_build, evParts, builtinV, load1, ldc, splice, minds, disj, rcOf, isCall, touchV, idsOf, mapId, touchB, p_buildSlice, buildSliceV, reps, fillV, p_convert, p_slice, evO, p_makeSlice, sid_some, soff_some, Nat.reduceLT, Nat.reduceLeDiff, Nat.reduceEqDiff, Nat.reduceAdd, Nat.reduceMul, Int.reduceBEq, Int.reduceEq, Int.reduceNeg, Int.reduceLT, Int.reduceLE, Int.reduceAdd, Int.reduceSub, Int.reduceMul, Int.reduceToNat, Int.reduceGT, Nat.reduceBEq, Nat.reducePow, Nat.reduceGT, reduceCtorEq]
    have hb := e5.get _ _ (snoc_last _ rfl)
    have l5 : loadN h5 _ 0 5 = _ := loadN_of hb (by simp)
    simp only [List.drop_zero, List.take_succ_cons, List.take_zero] at l5
    simp -dsimp (disch := first | assumption | omega | (intro h_; cases h_; done) | (simp only [LN] <;> omega) | (simp only [LF]; done) | (repeat (first | assumption | apply Ext.refl | apply Ext.app | (apply Ext.set <;> omega)))) only [AX, TY, gV, dstOf, p_makeFunc, p_mapUpdate, mapPut, entsOf, p_lookup, p_extract, p_nilCheck, oneV, p_load, p_store, p_binOp, p_unOp, p_indexAddr, p_index, p_box, p_build, evParts, builtinV, load1, ldc, splice, minds, disj, rcOf, isCall, touchV, idsOf, mapId, touchB, p_buildSlice, buildSliceV, reps, fillV, p_convert, p_slice, evO, p_makeSlice, sid_some, soff_some, Nat.reduceLT, Nat.reduceLeDiff, Nat.reduceEqDiff, Nat.reduceAdd, Nat.reduceMul, Int.reduceBEq, Int.reduceEq, Int.reduceNeg, Int.reduceLT, Int.reduceLE, Int.reduceAdd, Int.reduceSub, Int.reduceMul, Int.reduceToNat, Int.reduceGT, Nat.reduceBEq, Nat.reducePow, Nat.reduceGT, reduceCtorEq, l5]
    refine (sees_ok 3 6 6).mono ?_
    rintro _ h6 ⟨e6, rfl⟩
    rw [show sees 3 6 6 = false from rfl]
    simp -dsimp (disch := first | assumption | omega | (intro h_; cases h_; done) | (simp only [LN] <;> omega) | (simp only [LF]; done) | (repeat (first | assumption | apply Ext.refl | apply Ext.app | (apply Ext.set <;> omega)))) only [AX, TY, gV, dstOf, p_makeFunc, p_mapUpdate, mapPut, entsOf, p_lookup, p_extract, p_nilCheck, oneV, p_load, p_store, p_binOp, p_unOp, p_indexAddr, p_index, p_box, p_build, evParts, builtinV, load1, ldc, splice, minds, disj, rcOf, isCall, touchV, idsOf, mapId, touchB, p_buildSlice, buildSliceV, reps, fillV, p_convert, p_slice, evO, p_makeSlice, sid_some, soff_some, Nat.reduceLT, Nat.reduceLeDiff, Nat.reduceEqDiff, Nat.reduceAdd, Nat.reduceMul, Int.reduceBEq, Int.reduceEq, Int.reduceNeg, Int.reduceLT, Int.reduceLE, Int.reduceAdd, Int.reduceSub, Int.reduceMul, Int.reduceToNat, Int.reduceGT, Nat.reduceBEq, Nat.reducePow, Nat.reduceGT, reduceCtorEq]
    exact e4.trans (((Ext.refl _).app _).trans (e5.trans e6))
  · exact absurd rfl hno
end Go.Proofs.YtpmlphefdoaohaaA
