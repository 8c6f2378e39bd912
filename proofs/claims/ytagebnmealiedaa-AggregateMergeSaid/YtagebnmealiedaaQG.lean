/- Words of this session: chapter 7: Apply. -/
import Derived.Test.YtagebnmealiedaaQF
namespace Go.Proofs.YtagebnmealiedaaA
open Go Go.Proofs Go.RowKit
set_option linter.unusedVariables false
set_option linter.unusedSimpArgs false
set_option maxRecDepth 10000
def zeroVl : Vl := ⟨0, 0, []⟩
def stepF (fn : Int) (a : Vl) (n : Int) (b : Vl) : Vl := if fn = 0 then addV a n else if fn = 1 then addV a (IntKind.i64.wrap (n * b.int)) else if fn = 2 then bestV (-1) a b else bestV 1 a b
def goStep (fn : Int) (s : Vl × Bool) (x : En) : Vl × Bool := if countV fn x then (stepF fn (if s.2 = false ∧ ¬ fn = 1 then x.v else s.1) x.n x.v, true) else s
def applyV (fn : Int) (l : List En) : Vl × Bool := if 0 ≤ fn ∧ fn ≤ 3 then l.foldl (goStep fn) (zeroVl, decide (fn = 0)) else (zeroVl, false)
theorem apply_ok {h : Heap} {p : Option (Nat × Nat)} {c : Option Nat} {ys : List En} (hs : Sl h p 4 En.enc ys) (fn : Int) :
    WR (callE Try.prog hk 13 [.int .i64 fn, .slice p ys.length c] h) fun r h' => Ext h h' ∧ r = .tuple [.agg (applyV fn ys).1.enc, .bool (applyV fn ys).2] := by
  have hn := hs.nil'
  have hl := hs.small
  refine WR.call (hH := rfl) Try.func13 rfl (n := 51) rfl rfl (by simp) ?_
  simp -dsimp (disch := first | with_reducible assumption | omega | (intro h_; cases h_; done) | (simp only [LN] <;> omega) | (simp only [LF]; done) | (repeat (first | with_reducible assumption | apply Ext.refl | apply Ext.app | (apply Ext.set <;> omega) | (refine Ext.trans ?_ (by assumption))))) only [AX, TY, gV, dstOf, p_makeFunc, p_mapUpdate, mapPut, entsOf, p_lookup, p_extract, p_nilCheck, oneV, p_load, p_store, p_binOp, p_unOp, p_indexAddr, p_index, p_box, p_build, evParts, builtinV, load1, ldc, splice, minds, disj, rcOf, isCall, touchV, idsOf, mapId, touchB, p_buildSlice, buildSliceV, reps, fillV, p_convert, p_slice, evO, p_makeSlice, sid_some, soff_some, Nat.reduceLT, Nat.reduceLeDiff, Nat.reduceEqDiff, Nat.reduceAdd, Nat.reduceMul, Int.reduceBEq, Int.reduceEq, Int.reduceNeg, Int.reduceLT, Int.reduceLE, Int.reduceAdd, Int.reduceSub, Int.reduceMul, Int.reduceToNat, Int.reduceGT, Nat.reduceBEq, Nat.reducePow, Nat.reduceGT, reduceCtorEq, ↓reduceIte]
  refine steps_ok.mono ?_
  rintro _ h1 ⟨e1, m, a, b, rfl, ga, gb, gm⟩
  have eh : Ext h h1 := Ext.trans (by (repeat (first | assumption | apply Ext.refl | apply Ext.app | (apply Ext.set <;> omega) | exact Ext.trans (by assumption) (by assumption) | (refine Ext.trans ?_ (by assumption))))) e1
  have g4 := e1 _ _ (snoc_last (h := h) _ rfl)
  have hf : (∃ F cap, findV (.int .i64 fn) [(.int .i64 0, .func 43 [] [], 0), (.int .i64 1, .func 44 [] [], 1), (.int .i64 2, .func 42 [] [.ptr (some (a, 0))], 2), (.int .i64 3, .func 42 [] [.ptr (some (b, 0))], 3)] 0 = some (some (fn.toNat, .func F [] cap, fn.toNat)) ∧ 0 ≤ fn ∧ fn ≤ 3 ∧
      ∀ hh, Ext h1 hh → ∀ x n y, WR (callE Try.prog hk F (.agg x.enc :: .int .i64 n :: .agg y.enc :: cap) hh) fun r h' => Ext hh h' ∧ r = .agg (stepF fn x n y).enc) ∨
      (findV (.int .i64 fn) [(.int .i64 0, .func 43 [] [], 0), (.int .i64 1, .func 44 [] [], 1), (.int .i64 2, .func 42 [] [.ptr (some (a, 0))], 2), (.int .i64 3, .func 42 [] [.ptr (some (b, 0))], 3)] 0 = some none ∧ ¬ (0 ≤ fn ∧ fn ≤ 3)) := by
    by_cases h0 : fn = 0
    · subst h0; exact .inl ⟨43, [], rfl, by omega, by omega, fun hh e x n y => step43_ok x n y⟩
    by_cases h1 : fn = 1
    · subst h1; exact .inl ⟨44, [], rfl, by omega, by omega, fun hh e x n y => step44_ok x n y⟩
    by_cases h2 : fn = 2
    · subst h2; exact .inl ⟨42, _, rfl, by omega, by omega, fun hh e x n y => step42_ok (-1) a (e _ _ ga) x n y⟩
    by_cases h3 : fn = 3
    · subst h3; exact .inl ⟨42, _, rfl, by omega, by omega, fun hh e x n y => step42_ok 1 b (e _ _ gb) x n y⟩
    · right
      refine ⟨?_, by omega⟩
      have k : ∀ z : Int, ¬ fn = z → (fn == z) = false := fun z h => by simp [h]
      simp [findV, keySame, k _ h0, k _ h1, k _ h2, k _ h3]
  have l1 := lt_of_some g4
  rcases hf with ⟨F, cap, hf, hf0, hf3, hstep⟩ | ⟨hf, hf0⟩
  rotate_left
  · simp -dsimp (disch := first | with_reducible assumption | omega | (intro h_; cases h_; done) | (simp only [LN] <;> omega) | (simp only [LF]; done) | (repeat (first | with_reducible assumption | apply Ext.refl | apply Ext.app | (apply Ext.set <;> omega) | (refine Ext.trans ?_ (by assumption))))) only [AX, TY, gV, dstOf, p_makeFunc, p_mapUpdate, mapPut, entsOf, p_lookup, p_extract, p_nilCheck, oneV, p_load, p_store, p_binOp, p_unOp, p_indexAddr, p_index, p_box, p_build, evParts, builtinV, load1, ldc, splice, minds, disj, rcOf, isCall, touchV, idsOf, mapId, touchB, p_buildSlice, buildSliceV, reps, fillV, p_convert, p_slice, evO, p_makeSlice, sid_some, soff_some, Nat.reduceLT, Nat.reduceLeDiff, Nat.reduceEqDiff, Nat.reduceAdd, Nat.reduceMul, Int.reduceBEq, Int.reduceEq, Int.reduceNeg, Int.reduceLT, Int.reduceLE, Int.reduceAdd, Int.reduceSub, Int.reduceMul, Int.reduceToNat, Int.reduceGT, Nat.reduceBEq, Nat.reducePow, Nat.reduceGT, reduceCtorEq, ↓reduceIte, gm, mapGet, hf, loadN_fact g4, storeN_fact g4 (by simp)]
    refine ⟨Ext.set eh (by omega) _, ?_⟩
    simp only [applyV, if_neg hf0, zeroVl, Vl.enc]
  simp -dsimp (disch := first | with_reducible assumption | omega | (intro h_; cases h_; done) | (simp only [LN] <;> omega) | (simp only [LF]; done) | (repeat (first | with_reducible assumption | apply Ext.refl | apply Ext.app | (apply Ext.set <;> omega) | (refine Ext.trans ?_ (by assumption))))) only [AX, TY, gV, dstOf, p_makeFunc, p_mapUpdate, mapPut, entsOf, p_lookup, p_extract, p_nilCheck, oneV, p_load, p_store, p_binOp, p_unOp, p_indexAddr, p_index, p_box, p_build, evParts, builtinV, load1, ldc, splice, minds, disj, rcOf, isCall, touchV, idsOf, mapId, touchB, p_buildSlice, buildSliceV, reps, fillV, p_convert, p_slice, evO, p_makeSlice, sid_some, soff_some, Nat.reduceLT, Nat.reduceLeDiff, Nat.reduceEqDiff, Nat.reduceAdd, Nat.reduceMul, Int.reduceBEq, Int.reduceEq, Int.reduceNeg, Int.reduceLT, Int.reduceLE, Int.reduceAdd, Int.reduceSub, Int.reduceMul, Int.reduceToNat, Int.reduceGT, Nat.reduceBEq, Nat.reducePow, Nat.reduceGT, reduceCtorEq, ↓reduceIte, gm, mapGet, hf]
  have hrun : applyV fn ys = ys.foldl (goStep fn) (zeroVl, decide (fn = 0)) := by simp only [applyV, if_pos (And.intro hf0 hf3)]
  rw [hrun]
  refine W.loop (fun mm τ hh => ∃ i : Nat, mm + i = ys.length ∧ ∃ out : Vl, ∃ some_ : Bool, Ext h1 hh ∧ τ 0 = .int .i64 fn ∧ τ 6 = .func F [] cap ∧ τ 23 = .slice p ys.length c ∧ τ 24 = .int .i64 ys.length ∧ τ 25 = .int .i64 i ∧ τ 8 = .ptr (some (h1.length, 0)) ∧ τ 4 = .ptr (some (h.length, 0)) ∧
    hh[h1.length]? = some (.cells out.enc .rw) ∧ τ 9 = .bool some_ ∧ (ys.take i).foldl (goStep fn) (zeroVl, decide (fn = 0)) = (out, some_)) ?_ (m := ys.length) ?_
  rotate_left
  · exact ⟨0, by simp, zeroVl, decide (fn = 0), (by (repeat (first | assumption | apply Ext.refl | apply Ext.app | (apply Ext.set <;> omega) | exact Ext.trans (by assumption) (by assumption) | (refine Ext.trans ?_ (by assumption))))), rfl, rfl, rfl, rfl, rfl, rfl, rfl, snoc_last _ rfl, rfl, by simp⟩
  rintro mm τ hh ⟨i, hm, out, some_, e2, t0, t6, t23, t24, t25, t8, t4, gout, t9, hfold⟩
  have l2 := e2.le
  have eh2 := eh.trans e2
  simp -dsimp (disch := first | with_reducible assumption | omega | (intro h_; cases h_; done) | (simp only [LN] <;> omega) | (simp only [LF]; done) | (repeat (first | with_reducible assumption | apply Ext.refl | apply Ext.app | (apply Ext.set <;> omega) | (refine Ext.trans ?_ (by assumption))))) only [AX, TY, gV, dstOf, p_makeFunc, p_mapUpdate, mapPut, entsOf, p_lookup, p_extract, p_nilCheck, oneV, p_load, p_store, p_binOp, p_unOp, p_indexAddr, p_index, p_box, p_build, evParts, builtinV, load1, ldc, splice, minds, disj, rcOf, isCall, touchV, idsOf, mapId, touchB, p_buildSlice, buildSliceV, reps, fillV, p_convert, p_slice, evO, p_makeSlice, sid_some, soff_some, Nat.reduceLT, Nat.reduceLeDiff, Nat.reduceEqDiff, Nat.reduceAdd, Nat.reduceMul, Int.reduceBEq, Int.reduceEq, Int.reduceNeg, Int.reduceLT, Int.reduceLE, Int.reduceAdd, Int.reduceSub, Int.reduceMul, Int.reduceToNat, Int.reduceGT, Nat.reduceBEq, Nat.reducePow, Nat.reduceGT, reduceCtorEq, ↓reduceIte, t0, t6, t23, t24, t25, t8, t4, t9]
  refine WC_dec (fun hlt => ?_) (fun hge => ?_)
  · have hi : i < ys.length := by omega
    simp -dsimp (disch := first | with_reducible assumption | omega | (intro h_; cases h_; done) | (simp only [LN] <;> omega) | (simp only [LF]; done) | (repeat (first | with_reducible assumption | apply Ext.refl | apply Ext.app | (apply Ext.set <;> omega) | (refine Ext.trans ?_ (by assumption))))) only [AX, TY, gV, dstOf, p_makeFunc, p_mapUpdate, mapPut, entsOf, p_lookup, p_extract, p_nilCheck, oneV, p_load, p_store, p_binOp, p_unOp, p_indexAddr, p_index, p_box, p_build, evParts, builtinV, load1, ldc, splice, minds, disj, rcOf, isCall, touchV, idsOf, mapId, touchB, p_buildSlice, buildSliceV, reps, fillV, p_convert, p_slice, evO, p_makeSlice, sid_some, soff_some, Nat.reduceLT, Nat.reduceLeDiff, Nat.reduceEqDiff, Nat.reduceAdd, Nat.reduceMul, Int.reduceBEq, Int.reduceEq, Int.reduceNeg, Int.reduceLT, Int.reduceLE, Int.reduceAdd, Int.reduceSub, Int.reduceMul, Int.reduceToNat, Int.reduceGT, Nat.reduceBEq, Nat.reducePow, Nat.reduceGT, reduceCtorEq, ↓reduceIte, t0, t6, t23, t24, t25, t8, t4, t9, hs.load0, En.enc]
    refine (counts_ok fn ys[i]).mono ?_
    rintro _ h3 ⟨e3, rfl⟩
    have e13 : Ext h1 h3 := Ext.trans (by (repeat (first | assumption | apply Ext.refl | apply Ext.app | (apply Ext.set <;> omega) | exact Ext.trans (by assumption) (by assumption) | (refine Ext.trans ?_ (by assumption))))) e3
    have gx : h3[hh.length]? = some (.cells ys[i].enc .rw) := e3 _ _ (snoc_last _ rfl)
    have go3 : h3[h1.length]? = some (.cells out.enc .rw) := e3 _ _ (by rw [snoc_old _ (lt_of_some gout)]; exact gout)
    have l3 := lt_of_some gx
    have l4 := lt_of_some gout
    have hfold' : (ys.take (i + 1)).foldl (goStep fn) (zeroVl, decide (fn = 0)) = goStep fn (out, some_) ys[i] := by
      rw [List.take_succ_eq_append_getElem hi, List.foldl_append, hfold]; rfl
    cases hc : countV fn ys[i]
    · simp -dsimp (disch := first | with_reducible assumption | omega | (intro h_; cases h_; done) | (simp only [LN] <;> omega) | (simp only [LF]; done) | (repeat (first | with_reducible assumption | apply Ext.refl | apply Ext.app | (apply Ext.set <;> omega) | (refine Ext.trans ?_ (by assumption))))) only [AX, TY, gV, dstOf, p_makeFunc, p_mapUpdate, mapPut, entsOf, p_lookup, p_extract, p_nilCheck, oneV, p_load, p_store, p_binOp, p_unOp, p_indexAddr, p_index, p_box, p_build, evParts, builtinV, load1, ldc, splice, minds, disj, rcOf, isCall, touchV, idsOf, mapId, touchB, p_buildSlice, buildSliceV, reps, fillV, p_convert, p_slice, evO, p_makeSlice, sid_some, soff_some, Nat.reduceLT, Nat.reduceLeDiff, Nat.reduceEqDiff, Nat.reduceAdd, Nat.reduceMul, Int.reduceBEq, Int.reduceEq, Int.reduceNeg, Int.reduceLT, Int.reduceLE, Int.reduceAdd, Int.reduceSub, Int.reduceMul, Int.reduceToNat, Int.reduceGT, Nat.reduceBEq, Nat.reducePow, Nat.reduceGT, reduceCtorEq, ↓reduceIte, t0, t6, t23, t24, t25, t8, t4, t9, wrap_in]
      refine ⟨mm - 1, by omega, i + 1, by omega, out, some_, e13, by simp, go3, rfl, ?_⟩
      rw [hfold']; simp [goStep, hc]
    · cases some_
      · simp -dsimp (disch := first | with_reducible assumption | omega | (intro h_; cases h_; done) | (simp only [LN] <;> omega) | (simp only [LF]; done) | (repeat (first | with_reducible assumption | apply Ext.refl | apply Ext.app | (apply Ext.set <;> omega) | (refine Ext.trans ?_ (by assumption))))) only [AX, TY, gV, dstOf, p_makeFunc, p_mapUpdate, mapPut, entsOf, p_lookup, p_extract, p_nilCheck, oneV, p_load, p_store, p_binOp, p_unOp, p_indexAddr, p_index, p_box, p_build, evParts, builtinV, load1, ldc, splice, minds, disj, rcOf, isCall, touchV, idsOf, mapId, touchB, p_buildSlice, buildSliceV, reps, fillV, p_convert, p_slice, evO, p_makeSlice, sid_some, soff_some, Nat.reduceLT, Nat.reduceLeDiff, Nat.reduceEqDiff, Nat.reduceAdd, Nat.reduceMul, Int.reduceBEq, Int.reduceEq, Int.reduceNeg, Int.reduceLT, Int.reduceLE, Int.reduceAdd, Int.reduceSub, Int.reduceMul, Int.reduceToNat, Int.reduceGT, Nat.reduceBEq, Nat.reducePow, Nat.reduceGT, reduceCtorEq, ↓reduceIte, t0, t6, t23, t24, t25, t8, t4, t9, loadN_fact gx, En.enc]
        refine WC_dec (fun hf1 => ?_) (fun hf1 => ?_)
        · have g6 : (h3.set h1.length (.cells ys[i].v.enc .rw))[hh.length]? = some (.cells ys[i].enc .rw) := by rw [set_other _ (by omega)]; exact gx
          have g7 : (h3.set h1.length (.cells ys[i].v.enc .rw))[h1.length]? = some (.cells ys[i].v.enc .rw) := set_same _ (by omega)
          have go3' := storeN_fact go3 (by simp)
          simp only [Vl.enc] at g6 g7 go3'
          simp -dsimp (disch := first | with_reducible assumption | omega | (intro h_; cases h_; done) | (simp only [LN] <;> omega) | (simp only [LF]; done) | (repeat (first | with_reducible assumption | apply Ext.refl | apply Ext.app | (apply Ext.set <;> omega) | (refine Ext.trans ?_ (by assumption))))) only [AX, TY, gV, dstOf, p_makeFunc, p_mapUpdate, mapPut, entsOf, p_lookup, p_extract, p_nilCheck, oneV, p_load, p_store, p_binOp, p_unOp, p_indexAddr, p_index, p_box, p_build, evParts, builtinV, load1, ldc, splice, minds, disj, rcOf, isCall, touchV, idsOf, mapId, touchB, p_buildSlice, buildSliceV, reps, fillV, p_convert, p_slice, evO, p_makeSlice, sid_some, soff_some, Nat.reduceLT, Nat.reduceLeDiff, Nat.reduceEqDiff, Nat.reduceAdd, Nat.reduceMul, Int.reduceBEq, Int.reduceEq, Int.reduceNeg, Int.reduceLT, Int.reduceLE, Int.reduceAdd, Int.reduceSub, Int.reduceMul, Int.reduceToNat, Int.reduceGT, Nat.reduceBEq, Nat.reducePow, Nat.reduceGT, reduceCtorEq, ↓reduceIte, t0, t6, t23, t24, t25, t8, t4, t9, loadN_fact gx, go3', En.enc, loadN_fact g6, loadN_fact g7]
          refine (hstep _ (Ext.set e13 (Nat.le_refl _) _) ys[i].v _ _).mono ?_
          rintro _ h5 ⟨e5, rfl⟩
          have g8 := e5 _ _ g7
          have l8 := lt_of_some g8
          simp -dsimp (disch := first | with_reducible assumption | omega | (intro h_; cases h_; done) | (simp only [LN] <;> omega) | (simp only [LF]; done) | (repeat (first | with_reducible assumption | apply Ext.refl | apply Ext.app | (apply Ext.set <;> omega) | (refine Ext.trans ?_ (by assumption))))) only [AX, TY, gV, dstOf, p_makeFunc, p_mapUpdate, mapPut, entsOf, p_lookup, p_extract, p_nilCheck, oneV, p_load, p_store, p_binOp, p_unOp, p_indexAddr, p_index, p_box, p_build, evParts, builtinV, load1, ldc, splice, minds, disj, rcOf, isCall, touchV, idsOf, mapId, touchB, p_buildSlice, buildSliceV, reps, fillV, p_convert, p_slice, evO, p_makeSlice, sid_some, soff_some, Nat.reduceLT, Nat.reduceLeDiff, Nat.reduceEqDiff, Nat.reduceAdd, Nat.reduceMul, Int.reduceBEq, Int.reduceEq, Int.reduceNeg, Int.reduceLT, Int.reduceLE, Int.reduceAdd, Int.reduceSub, Int.reduceMul, Int.reduceToNat, Int.reduceGT, Nat.reduceBEq, Nat.reducePow, Nat.reduceGT, reduceCtorEq, ↓reduceIte, t0, t6, t23, t24, t25, t8, t4, t9, storeN_fact g8 (by simp), wrap_in, Vl.enc]
          refine ⟨mm - 1, by omega, i + 1, by omega, stepF fn ys[i].v ys[i].n ys[i].v, true, Ext.set (Ext.trans (Ext.set e13 (Nat.le_refl _) _) e5) (Nat.le_refl _) _, by simp, rfl, rfl, ?_⟩
          rw [hfold']; simp [goStep, hc, hf1]
        · simp -dsimp (disch := first | with_reducible assumption | omega | (intro h_; cases h_; done) | (simp only [LN] <;> omega) | (simp only [LF]; done) | (repeat (first | with_reducible assumption | apply Ext.refl | apply Ext.app | (apply Ext.set <;> omega) | (refine Ext.trans ?_ (by assumption))))) only [AX, TY, gV, dstOf, p_makeFunc, p_mapUpdate, mapPut, entsOf, p_lookup, p_extract, p_nilCheck, oneV, p_load, p_store, p_binOp, p_unOp, p_indexAddr, p_index, p_box, p_build, evParts, builtinV, load1, ldc, splice, minds, disj, rcOf, isCall, touchV, idsOf, mapId, touchB, p_buildSlice, buildSliceV, reps, fillV, p_convert, p_slice, evO, p_makeSlice, sid_some, soff_some, Nat.reduceLT, Nat.reduceLeDiff, Nat.reduceEqDiff, Nat.reduceAdd, Nat.reduceMul, Int.reduceBEq, Int.reduceEq, Int.reduceNeg, Int.reduceLT, Int.reduceLE, Int.reduceAdd, Int.reduceSub, Int.reduceMul, Int.reduceToNat, Int.reduceGT, Nat.reduceBEq, Nat.reducePow, Nat.reduceGT, reduceCtorEq, ↓reduceIte, t0, t6, t23, t24, t25, t8, t4, t9, loadN_fact gx, loadN_fact go3, En.enc, Vl.enc]
          refine (hstep _ e13 out _ ys[i].v).mono ?_
          rintro _ h5 ⟨e5, rfl⟩
          have g8 := e5 _ _ go3
          have l8 := lt_of_some g8
          simp -dsimp (disch := first | with_reducible assumption | omega | (intro h_; cases h_; done) | (simp only [LN] <;> omega) | (simp only [LF]; done) | (repeat (first | with_reducible assumption | apply Ext.refl | apply Ext.app | (apply Ext.set <;> omega) | (refine Ext.trans ?_ (by assumption))))) only [AX, TY, gV, dstOf, p_makeFunc, p_mapUpdate, mapPut, entsOf, p_lookup, p_extract, p_nilCheck, oneV, p_load, p_store, p_binOp, p_unOp, p_indexAddr, p_index, p_box, p_build, evParts, builtinV, load1, ldc, splice, minds, disj, rcOf, isCall, touchV, idsOf, mapId, touchB, p_buildSlice, buildSliceV, reps, fillV, p_convert, p_slice, evO, p_makeSlice, sid_some, soff_some, Nat.reduceLT, Nat.reduceLeDiff, Nat.reduceEqDiff, Nat.reduceAdd, Nat.reduceMul, Int.reduceBEq, Int.reduceEq, Int.reduceNeg, Int.reduceLT, Int.reduceLE, Int.reduceAdd, Int.reduceSub, Int.reduceMul, Int.reduceToNat, Int.reduceGT, Nat.reduceBEq, Nat.reducePow, Nat.reduceGT, reduceCtorEq, ↓reduceIte, t0, t6, t23, t24, t25, t8, t4, t9, storeN_fact g8 (by simp), wrap_in, Vl.enc]
          refine ⟨mm - 1, by omega, i + 1, by omega, stepF fn out ys[i].n ys[i].v, true, Ext.set (Ext.trans e13 e5) (Nat.le_refl _) _, by simp, rfl, rfl, ?_⟩
          rw [hfold']; simp [goStep, hc, hf1]
      · simp -dsimp (disch := first | with_reducible assumption | omega | (intro h_; cases h_; done) | (simp only [LN] <;> omega) | (simp only [LF]; done) | (repeat (first | with_reducible assumption | apply Ext.refl | apply Ext.app | (apply Ext.set <;> omega) | (refine Ext.trans ?_ (by assumption))))) only [AX, TY, gV, dstOf, p_makeFunc, p_mapUpdate, mapPut, entsOf, p_lookup, p_extract, p_nilCheck, oneV, p_load, p_store, p_binOp, p_unOp, p_indexAddr, p_index, p_box, p_build, evParts, builtinV, load1, ldc, splice, minds, disj, rcOf, isCall, touchV, idsOf, mapId, touchB, p_buildSlice, buildSliceV, reps, fillV, p_convert, p_slice, evO, p_makeSlice, sid_some, soff_some, Nat.reduceLT, Nat.reduceLeDiff, Nat.reduceEqDiff, Nat.reduceAdd, Nat.reduceMul, Int.reduceBEq, Int.reduceEq, Int.reduceNeg, Int.reduceLT, Int.reduceLE, Int.reduceAdd, Int.reduceSub, Int.reduceMul, Int.reduceToNat, Int.reduceGT, Nat.reduceBEq, Nat.reducePow, Nat.reduceGT, reduceCtorEq, ↓reduceIte, t0, t6, t23, t24, t25, t8, t4, t9, loadN_fact gx, loadN_fact go3, En.enc, Vl.enc]
        refine (hstep _ e13 out _ ys[i].v).mono ?_
        rintro _ h5 ⟨e5, rfl⟩
        have g8 := e5 _ _ go3
        have l8 := lt_of_some g8
        simp -dsimp (disch := first | with_reducible assumption | omega | (intro h_; cases h_; done) | (simp only [LN] <;> omega) | (simp only [LF]; done) | (repeat (first | with_reducible assumption | apply Ext.refl | apply Ext.app | (apply Ext.set <;> omega) | (refine Ext.trans ?_ (by assumption))))) only [AX, TY, gV, dstOf, p_makeFunc, p_mapUpdate, mapPut, entsOf, p_lookup, p_extract, p_nilCheck, oneV, p_load, p_store, p_binOp, p_unOp, p_indexAddr, p_index, p_box, p_build, evParts, builtinV, load1, ldc, splice, minds, disj, rcOf, isCall, touchV, idsOf, mapId, touchB, p_buildSlice, buildSliceV, reps, fillV, p_convert, p_slice, evO, p_makeSlice, sid_some, soff_some, Nat.reduceLT, Nat.reduceLeDiff, Nat.reduceEqDiff, Nat.reduceAdd, Nat.reduceMul, Int.reduceBEq, Int.reduceEq, Int.reduceNeg, Int.reduceLT, Int.reduceLE, Int.reduceAdd, Int.reduceSub, Int.reduceMul, Int.reduceToNat, Int.reduceGT, Nat.reduceBEq, Nat.reducePow, Nat.reduceGT, reduceCtorEq, ↓reduceIte, t0, t6, t23, t24, t25, t8, t4, t9, storeN_fact g8 (by simp), wrap_in, Vl.enc]
        refine ⟨mm - 1, by omega, i + 1, by omega, stepF fn out ys[i].n ys[i].v, true, Ext.set (Ext.trans e13 e5) (Nat.le_refl _) _, by simp, rfl, rfl, ?_⟩
        rw [hfold']; simp [goStep, hc]
  · have g4' := e2 _ _ g4
    have l5 := lt_of_some g4'
    have l6 := lt_of_some gout
    rw [List.take_of_length_le (by omega)] at hfold
    simp -dsimp (disch := first | with_reducible assumption | omega | (intro h_; cases h_; done) | (simp only [LN] <;> omega) | (simp only [LF]; done) | (repeat (first | with_reducible assumption | apply Ext.refl | apply Ext.app | (apply Ext.set <;> omega) | (refine Ext.trans ?_ (by assumption))))) only [AX, TY, gV, dstOf, p_makeFunc, p_mapUpdate, mapPut, entsOf, p_lookup, p_extract, p_nilCheck, oneV, p_load, p_store, p_binOp, p_unOp, p_indexAddr, p_index, p_box, p_build, evParts, builtinV, load1, ldc, splice, minds, disj, rcOf, isCall, touchV, idsOf, mapId, touchB, p_buildSlice, buildSliceV, reps, fillV, p_convert, p_slice, evO, p_makeSlice, sid_some, soff_some, Nat.reduceLT, Nat.reduceLeDiff, Nat.reduceEqDiff, Nat.reduceAdd, Nat.reduceMul, Int.reduceBEq, Int.reduceEq, Int.reduceNeg, Int.reduceLT, Int.reduceLE, Int.reduceAdd, Int.reduceSub, Int.reduceMul, Int.reduceToNat, Int.reduceGT, Nat.reduceBEq, Nat.reducePow, Nat.reduceGT, reduceCtorEq, ↓reduceIte, t0, t6, t23, t24, t25, t8, t4, t9, loadN_fact gout, storeN_fact g4' (by simp), Vl.enc]
    refine ⟨Ext.set eh2 (Nat.le_refl _) _, ?_⟩
    rw [hfold]
end Go.Proofs.YtagebnmealiedaaA
