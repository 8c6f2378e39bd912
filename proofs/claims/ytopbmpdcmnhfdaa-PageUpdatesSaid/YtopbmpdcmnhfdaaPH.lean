/- Words of this session: chapter 14: Insert, Replace, Remove; comparing; the chapter's example. -/
import Derived.Test.YtopbmpdcmnhfdaaPG
namespace Go.Proofs.YtopbmpdcmnhfdaaA
open Go Go.Proofs Go.RowKit
set_option linter.unusedVariables false
set_option linter.unusedSimpArgs false
set_option maxRecDepth 10000
set_option maxHeartbeats 4000000
theorem BuildR.base {h h1 h' : Heap} {kd : Int} {cs : List (List Int)} {r : V} (e : Ext h h1) (b : BuildR h1 h' kd cs r) : BuildR h h' kd cs r := by
  have := e.le
  rcases b with ⟨a1, a2, q, a3, a4, a5⟩ | b
  · exact .inl ⟨a1, a2, q, a3, by omega, a5⟩
  · exact .inr b
def UpR (h h' : Heap) (l : List Int) (i top : Int) (new : Nat → List (List Int)) (r : V) : Prop :=
  (¬ Valid l ∧ r = V.tuple [.slice none 0 (some 0), .int .i64 1]) ∨ (Valid l ∧ ¬ (0 ≤ i ∧ i ≤ top) ∧ r = V.tuple [.slice none 0 (some 0), .int .i64 2]) ∨ (Valid l ∧ ∃ k : Nat, i = k ∧ (k : Int) ≤ top ∧ BuildR h h' (rd l 0) (new k) r)
def insC (l cell : List Int) (k : Nat) : List (List Int) := (cellsS l).take k ++ [cell] ++ (cellsS l).drop k
def repC (l cell : List Int) (k : Nat) : List (List Int) := (cellsS l).take k ++ [cell] ++ (cellsS l).drop (k + 1)
def remC (l : List Int) (k : Nat) : List (List Int) := (cellsS l).take k ++ [] ++ (cellsS l).drop (k + 1)
theorem insert_ok {h : Heap} {p pc : Option (Nat × Nat)} {c cc : Option Nat} {l cell : List Int} (hr : Rs h p c 1 eb l) (hb : Bytes l) (hc : Sl h pc 1 eb cell) (hcl : cell.length ≤ 100000) (i : Int) :
    WR (callE Try.prog hk 32 [.slice p l.length c, .int .i64 i, .slice pc cell.length cc] h) fun r h' => Ext h h' ∧ UpR h h' l i (num l 1) (insC l cell) r := by
  refine WR.call (hH := rfl) Try.func32 rfl (n := 29) rfl rfl (by simp) ?_
  simp -dsimp (disch := first | with_reducible assumption | omega | (intro h_; cases h_; done) | (simp only [LN] <;> omega) | (simp only [LF]; done) | (repeat (first | with_reducible assumption | apply Ext.refl | apply Ext.app | (apply Ext.set <;> omega) | (refine Ext.trans ?_ (by assumption))))) only [AX, TY, gV, dstOf, p_makeFunc, p_mapUpdate, mapPut, entsOf, p_lookup, p_extract, p_nilCheck, oneV, p_load, p_store, p_binOp, p_unOp, p_indexAddr, p_index, p_box, p_build, evParts, builtinV, load1, ldc, splice, minds, disj, rcOf, isCall, touchV, idsOf, mapId, touchB, p_buildSlice, buildSliceV, reps, fillV, p_convert, p_slice, evO, p_makeSlice, sid_some, soff_some, Nat.reduceLT, Nat.reduceLeDiff, Nat.reduceEqDiff, Nat.reduceAdd, Nat.reduceMul, Int.reduceBEq, Int.reduceEq, Int.reduceNeg, Int.reduceLT, Int.reduceLE, Int.reduceAdd, Int.reduceSub, Int.reduceMul, Int.reduceToNat, Int.reduceGT, Nat.reduceBEq, Nat.reducePow, Nat.reduceGT, reduceCtorEq, ↓reduceIte]
  refine (valid_ok hr hb).mono ?_
  rintro _ _ ⟨rfl, b, rfl, hv⟩
  cases b
  · simp -dsimp (disch := first | with_reducible assumption | omega | (intro h_; cases h_; done) | (simp only [LN] <;> omega) | (simp only [LF]; done) | (repeat (first | with_reducible assumption | apply Ext.refl | apply Ext.app | (apply Ext.set <;> omega) | (refine Ext.trans ?_ (by assumption))))) only [AX, TY, gV, dstOf, p_makeFunc, p_mapUpdate, mapPut, entsOf, p_lookup, p_extract, p_nilCheck, oneV, p_load, p_store, p_binOp, p_unOp, p_indexAddr, p_index, p_box, p_build, evParts, builtinV, load1, ldc, splice, minds, disj, rcOf, isCall, touchV, idsOf, mapId, touchB, p_buildSlice, buildSliceV, reps, fillV, p_convert, p_slice, evO, p_makeSlice, sid_some, soff_some, Nat.reduceLT, Nat.reduceLeDiff, Nat.reduceEqDiff, Nat.reduceAdd, Nat.reduceMul, Int.reduceBEq, Int.reduceEq, Int.reduceNeg, Int.reduceLT, Int.reduceLE, Int.reduceAdd, Int.reduceSub, Int.reduceMul, Int.reduceToNat, Int.reduceGT, Nat.reduceBEq, Nat.reducePow, Nat.reduceGT, reduceCtorEq, ↓reduceIte]
    exact ⟨.refl _, .inl ⟨fun v => absurd (hv.2 v) (by simp), rfl⟩⟩
  have v := hv.1 rfl
  by_cases h1 : i < 0
  · simp -dsimp (disch := first | with_reducible assumption | omega | (intro h_; cases h_; done) | (simp only [LN] <;> omega) | (simp only [LF]; done) | (repeat (first | with_reducible assumption | apply Ext.refl | apply Ext.app | (apply Ext.set <;> omega) | (refine Ext.trans ?_ (by assumption))))) only [AX, TY, gV, dstOf, p_makeFunc, p_mapUpdate, mapPut, entsOf, p_lookup, p_extract, p_nilCheck, oneV, p_load, p_store, p_binOp, p_unOp, p_indexAddr, p_index, p_box, p_build, evParts, builtinV, load1, ldc, splice, minds, disj, rcOf, isCall, touchV, idsOf, mapId, touchB, p_buildSlice, buildSliceV, reps, fillV, p_convert, p_slice, evO, p_makeSlice, sid_some, soff_some, Nat.reduceLT, Nat.reduceLeDiff, Nat.reduceEqDiff, Nat.reduceAdd, Nat.reduceMul, Int.reduceBEq, Int.reduceEq, Int.reduceNeg, Int.reduceLT, Int.reduceLE, Int.reduceAdd, Int.reduceSub, Int.reduceMul, Int.reduceToNat, Int.reduceGT, Nat.reduceBEq, Nat.reducePow, Nat.reduceGT, reduceCtorEq, ↓reduceIte, h1]
    exact ⟨.refl _, .inr (.inl ⟨v, by omega, rfl⟩)⟩
  simp -dsimp (disch := first | with_reducible assumption | omega | (intro h_; cases h_; done) | (simp only [LN] <;> omega) | (simp only [LF]; done) | (repeat (first | with_reducible assumption | apply Ext.refl | apply Ext.app | (apply Ext.set <;> omega) | (refine Ext.trans ?_ (by assumption))))) only [AX, TY, gV, dstOf, p_makeFunc, p_mapUpdate, mapPut, entsOf, p_lookup, p_extract, p_nilCheck, oneV, p_load, p_store, p_binOp, p_unOp, p_indexAddr, p_index, p_box, p_build, evParts, builtinV, load1, ldc, splice, minds, disj, rcOf, isCall, touchV, idsOf, mapId, touchB, p_buildSlice, buildSliceV, reps, fillV, p_convert, p_slice, evO, p_makeSlice, sid_some, soff_some, Nat.reduceLT, Nat.reduceLeDiff, Nat.reduceEqDiff, Nat.reduceAdd, Nat.reduceMul, Int.reduceBEq, Int.reduceEq, Int.reduceNeg, Int.reduceLT, Int.reduceLE, Int.reduceAdd, Int.reduceSub, Int.reduceMul, Int.reduceToNat, Int.reduceGT, Nat.reduceBEq, Nat.reducePow, Nat.reduceGT, reduceCtorEq, ↓reduceIte, h1]
  refine (count_ok hr hb).mono ?_
  rintro _ _ ⟨rfl, n, rfl, hn, _⟩
  obtain rfl := hn v
  by_cases h2 : num l 1 < i
  · simp -dsimp (disch := first | with_reducible assumption | omega | (intro h_; cases h_; done) | (simp only [LN] <;> omega) | (simp only [LF]; done) | (repeat (first | with_reducible assumption | apply Ext.refl | apply Ext.app | (apply Ext.set <;> omega) | (refine Ext.trans ?_ (by assumption))))) only [AX, TY, gV, dstOf, p_makeFunc, p_mapUpdate, mapPut, entsOf, p_lookup, p_extract, p_nilCheck, oneV, p_load, p_store, p_binOp, p_unOp, p_indexAddr, p_index, p_box, p_build, evParts, builtinV, load1, ldc, splice, minds, disj, rcOf, isCall, touchV, idsOf, mapId, touchB, p_buildSlice, buildSliceV, reps, fillV, p_convert, p_slice, evO, p_makeSlice, sid_some, soff_some, Nat.reduceLT, Nat.reduceLeDiff, Nat.reduceEqDiff, Nat.reduceAdd, Nat.reduceMul, Int.reduceBEq, Int.reduceEq, Int.reduceNeg, Int.reduceLT, Int.reduceLE, Int.reduceAdd, Int.reduceSub, Int.reduceMul, Int.reduceToNat, Int.reduceGT, Nat.reduceBEq, Nat.reducePow, Nat.reduceGT, reduceCtorEq, ↓reduceIte, eq_true h2]
    exact ⟨.refl _, .inr (.inl ⟨v, by omega, rfl⟩)⟩
  obtain ⟨k, rfl⟩ : ∃ k : Nat, i = (k : Int) := ⟨i.toNat, by omega⟩
  have ex : Ext h (h ++ [O.cells [V.slice pc cell.length cc] Kd.rw]) := (by (repeat (first | assumption | apply Ext.refl | apply Ext.app | (apply Ext.set <;> omega) | exact Ext.trans (by assumption) (by assumption) | (refine Ext.trans ?_ (by assumption)))))
  have hvc : VCl (h ++ [O.cells [V.slice pc cell.length cc] Kd.rw]) (some (h.length, 0)) (some 1) [⟨pc, cc, cell⟩] := ⟨.inr ⟨h.length, rfl, snoc_last _ rfl, by simp⟩, fun y hy => by simp only [List.mem_singleton] at hy; subst hy; exact Sl.ext hc ex, fun y hy => by simp only [List.mem_singleton] at hy; subst hy; exact hcl⟩
  simp -dsimp (disch := first | with_reducible assumption | omega | (intro h_; cases h_; done) | (simp only [LN] <;> omega) | (simp only [LF]; done) | (repeat (first | with_reducible assumption | apply Ext.refl | apply Ext.app | (apply Ext.set <;> omega) | (refine Ext.trans ?_ (by assumption))))) only [AX, TY, gV, dstOf, p_makeFunc, p_mapUpdate, mapPut, entsOf, p_lookup, p_extract, p_nilCheck, oneV, p_load, p_store, p_binOp, p_unOp, p_indexAddr, p_index, p_box, p_build, evParts, builtinV, load1, ldc, splice, minds, disj, rcOf, isCall, touchV, idsOf, mapId, touchB, p_buildSlice, buildSliceV, reps, fillV, p_convert, p_slice, evO, p_makeSlice, sid_some, soff_some, Nat.reduceLT, Nat.reduceLeDiff, Nat.reduceEqDiff, Nat.reduceAdd, Nat.reduceMul, Int.reduceBEq, Int.reduceEq, Int.reduceNeg, Int.reduceLT, Int.reduceLE, Int.reduceAdd, Int.reduceSub, Int.reduceMul, Int.reduceToNat, Int.reduceGT, Nat.reduceBEq, Nat.reducePow, Nat.reduceGT, reduceCtorEq, ↓reduceIte, h2]
  refine (edit_ok (hr.ext ex) hb v hvc (i := k) (j := k) (.inl ⟨rfl, by simp⟩) (by omega) (by simp)).mono ?_
  skip
  rintro r h3 ⟨e3, hB⟩
  have hB' := BuildR.base ex hB
  have e03 := Ext.trans ex e3
  rcases hB with ⟨a1, a2, q, rfl, a4, a5⟩ | ⟨a1, a2, rfl⟩ | ⟨a1, rfl⟩
  all_goals
    simp -dsimp (disch := first | with_reducible assumption | omega | (intro h_; cases h_; done) | (simp only [LN] <;> omega) | (simp only [LF]; done) | (repeat (first | with_reducible assumption | apply Ext.refl | apply Ext.app | (apply Ext.set <;> omega) | (refine Ext.trans ?_ (by assumption))))) only [AX, TY, gV, dstOf, p_makeFunc, p_mapUpdate, mapPut, entsOf, p_lookup, p_extract, p_nilCheck, oneV, p_load, p_store, p_binOp, p_unOp, p_indexAddr, p_index, p_box, p_build, evParts, builtinV, load1, ldc, splice, minds, disj, rcOf, isCall, touchV, idsOf, mapId, touchB, p_buildSlice, buildSliceV, reps, fillV, p_convert, p_slice, evO, p_makeSlice, sid_some, soff_some, Nat.reduceLT, Nat.reduceLeDiff, Nat.reduceEqDiff, Nat.reduceAdd, Nat.reduceMul, Int.reduceBEq, Int.reduceEq, Int.reduceNeg, Int.reduceLT, Int.reduceLE, Int.reduceAdd, Int.reduceSub, Int.reduceMul, Int.reduceToNat, Int.reduceGT, Nat.reduceBEq, Nat.reducePow, Nat.reduceGT, reduceCtorEq, ↓reduceIte]
    exact ⟨e03, .inr (.inr ⟨v, k, rfl, by omega, hB'⟩)⟩
theorem exists_ok {h : Heap} {p : Option (Nat × Nat)} {c : Option Nat} {l : List Int} (hr : Rs h p c 1 eb l) (hb : Bytes l) (i : Int) :
    WR (callE Try.prog hk 50 [.slice p l.length c, .int .i64 i] h) fun r h' => h = h' ∧ ∃ e : Int, r = .int .i64 e ∧ ((¬ Valid l ∧ e = 1) ∨ (Valid l ∧ ¬ (0 ≤ i ∧ i ≤ num l 1 - 1) ∧ e = 2) ∨ (Valid l ∧ 0 ≤ i ∧ i ≤ num l 1 - 1 ∧ e = 0)) := by
  refine WR.call (hH := rfl) Try.func50 rfl (n := 18) rfl rfl (by simp) ?_
  simp -dsimp (disch := first | with_reducible assumption | omega | (intro h_; cases h_; done) | (simp only [LN] <;> omega) | (simp only [LF]; done) | (repeat (first | with_reducible assumption | apply Ext.refl | apply Ext.app | (apply Ext.set <;> omega) | (refine Ext.trans ?_ (by assumption))))) only [AX, TY, gV, dstOf, p_makeFunc, p_mapUpdate, mapPut, entsOf, p_lookup, p_extract, p_nilCheck, oneV, p_load, p_store, p_binOp, p_unOp, p_indexAddr, p_index, p_box, p_build, evParts, builtinV, load1, ldc, splice, minds, disj, rcOf, isCall, touchV, idsOf, mapId, touchB, p_buildSlice, buildSliceV, reps, fillV, p_convert, p_slice, evO, p_makeSlice, sid_some, soff_some, Nat.reduceLT, Nat.reduceLeDiff, Nat.reduceEqDiff, Nat.reduceAdd, Nat.reduceMul, Int.reduceBEq, Int.reduceEq, Int.reduceNeg, Int.reduceLT, Int.reduceLE, Int.reduceAdd, Int.reduceSub, Int.reduceMul, Int.reduceToNat, Int.reduceGT, Nat.reduceBEq, Nat.reducePow, Nat.reduceGT, reduceCtorEq, ↓reduceIte]
  refine (valid_ok hr hb).mono ?_
  rintro _ _ ⟨rfl, b, rfl, hv⟩
  cases b
  · simp -dsimp (disch := first | with_reducible assumption | omega | (intro h_; cases h_; done) | (simp only [LN] <;> omega) | (simp only [LF]; done) | (repeat (first | with_reducible assumption | apply Ext.refl | apply Ext.app | (apply Ext.set <;> omega) | (refine Ext.trans ?_ (by assumption))))) only [AX, TY, gV, dstOf, p_makeFunc, p_mapUpdate, mapPut, entsOf, p_lookup, p_extract, p_nilCheck, oneV, p_load, p_store, p_binOp, p_unOp, p_indexAddr, p_index, p_box, p_build, evParts, builtinV, load1, ldc, splice, minds, disj, rcOf, isCall, touchV, idsOf, mapId, touchB, p_buildSlice, buildSliceV, reps, fillV, p_convert, p_slice, evO, p_makeSlice, sid_some, soff_some, Nat.reduceLT, Nat.reduceLeDiff, Nat.reduceEqDiff, Nat.reduceAdd, Nat.reduceMul, Int.reduceBEq, Int.reduceEq, Int.reduceNeg, Int.reduceLT, Int.reduceLE, Int.reduceAdd, Int.reduceSub, Int.reduceMul, Int.reduceToNat, Int.reduceGT, Nat.reduceBEq, Nat.reducePow, Nat.reduceGT, reduceCtorEq, ↓reduceIte]
    exact ⟨_, rfl, .inl ⟨fun v => absurd (hv.2 v) (by simp), rfl⟩⟩
  have v := hv.1 rfl
  by_cases h1 : i < 0
  · simp -dsimp (disch := first | with_reducible assumption | omega | (intro h_; cases h_; done) | (simp only [LN] <;> omega) | (simp only [LF]; done) | (repeat (first | with_reducible assumption | apply Ext.refl | apply Ext.app | (apply Ext.set <;> omega) | (refine Ext.trans ?_ (by assumption))))) only [AX, TY, gV, dstOf, p_makeFunc, p_mapUpdate, mapPut, entsOf, p_lookup, p_extract, p_nilCheck, oneV, p_load, p_store, p_binOp, p_unOp, p_indexAddr, p_index, p_box, p_build, evParts, builtinV, load1, ldc, splice, minds, disj, rcOf, isCall, touchV, idsOf, mapId, touchB, p_buildSlice, buildSliceV, reps, fillV, p_convert, p_slice, evO, p_makeSlice, sid_some, soff_some, Nat.reduceLT, Nat.reduceLeDiff, Nat.reduceEqDiff, Nat.reduceAdd, Nat.reduceMul, Int.reduceBEq, Int.reduceEq, Int.reduceNeg, Int.reduceLT, Int.reduceLE, Int.reduceAdd, Int.reduceSub, Int.reduceMul, Int.reduceToNat, Int.reduceGT, Nat.reduceBEq, Nat.reducePow, Nat.reduceGT, reduceCtorEq, ↓reduceIte, h1]
    exact ⟨_, rfl, .inr (.inl ⟨v, by omega, rfl⟩)⟩
  simp -dsimp (disch := first | with_reducible assumption | omega | (intro h_; cases h_; done) | (simp only [LN] <;> omega) | (simp only [LF]; done) | (repeat (first | with_reducible assumption | apply Ext.refl | apply Ext.app | (apply Ext.set <;> omega) | (refine Ext.trans ?_ (by assumption))))) only [AX, TY, gV, dstOf, p_makeFunc, p_mapUpdate, mapPut, entsOf, p_lookup, p_extract, p_nilCheck, oneV, p_load, p_store, p_binOp, p_unOp, p_indexAddr, p_index, p_box, p_build, evParts, builtinV, load1, ldc, splice, minds, disj, rcOf, isCall, touchV, idsOf, mapId, touchB, p_buildSlice, buildSliceV, reps, fillV, p_convert, p_slice, evO, p_makeSlice, sid_some, soff_some, Nat.reduceLT, Nat.reduceLeDiff, Nat.reduceEqDiff, Nat.reduceAdd, Nat.reduceMul, Int.reduceBEq, Int.reduceEq, Int.reduceNeg, Int.reduceLT, Int.reduceLE, Int.reduceAdd, Int.reduceSub, Int.reduceMul, Int.reduceToNat, Int.reduceGT, Nat.reduceBEq, Nat.reducePow, Nat.reduceGT, reduceCtorEq, ↓reduceIte, h1]
  refine (count_ok hr hb).mono ?_
  rintro _ _ ⟨rfl, n, rfl, hn, _⟩
  obtain rfl := hn v
  by_cases h2 : num l 1 ≤ i
  · simp -dsimp (disch := first | with_reducible assumption | omega | (intro h_; cases h_; done) | (simp only [LN] <;> omega) | (simp only [LF]; done) | (repeat (first | with_reducible assumption | apply Ext.refl | apply Ext.app | (apply Ext.set <;> omega) | (refine Ext.trans ?_ (by assumption))))) only [AX, TY, gV, dstOf, p_makeFunc, p_mapUpdate, mapPut, entsOf, p_lookup, p_extract, p_nilCheck, oneV, p_load, p_store, p_binOp, p_unOp, p_indexAddr, p_index, p_box, p_build, evParts, builtinV, load1, ldc, splice, minds, disj, rcOf, isCall, touchV, idsOf, mapId, touchB, p_buildSlice, buildSliceV, reps, fillV, p_convert, p_slice, evO, p_makeSlice, sid_some, soff_some, Nat.reduceLT, Nat.reduceLeDiff, Nat.reduceEqDiff, Nat.reduceAdd, Nat.reduceMul, Int.reduceBEq, Int.reduceEq, Int.reduceNeg, Int.reduceLT, Int.reduceLE, Int.reduceAdd, Int.reduceSub, Int.reduceMul, Int.reduceToNat, Int.reduceGT, Nat.reduceBEq, Nat.reducePow, Nat.reduceGT, reduceCtorEq, ↓reduceIte, eq_true h2]
    exact ⟨_, rfl, .inr (.inl ⟨v, by omega, rfl⟩)⟩
  · simp -dsimp (disch := first | with_reducible assumption | omega | (intro h_; cases h_; done) | (simp only [LN] <;> omega) | (simp only [LF]; done) | (repeat (first | with_reducible assumption | apply Ext.refl | apply Ext.app | (apply Ext.set <;> omega) | (refine Ext.trans ?_ (by assumption))))) only [AX, TY, gV, dstOf, p_makeFunc, p_mapUpdate, mapPut, entsOf, p_lookup, p_extract, p_nilCheck, oneV, p_load, p_store, p_binOp, p_unOp, p_indexAddr, p_index, p_box, p_build, evParts, builtinV, load1, ldc, splice, minds, disj, rcOf, isCall, touchV, idsOf, mapId, touchB, p_buildSlice, buildSliceV, reps, fillV, p_convert, p_slice, evO, p_makeSlice, sid_some, soff_some, Nat.reduceLT, Nat.reduceLeDiff, Nat.reduceEqDiff, Nat.reduceAdd, Nat.reduceMul, Int.reduceBEq, Int.reduceEq, Int.reduceNeg, Int.reduceLT, Int.reduceLE, Int.reduceAdd, Int.reduceSub, Int.reduceMul, Int.reduceToNat, Int.reduceGT, Nat.reduceBEq, Nat.reducePow, Nat.reduceGT, reduceCtorEq, ↓reduceIte, h2]
    exact ⟨_, rfl, .inr (.inr ⟨v, by omega, by omega, rfl⟩)⟩
theorem replace_ok {h : Heap} {p pc : Option (Nat × Nat)} {c cc : Option Nat} {l cell : List Int} (hr : Rs h p c 1 eb l) (hb : Bytes l) (hc : Sl h pc 1 eb cell) (hcl : cell.length ≤ 100000) (i : Int) :
    WR (callE Try.prog hk 33 [.slice p l.length c, .int .i64 i, .slice pc cell.length cc] h) fun r h' => Ext h h' ∧ UpR h h' l i (num l 1 - 1) (repC l cell) r := by
  refine WR.call (hH := rfl) Try.func33 rfl (n := 24) rfl rfl (by simp) ?_
  simp -dsimp (disch := first | with_reducible assumption | omega | (intro h_; cases h_; done) | (simp only [LN] <;> omega) | (simp only [LF]; done) | (repeat (first | with_reducible assumption | apply Ext.refl | apply Ext.app | (apply Ext.set <;> omega) | (refine Ext.trans ?_ (by assumption))))) only [AX, TY, gV, dstOf, p_makeFunc, p_mapUpdate, mapPut, entsOf, p_lookup, p_extract, p_nilCheck, oneV, p_load, p_store, p_binOp, p_unOp, p_indexAddr, p_index, p_box, p_build, evParts, builtinV, load1, ldc, splice, minds, disj, rcOf, isCall, touchV, idsOf, mapId, touchB, p_buildSlice, buildSliceV, reps, fillV, p_convert, p_slice, evO, p_makeSlice, sid_some, soff_some, Nat.reduceLT, Nat.reduceLeDiff, Nat.reduceEqDiff, Nat.reduceAdd, Nat.reduceMul, Int.reduceBEq, Int.reduceEq, Int.reduceNeg, Int.reduceLT, Int.reduceLE, Int.reduceAdd, Int.reduceSub, Int.reduceMul, Int.reduceToNat, Int.reduceGT, Nat.reduceBEq, Nat.reducePow, Nat.reduceGT, reduceCtorEq, ↓reduceIte]
  refine (exists_ok hr hb i).mono ?_
  rintro _ _ ⟨rfl, e, rfl, he⟩
  rcases he with ⟨v, rfl⟩ | ⟨v, h1, rfl⟩ | ⟨v, h0, h1, rfl⟩
  · simp -dsimp (disch := first | with_reducible assumption | omega | (intro h_; cases h_; done) | (simp only [LN] <;> omega) | (simp only [LF]; done) | (repeat (first | with_reducible assumption | apply Ext.refl | apply Ext.app | (apply Ext.set <;> omega) | (refine Ext.trans ?_ (by assumption))))) only [AX, TY, gV, dstOf, p_makeFunc, p_mapUpdate, mapPut, entsOf, p_lookup, p_extract, p_nilCheck, oneV, p_load, p_store, p_binOp, p_unOp, p_indexAddr, p_index, p_box, p_build, evParts, builtinV, load1, ldc, splice, minds, disj, rcOf, isCall, touchV, idsOf, mapId, touchB, p_buildSlice, buildSliceV, reps, fillV, p_convert, p_slice, evO, p_makeSlice, sid_some, soff_some, Nat.reduceLT, Nat.reduceLeDiff, Nat.reduceEqDiff, Nat.reduceAdd, Nat.reduceMul, Int.reduceBEq, Int.reduceEq, Int.reduceNeg, Int.reduceLT, Int.reduceLE, Int.reduceAdd, Int.reduceSub, Int.reduceMul, Int.reduceToNat, Int.reduceGT, Nat.reduceBEq, Nat.reducePow, Nat.reduceGT, reduceCtorEq, ↓reduceIte]
    exact ⟨.refl _, .inl ⟨v, rfl⟩⟩
  · simp -dsimp (disch := first | with_reducible assumption | omega | (intro h_; cases h_; done) | (simp only [LN] <;> omega) | (simp only [LF]; done) | (repeat (first | with_reducible assumption | apply Ext.refl | apply Ext.app | (apply Ext.set <;> omega) | (refine Ext.trans ?_ (by assumption))))) only [AX, TY, gV, dstOf, p_makeFunc, p_mapUpdate, mapPut, entsOf, p_lookup, p_extract, p_nilCheck, oneV, p_load, p_store, p_binOp, p_unOp, p_indexAddr, p_index, p_box, p_build, evParts, builtinV, load1, ldc, splice, minds, disj, rcOf, isCall, touchV, idsOf, mapId, touchB, p_buildSlice, buildSliceV, reps, fillV, p_convert, p_slice, evO, p_makeSlice, sid_some, soff_some, Nat.reduceLT, Nat.reduceLeDiff, Nat.reduceEqDiff, Nat.reduceAdd, Nat.reduceMul, Int.reduceBEq, Int.reduceEq, Int.reduceNeg, Int.reduceLT, Int.reduceLE, Int.reduceAdd, Int.reduceSub, Int.reduceMul, Int.reduceToNat, Int.reduceGT, Nat.reduceBEq, Nat.reducePow, Nat.reduceGT, reduceCtorEq, ↓reduceIte]
    exact ⟨.refl _, .inr (.inl ⟨v, h1, rfl⟩)⟩
  obtain ⟨k, rfl⟩ : ∃ k : Nat, i = (k : Int) := ⟨i.toNat, by omega⟩
  have hsl := v.slots
  have hw : IntKind.i64.wrap ((k : Int) + 1) = ((k + 1 : Nat) : Int) := by rw [IntKind.wrap_i64]; omega
  have ex : Ext h (h ++ [O.cells [V.slice pc cell.length cc] Kd.rw]) := (by (repeat (first | assumption | apply Ext.refl | apply Ext.app | (apply Ext.set <;> omega) | exact Ext.trans (by assumption) (by assumption) | (refine Ext.trans ?_ (by assumption)))))
  have hvc : VCl (h ++ [O.cells [V.slice pc cell.length cc] Kd.rw]) (some (h.length, 0)) (some 1) [⟨pc, cc, cell⟩] := ⟨.inr ⟨h.length, rfl, snoc_last _ rfl, by simp⟩, fun y hy => by simp only [List.mem_singleton] at hy; subst hy; exact Sl.ext hc ex, fun y hy => by simp only [List.mem_singleton] at hy; subst hy; exact hcl⟩
  simp -dsimp (disch := first | with_reducible assumption | omega | (intro h_; cases h_; done) | (simp only [LN] <;> omega) | (simp only [LF]; done) | (repeat (first | with_reducible assumption | apply Ext.refl | apply Ext.app | (apply Ext.set <;> omega) | (refine Ext.trans ?_ (by assumption))))) only [AX, TY, gV, dstOf, p_makeFunc, p_mapUpdate, mapPut, entsOf, p_lookup, p_extract, p_nilCheck, oneV, p_load, p_store, p_binOp, p_unOp, p_indexAddr, p_index, p_box, p_build, evParts, builtinV, load1, ldc, splice, minds, disj, rcOf, isCall, touchV, idsOf, mapId, touchB, p_buildSlice, buildSliceV, reps, fillV, p_convert, p_slice, evO, p_makeSlice, sid_some, soff_some, Nat.reduceLT, Nat.reduceLeDiff, Nat.reduceEqDiff, Nat.reduceAdd, Nat.reduceMul, Int.reduceBEq, Int.reduceEq, Int.reduceNeg, Int.reduceLT, Int.reduceLE, Int.reduceAdd, Int.reduceSub, Int.reduceMul, Int.reduceToNat, Int.reduceGT, Nat.reduceBEq, Nat.reducePow, Nat.reduceGT, reduceCtorEq, ↓reduceIte, hw]
  refine (edit_ok (hr.ext ex) hb v hvc (i := k) (j := k + 1) (.inr ⟨by omega, by simp⟩) (by omega) (by simp)).mono ?_
  skip
  rintro r h3 ⟨e3, hB⟩
  have hB' := BuildR.base ex hB
  have e03 := Ext.trans ex e3
  rcases hB with ⟨a1, a2, q, rfl, a4, a5⟩ | ⟨a1, a2, rfl⟩ | ⟨a1, rfl⟩
  all_goals
    simp -dsimp (disch := first | with_reducible assumption | omega | (intro h_; cases h_; done) | (simp only [LN] <;> omega) | (simp only [LF]; done) | (repeat (first | with_reducible assumption | apply Ext.refl | apply Ext.app | (apply Ext.set <;> omega) | (refine Ext.trans ?_ (by assumption))))) only [AX, TY, gV, dstOf, p_makeFunc, p_mapUpdate, mapPut, entsOf, p_lookup, p_extract, p_nilCheck, oneV, p_load, p_store, p_binOp, p_unOp, p_indexAddr, p_index, p_box, p_build, evParts, builtinV, load1, ldc, splice, minds, disj, rcOf, isCall, touchV, idsOf, mapId, touchB, p_buildSlice, buildSliceV, reps, fillV, p_convert, p_slice, evO, p_makeSlice, sid_some, soff_some, Nat.reduceLT, Nat.reduceLeDiff, Nat.reduceEqDiff, Nat.reduceAdd, Nat.reduceMul, Int.reduceBEq, Int.reduceEq, Int.reduceNeg, Int.reduceLT, Int.reduceLE, Int.reduceAdd, Int.reduceSub, Int.reduceMul, Int.reduceToNat, Int.reduceGT, Nat.reduceBEq, Nat.reducePow, Nat.reduceGT, reduceCtorEq, ↓reduceIte]
    exact ⟨e03, .inr (.inr ⟨v, k, rfl, by omega, hB'⟩)⟩
theorem remove_ok {h : Heap} {p : Option (Nat × Nat)} {c : Option Nat} {l : List Int} (hr : Rs h p c 1 eb l) (hb : Bytes l) (i : Int) :
    WR (callE Try.prog hk 34 [.slice p l.length c, .int .i64 i] h) fun r h' => Ext h h' ∧ UpR h h' l i (num l 1 - 1) (remC l) r := by
  refine WR.call (hH := rfl) Try.func34 rfl (n := 20) rfl rfl (by simp) ?_
  simp -dsimp (disch := first | with_reducible assumption | omega | (intro h_; cases h_; done) | (simp only [LN] <;> omega) | (simp only [LF]; done) | (repeat (first | with_reducible assumption | apply Ext.refl | apply Ext.app | (apply Ext.set <;> omega) | (refine Ext.trans ?_ (by assumption))))) only [AX, TY, gV, dstOf, p_makeFunc, p_mapUpdate, mapPut, entsOf, p_lookup, p_extract, p_nilCheck, oneV, p_load, p_store, p_binOp, p_unOp, p_indexAddr, p_index, p_box, p_build, evParts, builtinV, load1, ldc, splice, minds, disj, rcOf, isCall, touchV, idsOf, mapId, touchB, p_buildSlice, buildSliceV, reps, fillV, p_convert, p_slice, evO, p_makeSlice, sid_some, soff_some, Nat.reduceLT, Nat.reduceLeDiff, Nat.reduceEqDiff, Nat.reduceAdd, Nat.reduceMul, Int.reduceBEq, Int.reduceEq, Int.reduceNeg, Int.reduceLT, Int.reduceLE, Int.reduceAdd, Int.reduceSub, Int.reduceMul, Int.reduceToNat, Int.reduceGT, Nat.reduceBEq, Nat.reducePow, Nat.reduceGT, reduceCtorEq, ↓reduceIte]
  refine (exists_ok hr hb i).mono ?_
  rintro _ _ ⟨rfl, e, rfl, he⟩
  rcases he with ⟨v, rfl⟩ | ⟨v, h1, rfl⟩ | ⟨v, h0, h1, rfl⟩
  · simp -dsimp (disch := first | with_reducible assumption | omega | (intro h_; cases h_; done) | (simp only [LN] <;> omega) | (simp only [LF]; done) | (repeat (first | with_reducible assumption | apply Ext.refl | apply Ext.app | (apply Ext.set <;> omega) | (refine Ext.trans ?_ (by assumption))))) only [AX, TY, gV, dstOf, p_makeFunc, p_mapUpdate, mapPut, entsOf, p_lookup, p_extract, p_nilCheck, oneV, p_load, p_store, p_binOp, p_unOp, p_indexAddr, p_index, p_box, p_build, evParts, builtinV, load1, ldc, splice, minds, disj, rcOf, isCall, touchV, idsOf, mapId, touchB, p_buildSlice, buildSliceV, reps, fillV, p_convert, p_slice, evO, p_makeSlice, sid_some, soff_some, Nat.reduceLT, Nat.reduceLeDiff, Nat.reduceEqDiff, Nat.reduceAdd, Nat.reduceMul, Int.reduceBEq, Int.reduceEq, Int.reduceNeg, Int.reduceLT, Int.reduceLE, Int.reduceAdd, Int.reduceSub, Int.reduceMul, Int.reduceToNat, Int.reduceGT, Nat.reduceBEq, Nat.reducePow, Nat.reduceGT, reduceCtorEq, ↓reduceIte]
    exact ⟨.refl _, .inl ⟨v, rfl⟩⟩
  · simp -dsimp (disch := first | with_reducible assumption | omega | (intro h_; cases h_; done) | (simp only [LN] <;> omega) | (simp only [LF]; done) | (repeat (first | with_reducible assumption | apply Ext.refl | apply Ext.app | (apply Ext.set <;> omega) | (refine Ext.trans ?_ (by assumption))))) only [AX, TY, gV, dstOf, p_makeFunc, p_mapUpdate, mapPut, entsOf, p_lookup, p_extract, p_nilCheck, oneV, p_load, p_store, p_binOp, p_unOp, p_indexAddr, p_index, p_box, p_build, evParts, builtinV, load1, ldc, splice, minds, disj, rcOf, isCall, touchV, idsOf, mapId, touchB, p_buildSlice, buildSliceV, reps, fillV, p_convert, p_slice, evO, p_makeSlice, sid_some, soff_some, Nat.reduceLT, Nat.reduceLeDiff, Nat.reduceEqDiff, Nat.reduceAdd, Nat.reduceMul, Int.reduceBEq, Int.reduceEq, Int.reduceNeg, Int.reduceLT, Int.reduceLE, Int.reduceAdd, Int.reduceSub, Int.reduceMul, Int.reduceToNat, Int.reduceGT, Nat.reduceBEq, Nat.reducePow, Nat.reduceGT, reduceCtorEq, ↓reduceIte]
    exact ⟨.refl _, .inr (.inl ⟨v, h1, rfl⟩)⟩
  obtain ⟨k, rfl⟩ : ∃ k : Nat, i = (k : Int) := ⟨i.toNat, by omega⟩
  have hsl := v.slots
  have hw : IntKind.i64.wrap ((k : Int) + 1) = ((k + 1 : Nat) : Int) := by rw [IntKind.wrap_i64]; omega
  have hvc : VCl h none (some 0) [] := ⟨.inl ⟨rfl, rfl, rfl⟩, fun y hy => (by cases hy), fun y hy => (by cases hy)⟩
  simp -dsimp (disch := first | with_reducible assumption | omega | (intro h_; cases h_; done) | (simp only [LN] <;> omega) | (simp only [LF]; done) | (repeat (first | with_reducible assumption | apply Ext.refl | apply Ext.app | (apply Ext.set <;> omega) | (refine Ext.trans ?_ (by assumption))))) only [AX, TY, gV, dstOf, p_makeFunc, p_mapUpdate, mapPut, entsOf, p_lookup, p_extract, p_nilCheck, oneV, p_load, p_store, p_binOp, p_unOp, p_indexAddr, p_index, p_box, p_build, evParts, builtinV, load1, ldc, splice, minds, disj, rcOf, isCall, touchV, idsOf, mapId, touchB, p_buildSlice, buildSliceV, reps, fillV, p_convert, p_slice, evO, p_makeSlice, sid_some, soff_some, Nat.reduceLT, Nat.reduceLeDiff, Nat.reduceEqDiff, Nat.reduceAdd, Nat.reduceMul, Int.reduceBEq, Int.reduceEq, Int.reduceNeg, Int.reduceLT, Int.reduceLE, Int.reduceAdd, Int.reduceSub, Int.reduceMul, Int.reduceToNat, Int.reduceGT, Nat.reduceBEq, Nat.reducePow, Nat.reduceGT, reduceCtorEq, ↓reduceIte, hw]
  refine (edit_ok hr hb v hvc (i := k) (j := k + 1) (.inr ⟨by omega, by simp⟩) (by omega) (by simp)).mono ?_
  skip
  rintro r h3 ⟨e3, hB⟩
  have hB' := BuildR.base (.refl h) hB
  have e03 := Ext.trans (.refl h) e3
  rcases hB with ⟨a1, a2, q, rfl, a4, a5⟩ | ⟨a1, a2, rfl⟩ | ⟨a1, rfl⟩
  all_goals
    simp -dsimp (disch := first | with_reducible assumption | omega | (intro h_; cases h_; done) | (simp only [LN] <;> omega) | (simp only [LF]; done) | (repeat (first | with_reducible assumption | apply Ext.refl | apply Ext.app | (apply Ext.set <;> omega) | (refine Ext.trans ?_ (by assumption))))) only [AX, TY, gV, dstOf, p_makeFunc, p_mapUpdate, mapPut, entsOf, p_lookup, p_extract, p_nilCheck, oneV, p_load, p_store, p_binOp, p_unOp, p_indexAddr, p_index, p_box, p_build, evParts, builtinV, load1, ldc, splice, minds, disj, rcOf, isCall, touchV, idsOf, mapId, touchB, p_buildSlice, buildSliceV, reps, fillV, p_convert, p_slice, evO, p_makeSlice, sid_some, soff_some, Nat.reduceLT, Nat.reduceLeDiff, Nat.reduceEqDiff, Nat.reduceAdd, Nat.reduceMul, Int.reduceBEq, Int.reduceEq, Int.reduceNeg, Int.reduceLT, Int.reduceLE, Int.reduceAdd, Int.reduceSub, Int.reduceMul, Int.reduceToNat, Int.reduceGT, Nat.reduceBEq, Nat.reducePow, Nat.reduceGT, reduceCtorEq, ↓reduceIte]
    exact ⟨e03, .inr (.inr ⟨v, k, rfl, by omega, hB'⟩)⟩
theorem same_ok {h : Heap} {p q : Option (Nat × Nat)} {c d : Option Nat} {x y : List Int} (hx : Sl h p 1 eb x) (hy : Sl h q 1 eb y) (bx : Bytes x) (by' : Bytes y) : WR (callE Try.prog hk 15 [.slice p x.length c, .slice q y.length d] h) fun r h' => h = h' ∧ r = .bool (decide (x = y)) := by
  have h1 := cv_25_9 (c := c) hx (.refl h) (fun b hb => by have := bx b hb; omega)
  have h2 := cv_25_9 (c := d) hy (.refl h) (fun b hb => by have := by' b hb; omega)
  refine WR.call (hH := rfl) Try.func15 rfl (n := 10) rfl rfl (by simp) ?_
  simp -dsimp (disch := first | with_reducible assumption | omega | (intro h_; cases h_; done) | (simp only [LN] <;> omega) | (simp only [LF]; done) | (repeat (first | with_reducible assumption | apply Ext.refl | apply Ext.app | (apply Ext.set <;> omega) | (refine Ext.trans ?_ (by assumption))))) only [AX, TY, gV, dstOf, p_makeFunc, p_mapUpdate, mapPut, entsOf, p_lookup, p_extract, p_nilCheck, oneV, p_load, p_store, p_binOp, p_unOp, p_indexAddr, p_index, p_box, p_build, evParts, builtinV, load1, ldc, splice, minds, disj, rcOf, isCall, touchV, idsOf, mapId, touchB, p_buildSlice, buildSliceV, reps, fillV, p_convert, p_slice, evO, p_makeSlice, sid_some, soff_some, Nat.reduceLT, Nat.reduceLeDiff, Nat.reduceEqDiff, Nat.reduceAdd, Nat.reduceMul, Int.reduceBEq, Int.reduceEq, Int.reduceNeg, Int.reduceLT, Int.reduceLE, Int.reduceAdd, Int.reduceSub, Int.reduceMul, Int.reduceToNat, Int.reduceGT, Nat.reduceBEq, Nat.reducePow, Nat.reduceGT, reduceCtorEq, ↓reduceIte, h1, h2]
theorem list_ok {h : Heap} {p q : Option (Nat × Nat)} {c d : Option Nat} {x y : List Cl} (hx : Sl h p 1 Cl.enc x) (hy : Sl h q 1 Cl.enc y) (cx : ∀ z ∈ x, COK h z ∧ Bytes z.bs) (cy : ∀ z ∈ y, COK h z ∧ Bytes z.bs) (he : x.map Cl.bs = y.map Cl.bs) : WR (callE Try.prog hk 26 [.slice p x.length c, .slice q y.length d] h) fun r h' => h = h' ∧ r = .bool true := by
  have hl : y.length = x.length := by have := congrArg List.length he; simp only [List.length_map] at this; exact this.symm
  have hnx := hx.nil'
  have hny := hy.nil'
  have hsx := hx.small
  refine WR.call (hH := rfl) Try.func26 rfl (n := 27) rfl rfl (by simp) ?_
  rw [hl] at hny ⊢
  simp -dsimp (disch := first | with_reducible assumption | omega | (intro h_; cases h_; done) | (simp only [LN] <;> omega) | (simp only [LF]; done) | (repeat (first | with_reducible assumption | apply Ext.refl | apply Ext.app | (apply Ext.set <;> omega) | (refine Ext.trans ?_ (by assumption))))) only [AX, TY, gV, dstOf, p_makeFunc, p_mapUpdate, mapPut, entsOf, p_lookup, p_extract, p_nilCheck, oneV, p_load, p_store, p_binOp, p_unOp, p_indexAddr, p_index, p_box, p_build, evParts, builtinV, load1, ldc, splice, minds, disj, rcOf, isCall, touchV, idsOf, mapId, touchB, p_buildSlice, buildSliceV, reps, fillV, p_convert, p_slice, evO, p_makeSlice, sid_some, soff_some, Nat.reduceLT, Nat.reduceLeDiff, Nat.reduceEqDiff, Nat.reduceAdd, Nat.reduceMul, Int.reduceBEq, Int.reduceEq, Int.reduceNeg, Int.reduceLT, Int.reduceLE, Int.reduceAdd, Int.reduceSub, Int.reduceMul, Int.reduceToNat, Int.reduceGT, Nat.reduceBEq, Nat.reducePow, Nat.reduceGT, reduceCtorEq, ↓reduceIte]
  refine W.loop (fun m τ hh => h = hh ∧ ∃ i : Nat, m + i = x.length ∧ τ 0 = .slice p x.length c ∧ τ 1 = .slice q x.length d ∧ τ 5 = .int .i64 i) ?_ (m := x.length) ?_
  rotate_left
  · exact ⟨rfl, 0, by simp, rfl, rfl, rfl⟩
  rintro m τ _ ⟨rfl, i, hm, t0, t1, t5⟩
  by_cases h1 : (i : Int) < (x.length : Int)
  · have hi : i < x.length := by omega
    have hi2 : i < y.length := by omega
    have l0 := fun hh e => hx.load0 (hh := hh) e hi (m := 1) (Nat.le_refl 1)
    have l1 := fun hh e => hy.load0 (hh := hh) e hi2 (m := 1) (Nat.le_refl 1)
    have cx0 := cx _ (List.getElem_mem hi)
    have cy0 := cy _ (List.getElem_mem hi2)
    have hbs : x[i].bs = y[i].bs := by
      have h1 := getD_bs hi
      have h2 := getD_bs hi2
      rw [he] at h1
      exact h1.symm.trans h2
    generalize x[i] = u at *
    generalize y[i] = w at *
    simp only [Cl.enc] at l0 l1
    have hsm := same_ok (c := u.c) (d := w.c) cx0.1 cy0.1 cx0.2 cy0.2
    simp -dsimp (disch := first | with_reducible assumption | omega | (intro h_; cases h_; done) | (simp only [LN] <;> omega) | (simp only [LF]; done) | (repeat (first | with_reducible assumption | apply Ext.refl | apply Ext.app | (apply Ext.set <;> omega) | (refine Ext.trans ?_ (by assumption))))) only [AX, TY, gV, dstOf, p_makeFunc, p_mapUpdate, mapPut, entsOf, p_lookup, p_extract, p_nilCheck, oneV, p_load, p_store, p_binOp, p_unOp, p_indexAddr, p_index, p_box, p_build, evParts, builtinV, load1, ldc, splice, minds, disj, rcOf, isCall, touchV, idsOf, mapId, touchB, p_buildSlice, buildSliceV, reps, fillV, p_convert, p_slice, evO, p_makeSlice, sid_some, soff_some, Nat.reduceLT, Nat.reduceLeDiff, Nat.reduceEqDiff, Nat.reduceAdd, Nat.reduceMul, Int.reduceBEq, Int.reduceEq, Int.reduceNeg, Int.reduceLT, Int.reduceLE, Int.reduceAdd, Int.reduceSub, Int.reduceMul, Int.reduceToNat, Int.reduceGT, Nat.reduceBEq, Nat.reducePow, Nat.reduceGT, reduceCtorEq, ↓reduceIte, t0, t1, t5, h1]
    refine W.drawn [(0, []), (1, [0]), (2, []), (3, []), (4, [3, 2, 1, 0]), (5, [4, 3, 2, 1, 0]), (6, [3, 2, 1, 0]), (7, [3, 2, 1, 0]), (8, []), (9, [])] (by decide +kernel) ?_
    simp -dsimp (disch := first | with_reducible assumption | omega | (intro h_; cases h_; done) | (simp only [LN] <;> omega) | (simp only [LF]; done) | (repeat (first | with_reducible assumption | apply Ext.refl | apply Ext.app | (apply Ext.set <;> omega) | (refine Ext.trans ?_ (by assumption))))) only [AX, TY, gV, dstOf, p_makeFunc, p_mapUpdate, mapPut, entsOf, p_lookup, p_extract, p_nilCheck, oneV, p_load, p_store, p_binOp, p_unOp, p_indexAddr, p_index, p_box, p_build, evParts, builtinV, load1, ldc, splice, minds, disj, rcOf, isCall, touchV, idsOf, mapId, touchB, p_buildSlice, buildSliceV, reps, fillV, p_convert, p_slice, evO, p_makeSlice, sid_some, soff_some, Nat.reduceLT, Nat.reduceLeDiff, Nat.reduceEqDiff, Nat.reduceAdd, Nat.reduceMul, Int.reduceBEq, Int.reduceEq, Int.reduceNeg, Int.reduceLT, Int.reduceLE, Int.reduceAdd, Int.reduceSub, Int.reduceMul, Int.reduceToNat, Int.reduceGT, Nat.reduceBEq, Nat.reducePow, Nat.reduceGT, reduceCtorEq, ↓reduceIte, t0, t1, t5, h1, l0, l1]
    refine hsm.mono ?_
    rintro _ _ ⟨rfl, rfl⟩
    simp -dsimp (disch := first | with_reducible assumption | omega | (intro h_; cases h_; done) | (simp only [LN] <;> omega) | (simp only [LF]; done) | (repeat (first | with_reducible assumption | apply Ext.refl | apply Ext.app | (apply Ext.set <;> omega) | (refine Ext.trans ?_ (by assumption))))) only [AX, TY, gV, dstOf, p_makeFunc, p_mapUpdate, mapPut, entsOf, p_lookup, p_extract, p_nilCheck, oneV, p_load, p_store, p_binOp, p_unOp, p_indexAddr, p_index, p_box, p_build, evParts, builtinV, load1, ldc, splice, minds, disj, rcOf, isCall, touchV, idsOf, mapId, touchB, p_buildSlice, buildSliceV, reps, fillV, p_convert, p_slice, evO, p_makeSlice, sid_some, soff_some, Nat.reduceLT, Nat.reduceLeDiff, Nat.reduceEqDiff, Nat.reduceAdd, Nat.reduceMul, Int.reduceBEq, Int.reduceEq, Int.reduceNeg, Int.reduceLT, Int.reduceLE, Int.reduceAdd, Int.reduceSub, Int.reduceMul, Int.reduceToNat, Int.reduceGT, Nat.reduceBEq, Nat.reducePow, Nat.reduceGT, reduceCtorEq, ↓reduceIte, t0, t1, t5, eq_true hbs, wrap_in]
    exact ⟨m - 1, by omega, i + 1, by omega, by simp⟩
  · simp -dsimp (disch := first | with_reducible assumption | omega | (intro h_; cases h_; done) | (simp only [LN] <;> omega) | (simp only [LF]; done) | (repeat (first | with_reducible assumption | apply Ext.refl | apply Ext.app | (apply Ext.set <;> omega) | (refine Ext.trans ?_ (by assumption))))) only [AX, TY, gV, dstOf, p_makeFunc, p_mapUpdate, mapPut, entsOf, p_lookup, p_extract, p_nilCheck, oneV, p_load, p_store, p_binOp, p_unOp, p_indexAddr, p_index, p_box, p_build, evParts, builtinV, load1, ldc, splice, minds, disj, rcOf, isCall, touchV, idsOf, mapId, touchB, p_buildSlice, buildSliceV, reps, fillV, p_convert, p_slice, evO, p_makeSlice, sid_some, soff_some, Nat.reduceLT, Nat.reduceLeDiff, Nat.reduceEqDiff, Nat.reduceAdd, Nat.reduceMul, Int.reduceBEq, Int.reduceEq, Int.reduceNeg, Int.reduceLT, Int.reduceLE, Int.reduceAdd, Int.reduceSub, Int.reduceMul, Int.reduceToNat, Int.reduceGT, Nat.reduceBEq, Nat.reducePow, Nat.reduceGT, reduceCtorEq, ↓reduceIte, t0, t1, t5, h1]
def awP : List Int := layoutS 1 [[97, 98], [99]]
theorem awP_len : awP.length = 1024 := by decide +kernel
theorem awP_b : Bytes awP := bytes_layout 1 (by decide) _ (by intro c hc; simp only [List.mem_cons, List.not_mem_nil, or_false] at hc; rcases hc with rfl | rfl <;> (intro x hx; simp at hx; omega))
theorem awP_0 : awP[0]? = some 1 := by decide +kernel
theorem awP_1 : awP[1]? = some 0 := by decide +kernel
theorem awP_2 : awP[2]? = some 2 := by decide +kernel
theorem awP_3 : awP[3]? = some 3 := by decide +kernel
theorem awP_4 : awP[4]? = some 250 := by decide +kernel
theorem awP_5 : awP[5]? = some 3 := by decide +kernel
theorem awP_6 : awP[6]? = some 249 := by decide +kernel
theorem awake_ok {h : Heap} : WR (callE Try.prog hk 11 [] h) fun r h' => Ext h h' ∧ r = .bool true := by
  refine WR.call (hH := rfl) Try.func11 rfl (n := 72) rfl rfl (by simp) ?_
  simp -dsimp (disch := first | with_reducible assumption | omega | (intro h_; cases h_; done) | (simp only [LN] <;> omega) | (simp only [LF]; done) | (repeat (first | with_reducible assumption | apply Ext.refl | apply Ext.app | (apply Ext.set <;> omega) | (refine Ext.trans ?_ (by assumption))))) only [AX, TY, gV, dstOf, p_makeFunc, p_mapUpdate, mapPut, entsOf, p_lookup, p_extract, p_nilCheck, oneV, p_load, p_store, p_binOp, p_unOp, p_indexAddr, p_index, p_box, p_build, evParts, builtinV, load1, ldc, splice, minds, disj, rcOf, isCall, touchV, idsOf, mapId, touchB, p_buildSlice, buildSliceV, reps, fillV, p_convert, p_slice, evO, p_makeSlice, sid_some, soff_some, Nat.reduceLT, Nat.reduceLeDiff, Nat.reduceEqDiff, Nat.reduceAdd, Nat.reduceMul, Int.reduceBEq, Int.reduceEq, Int.reduceNeg, Int.reduceLT, Int.reduceLE, Int.reduceAdd, Int.reduceSub, Int.reduceMul, Int.reduceToNat, Int.reduceGT, Nat.reduceBEq, Nat.reducePow, Nat.reduceGT, reduceCtorEq, ↓reduceIte]
  have hb1 : (h ++ [O.cells [V.int .u8 97, V.int .u8 98] Kd.rw])[h.length]? = some (.cells [V.int .u8 97, V.int .u8 98] .rw) := snoc_last _ rfl
  have e1 : Ext h (h ++ [O.cells [V.int .u8 97, V.int .u8 98] Kd.rw]) := (by (repeat (first | assumption | apply Ext.refl | apply Ext.app | (apply Ext.set <;> omega) | exact Ext.trans (by assumption) (by assumption) | (refine Ext.trans ?_ (by assumption)))))
  have hcv1 := conv_ss (P := Try.prog) (t := 25) (e := 5) (off := 0) (len := 2) (n := 2) Try.underlying25 Try.underlying5 hb1 (by simp)
  have hl1 : (h ++ [O.cells [V.int .u8 97, V.int .u8 98] Kd.rw]).length = h.length + 1 := by simp
  generalize h ++ [O.cells [V.int .u8 97, V.int .u8 98] Kd.rw] = g1 at hb1 e1 hcv1 hl1
  simp -dsimp (disch := first | with_reducible assumption | omega | (intro h_; cases h_; done) | (simp only [LN] <;> omega) | (simp only [LF]; done) | (repeat (first | with_reducible assumption | apply Ext.refl | apply Ext.app | (apply Ext.set <;> omega) | (refine Ext.trans ?_ (by assumption))))) only [AX, TY, gV, dstOf, p_makeFunc, p_mapUpdate, mapPut, entsOf, p_lookup, p_extract, p_nilCheck, oneV, p_load, p_store, p_binOp, p_unOp, p_indexAddr, p_index, p_box, p_build, evParts, builtinV, load1, ldc, splice, minds, disj, rcOf, isCall, touchV, idsOf, mapId, touchB, p_buildSlice, buildSliceV, reps, fillV, p_convert, p_slice, evO, p_makeSlice, sid_some, soff_some, Nat.reduceLT, Nat.reduceLeDiff, Nat.reduceEqDiff, Nat.reduceAdd, Nat.reduceMul, Int.reduceBEq, Int.reduceEq, Int.reduceNeg, Int.reduceLT, Int.reduceLE, Int.reduceAdd, Int.reduceSub, Int.reduceMul, Int.reduceToNat, Int.reduceGT, Nat.reduceBEq, Nat.reducePow, Nat.reduceGT, reduceCtorEq, ↓reduceIte, hcv1]
  have gA0 : (g1.set h.length .dead ++ [O.cells [V.int .u8 97, V.int .u8 98] Kd.ro] ++ [O.cells [V.int .u8 99] Kd.rw])[g1.length]? = some (.cells [V.int .u8 97, V.int .u8 98] .ro) := by rw [snoc_old _ (by simp)]; exact snoc_last _ (by simp)
  have hb3 : (g1.set h.length .dead ++ [O.cells [V.int .u8 97, V.int .u8 98] Kd.ro] ++ [O.cells [V.int .u8 99] Kd.rw])[g1.length + 1]? = some (.cells [V.int .u8 99] .rw) := snoc_last _ (by simp)
  have e3 : Ext h (g1.set h.length .dead ++ [O.cells [V.int .u8 97, V.int .u8 98] Kd.ro] ++ [O.cells [V.int .u8 99] Kd.rw]) := ((Ext.set e1 (Nat.le_refl _) _).app _).app _
  have hl3 : (g1.set h.length .dead ++ [O.cells [V.int .u8 97, V.int .u8 98] Kd.ro] ++ [O.cells [V.int .u8 99] Kd.rw]).length = g1.length + 2 := by simp
  generalize g1.set h.length .dead ++ [O.cells [V.int .u8 97, V.int .u8 98] Kd.ro] ++ [O.cells [V.int .u8 99] Kd.rw] = g3 at *
  have hcv2 := conv_ss (P := Try.prog) (t := 25) (e := 5) (off := 0) (len := 1) (n := 1) Try.underlying25 Try.underlying5 hb3 (by simp)
  simp -dsimp (disch := first | with_reducible assumption | omega | (intro h_; cases h_; done) | (simp only [LN] <;> omega) | (simp only [LF]; done) | (repeat (first | with_reducible assumption | apply Ext.refl | apply Ext.app | (apply Ext.set <;> omega) | (refine Ext.trans ?_ (by assumption))))) only [AX, TY, gV, dstOf, p_makeFunc, p_mapUpdate, mapPut, entsOf, p_lookup, p_extract, p_nilCheck, oneV, p_load, p_store, p_binOp, p_unOp, p_indexAddr, p_index, p_box, p_build, evParts, builtinV, load1, ldc, splice, minds, disj, rcOf, isCall, touchV, idsOf, mapId, touchB, p_buildSlice, buildSliceV, reps, fillV, p_convert, p_slice, evO, p_makeSlice, sid_some, soff_some, Nat.reduceLT, Nat.reduceLeDiff, Nat.reduceEqDiff, Nat.reduceAdd, Nat.reduceMul, Int.reduceBEq, Int.reduceEq, Int.reduceNeg, Int.reduceLT, Int.reduceLE, Int.reduceAdd, Int.reduceSub, Int.reduceMul, Int.reduceToNat, Int.reduceGT, Nat.reduceBEq, Nat.reducePow, Nat.reduceGT, reduceCtorEq, ↓reduceIte, hcv2]
  have gA : (g3.set (g1.length + 1) .dead ++ [O.cells [V.int .u8 99] Kd.ro] ++ [O.cells [V.slice (some (g1.length, 0)) 2 (some 2), V.slice (some (g3.length, 0)) 1 (some 1)] Kd.rw])[g1.length]? = some (.cells [V.int .u8 97, V.int .u8 98] .ro) := by
    rw [snoc_old _ (by simp; omega), snoc_old _ (by simp; omega), List.getElem?_set_ne (by omega)]; exact gA0
  have gB : (g3.set (g1.length + 1) .dead ++ [O.cells [V.int .u8 99] Kd.ro] ++ [O.cells [V.slice (some (g1.length, 0)) 2 (some 2), V.slice (some (g3.length, 0)) 1 (some 1)] Kd.rw])[g3.length]? = some (.cells [V.int .u8 99] .ro) := by
    rw [snoc_old _ (by simp)]; exact snoc_last _ (by simp)
  have gC : (g3.set (g1.length + 1) .dead ++ [O.cells [V.int .u8 99] Kd.ro] ++ [O.cells [V.slice (some (g1.length, 0)) 2 (some 2), V.slice (some (g3.length, 0)) 1 (some 1)] Kd.rw])[g3.length + 1]? = some (.cells [V.slice (some (g1.length, 0)) 2 (some 2), V.slice (some (g3.length, 0)) 1 (some 1)] .rw) := snoc_last _ (by simp)
  have e5 : Ext h (g3.set (g1.length + 1) .dead ++ [O.cells [V.int .u8 99] Kd.ro] ++ [O.cells [V.slice (some (g1.length, 0)) 2 (some 2), V.slice (some (g3.length, 0)) 1 (some 1)] Kd.rw]) := ((Ext.set e3 (by omega) _).app _).app _
  generalize g3.set (g1.length + 1) .dead ++ [O.cells [V.int .u8 99] Kd.ro] ++ [O.cells [V.slice (some (g1.length, 0)) 2 (some 2), V.slice (some (g3.length, 0)) 1 (some 1)] Kd.rw] = g5 at *
  have hs5 : Sl g5 (some (g3.length + 1, 0)) 1 Cl.enc [⟨some (g1.length, 0), some 2, [97, 98]⟩, ⟨some (g3.length, 0), some 1, [99]⟩] := Sl.whole gC (cl_w _) rfl (by simp)
  refine (build_ok (c := some 2) hs5 (by
    intro y hy
    simp only [List.mem_cons, List.not_mem_nil, or_false] at hy
    rcases hy with rfl | rfl
    · exact Sl.whole gA (eb_w _) rfl (by simp)
    · exact Sl.whole gB (eb_w _) rfl (by simp)) 1 (by simp) (by
    intro y hy
    simp only [List.mem_cons, List.not_mem_nil, or_false] at hy
    rcases hy with rfl | rfl <;> simp)).mono ?_
  rintro r g6 ⟨e6, hB⟩
  have e06 := e5.trans e6
  rcases hB with ⟨_, _, q, rfl, a4, a5⟩ | ⟨_, a2, _⟩ | ⟨a1, _⟩
  rotate_left
  · exact absurd (show totalS [[97, 98], [99]] ≤ 1024 by decide) a2
  · omega
  have a5' : g6[q]? = some (.cells (awP.flatMap eb) .rw) := a5
  have hL := awP_len
  have hsP : Sl g6 (some (q, 0)) 1 eb awP := Sl.whole a5' (eb_w _) rfl (by omega)
  have hrP : Rs g6 (some (q, 0)) (some 1024) 1 eb awP := Rs.ofSome hsP (by omega)
  have hv : Valid awP := lay_valid (by decide) (by decide)
  have hld : ∀ {i : Nat} (hi : i < awP.length), ∀ hh (e : Ext g6 hh), loadN hh q (i * 1) 1 = some [.int .u8 awP[i]] := fun hi hh e => by
    have := hsP.load0 e hi (m := 1) (Nat.le_refl 1)
    simpa [eb, sid_some, soff_some] using this
  have k0 : awP[0]'(by omega) = 1 := Option.some.inj ((List.getElem?_eq_getElem (by omega)).symm.trans awP_0)
  have k1 : awP[1]'(by omega) = 0 := Option.some.inj ((List.getElem?_eq_getElem (by omega)).symm.trans awP_1)
  have k2 : awP[2]'(by omega) = 2 := Option.some.inj ((List.getElem?_eq_getElem (by omega)).symm.trans awP_2)
  have k3 : awP[3]'(by omega) = 3 := Option.some.inj ((List.getElem?_eq_getElem (by omega)).symm.trans awP_3)
  have k4 : awP[4]'(by omega) = 250 := Option.some.inj ((List.getElem?_eq_getElem (by omega)).symm.trans awP_4)
  have k5 : awP[5]'(by omega) = 3 := Option.some.inj ((List.getElem?_eq_getElem (by omega)).symm.trans awP_5)
  have k6 : awP[6]'(by omega) = 249 := Option.some.inj ((List.getElem?_eq_getElem (by omega)).symm.trans awP_6)
  have l0 := hld (i := 0) (by omega)
  have l1 := hld (i := 1) (by omega)
  have l2 := hld (i := 2) (by omega)
  have l3 := hld (i := 3) (by omega)
  have l4 := hld (i := 4) (by omega)
  have l5 := hld (i := 5) (by omega)
  have l6 := hld (i := 6) (by omega)
  rw [k0] at l0
  rw [k1] at l1
  rw [k2] at l2
  rw [k3] at l3
  rw [k4] at l4
  rw [k5] at l5
  rw [k6] at l6
  simp only [Nat.mul_one] at l0 l1 l2 l3 l4 l5 l6
  obtain ⟨p9, c9, hcut, rs9⟩ := hrP.cut (a := 1017) (b := 1020) (by decide) (by omega)
  have hcab : (awP.take 1020).drop 1017 = [99, 97, 98] := by decide +kernel
  rw [hcab] at rs9
  rw [hL] at hcut
  have hcv := cv_25_9 (c := c9) rs9.sl (.refl _) (by intro b hb; simp at hb; omega)
  simp only [List.length_cons, List.length_nil, Nat.zero_add, Nat.reduceAdd] at hcv
  have hfree := free_ok hrP awP_b
  rw [hL] at hfree
  have hfs : freeS awP = 1010 := by decide +kernel
  have h1024 : ((1024 : Nat) : Int) = 1024 := rfl
  simp only [Int.cast_ofNat_Int, Nat.reduceSub] at hcut
  simp -dsimp (disch := first | with_reducible assumption | omega | (intro h_; cases h_; done) | (simp only [LN] <;> omega) | (simp only [LF]; done) | (repeat (first | with_reducible assumption | apply Ext.refl | apply Ext.app | (apply Ext.set <;> omega) | (refine Ext.trans ?_ (by assumption))))) only [AX, TY, gV, dstOf, p_makeFunc, p_mapUpdate, mapPut, entsOf, p_lookup, p_extract, p_nilCheck, oneV, p_load, p_store, p_binOp, p_unOp, p_indexAddr, p_index, p_box, p_build, evParts, builtinV, load1, ldc, splice, minds, disj, rcOf, isCall, touchV, idsOf, mapId, touchB, p_buildSlice, buildSliceV, reps, fillV, p_convert, p_slice, evO, p_makeSlice, sid_some, soff_some, Nat.reduceLT, Nat.reduceLeDiff, Nat.reduceEqDiff, Nat.reduceAdd, Nat.reduceMul, Int.reduceBEq, Int.reduceEq, Int.reduceNeg, Int.reduceLT, Int.reduceLE, Int.reduceAdd, Int.reduceSub, Int.reduceMul, Int.reduceToNat, Int.reduceGT, Nat.reduceBEq, Nat.reducePow, Nat.reduceGT, reduceCtorEq, ↓reduceIte, l0, l1, l2, l3, l4, l5, l6, hcut, hcv, h1024]
  refine hfree.mono ?_
  rintro _ _ ⟨rfl, n, rfl, hn, _⟩
  rw [hn hv, hfs]
  simp -dsimp (disch := first | with_reducible assumption | omega | (intro h_; cases h_; done) | (simp only [LN] <;> omega) | (simp only [LF]; done) | (repeat (first | with_reducible assumption | apply Ext.refl | apply Ext.app | (apply Ext.set <;> omega) | (refine Ext.trans ?_ (by assumption))))) only [AX, TY, gV, dstOf, p_makeFunc, p_mapUpdate, mapPut, entsOf, p_lookup, p_extract, p_nilCheck, oneV, p_load, p_store, p_binOp, p_unOp, p_indexAddr, p_index, p_box, p_build, evParts, builtinV, load1, ldc, splice, minds, disj, rcOf, isCall, touchV, idsOf, mapId, touchB, p_buildSlice, buildSliceV, reps, fillV, p_convert, p_slice, evO, p_makeSlice, sid_some, soff_some, Nat.reduceLT, Nat.reduceLeDiff, Nat.reduceEqDiff, Nat.reduceAdd, Nat.reduceMul, Int.reduceBEq, Int.reduceEq, Int.reduceNeg, Int.reduceLT, Int.reduceLE, Int.reduceAdd, Int.reduceSub, Int.reduceMul, Int.reduceToNat, Int.reduceGT, Nat.reduceBEq, Nat.reducePow, Nat.reduceGT, reduceCtorEq, ↓reduceIte]
  exact e06
end Go.Proofs.YtopbmpdcmnhfdaaA
