/- Words of this session: chapter 22: Normalize, Contains, Conflicts. Words of this session: chapter 22: the reference's Normalize, Conflicts, Same. Words of this session: chapter 22: the reference's Conflicts; MvccConflicts, MvccVisibility. Words of this session: chapter 22: MvccVisibility, MvccConflicts. Words of this session: chapter 22: MvccConflicts; rows. -/
import Derived.Test.YtpmlphefdoaohaaQT
namespace Go.Proofs.YtpmlphefdoaohaaA
open Go Go.Proofs Go.RowKit
set_option linter.unusedVariables false
set_option linter.unusedSimpArgs false
set_option maxRecDepth 10000
set_option maxHeartbeats 2000000
/-- A set of row identifiers in memory: ascending, with the members told. -/
def SetR (h : Heap) (v : V) (q : Rid → Prop) : Prop := ∃ (p : Option (Nat × Nat)) (c : Option Nat) (zs : List Rid), v = .slice p zs.length c ∧ Sl h p 2 Rid.enc zs ∧ AscR zs ∧ ∀ x, x ∈ zs ↔ q x
theorem Ext.same {a b : Heap} (e : Ext a b) {i : Nat} (hi : i < a.length) : b[i]? = a[i]? := by rw [e _ _ (List.getElem?_eq_getElem hi), List.getElem?_eq_getElem hi]
theorem normalize_ok {h : Heap} {p : Option (Nat × Nat)} {c : Option Nat} {ys : List Rid} (hs : Sl h p 2 Rid.enc ys) (hB : ys.length ≤ 100000) :
    WR (callE Try.prog hk 36 [.slice p ys.length c] h) fun r h' => Ext h h' ∧ SetR h' r (· ∈ ys) := by
  refine WR.call (hH := rfl) Try.func36 rfl (n := 10) rfl rfl (by simp) ?_
  simp -dsimp (disch := first | with_reducible assumption | omega | (intro h_; cases h_; done) | (simp only [LN] <;> omega) | (simp only [LF]; done) | (repeat (first | with_reducible assumption | apply Ext.refl | apply Ext.app | (apply Ext.set <;> omega) | (refine Ext.trans ?_ (by assumption))))) only [AX, TY, gV, dstOf, p_makeFunc, p_mapUpdate, mapPut, entsOf, p_lookup, p_extract, p_nilCheck, oneV, p_load, p_store, p_binOp, p_unOp, p_indexAddr, p_index, p_box, p_build, evParts, builtinV, load1, ldc, splice, minds, disj, rcOf, isCall, touchV, idsOf, mapId, touchB, p_buildSlice, buildSliceV, reps, fillV, p_convert, p_slice, evO, p_makeSlice, sid_some, soff_some, Nat.reduceLT, Nat.reduceLeDiff, Nat.reduceEqDiff, Nat.reduceAdd, Nat.reduceMul, Int.reduceBEq, Int.reduceEq, Int.reduceNeg, Int.reduceLT, Int.reduceLE, Int.reduceAdd, Int.reduceSub, Int.reduceMul, Int.reduceToNat, Int.reduceGT, Nat.reduceBEq, Nat.reducePow, Nat.reduceGT, reduceCtorEq, ↓reduceIte]
  refine (clone45_ok hs (by omega)).mono ?_
  rintro _ h1 ⟨e1, p', c', oid, rfl, gr⟩
  have le1 := e1.le
  by_cases h0 : ys.length = 0
  · have : ys = [] := List.eq_nil_of_length_eq_zero h0
    subst this
    simp -dsimp (disch := first | with_reducible assumption | omega | (intro h_; cases h_; done) | (simp only [LN] <;> omega) | (simp only [LF]; done) | (repeat (first | with_reducible assumption | apply Ext.refl | apply Ext.app | (apply Ext.set <;> omega) | (refine Ext.trans ?_ (by assumption))))) only [AX, TY, gV, dstOf, p_makeFunc, p_mapUpdate, mapPut, entsOf, p_lookup, p_extract, p_nilCheck, oneV, p_load, p_store, p_binOp, p_unOp, p_indexAddr, p_index, p_box, p_build, evParts, builtinV, load1, ldc, splice, minds, disj, rcOf, isCall, touchV, idsOf, mapId, touchB, p_buildSlice, buildSliceV, reps, fillV, p_convert, p_slice, evO, p_makeSlice, sid_some, soff_some, Nat.reduceLT, Nat.reduceLeDiff, Nat.reduceEqDiff, Nat.reduceAdd, Nat.reduceMul, Int.reduceBEq, Int.reduceEq, Int.reduceNeg, Int.reduceLT, Int.reduceLE, Int.reduceAdd, Int.reduceSub, Int.reduceMul, Int.reduceToNat, Int.reduceGT, Nat.reduceBEq, Nat.reducePow, Nat.reduceGT, reduceCtorEq, ↓reduceIte]
    refine (sort_nil (p := p') (c := c')).mono ?_
    rintro _ _ rfl
    simp -dsimp (disch := first | with_reducible assumption | omega | (intro h_; cases h_; done) | (simp only [LN] <;> omega) | (simp only [LF]; done) | (repeat (first | with_reducible assumption | apply Ext.refl | apply Ext.app | (apply Ext.set <;> omega) | (refine Ext.trans ?_ (by assumption))))) only [AX, TY, gV, dstOf, p_makeFunc, p_mapUpdate, mapPut, entsOf, p_lookup, p_extract, p_nilCheck, oneV, p_load, p_store, p_binOp, p_unOp, p_indexAddr, p_index, p_box, p_build, evParts, builtinV, load1, ldc, splice, minds, disj, rcOf, isCall, touchV, idsOf, mapId, touchB, p_buildSlice, buildSliceV, reps, fillV, p_convert, p_slice, evO, p_makeSlice, sid_some, soff_some, Nat.reduceLT, Nat.reduceLeDiff, Nat.reduceEqDiff, Nat.reduceAdd, Nat.reduceMul, Int.reduceBEq, Int.reduceEq, Int.reduceNeg, Int.reduceLT, Int.reduceLE, Int.reduceAdd, Int.reduceSub, Int.reduceMul, Int.reduceToNat, Int.reduceGT, Nat.reduceBEq, Nat.reducePow, Nat.reduceGT, reduceCtorEq, ↓reduceIte]
    refine (compact_ok (c := c') gr List.Pairwise.nil).mono ?_
    rintro _ h3 ⟨⟨zs, rfl, hz, ha, hm⟩, hl, hk⟩
    simp -dsimp (disch := first | with_reducible assumption | omega | (intro h_; cases h_; done) | (simp only [LN] <;> omega) | (simp only [LF]; done) | (repeat (first | with_reducible assumption | apply Ext.refl | apply Ext.app | (apply Ext.set <;> omega) | (refine Ext.trans ?_ (by assumption))))) only [AX, TY, gV, dstOf, p_makeFunc, p_mapUpdate, mapPut, entsOf, p_lookup, p_extract, p_nilCheck, oneV, p_load, p_store, p_binOp, p_unOp, p_indexAddr, p_index, p_box, p_build, evParts, builtinV, load1, ldc, splice, minds, disj, rcOf, isCall, touchV, idsOf, mapId, touchB, p_buildSlice, buildSliceV, reps, fillV, p_convert, p_slice, evO, p_makeSlice, sid_some, soff_some, Nat.reduceLT, Nat.reduceLeDiff, Nat.reduceEqDiff, Nat.reduceAdd, Nat.reduceMul, Int.reduceBEq, Int.reduceEq, Int.reduceNeg, Int.reduceLT, Int.reduceLE, Int.reduceAdd, Int.reduceSub, Int.reduceMul, Int.reduceToNat, Int.reduceGT, Nat.reduceBEq, Nat.reducePow, Nat.reduceGT, reduceCtorEq, ↓reduceIte]
    refine ⟨Ext.of_keep fun i hi => ?_, p', c', zs, rfl, hz, ha, hm⟩
    have hne : oid ≠ some i := fun e => by have := gr.base i e; omega
    rw [hk i hne, e1.same hi]
  obtain ⟨h2, hcall, gr2, hl2, hk2⟩ := gr.sorted (by omega)
  have hperm : (srtL cmpR ys).Perm ys := List.mergeSort_perm _ _
  have hlen := hperm.length_eq
  have hcp := compact_ok (c := c') gr2 (srt_sorted ys)
  rw [hlen] at hcp
  simp -dsimp (disch := first | with_reducible assumption | omega | (intro h_; cases h_; done) | (simp only [LN] <;> omega) | (simp only [LF]; done) | (repeat (first | with_reducible assumption | apply Ext.refl | apply Ext.app | (apply Ext.set <;> omega) | (refine Ext.trans ?_ (by assumption))))) only [AX, TY, gV, dstOf, p_makeFunc, p_mapUpdate, mapPut, entsOf, p_lookup, p_extract, p_nilCheck, oneV, p_load, p_store, p_binOp, p_unOp, p_indexAddr, p_index, p_box, p_build, evParts, builtinV, load1, ldc, splice, minds, disj, rcOf, isCall, touchV, idsOf, mapId, touchB, p_buildSlice, buildSliceV, reps, fillV, p_convert, p_slice, evO, p_makeSlice, sid_some, soff_some, Nat.reduceLT, Nat.reduceLeDiff, Nat.reduceEqDiff, Nat.reduceAdd, Nat.reduceMul, Int.reduceBEq, Int.reduceEq, Int.reduceNeg, Int.reduceLT, Int.reduceLE, Int.reduceAdd, Int.reduceSub, Int.reduceMul, Int.reduceToNat, Int.reduceGT, Nat.reduceBEq, Nat.reducePow, Nat.reduceGT, reduceCtorEq, ↓reduceIte, hcall]
  refine hcp.mono ?_
  rintro _ h3 ⟨⟨zs, rfl, hz, ha, hm⟩, hl, hk⟩
  simp -dsimp (disch := first | with_reducible assumption | omega | (intro h_; cases h_; done) | (simp only [LN] <;> omega) | (simp only [LF]; done) | (repeat (first | with_reducible assumption | apply Ext.refl | apply Ext.app | (apply Ext.set <;> omega) | (refine Ext.trans ?_ (by assumption))))) only [AX, TY, gV, dstOf, p_makeFunc, p_mapUpdate, mapPut, entsOf, p_lookup, p_extract, p_nilCheck, oneV, p_load, p_store, p_binOp, p_unOp, p_indexAddr, p_index, p_box, p_build, evParts, builtinV, load1, ldc, splice, minds, disj, rcOf, isCall, touchV, idsOf, mapId, touchB, p_buildSlice, buildSliceV, reps, fillV, p_convert, p_slice, evO, p_makeSlice, sid_some, soff_some, Nat.reduceLT, Nat.reduceLeDiff, Nat.reduceEqDiff, Nat.reduceAdd, Nat.reduceMul, Int.reduceBEq, Int.reduceEq, Int.reduceNeg, Int.reduceLT, Int.reduceLE, Int.reduceAdd, Int.reduceSub, Int.reduceMul, Int.reduceToNat, Int.reduceGT, Nat.reduceBEq, Nat.reducePow, Nat.reduceGT, reduceCtorEq, ↓reduceIte]
  refine ⟨Ext.of_keep fun i hi => ?_, p', c', zs, rfl, hz, ha, fun x => (hm x).trans hperm.mem_iff⟩
  have hne : oid ≠ some i := fun e => by have := gr.base i e; omega
  rw [hk i hne, hk2 i hne, e1.same hi]
theorem index_ok {h : Heap} {p : Option (Nat × Nat)} {c : Option Nat} {ys : List Rid} (hs : Sl h p 2 Rid.enc ys) (x : Rid) :
    WR (callE Try.prog hk 44 [.slice p ys.length c, .agg x.enc] h) fun r h' => Ext h h' ∧ ∃ i : Int, r = .int .i64 i ∧ (0 ≤ i ↔ x ∈ ys) := by
  have hn := hs.nil'
  have hl := hs.small
  refine WR.call (hH := rfl) Try.func44 rfl (n := 19) rfl rfl (by simp) ?_
  obtain ⟨g, hg, gx, e1⟩ : ∃ g, h ++ [O.cells [V.int .i64 x.a, V.int .i64 x.b] .rw] = g ∧ g[h.length]? = some (O.cells [V.int .i64 x.a, V.int .i64 x.b] .rw) ∧ Ext h g := ⟨_, rfl, snoc_last _ rfl, (by (repeat (first | assumption | apply Ext.refl | apply Ext.app | (apply Ext.set <;> omega) | exact Ext.trans (by assumption) (by assumption) | (refine Ext.trans ?_ (by assumption)))))⟩
  have lx := loadN_fact gx
  have hs2 := hs.ext e1
  simp only [Rid.enc]
  simp -dsimp (disch := first | with_reducible assumption | omega | (intro h_; cases h_; done) | (simp only [LN] <;> omega) | (simp only [LF]; done) | (repeat (first | with_reducible assumption | apply Ext.refl | apply Ext.app | (apply Ext.set <;> omega) | (refine Ext.trans ?_ (by assumption))))) only [AX, TY, gV, dstOf, p_makeFunc, p_mapUpdate, mapPut, entsOf, p_lookup, p_extract, p_nilCheck, oneV, p_load, p_store, p_binOp, p_unOp, p_indexAddr, p_index, p_box, p_build, evParts, builtinV, load1, ldc, splice, minds, disj, rcOf, isCall, touchV, idsOf, mapId, touchB, p_buildSlice, buildSliceV, reps, fillV, p_convert, p_slice, evO, p_makeSlice, sid_some, soff_some, Nat.reduceLT, Nat.reduceLeDiff, Nat.reduceEqDiff, Nat.reduceAdd, Nat.reduceMul, Int.reduceBEq, Int.reduceEq, Int.reduceNeg, Int.reduceLT, Int.reduceLE, Int.reduceAdd, Int.reduceSub, Int.reduceMul, Int.reduceToNat, Int.reduceGT, Nat.reduceBEq, Nat.reducePow, Nat.reduceGT, reduceCtorEq, ↓reduceIte, hg]
  refine W.loop (fun m τ hh => g = hh ∧ ∃ i : Nat, m + i = ys.length ∧ τ 0 = .slice p ys.length c ∧ τ 3 = .ptr (some (h.length, 0)) ∧ τ 7 = .int .i64 ys.length ∧ τ 8 = .int .i64 i ∧ x ∉ ys.take i) ?_ (m := ys.length) ?_
  rotate_left
  · exact ⟨rfl, 0, by simp, rfl, rfl, rfl, rfl, by simp⟩
  rintro m τ _ ⟨rfl, i, hm, t0, t3, t7, t8, hni⟩
  by_cases h1 : (i : Int) < (ys.length : Int)
  rotate_left
  · simp -dsimp (disch := first | with_reducible assumption | omega | (intro h_; cases h_; done) | (simp only [LN] <;> omega) | (simp only [LF]; done) | (repeat (first | with_reducible assumption | apply Ext.refl | apply Ext.app | (apply Ext.set <;> omega) | (refine Ext.trans ?_ (by assumption))))) only [AX, TY, gV, dstOf, p_makeFunc, p_mapUpdate, mapPut, entsOf, p_lookup, p_extract, p_nilCheck, oneV, p_load, p_store, p_binOp, p_unOp, p_indexAddr, p_index, p_box, p_build, evParts, builtinV, load1, ldc, splice, minds, disj, rcOf, isCall, touchV, idsOf, mapId, touchB, p_buildSlice, buildSliceV, reps, fillV, p_convert, p_slice, evO, p_makeSlice, sid_some, soff_some, Nat.reduceLT, Nat.reduceLeDiff, Nat.reduceEqDiff, Nat.reduceAdd, Nat.reduceMul, Int.reduceBEq, Int.reduceEq, Int.reduceNeg, Int.reduceLT, Int.reduceLE, Int.reduceAdd, Int.reduceSub, Int.reduceMul, Int.reduceToNat, Int.reduceGT, Nat.reduceBEq, Nat.reducePow, Nat.reduceGT, reduceCtorEq, ↓reduceIte, t0, t3, t7, t8, h1]
    refine ⟨e1, -1, rfl, ?_⟩
    rw [List.take_of_length_le (by omega)] at hni
    simp [hni]
  have hi : i < ys.length := by omega
  have hla := fun hh e => hs2.load0 (hh := hh) e hi (m := 2) (by decide)
  simp only [Rid.enc] at hla
  simp -dsimp (disch := first | with_reducible assumption | omega | (intro h_; cases h_; done) | (simp only [LN] <;> omega) | (simp only [LF]; done) | (repeat (first | with_reducible assumption | apply Ext.refl | apply Ext.app | (apply Ext.set <;> omega) | (refine Ext.trans ?_ (by assumption))))) only [AX, TY, gV, dstOf, p_makeFunc, p_mapUpdate, mapPut, entsOf, p_lookup, p_extract, p_nilCheck, oneV, p_load, p_store, p_binOp, p_unOp, p_indexAddr, p_index, p_box, p_build, evParts, builtinV, load1, ldc, splice, minds, disj, rcOf, isCall, touchV, idsOf, mapId, touchB, p_buildSlice, buildSliceV, reps, fillV, p_convert, p_slice, evO, p_makeSlice, sid_some, soff_some, Nat.reduceLT, Nat.reduceLeDiff, Nat.reduceEqDiff, Nat.reduceAdd, Nat.reduceMul, Int.reduceBEq, Int.reduceEq, Int.reduceNeg, Int.reduceLT, Int.reduceLE, Int.reduceAdd, Int.reduceSub, Int.reduceMul, Int.reduceToNat, Int.reduceGT, Nat.reduceBEq, Nat.reducePow, Nat.reduceGT, reduceCtorEq, ↓reduceIte, t0, t3, t7, t8, h1]
  refine W.drawn [(0, []), (1, [0]), (2, [1, 0]), (3, [0]), (4, [0]), (5, [])] (by decide +kernel) ?_
  by_cases he : x = ys[i]
  · have heq : x.a = ys[i].a ∧ x.b = ys[i].b := by rw [← he]; exact ⟨rfl, rfl⟩
    simp -dsimp (disch := first | with_reducible assumption | omega | (intro h_; cases h_; done) | (simp only [LN] <;> omega) | (simp only [LF]; done) | (repeat (first | with_reducible assumption | apply Ext.refl | apply Ext.app | (apply Ext.set <;> omega) | (refine Ext.trans ?_ (by assumption))))) only [AX, TY, gV, dstOf, p_makeFunc, p_mapUpdate, mapPut, entsOf, p_lookup, p_extract, p_nilCheck, oneV, p_load, p_store, p_binOp, p_unOp, p_indexAddr, p_index, p_box, p_build, evParts, builtinV, load1, ldc, splice, minds, disj, rcOf, isCall, touchV, idsOf, mapId, touchB, p_buildSlice, buildSliceV, reps, fillV, p_convert, p_slice, evO, p_makeSlice, sid_some, soff_some, Nat.reduceLT, Nat.reduceLeDiff, Nat.reduceEqDiff, Nat.reduceAdd, Nat.reduceMul, Int.reduceBEq, Int.reduceEq, Int.reduceNeg, Int.reduceLT, Int.reduceLE, Int.reduceAdd, Int.reduceSub, Int.reduceMul, Int.reduceToNat, Int.reduceGT, Nat.reduceBEq, Nat.reducePow, Nat.reduceGT, reduceCtorEq, ↓reduceIte, t0, t3, t7, t8, h1, lx, hla, eql_23, eqt_23, eq_true heq]
    refine ⟨e1, i, rfl, ?_⟩
    have : x ∈ ys := by rw [he]; exact List.getElem_mem hi
    simp [this]
  · have hne : ¬ (x.a = ys[i].a ∧ x.b = ys[i].b) := fun ⟨q1, q2⟩ => he (by
      cases h1 : ys[i]; cases x
      rw [h1] at q1 q2; simp only at q1 q2; subst q1 q2; rfl)
    simp -dsimp (disch := first | with_reducible assumption | omega | (intro h_; cases h_; done) | (simp only [LN] <;> omega) | (simp only [LF]; done) | (repeat (first | with_reducible assumption | apply Ext.refl | apply Ext.app | (apply Ext.set <;> omega) | (refine Ext.trans ?_ (by assumption))))) only [AX, TY, gV, dstOf, p_makeFunc, p_mapUpdate, mapPut, entsOf, p_lookup, p_extract, p_nilCheck, oneV, p_load, p_store, p_binOp, p_unOp, p_indexAddr, p_index, p_box, p_build, evParts, builtinV, load1, ldc, splice, minds, disj, rcOf, isCall, touchV, idsOf, mapId, touchB, p_buildSlice, buildSliceV, reps, fillV, p_convert, p_slice, evO, p_makeSlice, sid_some, soff_some, Nat.reduceLT, Nat.reduceLeDiff, Nat.reduceEqDiff, Nat.reduceAdd, Nat.reduceMul, Int.reduceBEq, Int.reduceEq, Int.reduceNeg, Int.reduceLT, Int.reduceLE, Int.reduceAdd, Int.reduceSub, Int.reduceMul, Int.reduceToNat, Int.reduceGT, Nat.reduceBEq, Nat.reducePow, Nat.reduceGT, reduceCtorEq, ↓reduceIte, t0, t3, t7, t8, h1, lx, hla, eql_23, eqt_23, hne, wrap_in]
    refine ⟨m - 1, by omega, i + 1, by omega, by simp, ?_⟩
    rw [List.take_succ_eq_append_getElem hi, List.mem_append, List.mem_singleton]
    rintro (q | q)
    · exact hni q
    · exact he q
theorem contains_ok {h : Heap} {p : Option (Nat × Nat)} {c : Option Nat} {ys : List Rid} (hs : Sl h p 2 Rid.enc ys) (x : Rid) :
    WR (callE Try.prog hk 35 [.slice p ys.length c, .agg [.int .i64 x.a, .int .i64 x.b]] h) fun r h' => Ext h h' ∧ ∃ b, r = .bool b ∧ (b = true ↔ x ∈ ys) := by
  refine WR.call (hH := rfl) Try.func35 rfl (n := 9) rfl rfl (by simp) ?_
  simp -dsimp (disch := first | with_reducible assumption | omega | (intro h_; cases h_; done) | (simp only [LN] <;> omega) | (simp only [LF]; done) | (repeat (first | with_reducible assumption | apply Ext.refl | apply Ext.app | (apply Ext.set <;> omega) | (refine Ext.trans ?_ (by assumption))))) only [AX, TY, gV, dstOf, p_makeFunc, p_mapUpdate, mapPut, entsOf, p_lookup, p_extract, p_nilCheck, oneV, p_load, p_store, p_binOp, p_unOp, p_indexAddr, p_index, p_box, p_build, evParts, builtinV, load1, ldc, splice, minds, disj, rcOf, isCall, touchV, idsOf, mapId, touchB, p_buildSlice, buildSliceV, reps, fillV, p_convert, p_slice, evO, p_makeSlice, sid_some, soff_some, Nat.reduceLT, Nat.reduceLeDiff, Nat.reduceEqDiff, Nat.reduceAdd, Nat.reduceMul, Int.reduceBEq, Int.reduceEq, Int.reduceNeg, Int.reduceLT, Int.reduceLE, Int.reduceAdd, Int.reduceSub, Int.reduceMul, Int.reduceToNat, Int.reduceGT, Nat.reduceBEq, Nat.reducePow, Nat.reduceGT, reduceCtorEq, ↓reduceIte]
  refine (index_ok (hs.ext (by (repeat (first | assumption | apply Ext.refl | apply Ext.app | (apply Ext.set <;> omega) | exact Ext.trans (by assumption) (by assumption) | (refine Ext.trans ?_ (by assumption)))))) x).mono ?_
  rintro _ h2 ⟨e2, i, rfl, hi⟩
  simp -dsimp (disch := first | with_reducible assumption | omega | (intro h_; cases h_; done) | (simp only [LN] <;> omega) | (simp only [LF]; done) | (repeat (first | with_reducible assumption | apply Ext.refl | apply Ext.app | (apply Ext.set <;> omega) | (refine Ext.trans ?_ (by assumption))))) only [AX, TY, gV, dstOf, p_makeFunc, p_mapUpdate, mapPut, entsOf, p_lookup, p_extract, p_nilCheck, oneV, p_load, p_store, p_binOp, p_unOp, p_indexAddr, p_index, p_box, p_build, evParts, builtinV, load1, ldc, splice, minds, disj, rcOf, isCall, touchV, idsOf, mapId, touchB, p_buildSlice, buildSliceV, reps, fillV, p_convert, p_slice, evO, p_makeSlice, sid_some, soff_some, Nat.reduceLT, Nat.reduceLeDiff, Nat.reduceEqDiff, Nat.reduceAdd, Nat.reduceMul, Int.reduceBEq, Int.reduceEq, Int.reduceNeg, Int.reduceLT, Int.reduceLE, Int.reduceAdd, Int.reduceSub, Int.reduceMul, Int.reduceToNat, Int.reduceGT, Nat.reduceBEq, Nat.reducePow, Nat.reduceGT, reduceCtorEq, ↓reduceIte]
  exact ⟨(by (repeat (first | assumption | apply Ext.refl | apply Ext.app | (apply Ext.set <;> omega) | exact Ext.trans (by assumption) (by assumption) | (refine Ext.trans ?_ (by assumption))))), _, rfl, by rw [decide_eq_true_eq]; exact hi⟩
def Ver.rid (v : Ver) : Rid := ⟨v.a, v.b⟩
def Key.rid (k : Key) : Rid := ⟨k.a, k.b⟩
theorem del34_ok {h : Heap} {t : Nat} {s : Int} (g : h[t]? = some (.cells [.int .i64 s] .rw)) (v : Ver) : WR (callE Try.prog hk 34 [.agg v.enc, .ptr (some (t, 0))] h) fun r h' => Ext h h' ∧ r = .bool (decide (s < v.dl)) := by
  have := lt_of_some g
  refine WR.call (hH := rfl) Try.func34 rfl (n := 8) rfl rfl (by simp) ?_
  simp -dsimp (disch := first | with_reducible assumption | omega | (intro h_; cases h_; done) | (simp only [LN] <;> omega) | (simp only [LF]; done) | (repeat (first | with_reducible assumption | apply Ext.refl | apply Ext.app | (apply Ext.set <;> omega) | (refine Ext.trans ?_ (by assumption))))) only [AX, TY, gV, dstOf, p_makeFunc, p_mapUpdate, mapPut, entsOf, p_lookup, p_extract, p_nilCheck, oneV, p_load, p_store, p_binOp, p_unOp, p_indexAddr, p_index, p_box, p_build, evParts, builtinV, load1, ldc, splice, minds, disj, rcOf, isCall, touchV, idsOf, mapId, touchB, p_buildSlice, buildSliceV, reps, fillV, p_convert, p_slice, evO, p_makeSlice, sid_some, soff_some, Nat.reduceLT, Nat.reduceLeDiff, Nat.reduceEqDiff, Nat.reduceAdd, Nat.reduceMul, Int.reduceBEq, Int.reduceEq, Int.reduceNeg, Int.reduceLT, Int.reduceLE, Int.reduceAdd, Int.reduceSub, Int.reduceMul, Int.reduceToNat, Int.reduceGT, Nat.reduceBEq, Nat.reducePow, Nat.reduceGT, reduceCtorEq, ↓reduceIte, Ver.enc, loadN_fact g]
  (first | exact ⟨(by (repeat (first | assumption | apply Ext.refl | apply Ext.app | (apply Ext.set <;> omega) | exact Ext.trans (by assumption) (by assumption) | (refine Ext.trans ?_ (by assumption))))), rfl⟩ | exact ⟨(by (repeat (first | assumption | apply Ext.refl | apply Ext.app | (apply Ext.set <;> omega) | exact Ext.trans (by assumption) (by assumption) | (refine Ext.trans ?_ (by assumption))))), trivial⟩ | exact (by (repeat (first | assumption | apply Ext.refl | apply Ext.app | (apply Ext.set <;> omega) | exact Ext.trans (by assumption) (by assumption) | (refine Ext.trans ?_ (by assumption))))))
theorem conflicts_ok {h : Heap} {p q : Option (Nat × Nat)} {c d : Option Nat} {ys : List Ver} {xs : List Rid} (hs : Vers h p ys) (hx : Sl h q 2 Rid.enc xs) (hB : ys.length ≤ 100000) (hB2 : ∀ y ∈ ys, y.vals.length ≤ 100000) (s : Int) :
    WR (callE Try.prog hk 21 [.slice p ys.length c, .int .i64 s, .slice q xs.length d] h) fun r h' => Ext h h' ∧ SetR h' r fun x => x ∈ xs ∧ ∃ v ∈ ys, v.rid = x ∧ s < v.dl := by
  have hnx := hx.nil'
  have hlx := hx.small
  refine WR.call (hH := rfl) Try.func21 rfl (n := 30) rfl rfl (by simp) ?_
  simp -dsimp (disch := first | with_reducible assumption | omega | (intro h_; cases h_; done) | (simp only [LN] <;> omega) | (simp only [LF]; done) | (repeat (first | with_reducible assumption | apply Ext.refl | apply Ext.app | (apply Ext.set <;> omega) | (refine Ext.trans ?_ (by assumption))))) only [AX, TY, gV, dstOf, p_makeFunc, p_mapUpdate, mapPut, entsOf, p_lookup, p_extract, p_nilCheck, oneV, p_load, p_store, p_binOp, p_unOp, p_indexAddr, p_index, p_box, p_build, evParts, builtinV, load1, ldc, splice, minds, disj, rcOf, isCall, touchV, idsOf, mapId, touchB, p_buildSlice, buildSliceV, reps, fillV, p_convert, p_slice, evO, p_makeSlice, sid_some, soff_some, Nat.reduceLT, Nat.reduceLeDiff, Nat.reduceEqDiff, Nat.reduceAdd, Nat.reduceMul, Int.reduceBEq, Int.reduceEq, Int.reduceNeg, Int.reduceLT, Int.reduceLE, Int.reduceAdd, Int.reduceSub, Int.reduceMul, Int.reduceToNat, Int.reduceGT, Nat.reduceBEq, Nat.reducePow, Nat.reduceGT, reduceCtorEq, ↓reduceIte]
  refine (filter_ok (hs.ext (by (repeat (first | assumption | apply Ext.refl | apply Ext.app | (apply Ext.set <;> omega) | exact Ext.trans (by assumption) (by assumption) | (refine Ext.trans ?_ (by assumption)))))) hB hB2 34 [.ptr (some (h.length, 0))] (fun v => decide (s < v.dl)) (fun hh e v => del34_ok (e _ _ (snoc_last _ rfl)) v)).mono ?_
  rintro _ h2 ⟨e2, p', c', zs, rfl, hv, hk, hle⟩
  have hm2 : ∀ x : Rid, x ∈ zs.map Ver.rid ↔ ∃ v ∈ ys, v.rid = x ∧ s < v.dl := fun x => by
    have h1 : zs.map Ver.rid = (zs.map Ver.key).map Key.rid := by rw [List.map_map]; rfl
    rw [h1, hk, List.map_map, List.mem_map]
    constructor
    · rintro ⟨v, hv, rfl⟩
      rw [List.mem_filter] at hv
      exact ⟨v, hv.1, rfl, of_decide_eq_true hv.2⟩
    · rintro ⟨v, hv, rfl, hd⟩
      exact ⟨v, List.mem_filter.2 ⟨hv, decide_eq_true hd⟩, rfl⟩
  have e02 : Ext h h2 := Ext.trans (by (repeat (first | assumption | apply Ext.refl | apply Ext.app | (apply Ext.set <;> omega) | exact Ext.trans (by assumption) (by assumption) | (refine Ext.trans ?_ (by assumption))))) e2
  have hx2 := hx.ext e02
  have hnz := hv.sl.nil'
  have hlz := hv.sl.small
  simp -dsimp (disch := first | with_reducible assumption | omega | (intro h_; cases h_; done) | (simp only [LN] <;> omega) | (simp only [LF]; done) | (repeat (first | with_reducible assumption | apply Ext.refl | apply Ext.app | (apply Ext.set <;> omega) | (refine Ext.trans ?_ (by assumption))))) only [AX, TY, gV, dstOf, p_makeFunc, p_mapUpdate, mapPut, entsOf, p_lookup, p_extract, p_nilCheck, oneV, p_load, p_store, p_binOp, p_unOp, p_indexAddr, p_index, p_box, p_build, evParts, builtinV, load1, ldc, splice, minds, disj, rcOf, isCall, touchV, idsOf, mapId, touchB, p_buildSlice, buildSliceV, reps, fillV, p_convert, p_slice, evO, p_makeSlice, sid_some, soff_some, Nat.reduceLT, Nat.reduceLeDiff, Nat.reduceEqDiff, Nat.reduceAdd, Nat.reduceMul, Int.reduceBEq, Int.reduceEq, Int.reduceNeg, Int.reduceLT, Int.reduceLE, Int.reduceAdd, Int.reduceSub, Int.reduceMul, Int.reduceToNat, Int.reduceGT, Nat.reduceBEq, Nat.reducePow, Nat.reduceGT, reduceCtorEq, ↓reduceIte]
  refine W.loop (fun m τ hh => Ext h2 hh ∧ ∃ (i : Nat) (po : Option (Nat × Nat)) (co oid : Option Nat) (os : List Rid), m + i = zs.length ∧ τ 2 = .slice q xs.length d ∧ τ 7 = .slice po os.length co ∧ Gr h2.length hh po co oid 2 Rid.enc os ∧ τ 12 = .slice p' zs.length c' ∧ τ 13 = .int .i64 zs.length ∧ τ 14 = .int .i64 i ∧ os.length ≤ i ∧ ∀ x, x ∈ os ↔ x ∈ xs ∧ x ∈ (zs.take i).map Ver.rid) ?_ (m := zs.length) ?_
  rotate_left
  · exact ⟨.refl _, 0, none, some 0, none, [], by simp, rfl, rfl, Gr.nil _ _ _ _, rfl, rfl, rfl, by simp, by simp⟩
  rintro m τ hh ⟨e, i, po, co, oid, os, hm, t2, t7, gr, t12, t13, t14, hol, hmem⟩
  by_cases h1 : (i : Int) < (zs.length : Int)
  rotate_left
  · simp -dsimp (disch := first | with_reducible assumption | omega | (intro h_; cases h_; done) | (simp only [LN] <;> omega) | (simp only [LF]; done) | (repeat (first | with_reducible assumption | apply Ext.refl | apply Ext.app | (apply Ext.set <;> omega) | (refine Ext.trans ?_ (by assumption))))) only [AX, TY, gV, dstOf, p_makeFunc, p_mapUpdate, mapPut, entsOf, p_lookup, p_extract, p_nilCheck, oneV, p_load, p_store, p_binOp, p_unOp, p_indexAddr, p_index, p_box, p_build, evParts, builtinV, load1, ldc, splice, minds, disj, rcOf, isCall, touchV, idsOf, mapId, touchB, p_buildSlice, buildSliceV, reps, fillV, p_convert, p_slice, evO, p_makeSlice, sid_some, soff_some, Nat.reduceLT, Nat.reduceLeDiff, Nat.reduceEqDiff, Nat.reduceAdd, Nat.reduceMul, Int.reduceBEq, Int.reduceEq, Int.reduceNeg, Int.reduceLT, Int.reduceLE, Int.reduceAdd, Int.reduceSub, Int.reduceMul, Int.reduceToNat, Int.reduceGT, Nat.reduceBEq, Nat.reducePow, Nat.reduceGT, reduceCtorEq, ↓reduceIte, t2, t7, t12, t13, t14, h1]
    refine (normalize_ok gr.sl (by omega)).mono ?_
    rintro r h3 ⟨e3, p3, c3, os2, rfl, hz, ha, hm3⟩
    simp -dsimp (disch := first | with_reducible assumption | omega | (intro h_; cases h_; done) | (simp only [LN] <;> omega) | (simp only [LF]; done) | (repeat (first | with_reducible assumption | apply Ext.refl | apply Ext.app | (apply Ext.set <;> omega) | (refine Ext.trans ?_ (by assumption))))) only [AX, TY, gV, dstOf, p_makeFunc, p_mapUpdate, mapPut, entsOf, p_lookup, p_extract, p_nilCheck, oneV, p_load, p_store, p_binOp, p_unOp, p_indexAddr, p_index, p_box, p_build, evParts, builtinV, load1, ldc, splice, minds, disj, rcOf, isCall, touchV, idsOf, mapId, touchB, p_buildSlice, buildSliceV, reps, fillV, p_convert, p_slice, evO, p_makeSlice, sid_some, soff_some, Nat.reduceLT, Nat.reduceLeDiff, Nat.reduceEqDiff, Nat.reduceAdd, Nat.reduceMul, Int.reduceBEq, Int.reduceEq, Int.reduceNeg, Int.reduceLT, Int.reduceLE, Int.reduceAdd, Int.reduceSub, Int.reduceMul, Int.reduceToNat, Int.reduceGT, Nat.reduceBEq, Nat.reducePow, Nat.reduceGT, reduceCtorEq, ↓reduceIte]
    refine ⟨(e02.trans e).trans e3, p3, c3, os2, rfl, hz, ha, fun x => ?_⟩
    have h9 := hmem x
    rw [List.take_of_length_le (by omega), hm2] at h9
    exact (hm3 x).trans h9
  have hi : i < zs.length := by omega
  have le1 := e.le
  have htk : (zs.take (i + 1)).map Ver.rid = (zs.take i).map Ver.rid ++ [zs[i].rid] := by
    rw [List.take_succ_eq_append_getElem hi, List.map_append]; rfl
  have hla := fun hh e => hv.sl.load0 (hh := hh) e hi (m := 5) (by decide)
  generalize zs[i] = y at htk hla
  simp only [Ver.enc, List.take] at hla
  obtain ⟨g, hg, gx, eg⟩ : ∃ g, hh ++ [O.cells (Ver.enc y) .rw] = g ∧ g[hh.length]? = some (O.cells (Ver.enc y) .rw) ∧ Ext hh g := ⟨_, rfl, snoc_last _ rfl, (by (repeat (first | assumption | apply Ext.refl | apply Ext.app | (apply Ext.set <;> omega) | exact Ext.trans (by assumption) (by assumption) | (refine Ext.trans ?_ (by assumption)))))⟩
  simp only [Ver.enc] at hg gx
  have lx := loadN_fact gx
  simp -dsimp (disch := first | with_reducible assumption | omega | (intro h_; cases h_; done) | (simp only [LN] <;> omega) | (simp only [LF]; done) | (repeat (first | with_reducible assumption | apply Ext.refl | apply Ext.app | (apply Ext.set <;> omega) | (refine Ext.trans ?_ (by assumption))))) only [AX, TY, gV, dstOf, p_makeFunc, p_mapUpdate, mapPut, entsOf, p_lookup, p_extract, p_nilCheck, oneV, p_load, p_store, p_binOp, p_unOp, p_indexAddr, p_index, p_box, p_build, evParts, builtinV, load1, ldc, splice, minds, disj, rcOf, isCall, touchV, idsOf, mapId, touchB, p_buildSlice, buildSliceV, reps, fillV, p_convert, p_slice, evO, p_makeSlice, sid_some, soff_some, Nat.reduceLT, Nat.reduceLeDiff, Nat.reduceEqDiff, Nat.reduceAdd, Nat.reduceMul, Int.reduceBEq, Int.reduceEq, Int.reduceNeg, Int.reduceLT, Int.reduceLE, Int.reduceAdd, Int.reduceSub, Int.reduceMul, Int.reduceToNat, Int.reduceGT, Nat.reduceBEq, Nat.reducePow, Nat.reduceGT, reduceCtorEq, ↓reduceIte, t2, t7, t12, t13, t14, h1, hla hh e, hg, lx]
  refine (contains_ok (hx2.ext (e.trans eg)) y.rid).mono ?_
  rintro _ h3 ⟨e3, b, rfl, hb⟩
  have gx3 := e3 _ _ gx
  have lx3 := loadN_fact gx3
  have ex3 : Ext h2 h3 := (e.trans eg).trans e3
  have le3 := ex3.le
  cases b
  · have hno : ¬ y.rid ∈ xs := fun q => by have := hb.2 q; cases this
    simp -dsimp (disch := first | with_reducible assumption | omega | (intro h_; cases h_; done) | (simp only [LN] <;> omega) | (simp only [LF]; done) | (repeat (first | with_reducible assumption | apply Ext.refl | apply Ext.app | (apply Ext.set <;> omega) | (refine Ext.trans ?_ (by assumption))))) only [AX, TY, gV, dstOf, p_makeFunc, p_mapUpdate, mapPut, entsOf, p_lookup, p_extract, p_nilCheck, oneV, p_load, p_store, p_binOp, p_unOp, p_indexAddr, p_index, p_box, p_build, evParts, builtinV, load1, ldc, splice, minds, disj, rcOf, isCall, touchV, idsOf, mapId, touchB, p_buildSlice, buildSliceV, reps, fillV, p_convert, p_slice, evO, p_makeSlice, sid_some, soff_some, Nat.reduceLT, Nat.reduceLeDiff, Nat.reduceEqDiff, Nat.reduceAdd, Nat.reduceMul, Int.reduceBEq, Int.reduceEq, Int.reduceNeg, Int.reduceLT, Int.reduceLE, Int.reduceAdd, Int.reduceSub, Int.reduceMul, Int.reduceToNat, Int.reduceGT, Nat.reduceBEq, Nat.reducePow, Nat.reduceGT, reduceCtorEq, ↓reduceIte, t2, t7, t12, t13, t14, wrap_in]
    have gr' := gr.ext (eg.trans e3)
    refine ⟨m - 1, by omega, ex3, i + 1, po, co, oid, os, ?_⟩
    repeat' (first | assumption | refine And.intro ?_ ?_)
    all_goals first | omega | (simp; done) | (simp; omega; done) | skip
    intro x
    rw [hmem, htk, List.mem_append, List.mem_singleton]
    constructor
    · rintro ⟨h1, h2⟩; exact ⟨h1, .inl h2⟩
    · rintro ⟨h1, h2 | rfl⟩
      · exact ⟨h1, h2⟩
      · exact absurd h1 hno
  · have hyes : y.rid ∈ xs := hb.1 rfl
    obtain ⟨p5, c5, oid5, h5, hap, gr5, ho5, hl5, hk5, hb5⟩ := ((gr.ext (eg.trans e3)).ext (hh := h3 ++ [O.cells (Rid.enc y.rid) Kd.rw]) (by (repeat (first | assumption | apply Ext.refl | apply Ext.app | (apply Ext.set <;> omega) | exact Ext.trans (by assumption) (by assumption) | (refine Ext.trans ?_ (by assumption)))))).push (bytes := 16) (vc := some 1) (by simp; omega) (snoc_last _ rfl) rfl rfl (by omega) (by omega)
    simp only [Rid.enc, Ver.rid] at hap
    simp -dsimp (disch := first | with_reducible assumption | omega | (intro h_; cases h_; done) | (simp only [LN] <;> omega) | (simp only [LF]; done) | (repeat (first | with_reducible assumption | apply Ext.refl | apply Ext.app | (apply Ext.set <;> omega) | (refine Ext.trans ?_ (by assumption))))) only [AX, TY, gV, dstOf, p_makeFunc, p_mapUpdate, mapPut, entsOf, p_lookup, p_extract, p_nilCheck, oneV, p_load, p_store, p_binOp, p_unOp, p_indexAddr, p_index, p_box, p_build, evParts, builtinV, load1, ldc, splice, minds, disj, rcOf, isCall, touchV, idsOf, mapId, touchB, p_buildSlice, buildSliceV, reps, fillV, p_convert, p_slice, evO, p_makeSlice, sid_some, soff_some, Nat.reduceLT, Nat.reduceLeDiff, Nat.reduceEqDiff, Nat.reduceAdd, Nat.reduceMul, Int.reduceBEq, Int.reduceEq, Int.reduceNeg, Int.reduceLT, Int.reduceLE, Int.reduceAdd, Int.reduceSub, Int.reduceMul, Int.reduceToNat, Int.reduceGT, Nat.reduceBEq, Nat.reducePow, Nat.reduceGT, reduceCtorEq, ↓reduceIte, t2, t7, t12, t13, t14, lx3, hap, wrap_in]
    have ex5 : Ext h2 h5 := Ext.below (h := h3 ++ [O.cells (Rid.enc y.rid) Kd.rw]) (by (repeat (first | assumption | apply Ext.refl | apply Ext.app | (apply Ext.set <;> omega) | exact Ext.trans (by assumption) (by assumption) | (refine Ext.trans ?_ (by assumption))))) (Nat.le_refl _) hb5
    refine ⟨m - 1, by omega, ex5, i + 1, p5, c5, oid5, os ++ [y.rid], ?_⟩
    repeat' (first | assumption | refine And.intro ?_ ?_)
    all_goals first | omega | (simp; done) | (simp; omega; done) | skip
    intro x
    rw [htk, List.mem_append, List.mem_append, List.mem_singleton, hmem]
    constructor
    · rintro (⟨h1, h2⟩ | rfl)
      · exact ⟨h1, .inl h2⟩
      · exact ⟨hyes, .inr rfl⟩
    · rintro ⟨h1, h2 | rfl⟩
      · exact .inl ⟨h1, h2⟩
      · exact .inr rfl
end Go.Proofs.YtpmlphefdoaohaaA
namespace Go.Proofs.YtpmlphefdoaohaaA
open Go Go.Proofs Go.RowKit
set_option linter.unusedVariables false
set_option linter.unusedSimpArgs false
set_option maxRecDepth 10000
set_option maxHeartbeats 2000000
theorem Rid.ne {x y : Rid} (he : ¬ x = y) : ¬ (x.a = y.a ∧ x.b = y.b) := fun ⟨q1, q2⟩ => he (by
  cases x; cases y; simp only at q1 q2; subst q1 q2; rfl)
theorem in57_ok {h : Heap} {p : Option (Nat × Nat)} {c : Option Nat} {ys : List Rid} (hs : Sl h p 2 Rid.enc ys) (x : Rid) :
    WR (callE Try.prog hk 57 [.slice p ys.length c, .agg x.enc] h) fun r h' => Ext h h' ∧ ∃ b, r = .bool b ∧ (b = true ↔ x ∈ ys) := by
  have hn := hs.nil'
  have hl := hs.small
  refine WR.call (hH := rfl) Try.func57 rfl (n := 18) rfl rfl (by simp) ?_
  obtain ⟨g, hg, gx, e1⟩ : ∃ g, h ++ [O.cells [V.int .i64 x.a, V.int .i64 x.b] .rw] = g ∧ g[h.length]? = some (O.cells [V.int .i64 x.a, V.int .i64 x.b] .rw) ∧ Ext h g := ⟨_, rfl, snoc_last _ rfl, (by (repeat (first | assumption | apply Ext.refl | apply Ext.app | (apply Ext.set <;> omega) | exact Ext.trans (by assumption) (by assumption) | (refine Ext.trans ?_ (by assumption)))))⟩
  have lx := loadN_fact gx
  have hs2 := hs.ext e1
  try simp only [Rid.enc]
  simp -dsimp (disch := first | with_reducible assumption | omega | (intro h_; cases h_; done) | (simp only [LN] <;> omega) | (simp only [LF]; done) | (repeat (first | with_reducible assumption | apply Ext.refl | apply Ext.app | (apply Ext.set <;> omega) | (refine Ext.trans ?_ (by assumption))))) only [AX, TY, gV, dstOf, p_makeFunc, p_mapUpdate, mapPut, entsOf, p_lookup, p_extract, p_nilCheck, oneV, p_load, p_store, p_binOp, p_unOp, p_indexAddr, p_index, p_box, p_build, evParts, builtinV, load1, ldc, splice, minds, disj, rcOf, isCall, touchV, idsOf, mapId, touchB, p_buildSlice, buildSliceV, reps, fillV, p_convert, p_slice, evO, p_makeSlice, sid_some, soff_some, Nat.reduceLT, Nat.reduceLeDiff, Nat.reduceEqDiff, Nat.reduceAdd, Nat.reduceMul, Int.reduceBEq, Int.reduceEq, Int.reduceNeg, Int.reduceLT, Int.reduceLE, Int.reduceAdd, Int.reduceSub, Int.reduceMul, Int.reduceToNat, Int.reduceGT, Nat.reduceBEq, Nat.reducePow, Nat.reduceGT, reduceCtorEq, ↓reduceIte, hg]
  refine W.loop (fun m τ hh => g = hh ∧ ∃ i : Nat, m + i = ys.length ∧ τ 0 = .slice p ys.length c ∧ τ 3 = .ptr (some (h.length, 0)) ∧ τ 5 = .int .i64 i ∧ x ∉ ys.take i) ?_ (m := ys.length) ?_
  rotate_left
  · exact ⟨rfl, 0, by simp, rfl, rfl, rfl, by simp⟩
  rintro m τ _ ⟨rfl, i, hm, t0, t3, t5, hni⟩
  by_cases h1 : (i : Int) < (ys.length : Int)
  rotate_left
  · simp -dsimp (disch := first | with_reducible assumption | omega | (intro h_; cases h_; done) | (simp only [LN] <;> omega) | (simp only [LF]; done) | (repeat (first | with_reducible assumption | apply Ext.refl | apply Ext.app | (apply Ext.set <;> omega) | (refine Ext.trans ?_ (by assumption))))) only [AX, TY, gV, dstOf, p_makeFunc, p_mapUpdate, mapPut, entsOf, p_lookup, p_extract, p_nilCheck, oneV, p_load, p_store, p_binOp, p_unOp, p_indexAddr, p_index, p_box, p_build, evParts, builtinV, load1, ldc, splice, minds, disj, rcOf, isCall, touchV, idsOf, mapId, touchB, p_buildSlice, buildSliceV, reps, fillV, p_convert, p_slice, evO, p_makeSlice, sid_some, soff_some, Nat.reduceLT, Nat.reduceLeDiff, Nat.reduceEqDiff, Nat.reduceAdd, Nat.reduceMul, Int.reduceBEq, Int.reduceEq, Int.reduceNeg, Int.reduceLT, Int.reduceLE, Int.reduceAdd, Int.reduceSub, Int.reduceMul, Int.reduceToNat, Int.reduceGT, Nat.reduceBEq, Nat.reducePow, Nat.reduceGT, reduceCtorEq, ↓reduceIte, t0, t3, t5, h1]
    refine ⟨e1, false, rfl, ?_⟩
    rw [List.take_of_length_le (by omega)] at hni
    simp [hni]
  have hi : i < ys.length := by omega
  have hla := fun hh e => hs2.load0 (hh := hh) e hi (m := 2) (by decide)
  simp only [Rid.enc] at hla
  simp -dsimp (disch := first | with_reducible assumption | omega | (intro h_; cases h_; done) | (simp only [LN] <;> omega) | (simp only [LF]; done) | (repeat (first | with_reducible assumption | apply Ext.refl | apply Ext.app | (apply Ext.set <;> omega) | (refine Ext.trans ?_ (by assumption))))) only [AX, TY, gV, dstOf, p_makeFunc, p_mapUpdate, mapPut, entsOf, p_lookup, p_extract, p_nilCheck, oneV, p_load, p_store, p_binOp, p_unOp, p_indexAddr, p_index, p_box, p_build, evParts, builtinV, load1, ldc, splice, minds, disj, rcOf, isCall, touchV, idsOf, mapId, touchB, p_buildSlice, buildSliceV, reps, fillV, p_convert, p_slice, evO, p_makeSlice, sid_some, soff_some, Nat.reduceLT, Nat.reduceLeDiff, Nat.reduceEqDiff, Nat.reduceAdd, Nat.reduceMul, Int.reduceBEq, Int.reduceEq, Int.reduceNeg, Int.reduceLT, Int.reduceLE, Int.reduceAdd, Int.reduceSub, Int.reduceMul, Int.reduceToNat, Int.reduceGT, Nat.reduceBEq, Nat.reducePow, Nat.reduceGT, reduceCtorEq, ↓reduceIte, t0, t3, t5, h1]
  refine W.drawn [(0, []), (1, [0]), (2, []), (3, []), (4, [3, 2, 1, 0]), (5, [])] (by decide +kernel) ?_
  by_cases he : ys[i] = x
  · have heq : ys[i].a = x.a ∧ ys[i].b = x.b := by rw [he]; exact ⟨rfl, rfl⟩
    simp -dsimp (disch := first | with_reducible assumption | omega | (intro h_; cases h_; done) | (simp only [LN] <;> omega) | (simp only [LF]; done) | (repeat (first | with_reducible assumption | apply Ext.refl | apply Ext.app | (apply Ext.set <;> omega) | (refine Ext.trans ?_ (by assumption))))) only [AX, TY, gV, dstOf, p_makeFunc, p_mapUpdate, mapPut, entsOf, p_lookup, p_extract, p_nilCheck, oneV, p_load, p_store, p_binOp, p_unOp, p_indexAddr, p_index, p_box, p_build, evParts, builtinV, load1, ldc, splice, minds, disj, rcOf, isCall, touchV, idsOf, mapId, touchB, p_buildSlice, buildSliceV, reps, fillV, p_convert, p_slice, evO, p_makeSlice, sid_some, soff_some, Nat.reduceLT, Nat.reduceLeDiff, Nat.reduceEqDiff, Nat.reduceAdd, Nat.reduceMul, Int.reduceBEq, Int.reduceEq, Int.reduceNeg, Int.reduceLT, Int.reduceLE, Int.reduceAdd, Int.reduceSub, Int.reduceMul, Int.reduceToNat, Int.reduceGT, Nat.reduceBEq, Nat.reducePow, Nat.reduceGT, reduceCtorEq, ↓reduceIte, t0, t3, t5, h1, lx, hla, eql_23, eqt_23, eq_true heq]
    refine ⟨e1, true, rfl, ?_⟩
    have : x ∈ ys := by rw [← he]; exact List.getElem_mem hi
    simp [this]
  · have hne := Rid.ne he
    simp -dsimp (disch := first | with_reducible assumption | omega | (intro h_; cases h_; done) | (simp only [LN] <;> omega) | (simp only [LF]; done) | (repeat (first | with_reducible assumption | apply Ext.refl | apply Ext.app | (apply Ext.set <;> omega) | (refine Ext.trans ?_ (by assumption))))) only [AX, TY, gV, dstOf, p_makeFunc, p_mapUpdate, mapPut, entsOf, p_lookup, p_extract, p_nilCheck, oneV, p_load, p_store, p_binOp, p_unOp, p_indexAddr, p_index, p_box, p_build, evParts, builtinV, load1, ldc, splice, minds, disj, rcOf, isCall, touchV, idsOf, mapId, touchB, p_buildSlice, buildSliceV, reps, fillV, p_convert, p_slice, evO, p_makeSlice, sid_some, soff_some, Nat.reduceLT, Nat.reduceLeDiff, Nat.reduceEqDiff, Nat.reduceAdd, Nat.reduceMul, Int.reduceBEq, Int.reduceEq, Int.reduceNeg, Int.reduceLT, Int.reduceLE, Int.reduceAdd, Int.reduceSub, Int.reduceMul, Int.reduceToNat, Int.reduceGT, Nat.reduceBEq, Nat.reducePow, Nat.reduceGT, reduceCtorEq, ↓reduceIte, t0, t3, t5, h1, lx, hla, eql_23, eqt_23, hne, wrap_in]
    refine ⟨m - 1, by omega, i + 1, by omega, by simp, ?_⟩
    rw [List.take_succ_eq_append_getElem hi, List.mem_append, List.mem_singleton]
    rintro (q | q)
    · exact hni q
    · exact he q.symm
theorem cmp58_ok {h : Heap} (x y : Rid) : WR (callE Try.prog hk 58 [.agg [.int .i64 x.a, .int .i64 x.b], .agg y.enc] h) fun r h' => Ext h h' ∧ r = .int .i64 (cmpR x y) := by
  refine WR.call (hH := rfl) Try.func58 rfl (n := 27) rfl rfl (by simp) ?_
  obtain ⟨g, hg, g1, g2, ex, hl⟩ : ∃ g, h ++ [O.cells [V.int .i64 x.a, V.int .i64 x.b] .rw] ++ [O.cells [V.int .i64 y.a, V.int .i64 y.b] .rw] = g ∧ g[h.length]? = some (O.cells [V.int .i64 x.a, V.int .i64 x.b] .rw) ∧ g[h.length + 1]? = some (O.cells [V.int .i64 y.a, V.int .i64 y.b] .rw) ∧ Ext h g ∧ g.length = h.length + 2 := ⟨_, rfl, by rw [snoc_old _ (by simp)]; exact snoc_last _ rfl, snoc_last _ (by simp), (by (repeat (first | assumption | apply Ext.refl | apply Ext.app | (apply Ext.set <;> omega) | exact Ext.trans (by assumption) (by assumption) | (refine Ext.trans ?_ (by assumption))))), by simp⟩
  have lx := loadN_fact g1
  have ly := loadN_fact g2
  simp only [Rid.enc]
  have hc := @cmpR_neg x y
  have hz := @cmpR_zero x y
  have hcc : cmpR x y = if x.a = y.a ∧ x.b = y.b then 0 else if x.a < y.a ∨ x.a = y.a ∧ x.b < y.b then -1 else 1 := by
    unfold cmpR cmpI
    split <;> split <;> (try split) <;> (try split) <;> (try split) <;> omega
  rw [hcc]
  by_cases he : x.a = y.a ∧ x.b = y.b
  · rw [if_pos he]
    simp -dsimp (disch := first | with_reducible assumption | omega | (intro h_; cases h_; done) | (simp only [LN] <;> omega) | (simp only [LF]; done) | (repeat (first | with_reducible assumption | apply Ext.refl | apply Ext.app | (apply Ext.set <;> omega) | (refine Ext.trans ?_ (by assumption))))) only [AX, TY, gV, dstOf, p_makeFunc, p_mapUpdate, mapPut, entsOf, p_lookup, p_extract, p_nilCheck, oneV, p_load, p_store, p_binOp, p_unOp, p_indexAddr, p_index, p_box, p_build, evParts, builtinV, load1, ldc, splice, minds, disj, rcOf, isCall, touchV, idsOf, mapId, touchB, p_buildSlice, buildSliceV, reps, fillV, p_convert, p_slice, evO, p_makeSlice, sid_some, soff_some, Nat.reduceLT, Nat.reduceLeDiff, Nat.reduceEqDiff, Nat.reduceAdd, Nat.reduceMul, Int.reduceBEq, Int.reduceEq, Int.reduceNeg, Int.reduceLT, Int.reduceLE, Int.reduceAdd, Int.reduceSub, Int.reduceMul, Int.reduceToNat, Int.reduceGT, Nat.reduceBEq, Nat.reducePow, Nat.reduceGT, reduceCtorEq, ↓reduceIte, hg, lx, ly, eql_23, eqt_23, eq_true he]
    exact ex
  rw [if_neg he]
  by_cases h1 : x.a < y.a
  · rw [if_pos (.inl h1)]
    simp -dsimp (disch := first | with_reducible assumption | omega | (intro h_; cases h_; done) | (simp only [LN] <;> omega) | (simp only [LF]; done) | (repeat (first | with_reducible assumption | apply Ext.refl | apply Ext.app | (apply Ext.set <;> omega) | (refine Ext.trans ?_ (by assumption))))) only [AX, TY, gV, dstOf, p_makeFunc, p_mapUpdate, mapPut, entsOf, p_lookup, p_extract, p_nilCheck, oneV, p_load, p_store, p_binOp, p_unOp, p_indexAddr, p_index, p_box, p_build, evParts, builtinV, load1, ldc, splice, minds, disj, rcOf, isCall, touchV, idsOf, mapId, touchB, p_buildSlice, buildSliceV, reps, fillV, p_convert, p_slice, evO, p_makeSlice, sid_some, soff_some, Nat.reduceLT, Nat.reduceLeDiff, Nat.reduceEqDiff, Nat.reduceAdd, Nat.reduceMul, Int.reduceBEq, Int.reduceEq, Int.reduceNeg, Int.reduceLT, Int.reduceLE, Int.reduceAdd, Int.reduceSub, Int.reduceMul, Int.reduceToNat, Int.reduceGT, Nat.reduceBEq, Nat.reducePow, Nat.reduceGT, reduceCtorEq, ↓reduceIte, hg, lx, ly, eql_23, eqt_23, he, h1]
    exact ex
  by_cases h2 : x.a = y.a
  · have hb : ¬ x.b = y.b := fun q => he ⟨h2, q⟩
    by_cases h3 : x.b < y.b
    · rw [if_pos (.inr ⟨h2, h3⟩)]
      simp -dsimp (disch := first | with_reducible assumption | omega | (intro h_; cases h_; done) | (simp only [LN] <;> omega) | (simp only [LF]; done) | (repeat (first | with_reducible assumption | apply Ext.refl | apply Ext.app | (apply Ext.set <;> omega) | (refine Ext.trans ?_ (by assumption))))) only [AX, TY, gV, dstOf, p_makeFunc, p_mapUpdate, mapPut, entsOf, p_lookup, p_extract, p_nilCheck, oneV, p_load, p_store, p_binOp, p_unOp, p_indexAddr, p_index, p_box, p_build, evParts, builtinV, load1, ldc, splice, minds, disj, rcOf, isCall, touchV, idsOf, mapId, touchB, p_buildSlice, buildSliceV, reps, fillV, p_convert, p_slice, evO, p_makeSlice, sid_some, soff_some, Nat.reduceLT, Nat.reduceLeDiff, Nat.reduceEqDiff, Nat.reduceAdd, Nat.reduceMul, Int.reduceBEq, Int.reduceEq, Int.reduceNeg, Int.reduceLT, Int.reduceLE, Int.reduceAdd, Int.reduceSub, Int.reduceMul, Int.reduceToNat, Int.reduceGT, Nat.reduceBEq, Nat.reducePow, Nat.reduceGT, reduceCtorEq, ↓reduceIte, hg, lx, ly, eql_23, eqt_23, hb, h1, eq_true h2, h3]
      exact ex
    · rw [if_neg (by omega)]
      simp -dsimp (disch := first | with_reducible assumption | omega | (intro h_; cases h_; done) | (simp only [LN] <;> omega) | (simp only [LF]; done) | (repeat (first | with_reducible assumption | apply Ext.refl | apply Ext.app | (apply Ext.set <;> omega) | (refine Ext.trans ?_ (by assumption))))) only [AX, TY, gV, dstOf, p_makeFunc, p_mapUpdate, mapPut, entsOf, p_lookup, p_extract, p_nilCheck, oneV, p_load, p_store, p_binOp, p_unOp, p_indexAddr, p_index, p_box, p_build, evParts, builtinV, load1, ldc, splice, minds, disj, rcOf, isCall, touchV, idsOf, mapId, touchB, p_buildSlice, buildSliceV, reps, fillV, p_convert, p_slice, evO, p_makeSlice, sid_some, soff_some, Nat.reduceLT, Nat.reduceLeDiff, Nat.reduceEqDiff, Nat.reduceAdd, Nat.reduceMul, Int.reduceBEq, Int.reduceEq, Int.reduceNeg, Int.reduceLT, Int.reduceLE, Int.reduceAdd, Int.reduceSub, Int.reduceMul, Int.reduceToNat, Int.reduceGT, Nat.reduceBEq, Nat.reducePow, Nat.reduceGT, reduceCtorEq, ↓reduceIte, hg, lx, ly, eql_23, eqt_23, hb, h1, eq_true h2, h3]
      exact ex
  · rw [if_neg (by omega)]
    simp -dsimp (disch := first | with_reducible assumption | omega | (intro h_; cases h_; done) | (simp only [LN] <;> omega) | (simp only [LF]; done) | (repeat (first | with_reducible assumption | apply Ext.refl | apply Ext.app | (apply Ext.set <;> omega) | (refine Ext.trans ?_ (by assumption))))) only [AX, TY, gV, dstOf, p_makeFunc, p_mapUpdate, mapPut, entsOf, p_lookup, p_extract, p_nilCheck, oneV, p_load, p_store, p_binOp, p_unOp, p_indexAddr, p_index, p_box, p_build, evParts, builtinV, load1, ldc, splice, minds, disj, rcOf, isCall, touchV, idsOf, mapId, touchB, p_buildSlice, buildSliceV, reps, fillV, p_convert, p_slice, evO, p_makeSlice, sid_some, soff_some, Nat.reduceLT, Nat.reduceLeDiff, Nat.reduceEqDiff, Nat.reduceAdd, Nat.reduceMul, Int.reduceBEq, Int.reduceEq, Int.reduceNeg, Int.reduceLT, Int.reduceLE, Int.reduceAdd, Int.reduceSub, Int.reduceMul, Int.reduceToNat, Int.reduceGT, Nat.reduceBEq, Nat.reducePow, Nat.reduceGT, reduceCtorEq, ↓reduceIte, hg, lx, ly, eql_23, eqt_23, h1, h2, false_and]
    exact ex
/-- An identifier put where it belongs. -/
def PutR (ys : List Rid) (x : Rid) (i : Nat) (done : Bool) (os : List Rid) : Prop :=
  if done then ∃ k, k < i ∧ os = ys.take k ++ x :: (ys.take i).drop k ∧ (∀ y ∈ ys.take k, cmpR y x < 0) ∧ ∀ y ∈ ys.drop k, cmpR x y < 0
  else os = ys.take i ∧ ∀ y ∈ ys.take i, cmpR y x < 0
theorem PutR.asc {ys os : List Rid} {x : Rid} {d : Bool} (hs : AscR ys) (q : PutR ys x ys.length d os) : (d = true → AscR os ∧ ∀ y, y ∈ os ↔ y ∈ ys ∨ y = x) ∧ (d = false → AscR (os ++ [x]) ∧ ∀ y, y ∈ os ++ [x] ↔ y ∈ ys ∨ y = x) := by
  have mk : ∀ k, (∀ y ∈ ys.take k, cmpR y x < 0) → (∀ y ∈ ys.drop k, cmpR x y < 0) → AscR (ys.take k ++ x :: ys.drop k) ∧ ∀ y, y ∈ ys.take k ++ x :: ys.drop k ↔ y ∈ ys ∨ y = x := fun k h1 h2 => by
    constructor
    · have hs' := hs
      unfold AscR at hs' ⊢
      rw [← List.take_append_drop k ys, List.pairwise_append] at hs'
      rw [List.pairwise_append, List.pairwise_cons]
      refine ⟨hs'.1, ⟨h2, hs'.2.1⟩, fun a ha b hb => ?_⟩
      rcases List.mem_cons.1 hb with rfl | hb
      · exact h1 a ha
      · exact hs'.2.2 a ha b hb
    · intro y
      rw [List.mem_append, List.mem_cons, ← or_assoc, or_right_comm, ← List.mem_append, List.take_append_drop]
  unfold PutR at q
  constructor
  · rintro rfl
    rw [if_pos rfl] at q
    obtain ⟨k, hk, rfl, h1, h2⟩ := q
    rw [List.take_length]
    exact mk k h1 h2
  · rintro rfl
    rw [if_neg (by simp)] at q
    obtain ⟨rfl, h1⟩ := q
    have := mk ys.length h1 (by simp)
    simpa using this
theorem PutR.len {ys os : List Rid} {x : Rid} {i : Nat} (q : PutR ys x i false os) : os.length ≤ i := by
  unfold PutR at q
  rw [if_neg (by simp)] at q
  rw [q.1, List.length_take]; omega
theorem PutR.init (ys : List Rid) (x : Rid) : PutR ys x 0 false [] := by unfold PutR; simp
theorem PutR.step {ys os : List Rid} {x : Rid} {i : Nat} (hi : i < ys.length) (q : PutR ys x i true os) : PutR ys x (i + 1) true (os ++ [ys[i]]) := by
  unfold PutR at q ⊢
  rw [if_pos rfl] at q ⊢
  obtain ⟨k, hk, rfl, h1, h2⟩ := q
  refine ⟨k, by omega, ?_, h1, h2⟩
  rw [List.take_succ_eq_append_getElem hi, List.drop_append_of_le_length (by rw [List.length_take]; omega), List.append_assoc, List.cons_append]
theorem PutR.put {ys os : List Rid} {x : Rid} {i : Nat} (hs : AscR ys) (hi : i < ys.length) (hc : cmpR x ys[i] < 0) (q : PutR ys x i false os) : PutR ys x (i + 1) true (os ++ [x] ++ [ys[i]]) := by
  unfold PutR at q ⊢
  rw [if_neg (by simp)] at q
  rw [if_pos rfl]
  obtain ⟨rfl, h1⟩ := q
  refine ⟨i, by omega, ?_, h1, fun y hy => ?_⟩
  · rw [List.take_succ_eq_append_getElem hi, List.drop_append_of_le_length (by rw [List.length_take]; omega), List.drop_of_length_le (by rw [List.length_take]; omega)]
    simp
  · rw [List.drop_eq_getElem_cons hi] at hy
    rcases List.mem_cons.1 hy with rfl | hy
    · exact hc
    · have hs' := hs
      unfold AscR at hs'
      rw [← List.take_append_drop i ys, List.pairwise_append, List.drop_eq_getElem_cons hi, List.pairwise_cons] at hs'
      exact cmpR_trans hc (hs'.2.1.1 y hy)
theorem PutR.go {ys os : List Rid} {x : Rid} {i : Nat} (hi : i < ys.length) (hx : x ∉ ys) (hc : ¬ cmpR x ys[i] < 0) (q : PutR ys x i false os) : PutR ys x (i + 1) false (os ++ [ys[i]]) := by
  unfold PutR at q ⊢
  rw [if_neg (by simp)] at q ⊢
  obtain ⟨rfl, h1⟩ := q
  refine ⟨(List.take_succ_eq_append_getElem hi).symm, fun y hy => ?_⟩
  rw [List.take_succ_eq_append_getElem hi] at hy
  rcases List.mem_append.1 hy with hy | hy
  · exact h1 y hy
  · rw [List.mem_singleton] at hy
    subst hy
    rw [cmpR_swap x]
    have : ¬ cmpR x ys[i] = 0 := fun e => hx (by rw [cmpR_zero e]; exact List.getElem_mem hi)
    omega
theorem insert49_ok {h : Heap} {p : Option (Nat × Nat)} {c : Option Nat} {ys : List Rid} (hs : Sl h p 2 Rid.enc ys) (ha : AscR ys) (hB : ys.length ≤ 100000) (x : Rid) :
    WR (callE Try.prog hk 49 [.slice p ys.length c, .agg [.int .i64 x.a, .int .i64 x.b]] h) fun r h' => Ext h h' ∧ SetR h' r fun y => y ∈ ys ∨ y = x := by
  have hn := hs.nil'
  have hl := hs.small
  refine WR.call (hH := rfl) Try.func49 rfl (n := 48) rfl rfl (by simp) ?_
  obtain ⟨g, hg, gx, e1⟩ : ∃ g, h ++ [O.cells [V.int .i64 x.a, V.int .i64 x.b] .rw] = g ∧ g[h.length]? = some (O.cells [V.int .i64 x.a, V.int .i64 x.b] .rw) ∧ Ext h g := ⟨_, rfl, snoc_last _ rfl, (by (repeat (first | assumption | apply Ext.refl | apply Ext.app | (apply Ext.set <;> omega) | exact Ext.trans (by assumption) (by assumption) | (refine Ext.trans ?_ (by assumption)))))⟩
  have lx := loadN_fact gx
  have hs2 := hs.ext e1
  try simp only [Rid.enc]
  simp -dsimp (disch := first | with_reducible assumption | omega | (intro h_; cases h_; done) | (simp only [LN] <;> omega) | (simp only [LF]; done) | (repeat (first | with_reducible assumption | apply Ext.refl | apply Ext.app | (apply Ext.set <;> omega) | (refine Ext.trans ?_ (by assumption))))) only [AX, TY, gV, dstOf, p_makeFunc, p_mapUpdate, mapPut, entsOf, p_lookup, p_extract, p_nilCheck, oneV, p_load, p_store, p_binOp, p_unOp, p_indexAddr, p_index, p_box, p_build, evParts, builtinV, load1, ldc, splice, minds, disj, rcOf, isCall, touchV, idsOf, mapId, touchB, p_buildSlice, buildSliceV, reps, fillV, p_convert, p_slice, evO, p_makeSlice, sid_some, soff_some, Nat.reduceLT, Nat.reduceLeDiff, Nat.reduceEqDiff, Nat.reduceAdd, Nat.reduceMul, Int.reduceBEq, Int.reduceEq, Int.reduceNeg, Int.reduceLT, Int.reduceLE, Int.reduceAdd, Int.reduceSub, Int.reduceMul, Int.reduceToNat, Int.reduceGT, Nat.reduceBEq, Nat.reducePow, Nat.reduceGT, reduceCtorEq, ↓reduceIte, hg, lx]
  refine (in57_ok hs2 x).mono ?_
  rintro _ h1 ⟨e2, b, rfl, hb⟩
  have e02 := e1.trans e2
  cases b
  rotate_left
  · simp -dsimp (disch := first | with_reducible assumption | omega | (intro h_; cases h_; done) | (simp only [LN] <;> omega) | (simp only [LF]; done) | (repeat (first | with_reducible assumption | apply Ext.refl | apply Ext.app | (apply Ext.set <;> omega) | (refine Ext.trans ?_ (by assumption))))) only [AX, TY, gV, dstOf, p_makeFunc, p_mapUpdate, mapPut, entsOf, p_lookup, p_extract, p_nilCheck, oneV, p_load, p_store, p_binOp, p_unOp, p_indexAddr, p_index, p_box, p_build, evParts, builtinV, load1, ldc, splice, minds, disj, rcOf, isCall, touchV, idsOf, mapId, touchB, p_buildSlice, buildSliceV, reps, fillV, p_convert, p_slice, evO, p_makeSlice, sid_some, soff_some, Nat.reduceLT, Nat.reduceLeDiff, Nat.reduceEqDiff, Nat.reduceAdd, Nat.reduceMul, Int.reduceBEq, Int.reduceEq, Int.reduceNeg, Int.reduceLT, Int.reduceLE, Int.reduceAdd, Int.reduceSub, Int.reduceMul, Int.reduceToNat, Int.reduceGT, Nat.reduceBEq, Nat.reducePow, Nat.reduceGT, reduceCtorEq, ↓reduceIte]
    have hx := hb.1 rfl
    refine ⟨e02, p, c, ys, rfl, hs.ext e02, ha, fun y => ?_⟩
    constructor
    · exact .inl
    · rintro (q | rfl)
      · exact q
      · exact hx
  have hx : x ∉ ys := fun q => by have := hb.2 q; cases this
  have hs3 := hs.ext e02
  have gx1 := e2 _ _ gx
  have le1 := e02.le
  have llx := lt_of_some gx1
  simp -dsimp (disch := first | with_reducible assumption | omega | (intro h_; cases h_; done) | (simp only [LN] <;> omega) | (simp only [LF]; done) | (repeat (first | with_reducible assumption | apply Ext.refl | apply Ext.app | (apply Ext.set <;> omega) | (refine Ext.trans ?_ (by assumption))))) only [AX, TY, gV, dstOf, p_makeFunc, p_mapUpdate, mapPut, entsOf, p_lookup, p_extract, p_nilCheck, oneV, p_load, p_store, p_binOp, p_unOp, p_indexAddr, p_index, p_box, p_build, evParts, builtinV, load1, ldc, splice, minds, disj, rcOf, isCall, touchV, idsOf, mapId, touchB, p_buildSlice, buildSliceV, reps, fillV, p_convert, p_slice, evO, p_makeSlice, sid_some, soff_some, Nat.reduceLT, Nat.reduceLeDiff, Nat.reduceEqDiff, Nat.reduceAdd, Nat.reduceMul, Int.reduceBEq, Int.reduceEq, Int.reduceNeg, Int.reduceLT, Int.reduceLE, Int.reduceAdd, Int.reduceSub, Int.reduceMul, Int.reduceToNat, Int.reduceGT, Nat.reduceBEq, Nat.reducePow, Nat.reduceGT, reduceCtorEq, ↓reduceIte]
  refine W.loop (fun m τ hh => Ext h1 hh ∧ ∃ (i : Nat) (dn : Bool) (po : Option (Nat × Nat)) (co oid : Option Nat) (os : List Rid), m + i = ys.length ∧ τ 0 = .slice p ys.length c ∧ τ 3 = .ptr (some (h.length, 0)) ∧ τ 5 = .slice po os.length co ∧ τ 6 = .bool dn ∧ τ 7 = .int .i64 i ∧ Gr h1.length hh po co oid 2 Rid.enc os ∧ os.length ≤ i + 1 ∧ PutR ys x i dn os) ?_ (m := ys.length) ?_
  rotate_left
  · refine ⟨(by (repeat (first | assumption | apply Ext.refl | apply Ext.app | (apply Ext.set <;> omega) | exact Ext.trans (by assumption) (by assumption) | (refine Ext.trans ?_ (by assumption))))), 0, false, some (h1.length, 0), some 0, some h1.length, [], by simp, rfl, rfl, rfl, rfl, rfl, Gr.built (C := []) (snoc_last _ rfl) rfl (Nat.le_refl _) (by simp) (by simp) (by simp) rfl, by simp, PutR.init ys x⟩
  rintro m τ hh ⟨e, i, dn, po, co, oid, os, hm, t0, t3, t5, t6, t7, gr, hol, hp⟩
  have le2 := e.le
  have gxh := e _ _ gx1
  have lxh := loadN_fact gxh
  by_cases h3 : (i : Int) < (ys.length : Int)
  rotate_left
  · have hi : i = ys.length := by omega
    subst hi
    cases dn
    · simp -dsimp (disch := first | with_reducible assumption | omega | (intro h_; cases h_; done) | (simp only [LN] <;> omega) | (simp only [LF]; done) | (repeat (first | with_reducible assumption | apply Ext.refl | apply Ext.app | (apply Ext.set <;> omega) | (refine Ext.trans ?_ (by assumption))))) only [AX, TY, gV, dstOf, p_makeFunc, p_mapUpdate, mapPut, entsOf, p_lookup, p_extract, p_nilCheck, oneV, p_load, p_store, p_binOp, p_unOp, p_indexAddr, p_index, p_box, p_build, evParts, builtinV, load1, ldc, splice, minds, disj, rcOf, isCall, touchV, idsOf, mapId, touchB, p_buildSlice, buildSliceV, reps, fillV, p_convert, p_slice, evO, p_makeSlice, sid_some, soff_some, Nat.reduceLT, Nat.reduceLeDiff, Nat.reduceEqDiff, Nat.reduceAdd, Nat.reduceMul, Int.reduceBEq, Int.reduceEq, Int.reduceNeg, Int.reduceLT, Int.reduceLE, Int.reduceAdd, Int.reduceSub, Int.reduceMul, Int.reduceToNat, Int.reduceGT, Nat.reduceBEq, Nat.reducePow, Nat.reduceGT, reduceCtorEq, ↓reduceIte, t0, t3, t5, t6, t7, h3, lxh]
      obtain ⟨p5, c5, oid5, h5, hap, gr5, ho5, hl5, hk5, hb5⟩ := ((gr.ext (Ext.refl hh)).ext (hh := hh ++ [O.cells (Rid.enc x) Kd.rw]) (by (repeat (first | assumption | apply Ext.refl | apply Ext.app | (apply Ext.set <;> omega) | exact Ext.trans (by assumption) (by assumption) | (refine Ext.trans ?_ (by assumption)))))).push (bytes := 16) (vc := some 1) (by simp; omega) (snoc_last _ rfl) rfl rfl (by omega) (by omega)
      simp only [Rid.enc] at hap
      simp -dsimp (disch := first | with_reducible assumption | omega | (intro h_; cases h_; done) | (simp only [LN] <;> omega) | (simp only [LF]; done) | (repeat (first | with_reducible assumption | apply Ext.refl | apply Ext.app | (apply Ext.set <;> omega) | (refine Ext.trans ?_ (by assumption))))) only [AX, TY, gV, dstOf, p_makeFunc, p_mapUpdate, mapPut, entsOf, p_lookup, p_extract, p_nilCheck, oneV, p_load, p_store, p_binOp, p_unOp, p_indexAddr, p_index, p_box, p_build, evParts, builtinV, load1, ldc, splice, minds, disj, rcOf, isCall, touchV, idsOf, mapId, touchB, p_buildSlice, buildSliceV, reps, fillV, p_convert, p_slice, evO, p_makeSlice, sid_some, soff_some, Nat.reduceLT, Nat.reduceLeDiff, Nat.reduceEqDiff, Nat.reduceAdd, Nat.reduceMul, Int.reduceBEq, Int.reduceEq, Int.reduceNeg, Int.reduceLT, Int.reduceLE, Int.reduceAdd, Int.reduceSub, Int.reduceMul, Int.reduceToNat, Int.reduceGT, Nat.reduceBEq, Nat.reducePow, Nat.reduceGT, reduceCtorEq, ↓reduceIte, hap]
      have q := hp.asc ha
      have ex5 : Ext h1 h5 := Ext.below (h := hh ++ [O.cells (Rid.enc x) Kd.rw]) (by (repeat (first | assumption | apply Ext.refl | apply Ext.app | (apply Ext.set <;> omega) | exact Ext.trans (by assumption) (by assumption) | (refine Ext.trans ?_ (by assumption))))) (Nat.le_refl _) hb5
      exact ⟨e02.trans ex5, p5, c5, os ++ [x], by simp, gr5.sl, (q.2 rfl).1, (q.2 rfl).2⟩
    · simp -dsimp (disch := first | with_reducible assumption | omega | (intro h_; cases h_; done) | (simp only [LN] <;> omega) | (simp only [LF]; done) | (repeat (first | with_reducible assumption | apply Ext.refl | apply Ext.app | (apply Ext.set <;> omega) | (refine Ext.trans ?_ (by assumption))))) only [AX, TY, gV, dstOf, p_makeFunc, p_mapUpdate, mapPut, entsOf, p_lookup, p_extract, p_nilCheck, oneV, p_load, p_store, p_binOp, p_unOp, p_indexAddr, p_index, p_box, p_build, evParts, builtinV, load1, ldc, splice, minds, disj, rcOf, isCall, touchV, idsOf, mapId, touchB, p_buildSlice, buildSliceV, reps, fillV, p_convert, p_slice, evO, p_makeSlice, sid_some, soff_some, Nat.reduceLT, Nat.reduceLeDiff, Nat.reduceEqDiff, Nat.reduceAdd, Nat.reduceMul, Int.reduceBEq, Int.reduceEq, Int.reduceNeg, Int.reduceLT, Int.reduceLE, Int.reduceAdd, Int.reduceSub, Int.reduceMul, Int.reduceToNat, Int.reduceGT, Nat.reduceBEq, Nat.reducePow, Nat.reduceGT, reduceCtorEq, ↓reduceIte, t0, t3, t5, t6, t7, h3]
      have q := hp.asc ha
      exact ⟨e02.trans e, po, co, os, rfl, gr.sl, (q.1 rfl).1, (q.1 rfl).2⟩
  have hi : i < ys.length := by omega
  have hla := fun hh e => hs3.load0 (hh := hh) e hi (m := 2) (by decide)
  have ext4 := e
  simp -dsimp (disch := first | with_reducible assumption | omega | (intro h_; cases h_; done) | (simp only [LN] <;> omega) | (simp only [LF]; done) | (repeat (first | with_reducible assumption | apply Ext.refl | apply Ext.app | (apply Ext.set <;> omega) | (refine Ext.trans ?_ (by assumption))))) only [AX, TY, gV, dstOf, p_makeFunc, p_mapUpdate, mapPut, entsOf, p_lookup, p_extract, p_nilCheck, oneV, p_load, p_store, p_binOp, p_unOp, p_indexAddr, p_index, p_box, p_build, evParts, builtinV, load1, ldc, splice, minds, disj, rcOf, isCall, touchV, idsOf, mapId, touchB, p_buildSlice, buildSliceV, reps, fillV, p_convert, p_slice, evO, p_makeSlice, sid_some, soff_some, Nat.reduceLT, Nat.reduceLeDiff, Nat.reduceEqDiff, Nat.reduceAdd, Nat.reduceMul, Int.reduceBEq, Int.reduceEq, Int.reduceNeg, Int.reduceLT, Int.reduceLE, Int.reduceAdd, Int.reduceSub, Int.reduceMul, Int.reduceToNat, Int.reduceGT, Nat.reduceBEq, Nat.reducePow, Nat.reduceGT, reduceCtorEq, ↓reduceIte, t0, t3, t5, t6, t7, h3]
  refine W.drawn [(0, []), (1, []), (2, []), (3, []), (4, [3]), (5, [4, 3]), (6, [3]), (7, [3]), (8, []), (9, []), (10, [])] (by decide +kernel) ?_
  cases dn
  rotate_left
  · have hp2 := hp.step hi
    generalize ys[i] = y at hla hp2
    simp only [Rid.enc, List.take] at hla
    simp -dsimp (disch := first | with_reducible assumption | omega | (intro h_; cases h_; done) | (simp only [LN] <;> omega) | (simp only [LF]; done) | (repeat (first | with_reducible assumption | apply Ext.refl | apply Ext.app | (apply Ext.set <;> omega) | (refine Ext.trans ?_ (by assumption))))) only [AX, TY, gV, dstOf, p_makeFunc, p_mapUpdate, mapPut, entsOf, p_lookup, p_extract, p_nilCheck, oneV, p_load, p_store, p_binOp, p_unOp, p_indexAddr, p_index, p_box, p_build, evParts, builtinV, load1, ldc, splice, minds, disj, rcOf, isCall, touchV, idsOf, mapId, touchB, p_buildSlice, buildSliceV, reps, fillV, p_convert, p_slice, evO, p_makeSlice, sid_some, soff_some, Nat.reduceLT, Nat.reduceLeDiff, Nat.reduceEqDiff, Nat.reduceAdd, Nat.reduceMul, Int.reduceBEq, Int.reduceEq, Int.reduceNeg, Int.reduceLT, Int.reduceLE, Int.reduceAdd, Int.reduceSub, Int.reduceMul, Int.reduceToNat, Int.reduceGT, Nat.reduceBEq, Nat.reducePow, Nat.reduceGT, reduceCtorEq, ↓reduceIte, t0, t3, t5, t6, t7, h3, hla hh e]
    obtain ⟨p5, c5, oid5, h5, hap, gr5, ho5, hl5, hk5, hb5⟩ := ((gr.ext (Ext.refl hh)).ext (hh := hh ++ [O.cells (Rid.enc y) Kd.rw]) (by (repeat (first | assumption | apply Ext.refl | apply Ext.app | (apply Ext.set <;> omega) | exact Ext.trans (by assumption) (by assumption) | (refine Ext.trans ?_ (by assumption)))))).push (bytes := 16) (vc := some 1) (by simp; omega) (snoc_last _ rfl) rfl rfl (by omega) (by omega)
    simp only [Rid.enc] at hap
    simp -dsimp (disch := first | with_reducible assumption | omega | (intro h_; cases h_; done) | (simp only [LN] <;> omega) | (simp only [LF]; done) | (repeat (first | with_reducible assumption | apply Ext.refl | apply Ext.app | (apply Ext.set <;> omega) | (refine Ext.trans ?_ (by assumption))))) only [AX, TY, gV, dstOf, p_makeFunc, p_mapUpdate, mapPut, entsOf, p_lookup, p_extract, p_nilCheck, oneV, p_load, p_store, p_binOp, p_unOp, p_indexAddr, p_index, p_box, p_build, evParts, builtinV, load1, ldc, splice, minds, disj, rcOf, isCall, touchV, idsOf, mapId, touchB, p_buildSlice, buildSliceV, reps, fillV, p_convert, p_slice, evO, p_makeSlice, sid_some, soff_some, Nat.reduceLT, Nat.reduceLeDiff, Nat.reduceEqDiff, Nat.reduceAdd, Nat.reduceMul, Int.reduceBEq, Int.reduceEq, Int.reduceNeg, Int.reduceLT, Int.reduceLE, Int.reduceAdd, Int.reduceSub, Int.reduceMul, Int.reduceToNat, Int.reduceGT, Nat.reduceBEq, Nat.reducePow, Nat.reduceGT, reduceCtorEq, ↓reduceIte, t0, t3, t5, t6, t7, hap, wrap_in]
    have ex5 : Ext h1 h5 := Ext.below (h := hh ++ [O.cells (Rid.enc y) Kd.rw]) (by (repeat (first | assumption | apply Ext.refl | apply Ext.app | (apply Ext.set <;> omega) | exact Ext.trans (by assumption) (by assumption) | (refine Ext.trans ?_ (by assumption))))) (Nat.le_refl _) hb5
    refine ⟨m - 1, by omega, ex5, i + 1, true, p5, c5, oid5, os ++ [y], ?_⟩
    repeat' (first | assumption | refine And.intro ?_ ?_)
    all_goals first | omega | (simp; done) | (simp; omega; done) | skip
  by_cases hc : cmpR x ys[i] < 0
  · have hoi := hp.len
    have hp2 := hp.put ha hi hc
    generalize ys[i] = y at hla hp2 hc
    have hcmp := cmp58_ok (h := hh) x y
    simp only [Rid.enc, List.take] at hla hcmp
    simp -dsimp (disch := first | with_reducible assumption | omega | (intro h_; cases h_; done) | (simp only [LN] <;> omega) | (simp only [LF]; done) | (repeat (first | with_reducible assumption | apply Ext.refl | apply Ext.app | (apply Ext.set <;> omega) | (refine Ext.trans ?_ (by assumption))))) only [AX, TY, gV, dstOf, p_makeFunc, p_mapUpdate, mapPut, entsOf, p_lookup, p_extract, p_nilCheck, oneV, p_load, p_store, p_binOp, p_unOp, p_indexAddr, p_index, p_box, p_build, evParts, builtinV, load1, ldc, splice, minds, disj, rcOf, isCall, touchV, idsOf, mapId, touchB, p_buildSlice, buildSliceV, reps, fillV, p_convert, p_slice, evO, p_makeSlice, sid_some, soff_some, Nat.reduceLT, Nat.reduceLeDiff, Nat.reduceEqDiff, Nat.reduceAdd, Nat.reduceMul, Int.reduceBEq, Int.reduceEq, Int.reduceNeg, Int.reduceLT, Int.reduceLE, Int.reduceAdd, Int.reduceSub, Int.reduceMul, Int.reduceToNat, Int.reduceGT, Nat.reduceBEq, Nat.reducePow, Nat.reduceGT, reduceCtorEq, ↓reduceIte, t0, t3, t5, t6, t7, h3, hla hh e, lxh]
    refine hcmp.mono ?_
    rintro _ h4 ⟨e4, rfl⟩
    have gx4 := loadN_fact (e4 _ _ gxh)
    have ex14 := e.trans e4
    have le4 := ex14.le
    simp -dsimp (disch := first | with_reducible assumption | omega | (intro h_; cases h_; done) | (simp only [LN] <;> omega) | (simp only [LF]; done) | (repeat (first | with_reducible assumption | apply Ext.refl | apply Ext.app | (apply Ext.set <;> omega) | (refine Ext.trans ?_ (by assumption))))) only [AX, TY, gV, dstOf, p_makeFunc, p_mapUpdate, mapPut, entsOf, p_lookup, p_extract, p_nilCheck, oneV, p_load, p_store, p_binOp, p_unOp, p_indexAddr, p_index, p_box, p_build, evParts, builtinV, load1, ldc, splice, minds, disj, rcOf, isCall, touchV, idsOf, mapId, touchB, p_buildSlice, buildSliceV, reps, fillV, p_convert, p_slice, evO, p_makeSlice, sid_some, soff_some, Nat.reduceLT, Nat.reduceLeDiff, Nat.reduceEqDiff, Nat.reduceAdd, Nat.reduceMul, Int.reduceBEq, Int.reduceEq, Int.reduceNeg, Int.reduceLT, Int.reduceLE, Int.reduceAdd, Int.reduceSub, Int.reduceMul, Int.reduceToNat, Int.reduceGT, Nat.reduceBEq, Nat.reducePow, Nat.reduceGT, reduceCtorEq, ↓reduceIte, t0, t3, t5, t6, t7, hc, gx4]
    obtain ⟨p5, c5, oid5, h5, hap, gr5, ho5, hl5, hk5, hb5⟩ := ((gr.ext e4).ext (hh := h4 ++ [O.cells (Rid.enc x) Kd.rw]) (by (repeat (first | assumption | apply Ext.refl | apply Ext.app | (apply Ext.set <;> omega) | exact Ext.trans (by assumption) (by assumption) | (refine Ext.trans ?_ (by assumption)))))).push (bytes := 16) (vc := some 1) (by simp; omega) (snoc_last _ rfl) rfl rfl (by omega) (by omega)
    simp only [Rid.enc] at hap
    simp -dsimp (disch := first | with_reducible assumption | omega | (intro h_; cases h_; done) | (simp only [LN] <;> omega) | (simp only [LF]; done) | (repeat (first | with_reducible assumption | apply Ext.refl | apply Ext.app | (apply Ext.set <;> omega) | (refine Ext.trans ?_ (by assumption))))) only [AX, TY, gV, dstOf, p_makeFunc, p_mapUpdate, mapPut, entsOf, p_lookup, p_extract, p_nilCheck, oneV, p_load, p_store, p_binOp, p_unOp, p_indexAddr, p_index, p_box, p_build, evParts, builtinV, load1, ldc, splice, minds, disj, rcOf, isCall, touchV, idsOf, mapId, touchB, p_buildSlice, buildSliceV, reps, fillV, p_convert, p_slice, evO, p_makeSlice, sid_some, soff_some, Nat.reduceLT, Nat.reduceLeDiff, Nat.reduceEqDiff, Nat.reduceAdd, Nat.reduceMul, Int.reduceBEq, Int.reduceEq, Int.reduceNeg, Int.reduceLT, Int.reduceLE, Int.reduceAdd, Int.reduceSub, Int.reduceMul, Int.reduceToNat, Int.reduceGT, Nat.reduceBEq, Nat.reducePow, Nat.reduceGT, reduceCtorEq, ↓reduceIte, t0, t3, t5, t6, t7, hap]
    have ex5 : Ext h1 h5 := Ext.below (h := h4 ++ [O.cells (Rid.enc x) Kd.rw]) (by (repeat (first | assumption | apply Ext.refl | apply Ext.app | (apply Ext.set <;> omega) | exact Ext.trans (by assumption) (by assumption) | (refine Ext.trans ?_ (by assumption))))) (Nat.le_refl _) hb5
    clear hap
    obtain ⟨gr, hl5', hap⟩ : Gr h1.length h5 p5 c5 oid5 2 Rid.enc (os ++ [x]) ∧ h1.length ≤ h5.length ∧ True := ⟨gr5, ex5.le, trivial⟩
    have hla5 := hla h5 ex5
    clear gr5 hk5 ho5 hl5
    obtain ⟨p6, c6, oid6, h6, hap, gr6, ho6, hl6, hk6, hb6⟩ := (gr.ext (hh := h5 ++ [O.cells (Rid.enc y) Kd.rw]) (by (repeat (first | assumption | apply Ext.refl | apply Ext.app | (apply Ext.set <;> omega) | exact Ext.trans (by assumption) (by assumption) | (refine Ext.trans ?_ (by assumption)))))).push (bytes := 16) (vc := some 1) (by simp; omega) (snoc_last _ rfl) rfl rfl (by simp; omega) (by simp; omega)
    simp only [Rid.enc, List.length_append, List.length_cons, List.length_nil, Nat.zero_add] at hap
    have ex6 : Ext h1 h6 := Ext.below (h := h5 ++ [O.cells (Rid.enc y) Kd.rw]) (by (repeat (first | assumption | apply Ext.refl | apply Ext.app | (apply Ext.set <;> omega) | exact Ext.trans (by assumption) (by assumption) | (refine Ext.trans ?_ (by assumption))))) (Nat.le_refl _) hb6
    simp -dsimp (disch := first | with_reducible assumption | omega | (intro h_; cases h_; done) | (simp only [LN] <;> omega) | (simp only [LF]; done) | (repeat (first | with_reducible assumption | apply Ext.refl | apply Ext.app | (apply Ext.set <;> omega) | (refine Ext.trans ?_ (by assumption))))) only [AX, TY, gV, dstOf, p_makeFunc, p_mapUpdate, mapPut, entsOf, p_lookup, p_extract, p_nilCheck, oneV, p_load, p_store, p_binOp, p_unOp, p_indexAddr, p_index, p_box, p_build, evParts, builtinV, load1, ldc, splice, minds, disj, rcOf, isCall, touchV, idsOf, mapId, touchB, p_buildSlice, buildSliceV, reps, fillV, p_convert, p_slice, evO, p_makeSlice, sid_some, soff_some, Nat.reduceLT, Nat.reduceLeDiff, Nat.reduceEqDiff, Nat.reduceAdd, Nat.reduceMul, Int.reduceBEq, Int.reduceEq, Int.reduceNeg, Int.reduceLT, Int.reduceLE, Int.reduceAdd, Int.reduceSub, Int.reduceMul, Int.reduceToNat, Int.reduceGT, Nat.reduceBEq, Nat.reducePow, Nat.reduceGT, reduceCtorEq, ↓reduceIte, t0, t3, t5, t6, t7, hla5, hap, wrap_in]
    refine ⟨m - 1, by omega, ex6, i + 1, true, p6, c6, oid6, os ++ [x] ++ [y], ?_⟩
    repeat' (first | assumption | refine And.intro ?_ ?_)
    all_goals first | omega | (simp; done) | (simp; omega; done) | skip
  · have hp2 := hp.go hi hx hc
    generalize ys[i] = y at hla hp2 hc
    have hcmp := cmp58_ok (h := hh) x y
    simp only [Rid.enc, List.take] at hla hcmp
    simp -dsimp (disch := first | with_reducible assumption | omega | (intro h_; cases h_; done) | (simp only [LN] <;> omega) | (simp only [LF]; done) | (repeat (first | with_reducible assumption | apply Ext.refl | apply Ext.app | (apply Ext.set <;> omega) | (refine Ext.trans ?_ (by assumption))))) only [AX, TY, gV, dstOf, p_makeFunc, p_mapUpdate, mapPut, entsOf, p_lookup, p_extract, p_nilCheck, oneV, p_load, p_store, p_binOp, p_unOp, p_indexAddr, p_index, p_box, p_build, evParts, builtinV, load1, ldc, splice, minds, disj, rcOf, isCall, touchV, idsOf, mapId, touchB, p_buildSlice, buildSliceV, reps, fillV, p_convert, p_slice, evO, p_makeSlice, sid_some, soff_some, Nat.reduceLT, Nat.reduceLeDiff, Nat.reduceEqDiff, Nat.reduceAdd, Nat.reduceMul, Int.reduceBEq, Int.reduceEq, Int.reduceNeg, Int.reduceLT, Int.reduceLE, Int.reduceAdd, Int.reduceSub, Int.reduceMul, Int.reduceToNat, Int.reduceGT, Nat.reduceBEq, Nat.reducePow, Nat.reduceGT, reduceCtorEq, ↓reduceIte, t0, t3, t5, t6, t7, h3, hla hh e, lxh]
    refine hcmp.mono ?_
    rintro _ h4 ⟨e4, rfl⟩
    have ex14 := e.trans e4
    have le4 := ex14.le
    have hla4 := hla h4 ex14
    simp -dsimp (disch := first | with_reducible assumption | omega | (intro h_; cases h_; done) | (simp only [LN] <;> omega) | (simp only [LF]; done) | (repeat (first | with_reducible assumption | apply Ext.refl | apply Ext.app | (apply Ext.set <;> omega) | (refine Ext.trans ?_ (by assumption))))) only [AX, TY, gV, dstOf, p_makeFunc, p_mapUpdate, mapPut, entsOf, p_lookup, p_extract, p_nilCheck, oneV, p_load, p_store, p_binOp, p_unOp, p_indexAddr, p_index, p_box, p_build, evParts, builtinV, load1, ldc, splice, minds, disj, rcOf, isCall, touchV, idsOf, mapId, touchB, p_buildSlice, buildSliceV, reps, fillV, p_convert, p_slice, evO, p_makeSlice, sid_some, soff_some, Nat.reduceLT, Nat.reduceLeDiff, Nat.reduceEqDiff, Nat.reduceAdd, Nat.reduceMul, Int.reduceBEq, Int.reduceEq, Int.reduceNeg, Int.reduceLT, Int.reduceLE, Int.reduceAdd, Int.reduceSub, Int.reduceMul, Int.reduceToNat, Int.reduceGT, Nat.reduceBEq, Nat.reducePow, Nat.reduceGT, reduceCtorEq, ↓reduceIte, t0, t3, t5, t6, t7, hc, hla4]
    obtain ⟨p5, c5, oid5, h5, hap, gr5, ho5, hl5, hk5, hb5⟩ := ((gr.ext e4).ext (hh := h4 ++ [O.cells (Rid.enc y) Kd.rw]) (by (repeat (first | assumption | apply Ext.refl | apply Ext.app | (apply Ext.set <;> omega) | exact Ext.trans (by assumption) (by assumption) | (refine Ext.trans ?_ (by assumption)))))).push (bytes := 16) (vc := some 1) (by simp; omega) (snoc_last _ rfl) rfl rfl (by omega) (by omega)
    simp only [Rid.enc] at hap
    simp -dsimp (disch := first | with_reducible assumption | omega | (intro h_; cases h_; done) | (simp only [LN] <;> omega) | (simp only [LF]; done) | (repeat (first | with_reducible assumption | apply Ext.refl | apply Ext.app | (apply Ext.set <;> omega) | (refine Ext.trans ?_ (by assumption))))) only [AX, TY, gV, dstOf, p_makeFunc, p_mapUpdate, mapPut, entsOf, p_lookup, p_extract, p_nilCheck, oneV, p_load, p_store, p_binOp, p_unOp, p_indexAddr, p_index, p_box, p_build, evParts, builtinV, load1, ldc, splice, minds, disj, rcOf, isCall, touchV, idsOf, mapId, touchB, p_buildSlice, buildSliceV, reps, fillV, p_convert, p_slice, evO, p_makeSlice, sid_some, soff_some, Nat.reduceLT, Nat.reduceLeDiff, Nat.reduceEqDiff, Nat.reduceAdd, Nat.reduceMul, Int.reduceBEq, Int.reduceEq, Int.reduceNeg, Int.reduceLT, Int.reduceLE, Int.reduceAdd, Int.reduceSub, Int.reduceMul, Int.reduceToNat, Int.reduceGT, Nat.reduceBEq, Nat.reducePow, Nat.reduceGT, reduceCtorEq, ↓reduceIte, t0, t3, t5, t6, t7, hap, wrap_in]
    have ex5 : Ext h1 h5 := Ext.below (h := h4 ++ [O.cells (Rid.enc y) Kd.rw]) (by (repeat (first | assumption | apply Ext.refl | apply Ext.app | (apply Ext.set <;> omega) | exact Ext.trans (by assumption) (by assumption) | (refine Ext.trans ?_ (by assumption))))) (Nat.le_refl _) hb5
    refine ⟨m - 1, by omega, ex5, i + 1, false, p5, c5, oid5, os ++ [y], ?_⟩
    repeat' (first | assumption | refine And.intro ?_ ?_)
    all_goals first | omega | (simp; done) | (simp; omega; done) | skip
theorem len_of_sub : ∀ {a b : List Rid}, a.Nodup → (∀ x ∈ a, x ∈ b) → a.length ≤ b.length
  | [], _, _, _ => Nat.zero_le _
  | x :: a, b, hn, hs => by
    classical
    rw [List.nodup_cons] at hn
    have hx := hs x (by simp)
    have := len_of_sub (b := b.erase x) hn.2 fun y hy => (List.mem_erase_of_ne (fun e => hn.1 (by rw [← e]; exact hy))).2 (hs y (by simp [hy]))
    rw [List.length_erase_of_mem hx] at this
    have := List.length_pos_of_mem hx
    simp only [List.length_cons]
    omega
theorem norm37_ok {h : Heap} {p : Option (Nat × Nat)} {c : Option Nat} {ys : List Rid} (hs : Sl h p 2 Rid.enc ys) (hB : ys.length ≤ 50000) :
    WR (callE Try.prog hk 37 [.slice p ys.length c] h) fun r h' => Ext h h' ∧ SetR h' r (· ∈ ys) := by
  have hn := hs.nil'
  have hl := hs.small
  refine WR.call (hH := rfl) Try.func37 rfl (n := 19) rfl rfl (by simp) ?_
  simp -dsimp (disch := first | with_reducible assumption | omega | (intro h_; cases h_; done) | (simp only [LN] <;> omega) | (simp only [LF]; done) | (repeat (first | with_reducible assumption | apply Ext.refl | apply Ext.app | (apply Ext.set <;> omega) | (refine Ext.trans ?_ (by assumption))))) only [AX, TY, gV, dstOf, p_makeFunc, p_mapUpdate, mapPut, entsOf, p_lookup, p_extract, p_nilCheck, oneV, p_load, p_store, p_binOp, p_unOp, p_indexAddr, p_index, p_box, p_build, evParts, builtinV, load1, ldc, splice, minds, disj, rcOf, isCall, touchV, idsOf, mapId, touchB, p_buildSlice, buildSliceV, reps, fillV, p_convert, p_slice, evO, p_makeSlice, sid_some, soff_some, Nat.reduceLT, Nat.reduceLeDiff, Nat.reduceEqDiff, Nat.reduceAdd, Nat.reduceMul, Int.reduceBEq, Int.reduceEq, Int.reduceNeg, Int.reduceLT, Int.reduceLE, Int.reduceAdd, Int.reduceSub, Int.reduceMul, Int.reduceToNat, Int.reduceGT, Nat.reduceBEq, Nat.reducePow, Nat.reduceGT, reduceCtorEq, ↓reduceIte]
  refine W.loop (fun m τ hh => Ext h hh ∧ ∃ (i : Nat) (po : Option (Nat × Nat)) (co : Option Nat) (os : List Rid), m + i = ys.length ∧ τ 0 = .slice p ys.length c ∧ τ 3 = .slice po os.length co ∧ τ 4 = .int .i64 i ∧ Sl hh po 2 Rid.enc os ∧ AscR os ∧ ∀ x, x ∈ os ↔ x ∈ ys.take i) ?_ (m := ys.length) ?_
  rotate_left
  · exact ⟨(by (repeat (first | assumption | apply Ext.refl | apply Ext.app | (apply Ext.set <;> omega) | exact Ext.trans (by assumption) (by assumption) | (refine Ext.trans ?_ (by assumption))))), 0, some (h.length, 0), some 0, [], by simp, rfl, rfl, rfl, (Gr.built (b := 0) (C := []) (snoc_last _ rfl) rfl (Nat.zero_le _) (by simp) (by simp) (by simp) rfl).sl, List.Pairwise.nil, by simp⟩
  rintro m τ hh ⟨e, i, po, co, os, hm, t0, t3, t4, so, ao, hmem⟩
  by_cases h1 : (i : Int) < (ys.length : Int)
  rotate_left
  · simp -dsimp (disch := first | with_reducible assumption | omega | (intro h_; cases h_; done) | (simp only [LN] <;> omega) | (simp only [LF]; done) | (repeat (first | with_reducible assumption | apply Ext.refl | apply Ext.app | (apply Ext.set <;> omega) | (refine Ext.trans ?_ (by assumption))))) only [AX, TY, gV, dstOf, p_makeFunc, p_mapUpdate, mapPut, entsOf, p_lookup, p_extract, p_nilCheck, oneV, p_load, p_store, p_binOp, p_unOp, p_indexAddr, p_index, p_box, p_build, evParts, builtinV, load1, ldc, splice, minds, disj, rcOf, isCall, touchV, idsOf, mapId, touchB, p_buildSlice, buildSliceV, reps, fillV, p_convert, p_slice, evO, p_makeSlice, sid_some, soff_some, Nat.reduceLT, Nat.reduceLeDiff, Nat.reduceEqDiff, Nat.reduceAdd, Nat.reduceMul, Int.reduceBEq, Int.reduceEq, Int.reduceNeg, Int.reduceLT, Int.reduceLE, Int.reduceAdd, Int.reduceSub, Int.reduceMul, Int.reduceToNat, Int.reduceGT, Nat.reduceBEq, Nat.reducePow, Nat.reduceGT, reduceCtorEq, ↓reduceIte, t0, t3, t4, h1]
    refine ⟨e, po, co, os, rfl, so, ao, fun x => ?_⟩
    rw [hmem, List.take_of_length_le (by omega)]
  have hi : i < ys.length := by omega
  have hla := hs.load0 e hi (m := 2) (by decide)
  have htk := List.take_succ_eq_append_getElem hi
  generalize ys[i] = y at hla htk
  simp only [Rid.enc, List.take] at hla
  have hol : os.length ≤ 100000 := by
    have hnd : os.Nodup := ao.imp fun {x y} hxy e => by rw [e, cmpR_self] at hxy; omega
    have := len_of_sub hnd fun x hx => List.mem_of_mem_take ((hmem x).1 hx)
    omega
  simp -dsimp (disch := first | with_reducible assumption | omega | (intro h_; cases h_; done) | (simp only [LN] <;> omega) | (simp only [LF]; done) | (repeat (first | with_reducible assumption | apply Ext.refl | apply Ext.app | (apply Ext.set <;> omega) | (refine Ext.trans ?_ (by assumption))))) only [AX, TY, gV, dstOf, p_makeFunc, p_mapUpdate, mapPut, entsOf, p_lookup, p_extract, p_nilCheck, oneV, p_load, p_store, p_binOp, p_unOp, p_indexAddr, p_index, p_box, p_build, evParts, builtinV, load1, ldc, splice, minds, disj, rcOf, isCall, touchV, idsOf, mapId, touchB, p_buildSlice, buildSliceV, reps, fillV, p_convert, p_slice, evO, p_makeSlice, sid_some, soff_some, Nat.reduceLT, Nat.reduceLeDiff, Nat.reduceEqDiff, Nat.reduceAdd, Nat.reduceMul, Int.reduceBEq, Int.reduceEq, Int.reduceNeg, Int.reduceLT, Int.reduceLE, Int.reduceAdd, Int.reduceSub, Int.reduceMul, Int.reduceToNat, Int.reduceGT, Nat.reduceBEq, Nat.reducePow, Nat.reduceGT, reduceCtorEq, ↓reduceIte, t0, t3, t4, h1, hla]
  refine (insert49_ok so ao hol y).mono ?_
  rintro _ h2 ⟨e2, p2, c2, zs, rfl, sz, az, hz⟩
  simp -dsimp (disch := first | with_reducible assumption | omega | (intro h_; cases h_; done) | (simp only [LN] <;> omega) | (simp only [LF]; done) | (repeat (first | with_reducible assumption | apply Ext.refl | apply Ext.app | (apply Ext.set <;> omega) | (refine Ext.trans ?_ (by assumption))))) only [AX, TY, gV, dstOf, p_makeFunc, p_mapUpdate, mapPut, entsOf, p_lookup, p_extract, p_nilCheck, oneV, p_load, p_store, p_binOp, p_unOp, p_indexAddr, p_index, p_box, p_build, evParts, builtinV, load1, ldc, splice, minds, disj, rcOf, isCall, touchV, idsOf, mapId, touchB, p_buildSlice, buildSliceV, reps, fillV, p_convert, p_slice, evO, p_makeSlice, sid_some, soff_some, Nat.reduceLT, Nat.reduceLeDiff, Nat.reduceEqDiff, Nat.reduceAdd, Nat.reduceMul, Int.reduceBEq, Int.reduceEq, Int.reduceNeg, Int.reduceLT, Int.reduceLE, Int.reduceAdd, Int.reduceSub, Int.reduceMul, Int.reduceToNat, Int.reduceGT, Nat.reduceBEq, Nat.reducePow, Nat.reduceGT, reduceCtorEq, ↓reduceIte, t0, t3, t4, wrap_in]
  refine ⟨m - 1, by omega, e.trans e2, i + 1, p2, c2, zs, ?_⟩
  repeat' (first | assumption | refine And.intro ?_ ?_)
  all_goals first | omega | (simp; done) | (simp; omega; done) | skip
  intro x
  have h9 : x ∈ zs ↔ x ∈ os ∨ x = y := hz x
  rw [h9, hmem, htk, List.mem_append, List.mem_singleton]
end Go.Proofs.YtpmlphefdoaohaaA
namespace Go.Proofs.YtpmlphefdoaohaaA
open Go Go.Proofs Go.RowKit
set_option linter.unusedVariables false
set_option linter.unusedSimpArgs false
set_option maxRecDepth 10000
set_option maxHeartbeats 2000000
theorem conf25_ok {h : Heap} {p q : Option (Nat × Nat)} {c d : Option Nat} {ys : List Ver} {xs : List Rid} (hs : Vers h p ys) (hx : Sl h q 2 Rid.enc xs) (hB : ys.length ≤ 20) (hB2 : xs.length ≤ 20) (s : Int) :
    WR (callE Try.prog hk 25 [.slice p ys.length c, .int .i64 s, .slice q xs.length d] h) fun r h' => Ext h h' ∧ SetR h' r fun x => x ∈ xs ∧ ∃ v ∈ ys, v.rid = x ∧ s < v.dl := by
  have hn := hs.sl.nil'
  have hl := hs.sl.small
  have hnx := hx.nil'
  have hlx := hx.small
  refine WR.call (hH := rfl) Try.func25 rfl (n := 51) rfl rfl (by simp) ?_
  simp -dsimp (disch := first | with_reducible assumption | omega | (intro h_; cases h_; done) | (simp only [LN] <;> omega) | (simp only [LF]; done) | (repeat (first | with_reducible assumption | apply Ext.refl | apply Ext.app | (apply Ext.set <;> omega) | (refine Ext.trans ?_ (by assumption))))) only [AX, TY, gV, dstOf, p_makeFunc, p_mapUpdate, mapPut, entsOf, p_lookup, p_extract, p_nilCheck, oneV, p_load, p_store, p_binOp, p_unOp, p_indexAddr, p_index, p_box, p_build, evParts, builtinV, load1, ldc, splice, minds, disj, rcOf, isCall, touchV, idsOf, mapId, touchB, p_buildSlice, buildSliceV, reps, fillV, p_convert, p_slice, evO, p_makeSlice, sid_some, soff_some, Nat.reduceLT, Nat.reduceLeDiff, Nat.reduceEqDiff, Nat.reduceAdd, Nat.reduceMul, Int.reduceBEq, Int.reduceEq, Int.reduceNeg, Int.reduceLT, Int.reduceLE, Int.reduceAdd, Int.reduceSub, Int.reduceMul, Int.reduceToNat, Int.reduceGT, Nat.reduceBEq, Nat.reducePow, Nat.reduceGT, reduceCtorEq, ↓reduceIte]
  refine W.loop (fun m τ hh => Ext h hh ∧ ∃ (i : Nat) (po : Option (Nat × Nat)) (co oid : Option Nat) (os : List Rid), m + i = xs.length ∧ τ 0 = .slice p ys.length c ∧ τ 1 = .int .i64 s ∧ τ 2 = .slice q xs.length d ∧ τ 7 = .slice po os.length co ∧ τ 8 = .int .i64 i ∧ Gr h.length hh po co oid 2 Rid.enc os ∧ os.length ≤ i * 20 ∧ ∀ x, x ∈ os ↔ x ∈ xs.take i ∧ ∃ v ∈ ys, v.rid = x ∧ s < v.dl) ?_ (m := xs.length) ?_
  rotate_left
  · refine ⟨(by (repeat (first | assumption | apply Ext.refl | apply Ext.app | (apply Ext.set <;> omega) | exact Ext.trans (by assumption) (by assumption) | (refine Ext.trans ?_ (by assumption))))), 0, some (h.length, 0), some 0, some h.length, [], by simp, rfl, rfl, rfl, rfl, rfl, Gr.built (C := []) (snoc_last _ rfl) rfl (Nat.le_refl _) (by simp) (by simp) (by simp) rfl, by simp, by simp⟩
  rintro m τ hh ⟨e, i, po, co, oid, os, hm, t0, t1, t2, t7, t8, gr, hol, hmem⟩
  by_cases h1 : (i : Int) < (xs.length : Int)
  rotate_left
  · simp -dsimp (disch := first | with_reducible assumption | omega | (intro h_; cases h_; done) | (simp only [LN] <;> omega) | (simp only [LF]; done) | (repeat (first | with_reducible assumption | apply Ext.refl | apply Ext.app | (apply Ext.set <;> omega) | (refine Ext.trans ?_ (by assumption))))) only [AX, TY, gV, dstOf, p_makeFunc, p_mapUpdate, mapPut, entsOf, p_lookup, p_extract, p_nilCheck, oneV, p_load, p_store, p_binOp, p_unOp, p_indexAddr, p_index, p_box, p_build, evParts, builtinV, load1, ldc, splice, minds, disj, rcOf, isCall, touchV, idsOf, mapId, touchB, p_buildSlice, buildSliceV, reps, fillV, p_convert, p_slice, evO, p_makeSlice, sid_some, soff_some, Nat.reduceLT, Nat.reduceLeDiff, Nat.reduceEqDiff, Nat.reduceAdd, Nat.reduceMul, Int.reduceBEq, Int.reduceEq, Int.reduceNeg, Int.reduceLT, Int.reduceLE, Int.reduceAdd, Int.reduceSub, Int.reduceMul, Int.reduceToNat, Int.reduceGT, Nat.reduceBEq, Nat.reducePow, Nat.reduceGT, reduceCtorEq, ↓reduceIte, t0, t1, t2, t7, t8, h1]
    refine (norm37_ok gr.sl (by omega)).mono ?_
    rintro r h3 ⟨e3, p3, c3, os2, rfl, hz, ha, hm3⟩
    simp -dsimp (disch := first | with_reducible assumption | omega | (intro h_; cases h_; done) | (simp only [LN] <;> omega) | (simp only [LF]; done) | (repeat (first | with_reducible assumption | apply Ext.refl | apply Ext.app | (apply Ext.set <;> omega) | (refine Ext.trans ?_ (by assumption))))) only [AX, TY, gV, dstOf, p_makeFunc, p_mapUpdate, mapPut, entsOf, p_lookup, p_extract, p_nilCheck, oneV, p_load, p_store, p_binOp, p_unOp, p_indexAddr, p_index, p_box, p_build, evParts, builtinV, load1, ldc, splice, minds, disj, rcOf, isCall, touchV, idsOf, mapId, touchB, p_buildSlice, buildSliceV, reps, fillV, p_convert, p_slice, evO, p_makeSlice, sid_some, soff_some, Nat.reduceLT, Nat.reduceLeDiff, Nat.reduceEqDiff, Nat.reduceAdd, Nat.reduceMul, Int.reduceBEq, Int.reduceEq, Int.reduceNeg, Int.reduceLT, Int.reduceLE, Int.reduceAdd, Int.reduceSub, Int.reduceMul, Int.reduceToNat, Int.reduceGT, Nat.reduceBEq, Nat.reducePow, Nat.reduceGT, reduceCtorEq, ↓reduceIte]
    refine ⟨e.trans e3, p3, c3, os2, rfl, hz, ha, fun x => ?_⟩
    have h9 := hmem x
    rw [List.take_of_length_le (by omega)] at h9
    exact (hm3 x).trans h9
  have hi : i < xs.length := by omega
  have hlx1 := fun hh e => hx.load0 (hh := hh) e hi (m := 2) (by decide)
  have htk := List.take_succ_eq_append_getElem hi
  generalize xs[i] = x at hlx1 htk
  simp only [Rid.enc, List.take] at hlx1
  simp -dsimp (disch := first | with_reducible assumption | omega | (intro h_; cases h_; done) | (simp only [LN] <;> omega) | (simp only [LF]; done) | (repeat (first | with_reducible assumption | apply Ext.refl | apply Ext.app | (apply Ext.set <;> omega) | (refine Ext.trans ?_ (by assumption))))) only [AX, TY, gV, dstOf, p_makeFunc, p_mapUpdate, mapPut, entsOf, p_lookup, p_extract, p_nilCheck, oneV, p_load, p_store, p_binOp, p_unOp, p_indexAddr, p_index, p_box, p_build, evParts, builtinV, load1, ldc, splice, minds, disj, rcOf, isCall, touchV, idsOf, mapId, touchB, p_buildSlice, buildSliceV, reps, fillV, p_convert, p_slice, evO, p_makeSlice, sid_some, soff_some, Nat.reduceLT, Nat.reduceLeDiff, Nat.reduceEqDiff, Nat.reduceAdd, Nat.reduceMul, Int.reduceBEq, Int.reduceEq, Int.reduceNeg, Int.reduceLT, Int.reduceLE, Int.reduceAdd, Int.reduceSub, Int.reduceMul, Int.reduceToNat, Int.reduceGT, Nat.reduceBEq, Nat.reducePow, Nat.reduceGT, reduceCtorEq, ↓reduceIte, t0, t1, t2, t7, t8, h1]
  refine W.loop (fun m2 τ hh => Ext h hh ∧ ∃ (k : Nat) (po : Option (Nat × Nat)) (co oid : Option Nat) (os : List Rid), m2 + k = ys.length ∧ τ 0 = .slice p ys.length c ∧ τ 1 = .int .i64 s ∧ τ 2 = .slice q xs.length d ∧ τ 7 = .slice po os.length co ∧ τ 8 = .int .i64 i ∧ τ 9 = .int .i64 k ∧ Gr h.length hh po co oid 2 Rid.enc os ∧ os.length ≤ i * 20 + k ∧ ∀ z, z ∈ os ↔ (z ∈ xs.take i ∧ ∃ v ∈ ys, v.rid = z ∧ s < v.dl) ∨ (z = x ∧ ∃ v ∈ ys.take k, v.rid = z ∧ s < v.dl)) ?_ (m := ys.length) ?_
  rotate_left
  · refine ⟨e, 0, po, co, oid, os, ?_⟩
    simp only [List.take_zero]
    simp -dsimp (disch := first | with_reducible assumption | omega | (intro h_; cases h_; done) | (simp only [LN] <;> omega) | (simp only [LF]; done) | (repeat (first | with_reducible assumption | apply Ext.refl | apply Ext.app | (apply Ext.set <;> omega) | (refine Ext.trans ?_ (by assumption))))) only [AX, TY, gV, dstOf, p_makeFunc, p_mapUpdate, mapPut, entsOf, p_lookup, p_extract, p_nilCheck, oneV, p_load, p_store, p_binOp, p_unOp, p_indexAddr, p_index, p_box, p_build, evParts, builtinV, load1, ldc, splice, minds, disj, rcOf, isCall, touchV, idsOf, mapId, touchB, p_buildSlice, buildSliceV, reps, fillV, p_convert, p_slice, evO, p_makeSlice, sid_some, soff_some, Nat.reduceLT, Nat.reduceLeDiff, Nat.reduceEqDiff, Nat.reduceAdd, Nat.reduceMul, Int.reduceBEq, Int.reduceEq, Int.reduceNeg, Int.reduceLT, Int.reduceLE, Int.reduceAdd, Int.reduceSub, Int.reduceMul, Int.reduceToNat, Int.reduceGT, Nat.reduceBEq, Nat.reducePow, Nat.reduceGT, reduceCtorEq, ↓reduceIte, t0, t1, t2, t7, t8]
    repeat' (first | assumption | refine And.intro ?_ ?_)
    all_goals first | omega | (simp; done) | (simp; omega; done) | skip
  clear t0 t1 t2 t7 t8 gr hol hmem e
  rintro m2 τ2 hh2 ⟨e, k, po, co, oid, os, hm2, t0, t1, t2, t7, t8, t9, gr, hol, hmem⟩
  have le1 := e.le
  by_cases h2 : (k : Int) < (ys.length : Int)
  rotate_left
  · simp -dsimp (disch := first | with_reducible assumption | omega | (intro h_; cases h_; done) | (simp only [LN] <;> omega) | (simp only [LF]; done) | (repeat (first | with_reducible assumption | apply Ext.refl | apply Ext.app | (apply Ext.set <;> omega) | (refine Ext.trans ?_ (by assumption))))) only [AX, TY, gV, dstOf, p_makeFunc, p_mapUpdate, mapPut, entsOf, p_lookup, p_extract, p_nilCheck, oneV, p_load, p_store, p_binOp, p_unOp, p_indexAddr, p_index, p_box, p_build, evParts, builtinV, load1, ldc, splice, minds, disj, rcOf, isCall, touchV, idsOf, mapId, touchB, p_buildSlice, buildSliceV, reps, fillV, p_convert, p_slice, evO, p_makeSlice, sid_some, soff_some, Nat.reduceLT, Nat.reduceLeDiff, Nat.reduceEqDiff, Nat.reduceAdd, Nat.reduceMul, Int.reduceBEq, Int.reduceEq, Int.reduceNeg, Int.reduceLT, Int.reduceLE, Int.reduceAdd, Int.reduceSub, Int.reduceMul, Int.reduceToNat, Int.reduceGT, Nat.reduceBEq, Nat.reducePow, Nat.reduceGT, reduceCtorEq, ↓reduceIte, t0, t1, t2, t7, t8, t9, h2, wrap_in]
    refine ⟨m - 1, by omega, e, i + 1, po, co, oid, os, ?_⟩
    repeat' (first | assumption | refine And.intro ?_ ?_)
    all_goals first | omega | (simp; done) | (simp; omega; done) | skip
    intro z
    rw [hmem, htk, List.mem_append, List.mem_singleton, List.take_of_length_le (show ys.length ≤ k by omega)]
    constructor
    · rintro (⟨h1, h2⟩ | ⟨rfl, h2⟩)
      · exact ⟨.inl h1, h2⟩
      · exact ⟨.inr rfl, h2⟩
    · rintro ⟨h1 | rfl, h2⟩
      · exact .inl ⟨h1, h2⟩
      · exact .inr ⟨rfl, h2⟩
  have hk : k < ys.length := by omega
  have hld := fun hh e o m hm => hs.sl.load (hh := hh) e hk (o := o) (m := m) hm
  have hl0 := hs.sl.load0 e hk (m := 2) (by decide)
  have hl3 := hs.sl.load e hk (o := 4) (m := 1) (by decide)
  have htk2 := List.take_succ_eq_append_getElem hk
  generalize ys[k] = y at hl0 hl3 htk2
  simp only [Ver.enc, List.take, List.drop] at hl0 hl3
  have hlxh := hlx1 hh2 e
  have hmem2 : ∀ z, ((z ∈ xs.take i ∧ ∃ v ∈ ys, v.rid = z ∧ s < v.dl) ∨ (z = x ∧ ∃ v ∈ ys.take (k + 1), v.rid = z ∧ s < v.dl)) ↔ z ∈ os ∨ (z = x ∧ y.rid = x ∧ s < y.dl) := fun z => by
    rw [hmem, htk2]
    simp only [List.mem_append, List.mem_singleton]
    constructor
    · rintro (h1 | ⟨rfl, v, hv | rfl, h2, h3⟩)
      · exact .inl (.inl h1)
      · exact .inl (.inr ⟨rfl, v, hv, h2, h3⟩)
      · exact .inr ⟨rfl, h2, h3⟩
    · rintro ((h1 | ⟨rfl, v, hv, h2, h3⟩) | ⟨rfl, h2, h3⟩)
      · exact .inl h1
      · exact .inr ⟨rfl, v, .inl hv, h2, h3⟩
      · exact .inr ⟨rfl, y, .inr rfl, h2, h3⟩
  have no : (¬ (y.rid = x ∧ s < y.dl)) → ∀ z, z ∈ os ↔ (z ∈ xs.take i ∧ ∃ v ∈ ys, v.rid = z ∧ s < v.dl) ∨ (z = x ∧ ∃ v ∈ ys.take (k + 1), v.rid = z ∧ s < v.dl) := fun hq z => by
    rw [hmem2]
    constructor
    · exact .inl
    · rintro (h1 | ⟨_, h2⟩)
      · exact h1
      · exact absurd h2 hq
  simp -dsimp (disch := first | with_reducible assumption | omega | (intro h_; cases h_; done) | (simp only [LN] <;> omega) | (simp only [LF]; done) | (repeat (first | with_reducible assumption | apply Ext.refl | apply Ext.app | (apply Ext.set <;> omega) | (refine Ext.trans ?_ (by assumption))))) only [AX, TY, gV, dstOf, p_makeFunc, p_mapUpdate, mapPut, entsOf, p_lookup, p_extract, p_nilCheck, oneV, p_load, p_store, p_binOp, p_unOp, p_indexAddr, p_index, p_box, p_build, evParts, builtinV, load1, ldc, splice, minds, disj, rcOf, isCall, touchV, idsOf, mapId, touchB, p_buildSlice, buildSliceV, reps, fillV, p_convert, p_slice, evO, p_makeSlice, sid_some, soff_some, Nat.reduceLT, Nat.reduceLeDiff, Nat.reduceEqDiff, Nat.reduceAdd, Nat.reduceMul, Int.reduceBEq, Int.reduceEq, Int.reduceNeg, Int.reduceLT, Int.reduceLE, Int.reduceAdd, Int.reduceSub, Int.reduceMul, Int.reduceToNat, Int.reduceGT, Nat.reduceBEq, Nat.reducePow, Nat.reduceGT, reduceCtorEq, ↓reduceIte, t0, t1, t2, t7, t8, t9, h2]
  refine W.drawn [(0, []), (1, [0]), (2, []), (3, []), (4, []), (5, [4, 3, 2, 1, 0]), (6, [5, 4, 3, 2, 1, 0]), (7, [4, 3, 2, 1, 0]), (8, [4, 3, 2, 1, 0]), (9, []), (10, []), (11, []), (12, [11]), (13, []), (14, []), (15, []), (16, [15, 14, 13, 12, 11]), (17, []), (18, [])] (by decide +kernel) ?_
  by_cases he : y.rid = x
  rotate_left
  · have hne : ¬ (y.a = x.a ∧ y.b = x.b) := fun q => Rid.ne he q
    have hno := no fun q => he q.1
    simp -dsimp (disch := first | with_reducible assumption | omega | (intro h_; cases h_; done) | (simp only [LN] <;> omega) | (simp only [LF]; done) | (repeat (first | with_reducible assumption | apply Ext.refl | apply Ext.app | (apply Ext.set <;> omega) | (refine Ext.trans ?_ (by assumption))))) only [AX, TY, gV, dstOf, p_makeFunc, p_mapUpdate, mapPut, entsOf, p_lookup, p_extract, p_nilCheck, oneV, p_load, p_store, p_binOp, p_unOp, p_indexAddr, p_index, p_box, p_build, evParts, builtinV, load1, ldc, splice, minds, disj, rcOf, isCall, touchV, idsOf, mapId, touchB, p_buildSlice, buildSliceV, reps, fillV, p_convert, p_slice, evO, p_makeSlice, sid_some, soff_some, Nat.reduceLT, Nat.reduceLeDiff, Nat.reduceEqDiff, Nat.reduceAdd, Nat.reduceMul, Int.reduceBEq, Int.reduceEq, Int.reduceNeg, Int.reduceLT, Int.reduceLE, Int.reduceAdd, Int.reduceSub, Int.reduceMul, Int.reduceToNat, Int.reduceGT, Nat.reduceBEq, Nat.reducePow, Nat.reduceGT, reduceCtorEq, ↓reduceIte, t0, t1, t2, t7, t8, t9, h2, hl0, hlxh, eql_23, eqt_23, hne, wrap_in]
    refine ⟨m2 - 1, by omega, e, k + 1, po, co, oid, os, ?_⟩
    repeat' (first | assumption | refine And.intro ?_ ?_)
    all_goals first | omega | (simp; done) | (simp; omega; done) | skip
  have heq : y.a = x.a ∧ y.b = x.b := by rw [← he]; exact ⟨rfl, rfl⟩
  by_cases hd : s < y.dl
  rotate_left
  · have hno := no fun q => hd q.2
    simp -dsimp (disch := first | with_reducible assumption | omega | (intro h_; cases h_; done) | (simp only [LN] <;> omega) | (simp only [LF]; done) | (repeat (first | with_reducible assumption | apply Ext.refl | apply Ext.app | (apply Ext.set <;> omega) | (refine Ext.trans ?_ (by assumption))))) only [AX, TY, gV, dstOf, p_makeFunc, p_mapUpdate, mapPut, entsOf, p_lookup, p_extract, p_nilCheck, oneV, p_load, p_store, p_binOp, p_unOp, p_indexAddr, p_index, p_box, p_build, evParts, builtinV, load1, ldc, splice, minds, disj, rcOf, isCall, touchV, idsOf, mapId, touchB, p_buildSlice, buildSliceV, reps, fillV, p_convert, p_slice, evO, p_makeSlice, sid_some, soff_some, Nat.reduceLT, Nat.reduceLeDiff, Nat.reduceEqDiff, Nat.reduceAdd, Nat.reduceMul, Int.reduceBEq, Int.reduceEq, Int.reduceNeg, Int.reduceLT, Int.reduceLE, Int.reduceAdd, Int.reduceSub, Int.reduceMul, Int.reduceToNat, Int.reduceGT, Nat.reduceBEq, Nat.reducePow, Nat.reduceGT, reduceCtorEq, ↓reduceIte, t0, t1, t2, t7, t8, t9, h2, hl0, hl3, hlxh, eql_23, eqt_23, eq_true heq, hd, wrap_in]
    refine ⟨m2 - 1, by omega, e, k + 1, po, co, oid, os, ?_⟩
    repeat' (first | assumption | refine And.intro ?_ ?_)
    all_goals first | omega | (simp; done) | (simp; omega; done) | skip
  simp -dsimp (disch := first | with_reducible assumption | omega | (intro h_; cases h_; done) | (simp only [LN] <;> omega) | (simp only [LF]; done) | (repeat (first | with_reducible assumption | apply Ext.refl | apply Ext.app | (apply Ext.set <;> omega) | (refine Ext.trans ?_ (by assumption))))) only [AX, TY, gV, dstOf, p_makeFunc, p_mapUpdate, mapPut, entsOf, p_lookup, p_extract, p_nilCheck, oneV, p_load, p_store, p_binOp, p_unOp, p_indexAddr, p_index, p_box, p_build, evParts, builtinV, load1, ldc, splice, minds, disj, rcOf, isCall, touchV, idsOf, mapId, touchB, p_buildSlice, buildSliceV, reps, fillV, p_convert, p_slice, evO, p_makeSlice, sid_some, soff_some, Nat.reduceLT, Nat.reduceLeDiff, Nat.reduceEqDiff, Nat.reduceAdd, Nat.reduceMul, Int.reduceBEq, Int.reduceEq, Int.reduceNeg, Int.reduceLT, Int.reduceLE, Int.reduceAdd, Int.reduceSub, Int.reduceMul, Int.reduceToNat, Int.reduceGT, Nat.reduceBEq, Nat.reducePow, Nat.reduceGT, reduceCtorEq, ↓reduceIte, t0, t1, t2, t7, t8, t9, h2, hl0, hl3, hlxh, eql_23, eqt_23, eq_true heq, hd]
  obtain ⟨p5, c5, oid5, h5, hap, gr5, ho5, hl5, hk5, hb5⟩ := (gr.ext (hh := hh2 ++ [O.cells (Rid.enc x) Kd.rw]) (by (repeat (first | assumption | apply Ext.refl | apply Ext.app | (apply Ext.set <;> omega) | exact Ext.trans (by assumption) (by assumption) | (refine Ext.trans ?_ (by assumption)))))).push (bytes := 16) (vc := some 1) (by simp; omega) (snoc_last _ rfl) rfl rfl (by omega) (by omega)
  simp only [Rid.enc] at hap
  simp -dsimp (disch := first | with_reducible assumption | omega | (intro h_; cases h_; done) | (simp only [LN] <;> omega) | (simp only [LF]; done) | (repeat (first | with_reducible assumption | apply Ext.refl | apply Ext.app | (apply Ext.set <;> omega) | (refine Ext.trans ?_ (by assumption))))) only [AX, TY, gV, dstOf, p_makeFunc, p_mapUpdate, mapPut, entsOf, p_lookup, p_extract, p_nilCheck, oneV, p_load, p_store, p_binOp, p_unOp, p_indexAddr, p_index, p_box, p_build, evParts, builtinV, load1, ldc, splice, minds, disj, rcOf, isCall, touchV, idsOf, mapId, touchB, p_buildSlice, buildSliceV, reps, fillV, p_convert, p_slice, evO, p_makeSlice, sid_some, soff_some, Nat.reduceLT, Nat.reduceLeDiff, Nat.reduceEqDiff, Nat.reduceAdd, Nat.reduceMul, Int.reduceBEq, Int.reduceEq, Int.reduceNeg, Int.reduceLT, Int.reduceLE, Int.reduceAdd, Int.reduceSub, Int.reduceMul, Int.reduceToNat, Int.reduceGT, Nat.reduceBEq, Nat.reducePow, Nat.reduceGT, reduceCtorEq, ↓reduceIte, t0, t1, t2, t7, t8, t9, hap, wrap_in]
  have ex5 : Ext h h5 := Ext.below (h := hh2 ++ [O.cells (Rid.enc x) Kd.rw]) (by (repeat (first | assumption | apply Ext.refl | apply Ext.app | (apply Ext.set <;> omega) | exact Ext.trans (by assumption) (by assumption) | (refine Ext.trans ?_ (by assumption))))) (Nat.le_refl _) hb5
  refine ⟨m2 - 1, by omega, ex5, k + 1, p5, c5, oid5, os ++ [x], ?_⟩
  repeat' (first | assumption | refine And.intro ?_ ?_)
  all_goals first | omega | (simp; done) | (simp; omega; done) | skip
  intro z
  rw [hmem2, List.mem_append, List.mem_singleton]
  constructor
  · rintro (h1 | rfl)
    · exact .inl h1
    · exact .inr ⟨rfl, he, hd⟩
  · rintro (h1 | ⟨rfl, _⟩)
    · exact .inl h1
    · exact .inr rfl
theorem same24_ok {h : Heap} {p q : Option (Nat × Nat)} {c d : Option Nat} {ys : List Rid} (hs : Sl h p 2 Rid.enc ys) (hx : Sl h q 2 Rid.enc ys) :
    WR (callE Try.prog hk 24 [.slice p ys.length c, .slice q ys.length d] h) fun r h' => r = .bool true := by
  have hn := hs.nil'
  have hl := hs.small
  have hnx := hx.nil'
  refine WR.call (hH := rfl) Try.func24 rfl (n := 26) rfl rfl (by simp) ?_
  simp -dsimp (disch := first | with_reducible assumption | omega | (intro h_; cases h_; done) | (simp only [LN] <;> omega) | (simp only [LF]; done) | (repeat (first | with_reducible assumption | apply Ext.refl | apply Ext.app | (apply Ext.set <;> omega) | (refine Ext.trans ?_ (by assumption))))) only [AX, TY, gV, dstOf, p_makeFunc, p_mapUpdate, mapPut, entsOf, p_lookup, p_extract, p_nilCheck, oneV, p_load, p_store, p_binOp, p_unOp, p_indexAddr, p_index, p_box, p_build, evParts, builtinV, load1, ldc, splice, minds, disj, rcOf, isCall, touchV, idsOf, mapId, touchB, p_buildSlice, buildSliceV, reps, fillV, p_convert, p_slice, evO, p_makeSlice, sid_some, soff_some, Nat.reduceLT, Nat.reduceLeDiff, Nat.reduceEqDiff, Nat.reduceAdd, Nat.reduceMul, Int.reduceBEq, Int.reduceEq, Int.reduceNeg, Int.reduceLT, Int.reduceLE, Int.reduceAdd, Int.reduceSub, Int.reduceMul, Int.reduceToNat, Int.reduceGT, Nat.reduceBEq, Nat.reducePow, Nat.reduceGT, reduceCtorEq, ↓reduceIte]
  refine W.loop (fun m τ hh => h = hh ∧ ∃ i : Nat, m + i = ys.length ∧ τ 0 = .slice p ys.length c ∧ τ 1 = .slice q ys.length d ∧ τ 5 = .int .i64 i) ?_ (m := ys.length) ?_
  rotate_left
  · exact ⟨rfl, 0, by simp, rfl, rfl, rfl⟩
  rintro m τ _ ⟨rfl, i, hm, t0, t1, t5⟩
  by_cases h1 : (i : Int) < (ys.length : Int)
  rotate_left
  · simp -dsimp (disch := first | with_reducible assumption | omega | (intro h_; cases h_; done) | (simp only [LN] <;> omega) | (simp only [LF]; done) | (repeat (first | with_reducible assumption | apply Ext.refl | apply Ext.app | (apply Ext.set <;> omega) | (refine Ext.trans ?_ (by assumption))))) only [AX, TY, gV, dstOf, p_makeFunc, p_mapUpdate, mapPut, entsOf, p_lookup, p_extract, p_nilCheck, oneV, p_load, p_store, p_binOp, p_unOp, p_indexAddr, p_index, p_box, p_build, evParts, builtinV, load1, ldc, splice, minds, disj, rcOf, isCall, touchV, idsOf, mapId, touchB, p_buildSlice, buildSliceV, reps, fillV, p_convert, p_slice, evO, p_makeSlice, sid_some, soff_some, Nat.reduceLT, Nat.reduceLeDiff, Nat.reduceEqDiff, Nat.reduceAdd, Nat.reduceMul, Int.reduceBEq, Int.reduceEq, Int.reduceNeg, Int.reduceLT, Int.reduceLE, Int.reduceAdd, Int.reduceSub, Int.reduceMul, Int.reduceToNat, Int.reduceGT, Nat.reduceBEq, Nat.reducePow, Nat.reduceGT, reduceCtorEq, ↓reduceIte, t0, t1, t5, h1]
  have hi : i < ys.length := by omega
  have hla := fun hh e => hs.load0 (hh := hh) e hi (m := 2) (by decide)
  have hlb := fun hh e => hx.load0 (hh := hh) e hi (m := 2) (by decide)
  simp only [Rid.enc] at hla hlb
  have heq : ys[i].a = ys[i].a ∧ ys[i].b = ys[i].b := ⟨rfl, rfl⟩
  simp -dsimp (disch := first | with_reducible assumption | omega | (intro h_; cases h_; done) | (simp only [LN] <;> omega) | (simp only [LF]; done) | (repeat (first | with_reducible assumption | apply Ext.refl | apply Ext.app | (apply Ext.set <;> omega) | (refine Ext.trans ?_ (by assumption))))) only [AX, TY, gV, dstOf, p_makeFunc, p_mapUpdate, mapPut, entsOf, p_lookup, p_extract, p_nilCheck, oneV, p_load, p_store, p_binOp, p_unOp, p_indexAddr, p_index, p_box, p_build, evParts, builtinV, load1, ldc, splice, minds, disj, rcOf, isCall, touchV, idsOf, mapId, touchB, p_buildSlice, buildSliceV, reps, fillV, p_convert, p_slice, evO, p_makeSlice, sid_some, soff_some, Nat.reduceLT, Nat.reduceLeDiff, Nat.reduceEqDiff, Nat.reduceAdd, Nat.reduceMul, Int.reduceBEq, Int.reduceEq, Int.reduceNeg, Int.reduceLT, Int.reduceLE, Int.reduceAdd, Int.reduceSub, Int.reduceMul, Int.reduceToNat, Int.reduceGT, Nat.reduceBEq, Nat.reducePow, Nat.reduceGT, reduceCtorEq, ↓reduceIte, t0, t1, t5, h1]
  refine W.drawn [(0, []), (1, [0]), (2, []), (3, []), (4, [3, 2, 1, 0]), (5, [4, 3, 2, 1, 0]), (6, [3, 2, 1, 0]), (7, [3, 2, 1, 0]), (8, [])] (by decide +kernel) ?_
  simp -dsimp (disch := first | with_reducible assumption | omega | (intro h_; cases h_; done) | (simp only [LN] <;> omega) | (simp only [LF]; done) | (repeat (first | with_reducible assumption | apply Ext.refl | apply Ext.app | (apply Ext.set <;> omega) | (refine Ext.trans ?_ (by assumption))))) only [AX, TY, gV, dstOf, p_makeFunc, p_mapUpdate, mapPut, entsOf, p_lookup, p_extract, p_nilCheck, oneV, p_load, p_store, p_binOp, p_unOp, p_indexAddr, p_index, p_box, p_build, evParts, builtinV, load1, ldc, splice, minds, disj, rcOf, isCall, touchV, idsOf, mapId, touchB, p_buildSlice, buildSliceV, reps, fillV, p_convert, p_slice, evO, p_makeSlice, sid_some, soff_some, Nat.reduceLT, Nat.reduceLeDiff, Nat.reduceEqDiff, Nat.reduceAdd, Nat.reduceMul, Int.reduceBEq, Int.reduceEq, Int.reduceNeg, Int.reduceLT, Int.reduceLE, Int.reduceAdd, Int.reduceSub, Int.reduceMul, Int.reduceToNat, Int.reduceGT, Nat.reduceBEq, Nat.reducePow, Nat.reduceGT, reduceCtorEq, ↓reduceIte, t0, t1, t5, h1, hla, hlb, neq_23, eqt_23, eq_true heq, wrap_in]
  exact ⟨m - 1, by omega, i + 1, by omega, by simp⟩
end Go.Proofs.YtpmlphefdoaohaaA
namespace Go.Proofs.YtpmlphefdoaohaaA
open Go Go.Proofs Go.RowKit
set_option linter.unusedVariables false
set_option linter.unusedSimpArgs false
set_option maxRecDepth 10000
set_option maxHeartbeats 2000000
theorem rsees_ok {h : Heap} (v : Ver) (s : Int) : WR (callE Try.prog hk 22 [.agg v.enc, .int .i64 s] h) fun r h' => Ext h h' ∧ r = .bool (sees v.cr v.dl s) := by
  unfold Ver.enc
  generalize v.cr = c
  generalize v.dl = d
  refine WR.call (hH := rfl) Try.func22 rfl (n := 20) rfl rfl (by simp) ?_
  cases h1 : decide (c ≤ s) <;> cases h2 : decide (d = 0) <;> cases h3 : decide (d > s) <;> (simp -dsimp (disch := first | with_reducible assumption | omega | (intro h_; cases h_; done) | (simp only [LN] <;> omega) | (simp only [LF]; done) | (repeat (first | with_reducible assumption | apply Ext.refl | apply Ext.app | (apply Ext.set <;> omega) | (refine Ext.trans ?_ (by assumption))))) only [AX, TY, gV, dstOf, p_makeFunc, p_mapUpdate, mapPut, entsOf, p_lookup, p_extract, p_nilCheck, oneV, p_load, p_store, p_binOp, p_unOp, p_indexAddr, p_index, p_box, p_build, evParts, builtinV, load1, ldc, splice, minds, disj, rcOf, isCall, touchV, idsOf, mapId, touchB, p_buildSlice, buildSliceV, reps, fillV, p_convert, p_slice, evO, p_makeSlice, sid_some, soff_some, Nat.reduceLT, Nat.reduceLeDiff, Nat.reduceEqDiff, Nat.reduceAdd, Nat.reduceMul, Int.reduceBEq, Int.reduceEq, Int.reduceNeg, Int.reduceLT, Int.reduceLE, Int.reduceAdd, Int.reduceSub, Int.reduceMul, Int.reduceToNat, Int.reduceGT, Nat.reduceBEq, Nat.reducePow, Nat.reduceGT, reduceCtorEq, ↓reduceIte, h1, h2, h3]; simp [sees, h1, h2, h3]; try (exact (by (repeat (first | assumption | apply Ext.refl | apply Ext.app | (apply Ext.set <;> omega) | exact Ext.trans (by assumption) (by assumption) | (refine Ext.trans ?_ (by assumption)))))))
theorem rlive_ok {h : Heap} {p : Option (Nat × Nat)} {c : Option Nat} {ys : List Ver} (hs : Vers h p ys) (hB : ys.length ≤ 100000) (s : Int) :
    WR (callE Try.prog hk 23 [.slice p ys.length c, .int .i64 s] h) fun r h' => Ext h h' ∧ ∃ p' c' zs, r = .slice p' zs.length c' ∧ Vers h' p' zs ∧ zs = ys.filter fun v => sees v.cr v.dl s := by
  have hn := hs.sl.nil'
  have hl := hs.sl.small
  refine WR.call (hH := rfl) Try.func23 rfl (n := 28) rfl rfl (by simp) ?_
  simp -dsimp (disch := first | with_reducible assumption | omega | (intro h_; cases h_; done) | (simp only [LN] <;> omega) | (simp only [LF]; done) | (repeat (first | with_reducible assumption | apply Ext.refl | apply Ext.app | (apply Ext.set <;> omega) | (refine Ext.trans ?_ (by assumption))))) only [AX, TY, gV, dstOf, p_makeFunc, p_mapUpdate, mapPut, entsOf, p_lookup, p_extract, p_nilCheck, oneV, p_load, p_store, p_binOp, p_unOp, p_indexAddr, p_index, p_box, p_build, evParts, builtinV, load1, ldc, splice, minds, disj, rcOf, isCall, touchV, idsOf, mapId, touchB, p_buildSlice, buildSliceV, reps, fillV, p_convert, p_slice, evO, p_makeSlice, sid_some, soff_some, Nat.reduceLT, Nat.reduceLeDiff, Nat.reduceEqDiff, Nat.reduceAdd, Nat.reduceMul, Int.reduceBEq, Int.reduceEq, Int.reduceNeg, Int.reduceLT, Int.reduceLE, Int.reduceAdd, Int.reduceSub, Int.reduceMul, Int.reduceToNat, Int.reduceGT, Nat.reduceBEq, Nat.reducePow, Nat.reduceGT, reduceCtorEq, ↓reduceIte]
  refine W.loop (fun m τ hh => Ext h hh ∧ ∃ (i : Nat) (po : Option (Nat × Nat)) (co oid : Option Nat) (os : List Ver), m + i = ys.length ∧ τ 0 = .slice p ys.length c ∧ τ 1 = .int .i64 s ∧ τ 5 = .slice po os.length co ∧ τ 6 = .int .i64 i ∧ Gr h.length hh po co oid 5 Ver.enc os ∧ os.length ≤ i ∧ os = (ys.take i).filter fun v => sees v.cr v.dl s) ?_ (m := ys.length) ?_
  rotate_left
  · exact ⟨(by (repeat (first | assumption | apply Ext.refl | apply Ext.app | (apply Ext.set <;> omega) | exact Ext.trans (by assumption) (by assumption) | (refine Ext.trans ?_ (by assumption))))), 0, some (h.length, 0), some 0, some h.length, [], by simp, rfl, rfl, rfl, rfl, Gr.built (C := []) (snoc_last _ rfl) rfl (Nat.le_refl _) (by simp) (by simp) (by simp) rfl, by simp, by simp⟩
  rintro m τ hh ⟨e, i, po, co, oid, os, hm, t0, t1, t5, t6, gr, hol, hos⟩
  have le1 := e.le
  by_cases h1 : (i : Int) < (ys.length : Int)
  rotate_left
  · simp -dsimp (disch := first | with_reducible assumption | omega | (intro h_; cases h_; done) | (simp only [LN] <;> omega) | (simp only [LF]; done) | (repeat (first | with_reducible assumption | apply Ext.refl | apply Ext.app | (apply Ext.set <;> omega) | (refine Ext.trans ?_ (by assumption))))) only [AX, TY, gV, dstOf, p_makeFunc, p_mapUpdate, mapPut, entsOf, p_lookup, p_extract, p_nilCheck, oneV, p_load, p_store, p_binOp, p_unOp, p_indexAddr, p_index, p_box, p_build, evParts, builtinV, load1, ldc, splice, minds, disj, rcOf, isCall, touchV, idsOf, mapId, touchB, p_buildSlice, buildSliceV, reps, fillV, p_convert, p_slice, evO, p_makeSlice, sid_some, soff_some, Nat.reduceLT, Nat.reduceLeDiff, Nat.reduceEqDiff, Nat.reduceAdd, Nat.reduceMul, Int.reduceBEq, Int.reduceEq, Int.reduceNeg, Int.reduceLT, Int.reduceLE, Int.reduceAdd, Int.reduceSub, Int.reduceMul, Int.reduceToNat, Int.reduceGT, Nat.reduceBEq, Nat.reducePow, Nat.reduceGT, reduceCtorEq, ↓reduceIte, t0, t1, t5, t6, h1]
    rw [List.take_of_length_le (by omega)] at hos
    exact ⟨e, po, co, os, rfl, ⟨gr.sl, fun y hy => (hs.ok y (by rw [hos] at hy; exact (List.mem_filter.1 hy).1)).ext e⟩, hos⟩
  have hi : i < ys.length := by omega
  have hla := fun hh e => hs.sl.load0 (hh := hh) e hi (m := 5) (by decide)
  have htk : (ys.take (i + 1)).filter (fun v => sees v.cr v.dl s) = (ys.take i).filter (fun v => sees v.cr v.dl s) ++ (if sees ys[i].cr ys[i].dl s = true then [ys[i]] else []) := by
    rw [List.take_succ_eq_append_getElem hi, List.filter_append, List.filter_cons, List.filter_nil]
  generalize ys[i] = y at hla htk
  have hse := rsees_ok (h := hh) y s
  simp only [Ver.enc, List.take] at hla hse
  simp -dsimp (disch := first | with_reducible assumption | omega | (intro h_; cases h_; done) | (simp only [LN] <;> omega) | (simp only [LF]; done) | (repeat (first | with_reducible assumption | apply Ext.refl | apply Ext.app | (apply Ext.set <;> omega) | (refine Ext.trans ?_ (by assumption))))) only [AX, TY, gV, dstOf, p_makeFunc, p_mapUpdate, mapPut, entsOf, p_lookup, p_extract, p_nilCheck, oneV, p_load, p_store, p_binOp, p_unOp, p_indexAddr, p_index, p_box, p_build, evParts, builtinV, load1, ldc, splice, minds, disj, rcOf, isCall, touchV, idsOf, mapId, touchB, p_buildSlice, buildSliceV, reps, fillV, p_convert, p_slice, evO, p_makeSlice, sid_some, soff_some, Nat.reduceLT, Nat.reduceLeDiff, Nat.reduceEqDiff, Nat.reduceAdd, Nat.reduceMul, Int.reduceBEq, Int.reduceEq, Int.reduceNeg, Int.reduceLT, Int.reduceLE, Int.reduceAdd, Int.reduceSub, Int.reduceMul, Int.reduceToNat, Int.reduceGT, Nat.reduceBEq, Nat.reducePow, Nat.reduceGT, reduceCtorEq, ↓reduceIte, t0, t1, t5, t6, h1, hla hh e]
  refine hse.mono ?_
  rintro _ h2 ⟨e2, rfl⟩
  have ex2 := e.trans e2
  have le2 := ex2.le
  have hla2 := hla h2 ex2
  cases hq : sees y.cr y.dl s
  · rw [hq] at htk
    simp -dsimp (disch := first | with_reducible assumption | omega | (intro h_; cases h_; done) | (simp only [LN] <;> omega) | (simp only [LF]; done) | (repeat (first | with_reducible assumption | apply Ext.refl | apply Ext.app | (apply Ext.set <;> omega) | (refine Ext.trans ?_ (by assumption))))) only [AX, TY, gV, dstOf, p_makeFunc, p_mapUpdate, mapPut, entsOf, p_lookup, p_extract, p_nilCheck, oneV, p_load, p_store, p_binOp, p_unOp, p_indexAddr, p_index, p_box, p_build, evParts, builtinV, load1, ldc, splice, minds, disj, rcOf, isCall, touchV, idsOf, mapId, touchB, p_buildSlice, buildSliceV, reps, fillV, p_convert, p_slice, evO, p_makeSlice, sid_some, soff_some, Nat.reduceLT, Nat.reduceLeDiff, Nat.reduceEqDiff, Nat.reduceAdd, Nat.reduceMul, Int.reduceBEq, Int.reduceEq, Int.reduceNeg, Int.reduceLT, Int.reduceLE, Int.reduceAdd, Int.reduceSub, Int.reduceMul, Int.reduceToNat, Int.reduceGT, Nat.reduceBEq, Nat.reducePow, Nat.reduceGT, reduceCtorEq, ↓reduceIte, t0, t1, t5, t6, wrap_in]
    have gr' := gr.ext e2
    have hos' : os = (ys.take (i + 1)).filter fun v => sees v.cr v.dl s := by rw [htk, hos]; simp
    refine ⟨m - 1, by omega, ex2, i + 1, po, co, oid, os, ?_⟩
    repeat' (first | assumption | refine And.intro ?_ ?_)
    all_goals first | omega | (simp; done) | (simp; omega; done) | skip
  rw [hq] at htk
  obtain ⟨p5, c5, oid5, h5, hap, gr5, ho5, hl5, hk5, hb5⟩ := ((gr.ext e2).ext (hh := h2 ++ [O.cells (Ver.enc y) Kd.rw]) (by (repeat (first | assumption | apply Ext.refl | apply Ext.app | (apply Ext.set <;> omega) | exact Ext.trans (by assumption) (by assumption) | (refine Ext.trans ?_ (by assumption)))))).push (bytes := 56) (vc := some 1) (by simp; omega) (snoc_last _ rfl) rfl rfl (by omega) (by omega)
  simp only [Ver.enc] at hap
  simp -dsimp (disch := first | with_reducible assumption | omega | (intro h_; cases h_; done) | (simp only [LN] <;> omega) | (simp only [LF]; done) | (repeat (first | with_reducible assumption | apply Ext.refl | apply Ext.app | (apply Ext.set <;> omega) | (refine Ext.trans ?_ (by assumption))))) only [AX, TY, gV, dstOf, p_makeFunc, p_mapUpdate, mapPut, entsOf, p_lookup, p_extract, p_nilCheck, oneV, p_load, p_store, p_binOp, p_unOp, p_indexAddr, p_index, p_box, p_build, evParts, builtinV, load1, ldc, splice, minds, disj, rcOf, isCall, touchV, idsOf, mapId, touchB, p_buildSlice, buildSliceV, reps, fillV, p_convert, p_slice, evO, p_makeSlice, sid_some, soff_some, Nat.reduceLT, Nat.reduceLeDiff, Nat.reduceEqDiff, Nat.reduceAdd, Nat.reduceMul, Int.reduceBEq, Int.reduceEq, Int.reduceNeg, Int.reduceLT, Int.reduceLE, Int.reduceAdd, Int.reduceSub, Int.reduceMul, Int.reduceToNat, Int.reduceGT, Nat.reduceBEq, Nat.reducePow, Nat.reduceGT, reduceCtorEq, ↓reduceIte, t0, t1, t5, t6, hla2, hap, wrap_in]
  have ex5 : Ext h h5 := Ext.below (h := h2 ++ [O.cells (Ver.enc y) Kd.rw]) (by (repeat (first | assumption | apply Ext.refl | apply Ext.app | (apply Ext.set <;> omega) | exact Ext.trans (by assumption) (by assumption) | (refine Ext.trans ?_ (by assumption))))) (Nat.le_refl _) hb5
  have hos' : os ++ [y] = (ys.take (i + 1)).filter fun v => sees v.cr v.dl s := by rw [htk, hos]; simp
  refine ⟨m - 1, by omega, ex5, i + 1, p5, c5, oid5, os ++ [y], ?_⟩
  repeat' (first | assumption | refine And.intro ?_ ?_)
  all_goals first | omega | (simp; done) | (simp; omega; done) | skip
theorem law8_ok {h : Heap} {p q : Option (Nat × Nat)} {c d : Option Nat} {ys : List Ver} {xs : List Rid} (hs : Vers h p ys) (hx : Sl h q 2 Rid.enc xs) (s : Int) :
    WR (callE Try.prog hk 8 [.slice p ys.length c, .int .i64 s, .slice q xs.length d] h) fun r h' => r = .bool true := by
  have hn := hs.sl.nil'
  have hl := hs.sl.small
  have hnx := hx.nil'
  have hlx := hx.small
  refine WR.call (hH := rfl) Try.func8 rfl (n := 55) rfl rfl (by simp) ?_
  simp -dsimp (disch := first | with_reducible assumption | omega | (intro h_; cases h_; done) | (simp only [LN] <;> omega) | (simp only [LF]; done) | (repeat (first | with_reducible assumption | apply Ext.refl | apply Ext.app | (apply Ext.set <;> omega) | (refine Ext.trans ?_ (by assumption))))) only [AX, TY, gV, dstOf, p_makeFunc, p_mapUpdate, mapPut, entsOf, p_lookup, p_extract, p_nilCheck, oneV, p_load, p_store, p_binOp, p_unOp, p_indexAddr, p_index, p_box, p_build, evParts, builtinV, load1, ldc, splice, minds, disj, rcOf, isCall, touchV, idsOf, mapId, touchB, p_buildSlice, buildSliceV, reps, fillV, p_convert, p_slice, evO, p_makeSlice, sid_some, soff_some, Nat.reduceLT, Nat.reduceLeDiff, Nat.reduceEqDiff, Nat.reduceAdd, Nat.reduceMul, Int.reduceBEq, Int.reduceEq, Int.reduceNeg, Int.reduceLT, Int.reduceLE, Int.reduceAdd, Int.reduceSub, Int.reduceMul, Int.reduceToNat, Int.reduceGT, Nat.reduceBEq, Nat.reducePow, Nat.reduceGT, reduceCtorEq, ↓reduceIte]
  refine awake_ok.mono ?_
  rintro _ h1 ⟨e1, rfl⟩
  simp -dsimp (disch := first | with_reducible assumption | omega | (intro h_; cases h_; done) | (simp only [LN] <;> omega) | (simp only [LF]; done) | (repeat (first | with_reducible assumption | apply Ext.refl | apply Ext.app | (apply Ext.set <;> omega) | (refine Ext.trans ?_ (by assumption))))) only [AX, TY, gV, dstOf, p_makeFunc, p_mapUpdate, mapPut, entsOf, p_lookup, p_extract, p_nilCheck, oneV, p_load, p_store, p_binOp, p_unOp, p_indexAddr, p_index, p_box, p_build, evParts, builtinV, load1, ldc, splice, minds, disj, rcOf, isCall, touchV, idsOf, mapId, touchB, p_buildSlice, buildSliceV, reps, fillV, p_convert, p_slice, evO, p_makeSlice, sid_some, soff_some, Nat.reduceLT, Nat.reduceLeDiff, Nat.reduceEqDiff, Nat.reduceAdd, Nat.reduceMul, Int.reduceBEq, Int.reduceEq, Int.reduceNeg, Int.reduceLT, Int.reduceLE, Int.reduceAdd, Int.reduceSub, Int.reduceMul, Int.reduceToNat, Int.reduceGT, Nat.reduceBEq, Nat.reducePow, Nat.reduceGT, reduceCtorEq, ↓reduceIte]
  refine (few_ok (hs.ext e1) 20).mono ?_
  rintro _ _ ⟨rfl, fb, rfl, hfb⟩
  cases fb
  · simp -dsimp (disch := first | with_reducible assumption | omega | (intro h_; cases h_; done) | (simp only [LN] <;> omega) | (simp only [LF]; done) | (repeat (first | with_reducible assumption | apply Ext.refl | apply Ext.app | (apply Ext.set <;> omega) | (refine Ext.trans ?_ (by assumption))))) only [AX, TY, gV, dstOf, p_makeFunc, p_mapUpdate, mapPut, entsOf, p_lookup, p_extract, p_nilCheck, oneV, p_load, p_store, p_binOp, p_unOp, p_indexAddr, p_index, p_box, p_build, evParts, builtinV, load1, ldc, splice, minds, disj, rcOf, isCall, touchV, idsOf, mapId, touchB, p_buildSlice, buildSliceV, reps, fillV, p_convert, p_slice, evO, p_makeSlice, sid_some, soff_some, Nat.reduceLT, Nat.reduceLeDiff, Nat.reduceEqDiff, Nat.reduceAdd, Nat.reduceMul, Int.reduceBEq, Int.reduceEq, Int.reduceNeg, Int.reduceLT, Int.reduceLE, Int.reduceAdd, Int.reduceSub, Int.reduceMul, Int.reduceToNat, Int.reduceGT, Nat.reduceBEq, Nat.reducePow, Nat.reduceGT, reduceCtorEq, ↓reduceIte]
  obtain ⟨hl20, hv10⟩ := hfb rfl
  have hB : ∀ y ∈ ys, y.vals.length ≤ 100000 := fun y hy => by have := hv10 y hy; omega
  by_cases g1 : 20 < (xs.length : Int)
  · simp -dsimp (disch := first | with_reducible assumption | omega | (intro h_; cases h_; done) | (simp only [LN] <;> omega) | (simp only [LF]; done) | (repeat (first | with_reducible assumption | apply Ext.refl | apply Ext.app | (apply Ext.set <;> omega) | (refine Ext.trans ?_ (by assumption))))) only [AX, TY, gV, dstOf, p_makeFunc, p_mapUpdate, mapPut, entsOf, p_lookup, p_extract, p_nilCheck, oneV, p_load, p_store, p_binOp, p_unOp, p_indexAddr, p_index, p_box, p_build, evParts, builtinV, load1, ldc, splice, minds, disj, rcOf, isCall, touchV, idsOf, mapId, touchB, p_buildSlice, buildSliceV, reps, fillV, p_convert, p_slice, evO, p_makeSlice, sid_some, soff_some, Nat.reduceLT, Nat.reduceLeDiff, Nat.reduceEqDiff, Nat.reduceAdd, Nat.reduceMul, Int.reduceBEq, Int.reduceEq, Int.reduceNeg, Int.reduceLT, Int.reduceLE, Int.reduceAdd, Int.reduceSub, Int.reduceMul, Int.reduceToNat, Int.reduceGT, Nat.reduceBEq, Nat.reducePow, Nat.reduceGT, reduceCtorEq, ↓reduceIte, g1]
  simp -dsimp (disch := first | with_reducible assumption | omega | (intro h_; cases h_; done) | (simp only [LN] <;> omega) | (simp only [LF]; done) | (repeat (first | with_reducible assumption | apply Ext.refl | apply Ext.app | (apply Ext.set <;> omega) | (refine Ext.trans ?_ (by assumption))))) only [AX, TY, gV, dstOf, p_makeFunc, p_mapUpdate, mapPut, entsOf, p_lookup, p_extract, p_nilCheck, oneV, p_load, p_store, p_binOp, p_unOp, p_indexAddr, p_index, p_box, p_build, evParts, builtinV, load1, ldc, splice, minds, disj, rcOf, isCall, touchV, idsOf, mapId, touchB, p_buildSlice, buildSliceV, reps, fillV, p_convert, p_slice, evO, p_makeSlice, sid_some, soff_some, Nat.reduceLT, Nat.reduceLeDiff, Nat.reduceEqDiff, Nat.reduceAdd, Nat.reduceMul, Int.reduceBEq, Int.reduceEq, Int.reduceNeg, Int.reduceLT, Int.reduceLE, Int.reduceAdd, Int.reduceSub, Int.reduceMul, Int.reduceToNat, Int.reduceGT, Nat.reduceBEq, Nat.reducePow, Nat.reduceGT, reduceCtorEq, ↓reduceIte, g1]
  refine W.loop (fun m τ hh => Ext h1 hh ∧ ∃ i : Nat, m + i = ys.length ∧ τ 0 = .slice p ys.length c ∧ τ 1 = .int .i64 s ∧ τ 2 = .slice q xs.length d ∧ τ 7 = .int .i64 i) ?_ (m := ys.length) ?_
  rotate_left
  · exact ⟨.refl _, 0, by simp, rfl, rfl, rfl, rfl⟩
  rintro m τ hh ⟨e, i, hm, t0, t1, t2, t7⟩
  by_cases h2 : (i : Int) < (ys.length : Int)
  · have hi : i < ys.length := by omega
    have hla := fun hh e => (hs.ext e1).sl.load0 (hh := hh) e hi (m := 5) (by decide)
    generalize ys[i] = y at hla
    have hse := fun g : Heap => sees_ok' (h := g) y s
    have hre := fun g : Heap => rsees_ok (h := g) y s
    simp only [Ver.enc, List.take] at hla hse hre
    simp -dsimp (disch := first | with_reducible assumption | omega | (intro h_; cases h_; done) | (simp only [LN] <;> omega) | (simp only [LF]; done) | (repeat (first | with_reducible assumption | apply Ext.refl | apply Ext.app | (apply Ext.set <;> omega) | (refine Ext.trans ?_ (by assumption))))) only [AX, TY, gV, dstOf, p_makeFunc, p_mapUpdate, mapPut, entsOf, p_lookup, p_extract, p_nilCheck, oneV, p_load, p_store, p_binOp, p_unOp, p_indexAddr, p_index, p_box, p_build, evParts, builtinV, load1, ldc, splice, minds, disj, rcOf, isCall, touchV, idsOf, mapId, touchB, p_buildSlice, buildSliceV, reps, fillV, p_convert, p_slice, evO, p_makeSlice, sid_some, soff_some, Nat.reduceLT, Nat.reduceLeDiff, Nat.reduceEqDiff, Nat.reduceAdd, Nat.reduceMul, Int.reduceBEq, Int.reduceEq, Int.reduceNeg, Int.reduceLT, Int.reduceLE, Int.reduceAdd, Int.reduceSub, Int.reduceMul, Int.reduceToNat, Int.reduceGT, Nat.reduceBEq, Nat.reducePow, Nat.reduceGT, reduceCtorEq, ↓reduceIte, t0, t1, t2, t7, h2]
    refine W.drawn [(0, []), (1, [0]), (2, []), (3, []), (4, [3, 2, 1, 0]), (6, [4, 3, 2, 1, 0]), (7, [6, 4, 3, 2, 1, 0]), (8, [4, 3, 2, 1, 0]), (9, [4, 3, 2, 1, 0]), (10, [9, 8, 7, 6, 4, 3, 2, 1, 0]), (5, [10, 9, 8, 7, 6]), (11, []), (12, [])] (by decide +kernel) ?_
    simp -dsimp (disch := first | with_reducible assumption | omega | (intro h_; cases h_; done) | (simp only [LN] <;> omega) | (simp only [LF]; done) | (repeat (first | with_reducible assumption | apply Ext.refl | apply Ext.app | (apply Ext.set <;> omega) | (refine Ext.trans ?_ (by assumption))))) only [AX, TY, gV, dstOf, p_makeFunc, p_mapUpdate, mapPut, entsOf, p_lookup, p_extract, p_nilCheck, oneV, p_load, p_store, p_binOp, p_unOp, p_indexAddr, p_index, p_box, p_build, evParts, builtinV, load1, ldc, splice, minds, disj, rcOf, isCall, touchV, idsOf, mapId, touchB, p_buildSlice, buildSliceV, reps, fillV, p_convert, p_slice, evO, p_makeSlice, sid_some, soff_some, Nat.reduceLT, Nat.reduceLeDiff, Nat.reduceEqDiff, Nat.reduceAdd, Nat.reduceMul, Int.reduceBEq, Int.reduceEq, Int.reduceNeg, Int.reduceLT, Int.reduceLE, Int.reduceAdd, Int.reduceSub, Int.reduceMul, Int.reduceToNat, Int.reduceGT, Nat.reduceBEq, Nat.reducePow, Nat.reduceGT, reduceCtorEq, ↓reduceIte, t0, t1, t2, t7, h2, hla hh e]
    refine (hse _).mono ?_
    rintro _ h3 ⟨e3, rfl⟩
    have hla3 := hla h3 (e.trans e3)
    have hso3 := (hs.ext e1).sl.so hi e e3
    simp -dsimp (disch := first | with_reducible assumption | omega | (intro h_; cases h_; done) | (simp only [LN] <;> omega) | (simp only [LF]; done) | (repeat (first | with_reducible assumption | apply Ext.refl | apply Ext.app | (apply Ext.set <;> omega) | (refine Ext.trans ?_ (by assumption))))) only [AX, TY, gV, dstOf, p_makeFunc, p_mapUpdate, mapPut, entsOf, p_lookup, p_extract, p_nilCheck, oneV, p_load, p_store, p_binOp, p_unOp, p_indexAddr, p_index, p_box, p_build, evParts, builtinV, load1, ldc, splice, minds, disj, rcOf, isCall, touchV, idsOf, mapId, touchB, p_buildSlice, buildSliceV, reps, fillV, p_convert, p_slice, evO, p_makeSlice, sid_some, soff_some, Nat.reduceLT, Nat.reduceLeDiff, Nat.reduceEqDiff, Nat.reduceAdd, Nat.reduceMul, Int.reduceBEq, Int.reduceEq, Int.reduceNeg, Int.reduceLT, Int.reduceLE, Int.reduceAdd, Int.reduceSub, Int.reduceMul, Int.reduceToNat, Int.reduceGT, Nat.reduceBEq, Nat.reducePow, Nat.reduceGT, reduceCtorEq, ↓reduceIte, t0, t1, t2, t7, hla3, hso3]
    refine (hre _).mono ?_
    rintro _ h4 ⟨e4, rfl⟩
    have ex4 := (e.trans e3).trans e4
    have hso4 := (hs.ext e1).sl.so hi (e.trans e3) e4
    have hso5 := (hs.ext e1).sl.so hi e (e3.trans e4)
    cases sees y.cr y.dl s
    · simp -dsimp (disch := first | with_reducible assumption | omega | (intro h_; cases h_; done) | (simp only [LN] <;> omega) | (simp only [LF]; done) | (repeat (first | with_reducible assumption | apply Ext.refl | apply Ext.app | (apply Ext.set <;> omega) | (refine Ext.trans ?_ (by assumption))))) only [AX, TY, gV, dstOf, p_makeFunc, p_mapUpdate, mapPut, entsOf, p_lookup, p_extract, p_nilCheck, oneV, p_load, p_store, p_binOp, p_unOp, p_indexAddr, p_index, p_box, p_build, evParts, builtinV, load1, ldc, splice, minds, disj, rcOf, isCall, touchV, idsOf, mapId, touchB, p_buildSlice, buildSliceV, reps, fillV, p_convert, p_slice, evO, p_makeSlice, sid_some, soff_some, Nat.reduceLT, Nat.reduceLeDiff, Nat.reduceEqDiff, Nat.reduceAdd, Nat.reduceMul, Int.reduceBEq, Int.reduceEq, Int.reduceNeg, Int.reduceLT, Int.reduceLE, Int.reduceAdd, Int.reduceSub, Int.reduceMul, Int.reduceToNat, Int.reduceGT, Nat.reduceBEq, Nat.reducePow, Nat.reduceGT, reduceCtorEq, ↓reduceIte, t0, t1, t2, t7, hso4, hso5, wrap_in]
      exact ⟨m - 1, by omega, ex4, i + 1, by omega, by simp⟩
    · simp -dsimp (disch := first | with_reducible assumption | omega | (intro h_; cases h_; done) | (simp only [LN] <;> omega) | (simp only [LF]; done) | (repeat (first | with_reducible assumption | apply Ext.refl | apply Ext.app | (apply Ext.set <;> omega) | (refine Ext.trans ?_ (by assumption))))) only [AX, TY, gV, dstOf, p_makeFunc, p_mapUpdate, mapPut, entsOf, p_lookup, p_extract, p_nilCheck, oneV, p_load, p_store, p_binOp, p_unOp, p_indexAddr, p_index, p_box, p_build, evParts, builtinV, load1, ldc, splice, minds, disj, rcOf, isCall, touchV, idsOf, mapId, touchB, p_buildSlice, buildSliceV, reps, fillV, p_convert, p_slice, evO, p_makeSlice, sid_some, soff_some, Nat.reduceLT, Nat.reduceLeDiff, Nat.reduceEqDiff, Nat.reduceAdd, Nat.reduceMul, Int.reduceBEq, Int.reduceEq, Int.reduceNeg, Int.reduceLT, Int.reduceLE, Int.reduceAdd, Int.reduceSub, Int.reduceMul, Int.reduceToNat, Int.reduceGT, Nat.reduceBEq, Nat.reducePow, Nat.reduceGT, reduceCtorEq, ↓reduceIte, t0, t1, t2, t7, hso4, hso5, wrap_in]
      exact ⟨m - 1, by omega, ex4, i + 1, by omega, by simp⟩
  have hs2 := hs.ext (e1.trans e)
  have hx2 := hx.ext (e1.trans e)
  simp -dsimp (disch := first | with_reducible assumption | omega | (intro h_; cases h_; done) | (simp only [LN] <;> omega) | (simp only [LF]; done) | (repeat (first | with_reducible assumption | apply Ext.refl | apply Ext.app | (apply Ext.set <;> omega) | (refine Ext.trans ?_ (by assumption))))) only [AX, TY, gV, dstOf, p_makeFunc, p_mapUpdate, mapPut, entsOf, p_lookup, p_extract, p_nilCheck, oneV, p_load, p_store, p_binOp, p_unOp, p_indexAddr, p_index, p_box, p_build, evParts, builtinV, load1, ldc, splice, minds, disj, rcOf, isCall, touchV, idsOf, mapId, touchB, p_buildSlice, buildSliceV, reps, fillV, p_convert, p_slice, evO, p_makeSlice, sid_some, soff_some, Nat.reduceLT, Nat.reduceLeDiff, Nat.reduceEqDiff, Nat.reduceAdd, Nat.reduceMul, Int.reduceBEq, Int.reduceEq, Int.reduceNeg, Int.reduceLT, Int.reduceLE, Int.reduceAdd, Int.reduceSub, Int.reduceMul, Int.reduceToNat, Int.reduceGT, Nat.reduceBEq, Nat.reducePow, Nat.reduceGT, reduceCtorEq, ↓reduceIte, t0, t1, t2, t7, h2]
  refine (live_ok hs2 (by omega) hB s).mono ?_
  rintro _ h3 ⟨e3, p3, c3, us, rfl, hvu, hku, hlu⟩
  simp -dsimp (disch := first | with_reducible assumption | omega | (intro h_; cases h_; done) | (simp only [LN] <;> omega) | (simp only [LF]; done) | (repeat (first | with_reducible assumption | apply Ext.refl | apply Ext.app | (apply Ext.set <;> omega) | (refine Ext.trans ?_ (by assumption))))) only [AX, TY, gV, dstOf, p_makeFunc, p_mapUpdate, mapPut, entsOf, p_lookup, p_extract, p_nilCheck, oneV, p_load, p_store, p_binOp, p_unOp, p_indexAddr, p_index, p_box, p_build, evParts, builtinV, load1, ldc, splice, minds, disj, rcOf, isCall, touchV, idsOf, mapId, touchB, p_buildSlice, buildSliceV, reps, fillV, p_convert, p_slice, evO, p_makeSlice, sid_some, soff_some, Nat.reduceLT, Nat.reduceLeDiff, Nat.reduceEqDiff, Nat.reduceAdd, Nat.reduceMul, Int.reduceBEq, Int.reduceEq, Int.reduceNeg, Int.reduceLT, Int.reduceLE, Int.reduceAdd, Int.reduceSub, Int.reduceMul, Int.reduceToNat, Int.reduceGT, Nat.reduceBEq, Nat.reducePow, Nat.reduceGT, reduceCtorEq, ↓reduceIte, t0, t1, t2, t7]
  refine (rlive_ok (hs2.ext e3) (by omega) s).mono ?_
  rintro _ h4 ⟨e4, p4, c4, ws, rfl, hvw, hkw⟩
  simp -dsimp (disch := first | with_reducible assumption | omega | (intro h_; cases h_; done) | (simp only [LN] <;> omega) | (simp only [LF]; done) | (repeat (first | with_reducible assumption | apply Ext.refl | apply Ext.app | (apply Ext.set <;> omega) | (refine Ext.trans ?_ (by assumption))))) only [AX, TY, gV, dstOf, p_makeFunc, p_mapUpdate, mapPut, entsOf, p_lookup, p_extract, p_nilCheck, oneV, p_load, p_store, p_binOp, p_unOp, p_indexAddr, p_index, p_box, p_build, evParts, builtinV, load1, ldc, splice, minds, disj, rcOf, isCall, touchV, idsOf, mapId, touchB, p_buildSlice, buildSliceV, reps, fillV, p_convert, p_slice, evO, p_makeSlice, sid_some, soff_some, Nat.reduceLT, Nat.reduceLeDiff, Nat.reduceEqDiff, Nat.reduceAdd, Nat.reduceMul, Int.reduceBEq, Int.reduceEq, Int.reduceNeg, Int.reduceLT, Int.reduceLE, Int.reduceAdd, Int.reduceSub, Int.reduceMul, Int.reduceToNat, Int.reduceGT, Nat.reduceBEq, Nat.reducePow, Nat.reduceGT, reduceCtorEq, ↓reduceIte, t0, t1, t2, t7]
  refine (same_ok (hvu.ext e4) hvw).mono ?_
  rintro _ h5 ⟨e5, rb, rfl, hrb⟩
  have : rb = true := hrb.2 (by rw [hku, hkw])
  subst this
  have e25 : Ext hh h5 := (e3.trans e4).trans e5
  simp -dsimp (disch := first | with_reducible assumption | omega | (intro h_; cases h_; done) | (simp only [LN] <;> omega) | (simp only [LF]; done) | (repeat (first | with_reducible assumption | apply Ext.refl | apply Ext.app | (apply Ext.set <;> omega) | (refine Ext.trans ?_ (by assumption))))) only [AX, TY, gV, dstOf, p_makeFunc, p_mapUpdate, mapPut, entsOf, p_lookup, p_extract, p_nilCheck, oneV, p_load, p_store, p_binOp, p_unOp, p_indexAddr, p_index, p_box, p_build, evParts, builtinV, load1, ldc, splice, minds, disj, rcOf, isCall, touchV, idsOf, mapId, touchB, p_buildSlice, buildSliceV, reps, fillV, p_convert, p_slice, evO, p_makeSlice, sid_some, soff_some, Nat.reduceLT, Nat.reduceLeDiff, Nat.reduceEqDiff, Nat.reduceAdd, Nat.reduceMul, Int.reduceBEq, Int.reduceEq, Int.reduceNeg, Int.reduceLT, Int.reduceLE, Int.reduceAdd, Int.reduceSub, Int.reduceMul, Int.reduceToNat, Int.reduceGT, Nat.reduceBEq, Nat.reducePow, Nat.reduceGT, reduceCtorEq, ↓reduceIte, t0, t1, t2, t7]
  refine (conflicts_ok (hs2.ext e25) (hx2.ext e25) (by omega) hB s).mono ?_
  rintro _ h6 ⟨e6, p6, c6, z1, rfl, hz1, ha1, hm1⟩
  simp -dsimp (disch := first | with_reducible assumption | omega | (intro h_; cases h_; done) | (simp only [LN] <;> omega) | (simp only [LF]; done) | (repeat (first | with_reducible assumption | apply Ext.refl | apply Ext.app | (apply Ext.set <;> omega) | (refine Ext.trans ?_ (by assumption))))) only [AX, TY, gV, dstOf, p_makeFunc, p_mapUpdate, mapPut, entsOf, p_lookup, p_extract, p_nilCheck, oneV, p_load, p_store, p_binOp, p_unOp, p_indexAddr, p_index, p_box, p_build, evParts, builtinV, load1, ldc, splice, minds, disj, rcOf, isCall, touchV, idsOf, mapId, touchB, p_buildSlice, buildSliceV, reps, fillV, p_convert, p_slice, evO, p_makeSlice, sid_some, soff_some, Nat.reduceLT, Nat.reduceLeDiff, Nat.reduceEqDiff, Nat.reduceAdd, Nat.reduceMul, Int.reduceBEq, Int.reduceEq, Int.reduceNeg, Int.reduceLT, Int.reduceLE, Int.reduceAdd, Int.reduceSub, Int.reduceMul, Int.reduceToNat, Int.reduceGT, Nat.reduceBEq, Nat.reducePow, Nat.reduceGT, reduceCtorEq, ↓reduceIte, t0, t1, t2, t7]
  refine (conf25_ok (hs2.ext (e25.trans e6)) (hx2.ext (e25.trans e6)) (by omega) (by omega) s).mono ?_
  rintro _ h7 ⟨e7, p7, c7, z2, rfl, hz2, ha2, hm2⟩
  have hzz : z1 = z2 := asc_ext ha1 ha2 fun x => (hm1 x).trans (hm2 x).symm
  subst hzz
  simp -dsimp (disch := first | with_reducible assumption | omega | (intro h_; cases h_; done) | (simp only [LN] <;> omega) | (simp only [LF]; done) | (repeat (first | with_reducible assumption | apply Ext.refl | apply Ext.app | (apply Ext.set <;> omega) | (refine Ext.trans ?_ (by assumption))))) only [AX, TY, gV, dstOf, p_makeFunc, p_mapUpdate, mapPut, entsOf, p_lookup, p_extract, p_nilCheck, oneV, p_load, p_store, p_binOp, p_unOp, p_indexAddr, p_index, p_box, p_build, evParts, builtinV, load1, ldc, splice, minds, disj, rcOf, isCall, touchV, idsOf, mapId, touchB, p_buildSlice, buildSliceV, reps, fillV, p_convert, p_slice, evO, p_makeSlice, sid_some, soff_some, Nat.reduceLT, Nat.reduceLeDiff, Nat.reduceEqDiff, Nat.reduceAdd, Nat.reduceMul, Int.reduceBEq, Int.reduceEq, Int.reduceNeg, Int.reduceLT, Int.reduceLE, Int.reduceAdd, Int.reduceSub, Int.reduceMul, Int.reduceToNat, Int.reduceGT, Nat.reduceBEq, Nat.reducePow, Nat.reduceGT, reduceCtorEq, ↓reduceIte, t0, t1, t2, t7]
  refine (same24_ok (hz1.ext e7) hz2).mono ?_
  rintro _ h8 rfl
  simp -dsimp (disch := first | with_reducible assumption | omega | (intro h_; cases h_; done) | (simp only [LN] <;> omega) | (simp only [LF]; done) | (repeat (first | with_reducible assumption | apply Ext.refl | apply Ext.app | (apply Ext.set <;> omega) | (refine Ext.trans ?_ (by assumption))))) only [AX, TY, gV, dstOf, p_makeFunc, p_mapUpdate, mapPut, entsOf, p_lookup, p_extract, p_nilCheck, oneV, p_load, p_store, p_binOp, p_unOp, p_indexAddr, p_index, p_box, p_build, evParts, builtinV, load1, ldc, splice, minds, disj, rcOf, isCall, touchV, idsOf, mapId, touchB, p_buildSlice, buildSliceV, reps, fillV, p_convert, p_slice, evO, p_makeSlice, sid_some, soff_some, Nat.reduceLT, Nat.reduceLeDiff, Nat.reduceEqDiff, Nat.reduceAdd, Nat.reduceMul, Int.reduceBEq, Int.reduceEq, Int.reduceNeg, Int.reduceLT, Int.reduceLE, Int.reduceAdd, Int.reduceSub, Int.reduceMul, Int.reduceToNat, Int.reduceGT, Nat.reduceBEq, Nat.reducePow, Nat.reduceGT, reduceCtorEq, ↓reduceIte]
end Go.Proofs.YtpmlphefdoaohaaA
namespace Go.Proofs.YtpmlphefdoaohaaA
open Go Go.Proofs Go.RowKit
set_option linter.unusedVariables false
set_option linter.unusedSimpArgs false
set_option maxRecDepth 10000
set_option maxHeartbeats 2000000
theorem asc_one {zs : List Rid} {x : Rid} (ha : AscR zs) (hm : ∀ y ∈ zs, y = x) : zs.length ≤ 1 := by
  match zs, ha, hm with
  | [], _, _ => simp
  | [a], _, _ => simp
  | a :: b :: t, ha, hm =>
    have h1 := hm a (by simp)
    have h2 := hm b (by simp)
    unfold AscR at ha
    rw [List.pairwise_cons] at ha
    have := ha.1 b (by simp)
    rw [h1, h2, cmpR_self] at this
    omega
theorem law7_ok {h : Heap} {p : Option (Nat × Nat)} {c : Option Nat} {ys : List Ver} (hs : Vers h p ys) (s : Int) (k : Nat) (hk8 : k ≤ 255) :
    WR (callE Try.prog hk 7 [.slice p ys.length c, .int .i64 s, .int .u8 (k : Int)] h) fun r h' => r = .bool true := by
  have hn := hs.sl.nil'
  have hl := hs.sl.small
  refine WR.call (hH := rfl) Try.func7 rfl (n := 100) rfl rfl (by simp) ?_
  simp -dsimp (disch := first | with_reducible assumption | omega | (intro h_; cases h_; done) | (simp only [LN] <;> omega) | (simp only [LF]; done) | (repeat (first | with_reducible assumption | apply Ext.refl | apply Ext.app | (apply Ext.set <;> omega) | (refine Ext.trans ?_ (by assumption))))) only [AX, TY, gV, dstOf, p_makeFunc, p_mapUpdate, mapPut, entsOf, p_lookup, p_extract, p_nilCheck, oneV, p_load, p_store, p_binOp, p_unOp, p_indexAddr, p_index, p_box, p_build, evParts, builtinV, load1, ldc, splice, minds, disj, rcOf, isCall, touchV, idsOf, mapId, touchB, p_buildSlice, buildSliceV, reps, fillV, p_convert, p_slice, evO, p_makeSlice, sid_some, soff_some, Nat.reduceLT, Nat.reduceLeDiff, Nat.reduceEqDiff, Nat.reduceAdd, Nat.reduceMul, Int.reduceBEq, Int.reduceEq, Int.reduceNeg, Int.reduceLT, Int.reduceLE, Int.reduceAdd, Int.reduceSub, Int.reduceMul, Int.reduceToNat, Int.reduceGT, Nat.reduceBEq, Nat.reducePow, Nat.reduceGT, reduceCtorEq, ↓reduceIte]
  refine awake_ok.mono ?_
  rintro _ h1 ⟨e1, rfl⟩
  simp -dsimp (disch := first | with_reducible assumption | omega | (intro h_; cases h_; done) | (simp only [LN] <;> omega) | (simp only [LF]; done) | (repeat (first | with_reducible assumption | apply Ext.refl | apply Ext.app | (apply Ext.set <;> omega) | (refine Ext.trans ?_ (by assumption))))) only [AX, TY, gV, dstOf, p_makeFunc, p_mapUpdate, mapPut, entsOf, p_lookup, p_extract, p_nilCheck, oneV, p_load, p_store, p_binOp, p_unOp, p_indexAddr, p_index, p_box, p_build, evParts, builtinV, load1, ldc, splice, minds, disj, rcOf, isCall, touchV, idsOf, mapId, touchB, p_buildSlice, buildSliceV, reps, fillV, p_convert, p_slice, evO, p_makeSlice, sid_some, soff_some, Nat.reduceLT, Nat.reduceLeDiff, Nat.reduceEqDiff, Nat.reduceAdd, Nat.reduceMul, Int.reduceBEq, Int.reduceEq, Int.reduceNeg, Int.reduceLT, Int.reduceLE, Int.reduceAdd, Int.reduceSub, Int.reduceMul, Int.reduceToNat, Int.reduceGT, Nat.reduceBEq, Nat.reducePow, Nat.reduceGT, reduceCtorEq, ↓reduceIte]
  refine (few_ok (hs.ext e1) 20).mono ?_
  rintro _ _ ⟨rfl, fb, rfl, hfb⟩
  cases fb
  · simp -dsimp (disch := first | with_reducible assumption | omega | (intro h_; cases h_; done) | (simp only [LN] <;> omega) | (simp only [LF]; done) | (repeat (first | with_reducible assumption | apply Ext.refl | apply Ext.app | (apply Ext.set <;> omega) | (refine Ext.trans ?_ (by assumption))))) only [AX, TY, gV, dstOf, p_makeFunc, p_mapUpdate, mapPut, entsOf, p_lookup, p_extract, p_nilCheck, oneV, p_load, p_store, p_binOp, p_unOp, p_indexAddr, p_index, p_box, p_build, evParts, builtinV, load1, ldc, splice, minds, disj, rcOf, isCall, touchV, idsOf, mapId, touchB, p_buildSlice, buildSliceV, reps, fillV, p_convert, p_slice, evO, p_makeSlice, sid_some, soff_some, Nat.reduceLT, Nat.reduceLeDiff, Nat.reduceEqDiff, Nat.reduceAdd, Nat.reduceMul, Int.reduceBEq, Int.reduceEq, Int.reduceNeg, Int.reduceLT, Int.reduceLE, Int.reduceAdd, Int.reduceSub, Int.reduceMul, Int.reduceToNat, Int.reduceGT, Nat.reduceBEq, Nat.reducePow, Nat.reduceGT, reduceCtorEq, ↓reduceIte]
  obtain ⟨hl20, hv10⟩ := hfb rfl
  have hB : ∀ y ∈ ys, y.vals.length ≤ 100000 := fun y hy => by have := hv10 y hy; omega
  by_cases g1 : s < 0
  · simp -dsimp (disch := first | with_reducible assumption | omega | (intro h_; cases h_; done) | (simp only [LN] <;> omega) | (simp only [LF]; done) | (repeat (first | with_reducible assumption | apply Ext.refl | apply Ext.app | (apply Ext.set <;> omega) | (refine Ext.trans ?_ (by assumption))))) only [AX, TY, gV, dstOf, p_makeFunc, p_mapUpdate, mapPut, entsOf, p_lookup, p_extract, p_nilCheck, oneV, p_load, p_store, p_binOp, p_unOp, p_indexAddr, p_index, p_box, p_build, evParts, builtinV, load1, ldc, splice, minds, disj, rcOf, isCall, touchV, idsOf, mapId, touchB, p_buildSlice, buildSliceV, reps, fillV, p_convert, p_slice, evO, p_makeSlice, sid_some, soff_some, Nat.reduceLT, Nat.reduceLeDiff, Nat.reduceEqDiff, Nat.reduceAdd, Nat.reduceMul, Int.reduceBEq, Int.reduceEq, Int.reduceNeg, Int.reduceLT, Int.reduceLE, Int.reduceAdd, Int.reduceSub, Int.reduceMul, Int.reduceToNat, Int.reduceGT, Nat.reduceBEq, Nat.reducePow, Nat.reduceGT, reduceCtorEq, ↓reduceIte, g1]
  by_cases g2 : (ys.length : Int) = 0
  · simp -dsimp (disch := first | with_reducible assumption | omega | (intro h_; cases h_; done) | (simp only [LN] <;> omega) | (simp only [LF]; done) | (repeat (first | with_reducible assumption | apply Ext.refl | apply Ext.app | (apply Ext.set <;> omega) | (refine Ext.trans ?_ (by assumption))))) only [AX, TY, gV, dstOf, p_makeFunc, p_mapUpdate, mapPut, entsOf, p_lookup, p_extract, p_nilCheck, oneV, p_load, p_store, p_binOp, p_unOp, p_indexAddr, p_index, p_box, p_build, evParts, builtinV, load1, ldc, splice, minds, disj, rcOf, isCall, touchV, idsOf, mapId, touchB, p_buildSlice, buildSliceV, reps, fillV, p_convert, p_slice, evO, p_makeSlice, sid_some, soff_some, Nat.reduceLT, Nat.reduceLeDiff, Nat.reduceEqDiff, Nat.reduceAdd, Nat.reduceMul, Int.reduceBEq, Int.reduceEq, Int.reduceNeg, Int.reduceLT, Int.reduceLE, Int.reduceAdd, Int.reduceSub, Int.reduceMul, Int.reduceToNat, Int.reduceGT, Nat.reduceBEq, Nat.reducePow, Nat.reduceGT, reduceCtorEq, ↓reduceIte, g1, eq_true g2]
  have hj : k % ys.length < ys.length := Nat.mod_lt _ (by omega)
  have hrem : (k : Int).tmod (ys.length : Int) = ((k % ys.length : Nat) : Int) := rfl
  have hw : IntKind.i64.wrap (k : Int) = (k : Int) := by rw [IntKind.wrap_i64]; omega
  have hla := fun hh e => (hs.ext e1).sl.load0 (hh := hh) e hj (m := 5) (by decide)
  have hji : ((k % ys.length : Nat) : Int) < (ys.length : Int) := by omega
  generalize hjk : k % ys.length = j at hj hrem hla hji
  have hmem := List.getElem_mem hj
  generalize ys[j] = v at hla hmem
  simp only [Ver.enc, List.take] at hla
  have hla1 := hla h1 (.refl _)
  obtain ⟨g, hg, gx, eg⟩ : ∃ g, h1 ++ [O.cells (Ver.enc v) .rw] = g ∧ g[h1.length]? = some (O.cells (Ver.enc v) .rw) ∧ Ext h1 g := ⟨_, rfl, snoc_last _ rfl, (by (repeat (first | assumption | apply Ext.refl | apply Ext.app | (apply Ext.set <;> omega) | exact Ext.trans (by assumption) (by assumption) | (refine Ext.trans ?_ (by assumption)))))⟩
  simp only [Ver.enc] at hg gx
  have lx := loadN_fact gx
  have hs2 := hs.ext (e1.trans eg)
  simp -dsimp (disch := first | with_reducible assumption | omega | (intro h_; cases h_; done) | (simp only [LN] <;> omega) | (simp only [LF]; done) | (repeat (first | with_reducible assumption | apply Ext.refl | apply Ext.app | (apply Ext.set <;> omega) | (refine Ext.trans ?_ (by assumption))))) only [AX, TY, gV, dstOf, p_makeFunc, p_mapUpdate, mapPut, entsOf, p_lookup, p_extract, p_nilCheck, oneV, p_load, p_store, p_binOp, p_unOp, p_indexAddr, p_index, p_box, p_build, evParts, builtinV, load1, ldc, splice, minds, disj, rcOf, isCall, touchV, idsOf, mapId, touchB, p_buildSlice, buildSliceV, reps, fillV, p_convert, p_slice, evO, p_makeSlice, sid_some, soff_some, Nat.reduceLT, Nat.reduceLeDiff, Nat.reduceEqDiff, Nat.reduceAdd, Nat.reduceMul, Int.reduceBEq, Int.reduceEq, Int.reduceNeg, Int.reduceLT, Int.reduceLE, Int.reduceAdd, Int.reduceSub, Int.reduceMul, Int.reduceToNat, Int.reduceGT, Nat.reduceBEq, Nat.reducePow, Nat.reduceGT, reduceCtorEq, ↓reduceIte, g1, g2, hrem, hw, hji, hla1, hg, lx]
  obtain ⟨g5, hg5, gx5, eg5⟩ : ∃ g5, g ++ [O.cells ([v.rid, v.rid].flatMap Rid.enc) .rw] = g5 ∧ g5[g.length]? = some (O.cells ([v.rid, v.rid].flatMap Rid.enc) .rw) ∧ Ext g g5 := ⟨_, rfl, snoc_last _ rfl, (by (repeat (first | assumption | apply Ext.refl | apply Ext.app | (apply Ext.set <;> omega) | exact Ext.trans (by assumption) (by assumption) | (refine Ext.trans ?_ (by assumption)))))⟩
  have hsl5 : Sl g5 (some (g.length, 0)) 2 Rid.enc [v.rid, v.rid] := Sl.whole gx5 (fun _ _ => rfl) rfl (by simp)
  simp only [Rid.enc, Ver.rid, List.flatMap_cons, List.flatMap_nil, List.append_nil, List.cons_append, List.nil_append] at hg5
  simp -dsimp (disch := first | with_reducible assumption | omega | (intro h_; cases h_; done) | (simp only [LN] <;> omega) | (simp only [LF]; done) | (repeat (first | with_reducible assumption | apply Ext.refl | apply Ext.app | (apply Ext.set <;> omega) | (refine Ext.trans ?_ (by assumption))))) only [AX, TY, gV, dstOf, p_makeFunc, p_mapUpdate, mapPut, entsOf, p_lookup, p_extract, p_nilCheck, oneV, p_load, p_store, p_binOp, p_unOp, p_indexAddr, p_index, p_box, p_build, evParts, builtinV, load1, ldc, splice, minds, disj, rcOf, isCall, touchV, idsOf, mapId, touchB, p_buildSlice, buildSliceV, reps, fillV, p_convert, p_slice, evO, p_makeSlice, sid_some, soff_some, Nat.reduceLT, Nat.reduceLeDiff, Nat.reduceEqDiff, Nat.reduceAdd, Nat.reduceMul, Int.reduceBEq, Int.reduceEq, Int.reduceNeg, Int.reduceLT, Int.reduceLE, Int.reduceAdd, Int.reduceSub, Int.reduceMul, Int.reduceToNat, Int.reduceGT, Nat.reduceBEq, Nat.reducePow, Nat.reduceGT, reduceCtorEq, ↓reduceIte, hg5]
  refine (conflicts_ok (hs2.ext eg5) hsl5 (by omega) hB s).mono ?_
  rintro _ h2 ⟨e2, p2, c2, zs, rfl, hz, ha, hm⟩
  have gx2 := e2 _ _ (eg5 _ _ gx)
  have lx2 := loadN_fact gx2
  have hz1 : zs.length ≤ 1 := asc_one ha fun y hy => by
    have := ((hm y).1 hy).1
    simpa using this
  have hz1' : (zs.length : Int) ≤ 1 := by omega
  by_cases hd : s < v.dl
  · have hzs : zs = [v.rid] := asc_ext ha (List.pairwise_singleton _ _) fun x => by
      rw [hm, List.mem_singleton]
      constructor
      · rintro ⟨h1, _⟩; simpa using h1
      · rintro rfl; exact ⟨by simp, v, hmem, rfl, hd⟩
    subst hzs
    rcases p2 with _ | ⟨pa, po⟩
    · exact absurd (hz.nil rfl) (by simp)
    have hlz := hz.load0 (.refl _) (i := 0) (by simp) (m := 2) (by decide)
    simp only [Rid.enc, Ver.rid, List.getElem_cons_zero, List.take, Nat.zero_mul, Nat.add_zero, sid_some, soff_some] at hlz
    simp -dsimp (disch := first | with_reducible assumption | omega | (intro h_; cases h_; done) | (simp only [LN] <;> omega) | (simp only [LF]; done) | (repeat (first | with_reducible assumption | apply Ext.refl | apply Ext.app | (apply Ext.set <;> omega) | (refine Ext.trans ?_ (by assumption))))) only [AX, TY, gV, dstOf, p_makeFunc, p_mapUpdate, mapPut, entsOf, p_lookup, p_extract, p_nilCheck, oneV, p_load, p_store, p_binOp, p_unOp, p_indexAddr, p_index, p_box, p_build, evParts, builtinV, load1, ldc, splice, minds, disj, rcOf, isCall, touchV, idsOf, mapId, touchB, p_buildSlice, buildSliceV, reps, fillV, p_convert, p_slice, evO, p_makeSlice, sid_some, soff_some, Nat.reduceLT, Nat.reduceLeDiff, Nat.reduceEqDiff, Nat.reduceAdd, Nat.reduceMul, Int.reduceBEq, Int.reduceEq, Int.reduceNeg, Int.reduceLT, Int.reduceLE, Int.reduceAdd, Int.reduceSub, Int.reduceMul, Int.reduceToNat, Int.reduceGT, Nat.reduceBEq, Nat.reducePow, Nat.reduceGT, reduceCtorEq, ↓reduceIte, hd, lx2]
    refine W.drawn [(0, []), (1, []), (2, []), (3, []), (4, []), (5, []), (6, []), (7, [6, 5, 4]), (8, [6, 5, 4]), (9, []), (10, []), (11, [])] (by decide +kernel) ?_
    simp -dsimp (disch := first | with_reducible assumption | omega | (intro h_; cases h_; done) | (simp only [LN] <;> omega) | (simp only [LF]; done) | (repeat (first | with_reducible assumption | apply Ext.refl | apply Ext.app | (apply Ext.set <;> omega) | (refine Ext.trans ?_ (by assumption))))) only [AX, TY, gV, dstOf, p_makeFunc, p_mapUpdate, mapPut, entsOf, p_lookup, p_extract, p_nilCheck, oneV, p_load, p_store, p_binOp, p_unOp, p_indexAddr, p_index, p_box, p_build, evParts, builtinV, load1, ldc, splice, minds, disj, rcOf, isCall, touchV, idsOf, mapId, touchB, p_buildSlice, buildSliceV, reps, fillV, p_convert, p_slice, evO, p_makeSlice, sid_some, soff_some, Nat.reduceLT, Nat.reduceLeDiff, Nat.reduceEqDiff, Nat.reduceAdd, Nat.reduceMul, Int.reduceBEq, Int.reduceEq, Int.reduceNeg, Int.reduceLT, Int.reduceLE, Int.reduceAdd, Int.reduceSub, Int.reduceMul, Int.reduceToNat, Int.reduceGT, Nat.reduceBEq, Nat.reducePow, Nat.reduceGT, reduceCtorEq, ↓reduceIte, lx2, hlz, eql_23, eqt_23]
  have e12 : Ext h1 h2 := (eg.trans eg5).trans e2
  have hs3 := hs.ext (e1.trans e12)
  have hn2 := hz.nil'
  have hl2 := hz.small
  simp -dsimp (disch := first | with_reducible assumption | omega | (intro h_; cases h_; done) | (simp only [LN] <;> omega) | (simp only [LF]; done) | (repeat (first | with_reducible assumption | apply Ext.refl | apply Ext.app | (apply Ext.set <;> omega) | (refine Ext.trans ?_ (by assumption))))) only [AX, TY, gV, dstOf, p_makeFunc, p_mapUpdate, mapPut, entsOf, p_lookup, p_extract, p_nilCheck, oneV, p_load, p_store, p_binOp, p_unOp, p_indexAddr, p_index, p_box, p_build, evParts, builtinV, load1, ldc, splice, minds, disj, rcOf, isCall, touchV, idsOf, mapId, touchB, p_buildSlice, buildSliceV, reps, fillV, p_convert, p_slice, evO, p_makeSlice, sid_some, soff_some, Nat.reduceLT, Nat.reduceLeDiff, Nat.reduceEqDiff, Nat.reduceAdd, Nat.reduceMul, Int.reduceBEq, Int.reduceEq, Int.reduceNeg, Int.reduceLT, Int.reduceLE, Int.reduceAdd, Int.reduceSub, Int.reduceMul, Int.reduceToNat, Int.reduceGT, Nat.reduceBEq, Nat.reducePow, Nat.reduceGT, reduceCtorEq, ↓reduceIte, hd, lx2]
  refine W.loop (fun m τ hh => h2 = hh ∧ ∃ i : Nat, m + i = ys.length ∧ τ 0 = .slice p ys.length c ∧ τ 1 = .int .i64 s ∧ τ 7 = .ptr (some (h1.length, 0)) ∧ τ 8 = .slice p2 zs.length c2 ∧ τ 9 = .bool ((ys.take i).all fun y => decide (¬ (y.a = v.a ∧ y.b = v.b)) || decide (y.dl = 0)) ∧ τ 10 = .int .i64 i) ?_ (m := ys.length) ?_
  rotate_left
  · refine ⟨rfl, 0, by simp, ?_⟩
    simp only [List.take_zero, List.all_nil]
    simp -dsimp (disch := first | with_reducible assumption | omega | (intro h_; cases h_; done) | (simp only [LN] <;> omega) | (simp only [LF]; done) | (repeat (first | with_reducible assumption | apply Ext.refl | apply Ext.app | (apply Ext.set <;> omega) | (refine Ext.trans ?_ (by assumption))))) only [AX, TY, gV, dstOf, p_makeFunc, p_mapUpdate, mapPut, entsOf, p_lookup, p_extract, p_nilCheck, oneV, p_load, p_store, p_binOp, p_unOp, p_indexAddr, p_index, p_box, p_build, evParts, builtinV, load1, ldc, splice, minds, disj, rcOf, isCall, touchV, idsOf, mapId, touchB, p_buildSlice, buildSliceV, reps, fillV, p_convert, p_slice, evO, p_makeSlice, sid_some, soff_some, Nat.reduceLT, Nat.reduceLeDiff, Nat.reduceEqDiff, Nat.reduceAdd, Nat.reduceMul, Int.reduceBEq, Int.reduceEq, Int.reduceNeg, Int.reduceLT, Int.reduceLE, Int.reduceAdd, Int.reduceSub, Int.reduceMul, Int.reduceToNat, Int.reduceGT, Nat.reduceBEq, Nat.reducePow, Nat.reduceGT, reduceCtorEq, ↓reduceIte]
  rintro m τ _ ⟨rfl, i, hmi, t0, t1, t7, t8, t9, t10⟩
  by_cases h3 : (i : Int) < (ys.length : Int)
  · have hi : i < ys.length := by omega
    have htk : (ys.take (i + 1)).all (fun y => decide (¬ (y.a = v.a ∧ y.b = v.b)) || decide (y.dl = 0)) = ((ys.take i).all (fun y => decide (¬ (y.a = v.a ∧ y.b = v.b)) || decide (y.dl = 0)) && (decide (¬ (ys[i].a = v.a ∧ ys[i].b = v.b)) || decide (ys[i].dl = 0))) := by
      rw [List.take_succ_eq_append_getElem hi, List.all_append]; simp
    have hl0 := hs3.sl.load0 (.refl _) hi (m := 2) (by decide)
    have hl3 := hs3.sl.load (.refl _) hi (o := 4) (m := 1) (by decide)
    generalize ys[i] = y at hl0 hl3 htk
    simp only [Ver.enc, List.take, List.drop] at hl0 hl3
    generalize (ys.take i).all (fun y => decide (¬ (y.a = v.a ∧ y.b = v.b)) || decide (y.dl = 0)) = b at htk t9
    cases b
    · simp -dsimp (disch := first | with_reducible assumption | omega | (intro h_; cases h_; done) | (simp only [LN] <;> omega) | (simp only [LF]; done) | (repeat (first | with_reducible assumption | apply Ext.refl | apply Ext.app | (apply Ext.set <;> omega) | (refine Ext.trans ?_ (by assumption))))) only [AX, TY, gV, dstOf, p_makeFunc, p_mapUpdate, mapPut, entsOf, p_lookup, p_extract, p_nilCheck, oneV, p_load, p_store, p_binOp, p_unOp, p_indexAddr, p_index, p_box, p_build, evParts, builtinV, load1, ldc, splice, minds, disj, rcOf, isCall, touchV, idsOf, mapId, touchB, p_buildSlice, buildSliceV, reps, fillV, p_convert, p_slice, evO, p_makeSlice, sid_some, soff_some, Nat.reduceLT, Nat.reduceLeDiff, Nat.reduceEqDiff, Nat.reduceAdd, Nat.reduceMul, Int.reduceBEq, Int.reduceEq, Int.reduceNeg, Int.reduceLT, Int.reduceLE, Int.reduceAdd, Int.reduceSub, Int.reduceMul, Int.reduceToNat, Int.reduceGT, Nat.reduceBEq, Nat.reducePow, Nat.reduceGT, reduceCtorEq, ↓reduceIte, t0, t1, t7, t8, t9, t10, h3]
      refine W.drawn [(0, []), (1, []), (2, []), (3, [2]), (4, []), (5, []), (6, []), (7, [6, 5, 4, 3, 2]), (8, [6, 5, 4, 3, 2]), (9, []), (10, []), (11, []), (12, [11]), (13, []), (14, []), (15, []), (16, []), (17, []), (18, []), (19, [])] (by decide +kernel) ?_
      simp -dsimp (disch := first | with_reducible assumption | omega | (intro h_; cases h_; done) | (simp only [LN] <;> omega) | (simp only [LF]; done) | (repeat (first | with_reducible assumption | apply Ext.refl | apply Ext.app | (apply Ext.set <;> omega) | (refine Ext.trans ?_ (by assumption))))) only [AX, TY, gV, dstOf, p_makeFunc, p_mapUpdate, mapPut, entsOf, p_lookup, p_extract, p_nilCheck, oneV, p_load, p_store, p_binOp, p_unOp, p_indexAddr, p_index, p_box, p_build, evParts, builtinV, load1, ldc, splice, minds, disj, rcOf, isCall, touchV, idsOf, mapId, touchB, p_buildSlice, buildSliceV, reps, fillV, p_convert, p_slice, evO, p_makeSlice, sid_some, soff_some, Nat.reduceLT, Nat.reduceLeDiff, Nat.reduceEqDiff, Nat.reduceAdd, Nat.reduceMul, Int.reduceBEq, Int.reduceEq, Int.reduceNeg, Int.reduceLT, Int.reduceLE, Int.reduceAdd, Int.reduceSub, Int.reduceMul, Int.reduceToNat, Int.reduceGT, Nat.reduceBEq, Nat.reducePow, Nat.reduceGT, reduceCtorEq, ↓reduceIte, t0, t1, t7, t8, t9, t10, h3, wrap_in]
      refine ⟨m - 1, by omega, i + 1, by omega, ?_⟩
      rw [htk]
      simp
    by_cases he : y.rid = v.rid
    · have heq : y.a = v.a ∧ y.b = v.b := by
        have h1 := congrArg Rid.a he; have h2 := congrArg Rid.b he
        exact ⟨h1, h2⟩
      rw [decide_eq_false (show ¬ ¬ (y.a = v.a ∧ y.b = v.b) from fun q => q heq)] at htk
      by_cases hd0 : y.dl = 0
      · simp -dsimp (disch := first | with_reducible assumption | omega | (intro h_; cases h_; done) | (simp only [LN] <;> omega) | (simp only [LF]; done) | (repeat (first | with_reducible assumption | apply Ext.refl | apply Ext.app | (apply Ext.set <;> omega) | (refine Ext.trans ?_ (by assumption))))) only [AX, TY, gV, dstOf, p_makeFunc, p_mapUpdate, mapPut, entsOf, p_lookup, p_extract, p_nilCheck, oneV, p_load, p_store, p_binOp, p_unOp, p_indexAddr, p_index, p_box, p_build, evParts, builtinV, load1, ldc, splice, minds, disj, rcOf, isCall, touchV, idsOf, mapId, touchB, p_buildSlice, buildSliceV, reps, fillV, p_convert, p_slice, evO, p_makeSlice, sid_some, soff_some, Nat.reduceLT, Nat.reduceLeDiff, Nat.reduceEqDiff, Nat.reduceAdd, Nat.reduceMul, Int.reduceBEq, Int.reduceEq, Int.reduceNeg, Int.reduceLT, Int.reduceLE, Int.reduceAdd, Int.reduceSub, Int.reduceMul, Int.reduceToNat, Int.reduceGT, Nat.reduceBEq, Nat.reducePow, Nat.reduceGT, reduceCtorEq, ↓reduceIte, t0, t1, t7, t8, t9, t10, h3]
        refine W.drawn [(0, []), (1, []), (2, []), (3, [2]), (4, []), (5, []), (6, []), (7, [6, 5, 4, 3, 2]), (8, [6, 5, 4, 3, 2]), (9, []), (10, []), (11, []), (12, [11]), (13, []), (14, []), (15, []), (16, []), (17, []), (18, []), (19, [])] (by decide +kernel) ?_
        simp -dsimp (disch := first | with_reducible assumption | omega | (intro h_; cases h_; done) | (simp only [LN] <;> omega) | (simp only [LF]; done) | (repeat (first | with_reducible assumption | apply Ext.refl | apply Ext.app | (apply Ext.set <;> omega) | (refine Ext.trans ?_ (by assumption))))) only [AX, TY, gV, dstOf, p_makeFunc, p_mapUpdate, mapPut, entsOf, p_lookup, p_extract, p_nilCheck, oneV, p_load, p_store, p_binOp, p_unOp, p_indexAddr, p_index, p_box, p_build, evParts, builtinV, load1, ldc, splice, minds, disj, rcOf, isCall, touchV, idsOf, mapId, touchB, p_buildSlice, buildSliceV, reps, fillV, p_convert, p_slice, evO, p_makeSlice, sid_some, soff_some, Nat.reduceLT, Nat.reduceLeDiff, Nat.reduceEqDiff, Nat.reduceAdd, Nat.reduceMul, Int.reduceBEq, Int.reduceEq, Int.reduceNeg, Int.reduceLT, Int.reduceLE, Int.reduceAdd, Int.reduceSub, Int.reduceMul, Int.reduceToNat, Int.reduceGT, Nat.reduceBEq, Nat.reducePow, Nat.reduceGT, reduceCtorEq, ↓reduceIte, t0, t1, t7, t8, t9, t10, h3, hl0, hl3, lx2, neq_23, eqt_23, eq_true heq, eq_true hd0, wrap_in]
        refine ⟨m - 1, by omega, i + 1, by omega, ?_⟩
        rw [htk]
        simp [hd0]
      · simp -dsimp (disch := first | with_reducible assumption | omega | (intro h_; cases h_; done) | (simp only [LN] <;> omega) | (simp only [LF]; done) | (repeat (first | with_reducible assumption | apply Ext.refl | apply Ext.app | (apply Ext.set <;> omega) | (refine Ext.trans ?_ (by assumption))))) only [AX, TY, gV, dstOf, p_makeFunc, p_mapUpdate, mapPut, entsOf, p_lookup, p_extract, p_nilCheck, oneV, p_load, p_store, p_binOp, p_unOp, p_indexAddr, p_index, p_box, p_build, evParts, builtinV, load1, ldc, splice, minds, disj, rcOf, isCall, touchV, idsOf, mapId, touchB, p_buildSlice, buildSliceV, reps, fillV, p_convert, p_slice, evO, p_makeSlice, sid_some, soff_some, Nat.reduceLT, Nat.reduceLeDiff, Nat.reduceEqDiff, Nat.reduceAdd, Nat.reduceMul, Int.reduceBEq, Int.reduceEq, Int.reduceNeg, Int.reduceLT, Int.reduceLE, Int.reduceAdd, Int.reduceSub, Int.reduceMul, Int.reduceToNat, Int.reduceGT, Nat.reduceBEq, Nat.reducePow, Nat.reduceGT, reduceCtorEq, ↓reduceIte, t0, t1, t7, t8, t9, t10, h3]
        refine W.drawn [(0, []), (1, []), (2, []), (3, [2]), (4, []), (5, []), (6, []), (7, [6, 5, 4, 3, 2]), (8, [6, 5, 4, 3, 2]), (9, []), (10, []), (11, []), (12, [11]), (13, []), (14, []), (15, []), (16, []), (17, []), (18, []), (19, [])] (by decide +kernel) ?_
        simp -dsimp (disch := first | with_reducible assumption | omega | (intro h_; cases h_; done) | (simp only [LN] <;> omega) | (simp only [LF]; done) | (repeat (first | with_reducible assumption | apply Ext.refl | apply Ext.app | (apply Ext.set <;> omega) | (refine Ext.trans ?_ (by assumption))))) only [AX, TY, gV, dstOf, p_makeFunc, p_mapUpdate, mapPut, entsOf, p_lookup, p_extract, p_nilCheck, oneV, p_load, p_store, p_binOp, p_unOp, p_indexAddr, p_index, p_box, p_build, evParts, builtinV, load1, ldc, splice, minds, disj, rcOf, isCall, touchV, idsOf, mapId, touchB, p_buildSlice, buildSliceV, reps, fillV, p_convert, p_slice, evO, p_makeSlice, sid_some, soff_some, Nat.reduceLT, Nat.reduceLeDiff, Nat.reduceEqDiff, Nat.reduceAdd, Nat.reduceMul, Int.reduceBEq, Int.reduceEq, Int.reduceNeg, Int.reduceLT, Int.reduceLE, Int.reduceAdd, Int.reduceSub, Int.reduceMul, Int.reduceToNat, Int.reduceGT, Nat.reduceBEq, Nat.reducePow, Nat.reduceGT, reduceCtorEq, ↓reduceIte, t0, t1, t7, t8, t9, t10, h3, hl0, hl3, lx2, neq_23, eqt_23, eq_true heq, hd0, wrap_in]
        refine ⟨m - 1, by omega, i + 1, by omega, ?_⟩
        rw [htk]
        simp [hd0]
    · have hne : ¬ (y.a = v.a ∧ y.b = v.b) := fun q => Rid.ne he q
      rw [decide_eq_true (show ¬ (y.a = v.a ∧ y.b = v.b) from hne)] at htk
      simp -dsimp (disch := first | with_reducible assumption | omega | (intro h_; cases h_; done) | (simp only [LN] <;> omega) | (simp only [LF]; done) | (repeat (first | with_reducible assumption | apply Ext.refl | apply Ext.app | (apply Ext.set <;> omega) | (refine Ext.trans ?_ (by assumption))))) only [AX, TY, gV, dstOf, p_makeFunc, p_mapUpdate, mapPut, entsOf, p_lookup, p_extract, p_nilCheck, oneV, p_load, p_store, p_binOp, p_unOp, p_indexAddr, p_index, p_box, p_build, evParts, builtinV, load1, ldc, splice, minds, disj, rcOf, isCall, touchV, idsOf, mapId, touchB, p_buildSlice, buildSliceV, reps, fillV, p_convert, p_slice, evO, p_makeSlice, sid_some, soff_some, Nat.reduceLT, Nat.reduceLeDiff, Nat.reduceEqDiff, Nat.reduceAdd, Nat.reduceMul, Int.reduceBEq, Int.reduceEq, Int.reduceNeg, Int.reduceLT, Int.reduceLE, Int.reduceAdd, Int.reduceSub, Int.reduceMul, Int.reduceToNat, Int.reduceGT, Nat.reduceBEq, Nat.reducePow, Nat.reduceGT, reduceCtorEq, ↓reduceIte, t0, t1, t7, t8, t9, t10, h3]
      refine W.drawn [(0, []), (1, []), (2, []), (3, [2]), (4, []), (5, []), (6, []), (7, [6, 5, 4, 3, 2]), (8, [6, 5, 4, 3, 2]), (9, []), (10, []), (11, []), (12, [11]), (13, []), (14, []), (15, []), (16, []), (17, []), (18, []), (19, [])] (by decide +kernel) ?_
      simp -dsimp (disch := first | with_reducible assumption | omega | (intro h_; cases h_; done) | (simp only [LN] <;> omega) | (simp only [LF]; done) | (repeat (first | with_reducible assumption | apply Ext.refl | apply Ext.app | (apply Ext.set <;> omega) | (refine Ext.trans ?_ (by assumption))))) only [AX, TY, gV, dstOf, p_makeFunc, p_mapUpdate, mapPut, entsOf, p_lookup, p_extract, p_nilCheck, oneV, p_load, p_store, p_binOp, p_unOp, p_indexAddr, p_index, p_box, p_build, evParts, builtinV, load1, ldc, splice, minds, disj, rcOf, isCall, touchV, idsOf, mapId, touchB, p_buildSlice, buildSliceV, reps, fillV, p_convert, p_slice, evO, p_makeSlice, sid_some, soff_some, Nat.reduceLT, Nat.reduceLeDiff, Nat.reduceEqDiff, Nat.reduceAdd, Nat.reduceMul, Int.reduceBEq, Int.reduceEq, Int.reduceNeg, Int.reduceLT, Int.reduceLE, Int.reduceAdd, Int.reduceSub, Int.reduceMul, Int.reduceToNat, Int.reduceGT, Nat.reduceBEq, Nat.reducePow, Nat.reduceGT, reduceCtorEq, ↓reduceIte, t0, t1, t7, t8, t9, t10, h3, hl0, hl3, lx2, neq_23, eqt_23, hne, wrap_in]
      refine ⟨m - 1, by omega, i + 1, by omega, ?_⟩
      rw [htk]
      simp
  have hall : (ys.take i).all (fun y => decide (¬ (y.a = v.a ∧ y.b = v.b)) || decide (y.dl = 0)) = ys.all (fun y => decide (¬ (y.a = v.a ∧ y.b = v.b)) || decide (y.dl = 0)) := by rw [List.take_of_length_le (by omega)]
  rw [hall] at t9
  have key : ys.all (fun y => decide (¬ (y.a = v.a ∧ y.b = v.b)) || decide (y.dl = 0)) = true → zs.length = 0 := fun q => by
    rcases zs with _ | ⟨z, t⟩
    · rfl
    · obtain ⟨h1, w, hw1, hw2, hw3⟩ := (hm z).1 (by simp)
      have hzv : z = v.rid := by simpa using h1
      have := List.all_eq_true.1 q w hw1
      rw [hzv] at hw2
      have hab : w.a = v.a ∧ w.b = v.b := ⟨congrArg Rid.a hw2, congrArg Rid.b hw2⟩
      rw [decide_eq_false (show ¬ ¬ (w.a = v.a ∧ w.b = v.b) from fun q => q hab), Bool.false_or, decide_eq_true_eq] at this
      omega
  generalize ys.all (fun y => decide (¬ (y.a = v.a ∧ y.b = v.b)) || decide (y.dl = 0)) = b at key t9
  have hcn := fun g (e : Ext h2 g) => conflicts_ok (c := c) (d := some 0) (hs3.ext e) (Sl.nil0 g 2 Rid.enc) (by omega) hB s
  cases b
  · simp -dsimp (disch := first | with_reducible assumption | omega | (intro h_; cases h_; done) | (simp only [LN] <;> omega) | (simp only [LF]; done) | (repeat (first | with_reducible assumption | apply Ext.refl | apply Ext.app | (apply Ext.set <;> omega) | (refine Ext.trans ?_ (by assumption))))) only [AX, TY, gV, dstOf, p_makeFunc, p_mapUpdate, mapPut, entsOf, p_lookup, p_extract, p_nilCheck, oneV, p_load, p_store, p_binOp, p_unOp, p_indexAddr, p_index, p_box, p_build, evParts, builtinV, load1, ldc, splice, minds, disj, rcOf, isCall, touchV, idsOf, mapId, touchB, p_buildSlice, buildSliceV, reps, fillV, p_convert, p_slice, evO, p_makeSlice, sid_some, soff_some, Nat.reduceLT, Nat.reduceLeDiff, Nat.reduceEqDiff, Nat.reduceAdd, Nat.reduceMul, Int.reduceBEq, Int.reduceEq, Int.reduceNeg, Int.reduceLT, Int.reduceLE, Int.reduceAdd, Int.reduceSub, Int.reduceMul, Int.reduceToNat, Int.reduceGT, Nat.reduceBEq, Nat.reducePow, Nat.reduceGT, reduceCtorEq, ↓reduceIte, t0, t1, t7, t8, t9, t10, h3, eq_true hz1']
    refine (hcn _ (.refl _)).mono ?_
    rintro _ h4 ⟨e4, p4, c4, z4, rfl, hz4, ha4, hm4⟩
    have : z4 = [] := List.eq_nil_iff_forall_not_mem.2 fun x hx => by have := ((hm4 x).1 hx).1; simp at this
    subst this
    simp -dsimp (disch := first | with_reducible assumption | omega | (intro h_; cases h_; done) | (simp only [LN] <;> omega) | (simp only [LF]; done) | (repeat (first | with_reducible assumption | apply Ext.refl | apply Ext.app | (apply Ext.set <;> omega) | (refine Ext.trans ?_ (by assumption))))) only [AX, TY, gV, dstOf, p_makeFunc, p_mapUpdate, mapPut, entsOf, p_lookup, p_extract, p_nilCheck, oneV, p_load, p_store, p_binOp, p_unOp, p_indexAddr, p_index, p_box, p_build, evParts, builtinV, load1, ldc, splice, minds, disj, rcOf, isCall, touchV, idsOf, mapId, touchB, p_buildSlice, buildSliceV, reps, fillV, p_convert, p_slice, evO, p_makeSlice, sid_some, soff_some, Nat.reduceLT, Nat.reduceLeDiff, Nat.reduceEqDiff, Nat.reduceAdd, Nat.reduceMul, Int.reduceBEq, Int.reduceEq, Int.reduceNeg, Int.reduceLT, Int.reduceLE, Int.reduceAdd, Int.reduceSub, Int.reduceMul, Int.reduceToNat, Int.reduceGT, Nat.reduceBEq, Nat.reducePow, Nat.reduceGT, reduceCtorEq, ↓reduceIte]
  · have h0 : (zs.length : Int) = 0 := by have := key rfl; omega
    simp -dsimp (disch := first | with_reducible assumption | omega | (intro h_; cases h_; done) | (simp only [LN] <;> omega) | (simp only [LF]; done) | (repeat (first | with_reducible assumption | apply Ext.refl | apply Ext.app | (apply Ext.set <;> omega) | (refine Ext.trans ?_ (by assumption))))) only [AX, TY, gV, dstOf, p_makeFunc, p_mapUpdate, mapPut, entsOf, p_lookup, p_extract, p_nilCheck, oneV, p_load, p_store, p_binOp, p_unOp, p_indexAddr, p_index, p_box, p_build, evParts, builtinV, load1, ldc, splice, minds, disj, rcOf, isCall, touchV, idsOf, mapId, touchB, p_buildSlice, buildSliceV, reps, fillV, p_convert, p_slice, evO, p_makeSlice, sid_some, soff_some, Nat.reduceLT, Nat.reduceLeDiff, Nat.reduceEqDiff, Nat.reduceAdd, Nat.reduceMul, Int.reduceBEq, Int.reduceEq, Int.reduceNeg, Int.reduceLT, Int.reduceLE, Int.reduceAdd, Int.reduceSub, Int.reduceMul, Int.reduceToNat, Int.reduceGT, Nat.reduceBEq, Nat.reducePow, Nat.reduceGT, reduceCtorEq, ↓reduceIte, t0, t1, t7, t8, t9, t10, h3, eq_true hz1', eq_true h0]
    refine (hcn _ (.refl _)).mono ?_
    rintro _ h4 ⟨e4, p4, c4, z4, rfl, hz4, ha4, hm4⟩
    have : z4 = [] := List.eq_nil_iff_forall_not_mem.2 fun x hx => by have := ((hm4 x).1 hx).1; simp at this
    subst this
    simp -dsimp (disch := first | with_reducible assumption | omega | (intro h_; cases h_; done) | (simp only [LN] <;> omega) | (simp only [LF]; done) | (repeat (first | with_reducible assumption | apply Ext.refl | apply Ext.app | (apply Ext.set <;> omega) | (refine Ext.trans ?_ (by assumption))))) only [AX, TY, gV, dstOf, p_makeFunc, p_mapUpdate, mapPut, entsOf, p_lookup, p_extract, p_nilCheck, oneV, p_load, p_store, p_binOp, p_unOp, p_indexAddr, p_index, p_box, p_build, evParts, builtinV, load1, ldc, splice, minds, disj, rcOf, isCall, touchV, idsOf, mapId, touchB, p_buildSlice, buildSliceV, reps, fillV, p_convert, p_slice, evO, p_makeSlice, sid_some, soff_some, Nat.reduceLT, Nat.reduceLeDiff, Nat.reduceEqDiff, Nat.reduceAdd, Nat.reduceMul, Int.reduceBEq, Int.reduceEq, Int.reduceNeg, Int.reduceLT, Int.reduceLE, Int.reduceAdd, Int.reduceSub, Int.reduceMul, Int.reduceToNat, Int.reduceGT, Nat.reduceBEq, Nat.reducePow, Nat.reduceGT, reduceCtorEq, ↓reduceIte]
@[reducible] def kVl : Kn := .cat (.int .i64) (.cat (.int .i64) .str)
@[reducible] def kVer : Kn := .cat (.cat (.int .i64) (.int .i64)) (.cat (.slice 3 32 kVl) (.cat (.int .i64) (.int .i64)))
@[reducible] def kRid : Kn := .cat (.int .i64) (.int .i64)
theorem vl_of {h : Heap} {r : List V} (q : Vw h kVl r) : ∃ y, r = Vl.enc y ∧ True := by
  obtain ⟨_, _, rfl, ⟨a, rfl, wa⟩, _, _, rfl, ⟨b, rfl, wb⟩, c, rfl, wc⟩ := q
  exact ⟨⟨a, b, c⟩, rfl, trivial⟩
theorem vers_of {h : Heap} {r : List V} (q : Vw h kVer r) : ∃ y, r = Ver.enc y ∧ VOK h y := by
  obtain ⟨_, _, rfl, ⟨_, _, rfl, ⟨a, rfl, wa⟩, b, rfl, wb⟩, _, _, rfl, hsl, _, _, rfl, ⟨x, rfl, wx⟩, y, rfl, wy⟩ := q
  obtain ⟨p, c, ys, rfl, hs, _⟩ := Vw.sl (by decide) Vl.enc (fun _ => True) (fun r => vl_of) hsl
  exact ⟨⟨a, b, p, some c, ys, x, y⟩, rfl, hs⟩
theorem rid_of {h : Heap} {r : List V} (q : Vw h kRid r) : ∃ y, r = Rid.enc y ∧ True := by
  obtain ⟨_, _, rfl, ⟨a, rfl, wa⟩, b, rfl, wb⟩ := q
  exact ⟨⟨a, b⟩, rfl, trivial⟩
theorem ArgV.vers {h : Heap} {v : V} (q : ArgV false (.slice 5 56 kVer) h v) : ∃ (p : Option (Nat × Nat)) (c : Nat) (ys : List Ver), v = .slice p ys.length (some c) ∧ Vers h p ys := by
  obtain ⟨p, c, ys, h1, h2, h3, _⟩ := q.sl (by decide) Ver.enc (VOK h) fun r => vers_of
  exact ⟨p, c, ys, h1, h2, h3⟩
theorem ArgV.rids {h : Heap} {v : V} (q : ArgV false (.slice 2 16 kRid) h v) : ∃ (p : Option (Nat × Nat)) (c : Nat) (ys : List Rid), v = .slice p ys.length (some c) ∧ Sl h p 2 Rid.enc ys := by
  obtain ⟨p, c, ys, h1, h2, h3, _⟩ := q.sl (by decide) Rid.enc (fun _ => True) fun r => rid_of
  exact ⟨p, c, ys, h1, h2⟩
theorem row7 {h : Heap} (a0 a1 a2 : V) (v0 : ArgV false (.slice 5 56 kVer) h a0) (v1 : ArgV false (.int .i64) h a1) (v2 : ArgV false (.int .u8) h a2) : WR (callE Try.prog hk 7 [a0, a1, a2] h) fun r h' => r = .bool true := by
  obtain ⟨p, c, ys, rfl, hs⟩ := v0.vers
  obtain ⟨a, rfl, _⟩ := v1.int
  obtain ⟨b, rfl, wb⟩ := v2.int
  have hb := wf_u8 wb
  obtain ⟨k, rfl⟩ := Int.eq_ofNat_of_zero_le hb.1
  exact law7_ok hs a k (by omega)
theorem row8 {h : Heap} (a0 a1 a2 : V) (v0 : ArgV false (.slice 5 56 kVer) h a0) (v1 : ArgV false (.int .i64) h a1) (v2 : ArgV false (.slice 2 16 kRid) h a2) : WR (callE Try.prog hk 8 [a0, a1, a2] h) fun r h' => r = .bool true := by
  obtain ⟨p, c, ys, rfl, hs⟩ := v0.vers
  obtain ⟨a, rfl, _⟩ := v1.int
  obtain ⟨q, d, xs, rfl, hx⟩ := v2.rids
  exact law8_ok hs hx a
end Go.Proofs.YtpmlphefdoaohaaA
