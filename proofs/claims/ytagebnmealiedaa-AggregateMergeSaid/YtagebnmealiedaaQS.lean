/- Words of this session: chapter 7: Merge. -/
import Derived.Test.YtagebnmealiedaaQR
namespace Go.Proofs.YtagebnmealiedaaA
open Go Go.Proofs Go.RowKit
set_option linter.unusedVariables false
set_option linter.unusedSimpArgs false
set_option maxRecDepth 10000
set_option maxHeartbeats 2000000
theorem step_put {out : List En} {x : En} (hc : countV 2 x = true) (hf : foundM out x = false) : stepM out x = putM out x := by
  unfold stepM
  rw [if_pos hc]
  unfold foundM at hf
  split
  · rename_i y hy
    rw [hy] at hf
    rw [if_neg (by simpa using hf)]
  · rfl
theorem step_set {out : List En} {x : En} (hc : countV 2 x = true) (hf : foundM out x = true) : ∃ (y : En) (hlt : posM out x < out.length), out[posM out x] = y ∧ stepM out x = out.set (posM out x) ⟨addSat y.n x.n, y.v⟩ := by
  unfold stepM
  rw [if_pos hc]
  unfold foundM at hf
  split
  · rename_i y hy
    rw [hy] at hf
    obtain ⟨hlt, e⟩ := List.getElem?_eq_some_iff.1 hy
    exact ⟨y, hlt, e, by rw [if_pos (by simpa using hf)]⟩
  · rename_i hy
    rw [hy] at hf; cases hf
theorem put_length (out : List En) (x : En) : (putM out x).length = out.length + 1 := by
  have : posM out x ≤ out.length := List.IsPrefix.length_le (List.takeWhile_prefix _)
  unfold putM; simp only [List.length_append, List.length_take, List.length_drop, List.length_cons, List.length_nil]; omega
theorem step_length (out : List En) (x : En) : (stepM out x).length ≤ out.length + 1 := by
  unfold stepM
  split
  · split
    · split
      · rw [List.length_set]; omega
      · rw [put_length]; exact Nat.le_refl _
    · rw [put_length]; exact Nat.le_refl _
  · omega
structure LMg (h : Heap) (p : Option (Nat × Nat)) (c : Option Nat) (ys : List En) (i : Nat) (τ : Tp) (hh : Heap) : Prop where
  e : Ext h hh
  t8 : τ 8 = .slice p ys.length c
  t9 : τ 9 = .int .i64 ys.length
  t10 : τ 10 = .int .i64 i
  out : ∃ (out : List En) (po : Option (Nat × Nat)) (co oid : Option Nat), τ 3 = .slice po out.length co ∧ Gr h.length hh po co oid 4 En.enc out ∧ out = (ys.take i).foldl stepM [] ∧ out.length ≤ i
theorem merge_ok {h : Heap} {p : Option (Nat × Nat)} {c : Option Nat} {ys : List En} (hs : Sl h p 4 En.enc ys) (hl : ys.length ≤ 1000) (hG : ∀ y ∈ ys, y.n ≤ 9223372036854775807) :
    WR (callE Try.prog hk 28 [.slice p ys.length c] h) fun r h' => Ext h h' ∧ ∃ po co oid, r = .slice po (mergeV ys).length co ∧ Gr h.length h' po co oid 4 En.enc (mergeV ys) := by
  have hn := hs.nil'
  refine WR.call (hH := rfl) Try.func28 rfl (n := 57) rfl rfl (by simp) ?_
  simp -dsimp (disch := first | with_reducible assumption | omega | (intro h_; cases h_; done) | (simp only [LN] <;> omega) | (simp only [LF]; done) | (repeat (first | with_reducible assumption | apply Ext.refl | apply Ext.app | (apply Ext.set <;> omega) | (refine Ext.trans ?_ (by assumption))))) only [AX, TY, gV, dstOf, p_makeFunc, p_mapUpdate, mapPut, entsOf, p_lookup, p_extract, p_nilCheck, oneV, p_load, p_store, p_binOp, p_unOp, p_indexAddr, p_index, p_box, p_build, evParts, builtinV, load1, ldc, splice, minds, disj, rcOf, isCall, touchV, idsOf, mapId, touchB, p_buildSlice, buildSliceV, reps, fillV, p_convert, p_slice, evO, p_makeSlice, sid_some, soff_some, Nat.reduceLT, Nat.reduceLeDiff, Nat.reduceEqDiff, Nat.reduceAdd, Nat.reduceMul, Int.reduceBEq, Int.reduceEq, Int.reduceNeg, Int.reduceLT, Int.reduceLE, Int.reduceAdd, Int.reduceSub, Int.reduceMul, Int.reduceToNat, Int.reduceGT, Nat.reduceBEq, Nat.reducePow, Nat.reduceGT, reduceCtorEq, ↓reduceIte]
  refine W.loop (fun m τ hh => ∃ i, m + i = ys.length ∧ LMg h p c ys i τ hh) ?_ (m := ys.length) ?_
  rotate_left
  · refine ⟨0, by simp, ?_⟩
    constructor <;> (try first | assumption | ((repeat (first | assumption | apply Ext.refl | apply Ext.app | (apply Ext.set <;> omega) | exact Ext.trans (by assumption) (by assumption) | (refine Ext.trans ?_ (by assumption)))); done) | (refine Sl.ext (by assumption) ?_; (repeat (first | assumption | apply Ext.refl | apply Ext.app | (apply Ext.set <;> omega) | exact Ext.trans (by assumption) (by assumption) | (refine Ext.trans ?_ (by assumption)))); done) | (simp -dsimp (disch := first | with_reducible assumption | omega | (intro h_; cases h_; done) | (simp only [LN] <;> omega) | (simp only [LF]; done) | (repeat (first | with_reducible assumption | apply Ext.refl | apply Ext.app | (apply Ext.set <;> omega) | (refine Ext.trans ?_ (by assumption))))) only [AX, TY, gV, dstOf, p_makeFunc, p_mapUpdate, mapPut, entsOf, p_lookup, p_extract, p_nilCheck, oneV, p_load, p_store, p_binOp, p_unOp, p_indexAddr, p_index, p_box, p_build, evParts, builtinV, load1, ldc, splice, minds, disj, rcOf, isCall, touchV, idsOf, mapId, touchB, p_buildSlice, buildSliceV, reps, fillV, p_convert, p_slice, evO, p_makeSlice, sid_some, soff_some, Nat.reduceLT, Nat.reduceLeDiff, Nat.reduceEqDiff, Nat.reduceAdd, Nat.reduceMul, Int.reduceBEq, Int.reduceEq, Int.reduceNeg, Int.reduceLT, Int.reduceLE, Int.reduceAdd, Int.reduceSub, Int.reduceMul, Int.reduceToNat, Int.reduceGT, Nat.reduceBEq, Nat.reducePow, Nat.reduceGT, reduceCtorEq, ↓reduceIte, Int.natCast_add, Int.natCast_one, Int.natCast_zero]; try (first | assumption | with_reducible rfl)))
    all_goals first | rfl | exact .refl _ | skip
    exact ⟨[], none, some 0, none, rfl, Gr.nil _ _ _ _, rfl, Nat.le_refl _⟩
  rintro m τ hh ⟨i, hm, e, t8, t9, t10, ⟨out, po, co, oid, t3, gr, hout, hol⟩⟩
  have hle0 := e.le
  by_cases h1 : (i : Int) < (ys.length : Int)
  rotate_left
  · simp -dsimp (disch := first | with_reducible assumption | omega | (intro h_; cases h_; done) | (simp only [LN] <;> omega) | (simp only [LF]; done) | (repeat (first | with_reducible assumption | apply Ext.refl | apply Ext.app | (apply Ext.set <;> omega) | (refine Ext.trans ?_ (by assumption))))) only [AX, TY, gV, dstOf, p_makeFunc, p_mapUpdate, mapPut, entsOf, p_lookup, p_extract, p_nilCheck, oneV, p_load, p_store, p_binOp, p_unOp, p_indexAddr, p_index, p_box, p_build, evParts, builtinV, load1, ldc, splice, minds, disj, rcOf, isCall, touchV, idsOf, mapId, touchB, p_buildSlice, buildSliceV, reps, fillV, p_convert, p_slice, evO, p_makeSlice, sid_some, soff_some, Nat.reduceLT, Nat.reduceLeDiff, Nat.reduceEqDiff, Nat.reduceAdd, Nat.reduceMul, Int.reduceBEq, Int.reduceEq, Int.reduceNeg, Int.reduceLT, Int.reduceLE, Int.reduceAdd, Int.reduceSub, Int.reduceMul, Int.reduceToNat, Int.reduceGT, Nat.reduceBEq, Nat.reducePow, Nat.reduceGT, reduceCtorEq, ↓reduceIte, t8, t9, t10, t3, h1]
    have : mergeV ys = out := by rw [hout, List.take_of_length_le (by omega)]; rfl
    rw [this]
    exact ⟨e, po, co, oid, rfl, gr⟩
  have hi : i < ys.length := by omega
  have hl0 := fun g e2 => hs.load0 (hh := g) e2 hi (m := 4) (by decide)
  have hxG := hG _ (List.getElem_mem hi)
  have gd : GdM out := by rw [hout]; exact gd_fold _ _ ⟨List.Pairwise.nil, fun y hy => by cases hy⟩ fun y hy => hG y (List.mem_of_mem_take hy)
  have hnext : (ys.take (i + 1)).foldl stepM [] = stepM out ys[i] := by rw [List.take_succ_eq_append_getElem hi, List.foldl_append, ← hout]; rfl
  generalize hxx : ys[i] = x at *
  have hct := counts_ok (h := hh ++ [O.cells x.enc .rw]) 2 x
  have hgx : (hh ++ [O.cells x.enc .rw])[hh.length]? = some (.cells x.enc .rw) := snoc_last _ rfl
  have e1 : Ext hh (hh ++ [O.cells x.enc .rw]) := (by (repeat (first | assumption | apply Ext.refl | apply Ext.app | (apply Ext.set <;> omega) | exact Ext.trans (by assumption) (by assumption) | (refine Ext.trans ?_ (by assumption)))))
  have hsl := step_length out x
  simp only [En.enc] at hl0 hct
  simp -dsimp (disch := first | with_reducible assumption | omega | (intro h_; cases h_; done) | (simp only [LN] <;> omega) | (simp only [LF]; done) | (repeat (first | with_reducible assumption | apply Ext.refl | apply Ext.app | (apply Ext.set <;> omega) | (refine Ext.trans ?_ (by assumption))))) only [AX, TY, gV, dstOf, p_makeFunc, p_mapUpdate, mapPut, entsOf, p_lookup, p_extract, p_nilCheck, oneV, p_load, p_store, p_binOp, p_unOp, p_indexAddr, p_index, p_box, p_build, evParts, builtinV, load1, ldc, splice, minds, disj, rcOf, isCall, touchV, idsOf, mapId, touchB, p_buildSlice, buildSliceV, reps, fillV, p_convert, p_slice, evO, p_makeSlice, sid_some, soff_some, Nat.reduceLT, Nat.reduceLeDiff, Nat.reduceEqDiff, Nat.reduceAdd, Nat.reduceMul, Int.reduceBEq, Int.reduceEq, Int.reduceNeg, Int.reduceLT, Int.reduceLE, Int.reduceAdd, Int.reduceSub, Int.reduceMul, Int.reduceToNat, Int.reduceGT, Nat.reduceBEq, Nat.reducePow, Nat.reduceGT, reduceCtorEq, ↓reduceIte, t8, t9, t10, t3, h1, hl0]
  refine hct.mono ?_
  rintro _ h3 ⟨e3, rfl⟩
  have e03 := e1.trans e3
  have gx3 := e3 _ _ hgx
  have hlx3 := loadN_fact gx3
  have hltx3 := lt_of_some gx3
  simp only [En.enc] at hlx3
  cases hc : countV 2 x
  · have hst : stepM out x = out := by unfold stepM; rw [hc]; rfl
    simp -dsimp (disch := first | with_reducible assumption | omega | (intro h_; cases h_; done) | (simp only [LN] <;> omega) | (simp only [LF]; done) | (repeat (first | with_reducible assumption | apply Ext.refl | apply Ext.app | (apply Ext.set <;> omega) | (refine Ext.trans ?_ (by assumption))))) only [AX, TY, gV, dstOf, p_makeFunc, p_mapUpdate, mapPut, entsOf, p_lookup, p_extract, p_nilCheck, oneV, p_load, p_store, p_binOp, p_unOp, p_indexAddr, p_index, p_box, p_build, evParts, builtinV, load1, ldc, splice, minds, disj, rcOf, isCall, touchV, idsOf, mapId, touchB, p_buildSlice, buildSliceV, reps, fillV, p_convert, p_slice, evO, p_makeSlice, sid_some, soff_some, Nat.reduceLT, Nat.reduceLeDiff, Nat.reduceEqDiff, Nat.reduceAdd, Nat.reduceMul, Int.reduceBEq, Int.reduceEq, Int.reduceNeg, Int.reduceLT, Int.reduceLE, Int.reduceAdd, Int.reduceSub, Int.reduceMul, Int.reduceToNat, Int.reduceGT, Nat.reduceBEq, Nat.reducePow, Nat.reduceGT, reduceCtorEq, ↓reduceIte, t8, t9, t10, t3, wrap_in]
    refine ⟨m - 1, by omega, i + 1, by omega, ?_⟩
    constructor <;> (try first | assumption | ((repeat (first | assumption | apply Ext.refl | apply Ext.app | (apply Ext.set <;> omega) | exact Ext.trans (by assumption) (by assumption) | (refine Ext.trans ?_ (by assumption)))); done) | (refine Sl.ext (by assumption) ?_; (repeat (first | assumption | apply Ext.refl | apply Ext.app | (apply Ext.set <;> omega) | exact Ext.trans (by assumption) (by assumption) | (refine Ext.trans ?_ (by assumption)))); done) | (simp -dsimp (disch := first | with_reducible assumption | omega | (intro h_; cases h_; done) | (simp only [LN] <;> omega) | (simp only [LF]; done) | (repeat (first | with_reducible assumption | apply Ext.refl | apply Ext.app | (apply Ext.set <;> omega) | (refine Ext.trans ?_ (by assumption))))) only [AX, TY, gV, dstOf, p_makeFunc, p_mapUpdate, mapPut, entsOf, p_lookup, p_extract, p_nilCheck, oneV, p_load, p_store, p_binOp, p_unOp, p_indexAddr, p_index, p_box, p_build, evParts, builtinV, load1, ldc, splice, minds, disj, rcOf, isCall, touchV, idsOf, mapId, touchB, p_buildSlice, buildSliceV, reps, fillV, p_convert, p_slice, evO, p_makeSlice, sid_some, soff_some, Nat.reduceLT, Nat.reduceLeDiff, Nat.reduceEqDiff, Nat.reduceAdd, Nat.reduceMul, Int.reduceBEq, Int.reduceEq, Int.reduceNeg, Int.reduceLT, Int.reduceLE, Int.reduceAdd, Int.reduceSub, Int.reduceMul, Int.reduceToNat, Int.reduceGT, Nat.reduceBEq, Nat.reducePow, Nat.reduceGT, reduceCtorEq, ↓reduceIte, t8, t9, t10, t3, wrap_in, Int.natCast_add, Int.natCast_one, Int.natCast_zero]; try (first | assumption | with_reducible rfl)))
    exact ⟨out, po, co, oid, rfl, gr.ext e03, by rw [hnext, hst], by omega⟩
  have gr3 := gr.ext e03
  have hbs := bsf_ok (c := co) (x := x) gr3.sl gd.srt
  simp only [En.enc] at hbs
  simp -dsimp (disch := first | with_reducible assumption | omega | (intro h_; cases h_; done) | (simp only [LN] <;> omega) | (simp only [LF]; done) | (repeat (first | with_reducible assumption | apply Ext.refl | apply Ext.app | (apply Ext.set <;> omega) | (refine Ext.trans ?_ (by assumption))))) only [AX, TY, gV, dstOf, p_makeFunc, p_mapUpdate, mapPut, entsOf, p_lookup, p_extract, p_nilCheck, oneV, p_load, p_store, p_binOp, p_unOp, p_indexAddr, p_index, p_box, p_build, evParts, builtinV, load1, ldc, splice, minds, disj, rcOf, isCall, touchV, idsOf, mapId, touchB, p_buildSlice, buildSliceV, reps, fillV, p_convert, p_slice, evO, p_makeSlice, sid_some, soff_some, Nat.reduceLT, Nat.reduceLeDiff, Nat.reduceEqDiff, Nat.reduceAdd, Nat.reduceMul, Int.reduceBEq, Int.reduceEq, Int.reduceNeg, Int.reduceLT, Int.reduceLE, Int.reduceAdd, Int.reduceSub, Int.reduceMul, Int.reduceToNat, Int.reduceGT, Nat.reduceBEq, Nat.reducePow, Nat.reduceGT, reduceCtorEq, ↓reduceIte, t8, t9, t10, t3, hlx3]
  refine hbs.mono ?_
  rintro _ h4 ⟨e4, rfl⟩
  have e04 := e03.trans e4
  have le4 := e04.le
  have gr4 := gr3.ext e4
  have gx4 := e4 _ _ gx3
  have hlx4 := loadN_fact gx4
  have hltx4 := lt_of_some gx4
  have hpl : posM out x ≤ out.length := List.IsPrefix.length_le (List.takeWhile_prefix _)
  cases hf : foundM out x
  · have hst := step_put hc hf
    obtain ⟨p', oid', h6, hins, gr6, ho6, hle6, hkp, hbp⟩ := (gr4.ext (hh := h4 ++ [O.cells x.enc .rw]) (by (repeat (first | assumption | apply Ext.refl | apply Ext.app | (apply Ext.set <;> omega) | exact Ext.trans (by assumption) (by assumption) | (refine Ext.trans ?_ (by assumption)))))).insert insW insN (zs := [x]) (q := h4.length) (vc := some 1) (i := posM out x) (by simp; omega) (by rw [snoc_last _ rfl]; simp) (fun q => Nat.lt_irrefl _ (gr4.lt q)) (en_w _) (en_l _) (by simp) hpl (by simp; omega) (by simp; omega)
    rw [← hk39] at hins
    have hl6 : ([x] : List En).length = 1 := rfl
    rw [hl6] at hins
    have hpu : out.take (posM out x) ++ [x] ++ out.drop (posM out x) = putM out x := rfl
    rw [hpu] at gr6
    have e6 : Ext h h6 := (e.trans (e04.trans (show Ext h4 (h4 ++ [O.cells x.enc .rw]) from (by (repeat (first | assumption | apply Ext.refl | apply Ext.app | (apply Ext.set <;> omega) | exact Ext.trans (by assumption) (by assumption) | (refine Ext.trans ?_ (by assumption)))))))).below (Nat.le_refl _) hbp
    have hpl2 := put_length out x
    simp only [En.enc] at hlx4 hins
    simp -dsimp (disch := first | with_reducible assumption | omega | (intro h_; cases h_; done) | (simp only [LN] <;> omega) | (simp only [LF]; done) | (repeat (first | with_reducible assumption | apply Ext.refl | apply Ext.app | (apply Ext.set <;> omega) | (refine Ext.trans ?_ (by assumption))))) only [AX, TY, gV, dstOf, p_makeFunc, p_mapUpdate, mapPut, entsOf, p_lookup, p_extract, p_nilCheck, oneV, p_load, p_store, p_binOp, p_unOp, p_indexAddr, p_index, p_box, p_build, evParts, builtinV, load1, ldc, splice, minds, disj, rcOf, isCall, touchV, idsOf, mapId, touchB, p_buildSlice, buildSliceV, reps, fillV, p_convert, p_slice, evO, p_makeSlice, sid_some, soff_some, Nat.reduceLT, Nat.reduceLeDiff, Nat.reduceEqDiff, Nat.reduceAdd, Nat.reduceMul, Int.reduceBEq, Int.reduceEq, Int.reduceNeg, Int.reduceLT, Int.reduceLE, Int.reduceAdd, Int.reduceSub, Int.reduceMul, Int.reduceToNat, Int.reduceGT, Nat.reduceBEq, Nat.reducePow, Nat.reduceGT, reduceCtorEq, ↓reduceIte, t8, t9, t10, t3, hlx4, hins, wrap_in]
    refine ⟨m - 1, by omega, i + 1, by omega, ?_⟩
    constructor <;> (try first | assumption | ((repeat (first | assumption | apply Ext.refl | apply Ext.app | (apply Ext.set <;> omega) | exact Ext.trans (by assumption) (by assumption) | (refine Ext.trans ?_ (by assumption)))); done) | (refine Sl.ext (by assumption) ?_; (repeat (first | assumption | apply Ext.refl | apply Ext.app | (apply Ext.set <;> omega) | exact Ext.trans (by assumption) (by assumption) | (refine Ext.trans ?_ (by assumption)))); done) | (simp -dsimp (disch := first | with_reducible assumption | omega | (intro h_; cases h_; done) | (simp only [LN] <;> omega) | (simp only [LF]; done) | (repeat (first | with_reducible assumption | apply Ext.refl | apply Ext.app | (apply Ext.set <;> omega) | (refine Ext.trans ?_ (by assumption))))) only [AX, TY, gV, dstOf, p_makeFunc, p_mapUpdate, mapPut, entsOf, p_lookup, p_extract, p_nilCheck, oneV, p_load, p_store, p_binOp, p_unOp, p_indexAddr, p_index, p_box, p_build, evParts, builtinV, load1, ldc, splice, minds, disj, rcOf, isCall, touchV, idsOf, mapId, touchB, p_buildSlice, buildSliceV, reps, fillV, p_convert, p_slice, evO, p_makeSlice, sid_some, soff_some, Nat.reduceLT, Nat.reduceLeDiff, Nat.reduceEqDiff, Nat.reduceAdd, Nat.reduceMul, Int.reduceBEq, Int.reduceEq, Int.reduceNeg, Int.reduceLT, Int.reduceLE, Int.reduceAdd, Int.reduceSub, Int.reduceMul, Int.reduceToNat, Int.reduceGT, Nat.reduceBEq, Nat.reducePow, Nat.reduceGT, reduceCtorEq, ↓reduceIte, t8, t9, t10, t3, hlx4, hins, wrap_in, Int.natCast_add, Int.natCast_one, Int.natCast_zero]; try (first | assumption | with_reducible rfl)))
    exact ⟨putM out x, p', none, oid', by rw [hpl2], gr6, by rw [hnext, hst], by omega⟩
  · obtain ⟨y, hlt, hyy, hst⟩ := step_set hc hf
    have hn2 := gr4.sl.nil'
    have hyp := gd.pos y (by rw [← hyy]; exact List.getElem_mem hlt)
    have hxn := count2_n hc
    have hly := fun g e2 => gr4.sl.load0 (hh := g) e2 hlt (m := 1) (by decide)
    have hlt2 : ((posM out x : Nat) : Int) < (out.length : Int) := by omega
    have hwsub : IntKind.i64.wrap (9223372036854775807 - x.n) = 9223372036854775807 - x.n := by rw [IntKind.wrap_i64]; omega
    obtain ⟨h5, hsto, gr5, hle5, hk5, hb5⟩ := gr4.store hlt (o := 0) (vs := [V.int .i64 (addSat y.n x.n)]) (by simp) rfl (⟨addSat y.n x.n, y.v⟩ : En) (by rw [hyy]; rfl)
    have e5 : Ext h h5 := (e.trans e04).below (Nat.le_refl _) hb5
    rw [← hst] at gr5
    have hstl : (stepM out x).length = out.length := by rw [hst, List.length_set]
    generalize hP : posM out x = P at *
    rw [hyy] at hly
    simp only [En.enc] at hlx4 hly
    have hsto2 : storeN h4 (sid po) (soff po + P * 4) [V.int .i64 (addSat y.n x.n)] = some h5 := by simpa [fld] using hsto
    simp -dsimp (disch := first | with_reducible assumption | omega | (intro h_; cases h_; done) | (simp only [LN] <;> omega) | (simp only [LF]; done) | (repeat (first | with_reducible assumption | apply Ext.refl | apply Ext.app | (apply Ext.set <;> omega) | (refine Ext.trans ?_ (by assumption))))) only [AX, TY, gV, dstOf, p_makeFunc, p_mapUpdate, mapPut, entsOf, p_lookup, p_extract, p_nilCheck, oneV, p_load, p_store, p_binOp, p_unOp, p_indexAddr, p_index, p_box, p_build, evParts, builtinV, load1, ldc, splice, minds, disj, rcOf, isCall, touchV, idsOf, mapId, touchB, p_buildSlice, buildSliceV, reps, fillV, p_convert, p_slice, evO, p_makeSlice, sid_some, soff_some, Nat.reduceLT, Nat.reduceLeDiff, Nat.reduceEqDiff, Nat.reduceAdd, Nat.reduceMul, Int.reduceBEq, Int.reduceEq, Int.reduceNeg, Int.reduceLT, Int.reduceLE, Int.reduceAdd, Int.reduceSub, Int.reduceMul, Int.reduceToNat, Int.reduceGT, Nat.reduceBEq, Nat.reducePow, Nat.reduceGT, reduceCtorEq, ↓reduceIte, t8, t9, t10, t3]
    refine W.drawn [(0, []), (1, [0]), (2, []), (3, []), (4, []), (5, [4, 3, 2, 1, 0]), (6, [4, 3, 2, 1, 0]), (7, [4, 3, 2, 1, 0]), (8, []), (9, [])] (by decide +kernel) ?_
    by_cases hsat : 9223372036854775807 - x.n < y.n
    · have ha : addSat y.n x.n = 9223372036854775807 := by unfold addSat; rw [if_pos hsat]
      rw [ha] at hsto2
      simp -dsimp (disch := first | with_reducible assumption | omega | (intro h_; cases h_; done) | (simp only [LN] <;> omega) | (simp only [LF]; done) | (repeat (first | with_reducible assumption | apply Ext.refl | apply Ext.app | (apply Ext.set <;> omega) | (refine Ext.trans ?_ (by assumption))))) only [AX, TY, gV, dstOf, p_makeFunc, p_mapUpdate, mapPut, entsOf, p_lookup, p_extract, p_nilCheck, oneV, p_load, p_store, p_binOp, p_unOp, p_indexAddr, p_index, p_box, p_build, evParts, builtinV, load1, ldc, splice, minds, disj, rcOf, isCall, touchV, idsOf, mapId, touchB, p_buildSlice, buildSliceV, reps, fillV, p_convert, p_slice, evO, p_makeSlice, sid_some, soff_some, Nat.reduceLT, Nat.reduceLeDiff, Nat.reduceEqDiff, Nat.reduceAdd, Nat.reduceMul, Int.reduceBEq, Int.reduceEq, Int.reduceNeg, Int.reduceLT, Int.reduceLE, Int.reduceAdd, Int.reduceSub, Int.reduceMul, Int.reduceToNat, Int.reduceGT, Nat.reduceBEq, Nat.reducePow, Nat.reduceGT, reduceCtorEq, ↓reduceIte, t8, t9, t10, t3, hly, hlx4, hlt2, hwsub, eq_true hsat, hsto2, wrap_in]
      refine ⟨m - 1, by omega, i + 1, by omega, ?_⟩
      constructor <;> (try first | assumption | ((repeat (first | assumption | apply Ext.refl | apply Ext.app | (apply Ext.set <;> omega) | exact Ext.trans (by assumption) (by assumption) | (refine Ext.trans ?_ (by assumption)))); done) | (refine Sl.ext (by assumption) ?_; (repeat (first | assumption | apply Ext.refl | apply Ext.app | (apply Ext.set <;> omega) | exact Ext.trans (by assumption) (by assumption) | (refine Ext.trans ?_ (by assumption)))); done) | (simp -dsimp (disch := first | with_reducible assumption | omega | (intro h_; cases h_; done) | (simp only [LN] <;> omega) | (simp only [LF]; done) | (repeat (first | with_reducible assumption | apply Ext.refl | apply Ext.app | (apply Ext.set <;> omega) | (refine Ext.trans ?_ (by assumption))))) only [AX, TY, gV, dstOf, p_makeFunc, p_mapUpdate, mapPut, entsOf, p_lookup, p_extract, p_nilCheck, oneV, p_load, p_store, p_binOp, p_unOp, p_indexAddr, p_index, p_box, p_build, evParts, builtinV, load1, ldc, splice, minds, disj, rcOf, isCall, touchV, idsOf, mapId, touchB, p_buildSlice, buildSliceV, reps, fillV, p_convert, p_slice, evO, p_makeSlice, sid_some, soff_some, Nat.reduceLT, Nat.reduceLeDiff, Nat.reduceEqDiff, Nat.reduceAdd, Nat.reduceMul, Int.reduceBEq, Int.reduceEq, Int.reduceNeg, Int.reduceLT, Int.reduceLE, Int.reduceAdd, Int.reduceSub, Int.reduceMul, Int.reduceToNat, Int.reduceGT, Nat.reduceBEq, Nat.reducePow, Nat.reduceGT, reduceCtorEq, ↓reduceIte, t8, t9, t10, t3, hly, hlx4, hlt2, hwsub, hsto2, wrap_in, Int.natCast_add, Int.natCast_one, Int.natCast_zero]; try (first | assumption | with_reducible rfl)))
      exact ⟨stepM out x, po, co, oid, by rw [hstl], gr5, hnext.symm, by omega⟩
    · have ha : addSat y.n x.n = y.n + x.n := by unfold addSat; rw [if_neg hsat]
      have hwadd : IntKind.i64.wrap (y.n + x.n) = y.n + x.n := by rw [IntKind.wrap_i64]; omega
      rw [ha] at hsto2
      simp -dsimp (disch := first | with_reducible assumption | omega | (intro h_; cases h_; done) | (simp only [LN] <;> omega) | (simp only [LF]; done) | (repeat (first | with_reducible assumption | apply Ext.refl | apply Ext.app | (apply Ext.set <;> omega) | (refine Ext.trans ?_ (by assumption))))) only [AX, TY, gV, dstOf, p_makeFunc, p_mapUpdate, mapPut, entsOf, p_lookup, p_extract, p_nilCheck, oneV, p_load, p_store, p_binOp, p_unOp, p_indexAddr, p_index, p_box, p_build, evParts, builtinV, load1, ldc, splice, minds, disj, rcOf, isCall, touchV, idsOf, mapId, touchB, p_buildSlice, buildSliceV, reps, fillV, p_convert, p_slice, evO, p_makeSlice, sid_some, soff_some, Nat.reduceLT, Nat.reduceLeDiff, Nat.reduceEqDiff, Nat.reduceAdd, Nat.reduceMul, Int.reduceBEq, Int.reduceEq, Int.reduceNeg, Int.reduceLT, Int.reduceLE, Int.reduceAdd, Int.reduceSub, Int.reduceMul, Int.reduceToNat, Int.reduceGT, Nat.reduceBEq, Nat.reducePow, Nat.reduceGT, reduceCtorEq, ↓reduceIte, t8, t9, t10, t3, hly, hlx4, hlt2, hwsub, hsat, wrap_in]
      refine W.drawn [(0, []), (1, [0]), (2, []), (3, []), (4, []), (5, [4, 3, 2, 1, 0]), (6, [4, 3, 2, 1, 0]), (7, []), (8, []), (9, []), (10, [])] (by decide +kernel) ?_
      simp -dsimp (disch := first | with_reducible assumption | omega | (intro h_; cases h_; done) | (simp only [LN] <;> omega) | (simp only [LF]; done) | (repeat (first | with_reducible assumption | apply Ext.refl | apply Ext.app | (apply Ext.set <;> omega) | (refine Ext.trans ?_ (by assumption))))) only [AX, TY, gV, dstOf, p_makeFunc, p_mapUpdate, mapPut, entsOf, p_lookup, p_extract, p_nilCheck, oneV, p_load, p_store, p_binOp, p_unOp, p_indexAddr, p_index, p_box, p_build, evParts, builtinV, load1, ldc, splice, minds, disj, rcOf, isCall, touchV, idsOf, mapId, touchB, p_buildSlice, buildSliceV, reps, fillV, p_convert, p_slice, evO, p_makeSlice, sid_some, soff_some, Nat.reduceLT, Nat.reduceLeDiff, Nat.reduceEqDiff, Nat.reduceAdd, Nat.reduceMul, Int.reduceBEq, Int.reduceEq, Int.reduceNeg, Int.reduceLT, Int.reduceLE, Int.reduceAdd, Int.reduceSub, Int.reduceMul, Int.reduceToNat, Int.reduceGT, Nat.reduceBEq, Nat.reducePow, Nat.reduceGT, reduceCtorEq, ↓reduceIte, t8, t9, t10, t3, hly, hlx4, hlt2, hwadd, hsto2, wrap_in]
      refine ⟨m - 1, by omega, i + 1, by omega, ?_⟩
      constructor <;> (try first | assumption | ((repeat (first | assumption | apply Ext.refl | apply Ext.app | (apply Ext.set <;> omega) | exact Ext.trans (by assumption) (by assumption) | (refine Ext.trans ?_ (by assumption)))); done) | (refine Sl.ext (by assumption) ?_; (repeat (first | assumption | apply Ext.refl | apply Ext.app | (apply Ext.set <;> omega) | exact Ext.trans (by assumption) (by assumption) | (refine Ext.trans ?_ (by assumption)))); done) | (simp -dsimp (disch := first | with_reducible assumption | omega | (intro h_; cases h_; done) | (simp only [LN] <;> omega) | (simp only [LF]; done) | (repeat (first | with_reducible assumption | apply Ext.refl | apply Ext.app | (apply Ext.set <;> omega) | (refine Ext.trans ?_ (by assumption))))) only [AX, TY, gV, dstOf, p_makeFunc, p_mapUpdate, mapPut, entsOf, p_lookup, p_extract, p_nilCheck, oneV, p_load, p_store, p_binOp, p_unOp, p_indexAddr, p_index, p_box, p_build, evParts, builtinV, load1, ldc, splice, minds, disj, rcOf, isCall, touchV, idsOf, mapId, touchB, p_buildSlice, buildSliceV, reps, fillV, p_convert, p_slice, evO, p_makeSlice, sid_some, soff_some, Nat.reduceLT, Nat.reduceLeDiff, Nat.reduceEqDiff, Nat.reduceAdd, Nat.reduceMul, Int.reduceBEq, Int.reduceEq, Int.reduceNeg, Int.reduceLT, Int.reduceLE, Int.reduceAdd, Int.reduceSub, Int.reduceMul, Int.reduceToNat, Int.reduceGT, Nat.reduceBEq, Nat.reducePow, Nat.reduceGT, reduceCtorEq, ↓reduceIte, t8, t9, t10, t3, hly, hlx4, hlt2, hwsub, hsto2, wrap_in, Int.natCast_add, Int.natCast_one, Int.natCast_zero]; try (first | assumption | with_reducible rfl)))
      exact ⟨stepM out x, po, co, oid, by rw [hstl], gr5, hnext.symm, by omega⟩
end Go.Proofs.YtagebnmealiedaaA
