/- Words of this session: chapter 7: the reference's Merge; comparing lists. -/
import Derived.Test.YtagebnmealiedaaQS
import Derived.Test.YtagebnmealiedaaAx38
namespace Go.Proofs.YtagebnmealiedaaA
open Go Go.Proofs Go.RowKit
set_option linter.unusedVariables false
set_option linter.unusedSimpArgs false
set_option maxRecDepth 10000
set_option maxHeartbeats 4000000
theorem Gr.isSome {α : Type} {b : Nat} {h : Heap} {p : Option (Nat × Nat)} {c oid : Option Nat} {sz : Nat} {enc : α → List V} {ys : List α} (g : Gr b h p c oid sz enc ys) {a : Nat} (e : oid = some a) : ∃ o, p = some (a, o) := by
  rcases g.kind with ⟨_, _, q⟩ | ⟨id, off, C, k, q, q2, _⟩
  · rw [q] at e; cases e
  · rw [q2] at e; cases e; exact ⟨off, q⟩
theorem Gr.weak {α : Type} {b b' : Nat} {h : Heap} {p : Option (Nat × Nat)} {c oid : Option Nat} {sz : Nat} {enc : α → List V} {ys : List α} (g : Gr b h p c oid sz enc ys) (hb : b' ≤ b) : Gr b' h p c oid sz enc ys := ⟨g.sl, g.kind, fun i e => Nat.le_trans hb (g.base i e), g.leaf⟩
structure LRm (h : Heap) (p : Option (Nat × Nat)) (c : Option Nat) (ys : List En) (i : Nat) (τ : Tp) (hh : Heap) : Prop where
  e : Ext h hh
  t0 : τ 0 = .slice p ys.length c
  t4 : τ 4 = .int .i64 i
  out : ∃ (out : List En) (a o : Nat) (co : Option Nat), τ 3 = .slice (some (a, o)) out.length co ∧ Gr h.length hh (some (a, o)) co (some a) 4 En.enc out ∧ out = (ys.take i).foldl stepM [] ∧ out.length ≤ i
structure LRi (h : Heap) (p : Option (Nat × Nat)) (c : Option Nat) (ys : List En) (i : Nat) (x : En) (bx : Nat) (out : List En) (a o : Nat) (co : Option Nat) (at_ : Nat) (τ : Tp) (hh : Heap) : Prop where
  e : Ext h hh
  gx : hh[bx]? = some (.cells x.enc .rw)
  t0 : τ 0 = .slice p ys.length c
  t3 : τ 3 = .slice (some (a, o)) out.length co
  t4 : τ 4 = .int .i64 i
  t5 : τ 5 = .ptr (some (bx, 0))
  t6 : τ 6 = .int .i64 at_
  gr : Gr h.length hh (some (a, o)) co (some a) 4 En.enc out
  le : at_ ≤ out.length
  low : ∀ k, k < at_ → ∀ y, out[k]? = some y → cmpV y.v x.v < 0
theorem refMerge_ok {h : Heap} {p : Option (Nat × Nat)} {c : Option Nat} {ys : List En} (hs : Sl h p 4 En.enc ys) (hl : ys.length ≤ 1000) (hG : ∀ y ∈ ys, y.n ≤ 9223372036854775807) :
    WR (callE Try.prog hk 30 [.slice p ys.length c] h) fun r h' => Ext h h' ∧ ∃ po co oid, r = .slice po (mergeV ys).length co ∧ Gr h.length h' po co oid 4 En.enc (mergeV ys) := by
  have hn := hs.nil'
  refine WR.call (hH := rfl) Try.func30 rfl (n := 97) rfl rfl (by simp) ?_
  simp -dsimp (disch := first | with_reducible assumption | omega | (intro h_; cases h_; done) | (simp only [LN] <;> omega) | (simp only [LF]; done) | (repeat (first | with_reducible assumption | apply Ext.refl | apply Ext.app | (apply Ext.set <;> omega) | (refine Ext.trans ?_ (by assumption))))) only [AX, TY, gV, dstOf, p_makeFunc, p_mapUpdate, mapPut, entsOf, p_lookup, p_extract, p_nilCheck, oneV, p_load, p_store, p_binOp, p_unOp, p_indexAddr, p_index, p_box, p_build, evParts, builtinV, load1, ldc, splice, minds, disj, rcOf, isCall, touchV, idsOf, mapId, touchB, p_buildSlice, buildSliceV, reps, fillV, p_convert, p_slice, evO, p_makeSlice, sid_some, soff_some, Nat.reduceLT, Nat.reduceLeDiff, Nat.reduceEqDiff, Nat.reduceAdd, Nat.reduceMul, Int.reduceBEq, Int.reduceEq, Int.reduceNeg, Int.reduceLT, Int.reduceLE, Int.reduceAdd, Int.reduceSub, Int.reduceMul, Int.reduceToNat, Int.reduceGT, Nat.reduceBEq, Nat.reducePow, Nat.reduceGT, reduceCtorEq, ↓reduceIte]
  refine W.loop (fun m τ hh => ∃ i, m + i = ys.length ∧ LRm h p c ys i τ hh) ?_ (m := ys.length) ?_
  rotate_left
  · refine ⟨0, by simp, ?_⟩
    constructor <;> (try first | assumption | ((repeat (first | assumption | apply Ext.refl | apply Ext.app | (apply Ext.set <;> omega) | exact Ext.trans (by assumption) (by assumption) | (refine Ext.trans ?_ (by assumption)))); done) | (refine Sl.ext (by assumption) ?_; (repeat (first | assumption | apply Ext.refl | apply Ext.app | (apply Ext.set <;> omega) | exact Ext.trans (by assumption) (by assumption) | (refine Ext.trans ?_ (by assumption)))); done) | (simp -dsimp (disch := first | with_reducible assumption | omega | (intro h_; cases h_; done) | (simp only [LN] <;> omega) | (simp only [LF]; done) | (repeat (first | with_reducible assumption | apply Ext.refl | apply Ext.app | (apply Ext.set <;> omega) | (refine Ext.trans ?_ (by assumption))))) only [AX, TY, gV, dstOf, p_makeFunc, p_mapUpdate, mapPut, entsOf, p_lookup, p_extract, p_nilCheck, oneV, p_load, p_store, p_binOp, p_unOp, p_indexAddr, p_index, p_box, p_build, evParts, builtinV, load1, ldc, splice, minds, disj, rcOf, isCall, touchV, idsOf, mapId, touchB, p_buildSlice, buildSliceV, reps, fillV, p_convert, p_slice, evO, p_makeSlice, sid_some, soff_some, Nat.reduceLT, Nat.reduceLeDiff, Nat.reduceEqDiff, Nat.reduceAdd, Nat.reduceMul, Int.reduceBEq, Int.reduceEq, Int.reduceNeg, Int.reduceLT, Int.reduceLE, Int.reduceAdd, Int.reduceSub, Int.reduceMul, Int.reduceToNat, Int.reduceGT, Nat.reduceBEq, Nat.reducePow, Nat.reduceGT, reduceCtorEq, ↓reduceIte, Int.natCast_add, Int.natCast_one, Int.natCast_zero]; try (first | assumption | with_reducible rfl)))
    all_goals first | rfl | skip
    exact ⟨[], h.length, 0, some 0, rfl, Gr.built (C := []) (snoc_last _ rfl) rfl (Nat.le_refl _) (by simp) (by simp) (by simp) (n := 0) rfl, rfl, Nat.le_refl _⟩
  rintro m τ hh ⟨i, hm, e, t0, t4, ⟨out, a, o, co, t3, gr, hout, hol⟩⟩
  have hle0 := e.le
  by_cases h1 : (i : Int) < (ys.length : Int)
  rotate_left
  · simp -dsimp (disch := first | with_reducible assumption | omega | (intro h_; cases h_; done) | (simp only [LN] <;> omega) | (simp only [LF]; done) | (repeat (first | with_reducible assumption | apply Ext.refl | apply Ext.app | (apply Ext.set <;> omega) | (refine Ext.trans ?_ (by assumption))))) only [AX, TY, gV, dstOf, p_makeFunc, p_mapUpdate, mapPut, entsOf, p_lookup, p_extract, p_nilCheck, oneV, p_load, p_store, p_binOp, p_unOp, p_indexAddr, p_index, p_box, p_build, evParts, builtinV, load1, ldc, splice, minds, disj, rcOf, isCall, touchV, idsOf, mapId, touchB, p_buildSlice, buildSliceV, reps, fillV, p_convert, p_slice, evO, p_makeSlice, sid_some, soff_some, Nat.reduceLT, Nat.reduceLeDiff, Nat.reduceEqDiff, Nat.reduceAdd, Nat.reduceMul, Int.reduceBEq, Int.reduceEq, Int.reduceNeg, Int.reduceLT, Int.reduceLE, Int.reduceAdd, Int.reduceSub, Int.reduceMul, Int.reduceToNat, Int.reduceGT, Nat.reduceBEq, Nat.reducePow, Nat.reduceGT, reduceCtorEq, ↓reduceIte, t0, t3, t4, h1]
    have : mergeV ys = out := by rw [hout, List.take_of_length_le (by omega)]; rfl
    rw [this]
    exact ⟨e, _, co, some a, rfl, gr⟩
  have hi : i < ys.length := by omega
  have hl0 := fun g e2 => hs.load0 (hh := g) e2 hi (m := 4) (by decide)
  have hxG := hG _ (List.getElem_mem hi)
  have gd : GdM out := by rw [hout]; exact gd_fold _ _ ⟨List.Pairwise.nil, fun y hy => by cases hy⟩ fun y hy => hG y (List.mem_of_mem_take hy)
  have hnext : (ys.take (i + 1)).foldl stepM [] = stepM out ys[i] := by rw [List.take_succ_eq_append_getElem hi, List.foldl_append, ← hout]; rfl
  generalize hxx : ys[i] = x at *
  obtain ⟨g1, hg1, hgx, e1⟩ : ∃ g1, hh ++ [O.cells [V.int .i64 x.n, V.int .i64 x.v.kind, V.int .i64 x.v.int, V.str x.v.text] .rw] = g1 ∧ g1[hh.length]? = some (.cells x.enc .rw) ∧ Ext hh g1 := ⟨_, rfl, snoc_last _ rfl, (by (repeat (first | assumption | apply Ext.refl | apply Ext.app | (apply Ext.set <;> omega) | exact Ext.trans (by assumption) (by assumption) | (refine Ext.trans ?_ (by assumption)))))⟩
  have hlx := loadN_fact hgx
  have hlt1 := lt_of_some hgx
  have hsl := step_length out x
  have hval := refValid_ok (h := g1) x.v
  have gr1 := gr.ext e1
  have ex1 := e.trans e1
  simp only [En.enc, Vl.enc] at hl0 hval hlx
  by_cases hx1 : x.n < 1
  · have hst : stepM out x = out := by
      have : countV 2 x = false := by unfold countV; rw [if_pos hx1]
      unfold stepM; rw [this]; rfl
    simp -dsimp (disch := first | with_reducible assumption | omega | (intro h_; cases h_; done) | (simp only [LN] <;> omega) | (simp only [LF]; done) | (repeat (first | with_reducible assumption | apply Ext.refl | apply Ext.app | (apply Ext.set <;> omega) | (refine Ext.trans ?_ (by assumption))))) only [AX, TY, gV, dstOf, p_makeFunc, p_mapUpdate, mapPut, entsOf, p_lookup, p_extract, p_nilCheck, oneV, p_load, p_store, p_binOp, p_unOp, p_indexAddr, p_index, p_box, p_build, evParts, builtinV, load1, ldc, splice, minds, disj, rcOf, isCall, touchV, idsOf, mapId, touchB, p_buildSlice, buildSliceV, reps, fillV, p_convert, p_slice, evO, p_makeSlice, sid_some, soff_some, Nat.reduceLT, Nat.reduceLeDiff, Nat.reduceEqDiff, Nat.reduceAdd, Nat.reduceMul, Int.reduceBEq, Int.reduceEq, Int.reduceNeg, Int.reduceLT, Int.reduceLE, Int.reduceAdd, Int.reduceSub, Int.reduceMul, Int.reduceToNat, Int.reduceGT, Nat.reduceBEq, Nat.reducePow, Nat.reduceGT, reduceCtorEq, ↓reduceIte, t0, t3, t4, h1, hl0, hg1, hlx, eq_true hx1, wrap_in]
    refine ⟨m - 1, by omega, i + 1, by omega, ?_⟩
    constructor <;> (try first | assumption | ((repeat (first | assumption | apply Ext.refl | apply Ext.app | (apply Ext.set <;> omega) | exact Ext.trans (by assumption) (by assumption) | (refine Ext.trans ?_ (by assumption)))); done) | (refine Sl.ext (by assumption) ?_; (repeat (first | assumption | apply Ext.refl | apply Ext.app | (apply Ext.set <;> omega) | exact Ext.trans (by assumption) (by assumption) | (refine Ext.trans ?_ (by assumption)))); done) | (simp -dsimp (disch := first | with_reducible assumption | omega | (intro h_; cases h_; done) | (simp only [LN] <;> omega) | (simp only [LF]; done) | (repeat (first | with_reducible assumption | apply Ext.refl | apply Ext.app | (apply Ext.set <;> omega) | (refine Ext.trans ?_ (by assumption))))) only [AX, TY, gV, dstOf, p_makeFunc, p_mapUpdate, mapPut, entsOf, p_lookup, p_extract, p_nilCheck, oneV, p_load, p_store, p_binOp, p_unOp, p_indexAddr, p_index, p_box, p_build, evParts, builtinV, load1, ldc, splice, minds, disj, rcOf, isCall, touchV, idsOf, mapId, touchB, p_buildSlice, buildSliceV, reps, fillV, p_convert, p_slice, evO, p_makeSlice, sid_some, soff_some, Nat.reduceLT, Nat.reduceLeDiff, Nat.reduceEqDiff, Nat.reduceAdd, Nat.reduceMul, Int.reduceBEq, Int.reduceEq, Int.reduceNeg, Int.reduceLT, Int.reduceLE, Int.reduceAdd, Int.reduceSub, Int.reduceMul, Int.reduceToNat, Int.reduceGT, Nat.reduceBEq, Nat.reducePow, Nat.reduceGT, reduceCtorEq, ↓reduceIte, t0, t3, t4, wrap_in, Int.natCast_add, Int.natCast_one, Int.natCast_zero]; try (first | assumption | with_reducible rfl)))
    exact ⟨out, a, o, co, rfl, gr1, by rw [hnext, hst], by omega⟩
  simp -dsimp (disch := first | with_reducible assumption | omega | (intro h_; cases h_; done) | (simp only [LN] <;> omega) | (simp only [LF]; done) | (repeat (first | with_reducible assumption | apply Ext.refl | apply Ext.app | (apply Ext.set <;> omega) | (refine Ext.trans ?_ (by assumption))))) only [AX, TY, gV, dstOf, p_makeFunc, p_mapUpdate, mapPut, entsOf, p_lookup, p_extract, p_nilCheck, oneV, p_load, p_store, p_binOp, p_unOp, p_indexAddr, p_index, p_box, p_build, evParts, builtinV, load1, ldc, splice, minds, disj, rcOf, isCall, touchV, idsOf, mapId, touchB, p_buildSlice, buildSliceV, reps, fillV, p_convert, p_slice, evO, p_makeSlice, sid_some, soff_some, Nat.reduceLT, Nat.reduceLeDiff, Nat.reduceEqDiff, Nat.reduceAdd, Nat.reduceMul, Int.reduceBEq, Int.reduceEq, Int.reduceNeg, Int.reduceLT, Int.reduceLE, Int.reduceAdd, Int.reduceSub, Int.reduceMul, Int.reduceToNat, Int.reduceGT, Nat.reduceBEq, Nat.reducePow, Nat.reduceGT, reduceCtorEq, ↓reduceIte, t0, t3, t4, h1, hl0, hg1, hlx, hx1, wrap_in]
  refine hval.mono ?_
  rintro _ h3 ⟨e3, rfl⟩
  have gx3 := e3 _ _ hgx
  have gr3 := gr1.ext e3
  cases hc : validV x.v
  · have hst : stepM out x = out := by
      have : countV 2 x = false := by unfold countV; rw [if_neg hx1]; simpa using hc
      unfold stepM; rw [this]; rfl
    simp -dsimp (disch := first | with_reducible assumption | omega | (intro h_; cases h_; done) | (simp only [LN] <;> omega) | (simp only [LF]; done) | (repeat (first | with_reducible assumption | apply Ext.refl | apply Ext.app | (apply Ext.set <;> omega) | (refine Ext.trans ?_ (by assumption))))) only [AX, TY, gV, dstOf, p_makeFunc, p_mapUpdate, mapPut, entsOf, p_lookup, p_extract, p_nilCheck, oneV, p_load, p_store, p_binOp, p_unOp, p_indexAddr, p_index, p_box, p_build, evParts, builtinV, load1, ldc, splice, minds, disj, rcOf, isCall, touchV, idsOf, mapId, touchB, p_buildSlice, buildSliceV, reps, fillV, p_convert, p_slice, evO, p_makeSlice, sid_some, soff_some, Nat.reduceLT, Nat.reduceLeDiff, Nat.reduceEqDiff, Nat.reduceAdd, Nat.reduceMul, Int.reduceBEq, Int.reduceEq, Int.reduceNeg, Int.reduceLT, Int.reduceLE, Int.reduceAdd, Int.reduceSub, Int.reduceMul, Int.reduceToNat, Int.reduceGT, Nat.reduceBEq, Nat.reducePow, Nat.reduceGT, reduceCtorEq, ↓reduceIte, t0, t3, t4, wrap_in]
    refine ⟨m - 1, by omega, i + 1, by omega, ?_⟩
    constructor <;> (try first | assumption | ((repeat (first | assumption | apply Ext.refl | apply Ext.app | (apply Ext.set <;> omega) | exact Ext.trans (by assumption) (by assumption) | (refine Ext.trans ?_ (by assumption)))); done) | (refine Sl.ext (by assumption) ?_; (repeat (first | assumption | apply Ext.refl | apply Ext.app | (apply Ext.set <;> omega) | exact Ext.trans (by assumption) (by assumption) | (refine Ext.trans ?_ (by assumption)))); done) | (simp -dsimp (disch := first | with_reducible assumption | omega | (intro h_; cases h_; done) | (simp only [LN] <;> omega) | (simp only [LF]; done) | (repeat (first | with_reducible assumption | apply Ext.refl | apply Ext.app | (apply Ext.set <;> omega) | (refine Ext.trans ?_ (by assumption))))) only [AX, TY, gV, dstOf, p_makeFunc, p_mapUpdate, mapPut, entsOf, p_lookup, p_extract, p_nilCheck, oneV, p_load, p_store, p_binOp, p_unOp, p_indexAddr, p_index, p_box, p_build, evParts, builtinV, load1, ldc, splice, minds, disj, rcOf, isCall, touchV, idsOf, mapId, touchB, p_buildSlice, buildSliceV, reps, fillV, p_convert, p_slice, evO, p_makeSlice, sid_some, soff_some, Nat.reduceLT, Nat.reduceLeDiff, Nat.reduceEqDiff, Nat.reduceAdd, Nat.reduceMul, Int.reduceBEq, Int.reduceEq, Int.reduceNeg, Int.reduceLT, Int.reduceLE, Int.reduceAdd, Int.reduceSub, Int.reduceMul, Int.reduceToNat, Int.reduceGT, Nat.reduceBEq, Nat.reducePow, Nat.reduceGT, reduceCtorEq, ↓reduceIte, t0, t3, t4, wrap_in, Int.natCast_add, Int.natCast_one, Int.natCast_zero]; try (first | assumption | with_reducible rfl)))
    exact ⟨out, a, o, co, rfl, gr3, by rw [hnext, hst], by omega⟩
  have hcn : countV 2 x = true := by unfold countV; rw [if_neg hx1]; simpa using hc
  simp -dsimp (disch := first | with_reducible assumption | omega | (intro h_; cases h_; done) | (simp only [LN] <;> omega) | (simp only [LF]; done) | (repeat (first | with_reducible assumption | apply Ext.refl | apply Ext.app | (apply Ext.set <;> omega) | (refine Ext.trans ?_ (by assumption))))) only [AX, TY, gV, dstOf, p_makeFunc, p_mapUpdate, mapPut, entsOf, p_lookup, p_extract, p_nilCheck, oneV, p_load, p_store, p_binOp, p_unOp, p_indexAddr, p_index, p_box, p_build, evParts, builtinV, load1, ldc, splice, minds, disj, rcOf, isCall, touchV, idsOf, mapId, touchB, p_buildSlice, buildSliceV, reps, fillV, p_convert, p_slice, evO, p_makeSlice, sid_some, soff_some, Nat.reduceLT, Nat.reduceLeDiff, Nat.reduceEqDiff, Nat.reduceAdd, Nat.reduceMul, Int.reduceBEq, Int.reduceEq, Int.reduceNeg, Int.reduceLT, Int.reduceLE, Int.reduceAdd, Int.reduceSub, Int.reduceMul, Int.reduceToNat, Int.reduceGT, Nat.reduceBEq, Nat.reducePow, Nat.reduceGT, reduceCtorEq, ↓reduceIte, t0, t3, t4, wrap_in]
  refine W.loop (fun m' τ hh' => ∃ k, m' + k = out.length ∧ LRi h p c ys i x hh.length out a o co k τ hh') ?_ (m := out.length) ?_
  rotate_left
  · refine ⟨0, by simp, ?_⟩
    constructor <;> (try first | assumption | ((repeat (first | assumption | apply Ext.refl | apply Ext.app | (apply Ext.set <;> omega) | exact Ext.trans (by assumption) (by assumption) | (refine Ext.trans ?_ (by assumption)))); done) | (refine Sl.ext (by assumption) ?_; (repeat (first | assumption | apply Ext.refl | apply Ext.app | (apply Ext.set <;> omega) | exact Ext.trans (by assumption) (by assumption) | (refine Ext.trans ?_ (by assumption)))); done) | (simp -dsimp (disch := first | with_reducible assumption | omega | (intro h_; cases h_; done) | (simp only [LN] <;> omega) | (simp only [LF]; done) | (repeat (first | with_reducible assumption | apply Ext.refl | apply Ext.app | (apply Ext.set <;> omega) | (refine Ext.trans ?_ (by assumption))))) only [AX, TY, gV, dstOf, p_makeFunc, p_mapUpdate, mapPut, entsOf, p_lookup, p_extract, p_nilCheck, oneV, p_load, p_store, p_binOp, p_unOp, p_indexAddr, p_index, p_box, p_build, evParts, builtinV, load1, ldc, splice, minds, disj, rcOf, isCall, touchV, idsOf, mapId, touchB, p_buildSlice, buildSliceV, reps, fillV, p_convert, p_slice, evO, p_makeSlice, sid_some, soff_some, Nat.reduceLT, Nat.reduceLeDiff, Nat.reduceEqDiff, Nat.reduceAdd, Nat.reduceMul, Int.reduceBEq, Int.reduceEq, Int.reduceNeg, Int.reduceLT, Int.reduceLE, Int.reduceAdd, Int.reduceSub, Int.reduceMul, Int.reduceToNat, Int.reduceGT, Nat.reduceBEq, Nat.reducePow, Nat.reduceGT, reduceCtorEq, ↓reduceIte, t0, t3, t4, Int.natCast_add, Int.natCast_one, Int.natCast_zero]; try (first | assumption | with_reducible rfl)))
    all_goals first | exact ex1.trans e3 | exact gx3 | exact gr3 | (intro k hk; omega) | rfl | omega | skip
  clear t0 t3 t4 gr gr1 gr3 e e1 e3 gx3 hlx hval hgx ex1 hg1 hlt1
  rintro m' τ hh' ⟨k, hm', e, gx, t0, t3, t4, t5, t6, gr, hk, hlow⟩
  have hle1 := e.le
  have hltx := lt_of_some gx
  have hlx : ∀ {g : Heap}, Ext hh' g → ∀ o n, loadN g hh.length o n = ldc x.enc o n := fun e2 o n => ldx gx e2 o n
  simp only [En.enc] at hlx
  have hpos : ∀ (_ : ∀ y, out[k]? = some y → ¬ cmpV y.v x.v < 0), posM out x = k := fun hge => by
    refine AtM.eq ⟨hk, hlow, fun j hj z hz hlt => ?_⟩
    rcases Nat.lt_or_ge k j with q | q
    · obtain ⟨hjl, e2⟩ := List.getElem?_eq_some_iff.1 hz
      have h1 := List.pairwise_iff_getElem.1 gd.srt k j (by omega) hjl q
      rw [e2] at h1
      exact hge _ (List.getElem?_eq_getElem (by omega)) (cmpV_trans h1 hlt)
    · obtain rfl : k = j := by omega
      exact hge z hz hlt
  by_cases hend : k < out.length
  · have hkl : (k : Int) < (out.length : Int) := by omega
    have hl1 := fun g e2 => gr.sl.load (hh := g) e2 hend (o := 1) (m := 3) (by decide)
    have hget : out[k]? = some out[k] := List.getElem?_eq_getElem hend
    generalize hyy : out[k] = y at *
    have hcm := refCompare_ok (h := hh') y.v x.v
    simp only [En.enc, Vl.enc, sid_some, soff_some] at hl1 hcm
    by_cases hq : cmpV y.v x.v < 0
    · simp -dsimp (disch := first | with_reducible assumption | omega | (intro h_; cases h_; done) | (simp only [LN] <;> omega) | (simp only [LF]; done) | (repeat (first | with_reducible assumption | apply Ext.refl | apply Ext.app | (apply Ext.set <;> omega) | (refine Ext.trans ?_ (by assumption))))) only [AX, TY, gV, dstOf, p_makeFunc, p_mapUpdate, mapPut, entsOf, p_lookup, p_extract, p_nilCheck, oneV, p_load, p_store, p_binOp, p_unOp, p_indexAddr, p_index, p_box, p_build, evParts, builtinV, load1, ldc, splice, minds, disj, rcOf, isCall, touchV, idsOf, mapId, touchB, p_buildSlice, buildSliceV, reps, fillV, p_convert, p_slice, evO, p_makeSlice, sid_some, soff_some, Nat.reduceLT, Nat.reduceLeDiff, Nat.reduceEqDiff, Nat.reduceAdd, Nat.reduceMul, Int.reduceBEq, Int.reduceEq, Int.reduceNeg, Int.reduceLT, Int.reduceLE, Int.reduceAdd, Int.reduceSub, Int.reduceMul, Int.reduceToNat, Int.reduceGT, Nat.reduceBEq, Nat.reducePow, Nat.reduceGT, reduceCtorEq, ↓reduceIte, t0, t3, t4, t5, t6]
      refine W.drawn [(0, []), (1, [0]), (2, [0]), (3, []), (4, []), (5, []), (6, [5]), (7, []), (8, []), (9, []), (10, [9, 8, 7, 6, 5]), (11, [9, 8, 7, 6, 5]), (12, []), (13, []), (14, [])] (by decide +kernel) ?_
      simp -dsimp (disch := first | with_reducible assumption | omega | (intro h_; cases h_; done) | (simp only [LN] <;> omega) | (simp only [LF]; done) | (repeat (first | with_reducible assumption | apply Ext.refl | apply Ext.app | (apply Ext.set <;> omega) | (refine Ext.trans ?_ (by assumption))))) only [AX, TY, gV, dstOf, p_makeFunc, p_mapUpdate, mapPut, entsOf, p_lookup, p_extract, p_nilCheck, oneV, p_load, p_store, p_binOp, p_unOp, p_indexAddr, p_index, p_box, p_build, evParts, builtinV, load1, ldc, splice, minds, disj, rcOf, isCall, touchV, idsOf, mapId, touchB, p_buildSlice, buildSliceV, reps, fillV, p_convert, p_slice, evO, p_makeSlice, sid_some, soff_some, Nat.reduceLT, Nat.reduceLeDiff, Nat.reduceEqDiff, Nat.reduceAdd, Nat.reduceMul, Int.reduceBEq, Int.reduceEq, Int.reduceNeg, Int.reduceLT, Int.reduceLE, Int.reduceAdd, Int.reduceSub, Int.reduceMul, Int.reduceToNat, Int.reduceGT, Nat.reduceBEq, Nat.reducePow, Nat.reduceGT, reduceCtorEq, ↓reduceIte, t0, t3, t4, t5, t6, eq_true hkl, hl1, hlx]
      refine hcm.mono ?_
      rintro _ h5 ⟨e5, rfl⟩
      simp -dsimp (disch := first | with_reducible assumption | omega | (intro h_; cases h_; done) | (simp only [LN] <;> omega) | (simp only [LF]; done) | (repeat (first | with_reducible assumption | apply Ext.refl | apply Ext.app | (apply Ext.set <;> omega) | (refine Ext.trans ?_ (by assumption))))) only [AX, TY, gV, dstOf, p_makeFunc, p_mapUpdate, mapPut, entsOf, p_lookup, p_extract, p_nilCheck, oneV, p_load, p_store, p_binOp, p_unOp, p_indexAddr, p_index, p_box, p_build, evParts, builtinV, load1, ldc, splice, minds, disj, rcOf, isCall, touchV, idsOf, mapId, touchB, p_buildSlice, buildSliceV, reps, fillV, p_convert, p_slice, evO, p_makeSlice, sid_some, soff_some, Nat.reduceLT, Nat.reduceLeDiff, Nat.reduceEqDiff, Nat.reduceAdd, Nat.reduceMul, Int.reduceBEq, Int.reduceEq, Int.reduceNeg, Int.reduceLT, Int.reduceLE, Int.reduceAdd, Int.reduceSub, Int.reduceMul, Int.reduceToNat, Int.reduceGT, Nat.reduceBEq, Nat.reducePow, Nat.reduceGT, reduceCtorEq, ↓reduceIte, t0, t3, t4, t5, t6, eq_true hq, wrap_in]
      refine ⟨m' - 1, by omega, k + 1, by omega, ?_⟩
      constructor <;> (try first | assumption | ((repeat (first | assumption | apply Ext.refl | apply Ext.app | (apply Ext.set <;> omega) | exact Ext.trans (by assumption) (by assumption) | (refine Ext.trans ?_ (by assumption)))); done) | (refine Sl.ext (by assumption) ?_; (repeat (first | assumption | apply Ext.refl | apply Ext.app | (apply Ext.set <;> omega) | exact Ext.trans (by assumption) (by assumption) | (refine Ext.trans ?_ (by assumption)))); done) | (simp -dsimp (disch := first | with_reducible assumption | omega | (intro h_; cases h_; done) | (simp only [LN] <;> omega) | (simp only [LF]; done) | (repeat (first | with_reducible assumption | apply Ext.refl | apply Ext.app | (apply Ext.set <;> omega) | (refine Ext.trans ?_ (by assumption))))) only [AX, TY, gV, dstOf, p_makeFunc, p_mapUpdate, mapPut, entsOf, p_lookup, p_extract, p_nilCheck, oneV, p_load, p_store, p_binOp, p_unOp, p_indexAddr, p_index, p_box, p_build, evParts, builtinV, load1, ldc, splice, minds, disj, rcOf, isCall, touchV, idsOf, mapId, touchB, p_buildSlice, buildSliceV, reps, fillV, p_convert, p_slice, evO, p_makeSlice, sid_some, soff_some, Nat.reduceLT, Nat.reduceLeDiff, Nat.reduceEqDiff, Nat.reduceAdd, Nat.reduceMul, Int.reduceBEq, Int.reduceEq, Int.reduceNeg, Int.reduceLT, Int.reduceLE, Int.reduceAdd, Int.reduceSub, Int.reduceMul, Int.reduceToNat, Int.reduceGT, Nat.reduceBEq, Nat.reducePow, Nat.reduceGT, reduceCtorEq, ↓reduceIte, t0, t3, t4, t5, t6, wrap_in, Int.natCast_add, Int.natCast_one, Int.natCast_zero]; try (first | assumption | with_reducible rfl)))
      all_goals first | exact e.trans e5 | exact e5 _ _ gx | exact gr.ext e5 | omega | rfl | skip
      intro j hj z hz
      rcases Nat.lt_or_ge j k with q | q
      · exact hlow j q z hz
      · obtain rfl : j = k := by omega
        rw [hget] at hz; cases hz; exact hq
    · have hp := hpos fun z hz => by rw [hget] at hz; cases hz; exact hq
      simp -dsimp (disch := first | with_reducible assumption | omega | (intro h_; cases h_; done) | (simp only [LN] <;> omega) | (simp only [LF]; done) | (repeat (first | with_reducible assumption | apply Ext.refl | apply Ext.app | (apply Ext.set <;> omega) | (refine Ext.trans ?_ (by assumption))))) only [AX, TY, gV, dstOf, p_makeFunc, p_mapUpdate, mapPut, entsOf, p_lookup, p_extract, p_nilCheck, oneV, p_load, p_store, p_binOp, p_unOp, p_indexAddr, p_index, p_box, p_build, evParts, builtinV, load1, ldc, splice, minds, disj, rcOf, isCall, touchV, idsOf, mapId, touchB, p_buildSlice, buildSliceV, reps, fillV, p_convert, p_slice, evO, p_makeSlice, sid_some, soff_some, Nat.reduceLT, Nat.reduceLeDiff, Nat.reduceEqDiff, Nat.reduceAdd, Nat.reduceMul, Int.reduceBEq, Int.reduceEq, Int.reduceNeg, Int.reduceLT, Int.reduceLE, Int.reduceAdd, Int.reduceSub, Int.reduceMul, Int.reduceToNat, Int.reduceGT, Nat.reduceBEq, Nat.reducePow, Nat.reduceGT, reduceCtorEq, ↓reduceIte, t0, t3, t4, t5, t6]
      refine W.drawn [(0, []), (1, [0]), (2, [0]), (3, []), (4, []), (5, []), (6, [5]), (7, []), (8, []), (9, []), (10, [9, 8, 7, 6, 5]), (11, [9, 8, 7, 6, 5]), (12, []), (13, []), (14, [])] (by decide +kernel) ?_
      simp -dsimp (disch := first | with_reducible assumption | omega | (intro h_; cases h_; done) | (simp only [LN] <;> omega) | (simp only [LF]; done) | (repeat (first | with_reducible assumption | apply Ext.refl | apply Ext.app | (apply Ext.set <;> omega) | (refine Ext.trans ?_ (by assumption))))) only [AX, TY, gV, dstOf, p_makeFunc, p_mapUpdate, mapPut, entsOf, p_lookup, p_extract, p_nilCheck, oneV, p_load, p_store, p_binOp, p_unOp, p_indexAddr, p_index, p_box, p_build, evParts, builtinV, load1, ldc, splice, minds, disj, rcOf, isCall, touchV, idsOf, mapId, touchB, p_buildSlice, buildSliceV, reps, fillV, p_convert, p_slice, evO, p_makeSlice, sid_some, soff_some, Nat.reduceLT, Nat.reduceLeDiff, Nat.reduceEqDiff, Nat.reduceAdd, Nat.reduceMul, Int.reduceBEq, Int.reduceEq, Int.reduceNeg, Int.reduceLT, Int.reduceLE, Int.reduceAdd, Int.reduceSub, Int.reduceMul, Int.reduceToNat, Int.reduceGT, Nat.reduceBEq, Nat.reducePow, Nat.reduceGT, reduceCtorEq, ↓reduceIte, t0, t3, t4, t5, t6, eq_true hkl, hl1, hlx]
      refine hcm.mono ?_
      rintro _ h5 ⟨e5, rfl⟩
      simp -dsimp (disch := first | with_reducible assumption | omega | (intro h_; cases h_; done) | (simp only [LN] <;> omega) | (simp only [LF]; done) | (repeat (first | with_reducible assumption | apply Ext.refl | apply Ext.app | (apply Ext.set <;> omega) | (refine Ext.trans ?_ (by assumption))))) only [AX, TY, gV, dstOf, p_makeFunc, p_mapUpdate, mapPut, entsOf, p_lookup, p_extract, p_nilCheck, oneV, p_load, p_store, p_binOp, p_unOp, p_indexAddr, p_index, p_box, p_build, evParts, builtinV, load1, ldc, splice, minds, disj, rcOf, isCall, touchV, idsOf, mapId, touchB, p_buildSlice, buildSliceV, reps, fillV, p_convert, p_slice, evO, p_makeSlice, sid_some, soff_some, Nat.reduceLT, Nat.reduceLeDiff, Nat.reduceEqDiff, Nat.reduceAdd, Nat.reduceMul, Int.reduceBEq, Int.reduceEq, Int.reduceNeg, Int.reduceLT, Int.reduceLE, Int.reduceAdd, Int.reduceSub, Int.reduceMul, Int.reduceToNat, Int.reduceGT, Nat.reduceBEq, Nat.reducePow, Nat.reduceGT, reduceCtorEq, ↓reduceIte, t0, t3, t4, t5, t6, hq, wrap_in]
      have hfd : foundM out x = decide (cmpV y.v x.v = 0) := by unfold foundM; rw [hp, hget]
      have hcm2 := refCompare_ok (h := h5) y.v x.v
      simp only [Vl.enc] at hcm2
      have hl1' := fun g e2 => hl1 g (e5.trans e2)
      have hlx' : ∀ {g : Heap}, Ext h5 g → ∀ o n, loadN g hh.length o n = ldc x.enc o n := fun e2 o n => ldx gx (e5.trans e2) o n
      simp only [En.enc] at hlx'
      have lt5 := lt_of_some (e5 _ _ gx)
      refine W.drawn [(0, []), (1, [0]), (2, [0]), (3, []), (4, []), (5, []), (6, [5]), (7, []), (8, []), (9, []), (10, [9, 8, 7, 6, 5]), (11, [9, 8, 7, 6, 5]), (12, []), (13, []), (14, [])] (by decide +kernel) ?_
      simp -dsimp (disch := first | with_reducible assumption | omega | (intro h_; cases h_; done) | (simp only [LN] <;> omega) | (simp only [LF]; done) | (repeat (first | with_reducible assumption | apply Ext.refl | apply Ext.app | (apply Ext.set <;> omega) | (refine Ext.trans ?_ (by assumption))))) only [AX, TY, gV, dstOf, p_makeFunc, p_mapUpdate, mapPut, entsOf, p_lookup, p_extract, p_nilCheck, oneV, p_load, p_store, p_binOp, p_unOp, p_indexAddr, p_index, p_box, p_build, evParts, builtinV, load1, ldc, splice, minds, disj, rcOf, isCall, touchV, idsOf, mapId, touchB, p_buildSlice, buildSliceV, reps, fillV, p_convert, p_slice, evO, p_makeSlice, sid_some, soff_some, Nat.reduceLT, Nat.reduceLeDiff, Nat.reduceEqDiff, Nat.reduceAdd, Nat.reduceMul, Int.reduceBEq, Int.reduceEq, Int.reduceNeg, Int.reduceLT, Int.reduceLE, Int.reduceAdd, Int.reduceSub, Int.reduceMul, Int.reduceToNat, Int.reduceGT, Nat.reduceBEq, Nat.reducePow, Nat.reduceGT, reduceCtorEq, ↓reduceIte, t0, t3, t4, t5, t6, eq_true hkl, hl1', hlx']
      refine hcm2.mono ?_
      rintro _ h6 ⟨e6, rfl⟩
      have e56 := e5.trans e6
      by_cases hz : cmpV y.v x.v = 0
      rotate_left
      · have hfnd : foundM out x = false := by rw [hfd]; simpa using hz
        simp -dsimp (disch := first | with_reducible assumption | omega | (intro h_; cases h_; done) | (simp only [LN] <;> omega) | (simp only [LF]; done) | (repeat (first | with_reducible assumption | apply Ext.refl | apply Ext.app | (apply Ext.set <;> omega) | (refine Ext.trans ?_ (by assumption))))) only [AX, TY, gV, dstOf, p_makeFunc, p_mapUpdate, mapPut, entsOf, p_lookup, p_extract, p_nilCheck, oneV, p_load, p_store, p_binOp, p_unOp, p_indexAddr, p_index, p_box, p_build, evParts, builtinV, load1, ldc, splice, minds, disj, rcOf, isCall, touchV, idsOf, mapId, touchB, p_buildSlice, buildSliceV, reps, fillV, p_convert, p_slice, evO, p_makeSlice, sid_some, soff_some, Nat.reduceLT, Nat.reduceLeDiff, Nat.reduceEqDiff, Nat.reduceAdd, Nat.reduceMul, Int.reduceBEq, Int.reduceEq, Int.reduceNeg, Int.reduceLT, Int.reduceLE, Int.reduceAdd, Int.reduceSub, Int.reduceMul, Int.reduceToNat, Int.reduceGT, Nat.reduceBEq, Nat.reducePow, Nat.reduceGT, reduceCtorEq, ↓reduceIte, t0, t3, t4, t5, t6, hz]
        skip
        have e0' := e.trans e56
        have gr' := gr.ext e56
        have gx' := e56 _ _ gx
        have hleg := e0'.le
        have hag := gr'.lt rfl
        have hbx := lt_of_some gx'
        obtain ⟨hcut1, rs1⟩ := gr'.rs.hi (b := k) hk
        obtain ⟨p2, c2, hcut2, rs2⟩ := gr'.rs.lo (a := k) hk
        have ex1 : Ext h6 (h6 ++ [O.cells [] Kd.rw]) := (by (repeat (first | assumption | apply Ext.refl | apply Ext.app | (apply Ext.set <;> omega) | exact Ext.trans (by assumption) (by assumption) | (refine Ext.trans ?_ (by assumption)))))
        have hgE : (h6 ++ [O.cells [] Kd.rw])[(h6).length]? = some (O.cells [] Kd.rw) := snoc_last _ rfl
        obtain ⟨pn, cn, on, k2, hap1, gn, hon, hln, hkn⟩ := clone_app (bytes := 40) (b := (h6).length) (c := co) (rs1.sl.ext ex1) hgE (Nat.le_refl _) (fun y _ => rfl) (by rw [List.length_take]; omega)
        have htl : (out.take k).length = k := by rw [List.length_take]; omega
        have hdl : (out.drop k).length = out.length - k := List.length_drop ..
        rw [htl] at hap1
        have hl1 : (h6 ++ [O.cells [] Kd.rw]).length = (h6).length + 1 := by simp
        have keep2 : ∀ j, j < (h6).length → k2[j]? = (h6)[j]? := fun j hj => by rw [hkn j (by omega) (by omega), snoc_old _ hj]
        have e12 : Ext h6 k2 := Ext.of_keep keep2
        have le2 := e12.le
        have lx2 := loadN_fact (e12 _ _ gx')
        have e2b : Ext k2 (k2 ++ [O.cells x.enc Kd.rw]) := (by (repeat (first | assumption | apply Ext.refl | apply Ext.app | (apply Ext.set <;> omega) | exact Ext.trans (by assumption) (by assumption) | (refine Ext.trans ?_ (by assumption)))))
        have hl2 : (k2 ++ [O.cells x.enc Kd.rw]).length = k2.length + 1 := by simp
        obtain ⟨p5, c5, o5, k3, hap2, g5, ho5, hl5, hk5, hb5⟩ := (gn.ext e2b).push (y := x) (q := k2.length) (bytes := 40) (vc := some 1) (by omega) (snoc_last _ rfl) rfl rfl (by rw [htl]; omega) (by rw [htl]; omega)
        rw [htl] at hap2
        have e13 : Ext h6 k3 := (e12.trans e2b).below (Nat.le_refl _) hb5
        have hfr := (rs2.sl.ext e13).first c2 (Nat.le_refl _) (out.length - k)
        rw [← hdl, List.take_length] at hfr
        obtain ⟨p6, c6, o6, k4, hap3, g6, ho6, hl6, hk6, hb6⟩ := g5.append (zs := out.drop k) (n := (out.drop k).length) (bytes := 40) (x := .slice p2 (out.drop k).length c2) (by omega) rfl hfr (en_w _) (en_l _) (by simp only [List.length_append, List.length_take, List.length_drop, List.length_cons, List.length_nil]; omega) (by simp only [List.length_append, List.length_take, List.length_drop, List.length_cons, List.length_nil]; omega)
        have e14 : Ext h k4 := (e0'.trans e13).below e0'.le hb6
        have hl3 : (out.take k ++ [x]).length = k + 1 := by rw [List.length_append, htl]; rfl
        have hNN : out.take k ++ [x] ++ out.drop k = stepM out x := by rw [step_put hcn hfnd]; unfold putM; rw [hp]
        have hNl : (stepM out x).length = out.length + 1 := by rw [step_put hcn hfnd, put_length]
        rw [hNN] at g6 hap3
        rw [hl3, hdl, hNl] at hap3
        obtain ⟨a6, o6', rfl, rfl⟩ : ∃ a6 o6', o6 = some a6 ∧ p6 = some (a6, o6') := by
          have h1 : ∃ a, on = some a := by rcases hon with q | q <;> exact ⟨_, q⟩
          have h2 : ∃ a, o5 = some a := by
            rcases ho5 with q | q
            · rw [q]; exact h1
            · exact ⟨_, q⟩
          have h3 : ∃ a, o6 = some a := by
            rcases ho6 with q | q
            · rw [q]; exact h2
            · exact ⟨_, q⟩
          obtain ⟨a6, e6⟩ := h3
          obtain ⟨o6', e7⟩ := g6.isSome e6
          exact ⟨a6, o6', e6, e7⟩
        have m1 := fun x => gn.muts x (fun y => !y == hh.length) (fun id e => by have := gn.base id e; simp; omega)
        have m2 := fun x => g5.muts x (fun y => !y == hh.length) (fun id e => by have := g5.base id e; simp; omega)
        have m3 := fun x => gn.muts x (fun y => !y == a) (fun id e => by have := gn.base id e; simp; omega)
        have m4 := fun x => g5.muts x (fun y => !y == a) (fun id e => by have := g5.base id e; simp; omega)
        simp only [htl] at m1 m3
        simp only [hl3] at m2 m4
        simp only [En.enc] at hap2 lx2
        refine W.drawn [(0, []), (1, [0]), (2, [1, 0]), (3, [0]), (4, []), (5, [4, 3, 2, 1, 0]), (6, [4, 3, 2, 1, 0]), (7, []), (8, [7, 6, 5, 4, 3, 2, 1, 0]), (9, [8, 7, 6, 5, 4, 3, 2, 1, 0]), (10, [7, 6, 5, 4, 3, 2, 1, 0]), (11, []), (12, [])] (by decide +kernel) ?_
        simp -dsimp (disch := first | with_reducible assumption | omega | (intro h_; cases h_; done) | (simp only [LN] <;> omega) | (simp only [LF]; done) | (repeat (first | with_reducible assumption | apply Ext.refl | apply Ext.app | (apply Ext.set <;> omega) | (refine Ext.trans ?_ (by assumption))))) only [AX, TY, gV, dstOf, p_makeFunc, p_mapUpdate, mapPut, entsOf, p_lookup, p_extract, p_nilCheck, oneV, p_load, p_store, p_binOp, p_unOp, p_indexAddr, p_index, p_box, p_build, evParts, builtinV, load1, ldc, splice, minds, disj, rcOf, isCall, touchV, idsOf, mapId, touchB, p_buildSlice, buildSliceV, reps, fillV, p_convert, p_slice, evO, p_makeSlice, sid_some, soff_some, Nat.reduceLT, Nat.reduceLeDiff, Nat.reduceEqDiff, Nat.reduceAdd, Nat.reduceMul, Int.reduceBEq, Int.reduceEq, Int.reduceNeg, Int.reduceLT, Int.reduceLE, Int.reduceAdd, Int.reduceSub, Int.reduceMul, Int.reduceToNat, Int.reduceGT, Nat.reduceBEq, Nat.reducePow, Nat.reduceGT, reduceCtorEq, ↓reduceIte, t0, t3, t4, t5, t6, hcut1, hap1, lx2, hap2, hcut2, hap3, m1, m2, m3, m4, wrap_in]
        refine ⟨m - 1, by omega, i + 1, by omega, ?_⟩
        constructor <;> (try first | assumption | ((repeat (first | assumption | apply Ext.refl | apply Ext.app | (apply Ext.set <;> omega) | exact Ext.trans (by assumption) (by assumption) | (refine Ext.trans ?_ (by assumption)))); done) | (refine Sl.ext (by assumption) ?_; (repeat (first | assumption | apply Ext.refl | apply Ext.app | (apply Ext.set <;> omega) | exact Ext.trans (by assumption) (by assumption) | (refine Ext.trans ?_ (by assumption)))); done) | (simp -dsimp (disch := first | with_reducible assumption | omega | (intro h_; cases h_; done) | (simp only [LN] <;> omega) | (simp only [LF]; done) | (repeat (first | with_reducible assumption | apply Ext.refl | apply Ext.app | (apply Ext.set <;> omega) | (refine Ext.trans ?_ (by assumption))))) only [AX, TY, gV, dstOf, p_makeFunc, p_mapUpdate, mapPut, entsOf, p_lookup, p_extract, p_nilCheck, oneV, p_load, p_store, p_binOp, p_unOp, p_indexAddr, p_index, p_box, p_build, evParts, builtinV, load1, ldc, splice, minds, disj, rcOf, isCall, touchV, idsOf, mapId, touchB, p_buildSlice, buildSliceV, reps, fillV, p_convert, p_slice, evO, p_makeSlice, sid_some, soff_some, Nat.reduceLT, Nat.reduceLeDiff, Nat.reduceEqDiff, Nat.reduceAdd, Nat.reduceMul, Int.reduceBEq, Int.reduceEq, Int.reduceNeg, Int.reduceLT, Int.reduceLE, Int.reduceAdd, Int.reduceSub, Int.reduceMul, Int.reduceToNat, Int.reduceGT, Nat.reduceBEq, Nat.reducePow, Nat.reduceGT, reduceCtorEq, ↓reduceIte, t0, t3, t4, t5, t6, wrap_in, Int.natCast_add, Int.natCast_one, Int.natCast_zero]; try (first | assumption | with_reducible rfl)))
        exact ⟨stepM out x, a6, o6', c6, by rw [hNl], g6.weak hleg, hnext.symm, by omega⟩
      have hfnd : foundM out x = true := by rw [hfd]; simpa using hz
      simp -dsimp (disch := first | with_reducible assumption | omega | (intro h_; cases h_; done) | (simp only [LN] <;> omega) | (simp only [LF]; done) | (repeat (first | with_reducible assumption | apply Ext.refl | apply Ext.app | (apply Ext.set <;> omega) | (refine Ext.trans ?_ (by assumption))))) only [AX, TY, gV, dstOf, p_makeFunc, p_mapUpdate, mapPut, entsOf, p_lookup, p_extract, p_nilCheck, oneV, p_load, p_store, p_binOp, p_unOp, p_indexAddr, p_index, p_box, p_build, evParts, builtinV, load1, ldc, splice, minds, disj, rcOf, isCall, touchV, idsOf, mapId, touchB, p_buildSlice, buildSliceV, reps, fillV, p_convert, p_slice, evO, p_makeSlice, sid_some, soff_some, Nat.reduceLT, Nat.reduceLeDiff, Nat.reduceEqDiff, Nat.reduceAdd, Nat.reduceMul, Int.reduceBEq, Int.reduceEq, Int.reduceNeg, Int.reduceLT, Int.reduceLE, Int.reduceAdd, Int.reduceSub, Int.reduceMul, Int.reduceToNat, Int.reduceGT, Nat.reduceBEq, Nat.reducePow, Nat.reduceGT, reduceCtorEq, ↓reduceIte, t0, t3, t4, t5, t6, eq_true hz]
      obtain ⟨y', hlt, hyy', hst⟩ := step_set hcn hfnd
      have gr6 := gr.ext e56
      have gx6 := e56 _ _ gx
      have hn2 := gr6.sl.nil'
      have hyp := gd.pos y' (by rw [← hyy']; exact List.getElem_mem hlt)
      have hly := fun g e2 => gr6.sl.load0 (hh := g) e2 hlt (m := 1) (by decide)
      have hlt2 : ((posM out x : Nat) : Int) < (out.length : Int) := by omega
      have hwsub : IntKind.i64.wrap (9223372036854775807 - x.n) = 9223372036854775807 - x.n := by rw [IntKind.wrap_i64]; omega
      have e06 := e.trans e56
      obtain ⟨h7, hsto, gr7, hle7, hk7, hb7⟩ := gr6.store hlt (o := 0) (vs := [V.int .i64 (addSat y'.n x.n)]) (by simp) rfl (⟨addSat y'.n x.n, y'.v⟩ : En) (by rw [hyy']; rfl)
      have e07 : Ext h h7 := e06.below (Nat.le_refl _) hb7
      rw [← hst] at gr7
      have hstl : (stepM out x).length = out.length := by rw [hst, List.length_set]
      have lx6 := loadN_fact gx6
      have ltx6 := lt_of_some gx6
      rw [hyy'] at hly
      simp only [hp] at hly hlt2 hsto
      simp only [En.enc, sid_some, soff_some] at lx6 hly
      have hsto2 : storeN h6 a (o + k * 4) [V.int .i64 (addSat y'.n x.n)] = some h7 := by simpa [fld, sid_some, soff_some] using hsto
      refine W.drawn [(0, []), (1, [0]), (2, []), (3, []), (4, []), (5, [4, 3, 2, 1, 0]), (6, [4, 3, 2, 1, 0]), (7, [4, 3, 2, 1, 0]), (8, [])] (by decide +kernel) ?_
      by_cases hsat : 9223372036854775807 - x.n < y'.n
      · have ha : addSat y'.n x.n = 9223372036854775807 := by unfold addSat; rw [if_pos hsat]
        rw [ha] at hsto2
        simp -dsimp (disch := first | with_reducible assumption | omega | (intro h_; cases h_; done) | (simp only [LN] <;> omega) | (simp only [LF]; done) | (repeat (first | with_reducible assumption | apply Ext.refl | apply Ext.app | (apply Ext.set <;> omega) | (refine Ext.trans ?_ (by assumption))))) only [AX, TY, gV, dstOf, p_makeFunc, p_mapUpdate, mapPut, entsOf, p_lookup, p_extract, p_nilCheck, oneV, p_load, p_store, p_binOp, p_unOp, p_indexAddr, p_index, p_box, p_build, evParts, builtinV, load1, ldc, splice, minds, disj, rcOf, isCall, touchV, idsOf, mapId, touchB, p_buildSlice, buildSliceV, reps, fillV, p_convert, p_slice, evO, p_makeSlice, sid_some, soff_some, Nat.reduceLT, Nat.reduceLeDiff, Nat.reduceEqDiff, Nat.reduceAdd, Nat.reduceMul, Int.reduceBEq, Int.reduceEq, Int.reduceNeg, Int.reduceLT, Int.reduceLE, Int.reduceAdd, Int.reduceSub, Int.reduceMul, Int.reduceToNat, Int.reduceGT, Nat.reduceBEq, Nat.reducePow, Nat.reduceGT, reduceCtorEq, ↓reduceIte, t0, t3, t4, t5, t6, hly, lx6, hlt2, hwsub, eq_true hsat, hsto2, wrap_in]
        refine ⟨m - 1, by omega, i + 1, by omega, ?_⟩
        constructor <;> (try first | assumption | ((repeat (first | assumption | apply Ext.refl | apply Ext.app | (apply Ext.set <;> omega) | exact Ext.trans (by assumption) (by assumption) | (refine Ext.trans ?_ (by assumption)))); done) | (refine Sl.ext (by assumption) ?_; (repeat (first | assumption | apply Ext.refl | apply Ext.app | (apply Ext.set <;> omega) | exact Ext.trans (by assumption) (by assumption) | (refine Ext.trans ?_ (by assumption)))); done) | (simp -dsimp (disch := first | with_reducible assumption | omega | (intro h_; cases h_; done) | (simp only [LN] <;> omega) | (simp only [LF]; done) | (repeat (first | with_reducible assumption | apply Ext.refl | apply Ext.app | (apply Ext.set <;> omega) | (refine Ext.trans ?_ (by assumption))))) only [AX, TY, gV, dstOf, p_makeFunc, p_mapUpdate, mapPut, entsOf, p_lookup, p_extract, p_nilCheck, oneV, p_load, p_store, p_binOp, p_unOp, p_indexAddr, p_index, p_box, p_build, evParts, builtinV, load1, ldc, splice, minds, disj, rcOf, isCall, touchV, idsOf, mapId, touchB, p_buildSlice, buildSliceV, reps, fillV, p_convert, p_slice, evO, p_makeSlice, sid_some, soff_some, Nat.reduceLT, Nat.reduceLeDiff, Nat.reduceEqDiff, Nat.reduceAdd, Nat.reduceMul, Int.reduceBEq, Int.reduceEq, Int.reduceNeg, Int.reduceLT, Int.reduceLE, Int.reduceAdd, Int.reduceSub, Int.reduceMul, Int.reduceToNat, Int.reduceGT, Nat.reduceBEq, Nat.reducePow, Nat.reduceGT, reduceCtorEq, ↓reduceIte, t0, t3, t4, t5, t6, wrap_in, Int.natCast_add, Int.natCast_one, Int.natCast_zero]; try (first | assumption | with_reducible rfl)))
        exact ⟨stepM out x, a, o, co, by rw [hstl], gr7, hnext.symm, by omega⟩
      · have ha : addSat y'.n x.n = y'.n + x.n := by unfold addSat; rw [if_neg hsat]
        have hwadd : IntKind.i64.wrap (y'.n + x.n) = y'.n + x.n := by rw [IntKind.wrap_i64]; omega
        rw [ha] at hsto2
        simp -dsimp (disch := first | with_reducible assumption | omega | (intro h_; cases h_; done) | (simp only [LN] <;> omega) | (simp only [LF]; done) | (repeat (first | with_reducible assumption | apply Ext.refl | apply Ext.app | (apply Ext.set <;> omega) | (refine Ext.trans ?_ (by assumption))))) only [AX, TY, gV, dstOf, p_makeFunc, p_mapUpdate, mapPut, entsOf, p_lookup, p_extract, p_nilCheck, oneV, p_load, p_store, p_binOp, p_unOp, p_indexAddr, p_index, p_box, p_build, evParts, builtinV, load1, ldc, splice, minds, disj, rcOf, isCall, touchV, idsOf, mapId, touchB, p_buildSlice, buildSliceV, reps, fillV, p_convert, p_slice, evO, p_makeSlice, sid_some, soff_some, Nat.reduceLT, Nat.reduceLeDiff, Nat.reduceEqDiff, Nat.reduceAdd, Nat.reduceMul, Int.reduceBEq, Int.reduceEq, Int.reduceNeg, Int.reduceLT, Int.reduceLE, Int.reduceAdd, Int.reduceSub, Int.reduceMul, Int.reduceToNat, Int.reduceGT, Nat.reduceBEq, Nat.reducePow, Nat.reduceGT, reduceCtorEq, ↓reduceIte, t0, t3, t4, t5, t6, hly, lx6, hlt2, hwsub, hsat, wrap_in]
        refine W.drawn [(0, []), (1, [0]), (2, [1, 0]), (3, [2, 1, 0]), (4, [1, 0]), (5, [1, 0]), (6, [1, 0]), (7, [6, 5, 4, 3, 2, 1, 0]), (8, [6, 5, 4, 3, 2, 1, 0]), (9, [1, 0]), (10, []), (11, []), (12, [])] (by decide +kernel) ?_
        simp -dsimp (disch := first | with_reducible assumption | omega | (intro h_; cases h_; done) | (simp only [LN] <;> omega) | (simp only [LF]; done) | (repeat (first | with_reducible assumption | apply Ext.refl | apply Ext.app | (apply Ext.set <;> omega) | (refine Ext.trans ?_ (by assumption))))) only [AX, TY, gV, dstOf, p_makeFunc, p_mapUpdate, mapPut, entsOf, p_lookup, p_extract, p_nilCheck, oneV, p_load, p_store, p_binOp, p_unOp, p_indexAddr, p_index, p_box, p_build, evParts, builtinV, load1, ldc, splice, minds, disj, rcOf, isCall, touchV, idsOf, mapId, touchB, p_buildSlice, buildSliceV, reps, fillV, p_convert, p_slice, evO, p_makeSlice, sid_some, soff_some, Nat.reduceLT, Nat.reduceLeDiff, Nat.reduceEqDiff, Nat.reduceAdd, Nat.reduceMul, Int.reduceBEq, Int.reduceEq, Int.reduceNeg, Int.reduceLT, Int.reduceLE, Int.reduceAdd, Int.reduceSub, Int.reduceMul, Int.reduceToNat, Int.reduceGT, Nat.reduceBEq, Nat.reducePow, Nat.reduceGT, reduceCtorEq, ↓reduceIte, t0, t3, t4, t5, t6, hly, lx6, hlt2, hwadd, hsto2, wrap_in]
        refine ⟨m - 1, by omega, i + 1, by omega, ?_⟩
        constructor <;> (try first | assumption | ((repeat (first | assumption | apply Ext.refl | apply Ext.app | (apply Ext.set <;> omega) | exact Ext.trans (by assumption) (by assumption) | (refine Ext.trans ?_ (by assumption)))); done) | (refine Sl.ext (by assumption) ?_; (repeat (first | assumption | apply Ext.refl | apply Ext.app | (apply Ext.set <;> omega) | exact Ext.trans (by assumption) (by assumption) | (refine Ext.trans ?_ (by assumption)))); done) | (simp -dsimp (disch := first | with_reducible assumption | omega | (intro h_; cases h_; done) | (simp only [LN] <;> omega) | (simp only [LF]; done) | (repeat (first | with_reducible assumption | apply Ext.refl | apply Ext.app | (apply Ext.set <;> omega) | (refine Ext.trans ?_ (by assumption))))) only [AX, TY, gV, dstOf, p_makeFunc, p_mapUpdate, mapPut, entsOf, p_lookup, p_extract, p_nilCheck, oneV, p_load, p_store, p_binOp, p_unOp, p_indexAddr, p_index, p_box, p_build, evParts, builtinV, load1, ldc, splice, minds, disj, rcOf, isCall, touchV, idsOf, mapId, touchB, p_buildSlice, buildSliceV, reps, fillV, p_convert, p_slice, evO, p_makeSlice, sid_some, soff_some, Nat.reduceLT, Nat.reduceLeDiff, Nat.reduceEqDiff, Nat.reduceAdd, Nat.reduceMul, Int.reduceBEq, Int.reduceEq, Int.reduceNeg, Int.reduceLT, Int.reduceLE, Int.reduceAdd, Int.reduceSub, Int.reduceMul, Int.reduceToNat, Int.reduceGT, Nat.reduceBEq, Nat.reducePow, Nat.reduceGT, reduceCtorEq, ↓reduceIte, t0, t3, t4, t5, t6, wrap_in, Int.natCast_add, Int.natCast_one, Int.natCast_zero]; try (first | assumption | with_reducible rfl)))
        exact ⟨stepM out x, a, o, co, by rw [hstl], gr7, hnext.symm, by omega⟩
  · have hp := hpos fun z hz => by rw [List.getElem?_eq_none (by omega)] at hz; cases hz
    have hkl : ¬ (k : Int) < (out.length : Int) := by omega
    simp -dsimp (disch := first | with_reducible assumption | omega | (intro h_; cases h_; done) | (simp only [LN] <;> omega) | (simp only [LF]; done) | (repeat (first | with_reducible assumption | apply Ext.refl | apply Ext.app | (apply Ext.set <;> omega) | (refine Ext.trans ?_ (by assumption))))) only [AX, TY, gV, dstOf, p_makeFunc, p_mapUpdate, mapPut, entsOf, p_lookup, p_extract, p_nilCheck, oneV, p_load, p_store, p_binOp, p_unOp, p_indexAddr, p_index, p_box, p_build, evParts, builtinV, load1, ldc, splice, minds, disj, rcOf, isCall, touchV, idsOf, mapId, touchB, p_buildSlice, buildSliceV, reps, fillV, p_convert, p_slice, evO, p_makeSlice, sid_some, soff_some, Nat.reduceLT, Nat.reduceLeDiff, Nat.reduceEqDiff, Nat.reduceAdd, Nat.reduceMul, Int.reduceBEq, Int.reduceEq, Int.reduceNeg, Int.reduceLT, Int.reduceLE, Int.reduceAdd, Int.reduceSub, Int.reduceMul, Int.reduceToNat, Int.reduceGT, Nat.reduceBEq, Nat.reducePow, Nat.reduceGT, reduceCtorEq, ↓reduceIte, t0, t3, t4, t5, t6]
    refine W.drawn [(0, []), (1, [0]), (2, [0]), (3, []), (4, []), (5, []), (6, [5]), (7, []), (8, []), (9, []), (10, [9, 8, 7, 6, 5]), (11, [9, 8, 7, 6, 5]), (12, []), (13, []), (14, [])] (by decide +kernel) ?_
    simp -dsimp (disch := first | with_reducible assumption | omega | (intro h_; cases h_; done) | (simp only [LN] <;> omega) | (simp only [LF]; done) | (repeat (first | with_reducible assumption | apply Ext.refl | apply Ext.app | (apply Ext.set <;> omega) | (refine Ext.trans ?_ (by assumption))))) only [AX, TY, gV, dstOf, p_makeFunc, p_mapUpdate, mapPut, entsOf, p_lookup, p_extract, p_nilCheck, oneV, p_load, p_store, p_binOp, p_unOp, p_indexAddr, p_index, p_box, p_build, evParts, builtinV, load1, ldc, splice, minds, disj, rcOf, isCall, touchV, idsOf, mapId, touchB, p_buildSlice, buildSliceV, reps, fillV, p_convert, p_slice, evO, p_makeSlice, sid_some, soff_some, Nat.reduceLT, Nat.reduceLeDiff, Nat.reduceEqDiff, Nat.reduceAdd, Nat.reduceMul, Int.reduceBEq, Int.reduceEq, Int.reduceNeg, Int.reduceLT, Int.reduceLE, Int.reduceAdd, Int.reduceSub, Int.reduceMul, Int.reduceToNat, Int.reduceGT, Nat.reduceBEq, Nat.reducePow, Nat.reduceGT, reduceCtorEq, ↓reduceIte, t0, t3, t4, t5, t6, hkl]
    refine W.drawn [(0, []), (1, [0]), (2, [0]), (3, []), (4, []), (5, []), (6, [5]), (7, []), (8, []), (9, []), (10, [9, 8, 7, 6, 5]), (11, [9, 8, 7, 6, 5]), (12, []), (13, []), (14, [])] (by decide +kernel) ?_
    simp -dsimp (disch := first | with_reducible assumption | omega | (intro h_; cases h_; done) | (simp only [LN] <;> omega) | (simp only [LF]; done) | (repeat (first | with_reducible assumption | apply Ext.refl | apply Ext.app | (apply Ext.set <;> omega) | (refine Ext.trans ?_ (by assumption))))) only [AX, TY, gV, dstOf, p_makeFunc, p_mapUpdate, mapPut, entsOf, p_lookup, p_extract, p_nilCheck, oneV, p_load, p_store, p_binOp, p_unOp, p_indexAddr, p_index, p_box, p_build, evParts, builtinV, load1, ldc, splice, minds, disj, rcOf, isCall, touchV, idsOf, mapId, touchB, p_buildSlice, buildSliceV, reps, fillV, p_convert, p_slice, evO, p_makeSlice, sid_some, soff_some, Nat.reduceLT, Nat.reduceLeDiff, Nat.reduceEqDiff, Nat.reduceAdd, Nat.reduceMul, Int.reduceBEq, Int.reduceEq, Int.reduceNeg, Int.reduceLT, Int.reduceLE, Int.reduceAdd, Int.reduceSub, Int.reduceMul, Int.reduceToNat, Int.reduceGT, Nat.reduceBEq, Nat.reducePow, Nat.reduceGT, reduceCtorEq, ↓reduceIte, t0, t3, t4, t5, t6, hkl]
    have hfnd : foundM out x = false := by unfold foundM; rw [hp, List.getElem?_eq_none (by omega)]
    have e0' := e
    have gr' := gr
    have gx' := gx
    have hleg := e0'.le
    have hag := gr'.lt rfl
    have hbx := lt_of_some gx'
    obtain ⟨hcut1, rs1⟩ := gr'.rs.hi (b := k) hk
    obtain ⟨p2, c2, hcut2, rs2⟩ := gr'.rs.lo (a := k) hk
    have ex1 : Ext hh' (hh' ++ [O.cells [] Kd.rw]) := (by (repeat (first | assumption | apply Ext.refl | apply Ext.app | (apply Ext.set <;> omega) | exact Ext.trans (by assumption) (by assumption) | (refine Ext.trans ?_ (by assumption)))))
    have hgE : (hh' ++ [O.cells [] Kd.rw])[(hh').length]? = some (O.cells [] Kd.rw) := snoc_last _ rfl
    obtain ⟨pn, cn, on, k2, hap1, gn, hon, hln, hkn⟩ := clone_app (bytes := 40) (b := (hh').length) (c := co) (rs1.sl.ext ex1) hgE (Nat.le_refl _) (fun y _ => rfl) (by rw [List.length_take]; omega)
    have htl : (out.take k).length = k := by rw [List.length_take]; omega
    have hdl : (out.drop k).length = out.length - k := List.length_drop ..
    rw [htl] at hap1
    have hl1 : (hh' ++ [O.cells [] Kd.rw]).length = (hh').length + 1 := by simp
    have keep2 : ∀ j, j < (hh').length → k2[j]? = (hh')[j]? := fun j hj => by rw [hkn j (by omega) (by omega), snoc_old _ hj]
    have e12 : Ext hh' k2 := Ext.of_keep keep2
    have le2 := e12.le
    have lx2 := loadN_fact (e12 _ _ gx')
    have e2b : Ext k2 (k2 ++ [O.cells x.enc Kd.rw]) := (by (repeat (first | assumption | apply Ext.refl | apply Ext.app | (apply Ext.set <;> omega) | exact Ext.trans (by assumption) (by assumption) | (refine Ext.trans ?_ (by assumption)))))
    have hl2 : (k2 ++ [O.cells x.enc Kd.rw]).length = k2.length + 1 := by simp
    obtain ⟨p5, c5, o5, k3, hap2, g5, ho5, hl5, hk5, hb5⟩ := (gn.ext e2b).push (y := x) (q := k2.length) (bytes := 40) (vc := some 1) (by omega) (snoc_last _ rfl) rfl rfl (by rw [htl]; omega) (by rw [htl]; omega)
    rw [htl] at hap2
    have e13 : Ext hh' k3 := (e12.trans e2b).below (Nat.le_refl _) hb5
    have hfr := (rs2.sl.ext e13).first c2 (Nat.le_refl _) (out.length - k)
    rw [← hdl, List.take_length] at hfr
    obtain ⟨p6, c6, o6, k4, hap3, g6, ho6, hl6, hk6, hb6⟩ := g5.append (zs := out.drop k) (n := (out.drop k).length) (bytes := 40) (x := .slice p2 (out.drop k).length c2) (by omega) rfl hfr (en_w _) (en_l _) (by simp only [List.length_append, List.length_take, List.length_drop, List.length_cons, List.length_nil]; omega) (by simp only [List.length_append, List.length_take, List.length_drop, List.length_cons, List.length_nil]; omega)
    have e14 : Ext h k4 := (e0'.trans e13).below e0'.le hb6
    have hl3 : (out.take k ++ [x]).length = k + 1 := by rw [List.length_append, htl]; rfl
    have hNN : out.take k ++ [x] ++ out.drop k = stepM out x := by rw [step_put hcn hfnd]; unfold putM; rw [hp]
    have hNl : (stepM out x).length = out.length + 1 := by rw [step_put hcn hfnd, put_length]
    rw [hNN] at g6 hap3
    rw [hl3, hdl, hNl] at hap3
    obtain ⟨a6, o6', rfl, rfl⟩ : ∃ a6 o6', o6 = some a6 ∧ p6 = some (a6, o6') := by
      have h1 : ∃ a, on = some a := by rcases hon with q | q <;> exact ⟨_, q⟩
      have h2 : ∃ a, o5 = some a := by
        rcases ho5 with q | q
        · rw [q]; exact h1
        · exact ⟨_, q⟩
      have h3 : ∃ a, o6 = some a := by
        rcases ho6 with q | q
        · rw [q]; exact h2
        · exact ⟨_, q⟩
      obtain ⟨a6, e6⟩ := h3
      obtain ⟨o6', e7⟩ := g6.isSome e6
      exact ⟨a6, o6', e6, e7⟩
    have m1 := fun x => gn.muts x (fun y => !y == hh.length) (fun id e => by have := gn.base id e; simp; omega)
    have m2 := fun x => g5.muts x (fun y => !y == hh.length) (fun id e => by have := g5.base id e; simp; omega)
    have m3 := fun x => gn.muts x (fun y => !y == a) (fun id e => by have := gn.base id e; simp; omega)
    have m4 := fun x => g5.muts x (fun y => !y == a) (fun id e => by have := g5.base id e; simp; omega)
    simp only [htl] at m1 m3
    simp only [hl3] at m2 m4
    simp only [En.enc] at hap2 lx2
    refine W.drawn [(0, []), (1, [0]), (2, [1, 0]), (3, [0]), (4, []), (5, [4, 3, 2, 1, 0]), (6, [4, 3, 2, 1, 0]), (7, []), (8, [7, 6, 5, 4, 3, 2, 1, 0]), (9, [8, 7, 6, 5, 4, 3, 2, 1, 0]), (10, [7, 6, 5, 4, 3, 2, 1, 0]), (11, []), (12, [])] (by decide +kernel) ?_
    simp -dsimp (disch := first | with_reducible assumption | omega | (intro h_; cases h_; done) | (simp only [LN] <;> omega) | (simp only [LF]; done) | (repeat (first | with_reducible assumption | apply Ext.refl | apply Ext.app | (apply Ext.set <;> omega) | (refine Ext.trans ?_ (by assumption))))) only [AX, TY, gV, dstOf, p_makeFunc, p_mapUpdate, mapPut, entsOf, p_lookup, p_extract, p_nilCheck, oneV, p_load, p_store, p_binOp, p_unOp, p_indexAddr, p_index, p_box, p_build, evParts, builtinV, load1, ldc, splice, minds, disj, rcOf, isCall, touchV, idsOf, mapId, touchB, p_buildSlice, buildSliceV, reps, fillV, p_convert, p_slice, evO, p_makeSlice, sid_some, soff_some, Nat.reduceLT, Nat.reduceLeDiff, Nat.reduceEqDiff, Nat.reduceAdd, Nat.reduceMul, Int.reduceBEq, Int.reduceEq, Int.reduceNeg, Int.reduceLT, Int.reduceLE, Int.reduceAdd, Int.reduceSub, Int.reduceMul, Int.reduceToNat, Int.reduceGT, Nat.reduceBEq, Nat.reducePow, Nat.reduceGT, reduceCtorEq, ↓reduceIte, t0, t3, t4, t5, t6, hcut1, hap1, lx2, hap2, hcut2, hap3, m1, m2, m3, m4, wrap_in]
    refine ⟨m - 1, by omega, i + 1, by omega, ?_⟩
    constructor <;> (try first | assumption | ((repeat (first | assumption | apply Ext.refl | apply Ext.app | (apply Ext.set <;> omega) | exact Ext.trans (by assumption) (by assumption) | (refine Ext.trans ?_ (by assumption)))); done) | (refine Sl.ext (by assumption) ?_; (repeat (first | assumption | apply Ext.refl | apply Ext.app | (apply Ext.set <;> omega) | exact Ext.trans (by assumption) (by assumption) | (refine Ext.trans ?_ (by assumption)))); done) | (simp -dsimp (disch := first | with_reducible assumption | omega | (intro h_; cases h_; done) | (simp only [LN] <;> omega) | (simp only [LF]; done) | (repeat (first | with_reducible assumption | apply Ext.refl | apply Ext.app | (apply Ext.set <;> omega) | (refine Ext.trans ?_ (by assumption))))) only [AX, TY, gV, dstOf, p_makeFunc, p_mapUpdate, mapPut, entsOf, p_lookup, p_extract, p_nilCheck, oneV, p_load, p_store, p_binOp, p_unOp, p_indexAddr, p_index, p_box, p_build, evParts, builtinV, load1, ldc, splice, minds, disj, rcOf, isCall, touchV, idsOf, mapId, touchB, p_buildSlice, buildSliceV, reps, fillV, p_convert, p_slice, evO, p_makeSlice, sid_some, soff_some, Nat.reduceLT, Nat.reduceLeDiff, Nat.reduceEqDiff, Nat.reduceAdd, Nat.reduceMul, Int.reduceBEq, Int.reduceEq, Int.reduceNeg, Int.reduceLT, Int.reduceLE, Int.reduceAdd, Int.reduceSub, Int.reduceMul, Int.reduceToNat, Int.reduceGT, Nat.reduceBEq, Nat.reducePow, Nat.reduceGT, reduceCtorEq, ↓reduceIte, t0, t3, t4, t5, t6, wrap_in, Int.natCast_add, Int.natCast_one, Int.natCast_zero]; try (first | assumption | with_reducible rfl)))
    exact ⟨stepM out x, a6, o6', c6, by rw [hNl], g6.weak hleg, hnext.symm, by omega⟩
theorem same29_ok {h : Heap} {p q : Option (Nat × Nat)} {c d : Option Nat} {x : List En} (hx : Sl h p 4 En.enc x) (hy : Sl h q 4 En.enc x) : WR (callE Try.prog hk 29 [.slice p x.length c, .slice q x.length d] h) fun r h' => h = h' ∧ r = .bool true := by
  have hnx := hx.nil'
  have hny := hy.nil'
  have hsx := hx.small
  refine WR.call (hH := rfl) Try.func29 rfl (n := 26) rfl rfl (by simp) ?_
  simp -dsimp (disch := first | with_reducible assumption | omega | (intro h_; cases h_; done) | (simp only [LN] <;> omega) | (simp only [LF]; done) | (repeat (first | with_reducible assumption | apply Ext.refl | apply Ext.app | (apply Ext.set <;> omega) | (refine Ext.trans ?_ (by assumption))))) only [AX, TY, gV, dstOf, p_makeFunc, p_mapUpdate, mapPut, entsOf, p_lookup, p_extract, p_nilCheck, oneV, p_load, p_store, p_binOp, p_unOp, p_indexAddr, p_index, p_box, p_build, evParts, builtinV, load1, ldc, splice, minds, disj, rcOf, isCall, touchV, idsOf, mapId, touchB, p_buildSlice, buildSliceV, reps, fillV, p_convert, p_slice, evO, p_makeSlice, sid_some, soff_some, Nat.reduceLT, Nat.reduceLeDiff, Nat.reduceEqDiff, Nat.reduceAdd, Nat.reduceMul, Int.reduceBEq, Int.reduceEq, Int.reduceNeg, Int.reduceLT, Int.reduceLE, Int.reduceAdd, Int.reduceSub, Int.reduceMul, Int.reduceToNat, Int.reduceGT, Nat.reduceBEq, Nat.reducePow, Nat.reduceGT, reduceCtorEq, ↓reduceIte]
  refine W.loop (fun m τ hh => h = hh ∧ ∃ i : Nat, m + i = x.length ∧ τ 0 = .slice p x.length c ∧ τ 1 = .slice q x.length d ∧ τ 5 = .int .i64 i) ?_ (m := x.length) ?_
  rotate_left
  · exact ⟨rfl, 0, by simp, rfl, rfl, rfl⟩
  rintro m τ _ ⟨rfl, i, hm, t0, t1, t5⟩
  by_cases h1 : (i : Int) < (x.length : Int)
  · have hi : i < x.length := by omega
    have l0 := fun hh e => hx.load0 (hh := hh) e hi (m := 4) (Nat.le_refl 4)
    have l1 := fun hh e => hy.load0 (hh := hh) e hi (m := 4) (Nat.le_refl 4)
    generalize x[i] = u at *
    simp only [En.enc] at l0 l1
    simp -dsimp (disch := first | with_reducible assumption | omega | (intro h_; cases h_; done) | (simp only [LN] <;> omega) | (simp only [LF]; done) | (repeat (first | with_reducible assumption | apply Ext.refl | apply Ext.app | (apply Ext.set <;> omega) | (refine Ext.trans ?_ (by assumption))))) only [AX, TY, gV, dstOf, p_makeFunc, p_mapUpdate, mapPut, entsOf, p_lookup, p_extract, p_nilCheck, oneV, p_load, p_store, p_binOp, p_unOp, p_indexAddr, p_index, p_box, p_build, evParts, builtinV, load1, ldc, splice, minds, disj, rcOf, isCall, touchV, idsOf, mapId, touchB, p_buildSlice, buildSliceV, reps, fillV, p_convert, p_slice, evO, p_makeSlice, sid_some, soff_some, Nat.reduceLT, Nat.reduceLeDiff, Nat.reduceEqDiff, Nat.reduceAdd, Nat.reduceMul, Int.reduceBEq, Int.reduceEq, Int.reduceNeg, Int.reduceLT, Int.reduceLE, Int.reduceAdd, Int.reduceSub, Int.reduceMul, Int.reduceToNat, Int.reduceGT, Nat.reduceBEq, Nat.reducePow, Nat.reduceGT, reduceCtorEq, ↓reduceIte, t0, t1, t5, h1]
    refine W.drawn [(0, []), (1, [0]), (2, []), (3, []), (4, [3, 2, 1, 0]), (5, [4, 3, 2, 1, 0]), (6, [3, 2, 1, 0]), (7, [3, 2, 1, 0]), (8, [])] (by decide +kernel) ?_
    simp -dsimp (disch := first | with_reducible assumption | omega | (intro h_; cases h_; done) | (simp only [LN] <;> omega) | (simp only [LF]; done) | (repeat (first | with_reducible assumption | apply Ext.refl | apply Ext.app | (apply Ext.set <;> omega) | (refine Ext.trans ?_ (by assumption))))) only [AX, TY, gV, dstOf, p_makeFunc, p_mapUpdate, mapPut, entsOf, p_lookup, p_extract, p_nilCheck, oneV, p_load, p_store, p_binOp, p_unOp, p_indexAddr, p_index, p_box, p_build, evParts, builtinV, load1, ldc, splice, minds, disj, rcOf, isCall, touchV, idsOf, mapId, touchB, p_buildSlice, buildSliceV, reps, fillV, p_convert, p_slice, evO, p_makeSlice, sid_some, soff_some, Nat.reduceLT, Nat.reduceLeDiff, Nat.reduceEqDiff, Nat.reduceAdd, Nat.reduceMul, Int.reduceBEq, Int.reduceEq, Int.reduceNeg, Int.reduceLT, Int.reduceLE, Int.reduceAdd, Int.reduceSub, Int.reduceMul, Int.reduceToNat, Int.reduceGT, Nat.reduceBEq, Nat.reducePow, Nat.reduceGT, reduceCtorEq, ↓reduceIte, t0, t1, t5, h1, l0, l1, neq_32, eqt_32, wrap_in]
    exact ⟨m - 1, by omega, i + 1, by omega, by simp⟩
  · simp -dsimp (disch := first | with_reducible assumption | omega | (intro h_; cases h_; done) | (simp only [LN] <;> omega) | (simp only [LF]; done) | (repeat (first | with_reducible assumption | apply Ext.refl | apply Ext.app | (apply Ext.set <;> omega) | (refine Ext.trans ?_ (by assumption))))) only [AX, TY, gV, dstOf, p_makeFunc, p_mapUpdate, mapPut, entsOf, p_lookup, p_extract, p_nilCheck, oneV, p_load, p_store, p_binOp, p_unOp, p_indexAddr, p_index, p_box, p_build, evParts, builtinV, load1, ldc, splice, minds, disj, rcOf, isCall, touchV, idsOf, mapId, touchB, p_buildSlice, buildSliceV, reps, fillV, p_convert, p_slice, evO, p_makeSlice, sid_some, soff_some, Nat.reduceLT, Nat.reduceLeDiff, Nat.reduceEqDiff, Nat.reduceAdd, Nat.reduceMul, Int.reduceBEq, Int.reduceEq, Int.reduceNeg, Int.reduceLT, Int.reduceLE, Int.reduceAdd, Int.reduceSub, Int.reduceMul, Int.reduceToNat, Int.reduceGT, Nat.reduceBEq, Nat.reducePow, Nat.reduceGT, reduceCtorEq, ↓reduceIte, t0, t1, t5, h1]
end Go.Proofs.YtagebnmealiedaaA
