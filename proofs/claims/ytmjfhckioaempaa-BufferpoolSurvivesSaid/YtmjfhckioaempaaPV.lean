/- Words of this session: chapter 16: few calls; awake; BufferpoolNews. Words of this session: chapter 16: BufferpoolNews, BufferpoolReads. Words of this session: chapter 16: BufferpoolReads. -/
import Derived.Test.YtmjfhckioaempaaPS
namespace Go.Proofs.YtmjfhckioaempaaA
open Go Go.Proofs Go.RowKit
set_option linter.unusedVariables false
set_option linter.unusedSimpArgs false
set_option maxRecDepth 10000
set_option maxHeartbeats 2000000
theorem few16_ok {h : Heap} {p : Option (Nat × Nat)} {c : Option Nat} {l : List Cl} (hs : Sl h p 4 Cl.enc l) (pages frames : Int) :
    WR (callE Try.prog hk 16 [.int .i64 pages, .int .i64 frames, .slice p l.length c] h) fun r h' => h = h' ∧ ∃ b, r = .bool b ∧ (b = true → 1 ≤ pages ∧ pages ≤ 6 ∧ 1 ≤ frames ∧ frames ≤ 8 ∧ l.length ≤ 30 ∧ ∀ c ∈ l, c.kind = 6 → 0 ≤ c.n ∧ c.n ≤ 2000) := by
  have hn := hs.nil'
  have hl := hs.small
  refine WR.call (hH := rfl) Try.func16 rfl (n := 55) rfl rfl (by simp) ?_
  simp -dsimp (disch := first | with_reducible assumption | omega | (intro h_; cases h_; done) | (simp only [LN] <;> omega) | (simp only [LF]; done) | (repeat (first | with_reducible assumption | apply Ext.refl | apply Ext.app | (apply Ext.set <;> omega) | (refine Ext.trans ?_ (by assumption))))) only [AX, TY, gV, dstOf, p_makeFunc, p_mapUpdate, mapPut, entsOf, p_lookup, p_extract, p_nilCheck, oneV, p_load, p_store, p_binOp, p_unOp, p_indexAddr, p_index, p_box, p_build, evParts, builtinV, load1, ldc, splice, minds, disj, rcOf, isCall, touchV, idsOf, mapId, touchB, p_buildSlice, buildSliceV, reps, fillV, p_convert, p_slice, evO, p_makeSlice, sid_some, soff_some, Nat.reduceLT, Nat.reduceLeDiff, Nat.reduceEqDiff, Nat.reduceAdd, Nat.reduceMul, Int.reduceBEq, Int.reduceEq, Int.reduceNeg, Int.reduceLT, Int.reduceLE, Int.reduceAdd, Int.reduceSub, Int.reduceMul, Int.reduceToNat, Int.reduceGT, Nat.reduceBEq, Nat.reducePow, Nat.reduceGT, reduceCtorEq, ↓reduceIte]
  refine W.loop (fun m τ hh => h = hh ∧ ∃ i : Nat, m + i = l.length ∧ τ 0 = .int .i64 pages ∧ τ 1 = .int .i64 frames ∧ τ 2 = .slice p l.length c ∧ τ 7 = .int .i64 i ∧ ∀ c ∈ l.take i, c.kind = 6 → 0 ≤ c.n ∧ c.n ≤ 2000) ?_ (m := l.length) ?_
  rotate_left
  · exact ⟨rfl, 0, by simp, rfl, rfl, rfl, rfl, by simp⟩
  rintro m τ _ ⟨rfl, i, hm, t0, t1, t2, t7, hall⟩
  by_cases h1 : (i : Int) < (l.length : Int)
  · have hi : i < l.length := by omega
    have hl0 := hs.load0 (.refl _) hi (m := 1) (by decide)
    have hl2 := hs.load (.refl _) hi (o := 2) (m := 1) (by decide)
    have htk := List.take_succ_eq_append_getElem hi
    generalize l[i] = x at hl0 hl2 htk
    simp only [Cl.enc, List.take, List.drop] at hl0 hl2
    by_cases c6 : x.kind = 6
    · by_cases c7 : x.n < 0
      · simp -dsimp (disch := first | with_reducible assumption | omega | (intro h_; cases h_; done) | (simp only [LN] <;> omega) | (simp only [LF]; done) | (repeat (first | with_reducible assumption | apply Ext.refl | apply Ext.app | (apply Ext.set <;> omega) | (refine Ext.trans ?_ (by assumption))))) only [AX, TY, gV, dstOf, p_makeFunc, p_mapUpdate, mapPut, entsOf, p_lookup, p_extract, p_nilCheck, oneV, p_load, p_store, p_binOp, p_unOp, p_indexAddr, p_index, p_box, p_build, evParts, builtinV, load1, ldc, splice, minds, disj, rcOf, isCall, touchV, idsOf, mapId, touchB, p_buildSlice, buildSliceV, reps, fillV, p_convert, p_slice, evO, p_makeSlice, sid_some, soff_some, Nat.reduceLT, Nat.reduceLeDiff, Nat.reduceEqDiff, Nat.reduceAdd, Nat.reduceMul, Int.reduceBEq, Int.reduceEq, Int.reduceNeg, Int.reduceLT, Int.reduceLE, Int.reduceAdd, Int.reduceSub, Int.reduceMul, Int.reduceToNat, Int.reduceGT, Nat.reduceBEq, Nat.reducePow, Nat.reduceGT, reduceCtorEq, ↓reduceIte, t0, t1, t2, t7, h1, hl0, hl2, eq_true c6, c7]
        exact ⟨false, rfl, by simp⟩
      · by_cases c8 : 2000 < x.n
        · simp -dsimp (disch := first | with_reducible assumption | omega | (intro h_; cases h_; done) | (simp only [LN] <;> omega) | (simp only [LF]; done) | (repeat (first | with_reducible assumption | apply Ext.refl | apply Ext.app | (apply Ext.set <;> omega) | (refine Ext.trans ?_ (by assumption))))) only [AX, TY, gV, dstOf, p_makeFunc, p_mapUpdate, mapPut, entsOf, p_lookup, p_extract, p_nilCheck, oneV, p_load, p_store, p_binOp, p_unOp, p_indexAddr, p_index, p_box, p_build, evParts, builtinV, load1, ldc, splice, minds, disj, rcOf, isCall, touchV, idsOf, mapId, touchB, p_buildSlice, buildSliceV, reps, fillV, p_convert, p_slice, evO, p_makeSlice, sid_some, soff_some, Nat.reduceLT, Nat.reduceLeDiff, Nat.reduceEqDiff, Nat.reduceAdd, Nat.reduceMul, Int.reduceBEq, Int.reduceEq, Int.reduceNeg, Int.reduceLT, Int.reduceLE, Int.reduceAdd, Int.reduceSub, Int.reduceMul, Int.reduceToNat, Int.reduceGT, Nat.reduceBEq, Nat.reducePow, Nat.reduceGT, reduceCtorEq, ↓reduceIte, t0, t1, t2, t7, h1, hl0, hl2, eq_true c6, c7, c8]
          exact ⟨false, rfl, by simp⟩
        · simp -dsimp (disch := first | with_reducible assumption | omega | (intro h_; cases h_; done) | (simp only [LN] <;> omega) | (simp only [LF]; done) | (repeat (first | with_reducible assumption | apply Ext.refl | apply Ext.app | (apply Ext.set <;> omega) | (refine Ext.trans ?_ (by assumption))))) only [AX, TY, gV, dstOf, p_makeFunc, p_mapUpdate, mapPut, entsOf, p_lookup, p_extract, p_nilCheck, oneV, p_load, p_store, p_binOp, p_unOp, p_indexAddr, p_index, p_box, p_build, evParts, builtinV, load1, ldc, splice, minds, disj, rcOf, isCall, touchV, idsOf, mapId, touchB, p_buildSlice, buildSliceV, reps, fillV, p_convert, p_slice, evO, p_makeSlice, sid_some, soff_some, Nat.reduceLT, Nat.reduceLeDiff, Nat.reduceEqDiff, Nat.reduceAdd, Nat.reduceMul, Int.reduceBEq, Int.reduceEq, Int.reduceNeg, Int.reduceLT, Int.reduceLE, Int.reduceAdd, Int.reduceSub, Int.reduceMul, Int.reduceToNat, Int.reduceGT, Nat.reduceBEq, Nat.reducePow, Nat.reduceGT, reduceCtorEq, ↓reduceIte, t0, t1, t2, t7, h1, hl0, hl2, eq_true c6, c7, c8, wrap_in]
          refine ⟨m - 1, by omega, i + 1, by omega, by simp, fun c hc => ?_⟩
          rw [htk] at hc
          rcases List.mem_append.1 hc with hc | hc
          · exact hall c hc
          · rw [List.mem_singleton] at hc
            subst hc; intro _; omega
    · simp -dsimp (disch := first | with_reducible assumption | omega | (intro h_; cases h_; done) | (simp only [LN] <;> omega) | (simp only [LF]; done) | (repeat (first | with_reducible assumption | apply Ext.refl | apply Ext.app | (apply Ext.set <;> omega) | (refine Ext.trans ?_ (by assumption))))) only [AX, TY, gV, dstOf, p_makeFunc, p_mapUpdate, mapPut, entsOf, p_lookup, p_extract, p_nilCheck, oneV, p_load, p_store, p_binOp, p_unOp, p_indexAddr, p_index, p_box, p_build, evParts, builtinV, load1, ldc, splice, minds, disj, rcOf, isCall, touchV, idsOf, mapId, touchB, p_buildSlice, buildSliceV, reps, fillV, p_convert, p_slice, evO, p_makeSlice, sid_some, soff_some, Nat.reduceLT, Nat.reduceLeDiff, Nat.reduceEqDiff, Nat.reduceAdd, Nat.reduceMul, Int.reduceBEq, Int.reduceEq, Int.reduceNeg, Int.reduceLT, Int.reduceLE, Int.reduceAdd, Int.reduceSub, Int.reduceMul, Int.reduceToNat, Int.reduceGT, Nat.reduceBEq, Nat.reducePow, Nat.reduceGT, reduceCtorEq, ↓reduceIte, t0, t1, t2, t7, h1, hl0, hl2, c6, wrap_in]
      refine ⟨m - 1, by omega, i + 1, by omega, by simp, fun c hc => ?_⟩
      rw [htk] at hc
      rcases List.mem_append.1 hc with hc | hc
      · exact hall c hc
      · rw [List.mem_singleton] at hc
        subst hc; intro q; exact absurd q c6
  rw [List.take_of_length_le (by omega)] at hall
  by_cases d1 : 1 ≤ pages
  rotate_left
  · simp -dsimp (disch := first | with_reducible assumption | omega | (intro h_; cases h_; done) | (simp only [LN] <;> omega) | (simp only [LF]; done) | (repeat (first | with_reducible assumption | apply Ext.refl | apply Ext.app | (apply Ext.set <;> omega) | (refine Ext.trans ?_ (by assumption))))) only [AX, TY, gV, dstOf, p_makeFunc, p_mapUpdate, mapPut, entsOf, p_lookup, p_extract, p_nilCheck, oneV, p_load, p_store, p_binOp, p_unOp, p_indexAddr, p_index, p_box, p_build, evParts, builtinV, load1, ldc, splice, minds, disj, rcOf, isCall, touchV, idsOf, mapId, touchB, p_buildSlice, buildSliceV, reps, fillV, p_convert, p_slice, evO, p_makeSlice, sid_some, soff_some, Nat.reduceLT, Nat.reduceLeDiff, Nat.reduceEqDiff, Nat.reduceAdd, Nat.reduceMul, Int.reduceBEq, Int.reduceEq, Int.reduceNeg, Int.reduceLT, Int.reduceLE, Int.reduceAdd, Int.reduceSub, Int.reduceMul, Int.reduceToNat, Int.reduceGT, Nat.reduceBEq, Nat.reducePow, Nat.reduceGT, reduceCtorEq, ↓reduceIte, t0, t1, t2, t7, h1, d1]
    exact ⟨false, rfl, by simp⟩
  by_cases d2 : pages ≤ 6
  rotate_left
  · simp -dsimp (disch := first | with_reducible assumption | omega | (intro h_; cases h_; done) | (simp only [LN] <;> omega) | (simp only [LF]; done) | (repeat (first | with_reducible assumption | apply Ext.refl | apply Ext.app | (apply Ext.set <;> omega) | (refine Ext.trans ?_ (by assumption))))) only [AX, TY, gV, dstOf, p_makeFunc, p_mapUpdate, mapPut, entsOf, p_lookup, p_extract, p_nilCheck, oneV, p_load, p_store, p_binOp, p_unOp, p_indexAddr, p_index, p_box, p_build, evParts, builtinV, load1, ldc, splice, minds, disj, rcOf, isCall, touchV, idsOf, mapId, touchB, p_buildSlice, buildSliceV, reps, fillV, p_convert, p_slice, evO, p_makeSlice, sid_some, soff_some, Nat.reduceLT, Nat.reduceLeDiff, Nat.reduceEqDiff, Nat.reduceAdd, Nat.reduceMul, Int.reduceBEq, Int.reduceEq, Int.reduceNeg, Int.reduceLT, Int.reduceLE, Int.reduceAdd, Int.reduceSub, Int.reduceMul, Int.reduceToNat, Int.reduceGT, Nat.reduceBEq, Nat.reducePow, Nat.reduceGT, reduceCtorEq, ↓reduceIte, t0, t1, t2, t7, h1, eq_true d1, d2]
    exact ⟨false, rfl, by simp⟩
  by_cases d3 : 1 ≤ frames
  rotate_left
  · simp -dsimp (disch := first | with_reducible assumption | omega | (intro h_; cases h_; done) | (simp only [LN] <;> omega) | (simp only [LF]; done) | (repeat (first | with_reducible assumption | apply Ext.refl | apply Ext.app | (apply Ext.set <;> omega) | (refine Ext.trans ?_ (by assumption))))) only [AX, TY, gV, dstOf, p_makeFunc, p_mapUpdate, mapPut, entsOf, p_lookup, p_extract, p_nilCheck, oneV, p_load, p_store, p_binOp, p_unOp, p_indexAddr, p_index, p_box, p_build, evParts, builtinV, load1, ldc, splice, minds, disj, rcOf, isCall, touchV, idsOf, mapId, touchB, p_buildSlice, buildSliceV, reps, fillV, p_convert, p_slice, evO, p_makeSlice, sid_some, soff_some, Nat.reduceLT, Nat.reduceLeDiff, Nat.reduceEqDiff, Nat.reduceAdd, Nat.reduceMul, Int.reduceBEq, Int.reduceEq, Int.reduceNeg, Int.reduceLT, Int.reduceLE, Int.reduceAdd, Int.reduceSub, Int.reduceMul, Int.reduceToNat, Int.reduceGT, Nat.reduceBEq, Nat.reducePow, Nat.reduceGT, reduceCtorEq, ↓reduceIte, t0, t1, t2, t7, h1, eq_true d1, eq_true d2, d3]
    exact ⟨false, rfl, by simp⟩
  by_cases d4 : frames ≤ 8
  rotate_left
  · simp -dsimp (disch := first | with_reducible assumption | omega | (intro h_; cases h_; done) | (simp only [LN] <;> omega) | (simp only [LF]; done) | (repeat (first | with_reducible assumption | apply Ext.refl | apply Ext.app | (apply Ext.set <;> omega) | (refine Ext.trans ?_ (by assumption))))) only [AX, TY, gV, dstOf, p_makeFunc, p_mapUpdate, mapPut, entsOf, p_lookup, p_extract, p_nilCheck, oneV, p_load, p_store, p_binOp, p_unOp, p_indexAddr, p_index, p_box, p_build, evParts, builtinV, load1, ldc, splice, minds, disj, rcOf, isCall, touchV, idsOf, mapId, touchB, p_buildSlice, buildSliceV, reps, fillV, p_convert, p_slice, evO, p_makeSlice, sid_some, soff_some, Nat.reduceLT, Nat.reduceLeDiff, Nat.reduceEqDiff, Nat.reduceAdd, Nat.reduceMul, Int.reduceBEq, Int.reduceEq, Int.reduceNeg, Int.reduceLT, Int.reduceLE, Int.reduceAdd, Int.reduceSub, Int.reduceMul, Int.reduceToNat, Int.reduceGT, Nat.reduceBEq, Nat.reducePow, Nat.reduceGT, reduceCtorEq, ↓reduceIte, t0, t1, t2, t7, h1, eq_true d1, eq_true d2, eq_true d3, d4]
    exact ⟨false, rfl, by simp⟩
  simp -dsimp (disch := first | with_reducible assumption | omega | (intro h_; cases h_; done) | (simp only [LN] <;> omega) | (simp only [LF]; done) | (repeat (first | with_reducible assumption | apply Ext.refl | apply Ext.app | (apply Ext.set <;> omega) | (refine Ext.trans ?_ (by assumption))))) only [AX, TY, gV, dstOf, p_makeFunc, p_mapUpdate, mapPut, entsOf, p_lookup, p_extract, p_nilCheck, oneV, p_load, p_store, p_binOp, p_unOp, p_indexAddr, p_index, p_box, p_build, evParts, builtinV, load1, ldc, splice, minds, disj, rcOf, isCall, touchV, idsOf, mapId, touchB, p_buildSlice, buildSliceV, reps, fillV, p_convert, p_slice, evO, p_makeSlice, sid_some, soff_some, Nat.reduceLT, Nat.reduceLeDiff, Nat.reduceEqDiff, Nat.reduceAdd, Nat.reduceMul, Int.reduceBEq, Int.reduceEq, Int.reduceNeg, Int.reduceLT, Int.reduceLE, Int.reduceAdd, Int.reduceSub, Int.reduceMul, Int.reduceToNat, Int.reduceGT, Nat.reduceBEq, Nat.reducePow, Nat.reduceGT, reduceCtorEq, ↓reduceIte, t0, t1, t2, t7, h1, eq_true d1, eq_true d2, eq_true d3, eq_true d4]
  exact ⟨_, rfl, fun q => ⟨by have := of_decide_eq_true q; omega, hall⟩⟩
theorem PIn.init {D : Dk} {pages n : Nat} (h1 : D.pend = []) (h2 : D.dur.length = pages * 1024) (h3 : pages ≤ 4096) (h4 : D.ctr = -1) (h5 : 1 ≤ n) (h8 : n ≤ 8) : PIn ⟨D, pages, List.replicate n emptyFr, 0, 0⟩ 0 := by
  refine ⟨h2, h3, by simp; omega, fun i hi => ?_, fun i j hi hj h0 => ?_, by rw [h1]; simp, ?_, by rw [h4]; decide, ⟨Int.le_refl _, Int.le_refl _⟩, by simp; omega, by decide⟩
  · simp only [List.getElem_replicate]
    exact ⟨by decide, by decide, .inl ⟨by decide, rfl, rfl⟩⟩
  · simp only [List.getElem_replicate] at h0
    exact absurd h0 (by decide)
  · rw [h1]
    unfold dirtyN
    rw [List.countP_replicate]; simp [emptyFr]
theorem WrO.go {D D1 : Dk} {off : Nat} {data : List Int} {e : Int} (h : WrO D off data D1 e) (hf : D.failed = false) (hc : D.ctr < 0) : e = 0 ∧ D1.failed = false ∧ D1.ctr < 0 := by
  unfold WrO at h
  rw [if_neg (by simp [hf]), if_neg (by omega)] at h
  obtain ⟨rfl, w, _, _, rfl⟩ := h
  refine ⟨rfl, rfl, ?_⟩
  show decr D.ctr < 0
  unfold decr; split <;> omega
/-- A page is loaded where the disk works and a frame is free. -/
theorem lo_room {S S' : Bp} {page : Nat} {r : V} {rs : Option (Option (Nat × Nat) × Option Nat × List Int)} (hf : S.D.failed = false) (hc : S.D.ctr < 0) (hr : ∃ f ∈ S.frames, f.pins = 0) (lo : LoO S page r S' rs) : rs ≠ none ∧ S'.D.failed = false ∧ S'.D.ctr < 0 := by
  rcases lo with ⟨h1, h2, _⟩ | ⟨j, hand, cl, D1, e, ch, hj, hwe, hq⟩
  · obtain ⟨f, hf1, hf2⟩ := hr
    exact absurd hf2 (h2 f hf1)
  · have hw : e = 0 ∧ D1.failed = false ∧ D1.ctr < 0 := by
      unfold WroE at hwe
      split at hwe
      · obtain ⟨off, _, wo⟩ := hwe
        exact wo.go hf hc
      · obtain ⟨rfl, rfl⟩ := hwe
        exact ⟨rfl, hf, hc⟩
    rcases hq with ⟨he, _⟩ | ⟨_, q, _⟩ | ⟨_, _, p, c, data, _, rfl, _, rfl⟩
    · exact absurd hw.1 he
    · rw [hw.2.1] at q; cases q
    · exact ⟨by simp, hw.2.1, hw.2.2⟩
theorem one_frame {fs fs' : List Fr} {f g : Fr} {j : Nat} (h : fs = [f]) (a : Agr fs fs' j) (hn : fs'[j]'(by rw [a.len]; exact a.jl) = g) : fs' = [g] := by
  have hj := a.jl
  have hl := a.len
  rw [h] at hj hl
  simp only [List.length_cons, List.length_nil, Nat.zero_add] at hj hl
  have hj0 : j = 0 := by omega
  subst hj0
  apply List.ext_getElem (by simp; omega)
  intro i h1 h2
  have hi : i = 0 := by simp at h2; omega
  subst hi
  simpa using hn
theorem awake_ok {h : Heap} : WR (callE Try.prog hk 12 [] h) fun r h' => r = .bool true := by
  refine WR.call (hH := rfl) Try.func12 rfl (n := 70) rfl rfl (by simp) ?_
  simp -dsimp (disch := first | with_reducible assumption | omega | (intro h_; cases h_; done) | (simp only [LN] <;> omega) | (simp only [LF]; done) | (repeat (first | with_reducible assumption | apply Ext.refl | apply Ext.app | (apply Ext.set <;> omega) | (refine Ext.trans ?_ (by assumption))))) only [AX, TY, gV, dstOf, p_makeFunc, p_mapUpdate, mapPut, entsOf, p_lookup, p_extract, p_nilCheck, oneV, p_load, p_store, p_binOp, p_unOp, p_indexAddr, p_index, p_box, p_build, evParts, builtinV, load1, ldc, splice, minds, disj, rcOf, isCall, touchV, idsOf, mapId, touchB, p_buildSlice, buildSliceV, reps, fillV, p_convert, p_slice, evO, p_makeSlice, sid_some, soff_some, Nat.reduceLT, Nat.reduceLeDiff, Nat.reduceEqDiff, Nat.reduceAdd, Nat.reduceMul, Int.reduceBEq, Int.reduceEq, Int.reduceNeg, Int.reduceLT, Int.reduceLE, Int.reduceAdd, Int.reduceSub, Int.reduceMul, Int.reduceToNat, Int.reduceGT, Nat.reduceBEq, Nat.reducePow, Nat.reduceGT, reduceCtorEq, ↓reduceIte]
  refine (newD_ok (b := h.length) (Nat.le_refl _) 3072 (by decide) (by decide)).mono ?_
  rintro _ h1 ⟨rfl, d1, e1⟩
  have hZl : (List.replicate 3072 (0 : Int)).length = 3072 := List.length_replicate
  generalize List.replicate 3072 (0 : Int) = Z at d1 hZl
  simp -dsimp (disch := first | with_reducible assumption | omega | (intro h_; cases h_; done) | (simp only [LN] <;> omega) | (simp only [LF]; done) | (repeat (first | with_reducible assumption | apply Ext.refl | apply Ext.app | (apply Ext.set <;> omega) | (refine Ext.trans ?_ (by assumption))))) only [AX, TY, gV, dstOf, p_makeFunc, p_mapUpdate, mapPut, entsOf, p_lookup, p_extract, p_nilCheck, oneV, p_load, p_store, p_binOp, p_unOp, p_indexAddr, p_index, p_box, p_build, evParts, builtinV, load1, ldc, splice, minds, disj, rcOf, isCall, touchV, idsOf, mapId, touchB, p_buildSlice, buildSliceV, reps, fillV, p_convert, p_slice, evO, p_makeSlice, sid_some, soff_some, Nat.reduceLT, Nat.reduceLeDiff, Nat.reduceEqDiff, Nat.reduceAdd, Nat.reduceMul, Int.reduceBEq, Int.reduceEq, Int.reduceNeg, Int.reduceLT, Int.reduceLE, Int.reduceAdd, Int.reduceSub, Int.reduceMul, Int.reduceToNat, Int.reduceGT, Nat.reduceBEq, Nat.reducePow, Nat.reduceGT, reduceCtorEq, ↓reduceIte]
  refine (newP_ok d1 1 (by decide) (by decide)).mono ?_
  rintro _ h2 ⟨rfl, d2, e2⟩
  have hlr : (Dk.mk Z [] (-1) false).dur.length / 1024 = 3 := by show Z.length / 1024 = 3; rw [hZl]
  rw [hlr] at d2
  generalize hI : (⟨h1.length + 1, h1.length, h.length + 1, h.length⟩ : Ids) = I at d2
  have hpi : h1.length + 1 = I.pi := by rw [← hI]
  rw [hpi]
  have v0 : PIn ⟨⟨Z, [], -1, false⟩, 3, List.replicate 1 emptyFr, 0, 0⟩ 0 := .init rfl (by rw [hZl]) (by decide) rfl (by decide) (by decide)
  simp -dsimp (disch := first | with_reducible assumption | omega | (intro h_; cases h_; done) | (simp only [LN] <;> omega) | (simp only [LF]; done) | (repeat (first | with_reducible assumption | apply Ext.refl | apply Ext.app | (apply Ext.set <;> omega) | (refine Ext.trans ?_ (by assumption))))) only [AX, TY, gV, dstOf, p_makeFunc, p_mapUpdate, mapPut, entsOf, p_lookup, p_extract, p_nilCheck, oneV, p_load, p_store, p_binOp, p_unOp, p_indexAddr, p_index, p_box, p_build, evParts, builtinV, load1, ldc, splice, minds, disj, rcOf, isCall, touchV, idsOf, mapId, touchB, p_buildSlice, buildSliceV, reps, fillV, p_convert, p_slice, evO, p_makeSlice, sid_some, soff_some, Nat.reduceLT, Nat.reduceLeDiff, Nat.reduceEqDiff, Nat.reduceAdd, Nat.reduceMul, Int.reduceBEq, Int.reduceEq, Int.reduceNeg, Int.reduceLT, Int.reduceLE, Int.reduceAdd, Int.reduceSub, Int.reduceMul, Int.reduceToNat, Int.reduceGT, Nat.reduceBEq, Nat.reducePow, Nat.reduceGT, reduceCtorEq, ↓reduceIte]
  refine (pin_ok d2 v0.okp 0).mono ?_
  rintro _ h3 ⟨S1, o1, e1', dd1, p1, c1, rfl, r1, d3, k3, _, _⟩
  have v1 := (pin_keeps v0 (by decide) r1)
  -- page 0 is loaded
  have q1 : e1' = 0 ∧ S1.D.failed = false ∧ S1.D.ctr < 0 ∧ S1.reads = 1 ∧ ∃ f, S1.frames = [f] ∧ f.page = 0 ∧ f.pins = 1 := by
    rcases r1 with ⟨h, _⟩ | ⟨_, _, i, hi, h, _⟩ | ⟨n, hn, hn2, hno, r, rs, lo, hq⟩
    · rcases h with h | h
      · omega
      · exact absurd h (show ¬ ((3 : Nat) : Int) ≤ 0 by decide)
    · exact absurd h (by simp [findF, findQ, emptyFr])
    · have hr := lo_room rfl (show (-1 : Int) < 0 by decide) ⟨emptyFr, by simp, rfl⟩ lo
      have hk := (lo_keeps v0 (by decide) hn2 (by rw [← hn]; exact hno) lo).2.2.2.2
      rcases hk with ⟨z, _⟩ | ⟨p, c, dd, rfl, _, hrd, _, _, j, a, hnew, _⟩
      · exact absurd z hr.1
      · have h1 := one_frame (f := emptyFr) rfl a hnew
        rcases hq with ⟨z, _⟩ | ⟨_, _, _, he⟩
        · cases z
        · exact ⟨he, hr.2.1, hr.2.2, hrd, _, h1, by show (n : Int) = 0; omega, rfl⟩
  obtain ⟨rfl, f1, c1', rd1, fr1, hfr1, pg1, pn1⟩ := q1
  simp -dsimp (disch := first | with_reducible assumption | omega | (intro h_; cases h_; done) | (simp only [LN] <;> omega) | (simp only [LF]; done) | (repeat (first | with_reducible assumption | apply Ext.refl | apply Ext.app | (apply Ext.set <;> omega) | (refine Ext.trans ?_ (by assumption))))) only [AX, TY, gV, dstOf, p_makeFunc, p_mapUpdate, mapPut, entsOf, p_lookup, p_extract, p_nilCheck, oneV, p_load, p_store, p_binOp, p_unOp, p_indexAddr, p_index, p_box, p_build, evParts, builtinV, load1, ldc, splice, minds, disj, rcOf, isCall, touchV, idsOf, mapId, touchB, p_buildSlice, buildSliceV, reps, fillV, p_convert, p_slice, evO, p_makeSlice, sid_some, soff_some, Nat.reduceLT, Nat.reduceLeDiff, Nat.reduceEqDiff, Nat.reduceAdd, Nat.reduceMul, Int.reduceBEq, Int.reduceEq, Int.reduceNeg, Int.reduceLT, Int.reduceLE, Int.reduceAdd, Int.reduceSub, Int.reduceMul, Int.reduceToNat, Int.reduceGT, Nat.reduceBEq, Nat.reducePow, Nat.reduceGT, reduceCtorEq, ↓reduceIte]
  refine (unpin_ok d3 0 fun f hf => (v1.1.okp.pins f hf).2).mono ?_
  rintro r h4 ⟨k4, q⟩
  have hpf : pinF 0 S1.frames = some 0 := by
    have hff : findF 0 S1.frames = some 0 := by rw [hfr1]; simp [findF, findQ, pg1]
    rw [pinF_find hff (by rw [hfr1]; simp)]
    simp only [hfr1, List.getElem_cons_zero, pn1]
    rfl
  have q2 : ∃ S2, r = .int .i64 0 ∧ UnR S1 0 S2 0 ∧ PAt h.length h4 I S2 o1 ∧ S2.D = S1.D ∧ S2.reads = 1 ∧ S2.pages = S1.pages ∧ S2.frames = [{ fr1 with pins := 0 }] := by
    rcases q with ⟨z, _⟩ | ⟨i, hi, z, rfl, d⟩
    · rw [hpf] at z; cases z
    · rw [hpf] at z; cases z
      refine ⟨_, rfl, .inr ⟨0, hi, hpf, rfl, rfl⟩, d, rfl, rd1, rfl, ?_⟩
      simp only [hfr1, List.getElem_cons_zero, List.set_cons_zero, pn1]
      rfl
  obtain ⟨S2, rfl, u2, d4, hD2, rd2, pg2, hfr2⟩ := q2
  have v2 := un_keeps v1.1 (by decide) u2
  have hp3 : S2.pages = 3 := by rw [pg2, v1.2.1]
  simp -dsimp (disch := first | with_reducible assumption | omega | (intro h_; cases h_; done) | (simp only [LN] <;> omega) | (simp only [LF]; done) | (repeat (first | with_reducible assumption | apply Ext.refl | apply Ext.app | (apply Ext.set <;> omega) | (refine Ext.trans ?_ (by assumption))))) only [AX, TY, gV, dstOf, p_makeFunc, p_mapUpdate, mapPut, entsOf, p_lookup, p_extract, p_nilCheck, oneV, p_load, p_store, p_binOp, p_unOp, p_indexAddr, p_index, p_box, p_build, evParts, builtinV, load1, ldc, splice, minds, disj, rcOf, isCall, touchV, idsOf, mapId, touchB, p_buildSlice, buildSliceV, reps, fillV, p_convert, p_slice, evO, p_makeSlice, sid_some, soff_some, Nat.reduceLT, Nat.reduceLeDiff, Nat.reduceEqDiff, Nat.reduceAdd, Nat.reduceMul, Int.reduceBEq, Int.reduceEq, Int.reduceNeg, Int.reduceLT, Int.reduceLE, Int.reduceAdd, Int.reduceSub, Int.reduceMul, Int.reduceToNat, Int.reduceGT, Nat.reduceBEq, Nat.reducePow, Nat.reduceGT, reduceCtorEq, ↓reduceIte]
  refine (pin_ok d4 v2.1.okp 1).mono ?_
  rintro _ h5 ⟨S3, o3, e3', dd3, p3, c3, rfl, r3, d5, k5, _, _⟩
  have v3 := pin_keeps v2.1 (by decide) r3
  have q3 : e3' = 0 ∧ S3.reads = 2 ∧ ∃ f, S3.frames = [f] ∧ f.page = 1 ∧ f.pins = 1 := by
    rcases r3 with ⟨h, _⟩ | ⟨_, _, i, hi, h, _⟩ | ⟨n, hn, hn2, hno, r, rs, lo, hq⟩
    · rw [hp3] at h; omega
    · rw [hfr2] at h; exact absurd h (by simp [findF, findQ, pg1])
    · have hr := lo_room (by rw [hD2]; exact f1) (by rw [hD2]; exact c1') ⟨_, by rw [hfr2]; exact List.mem_singleton.2 rfl, rfl⟩ lo
      have hk := (lo_keeps v2.1 (by decide) hn2 (by rw [← hn]; exact hno) lo).2.2.2.2
      rcases hk with ⟨z, _⟩ | ⟨p, c, dd, rfl, _, hrd, _, _, j, a, hnew, _⟩
      · exact absurd z hr.1
      · have h1 := one_frame hfr2 a hnew
        rcases hq with ⟨z, _⟩ | ⟨_, _, _, he⟩
        · cases z
        · exact ⟨he, by rw [hrd, rd2]; rfl, _, h1, by show (n : Int) = 1; omega, rfl⟩
  obtain ⟨rfl, rd3, fr3, hfr3, pg3, pn3⟩ := q3
  have hp4 : S3.pages = 3 := by rw [v3.2.1, hp3]
  simp -dsimp (disch := first | with_reducible assumption | omega | (intro h_; cases h_; done) | (simp only [LN] <;> omega) | (simp only [LF]; done) | (repeat (first | with_reducible assumption | apply Ext.refl | apply Ext.app | (apply Ext.set <;> omega) | (refine Ext.trans ?_ (by assumption))))) only [AX, TY, gV, dstOf, p_makeFunc, p_mapUpdate, mapPut, entsOf, p_lookup, p_extract, p_nilCheck, oneV, p_load, p_store, p_binOp, p_unOp, p_indexAddr, p_index, p_box, p_build, evParts, builtinV, load1, ldc, splice, minds, disj, rcOf, isCall, touchV, idsOf, mapId, touchB, p_buildSlice, buildSliceV, reps, fillV, p_convert, p_slice, evO, p_makeSlice, sid_some, soff_some, Nat.reduceLT, Nat.reduceLeDiff, Nat.reduceEqDiff, Nat.reduceAdd, Nat.reduceMul, Int.reduceBEq, Int.reduceEq, Int.reduceNeg, Int.reduceLT, Int.reduceLE, Int.reduceAdd, Int.reduceSub, Int.reduceMul, Int.reduceToNat, Int.reduceGT, Nat.reduceBEq, Nat.reducePow, Nat.reduceGT, reduceCtorEq, ↓reduceIte]
  refine (pin_ok d5 v3.1.okp 2).mono ?_
  rintro _ h6 ⟨S4, o4, e4', dd4, p4, c4, rfl, r4, d6, k6, _, _⟩
  have v4 := pin_keeps v3.1 (by decide) r4
  have q4 : e4' = 9 ∧ S4 = S3 := by
    rcases r4 with ⟨h, _⟩ | ⟨_, _, i, hi, h, _⟩ | ⟨n, hn, hn2, hno, r, rs, lo, hq⟩
    · rw [hp4] at h; omega
    · rw [hfr3] at h; exact absurd h (by simp [findF, findQ, pg3])
    · rcases lo with ⟨h1, h2, rfl, rfl, rfl⟩ | ⟨j, hand, cl, D1, e, ch, hj, hwe, hz⟩
      · rcases hq with ⟨_, _, _, z⟩ | ⟨_, _, z, _⟩
        · simp only [V.tuple.injEq, List.cons.injEq, V.int.injEq, true_and, and_true] at z
          exact ⟨z.symm, rfl⟩
        · cases z
      · rcases ch with ⟨h1, _⟩ | ⟨_, t, vic, hjt, _⟩
        · rw [hfr3] at h1
          exact absurd h1 (by simp [emptyQ, pg3])
        · have := vic.stop.1
          have hl : S3.frames.length = 1 := by rw [hfr3]; rfl
          have hx0 : hx S3.frames.length S3.hand t = 0 := by rw [hl]; unfold hx; exact Nat.mod_one _
          rw [hx0] at this
          unfold pinsAt at this
          rw [hfr3] at this
          simp [pn3] at this
  obtain ⟨rfl, rfl⟩ := q4
  simp -dsimp (disch := first | with_reducible assumption | omega | (intro h_; cases h_; done) | (simp only [LN] <;> omega) | (simp only [LF]; done) | (repeat (first | with_reducible assumption | apply Ext.refl | apply Ext.app | (apply Ext.set <;> omega) | (refine Ext.trans ?_ (by assumption))))) only [AX, TY, gV, dstOf, p_makeFunc, p_mapUpdate, mapPut, entsOf, p_lookup, p_extract, p_nilCheck, oneV, p_load, p_store, p_binOp, p_unOp, p_indexAddr, p_index, p_box, p_build, evParts, builtinV, load1, ldc, splice, minds, disj, rcOf, isCall, touchV, idsOf, mapId, touchB, p_buildSlice, buildSliceV, reps, fillV, p_convert, p_slice, evO, p_makeSlice, sid_some, soff_some, Nat.reduceLT, Nat.reduceLeDiff, Nat.reduceEqDiff, Nat.reduceAdd, Nat.reduceMul, Int.reduceBEq, Int.reduceEq, Int.reduceNeg, Int.reduceLT, Int.reduceLE, Int.reduceAdd, Int.reduceSub, Int.reduceMul, Int.reduceToNat, Int.reduceGT, Nat.reduceBEq, Nat.reducePow, Nat.reduceGT, reduceCtorEq, ↓reduceIte]
  refine (cached_ok d6 (v3.1.lst _)).mono ?_
  rintro _ h7 ⟨e7, p7, c7, zs, rfl, sl7, _, hp7, _⟩
  have hzs : zs = [1] := by
    have : lstP (fun _ => true) S4.frames = [1] := by rw [hfr3]; simp [lstP, lstQ, pg3]
    rw [this] at hp7
    exact List.perm_singleton.1 hp7
  subst hzs
  have d7 := d6.ext e7
  have d8 := d7.ext (hh := h7 ++ [O.cells [V.int .i64 1] .rw]) (by (repeat (first | assumption | apply Ext.refl | apply Ext.app | (apply Ext.set <;> omega) | exact Ext.trans (by assumption) (by assumption) | (refine Ext.trans ?_ (by assumption)))))
  have hin := ints_ok (c := c7) (d := some 1) (sl7.ext (hh := h7 ++ [O.cells [V.int .i64 1] .rw]) (by (repeat (first | assumption | apply Ext.refl | apply Ext.app | (apply Ext.set <;> omega) | exact Ext.trans (by assumption) (by assumption) | (refine Ext.trans ?_ (by assumption)))))) (Sl.whole (enc := ei) (ys := [1]) (snoc_last (h := h7) (O.cells [V.int .i64 1] .rw) rfl) (by simp [ei]) rfl (by simp))
  simp only [List.length_cons, List.length_nil, Nat.zero_add] at hin
  simp -dsimp (disch := first | with_reducible assumption | omega | (intro h_; cases h_; done) | (simp only [LN] <;> omega) | (simp only [LF]; done) | (repeat (first | with_reducible assumption | apply Ext.refl | apply Ext.app | (apply Ext.set <;> omega) | (refine Ext.trans ?_ (by assumption))))) only [AX, TY, gV, dstOf, p_makeFunc, p_mapUpdate, mapPut, entsOf, p_lookup, p_extract, p_nilCheck, oneV, p_load, p_store, p_binOp, p_unOp, p_indexAddr, p_index, p_box, p_build, evParts, builtinV, load1, ldc, splice, minds, disj, rcOf, isCall, touchV, idsOf, mapId, touchB, p_buildSlice, buildSliceV, reps, fillV, p_convert, p_slice, evO, p_makeSlice, sid_some, soff_some, Nat.reduceLT, Nat.reduceLeDiff, Nat.reduceEqDiff, Nat.reduceAdd, Nat.reduceMul, Int.reduceBEq, Int.reduceEq, Int.reduceNeg, Int.reduceLT, Int.reduceLE, Int.reduceAdd, Int.reduceSub, Int.reduceMul, Int.reduceToNat, Int.reduceGT, Nat.reduceBEq, Nat.reducePow, Nat.reduceGT, reduceCtorEq, ↓reduceIte]
  refine hin.mono ?_
  rintro _ _ ⟨rfl, rfl⟩
  simp -dsimp (disch := first | with_reducible assumption | omega | (intro h_; cases h_; done) | (simp only [LN] <;> omega) | (simp only [LF]; done) | (repeat (first | with_reducible assumption | apply Ext.refl | apply Ext.app | (apply Ext.set <;> omega) | (refine Ext.trans ?_ (by assumption))))) only [AX, TY, gV, dstOf, p_makeFunc, p_mapUpdate, mapPut, entsOf, p_lookup, p_extract, p_nilCheck, oneV, p_load, p_store, p_binOp, p_unOp, p_indexAddr, p_index, p_box, p_build, evParts, builtinV, load1, ldc, splice, minds, disj, rcOf, isCall, touchV, idsOf, mapId, touchB, p_buildSlice, buildSliceV, reps, fillV, p_convert, p_slice, evO, p_makeSlice, sid_some, soff_some, Nat.reduceLT, Nat.reduceLeDiff, Nat.reduceEqDiff, Nat.reduceAdd, Nat.reduceMul, Int.reduceBEq, Int.reduceEq, Int.reduceNeg, Int.reduceLT, Int.reduceLE, Int.reduceAdd, Int.reduceSub, Int.reduceMul, Int.reduceToNat, Int.reduceGT, Nat.reduceBEq, Nat.reducePow, Nat.reduceGT, reduceCtorEq, ↓reduceIte]
  refine (reads_ok d8).mono ?_
  rintro _ _ ⟨rfl, rfl⟩
  rw [rd3]
  simp -dsimp (disch := first | with_reducible assumption | omega | (intro h_; cases h_; done) | (simp only [LN] <;> omega) | (simp only [LF]; done) | (repeat (first | with_reducible assumption | apply Ext.refl | apply Ext.app | (apply Ext.set <;> omega) | (refine Ext.trans ?_ (by assumption))))) only [AX, TY, gV, dstOf, p_makeFunc, p_mapUpdate, mapPut, entsOf, p_lookup, p_extract, p_nilCheck, oneV, p_load, p_store, p_binOp, p_unOp, p_indexAddr, p_index, p_box, p_build, evParts, builtinV, load1, ldc, splice, minds, disj, rcOf, isCall, touchV, idsOf, mapId, touchB, p_buildSlice, buildSliceV, reps, fillV, p_convert, p_slice, evO, p_makeSlice, sid_some, soff_some, Nat.reduceLT, Nat.reduceLeDiff, Nat.reduceEqDiff, Nat.reduceAdd, Nat.reduceMul, Int.reduceBEq, Int.reduceEq, Int.reduceNeg, Int.reduceLT, Int.reduceLE, Int.reduceAdd, Int.reduceSub, Int.reduceMul, Int.reduceToNat, Int.reduceGT, Nat.reduceBEq, Nat.reducePow, Nat.reduceGT, reduceCtorEq, ↓reduceIte]
end Go.Proofs.YtmjfhckioaempaaA
namespace Go.Proofs.YtmjfhckioaempaaA
open Go Go.Proofs Go.RowKit
set_option linter.unusedVariables false
set_option linter.unusedSimpArgs false
set_option maxRecDepth 10000
set_option maxHeartbeats 2000000
theorem newP_err {h : Heap} {x : V} (n : Int) (hn : n < 1 ∨ 4096 < n) : WR (callE Try.prog hk 11 [x, .int .i64 n] h) fun r h' => h = h' ∧ r = .tuple [.ptr none, .int .i64 2] := by
  refine WR.call (hH := rfl) Try.func11 rfl (n := 39) rfl rfl (by simp) ?_
  by_cases c1 : n < 1
  · simp -dsimp (disch := first | with_reducible assumption | omega | (intro h_; cases h_; done) | (simp only [LN] <;> omega) | (simp only [LF]; done) | (repeat (first | with_reducible assumption | apply Ext.refl | apply Ext.app | (apply Ext.set <;> omega) | (refine Ext.trans ?_ (by assumption))))) only [AX, TY, gV, dstOf, p_makeFunc, p_mapUpdate, mapPut, entsOf, p_lookup, p_extract, p_nilCheck, oneV, p_load, p_store, p_binOp, p_unOp, p_indexAddr, p_index, p_box, p_build, evParts, builtinV, load1, ldc, splice, minds, disj, rcOf, isCall, touchV, idsOf, mapId, touchB, p_buildSlice, buildSliceV, reps, fillV, p_convert, p_slice, evO, p_makeSlice, sid_some, soff_some, Nat.reduceLT, Nat.reduceLeDiff, Nat.reduceEqDiff, Nat.reduceAdd, Nat.reduceMul, Int.reduceBEq, Int.reduceEq, Int.reduceNeg, Int.reduceLT, Int.reduceLE, Int.reduceAdd, Int.reduceSub, Int.reduceMul, Int.reduceToNat, Int.reduceGT, Nat.reduceBEq, Nat.reducePow, Nat.reduceGT, reduceCtorEq, ↓reduceIte, c1]
  · have c2 : 4096 < n := by omega
    simp -dsimp (disch := first | with_reducible assumption | omega | (intro h_; cases h_; done) | (simp only [LN] <;> omega) | (simp only [LF]; done) | (repeat (first | with_reducible assumption | apply Ext.refl | apply Ext.app | (apply Ext.set <;> omega) | (refine Ext.trans ?_ (by assumption))))) only [AX, TY, gV, dstOf, p_makeFunc, p_mapUpdate, mapPut, entsOf, p_lookup, p_extract, p_nilCheck, oneV, p_load, p_store, p_binOp, p_unOp, p_indexAddr, p_index, p_box, p_build, evParts, builtinV, load1, ldc, splice, minds, disj, rcOf, isCall, touchV, idsOf, mapId, touchB, p_buildSlice, buildSliceV, reps, fillV, p_convert, p_slice, evO, p_makeSlice, sid_some, soff_some, Nat.reduceLT, Nat.reduceLeDiff, Nat.reduceEqDiff, Nat.reduceAdd, Nat.reduceMul, Int.reduceBEq, Int.reduceEq, Int.reduceNeg, Int.reduceLT, Int.reduceLE, Int.reduceAdd, Int.reduceSub, Int.reduceMul, Int.reduceToNat, Int.reduceGT, Nat.reduceBEq, Nat.reducePow, Nat.reduceGT, reduceCtorEq, ↓reduceIte, c1, c2]
theorem law3_ok {h : Heap} (n : Int) : WR (callE Try.prog hk 3 [.int .i64 n] h) fun r h' => r = .bool true := by
  refine WR.call (hH := rfl) Try.func3 rfl (n := 59) rfl rfl (by simp) ?_
  simp -dsimp (disch := first | with_reducible assumption | omega | (intro h_; cases h_; done) | (simp only [LN] <;> omega) | (simp only [LF]; done) | (repeat (first | with_reducible assumption | apply Ext.refl | apply Ext.app | (apply Ext.set <;> omega) | (refine Ext.trans ?_ (by assumption))))) only [AX, TY, gV, dstOf, p_makeFunc, p_mapUpdate, mapPut, entsOf, p_lookup, p_extract, p_nilCheck, oneV, p_load, p_store, p_binOp, p_unOp, p_indexAddr, p_index, p_box, p_build, evParts, builtinV, load1, ldc, splice, minds, disj, rcOf, isCall, touchV, idsOf, mapId, touchB, p_buildSlice, buildSliceV, reps, fillV, p_convert, p_slice, evO, p_makeSlice, sid_some, soff_some, Nat.reduceLT, Nat.reduceLeDiff, Nat.reduceEqDiff, Nat.reduceAdd, Nat.reduceMul, Int.reduceBEq, Int.reduceEq, Int.reduceNeg, Int.reduceLT, Int.reduceLE, Int.reduceAdd, Int.reduceSub, Int.reduceMul, Int.reduceToNat, Int.reduceGT, Nat.reduceBEq, Nat.reducePow, Nat.reduceGT, reduceCtorEq, ↓reduceIte]
  refine (newD_ok (b := h.length) (Nat.le_refl _) 1024 (by decide) (by decide)).mono ?_
  rintro _ h1 ⟨rfl, d1, e1⟩
  have hZl : (List.replicate 1024 (0 : Int)).length = 1024 := List.length_replicate
  generalize List.replicate 1024 (0 : Int) = Z at d1 hZl
  by_cases c1 : n < 1
  · simp -dsimp (disch := first | with_reducible assumption | omega | (intro h_; cases h_; done) | (simp only [LN] <;> omega) | (simp only [LF]; done) | (repeat (first | with_reducible assumption | apply Ext.refl | apply Ext.app | (apply Ext.set <;> omega) | (refine Ext.trans ?_ (by assumption))))) only [AX, TY, gV, dstOf, p_makeFunc, p_mapUpdate, mapPut, entsOf, p_lookup, p_extract, p_nilCheck, oneV, p_load, p_store, p_binOp, p_unOp, p_indexAddr, p_index, p_box, p_build, evParts, builtinV, load1, ldc, splice, minds, disj, rcOf, isCall, touchV, idsOf, mapId, touchB, p_buildSlice, buildSliceV, reps, fillV, p_convert, p_slice, evO, p_makeSlice, sid_some, soff_some, Nat.reduceLT, Nat.reduceLeDiff, Nat.reduceEqDiff, Nat.reduceAdd, Nat.reduceMul, Int.reduceBEq, Int.reduceEq, Int.reduceNeg, Int.reduceLT, Int.reduceLE, Int.reduceAdd, Int.reduceSub, Int.reduceMul, Int.reduceToNat, Int.reduceGT, Nat.reduceBEq, Nat.reducePow, Nat.reduceGT, reduceCtorEq, ↓reduceIte]
    refine (newP_err n (.inl c1)).mono ?_
    rintro _ _ ⟨rfl, rfl⟩
    simp -dsimp (disch := first | with_reducible assumption | omega | (intro h_; cases h_; done) | (simp only [LN] <;> omega) | (simp only [LF]; done) | (repeat (first | with_reducible assumption | apply Ext.refl | apply Ext.app | (apply Ext.set <;> omega) | (refine Ext.trans ?_ (by assumption))))) only [AX, TY, gV, dstOf, p_makeFunc, p_mapUpdate, mapPut, entsOf, p_lookup, p_extract, p_nilCheck, oneV, p_load, p_store, p_binOp, p_unOp, p_indexAddr, p_index, p_box, p_build, evParts, builtinV, load1, ldc, splice, minds, disj, rcOf, isCall, touchV, idsOf, mapId, touchB, p_buildSlice, buildSliceV, reps, fillV, p_convert, p_slice, evO, p_makeSlice, sid_some, soff_some, Nat.reduceLT, Nat.reduceLeDiff, Nat.reduceEqDiff, Nat.reduceAdd, Nat.reduceMul, Int.reduceBEq, Int.reduceEq, Int.reduceNeg, Int.reduceLT, Int.reduceLE, Int.reduceAdd, Int.reduceSub, Int.reduceMul, Int.reduceToNat, Int.reduceGT, Nat.reduceBEq, Nat.reducePow, Nat.reduceGT, reduceCtorEq, ↓reduceIte, c1]
    refine awake_ok.mono ?_
    rintro _ h3 rfl
    simp -dsimp (disch := first | with_reducible assumption | omega | (intro h_; cases h_; done) | (simp only [LN] <;> omega) | (simp only [LF]; done) | (repeat (first | with_reducible assumption | apply Ext.refl | apply Ext.app | (apply Ext.set <;> omega) | (refine Ext.trans ?_ (by assumption))))) only [AX, TY, gV, dstOf, p_makeFunc, p_mapUpdate, mapPut, entsOf, p_lookup, p_extract, p_nilCheck, oneV, p_load, p_store, p_binOp, p_unOp, p_indexAddr, p_index, p_box, p_build, evParts, builtinV, load1, ldc, splice, minds, disj, rcOf, isCall, touchV, idsOf, mapId, touchB, p_buildSlice, buildSliceV, reps, fillV, p_convert, p_slice, evO, p_makeSlice, sid_some, soff_some, Nat.reduceLT, Nat.reduceLeDiff, Nat.reduceEqDiff, Nat.reduceAdd, Nat.reduceMul, Int.reduceBEq, Int.reduceEq, Int.reduceNeg, Int.reduceLT, Int.reduceLE, Int.reduceAdd, Int.reduceSub, Int.reduceMul, Int.reduceToNat, Int.reduceGT, Nat.reduceBEq, Nat.reducePow, Nat.reduceGT, reduceCtorEq, ↓reduceIte]
  by_cases c2 : 4096 < n
  · simp -dsimp (disch := first | with_reducible assumption | omega | (intro h_; cases h_; done) | (simp only [LN] <;> omega) | (simp only [LF]; done) | (repeat (first | with_reducible assumption | apply Ext.refl | apply Ext.app | (apply Ext.set <;> omega) | (refine Ext.trans ?_ (by assumption))))) only [AX, TY, gV, dstOf, p_makeFunc, p_mapUpdate, mapPut, entsOf, p_lookup, p_extract, p_nilCheck, oneV, p_load, p_store, p_binOp, p_unOp, p_indexAddr, p_index, p_box, p_build, evParts, builtinV, load1, ldc, splice, minds, disj, rcOf, isCall, touchV, idsOf, mapId, touchB, p_buildSlice, buildSliceV, reps, fillV, p_convert, p_slice, evO, p_makeSlice, sid_some, soff_some, Nat.reduceLT, Nat.reduceLeDiff, Nat.reduceEqDiff, Nat.reduceAdd, Nat.reduceMul, Int.reduceBEq, Int.reduceEq, Int.reduceNeg, Int.reduceLT, Int.reduceLE, Int.reduceAdd, Int.reduceSub, Int.reduceMul, Int.reduceToNat, Int.reduceGT, Nat.reduceBEq, Nat.reducePow, Nat.reduceGT, reduceCtorEq, ↓reduceIte]
    refine (newP_err n (.inr c2)).mono ?_
    rintro _ _ ⟨rfl, rfl⟩
    simp -dsimp (disch := first | with_reducible assumption | omega | (intro h_; cases h_; done) | (simp only [LN] <;> omega) | (simp only [LF]; done) | (repeat (first | with_reducible assumption | apply Ext.refl | apply Ext.app | (apply Ext.set <;> omega) | (refine Ext.trans ?_ (by assumption))))) only [AX, TY, gV, dstOf, p_makeFunc, p_mapUpdate, mapPut, entsOf, p_lookup, p_extract, p_nilCheck, oneV, p_load, p_store, p_binOp, p_unOp, p_indexAddr, p_index, p_box, p_build, evParts, builtinV, load1, ldc, splice, minds, disj, rcOf, isCall, touchV, idsOf, mapId, touchB, p_buildSlice, buildSliceV, reps, fillV, p_convert, p_slice, evO, p_makeSlice, sid_some, soff_some, Nat.reduceLT, Nat.reduceLeDiff, Nat.reduceEqDiff, Nat.reduceAdd, Nat.reduceMul, Int.reduceBEq, Int.reduceEq, Int.reduceNeg, Int.reduceLT, Int.reduceLE, Int.reduceAdd, Int.reduceSub, Int.reduceMul, Int.reduceToNat, Int.reduceGT, Nat.reduceBEq, Nat.reducePow, Nat.reduceGT, reduceCtorEq, ↓reduceIte, c1, c2]
    refine awake_ok.mono ?_
    rintro _ h3 rfl
    simp -dsimp (disch := first | with_reducible assumption | omega | (intro h_; cases h_; done) | (simp only [LN] <;> omega) | (simp only [LF]; done) | (repeat (first | with_reducible assumption | apply Ext.refl | apply Ext.app | (apply Ext.set <;> omega) | (refine Ext.trans ?_ (by assumption))))) only [AX, TY, gV, dstOf, p_makeFunc, p_mapUpdate, mapPut, entsOf, p_lookup, p_extract, p_nilCheck, oneV, p_load, p_store, p_binOp, p_unOp, p_indexAddr, p_index, p_box, p_build, evParts, builtinV, load1, ldc, splice, minds, disj, rcOf, isCall, touchV, idsOf, mapId, touchB, p_buildSlice, buildSliceV, reps, fillV, p_convert, p_slice, evO, p_makeSlice, sid_some, soff_some, Nat.reduceLT, Nat.reduceLeDiff, Nat.reduceEqDiff, Nat.reduceAdd, Nat.reduceMul, Int.reduceBEq, Int.reduceEq, Int.reduceNeg, Int.reduceLT, Int.reduceLE, Int.reduceAdd, Int.reduceSub, Int.reduceMul, Int.reduceToNat, Int.reduceGT, Nat.reduceBEq, Nat.reducePow, Nat.reduceGT, reduceCtorEq, ↓reduceIte]
  obtain ⟨k, rfl⟩ := Int.eq_ofNat_of_zero_le (show 0 ≤ n by omega)
  simp -dsimp (disch := first | with_reducible assumption | omega | (intro h_; cases h_; done) | (simp only [LN] <;> omega) | (simp only [LF]; done) | (repeat (first | with_reducible assumption | apply Ext.refl | apply Ext.app | (apply Ext.set <;> omega) | (refine Ext.trans ?_ (by assumption))))) only [AX, TY, gV, dstOf, p_makeFunc, p_mapUpdate, mapPut, entsOf, p_lookup, p_extract, p_nilCheck, oneV, p_load, p_store, p_binOp, p_unOp, p_indexAddr, p_index, p_box, p_build, evParts, builtinV, load1, ldc, splice, minds, disj, rcOf, isCall, touchV, idsOf, mapId, touchB, p_buildSlice, buildSliceV, reps, fillV, p_convert, p_slice, evO, p_makeSlice, sid_some, soff_some, Nat.reduceLT, Nat.reduceLeDiff, Nat.reduceEqDiff, Nat.reduceAdd, Nat.reduceMul, Int.reduceBEq, Int.reduceEq, Int.reduceNeg, Int.reduceLT, Int.reduceLE, Int.reduceAdd, Int.reduceSub, Int.reduceMul, Int.reduceToNat, Int.reduceGT, Nat.reduceBEq, Nat.reducePow, Nat.reduceGT, reduceCtorEq, ↓reduceIte]
  refine (newP_ok d1 k (by omega) (by omega)).mono ?_
  rintro _ h2 ⟨rfl, d2, e2⟩
  generalize hI : (⟨h1.length + 1, h1.length, h.length + 1, h.length⟩ : Ids) = I at d2
  have hpi : h1.length + 1 = I.pi := by rw [← hI]
  rw [hpi]
  have hlst : ∀ q, lstP q (List.replicate k emptyFr) = [] := fun q => by
    unfold lstP lstQ
    rw [List.filter_replicate]
    simp [emptyFr]
  simp -dsimp (disch := first | with_reducible assumption | omega | (intro h_; cases h_; done) | (simp only [LN] <;> omega) | (simp only [LF]; done) | (repeat (first | with_reducible assumption | apply Ext.refl | apply Ext.app | (apply Ext.set <;> omega) | (refine Ext.trans ?_ (by assumption))))) only [AX, TY, gV, dstOf, p_makeFunc, p_mapUpdate, mapPut, entsOf, p_lookup, p_extract, p_nilCheck, oneV, p_load, p_store, p_binOp, p_unOp, p_indexAddr, p_index, p_box, p_build, evParts, builtinV, load1, ldc, splice, minds, disj, rcOf, isCall, touchV, idsOf, mapId, touchB, p_buildSlice, buildSliceV, reps, fillV, p_convert, p_slice, evO, p_makeSlice, sid_some, soff_some, Nat.reduceLT, Nat.reduceLeDiff, Nat.reduceEqDiff, Nat.reduceAdd, Nat.reduceMul, Int.reduceBEq, Int.reduceEq, Int.reduceNeg, Int.reduceLT, Int.reduceLE, Int.reduceAdd, Int.reduceSub, Int.reduceMul, Int.reduceToNat, Int.reduceGT, Nat.reduceBEq, Nat.reducePow, Nat.reduceGT, reduceCtorEq, ↓reduceIte, c1, c2]
  refine (cached_ok d2 (by rw [hlst]; decide)).mono ?_
  rintro _ h3 ⟨e3, p3, c3, zs, rfl, sl3, _, hp3, _⟩
  rw [hlst, List.perm_nil] at hp3
  subst hp3
  simp -dsimp (disch := first | with_reducible assumption | omega | (intro h_; cases h_; done) | (simp only [LN] <;> omega) | (simp only [LF]; done) | (repeat (first | with_reducible assumption | apply Ext.refl | apply Ext.app | (apply Ext.set <;> omega) | (refine Ext.trans ?_ (by assumption))))) only [AX, TY, gV, dstOf, p_makeFunc, p_mapUpdate, mapPut, entsOf, p_lookup, p_extract, p_nilCheck, oneV, p_load, p_store, p_binOp, p_unOp, p_indexAddr, p_index, p_box, p_build, evParts, builtinV, load1, ldc, splice, minds, disj, rcOf, isCall, touchV, idsOf, mapId, touchB, p_buildSlice, buildSliceV, reps, fillV, p_convert, p_slice, evO, p_makeSlice, sid_some, soff_some, Nat.reduceLT, Nat.reduceLeDiff, Nat.reduceEqDiff, Nat.reduceAdd, Nat.reduceMul, Int.reduceBEq, Int.reduceEq, Int.reduceNeg, Int.reduceLT, Int.reduceLE, Int.reduceAdd, Int.reduceSub, Int.reduceMul, Int.reduceToNat, Int.reduceGT, Nat.reduceBEq, Nat.reducePow, Nat.reduceGT, reduceCtorEq, ↓reduceIte]
  refine (dirty_ok (d2.ext e3) (by rw [hlst]; decide)).mono ?_
  rintro _ h4 ⟨e4, p4, c4, zs, rfl, sl4, _, hp4, _⟩
  rw [hlst, List.perm_nil] at hp4
  subst hp4
  simp -dsimp (disch := first | with_reducible assumption | omega | (intro h_; cases h_; done) | (simp only [LN] <;> omega) | (simp only [LF]; done) | (repeat (first | with_reducible assumption | apply Ext.refl | apply Ext.app | (apply Ext.set <;> omega) | (refine Ext.trans ?_ (by assumption))))) only [AX, TY, gV, dstOf, p_makeFunc, p_mapUpdate, mapPut, entsOf, p_lookup, p_extract, p_nilCheck, oneV, p_load, p_store, p_binOp, p_unOp, p_indexAddr, p_index, p_box, p_build, evParts, builtinV, load1, ldc, splice, minds, disj, rcOf, isCall, touchV, idsOf, mapId, touchB, p_buildSlice, buildSliceV, reps, fillV, p_convert, p_slice, evO, p_makeSlice, sid_some, soff_some, Nat.reduceLT, Nat.reduceLeDiff, Nat.reduceEqDiff, Nat.reduceAdd, Nat.reduceMul, Int.reduceBEq, Int.reduceEq, Int.reduceNeg, Int.reduceLT, Int.reduceLE, Int.reduceAdd, Int.reduceSub, Int.reduceMul, Int.reduceToNat, Int.reduceGT, Nat.reduceBEq, Nat.reducePow, Nat.reduceGT, reduceCtorEq, ↓reduceIte]
  refine (reads_ok ((d2.ext e3).ext e4)).mono ?_
  rintro _ _ ⟨rfl, rfl⟩
  simp -dsimp (disch := first | with_reducible assumption | omega | (intro h_; cases h_; done) | (simp only [LN] <;> omega) | (simp only [LF]; done) | (repeat (first | with_reducible assumption | apply Ext.refl | apply Ext.app | (apply Ext.set <;> omega) | (refine Ext.trans ?_ (by assumption))))) only [AX, TY, gV, dstOf, p_makeFunc, p_mapUpdate, mapPut, entsOf, p_lookup, p_extract, p_nilCheck, oneV, p_load, p_store, p_binOp, p_unOp, p_indexAddr, p_index, p_box, p_build, evParts, builtinV, load1, ldc, splice, minds, disj, rcOf, isCall, touchV, idsOf, mapId, touchB, p_buildSlice, buildSliceV, reps, fillV, p_convert, p_slice, evO, p_makeSlice, sid_some, soff_some, Nat.reduceLT, Nat.reduceLeDiff, Nat.reduceEqDiff, Nat.reduceAdd, Nat.reduceMul, Int.reduceBEq, Int.reduceEq, Int.reduceNeg, Int.reduceLT, Int.reduceLE, Int.reduceAdd, Int.reduceSub, Int.reduceMul, Int.reduceToNat, Int.reduceGT, Nat.reduceBEq, Nat.reducePow, Nat.reduceGT, reduceCtorEq, ↓reduceIte]
  refine awake_ok.mono ?_
  rintro _ h5 rfl
  simp -dsimp (disch := first | with_reducible assumption | omega | (intro h_; cases h_; done) | (simp only [LN] <;> omega) | (simp only [LF]; done) | (repeat (first | with_reducible assumption | apply Ext.refl | apply Ext.app | (apply Ext.set <;> omega) | (refine Ext.trans ?_ (by assumption))))) only [AX, TY, gV, dstOf, p_makeFunc, p_mapUpdate, mapPut, entsOf, p_lookup, p_extract, p_nilCheck, oneV, p_load, p_store, p_binOp, p_unOp, p_indexAddr, p_index, p_box, p_build, evParts, builtinV, load1, ldc, splice, minds, disj, rcOf, isCall, touchV, idsOf, mapId, touchB, p_buildSlice, buildSliceV, reps, fillV, p_convert, p_slice, evO, p_makeSlice, sid_some, soff_some, Nat.reduceLT, Nat.reduceLeDiff, Nat.reduceEqDiff, Nat.reduceAdd, Nat.reduceMul, Int.reduceBEq, Int.reduceEq, Int.reduceNeg, Int.reduceLT, Int.reduceLE, Int.reduceAdd, Int.reduceSub, Int.reduceMul, Int.reduceToNat, Int.reduceGT, Nat.reduceBEq, Nat.reducePow, Nat.reduceGT, reduceCtorEq, ↓reduceIte]
theorem PAt.own_base {b : Nat} {h : Heap} {I : Ids} {S : Bp} {oid : Option Nat} (d : PAt b h I S oid) (h1 : b ≤ I.pi) (h2 : b ≤ I.fr) {i : Nat} (hi : i < b) : ¬ ownP I oid i := fun q => by
  obtain ⟨pp, pc, _, g⟩ := d.dk.blk
  have hb := d.dk.base
  rcases q with q | q | q | q | q
  · omega
  · omega
  · omega
  · omega
  · have := g.base i q; omega
theorem mem_cached {page : Int} {fs : List Fr} : page ∈ lstP (fun _ => true) fs ↔ ∃ i, findF page fs = some i := by
  unfold lstP lstQ
  rw [List.mem_map]
  constructor
  · rintro ⟨f, hf, rfl⟩
    obtain ⟨h1, h2⟩ := List.mem_filter.1 hf
    simp only [Bool.and_true, decide_eq_true_eq] at h2
    exact findF_ex h2 h1 rfl
  · rintro ⟨i, hi⟩
    obtain ⟨hl, h0, h1, _⟩ := findF_some hi
    exact ⟨fs[i], List.mem_filter.2 ⟨List.getElem_mem hl, by simp [h1, h0]⟩, h1⟩
/-- How many frames hold a page. -/
def neN (fs : List Fr) : Nat := (lstP (fun _ => true) fs).length
theorem neN_map {fs fs' : List Fr} (h : fs'.map Fr.page = fs.map Fr.page) : neN fs' = neN fs := by
  have key : ∀ l : List Fr, lstP (fun _ => true) l = (l.map Fr.page).filter fun x => decide (0 ≤ x) := fun l => by
    unfold lstP lstQ
    rw [List.filter_map]
    simp only [Bool.and_true]
    rfl
  unfold neN
  rw [key, key, h]
theorem len_of_subI : ∀ {a b : List Int}, a.Nodup → (∀ x ∈ a, x ∈ b) → a.length ≤ b.length
  | [], _, _, _ => Nat.zero_le _
  | x :: a, b, hn, hs => by
    rw [List.nodup_cons] at hn
    have hx := hs x (by simp)
    have := len_of_subI (b := b.erase x) hn.2 fun y hy => (List.mem_erase_of_ne (fun e => hn.1 (by rw [← e]; exact hy))).2 (hs y (by simp [hy]))
    rw [List.length_erase_of_mem hx] at this
    have := List.length_pos_of_mem hx
    simp only [List.length_cons]
    omega
theorem lst_range {S : Bp} {N : Nat} (v : PIn S N) : ∀ x ∈ lstP (fun _ => true) S.frames, x ∈ (List.range S.pages).map fun k : Nat => (k : Int) := fun x hx => by
  obtain ⟨i, hi⟩ := mem_cached.1 hx
  obtain ⟨hl, h0, h1, _⟩ := findF_some hi
  have := v.fr i hl
  obtain ⟨n, rfl⟩ := Int.eq_ofNat_of_zero_le h0
  refine List.mem_map.2 ⟨n, List.mem_range.2 ?_, rfl⟩
  rcases this.2.2 with q | q
  · omega
  · omega
theorem neN_le {S : Bp} {N : Nat} (v : PIn S N) : neN S.frames ≤ S.pages := by
  have := len_of_subI (lst_nodup v _) (lst_range v)
  rwa [List.length_map, List.length_range] at this
theorem neN_agr {fs fs' : List Fr} {j : Nat} (a : Agr fs fs' j) (h1 : 0 ≤ (fs'[j]'(by rw [a.len]; exact a.jl)).page) (h2 : (fs[j]'a.jl).page < 0) : neN fs' = neN fs + 1 := by
  have hj := a.jl
  have hj' : j < fs'.length := by rw [a.len]; exact hj
  have e1 : fs = fs.take j ++ fs[j] :: fs.drop (j + 1) := by rw [← List.drop_eq_getElem_cons hj, List.take_append_drop]
  have e2 : fs' = fs'.take j ++ fs'[j] :: fs'.drop (j + 1) := by rw [← List.drop_eq_getElem_cons hj', List.take_append_drop]
  have m1 : (fs'.take j).map Fr.page = (fs.take j).map Fr.page := by
    apply List.ext_getElem (by simp [a.len])
    intro i q1 q2
    simp only [List.length_map, List.length_take] at q1 q2
    simp only [List.getElem_map, List.getElem_take]
    exact (a.eq i (by omega) (by omega)).1
  have m2 : (fs'.drop (j + 1)).map Fr.page = (fs.drop (j + 1)).map Fr.page := by
    apply List.ext_getElem (by simp [a.len])
    intro i q1 q2
    simp only [List.length_map, List.length_drop] at q1 q2
    simp only [List.getElem_map, List.getElem_drop]
    exact (a.eq (j + 1 + i) (by omega) (by omega)).1
  have split : ∀ (x y : List Fr) (f : Fr), neN (x ++ f :: y) = neN x + ((if 0 ≤ f.page then 1 else 0) + neN y) := fun x y f => by
    unfold neN lstP lstQ
    rw [List.length_map, List.length_map, List.length_map, List.filter_append, List.length_append, List.filter_cons]
    simp only [Bool.and_true, decide_eq_true_eq]
    split
    · rw [List.length_cons]; omega
    · omega
  rw [e2, split, neN_map m1, neN_map m2, if_pos h1]
  conv => rhs; rw [e1, split, if_neg (show ¬ 0 ≤ (fs[j]).page by omega)]
  omega
/-- The number of loads, where there are frames enough. -/
theorem reads_step {S S' : Bp} {N : Nat} {c : Cl} {e : Int} {dd : List Int} (v : PIn S N) (hN : N + 1 ≤ 1000) (hcn : c.n ≤ 9223372036854775807) (cr : CallR S c S' e dd) (hfr : S.pages ≤ S.frames.length) (hr : S.reads = neN S.frames) : S'.reads = neN S'.frames := by
  obtain ⟨k1, k2, k3, k4, k5, k6, k7⟩ := call_keeps v hN hcn cr
  rcases k7 with ⟨q1, q2, q3⟩ | ⟨q1, q2, q3, q4, j, a, q5, q6⟩
  · rw [q1, neN_map q2, hr]
  · obtain ⟨n, hn, hn2, _⟩ := k6 q1 q3
    rcases q6 with q6 | q6
    · rw [q2, neN_agr a (by rw [q5, hn]; omega) q6, hr]; rfl
    · exfalso
      have hnot : c.page ∉ lstP (fun _ => true) S.frames := fun q => by
        obtain ⟨i, hi⟩ := mem_cached.1 q
        rw [q4] at hi; cases hi
      have hnd : (c.page :: lstP (fun _ => true) S.frames).Nodup := List.nodup_cons.2 ⟨hnot, lst_nodup v _⟩
      have hl := len_of_subI (b := (List.range S.pages).map fun k : Nat => (k : Int)) hnd fun x hx => by
        rcases List.mem_cons.1 hx with rfl | hx
        · rw [hn]; exact List.mem_map.2 ⟨n, List.mem_range.2 hn2, rfl⟩
        · exact lst_range v x hx
      rw [List.length_cons, List.length_map, List.length_range] at hl
      have hall : (lstP (fun _ => true) S.frames).length = S.frames.length := by
        unfold lstP
        rw [List.length_map, List.filter_eq_self.2]
        intro f hf
        unfold lstQ
        simp [q6 f hf]
      omega
end Go.Proofs.YtmjfhckioaempaaA
namespace Go.Proofs.YtmjfhckioaempaaA
open Go Go.Proofs Go.RowKit
set_option linter.unusedVariables false
set_option linter.unusedSimpArgs false
set_option maxRecDepth 10000
set_option maxHeartbeats 4000000
/-- A pool in the midst of a law: i calls done; what was there at the start (h0) is kept. -/
structure Mid (b : Nat) (h0 : Heap) (I : Ids) (pages frames : Nat) (i : Nat) (S : Bp) (oid : Option Nat) (hh : Heap) : Prop where
  at' : PAt b hh I S oid
  inv : PIn S i
  pages : S.pages = pages
  frames : S.frames.length = frames
  kp : Kp h0 hh (ownP I none) (ownP I oid)
theorem Mid.ext {b : Nat} {h0 : Heap} {I : Ids} {pages frames i : Nat} {S : Bp} {oid : Option Nat} {hh h2 : Heap} (m : Mid b h0 I pages frames i S oid hh) (e : Ext hh h2) : Mid b h0 I pages frames i S oid h2 := ⟨m.at'.ext e, m.inv, m.pages, m.frames, m.kp.trans (Kp.ext e _)⟩
theorem Mid.crash {b : Nat} {h0 : Heap} {I : Ids} {pages frames i : Nat} {S : Bp} {oid : Option Nat} {hh : Heap} (m : Mid b h0 I pages frames i S oid hh) (hi : i ≤ 40) : S.D.pend.length ≤ 40 ∧ ∀ w ∈ S.D.pend, w.data.length ≤ 1024 := by
  refine ⟨by have := m.inv.cnt; omega, fun w hw => ?_⟩
  obtain ⟨k, _, h, _⟩ := m.inv.pd w hw
  omega
/-- One call within a law. -/
theorem Mid.call {b : Nat} {h0 : Heap} {I : Ids} {pages frames i : Nat} {S : Bp} {oid : Option Nat} {hh : Heap} (m : Mid b h0 I pages frames i S oid hh) (hi : i ≤ 40) (c : Cl) (hn : c.kind = 6 → 0 ≤ c.n ∧ c.n ≤ 2000) (hcn : c.n ≤ 9223372036854775807) :
    WR (callE Try.prog hk 19 [.agg [.ptr (some (I.di, 0)), .ptr (some (I.pi, 0))], .agg c.enc] hh) fun r h' => ∃ S' oid' e dd, CallR S c S' e dd ∧ Mid b h0 I pages frames (i + 1) S' oid' h' ∧ Kp hh h' (ownP I oid) (ownP I oid') ∧ ResV hh h' I oid' r e dd := by
  have hc := m.crash hi
  refine (call_ok m.at' m.inv.okp hc.1 (m.inv.lst _) hc.2 c hn).mono ?_
  rintro r h2 ⟨S', oid', e, dd, cr, d, k, q⟩
  have hk := call_keeps m.inv (by omega) hcn cr
  exact ⟨S', oid', e, dd, cr, ⟨d, hk.1, hk.2.1.trans m.pages, hk.2.2.1.trans m.frames, m.kp.trans k⟩, k, q⟩
theorem law5_ok {h : Heap} {p : Option (Nat × Nat)} {c : Option Nat} {l : List Cl} (hs : Sl h p 4 Cl.enc l) (hcn : ∀ c ∈ l, c.n ≤ 9223372036854775807) (pages frames : Int) :
    WR (callE Try.prog hk 5 [.int .i64 pages, .int .i64 frames, .slice p l.length c] h) fun r h' => r = .bool true := by
  have hn := hs.nil'
  have hl := hs.small
  refine WR.call (hH := rfl) Try.func5 rfl (n := 96) rfl rfl (by simp) ?_
  simp -dsimp (disch := first | with_reducible assumption | omega | (intro h_; cases h_; done) | (simp only [LN] <;> omega) | (simp only [LF]; done) | (repeat (first | with_reducible assumption | apply Ext.refl | apply Ext.app | (apply Ext.set <;> omega) | (refine Ext.trans ?_ (by assumption))))) only [AX, TY, gV, dstOf, p_makeFunc, p_mapUpdate, mapPut, entsOf, p_lookup, p_extract, p_nilCheck, oneV, p_load, p_store, p_binOp, p_unOp, p_indexAddr, p_index, p_box, p_build, evParts, builtinV, load1, ldc, splice, minds, disj, rcOf, isCall, touchV, idsOf, mapId, touchB, p_buildSlice, buildSliceV, reps, fillV, p_convert, p_slice, evO, p_makeSlice, sid_some, soff_some, Nat.reduceLT, Nat.reduceLeDiff, Nat.reduceEqDiff, Nat.reduceAdd, Nat.reduceMul, Int.reduceBEq, Int.reduceEq, Int.reduceNeg, Int.reduceLT, Int.reduceLE, Int.reduceAdd, Int.reduceSub, Int.reduceMul, Int.reduceToNat, Int.reduceGT, Nat.reduceBEq, Nat.reducePow, Nat.reduceGT, reduceCtorEq, ↓reduceIte]
  refine (few16_ok hs pages frames).mono ?_
  rintro _ _ ⟨rfl, fb, rfl, hfb⟩
  cases fb
  · simp -dsimp (disch := first | with_reducible assumption | omega | (intro h_; cases h_; done) | (simp only [LN] <;> omega) | (simp only [LF]; done) | (repeat (first | with_reducible assumption | apply Ext.refl | apply Ext.app | (apply Ext.set <;> omega) | (refine Ext.trans ?_ (by assumption))))) only [AX, TY, gV, dstOf, p_makeFunc, p_mapUpdate, mapPut, entsOf, p_lookup, p_extract, p_nilCheck, oneV, p_load, p_store, p_binOp, p_unOp, p_indexAddr, p_index, p_box, p_build, evParts, builtinV, load1, ldc, splice, minds, disj, rcOf, isCall, touchV, idsOf, mapId, touchB, p_buildSlice, buildSliceV, reps, fillV, p_convert, p_slice, evO, p_makeSlice, sid_some, soff_some, Nat.reduceLT, Nat.reduceLeDiff, Nat.reduceEqDiff, Nat.reduceAdd, Nat.reduceMul, Int.reduceBEq, Int.reduceEq, Int.reduceNeg, Int.reduceLT, Int.reduceLE, Int.reduceAdd, Int.reduceSub, Int.reduceMul, Int.reduceToNat, Int.reduceGT, Nat.reduceBEq, Nat.reducePow, Nat.reduceGT, reduceCtorEq, ↓reduceIte]
    refine awake_ok.mono ?_
    rintro _ h3 rfl
    simp -dsimp (disch := first | with_reducible assumption | omega | (intro h_; cases h_; done) | (simp only [LN] <;> omega) | (simp only [LF]; done) | (repeat (first | with_reducible assumption | apply Ext.refl | apply Ext.app | (apply Ext.set <;> omega) | (refine Ext.trans ?_ (by assumption))))) only [AX, TY, gV, dstOf, p_makeFunc, p_mapUpdate, mapPut, entsOf, p_lookup, p_extract, p_nilCheck, oneV, p_load, p_store, p_binOp, p_unOp, p_indexAddr, p_index, p_box, p_build, evParts, builtinV, load1, ldc, splice, minds, disj, rcOf, isCall, touchV, idsOf, mapId, touchB, p_buildSlice, buildSliceV, reps, fillV, p_convert, p_slice, evO, p_makeSlice, sid_some, soff_some, Nat.reduceLT, Nat.reduceLeDiff, Nat.reduceEqDiff, Nat.reduceAdd, Nat.reduceMul, Int.reduceBEq, Int.reduceEq, Int.reduceNeg, Int.reduceLT, Int.reduceLE, Int.reduceAdd, Int.reduceSub, Int.reduceMul, Int.reduceToNat, Int.reduceGT, Nat.reduceBEq, Nat.reducePow, Nat.reduceGT, reduceCtorEq, ↓reduceIte]
  obtain ⟨b1, b2, b3, b4, b5, b6⟩ := hfb rfl
  obtain ⟨pages, rfl⟩ := Int.eq_ofNat_of_zero_le (show 0 ≤ pages by omega)
  obtain ⟨frames, rfl⟩ := Int.eq_ofNat_of_zero_le (show 0 ≤ frames by omega)
  simp -dsimp (disch := first | with_reducible assumption | omega | (intro h_; cases h_; done) | (simp only [LN] <;> omega) | (simp only [LF]; done) | (repeat (first | with_reducible assumption | apply Ext.refl | apply Ext.app | (apply Ext.set <;> omega) | (refine Ext.trans ?_ (by assumption))))) only [AX, TY, gV, dstOf, p_makeFunc, p_mapUpdate, mapPut, entsOf, p_lookup, p_extract, p_nilCheck, oneV, p_load, p_store, p_binOp, p_unOp, p_indexAddr, p_index, p_box, p_build, evParts, builtinV, load1, ldc, splice, minds, disj, rcOf, isCall, touchV, idsOf, mapId, touchB, p_buildSlice, buildSliceV, reps, fillV, p_convert, p_slice, evO, p_makeSlice, sid_some, soff_some, Nat.reduceLT, Nat.reduceLeDiff, Nat.reduceEqDiff, Nat.reduceAdd, Nat.reduceMul, Int.reduceBEq, Int.reduceEq, Int.reduceNeg, Int.reduceLT, Int.reduceLE, Int.reduceAdd, Int.reduceSub, Int.reduceMul, Int.reduceToNat, Int.reduceGT, Nat.reduceBEq, Nat.reducePow, Nat.reduceGT, reduceCtorEq, ↓reduceIte]
  refine (open_ok pages frames (by omega) (by omega) (by omega) (by omega)).mono ?_
  rintro _ h1 ⟨I, D, rfl, d1, hD1, hD2, hD3, hD4, hD5, e1, hb1, hb2, hb3⟩
  obtain ⟨h0, hh0, x0, e0, hl0⟩ : ∃ h0, h1 ++ [O.cells [V.ptr (some (I.di, 0)), V.ptr (some (I.pi, 0))] .rw] = h0 ∧ h0[h1.length]? = some (O.cells [V.ptr (some (I.di, 0)), V.ptr (some (I.pi, 0))] .rw) ∧ Ext h1 h0 ∧ h0.length = h1.length + 1 := ⟨_, rfl, snoc_last _ rfl, (by (repeat (first | assumption | apply Ext.refl | apply Ext.app | (apply Ext.set <;> omega) | exact Ext.trans (by assumption) (by assumption) | (refine Ext.trans ?_ (by assumption))))), by simp⟩
  have m0 : Mid h.length h0 I pages frames 0 ⟨D, pages, List.replicate frames emptyFr, 0, 0⟩ none h0 := ⟨d1.ext e0, .init hD1 hD4 (by omega) hD2 (by omega) (by omega), rfl, by simp, Kp.ext (.refl _) _⟩
  have hs0 := hs.ext (e1.trans e0)
  have hnx : ¬ ownP I none h1.length := fun q => by have := d1.lt q; omega
  have hne0 : (0 : Int) = neN (List.replicate frames emptyFr) := by
    unfold neN lstP lstQ
    rw [List.filter_replicate]; simp [emptyFr]
  have slK : ∀ {i : Nat} {S : Bp} {oid : Option Nat} {hh : Heap}, Mid h.length h0 I pages frames i S oid hh → Sl hh p 4 Cl.enc l ∧ hh[h1.length]? = some (O.cells [V.ptr (some (I.di, 0)), V.ptr (some (I.pi, 0))] .rw) := fun {i S oid hh} m => ⟨hs0.keep fun a o z => m.kp.fr a (hs0.lt z) (m0.at'.own_base hb1 hb3 (hs.lt z)), m.kp.get x0 hnx⟩
  simp -dsimp (disch := first | with_reducible assumption | omega | (intro h_; cases h_; done) | (simp only [LN] <;> omega) | (simp only [LF]; done) | (repeat (first | with_reducible assumption | apply Ext.refl | apply Ext.app | (apply Ext.set <;> omega) | (refine Ext.trans ?_ (by assumption))))) only [AX, TY, gV, dstOf, p_makeFunc, p_mapUpdate, mapPut, entsOf, p_lookup, p_extract, p_nilCheck, oneV, p_load, p_store, p_binOp, p_unOp, p_indexAddr, p_index, p_box, p_build, evParts, builtinV, load1, ldc, splice, minds, disj, rcOf, isCall, touchV, idsOf, mapId, touchB, p_buildSlice, buildSliceV, reps, fillV, p_convert, p_slice, evO, p_makeSlice, sid_some, soff_some, Nat.reduceLT, Nat.reduceLeDiff, Nat.reduceEqDiff, Nat.reduceAdd, Nat.reduceMul, Int.reduceBEq, Int.reduceEq, Int.reduceNeg, Int.reduceLT, Int.reduceLE, Int.reduceAdd, Int.reduceSub, Int.reduceMul, Int.reduceToNat, Int.reduceGT, Nat.reduceBEq, Nat.reducePow, Nat.reduceGT, reduceCtorEq, ↓reduceIte, hh0]
  refine W.loop (fun m τ hh => ∃ (i : Nat) (S : Bp) (oid : Option Nat), m + i = l.length ∧ τ 0 = .int .i64 pages ∧ τ 1 = .int .i64 frames ∧ τ 7 = .ptr (some (h1.length, 0)) ∧ τ 32 = .slice p l.length c ∧ τ 33 = .int .i64 l.length ∧ τ 34 = .int .i64 i ∧ Mid h.length h0 I pages frames i S oid hh ∧ (pages ≤ frames → S.reads = neN S.frames)) ?_ (m := l.length) ?_
  rotate_left
  · have hz : pages ≤ frames → (⟨D, pages, List.replicate frames emptyFr, 0, 0⟩ : Bp).reads = neN (List.replicate frames emptyFr) := fun _ => hne0
    refine ⟨0, ⟨D, pages, List.replicate frames emptyFr, 0, 0⟩, none, ?_⟩
    simp -dsimp (disch := first | with_reducible assumption | omega | (intro h_; cases h_; done) | (simp only [LN] <;> omega) | (simp only [LF]; done) | (repeat (first | with_reducible assumption | apply Ext.refl | apply Ext.app | (apply Ext.set <;> omega) | (refine Ext.trans ?_ (by assumption))))) only [AX, TY, gV, dstOf, p_makeFunc, p_mapUpdate, mapPut, entsOf, p_lookup, p_extract, p_nilCheck, oneV, p_load, p_store, p_binOp, p_unOp, p_indexAddr, p_index, p_box, p_build, evParts, builtinV, load1, ldc, splice, minds, disj, rcOf, isCall, touchV, idsOf, mapId, touchB, p_buildSlice, buildSliceV, reps, fillV, p_convert, p_slice, evO, p_makeSlice, sid_some, soff_some, Nat.reduceLT, Nat.reduceLeDiff, Nat.reduceEqDiff, Nat.reduceAdd, Nat.reduceMul, Int.reduceBEq, Int.reduceEq, Int.reduceNeg, Int.reduceLT, Int.reduceLE, Int.reduceAdd, Int.reduceSub, Int.reduceMul, Int.reduceToNat, Int.reduceGT, Nat.reduceBEq, Nat.reducePow, Nat.reduceGT, reduceCtorEq, ↓reduceIte]
    repeat' (first | assumption | refine And.intro ?_ ?_)
    all_goals first | rfl | omega | (simp; done) | (simp; omega; done) | skip
  rintro m τ hh ⟨i, S, oid, hm, t0, t1, t7, t32, t33, t34, mid, hrd⟩
  obtain ⟨sl, hx⟩ := slK mid
  by_cases h2 : (i : Int) < (l.length : Int)
  rotate_left
  · by_cases hfp : (frames : Int) < (pages : Int)
    · simp -dsimp (disch := first | with_reducible assumption | omega | (intro h_; cases h_; done) | (simp only [LN] <;> omega) | (simp only [LF]; done) | (repeat (first | with_reducible assumption | apply Ext.refl | apply Ext.app | (apply Ext.set <;> omega) | (refine Ext.trans ?_ (by assumption))))) only [AX, TY, gV, dstOf, p_makeFunc, p_mapUpdate, mapPut, entsOf, p_lookup, p_extract, p_nilCheck, oneV, p_load, p_store, p_binOp, p_unOp, p_indexAddr, p_index, p_box, p_build, evParts, builtinV, load1, ldc, splice, minds, disj, rcOf, isCall, touchV, idsOf, mapId, touchB, p_buildSlice, buildSliceV, reps, fillV, p_convert, p_slice, evO, p_makeSlice, sid_some, soff_some, Nat.reduceLT, Nat.reduceLeDiff, Nat.reduceEqDiff, Nat.reduceAdd, Nat.reduceMul, Int.reduceBEq, Int.reduceEq, Int.reduceNeg, Int.reduceLT, Int.reduceLE, Int.reduceAdd, Int.reduceSub, Int.reduceMul, Int.reduceToNat, Int.reduceGT, Nat.reduceBEq, Nat.reducePow, Nat.reduceGT, reduceCtorEq, ↓reduceIte, t0, t1, t7, t32, t33, t34, h2, hfp]
      refine awake_ok.mono ?_
      rintro _ h3 rfl
      simp -dsimp (disch := first | with_reducible assumption | omega | (intro h_; cases h_; done) | (simp only [LN] <;> omega) | (simp only [LF]; done) | (repeat (first | with_reducible assumption | apply Ext.refl | apply Ext.app | (apply Ext.set <;> omega) | (refine Ext.trans ?_ (by assumption))))) only [AX, TY, gV, dstOf, p_makeFunc, p_mapUpdate, mapPut, entsOf, p_lookup, p_extract, p_nilCheck, oneV, p_load, p_store, p_binOp, p_unOp, p_indexAddr, p_index, p_box, p_build, evParts, builtinV, load1, ldc, splice, minds, disj, rcOf, isCall, touchV, idsOf, mapId, touchB, p_buildSlice, buildSliceV, reps, fillV, p_convert, p_slice, evO, p_makeSlice, sid_some, soff_some, Nat.reduceLT, Nat.reduceLeDiff, Nat.reduceEqDiff, Nat.reduceAdd, Nat.reduceMul, Int.reduceBEq, Int.reduceEq, Int.reduceNeg, Int.reduceLT, Int.reduceLE, Int.reduceAdd, Int.reduceSub, Int.reduceMul, Int.reduceToNat, Int.reduceGT, Nat.reduceBEq, Nat.reducePow, Nat.reduceGT, reduceCtorEq, ↓reduceIte]
    · simp -dsimp (disch := first | with_reducible assumption | omega | (intro h_; cases h_; done) | (simp only [LN] <;> omega) | (simp only [LF]; done) | (repeat (first | with_reducible assumption | apply Ext.refl | apply Ext.app | (apply Ext.set <;> omega) | (refine Ext.trans ?_ (by assumption))))) only [AX, TY, gV, dstOf, p_makeFunc, p_mapUpdate, mapPut, entsOf, p_lookup, p_extract, p_nilCheck, oneV, p_load, p_store, p_binOp, p_unOp, p_indexAddr, p_index, p_box, p_build, evParts, builtinV, load1, ldc, splice, minds, disj, rcOf, isCall, touchV, idsOf, mapId, touchB, p_buildSlice, buildSliceV, reps, fillV, p_convert, p_slice, evO, p_makeSlice, sid_some, soff_some, Nat.reduceLT, Nat.reduceLeDiff, Nat.reduceEqDiff, Nat.reduceAdd, Nat.reduceMul, Int.reduceBEq, Int.reduceEq, Int.reduceNeg, Int.reduceLT, Int.reduceLE, Int.reduceAdd, Int.reduceSub, Int.reduceMul, Int.reduceToNat, Int.reduceGT, Nat.reduceBEq, Nat.reducePow, Nat.reduceGT, reduceCtorEq, ↓reduceIte, t0, t1, t7, t32, t33, t34, h2, hfp, loadN_fact hx]
      refine (reads_ok mid.at').mono ?_
      rintro _ _ ⟨rfl, rfl⟩
      have hle : S.reads ≤ (pages : Int) := by
        have := neN_le mid.inv
        rw [hrd (by omega), ← mid.pages]; omega
      simp -dsimp (disch := first | with_reducible assumption | omega | (intro h_; cases h_; done) | (simp only [LN] <;> omega) | (simp only [LF]; done) | (repeat (first | with_reducible assumption | apply Ext.refl | apply Ext.app | (apply Ext.set <;> omega) | (refine Ext.trans ?_ (by assumption))))) only [AX, TY, gV, dstOf, p_makeFunc, p_mapUpdate, mapPut, entsOf, p_lookup, p_extract, p_nilCheck, oneV, p_load, p_store, p_binOp, p_unOp, p_indexAddr, p_index, p_box, p_build, evParts, builtinV, load1, ldc, splice, minds, disj, rcOf, isCall, touchV, idsOf, mapId, touchB, p_buildSlice, buildSliceV, reps, fillV, p_convert, p_slice, evO, p_makeSlice, sid_some, soff_some, Nat.reduceLT, Nat.reduceLeDiff, Nat.reduceEqDiff, Nat.reduceAdd, Nat.reduceMul, Int.reduceBEq, Int.reduceEq, Int.reduceNeg, Int.reduceLT, Int.reduceLE, Int.reduceAdd, Int.reduceSub, Int.reduceMul, Int.reduceToNat, Int.reduceGT, Nat.reduceBEq, Nat.reducePow, Nat.reduceGT, reduceCtorEq, ↓reduceIte, t0, t1, t7, t32, t33, t34, eq_true hle]
      refine awake_ok.mono ?_
      rintro _ h3 rfl
      simp -dsimp (disch := first | with_reducible assumption | omega | (intro h_; cases h_; done) | (simp only [LN] <;> omega) | (simp only [LF]; done) | (repeat (first | with_reducible assumption | apply Ext.refl | apply Ext.app | (apply Ext.set <;> omega) | (refine Ext.trans ?_ (by assumption))))) only [AX, TY, gV, dstOf, p_makeFunc, p_mapUpdate, mapPut, entsOf, p_lookup, p_extract, p_nilCheck, oneV, p_load, p_store, p_binOp, p_unOp, p_indexAddr, p_index, p_box, p_build, evParts, builtinV, load1, ldc, splice, minds, disj, rcOf, isCall, touchV, idsOf, mapId, touchB, p_buildSlice, buildSliceV, reps, fillV, p_convert, p_slice, evO, p_makeSlice, sid_some, soff_some, Nat.reduceLT, Nat.reduceLeDiff, Nat.reduceEqDiff, Nat.reduceAdd, Nat.reduceMul, Int.reduceBEq, Int.reduceEq, Int.reduceNeg, Int.reduceLT, Int.reduceLE, Int.reduceAdd, Int.reduceSub, Int.reduceMul, Int.reduceToNat, Int.reduceGT, Nat.reduceBEq, Nat.reducePow, Nat.reduceGT, reduceCtorEq, ↓reduceIte]
  have hi : i < l.length := by omega
  have hla := sl.load0 (.refl _) hi (m := 4) (by decide)
  have hmem := List.getElem_mem hi
  generalize l[i] = x at hla hmem
  simp only [Cl.enc, List.take] at hla
  obtain ⟨g, hg, gx, eg, hgl⟩ : ∃ g, hh ++ [O.cells (Cl.enc x) .rw] = g ∧ g[hh.length]? = some (O.cells (Cl.enc x) .rw) ∧ Ext hh g ∧ g.length = hh.length + 1 := ⟨_, rfl, snoc_last _ rfl, (by (repeat (first | assumption | apply Ext.refl | apply Ext.app | (apply Ext.set <;> omega) | exact Ext.trans (by assumption) (by assumption) | (refine Ext.trans ?_ (by assumption))))), by simp⟩
  simp only [Cl.enc] at hg gx
  have midg := mid.ext eg
  have hxg := eg _ _ hx
  simp -dsimp (disch := first | with_reducible assumption | omega | (intro h_; cases h_; done) | (simp only [LN] <;> omega) | (simp only [LF]; done) | (repeat (first | with_reducible assumption | apply Ext.refl | apply Ext.app | (apply Ext.set <;> omega) | (refine Ext.trans ?_ (by assumption))))) only [AX, TY, gV, dstOf, p_makeFunc, p_mapUpdate, mapPut, entsOf, p_lookup, p_extract, p_nilCheck, oneV, p_load, p_store, p_binOp, p_unOp, p_indexAddr, p_index, p_box, p_build, evParts, builtinV, load1, ldc, splice, minds, disj, rcOf, isCall, touchV, idsOf, mapId, touchB, p_buildSlice, buildSliceV, reps, fillV, p_convert, p_slice, evO, p_makeSlice, sid_some, soff_some, Nat.reduceLT, Nat.reduceLeDiff, Nat.reduceEqDiff, Nat.reduceAdd, Nat.reduceMul, Int.reduceBEq, Int.reduceEq, Int.reduceNeg, Int.reduceLT, Int.reduceLE, Int.reduceAdd, Int.reduceSub, Int.reduceMul, Int.reduceToNat, Int.reduceGT, Nat.reduceBEq, Nat.reducePow, Nat.reduceGT, reduceCtorEq, ↓reduceIte, t0, t1, t7, t32, t33, t34, h2, hla, hg, loadN_fact hxg]
  refine (reads_ok midg.at').mono ?_
  rintro _ _ ⟨rfl, rfl⟩
  simp -dsimp (disch := first | with_reducible assumption | omega | (intro h_; cases h_; done) | (simp only [LN] <;> omega) | (simp only [LF]; done) | (repeat (first | with_reducible assumption | apply Ext.refl | apply Ext.app | (apply Ext.set <;> omega) | (refine Ext.trans ?_ (by assumption))))) only [AX, TY, gV, dstOf, p_makeFunc, p_mapUpdate, mapPut, entsOf, p_lookup, p_extract, p_nilCheck, oneV, p_load, p_store, p_binOp, p_unOp, p_indexAddr, p_index, p_box, p_build, evParts, builtinV, load1, ldc, splice, minds, disj, rcOf, isCall, touchV, idsOf, mapId, touchB, p_buildSlice, buildSliceV, reps, fillV, p_convert, p_slice, evO, p_makeSlice, sid_some, soff_some, Nat.reduceLT, Nat.reduceLeDiff, Nat.reduceEqDiff, Nat.reduceAdd, Nat.reduceMul, Int.reduceBEq, Int.reduceEq, Int.reduceNeg, Int.reduceLT, Int.reduceLE, Int.reduceAdd, Int.reduceSub, Int.reduceMul, Int.reduceToNat, Int.reduceGT, Nat.reduceBEq, Nat.reducePow, Nat.reduceGT, reduceCtorEq, ↓reduceIte, t0, t1, t7, t32, t33, t34, loadN_fact hxg]
  refine (cached_ok midg.at' (mid.inv.lst _)).mono ?_
  rintro _ h4 ⟨e4, p4, c4, zs, rfl, sl4, _, hp4, _⟩
  have mid4 := midg.ext e4
  have hx4 := e4 _ _ hxg
  have gx4 := e4 _ _ gx
  have hnz := sl4.nil'
  have hlz := sl4.small
  simp -dsimp (disch := first | with_reducible assumption | omega | (intro h_; cases h_; done) | (simp only [LN] <;> omega) | (simp only [LF]; done) | (repeat (first | with_reducible assumption | apply Ext.refl | apply Ext.app | (apply Ext.set <;> omega) | (refine Ext.trans ?_ (by assumption))))) only [AX, TY, gV, dstOf, p_makeFunc, p_mapUpdate, mapPut, entsOf, p_lookup, p_extract, p_nilCheck, oneV, p_load, p_store, p_binOp, p_unOp, p_indexAddr, p_index, p_box, p_build, evParts, builtinV, load1, ldc, splice, minds, disj, rcOf, isCall, touchV, idsOf, mapId, touchB, p_buildSlice, buildSliceV, reps, fillV, p_convert, p_slice, evO, p_makeSlice, sid_some, soff_some, Nat.reduceLT, Nat.reduceLeDiff, Nat.reduceEqDiff, Nat.reduceAdd, Nat.reduceMul, Int.reduceBEq, Int.reduceEq, Int.reduceNeg, Int.reduceLT, Int.reduceLE, Int.reduceAdd, Int.reduceSub, Int.reduceMul, Int.reduceToNat, Int.reduceGT, Nat.reduceBEq, Nat.reducePow, Nat.reduceGT, reduceCtorEq, ↓reduceIte, t0, t1, t7, t32, t33, t34]
  refine W.loop (fun m2 τ hh2 => h4 = hh2 ∧ ∃ k : Nat, m2 + k = zs.length ∧ τ 0 = .int .i64 pages ∧ τ 1 = .int .i64 frames ∧ τ 7 = .ptr (some (h1.length, 0)) ∧ τ 10 = .ptr (some (hh.length, 0)) ∧ τ 11 = .int .i64 S.reads ∧ τ 12 = .bool (decide (x.page ∈ zs.take k)) ∧ τ 32 = .slice p l.length c ∧ τ 33 = .int .i64 l.length ∧ τ 34 = .int .i64 i ∧ τ 43 = .slice p4 zs.length c4 ∧ τ 44 = .int .i64 zs.length ∧ τ 45 = .int .i64 k) ?_ (m := zs.length) ?_
  rotate_left
  · refine ⟨rfl, 0, ?_⟩
    simp only [List.take_zero, List.not_mem_nil, decide_false]
    simp -dsimp (disch := first | with_reducible assumption | omega | (intro h_; cases h_; done) | (simp only [LN] <;> omega) | (simp only [LF]; done) | (repeat (first | with_reducible assumption | apply Ext.refl | apply Ext.app | (apply Ext.set <;> omega) | (refine Ext.trans ?_ (by assumption))))) only [AX, TY, gV, dstOf, p_makeFunc, p_mapUpdate, mapPut, entsOf, p_lookup, p_extract, p_nilCheck, oneV, p_load, p_store, p_binOp, p_unOp, p_indexAddr, p_index, p_box, p_build, evParts, builtinV, load1, ldc, splice, minds, disj, rcOf, isCall, touchV, idsOf, mapId, touchB, p_buildSlice, buildSliceV, reps, fillV, p_convert, p_slice, evO, p_makeSlice, sid_some, soff_some, Nat.reduceLT, Nat.reduceLeDiff, Nat.reduceEqDiff, Nat.reduceAdd, Nat.reduceMul, Int.reduceBEq, Int.reduceEq, Int.reduceNeg, Int.reduceLT, Int.reduceLE, Int.reduceAdd, Int.reduceSub, Int.reduceMul, Int.reduceToNat, Int.reduceGT, Nat.reduceBEq, Nat.reducePow, Nat.reduceGT, reduceCtorEq, ↓reduceIte, t0, t1, t7, t32, t33, t34]
    repeat' (first | assumption | refine And.intro ?_ ?_)
    all_goals first | rfl | omega | (simp; done) | (simp; omega; done) | skip
  clear t0 t1 t7 t32 t33 t34
  rintro m2 τ2 _ ⟨rfl, k, hm2, t0, t1, t7, t10, t11, t12, t32, t33, t34, t43, t44, t45⟩
  by_cases h5 : (k : Int) < (zs.length : Int)
  · have hk : k < zs.length := by omega
    have hlb := sl4.load0 (.refl _) hk (m := 1) (by decide)
    have htk := List.take_succ_eq_append_getElem hk
    generalize zs[k] = z at hlb htk
    simp only [ei, List.take] at hlb
    have hnew : (decide (x.page ∈ zs.take (k + 1))) = (decide (x.page ∈ zs.take k) || decide (z = x.page)) := by
      rw [htk]
      simp only [List.mem_append, List.mem_singleton, Bool.decide_or]
      congr 1
      exact decide_eq_decide.2 ⟨Eq.symm, Eq.symm⟩
    cases hb : decide (x.page ∈ zs.take k)
    · rw [hb] at t12 hnew
      simp -dsimp (disch := first | with_reducible assumption | omega | (intro h_; cases h_; done) | (simp only [LN] <;> omega) | (simp only [LF]; done) | (repeat (first | with_reducible assumption | apply Ext.refl | apply Ext.app | (apply Ext.set <;> omega) | (refine Ext.trans ?_ (by assumption))))) only [AX, TY, gV, dstOf, p_makeFunc, p_mapUpdate, mapPut, entsOf, p_lookup, p_extract, p_nilCheck, oneV, p_load, p_store, p_binOp, p_unOp, p_indexAddr, p_index, p_box, p_build, evParts, builtinV, load1, ldc, splice, minds, disj, rcOf, isCall, touchV, idsOf, mapId, touchB, p_buildSlice, buildSliceV, reps, fillV, p_convert, p_slice, evO, p_makeSlice, sid_some, soff_some, Nat.reduceLT, Nat.reduceLeDiff, Nat.reduceEqDiff, Nat.reduceAdd, Nat.reduceMul, Int.reduceBEq, Int.reduceEq, Int.reduceNeg, Int.reduceLT, Int.reduceLE, Int.reduceAdd, Int.reduceSub, Int.reduceMul, Int.reduceToNat, Int.reduceGT, Nat.reduceBEq, Nat.reducePow, Nat.reduceGT, reduceCtorEq, ↓reduceIte, t0, t1, t7, t10, t11, t12, t32, t33, t34, t43, t44, t45, h5, hlb, loadN_fact gx4, wrap_in]
      refine ⟨m2 - 1, by omega, k + 1, ?_⟩
      rw [hnew]
      repeat' (first | assumption | refine And.intro ?_ ?_)
      all_goals first | rfl | omega | (simp; done) | (simp; omega; done) | skip
    · rw [hb] at t12 hnew
      simp -dsimp (disch := first | with_reducible assumption | omega | (intro h_; cases h_; done) | (simp only [LN] <;> omega) | (simp only [LF]; done) | (repeat (first | with_reducible assumption | apply Ext.refl | apply Ext.app | (apply Ext.set <;> omega) | (refine Ext.trans ?_ (by assumption))))) only [AX, TY, gV, dstOf, p_makeFunc, p_mapUpdate, mapPut, entsOf, p_lookup, p_extract, p_nilCheck, oneV, p_load, p_store, p_binOp, p_unOp, p_indexAddr, p_index, p_box, p_build, evParts, builtinV, load1, ldc, splice, minds, disj, rcOf, isCall, touchV, idsOf, mapId, touchB, p_buildSlice, buildSliceV, reps, fillV, p_convert, p_slice, evO, p_makeSlice, sid_some, soff_some, Nat.reduceLT, Nat.reduceLeDiff, Nat.reduceEqDiff, Nat.reduceAdd, Nat.reduceMul, Int.reduceBEq, Int.reduceEq, Int.reduceNeg, Int.reduceLT, Int.reduceLE, Int.reduceAdd, Int.reduceSub, Int.reduceMul, Int.reduceToNat, Int.reduceGT, Nat.reduceBEq, Nat.reducePow, Nat.reduceGT, reduceCtorEq, ↓reduceIte, t0, t1, t7, t10, t11, t12, t32, t33, t34, t43, t44, t45, h5, hlb, wrap_in]
      refine ⟨m2 - 1, by omega, k + 1, ?_⟩
      rw [hnew]
      repeat' (first | assumption | refine And.intro ?_ ?_)
      all_goals first | rfl | omega | (simp; done) | (simp; omega; done) | skip
  have hzk : zs.take k = zs := List.take_of_length_le (by omega)
  rw [hzk] at t12
  have hcm : x.page ∈ zs ↔ ∃ i, findF x.page S.frames = some i := (hp4.mem_iff).trans mem_cached
  have hcall := mid4.call (by omega) x (b6 x hmem) (hcn x hmem)
  simp only [Cl.enc] at hcall
  simp -dsimp (disch := first | with_reducible assumption | omega | (intro h_; cases h_; done) | (simp only [LN] <;> omega) | (simp only [LF]; done) | (repeat (first | with_reducible assumption | apply Ext.refl | apply Ext.app | (apply Ext.set <;> omega) | (refine Ext.trans ?_ (by assumption))))) only [AX, TY, gV, dstOf, p_makeFunc, p_mapUpdate, mapPut, entsOf, p_lookup, p_extract, p_nilCheck, oneV, p_load, p_store, p_binOp, p_unOp, p_indexAddr, p_index, p_box, p_build, evParts, builtinV, load1, ldc, splice, minds, disj, rcOf, isCall, touchV, idsOf, mapId, touchB, p_buildSlice, buildSliceV, reps, fillV, p_convert, p_slice, evO, p_makeSlice, sid_some, soff_some, Nat.reduceLT, Nat.reduceLeDiff, Nat.reduceEqDiff, Nat.reduceAdd, Nat.reduceMul, Int.reduceBEq, Int.reduceEq, Int.reduceNeg, Int.reduceLT, Int.reduceLE, Int.reduceAdd, Int.reduceSub, Int.reduceMul, Int.reduceToNat, Int.reduceGT, Nat.reduceBEq, Nat.reducePow, Nat.reduceGT, reduceCtorEq, ↓reduceIte, t0, t1, t7, t10, t11, t12, t32, t33, t34, t43, t44, t45, h5, loadN_fact hx4, loadN_fact gx4]
  refine hcall.mono ?_
  rintro _ h6 ⟨S', oid', e, dd, cr, mid6, k6, pr, cr', rfl, slr, hpr⟩
  obtain ⟨-, hx6⟩ := slK mid6
  have gx6 := k6.get gx4 (fun q => by have := mid.at'.lt q; omega)
  have hkk := (call_keeps mid.inv (by omega) (hcn x hmem) cr).2.2.2.2.2
  have hrd' : pages ≤ frames → S'.reads = neN S'.frames := fun q => reads_step mid.inv (by omega) (hcn x hmem) cr (by rw [mid.pages, mid.frames]; exact q) (hrd q)
  have hrb := mid.inv.reads
  have hwr : IntKind.i64.wrap (S.reads + 1) = S.reads + 1 := by rw [IntKind.wrap_i64]; omega
  by_cases hq : x.kind = 0 ∧ e = 0 ∧ ¬ x.page ∈ zs
  · have hr1 : S'.reads = S.reads + 1 := by
      rcases hkk.2 with ⟨_, _, q3⟩ | ⟨_, q, _⟩
      · exact absurd (hcm.2 (q3 hq.1 hq.2.1)) hq.2.2
      · exact q
    obtain ⟨q1, rfl, q3⟩ := hq
    simp -dsimp (disch := first | with_reducible assumption | omega | (intro h_; cases h_; done) | (simp only [LN] <;> omega) | (simp only [LF]; done) | (repeat (first | with_reducible assumption | apply Ext.refl | apply Ext.app | (apply Ext.set <;> omega) | (refine Ext.trans ?_ (by assumption))))) only [AX, TY, gV, dstOf, p_makeFunc, p_mapUpdate, mapPut, entsOf, p_lookup, p_extract, p_nilCheck, oneV, p_load, p_store, p_binOp, p_unOp, p_indexAddr, p_index, p_box, p_build, evParts, builtinV, load1, ldc, splice, minds, disj, rcOf, isCall, touchV, idsOf, mapId, touchB, p_buildSlice, buildSliceV, reps, fillV, p_convert, p_slice, evO, p_makeSlice, sid_some, soff_some, Nat.reduceLT, Nat.reduceLeDiff, Nat.reduceEqDiff, Nat.reduceAdd, Nat.reduceMul, Int.reduceBEq, Int.reduceEq, Int.reduceNeg, Int.reduceLT, Int.reduceLE, Int.reduceAdd, Int.reduceSub, Int.reduceMul, Int.reduceToNat, Int.reduceGT, Nat.reduceBEq, Nat.reducePow, Nat.reduceGT, reduceCtorEq, ↓reduceIte, t0, t1, t7, t10, t11, t12, t32, t33, t34, loadN_fact gx6, eq_true q1, q3, hwr, loadN_fact hx6]
    refine (reads_ok mid6.at').mono ?_
    rintro _ _ ⟨rfl, rfl⟩
    rw [hr1] at hrd' ⊢
    simp -dsimp (disch := first | with_reducible assumption | omega | (intro h_; cases h_; done) | (simp only [LN] <;> omega) | (simp only [LF]; done) | (repeat (first | with_reducible assumption | apply Ext.refl | apply Ext.app | (apply Ext.set <;> omega) | (refine Ext.trans ?_ (by assumption))))) only [AX, TY, gV, dstOf, p_makeFunc, p_mapUpdate, mapPut, entsOf, p_lookup, p_extract, p_nilCheck, oneV, p_load, p_store, p_binOp, p_unOp, p_indexAddr, p_index, p_box, p_build, evParts, builtinV, load1, ldc, splice, minds, disj, rcOf, isCall, touchV, idsOf, mapId, touchB, p_buildSlice, buildSliceV, reps, fillV, p_convert, p_slice, evO, p_makeSlice, sid_some, soff_some, Nat.reduceLT, Nat.reduceLeDiff, Nat.reduceEqDiff, Nat.reduceAdd, Nat.reduceMul, Int.reduceBEq, Int.reduceEq, Int.reduceNeg, Int.reduceLT, Int.reduceLE, Int.reduceAdd, Int.reduceSub, Int.reduceMul, Int.reduceToNat, Int.reduceGT, Nat.reduceBEq, Nat.reducePow, Nat.reduceGT, reduceCtorEq, ↓reduceIte, t0, t1, t7, t10, t11, t12, t32, t33, t34, wrap_in]
    refine ⟨m - 1, by omega, i + 1, S', oid', ?_⟩
    rw [hr1]
    repeat' (first | assumption | refine And.intro ?_ ?_)
    all_goals first | rfl | omega | (simp; done) | (simp; omega; done) | skip
  · have hr1 : S'.reads = S.reads := by
      rcases hkk.2 with ⟨q, _⟩ | ⟨q1, _, q3, q4, _⟩
      · exact q
      · refine absurd ⟨q1, q3, fun z => ?_⟩ hq
        obtain ⟨i', hi'⟩ := hcm.1 z
        rw [q4] at hi'; cases hi'
    have fin : ∀ τ : Tp, True := fun _ => trivial
    by_cases q1 : x.kind = 0
    · by_cases q2 : e = 0
      · have q3 : x.page ∈ zs := Classical.byContradiction fun z => hq ⟨q1, q2, z⟩
        subst q2
        simp -dsimp (disch := first | with_reducible assumption | omega | (intro h_; cases h_; done) | (simp only [LN] <;> omega) | (simp only [LF]; done) | (repeat (first | with_reducible assumption | apply Ext.refl | apply Ext.app | (apply Ext.set <;> omega) | (refine Ext.trans ?_ (by assumption))))) only [AX, TY, gV, dstOf, p_makeFunc, p_mapUpdate, mapPut, entsOf, p_lookup, p_extract, p_nilCheck, oneV, p_load, p_store, p_binOp, p_unOp, p_indexAddr, p_index, p_box, p_build, evParts, builtinV, load1, ldc, splice, minds, disj, rcOf, isCall, touchV, idsOf, mapId, touchB, p_buildSlice, buildSliceV, reps, fillV, p_convert, p_slice, evO, p_makeSlice, sid_some, soff_some, Nat.reduceLT, Nat.reduceLeDiff, Nat.reduceEqDiff, Nat.reduceAdd, Nat.reduceMul, Int.reduceBEq, Int.reduceEq, Int.reduceNeg, Int.reduceLT, Int.reduceLE, Int.reduceAdd, Int.reduceSub, Int.reduceMul, Int.reduceToNat, Int.reduceGT, Nat.reduceBEq, Nat.reducePow, Nat.reduceGT, reduceCtorEq, ↓reduceIte, t0, t1, t7, t10, t11, t12, t32, t33, t34, loadN_fact gx6, eq_true q1, eq_true q3, loadN_fact hx6]
        refine (reads_ok mid6.at').mono ?_
        rintro _ _ ⟨rfl, rfl⟩
        rw [hr1] at hrd' ⊢
        simp -dsimp (disch := first | with_reducible assumption | omega | (intro h_; cases h_; done) | (simp only [LN] <;> omega) | (simp only [LF]; done) | (repeat (first | with_reducible assumption | apply Ext.refl | apply Ext.app | (apply Ext.set <;> omega) | (refine Ext.trans ?_ (by assumption))))) only [AX, TY, gV, dstOf, p_makeFunc, p_mapUpdate, mapPut, entsOf, p_lookup, p_extract, p_nilCheck, oneV, p_load, p_store, p_binOp, p_unOp, p_indexAddr, p_index, p_box, p_build, evParts, builtinV, load1, ldc, splice, minds, disj, rcOf, isCall, touchV, idsOf, mapId, touchB, p_buildSlice, buildSliceV, reps, fillV, p_convert, p_slice, evO, p_makeSlice, sid_some, soff_some, Nat.reduceLT, Nat.reduceLeDiff, Nat.reduceEqDiff, Nat.reduceAdd, Nat.reduceMul, Int.reduceBEq, Int.reduceEq, Int.reduceNeg, Int.reduceLT, Int.reduceLE, Int.reduceAdd, Int.reduceSub, Int.reduceMul, Int.reduceToNat, Int.reduceGT, Nat.reduceBEq, Nat.reducePow, Nat.reduceGT, reduceCtorEq, ↓reduceIte, t0, t1, t7, t10, t11, t12, t32, t33, t34, wrap_in]
        refine ⟨m - 1, by omega, i + 1, S', oid', ?_⟩
        rw [hr1]
        repeat' (first | assumption | refine And.intro ?_ ?_)
        all_goals first | rfl | omega | (simp; done) | (simp; omega; done) | skip
      · simp -dsimp (disch := first | with_reducible assumption | omega | (intro h_; cases h_; done) | (simp only [LN] <;> omega) | (simp only [LF]; done) | (repeat (first | with_reducible assumption | apply Ext.refl | apply Ext.app | (apply Ext.set <;> omega) | (refine Ext.trans ?_ (by assumption))))) only [AX, TY, gV, dstOf, p_makeFunc, p_mapUpdate, mapPut, entsOf, p_lookup, p_extract, p_nilCheck, oneV, p_load, p_store, p_binOp, p_unOp, p_indexAddr, p_index, p_box, p_build, evParts, builtinV, load1, ldc, splice, minds, disj, rcOf, isCall, touchV, idsOf, mapId, touchB, p_buildSlice, buildSliceV, reps, fillV, p_convert, p_slice, evO, p_makeSlice, sid_some, soff_some, Nat.reduceLT, Nat.reduceLeDiff, Nat.reduceEqDiff, Nat.reduceAdd, Nat.reduceMul, Int.reduceBEq, Int.reduceEq, Int.reduceNeg, Int.reduceLT, Int.reduceLE, Int.reduceAdd, Int.reduceSub, Int.reduceMul, Int.reduceToNat, Int.reduceGT, Nat.reduceBEq, Nat.reducePow, Nat.reduceGT, reduceCtorEq, ↓reduceIte, t0, t1, t7, t10, t11, t12, t32, t33, t34, loadN_fact gx6, eq_true q1, q2, loadN_fact hx6]
        refine (reads_ok mid6.at').mono ?_
        rintro _ _ ⟨rfl, rfl⟩
        rw [hr1] at hrd' ⊢
        simp -dsimp (disch := first | with_reducible assumption | omega | (intro h_; cases h_; done) | (simp only [LN] <;> omega) | (simp only [LF]; done) | (repeat (first | with_reducible assumption | apply Ext.refl | apply Ext.app | (apply Ext.set <;> omega) | (refine Ext.trans ?_ (by assumption))))) only [AX, TY, gV, dstOf, p_makeFunc, p_mapUpdate, mapPut, entsOf, p_lookup, p_extract, p_nilCheck, oneV, p_load, p_store, p_binOp, p_unOp, p_indexAddr, p_index, p_box, p_build, evParts, builtinV, load1, ldc, splice, minds, disj, rcOf, isCall, touchV, idsOf, mapId, touchB, p_buildSlice, buildSliceV, reps, fillV, p_convert, p_slice, evO, p_makeSlice, sid_some, soff_some, Nat.reduceLT, Nat.reduceLeDiff, Nat.reduceEqDiff, Nat.reduceAdd, Nat.reduceMul, Int.reduceBEq, Int.reduceEq, Int.reduceNeg, Int.reduceLT, Int.reduceLE, Int.reduceAdd, Int.reduceSub, Int.reduceMul, Int.reduceToNat, Int.reduceGT, Nat.reduceBEq, Nat.reducePow, Nat.reduceGT, reduceCtorEq, ↓reduceIte, t0, t1, t7, t10, t11, t12, t32, t33, t34, wrap_in]
        refine ⟨m - 1, by omega, i + 1, S', oid', ?_⟩
        rw [hr1]
        repeat' (first | assumption | refine And.intro ?_ ?_)
        all_goals first | rfl | omega | (simp; done) | (simp; omega; done) | skip
    · simp -dsimp (disch := first | with_reducible assumption | omega | (intro h_; cases h_; done) | (simp only [LN] <;> omega) | (simp only [LF]; done) | (repeat (first | with_reducible assumption | apply Ext.refl | apply Ext.app | (apply Ext.set <;> omega) | (refine Ext.trans ?_ (by assumption))))) only [AX, TY, gV, dstOf, p_makeFunc, p_mapUpdate, mapPut, entsOf, p_lookup, p_extract, p_nilCheck, oneV, p_load, p_store, p_binOp, p_unOp, p_indexAddr, p_index, p_box, p_build, evParts, builtinV, load1, ldc, splice, minds, disj, rcOf, isCall, touchV, idsOf, mapId, touchB, p_buildSlice, buildSliceV, reps, fillV, p_convert, p_slice, evO, p_makeSlice, sid_some, soff_some, Nat.reduceLT, Nat.reduceLeDiff, Nat.reduceEqDiff, Nat.reduceAdd, Nat.reduceMul, Int.reduceBEq, Int.reduceEq, Int.reduceNeg, Int.reduceLT, Int.reduceLE, Int.reduceAdd, Int.reduceSub, Int.reduceMul, Int.reduceToNat, Int.reduceGT, Nat.reduceBEq, Nat.reducePow, Nat.reduceGT, reduceCtorEq, ↓reduceIte, t0, t1, t7, t10, t11, t12, t32, t33, t34, loadN_fact gx6, q1, loadN_fact hx6]
      refine (reads_ok mid6.at').mono ?_
      rintro _ _ ⟨rfl, rfl⟩
      rw [hr1] at hrd' ⊢
      simp -dsimp (disch := first | with_reducible assumption | omega | (intro h_; cases h_; done) | (simp only [LN] <;> omega) | (simp only [LF]; done) | (repeat (first | with_reducible assumption | apply Ext.refl | apply Ext.app | (apply Ext.set <;> omega) | (refine Ext.trans ?_ (by assumption))))) only [AX, TY, gV, dstOf, p_makeFunc, p_mapUpdate, mapPut, entsOf, p_lookup, p_extract, p_nilCheck, oneV, p_load, p_store, p_binOp, p_unOp, p_indexAddr, p_index, p_box, p_build, evParts, builtinV, load1, ldc, splice, minds, disj, rcOf, isCall, touchV, idsOf, mapId, touchB, p_buildSlice, buildSliceV, reps, fillV, p_convert, p_slice, evO, p_makeSlice, sid_some, soff_some, Nat.reduceLT, Nat.reduceLeDiff, Nat.reduceEqDiff, Nat.reduceAdd, Nat.reduceMul, Int.reduceBEq, Int.reduceEq, Int.reduceNeg, Int.reduceLT, Int.reduceLE, Int.reduceAdd, Int.reduceSub, Int.reduceMul, Int.reduceToNat, Int.reduceGT, Nat.reduceBEq, Nat.reducePow, Nat.reduceGT, reduceCtorEq, ↓reduceIte, t0, t1, t7, t10, t11, t12, t32, t33, t34, wrap_in]
      refine ⟨m - 1, by omega, i + 1, S', oid', ?_⟩
      rw [hr1]
      repeat' (first | assumption | refine And.intro ?_ ?_)
      all_goals first | rfl | omega | (simp; done) | (simp; omega; done) | skip
end Go.Proofs.YtmjfhckioaempaaA
