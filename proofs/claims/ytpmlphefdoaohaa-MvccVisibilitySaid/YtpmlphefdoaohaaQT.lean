/- Words of this session: chapter 22: sorting, compacting row identifiers. Words of this session: chapter 22: compacting row identifiers; Normalize. -/
import Derived.Test.YtpmlphefdoaohaaQJ
import Derived.Test.YtpmlphefdoaohaaAx38
namespace Go.Proofs.YtpmlphefdoaohaaA
open Go Go.Proofs Go.RowKit
set_option linter.unusedVariables false
set_option linter.unusedSimpArgs false
set_option maxRecDepth 10000
set_option maxHeartbeats 2000000
theorem rid_w (ys : List Rid) : ∀ y ∈ ys, (Rid.enc y).length = 2 := fun _ _ => rfl
theorem rid_l (ys : List Rid) : ∀ y ∈ ys, (Rid.enc y).all V.leaf = true := fun _ _ => rfl
/-- What sorting gives to a slice of the call's own. -/
theorem Gr.sorted {b : Nat} {h : Heap} {p : Option (Nat × Nat)} {c oid : Option Nat} {ys : List Rid} (g : Gr b h p c oid 2 Rid.enc ys) (h1 : 1 ≤ ys.length) : ∃ h', callE Try.prog hk 46 [.slice p ys.length c, .func 47 [] []] h = some (.tuple [], h') ∧ Gr b h' p c oid 2 Rid.enc (srtL cmpR ys) ∧ h'.length = h.length ∧ ∀ i, oid ≠ some i → h'[i]? = h[i]? := by
  have hperm : (srtL cmpR ys).Perm ys := List.mergeSort_perm _ _
  have hlen := hperm.length_eq
  rcases g.kind with ⟨rfl, _, _⟩ | ⟨id, off, C, kd, rfl, rfl, e3, e4⟩
  · have := g.sl.nil rfl
    subst this; simp at h1
  have hlt := lt_of_some e3
  obtain ⟨C', k', r1, r2, r3⟩ := g.sl.reads id off rfl
  rw [e3] at r1; cases r1
  have hfl := flat_of_reads g.sl.width r2 r3
  have hkd : kd ≠ .ro := by
    rcases e4 with ⟨_, q⟩ | ⟨_, rfl, _⟩
    · exact q
    · simp
  have hdrop : C.drop off = ys.flatMap Rid.enc ++ C.drop (off + ys.length * 2) := by
    rw [← hfl, ← List.drop_drop, List.take_append_drop]
  have hrows : rowsOf 2 Rid.dec ys.length (C.drop off) = some ys := by rw [hdrop]; exact rowsOf_enc Rid.elm ys _
  have hw2 : ∀ z ∈ srtL cmpR ys, (Rid.enc z).length = 2 := rid_w _
  have hflen := flatMap_len hw2
  rw [hlen] at hflen
  refine ⟨h.set id (.cells (splice C off ((srtL cmpR ys).flatMap Rid.enc)) kd), ?_, ⟨?_, .inr ⟨id, off, splice C off ((srtL cmpR ys).flatMap Rid.enc), kd, rfl, rfl, set_same _ hlt, ?_⟩, g.base, rid_l _⟩, by simp, fun i hi => List.getElem?_set_ne fun e => hi (by rw [e])⟩
  · rw [hk46]
    unfold srtHook
    simp only [e3, hrows]
    have hs := g.sl.small
    rw [if_pos ⟨trivial, hkd, r2, h1, by omega⟩]
  · refine Sl.at (set_same _ hlt) hw2 ?_ ?_ (by rw [hlen]; exact g.sl.small)
    · unfold splice; simp only [List.length_append, List.length_take, List.length_drop, hflen]; omega
    · unfold splice
      rw [List.append_assoc, List.drop_left' (by rw [List.length_take]; omega), hlen, List.take_left' hflen]
  · have hsl : (splice C off ((srtL cmpR ys).flatMap Rid.enc)).length = C.length := by
      unfold splice; simp only [List.length_append, List.length_take, List.length_drop, hflen]; omega
    rw [hsl, hlen]
    rcases e4 with ⟨q, q2⟩ | ⟨q, q2, q3⟩
    · exact .inl ⟨q, q2⟩
    · exact .inr ⟨q, q2, q3⟩
theorem len64_0 {h : Heap} : WR (callE Try.prog hk0 71 [.int .u64 0] h) fun r h' => h = h' ∧ r = .int .i64 0 := by
  refine WR.call (hH := rfl) Try.func71 rfl (n := 25) rfl rfl (by simp) ?_
  simp -dsimp (disch := first | with_reducible assumption | omega | (intro h_; cases h_; done) | (simp only [LN] <;> omega) | (simp only [LF]; done) | (repeat (first | with_reducible assumption | apply Ext.refl | apply Ext.app | (apply Ext.set <;> omega) | (refine Ext.trans ?_ (by assumption))))) only [AX, TY, gV, dstOf, p_makeFunc, p_mapUpdate, mapPut, entsOf, p_lookup, p_extract, p_nilCheck, oneV, p_load, p_store, p_binOp, p_unOp, p_indexAddr, p_index, p_box, p_build, evParts, builtinV, load1, ldc, splice, minds, disj, rcOf, isCall, touchV, idsOf, mapId, touchB, p_buildSlice, buildSliceV, reps, fillV, p_convert, p_slice, evO, p_makeSlice, sid_some, soff_some, Nat.reduceLT, Nat.reduceLeDiff, Nat.reduceEqDiff, Nat.reduceAdd, Nat.reduceMul, Int.reduceBEq, Int.reduceEq, Int.reduceNeg, Int.reduceLT, Int.reduceLE, Int.reduceAdd, Int.reduceSub, Int.reduceMul, Int.reduceToNat, Int.reduceGT, Nat.reduceBEq, Nat.reducePow, Nat.reduceGT, reduceCtorEq, ↓reduceIte]
  refine WR.mono (K := fun r hh => h = hh ∧ r = .int .u8 0) ⟨_, _, rfl, rfl, rfl⟩ ?_
  rintro _ _ ⟨rfl, rfl⟩
  simp -dsimp (disch := first | with_reducible assumption | omega | (intro h_; cases h_; done) | (simp only [LN] <;> omega) | (simp only [LF]; done) | (repeat (first | with_reducible assumption | apply Ext.refl | apply Ext.app | (apply Ext.set <;> omega) | (refine Ext.trans ?_ (by assumption))))) only [AX, TY, gV, dstOf, p_makeFunc, p_mapUpdate, mapPut, entsOf, p_lookup, p_extract, p_nilCheck, oneV, p_load, p_store, p_binOp, p_unOp, p_indexAddr, p_index, p_box, p_build, evParts, builtinV, load1, ldc, splice, minds, disj, rcOf, isCall, touchV, idsOf, mapId, touchB, p_buildSlice, buildSliceV, reps, fillV, p_convert, p_slice, evO, p_makeSlice, sid_some, soff_some, Nat.reduceLT, Nat.reduceLeDiff, Nat.reduceEqDiff, Nat.reduceAdd, Nat.reduceMul, Int.reduceBEq, Int.reduceEq, Int.reduceNeg, Int.reduceLT, Int.reduceLE, Int.reduceAdd, Int.reduceSub, Int.reduceMul, Int.reduceToNat, Int.reduceGT, Nat.reduceBEq, Nat.reducePow, Nat.reduceGT, reduceCtorEq, ↓reduceIte]
  rfl
theorem wpc_no {P : Program} {H : Hooks} {n : Nat} {a b : Code} {Q : Post} {τ : Tp} {h : Heap} : wpc P H n (.cond (.const (.bool false)) a b) Q τ h = wpc P H n b Q τ h := by
  apply propext
  constructor
  · rintro ⟨v, h1, h2⟩
    cases h1
    rw [WC_false] at h2
    exact h2
  · intro q
    refine ⟨.bool false, rfl, ?_⟩
    rw [WC_false]; exact q
theorem len_0 {h : Heap} : WR (callE Try.prog hk0 54 [.int .u64 0] h) fun r h' => h = h' ∧ r = .int .i64 0 := by
  refine WR.call (hH := rfl) Try.func54 rfl (n := 8) rfl rfl (by simp) ?_
  simp -dsimp (disch := first | with_reducible assumption | omega | (intro h_; cases h_; done) | (simp only [LN] <;> omega) | (simp only [LF]; done) | (repeat (first | with_reducible assumption | apply Ext.refl | apply Ext.app | (apply Ext.set <;> omega) | (refine Ext.trans ?_ (by assumption))))) only [AX, TY, gV, dstOf, p_makeFunc, p_mapUpdate, mapPut, entsOf, p_lookup, p_extract, p_nilCheck, oneV, p_load, p_store, p_binOp, p_unOp, p_indexAddr, p_index, p_box, p_build, evParts, builtinV, load1, ldc, splice, minds, disj, rcOf, isCall, touchV, idsOf, mapId, touchB, p_buildSlice, buildSliceV, reps, fillV, p_convert, p_slice, evO, p_makeSlice, sid_some, soff_some, Nat.reduceLT, Nat.reduceLeDiff, Nat.reduceEqDiff, Nat.reduceAdd, Nat.reduceMul, Int.reduceBEq, Int.reduceEq, Int.reduceNeg, Int.reduceLT, Int.reduceLE, Int.reduceAdd, Int.reduceSub, Int.reduceMul, Int.reduceToNat, Int.reduceGT, Nat.reduceBEq, Nat.reducePow, Nat.reduceGT, reduceCtorEq, ↓reduceIte]
  rw [wpc_no]
  simp -dsimp (disch := first | with_reducible assumption | omega | (intro h_; cases h_; done) | (simp only [LN] <;> omega) | (simp only [LF]; done) | (repeat (first | with_reducible assumption | apply Ext.refl | apply Ext.app | (apply Ext.set <;> omega) | (refine Ext.trans ?_ (by assumption))))) only [AX, TY, gV, dstOf, p_makeFunc, p_mapUpdate, mapPut, entsOf, p_lookup, p_extract, p_nilCheck, oneV, p_load, p_store, p_binOp, p_unOp, p_indexAddr, p_index, p_box, p_build, evParts, builtinV, load1, ldc, splice, minds, disj, rcOf, isCall, touchV, idsOf, mapId, touchB, p_buildSlice, buildSliceV, reps, fillV, p_convert, p_slice, evO, p_makeSlice, sid_some, soff_some, Nat.reduceLT, Nat.reduceLeDiff, Nat.reduceEqDiff, Nat.reduceAdd, Nat.reduceMul, Int.reduceBEq, Int.reduceEq, Int.reduceNeg, Int.reduceLT, Int.reduceLE, Int.reduceAdd, Int.reduceSub, Int.reduceMul, Int.reduceToNat, Int.reduceGT, Nat.reduceBEq, Nat.reducePow, Nat.reduceGT, reduceCtorEq, ↓reduceIte]
  refine len64_0.mono ?_
  rintro _ _ ⟨rfl, rfl⟩
  simp -dsimp (disch := first | with_reducible assumption | omega | (intro h_; cases h_; done) | (simp only [LN] <;> omega) | (simp only [LF]; done) | (repeat (first | with_reducible assumption | apply Ext.refl | apply Ext.app | (apply Ext.set <;> omega) | (refine Ext.trans ?_ (by assumption))))) only [AX, TY, gV, dstOf, p_makeFunc, p_mapUpdate, mapPut, entsOf, p_lookup, p_extract, p_nilCheck, oneV, p_load, p_store, p_binOp, p_unOp, p_indexAddr, p_index, p_box, p_build, evParts, builtinV, load1, ldc, splice, minds, disj, rcOf, isCall, touchV, idsOf, mapId, touchB, p_buildSlice, buildSliceV, reps, fillV, p_convert, p_slice, evO, p_makeSlice, sid_some, soff_some, Nat.reduceLT, Nat.reduceLeDiff, Nat.reduceEqDiff, Nat.reduceAdd, Nat.reduceMul, Int.reduceBEq, Int.reduceEq, Int.reduceNeg, Int.reduceLT, Int.reduceLE, Int.reduceAdd, Int.reduceSub, Int.reduceMul, Int.reduceToNat, Int.reduceGT, Nat.reduceBEq, Nat.reducePow, Nat.reduceGT, reduceCtorEq, ↓reduceIte]
theorem ins_0 {h : Heap} (v : V) (f : V) : WR (callE Try.prog hk0 62 [v, .int .i64 0, .int .i64 0, f] h) fun r h' => h = h' := by
  refine WR.call (hH := rfl) Try.func62 rfl (n := 53) rfl rfl (by simp) ?_
  simp -dsimp (disch := first | with_reducible assumption | omega | (intro h_; cases h_; done) | (simp only [LN] <;> omega) | (simp only [LF]; done) | (repeat (first | with_reducible assumption | apply Ext.refl | apply Ext.app | (apply Ext.set <;> omega) | (refine Ext.trans ?_ (by assumption))))) only [AX, TY, gV, dstOf, p_makeFunc, p_mapUpdate, mapPut, entsOf, p_lookup, p_extract, p_nilCheck, oneV, p_load, p_store, p_binOp, p_unOp, p_indexAddr, p_index, p_box, p_build, evParts, builtinV, load1, ldc, splice, minds, disj, rcOf, isCall, touchV, idsOf, mapId, touchB, p_buildSlice, buildSliceV, reps, fillV, p_convert, p_slice, evO, p_makeSlice, sid_some, soff_some, Nat.reduceLT, Nat.reduceLeDiff, Nat.reduceEqDiff, Nat.reduceAdd, Nat.reduceMul, Int.reduceBEq, Int.reduceEq, Int.reduceNeg, Int.reduceLT, Int.reduceLE, Int.reduceAdd, Int.reduceSub, Int.reduceMul, Int.reduceToNat, Int.reduceGT, Nat.reduceBEq, Nat.reducePow, Nat.reduceGT, reduceCtorEq, ↓reduceIte]
  refine W.loop (fun m τ hh => h = hh ∧ τ 8 = .int .i64 1 ∧ τ 2 = .int .i64 0) ?_ (m := 0) ?_
  rotate_left
  · exact ⟨rfl, rfl, rfl⟩
  rintro m τ _ ⟨rfl, t8, t2⟩
  simp -dsimp (disch := first | with_reducible assumption | omega | (intro h_; cases h_; done) | (simp only [LN] <;> omega) | (simp only [LF]; done) | (repeat (first | with_reducible assumption | apply Ext.refl | apply Ext.app | (apply Ext.set <;> omega) | (refine Ext.trans ?_ (by assumption))))) only [AX, TY, gV, dstOf, p_makeFunc, p_mapUpdate, mapPut, entsOf, p_lookup, p_extract, p_nilCheck, oneV, p_load, p_store, p_binOp, p_unOp, p_indexAddr, p_index, p_box, p_build, evParts, builtinV, load1, ldc, splice, minds, disj, rcOf, isCall, touchV, idsOf, mapId, touchB, p_buildSlice, buildSliceV, reps, fillV, p_convert, p_slice, evO, p_makeSlice, sid_some, soff_some, Nat.reduceLT, Nat.reduceLeDiff, Nat.reduceEqDiff, Nat.reduceAdd, Nat.reduceMul, Int.reduceBEq, Int.reduceEq, Int.reduceNeg, Int.reduceLT, Int.reduceLE, Int.reduceAdd, Int.reduceSub, Int.reduceMul, Int.reduceToNat, Int.reduceGT, Nat.reduceBEq, Nat.reducePow, Nat.reduceGT, reduceCtorEq, ↓reduceIte, t8, t2]
  exact ⟨_, rfl⟩
theorem pdq_0 {h : Heap} (v : V) (f : V) : WR (callE Try.prog hk0 53 [v, .int .i64 0, .int .i64 0, .int .i64 0, f] h) fun r h' => h = h' := by
  refine WR.call (hH := rfl) Try.func53 rfl (n := 148) rfl rfl (by simp) ?_
  simp -dsimp (disch := first | with_reducible assumption | omega | (intro h_; cases h_; done) | (simp only [LN] <;> omega) | (simp only [LF]; done) | (repeat (first | with_reducible assumption | apply Ext.refl | apply Ext.app | (apply Ext.set <;> omega) | (refine Ext.trans ?_ (by assumption))))) only [AX, TY, gV, dstOf, p_makeFunc, p_mapUpdate, mapPut, entsOf, p_lookup, p_extract, p_nilCheck, oneV, p_load, p_store, p_binOp, p_unOp, p_indexAddr, p_index, p_box, p_build, evParts, builtinV, load1, ldc, splice, minds, disj, rcOf, isCall, touchV, idsOf, mapId, touchB, p_buildSlice, buildSliceV, reps, fillV, p_convert, p_slice, evO, p_makeSlice, sid_some, soff_some, Nat.reduceLT, Nat.reduceLeDiff, Nat.reduceEqDiff, Nat.reduceAdd, Nat.reduceMul, Int.reduceBEq, Int.reduceEq, Int.reduceNeg, Int.reduceLT, Int.reduceLE, Int.reduceAdd, Int.reduceSub, Int.reduceMul, Int.reduceToNat, Int.reduceGT, Nat.reduceBEq, Nat.reducePow, Nat.reduceGT, reduceCtorEq, ↓reduceIte]
  refine W.loop (fun m τ hh => h = hh ∧ τ 0 = v ∧ τ 1 = .int .i64 0 ∧ τ 2 = .int .i64 0 ∧ τ 4 = f) ?_ (m := 0) ?_
  rotate_left
  · exact ⟨rfl, rfl, rfl, rfl, rfl⟩
  rintro m τ _ ⟨rfl, t0, t1, t2, t4⟩
  have hw0 : IntKind.i64.wrap 0 = 0 := rfl
  simp -dsimp (disch := first | with_reducible assumption | omega | (intro h_; cases h_; done) | (simp only [LN] <;> omega) | (simp only [LF]; done) | (repeat (first | with_reducible assumption | apply Ext.refl | apply Ext.app | (apply Ext.set <;> omega) | (refine Ext.trans ?_ (by assumption))))) only [AX, TY, gV, dstOf, p_makeFunc, p_mapUpdate, mapPut, entsOf, p_lookup, p_extract, p_nilCheck, oneV, p_load, p_store, p_binOp, p_unOp, p_indexAddr, p_index, p_box, p_build, evParts, builtinV, load1, ldc, splice, minds, disj, rcOf, isCall, touchV, idsOf, mapId, touchB, p_buildSlice, buildSliceV, reps, fillV, p_convert, p_slice, evO, p_makeSlice, sid_some, soff_some, Nat.reduceLT, Nat.reduceLeDiff, Nat.reduceEqDiff, Nat.reduceAdd, Nat.reduceMul, Int.reduceBEq, Int.reduceEq, Int.reduceNeg, Int.reduceLT, Int.reduceLE, Int.reduceAdd, Int.reduceSub, Int.reduceMul, Int.reduceToNat, Int.reduceGT, Nat.reduceBEq, Nat.reducePow, Nat.reduceGT, reduceCtorEq, ↓reduceIte, t0, t1, t2, t4, hw0]
  refine (ins_0 v f).mono ?_
  rintro _ _ rfl
  simp -dsimp (disch := first | with_reducible assumption | omega | (intro h_; cases h_; done) | (simp only [LN] <;> omega) | (simp only [LF]; done) | (repeat (first | with_reducible assumption | apply Ext.refl | apply Ext.app | (apply Ext.set <;> omega) | (refine Ext.trans ?_ (by assumption))))) only [AX, TY, gV, dstOf, p_makeFunc, p_mapUpdate, mapPut, entsOf, p_lookup, p_extract, p_nilCheck, oneV, p_load, p_store, p_binOp, p_unOp, p_indexAddr, p_index, p_box, p_build, evParts, builtinV, load1, ldc, splice, minds, disj, rcOf, isCall, touchV, idsOf, mapId, touchB, p_buildSlice, buildSliceV, reps, fillV, p_convert, p_slice, evO, p_makeSlice, sid_some, soff_some, Nat.reduceLT, Nat.reduceLeDiff, Nat.reduceEqDiff, Nat.reduceAdd, Nat.reduceMul, Int.reduceBEq, Int.reduceEq, Int.reduceNeg, Int.reduceLT, Int.reduceLE, Int.reduceAdd, Int.reduceSub, Int.reduceMul, Int.reduceToNat, Int.reduceGT, Nat.reduceBEq, Nat.reducePow, Nat.reduceGT, reduceCtorEq, ↓reduceIte, t0, t1, t2, t4]
theorem sort_nil {h : Heap} {p : Option (Nat × Nat)} {c : Option Nat} : WR (callE Try.prog hk 46 [.slice p 0 c, .func 47 [] []] h) fun r h' => h = h' := by
  rw [hk46]
  have hF : srtHook 2 Rid.enc Rid.dec cmpR 47 (callE Try.prog hk0 46) [.slice p 0 c, .func 47 [] []] h = callE Try.prog hk0 46 [.slice p 0 c, .func 47 [] []] h := by
    cases p with
    | none => rfl
    | some q =>
      unfold srtHook
      simp only []
      split
      · split
        · rw [if_neg (by omega)]
        · rfl
      · rfl
  rw [hF]
  refine WR.call (hH := rfl) Try.func46 rfl (n := 14) rfl rfl (by simp) ?_
  simp -dsimp (disch := first | with_reducible assumption | omega | (intro h_; cases h_; done) | (simp only [LN] <;> omega) | (simp only [LF]; done) | (repeat (first | with_reducible assumption | apply Ext.refl | apply Ext.app | (apply Ext.set <;> omega) | (refine Ext.trans ?_ (by assumption))))) only [AX, TY, gV, dstOf, p_makeFunc, p_mapUpdate, mapPut, entsOf, p_lookup, p_extract, p_nilCheck, oneV, p_load, p_store, p_binOp, p_unOp, p_indexAddr, p_index, p_box, p_build, evParts, builtinV, load1, ldc, splice, minds, disj, rcOf, isCall, touchV, idsOf, mapId, touchB, p_buildSlice, buildSliceV, reps, fillV, p_convert, p_slice, evO, p_makeSlice, sid_some, soff_some, Nat.reduceLT, Nat.reduceLeDiff, Nat.reduceEqDiff, Nat.reduceAdd, Nat.reduceMul, Int.reduceBEq, Int.reduceEq, Int.reduceNeg, Int.reduceLT, Int.reduceLE, Int.reduceAdd, Int.reduceSub, Int.reduceMul, Int.reduceToNat, Int.reduceGT, Nat.reduceBEq, Nat.reducePow, Nat.reduceGT, reduceCtorEq, ↓reduceIte]
  refine len_0.mono ?_
  rintro _ _ ⟨rfl, rfl⟩
  simp -dsimp (disch := first | with_reducible assumption | omega | (intro h_; cases h_; done) | (simp only [LN] <;> omega) | (simp only [LF]; done) | (repeat (first | with_reducible assumption | apply Ext.refl | apply Ext.app | (apply Ext.set <;> omega) | (refine Ext.trans ?_ (by assumption))))) only [AX, TY, gV, dstOf, p_makeFunc, p_mapUpdate, mapPut, entsOf, p_lookup, p_extract, p_nilCheck, oneV, p_load, p_store, p_binOp, p_unOp, p_indexAddr, p_index, p_box, p_build, evParts, builtinV, load1, ldc, splice, minds, disj, rcOf, isCall, touchV, idsOf, mapId, touchB, p_buildSlice, buildSliceV, reps, fillV, p_convert, p_slice, evO, p_makeSlice, sid_some, soff_some, Nat.reduceLT, Nat.reduceLeDiff, Nat.reduceEqDiff, Nat.reduceAdd, Nat.reduceMul, Int.reduceBEq, Int.reduceEq, Int.reduceNeg, Int.reduceLT, Int.reduceLE, Int.reduceAdd, Int.reduceSub, Int.reduceMul, Int.reduceToNat, Int.reduceGT, Nat.reduceBEq, Nat.reducePow, Nat.reduceGT, reduceCtorEq, ↓reduceIte]
  refine (pdq_0 _ _).mono ?_
  rintro _ _ rfl
  simp -dsimp (disch := first | with_reducible assumption | omega | (intro h_; cases h_; done) | (simp only [LN] <;> omega) | (simp only [LF]; done) | (repeat (first | with_reducible assumption | apply Ext.refl | apply Ext.app | (apply Ext.set <;> omega) | (refine Ext.trans ?_ (by assumption))))) only [AX, TY, gV, dstOf, p_makeFunc, p_mapUpdate, mapPut, entsOf, p_lookup, p_extract, p_nilCheck, oneV, p_load, p_store, p_binOp, p_unOp, p_indexAddr, p_index, p_box, p_build, evParts, builtinV, load1, ldc, splice, minds, disj, rcOf, isCall, touchV, idsOf, mapId, touchB, p_buildSlice, buildSliceV, reps, fillV, p_convert, p_slice, evO, p_makeSlice, sid_some, soff_some, Nat.reduceLT, Nat.reduceLeDiff, Nat.reduceEqDiff, Nat.reduceAdd, Nat.reduceMul, Int.reduceBEq, Int.reduceEq, Int.reduceNeg, Int.reduceLT, Int.reduceLE, Int.reduceAdd, Int.reduceSub, Int.reduceMul, Int.reduceToNat, Int.reduceGT, Nat.reduceBEq, Nat.reducePow, Nat.reduceGT, reduceCtorEq, ↓reduceIte]
  exact ⟨_, rfl⟩
theorem clone45_ok {h : Heap} {p : Option (Nat × Nat)} {c : Option Nat} {ys : List Rid} (hs : Sl h p 2 Rid.enc ys) (hB : ys.length * 16 ≤ 140737488355328) :
    WR (callE Try.prog hk 45 [.slice p ys.length c] h) fun r h' => Ext h h' ∧ ∃ p' c' oid, r = .slice p' ys.length c' ∧ Gr h.length h' p' c' oid 2 Rid.enc ys := by
  have hn := hs.nil'
  have hl := hs.small
  refine WR.call (hH := rfl) Try.func45 rfl (n := 8) rfl rfl (by simp) ?_
  by_cases h0 : p = none
  · simp -dsimp (disch := first | with_reducible assumption | omega | (intro h_; cases h_; done) | (simp only [LN] <;> omega) | (simp only [LF]; done) | (repeat (first | with_reducible assumption | apply Ext.refl | apply Ext.app | (apply Ext.set <;> omega) | (refine Ext.trans ?_ (by assumption))))) only [AX, TY, gV, dstOf, p_makeFunc, p_mapUpdate, mapPut, entsOf, p_lookup, p_extract, p_nilCheck, oneV, p_load, p_store, p_binOp, p_unOp, p_indexAddr, p_index, p_box, p_build, evParts, builtinV, load1, ldc, splice, minds, disj, rcOf, isCall, touchV, idsOf, mapId, touchB, p_buildSlice, buildSliceV, reps, fillV, p_convert, p_slice, evO, p_makeSlice, sid_some, soff_some, Nat.reduceLT, Nat.reduceLeDiff, Nat.reduceEqDiff, Nat.reduceAdd, Nat.reduceMul, Int.reduceBEq, Int.reduceEq, Int.reduceNeg, Int.reduceLT, Int.reduceLE, Int.reduceAdd, Int.reduceSub, Int.reduceMul, Int.reduceToNat, Int.reduceGT, Nat.reduceBEq, Nat.reducePow, Nat.reduceGT, reduceCtorEq, ↓reduceIte, h0]
    have := hs.nil h0; subst this
    refine ⟨(by (repeat (first | assumption | apply Ext.refl | apply Ext.app | (apply Ext.set <;> omega) | exact Ext.trans (by assumption) (by assumption) | (refine Ext.trans ?_ (by assumption))))), none, some 0, none, rfl, Gr.nil _ _ _ _⟩
  simp -dsimp (disch := first | with_reducible assumption | omega | (intro h_; cases h_; done) | (simp only [LN] <;> omega) | (simp only [LF]; done) | (repeat (first | with_reducible assumption | apply Ext.refl | apply Ext.app | (apply Ext.set <;> omega) | (refine Ext.trans ?_ (by assumption))))) only [AX, TY, gV, dstOf, p_makeFunc, p_mapUpdate, mapPut, entsOf, p_lookup, p_extract, p_nilCheck, oneV, p_load, p_store, p_binOp, p_unOp, p_indexAddr, p_index, p_box, p_build, evParts, builtinV, load1, ldc, splice, minds, disj, rcOf, isCall, touchV, idsOf, mapId, touchB, p_buildSlice, buildSliceV, reps, fillV, p_convert, p_slice, evO, p_makeSlice, sid_some, soff_some, Nat.reduceLT, Nat.reduceLeDiff, Nat.reduceEqDiff, Nat.reduceAdd, Nat.reduceMul, Int.reduceBEq, Int.reduceEq, Int.reduceNeg, Int.reduceLT, Int.reduceLE, Int.reduceAdd, Int.reduceSub, Int.reduceMul, Int.reduceToNat, Int.reduceGT, Nat.reduceBEq, Nat.reducePow, Nat.reduceGT, reduceCtorEq, ↓reduceIte, h0]
  obtain ⟨p', c', oid, h2, hap, gr, ho, hle, hk⟩ := clone_app (bytes := 16) (b := h.length) (c := c) (hs.ext (hh := h ++ [O.cells [] .rw]) (by (repeat (first | assumption | apply Ext.refl | apply Ext.app | (apply Ext.set <;> omega) | exact Ext.trans (by assumption) (by assumption) | (refine Ext.trans ?_ (by assumption)))))) (q := h.length) (snoc_last _ rfl) (Nat.le_refl _) (fun y _ => rfl) hB
  simp -dsimp (disch := first | with_reducible assumption | omega | (intro h_; cases h_; done) | (simp only [LN] <;> omega) | (simp only [LF]; done) | (repeat (first | with_reducible assumption | apply Ext.refl | apply Ext.app | (apply Ext.set <;> omega) | (refine Ext.trans ?_ (by assumption))))) only [AX, TY, gV, dstOf, p_makeFunc, p_mapUpdate, mapPut, entsOf, p_lookup, p_extract, p_nilCheck, oneV, p_load, p_store, p_binOp, p_unOp, p_indexAddr, p_index, p_box, p_build, evParts, builtinV, load1, ldc, splice, minds, disj, rcOf, isCall, touchV, idsOf, mapId, touchB, p_buildSlice, buildSliceV, reps, fillV, p_convert, p_slice, evO, p_makeSlice, sid_some, soff_some, Nat.reduceLT, Nat.reduceLeDiff, Nat.reduceEqDiff, Nat.reduceAdd, Nat.reduceMul, Int.reduceBEq, Int.reduceEq, Int.reduceNeg, Int.reduceLT, Int.reduceLE, Int.reduceAdd, Int.reduceSub, Int.reduceMul, Int.reduceToNat, Int.reduceGT, Nat.reduceBEq, Nat.reducePow, Nat.reduceGT, reduceCtorEq, ↓reduceIte, hap]
  refine ⟨Ext.of_keep fun i hi => ?_, p', c', oid, rfl, gr⟩
  rw [hk i (by omega) (by simp; omega), snoc_old _ hi]
end Go.Proofs.YtpmlphefdoaohaaA
namespace Go.Proofs.YtpmlphefdoaohaaA
open Go Go.Proofs Go.RowKit
set_option linter.unusedVariables false
set_option linter.unusedSimpArgs false
set_option maxRecDepth 10000
set_option maxHeartbeats 2000000
def AscR (l : List Rid) : Prop := l.Pairwise fun x y => cmpR x y < 0
def SrtR (l : List Rid) : Prop := l.Pairwise fun x y => cmpR x y ≤ 0
theorem cmpR_trans {x y z : Rid} (h1 : cmpR x y < 0) (h2 : cmpR y z < 0) : cmpR x z < 0 := by
  rw [cmpR_neg] at *; omega
theorem srt_sorted (L : List Rid) : SrtR (srtL cmpR L) := by
  have hle : ∀ x y, (cmpR x y ≤ 0) ↔ ltOf cmpR y x = false := fun x y => by unfold ltOf; rw [cmpR_swap x y]; simp
  have := List.pairwise_mergeSort (le := fun x y => decide (cmpR x y ≤ 0)) (fun a b c h1 h2 => by
    have h1 := (hle _ _).1 (of_decide_eq_true h1)
    have h2 := (hle _ _).1 (of_decide_eq_true h2)
    exact decide_eq_true ((hle _ _).2 (swoR.ntrans c b a h2 h1))) (fun a b => by
    rw [Bool.or_eq_true, decide_eq_true_eq, decide_eq_true_eq, cmpR_swap a b]; omega) L
  exact this.imp fun h => of_decide_eq_true h
/-- What is left of the first m. -/
structure CpR (ys : List Rid) (m : Nat) (P : List Rid) : Prop where
  asc : AscR P
  mem : ∀ x, x ∈ P ↔ x ∈ ys.take m
theorem CpR.same {ys P : List Rid} {m : Nat} (c : CpR ys m P) (h1 : 1 ≤ m) (hm : m < ys.length) (he : ys[m] = ys[m - 1]'(by omega)) : CpR ys (m + 1) P := by
  refine ⟨c.asc, fun x => ?_⟩
  rw [List.take_succ_eq_append_getElem hm, List.mem_append, List.mem_singleton, c.mem]
  constructor
  · exact .inl
  · rintro (h | rfl)
    · exact h
    · rw [he]
      have : ys[m - 1]'(by omega) = (ys.take m)[m - 1]'(by rw [List.length_take]; omega) := by rw [List.getElem_take]
      rw [this]; exact List.getElem_mem _
theorem CpR.next {ys P : List Rid} {m : Nat} (hs : SrtR ys) (c : CpR ys m P) (h1 : 1 ≤ m) (hm : m < ys.length) (he : ¬ ys[m] = ys[m - 1]'(by omega)) : CpR ys (m + 1) (P ++ [ys[m]]) := by
  have hp := List.pairwise_iff_getElem.1 hs
  refine ⟨?_, fun x => ?_⟩
  · unfold AscR
    rw [List.pairwise_append]
    refine ⟨c.asc, List.pairwise_singleton _ _, fun x hx y hy => ?_⟩
    rw [List.mem_singleton] at hy
    subst hy
    obtain ⟨j, hj, e⟩ := List.getElem_of_mem ((c.mem x).1 hx)
    rw [List.getElem_take] at e
    rw [List.length_take] at hj
    subst e
    have h2 := hp j m (by omega) hm (by omega)
    rcases Nat.lt_or_ge (cmpR ys[j] ys[m]).natAbs 1 with q | q
    · have h0 := cmpR_zero (show cmpR ys[j] ys[m] = 0 by omega)
      have h3 := hp (m - 1) m (by omega) hm (by omega)
      have h4 : cmpR (ys[j]'(by omega)) (ys[m - 1]'(by omega)) ≤ 0 := by
        by_cases e : j = m - 1
        · subst e; rw [cmpR_self]; omega
        · exact hp j (m - 1) (by omega) (by omega) (by omega)
      rw [h0, cmpR_swap] at h4
      exact absurd (cmpR_zero (show cmpR (ys[m - 1]'(by omega)) ys[m] = 0 by omega)).symm he
    · omega
  · rw [List.take_succ_eq_append_getElem hm, List.mem_append, List.mem_append, c.mem]
theorem CpR.one {ys : List Rid} (h : 1 ≤ ys.length) : CpR ys 1 (ys.take 1) := by
  refine ⟨?_, fun x => Iff.rfl⟩
  match ys, h with
  | y :: t, _ => exact List.pairwise_singleton _ _
theorem asc_ext : ∀ {a b : List Rid}, AscR a → AscR b → (∀ x, x ∈ a ↔ x ∈ b) → a = b := fun {a b} ha hb h => by
  have hn : ∀ {l : List Rid}, AscR l → l.Nodup := fun {l} hl => hl.imp fun {x y} hxy e => by rw [e, cmpR_self] at hxy; omega
  have hp : List.Perm a b := (List.perm_ext_iff_of_nodup (hn ha) (hn hb)).2 h
  exact hp.eq_of_pairwise (le := fun x y => cmpR x y < 0) (fun x y _ _ h1 h2 => by rw [cmpR_swap x y] at h2; omega) ha hb
theorem zz : ∀ n : Nat, (List.replicate n [V.int .i64 0, V.int .i64 0]).flatten = (List.replicate n (⟨0, 0⟩ : Rid)).flatMap Rid.enc
  | 0 => rfl
  | n + 1 => by rw [List.replicate_succ, List.replicate_succ, List.flatten_cons, List.flatMap_cons, zz n]; rfl
theorem Gr.fill {b : Nat} {h : Heap} {id off : Nat} {c : Option Nat} {zs : List Rid} (g : Gr b h (some (id, off)) c (some id) 2 Rid.enc zs) {k n : Nat} (hn : zs.length = k + n) :
    ∃ h', storeN h id (off + k * 2) (List.replicate n [V.int .i64 0, V.int .i64 0]).flatten = some h' ∧ Gr b h' (some (id, off)) c (some id) 2 Rid.enc (zs.take k ++ List.replicate n ⟨0, 0⟩) ∧ h'.length = h.length ∧ ∀ i, i ≠ id → h'[i]? = h[i]? := by
  rcases g.kind with ⟨e, _⟩ | ⟨id', off', C, kd, e, _, e3, e4⟩
  · cases e
  cases e
  have hlt := lt_of_some e3
  obtain ⟨C', k', r1, r2, r3⟩ := g.sl.reads id off rfl
  rw [e3] at r1; cases r1
  have hfl := flat_of_reads g.sl.width r2 r3
  have hkd : kd ≠ .ro := by
    rcases e4 with ⟨_, q⟩ | ⟨_, rfl, _⟩
    · exact q
    · simp
  have hz := zz n
  have hzl : ((List.replicate n (⟨0, 0⟩ : Rid)).flatMap Rid.enc).length = n * 2 := by
    have := flatMap_len (rid_w (List.replicate n (⟨0, 0⟩ : Rid)))
    rwa [List.length_replicate] at this
  have hst : storeN h id (off + k * 2) ((List.replicate n (⟨0, 0⟩ : Rid)).flatMap Rid.enc) = some (h.set id (.cells (splice C (off + k * 2) ((List.replicate n (⟨0, 0⟩ : Rid)).flatMap Rid.enc)) kd)) := storeN_of e3 hkd (by rw [hzl]; omega) (all_leaf (rid_l _))
  have hnl : (zs.take k ++ List.replicate n (⟨0, 0⟩ : Rid)).length = zs.length := by rw [List.length_append, List.length_take, List.length_replicate]; omega
  have hsl : (splice C (off + k * 2) ((List.replicate n (⟨0, 0⟩ : Rid)).flatMap Rid.enc)).length = C.length := by
    unfold splice; simp only [List.length_append, List.length_take, List.length_drop, hzl]; omega
  rw [hz]
  refine ⟨_, hst, ⟨Sl.at (set_same _ hlt) (rid_w _) ?_ ?_ (by rw [hnl]; exact g.sl.small), .inr ⟨id, off, _, kd, rfl, rfl, set_same _ hlt, ?_⟩, g.base, rid_l _⟩, by simp, fun i hi => List.getElem?_set_ne (Ne.symm hi)⟩
  · rw [hsl, hnl]; exact r2
  · rw [hnl, List.flatMap_append, ← flatMap_take (rid_w zs) k, ← hfl]
    apply List.ext_getElem?
    intro j
    unfold splice
    rw [List.getElem?_take, List.getElem?_drop]
    by_cases h1 : j < zs.length * 2
    rotate_left
    · rw [if_neg h1, List.getElem?_eq_none]
      rw [List.length_append, hzl, List.length_take, List.length_take, List.length_drop]; omega
    rw [if_pos h1]
    have hl1 : (List.take (k * 2) (List.take (zs.length * 2) (List.drop off C))).length = k * 2 := by
      rw [List.length_take, List.length_take, List.length_drop]; omega
    have hl2 : (List.take (off + k * 2) C).length = off + k * 2 := by rw [List.length_take]; omega
    by_cases h2 : j < k * 2
    · rw [List.append_assoc, List.getElem?_append_left (by omega), List.getElem?_append_left (by omega), List.getElem?_take, if_pos (by omega), List.getElem?_take, if_pos h2, List.getElem?_take, if_pos h1, List.getElem?_drop]
    · rw [List.append_assoc, List.getElem?_append_right (by omega), hl2, List.getElem?_append_left (by omega), List.getElem?_append_right (by omega), hl1]
      congr 1; omega
  · rw [hsl, hnl]; exact e4
theorem clr_48 {h h' : Heap} {id off n : Nat} {c : Option Nat} (hn : 1 ≤ n) (hs : storeN h id off (List.replicate n [V.int .i64 0, V.int .i64 0]).flatten = some h') : clearV Try.prog 48 (.slice (some (id, off)) n c) h = some (.tuple [], h') := by
  have u48 : Try.prog.underlying 48 = some (.slice 23) := by kernel_rfl
  have z23 : zerosT Try.prog 23 = some [.int .i64 0, .int .i64 0] := by kernel_rfl
  unfold clearV
  simp only [u48, z23]
  rw [if_neg (by omega)]
  unfold reps
  rw [hs]; rfl
structure LCo (b : Nat) (h : Heap) (id off : Nat) (c : Option Nat) (ys : List Rid) (i : Nat) (c2 : Option Nat) (j k : Nat) (zs : List Rid) (τ : Tp) (hh : Heap) : Prop where
  t0 : τ 0 = .slice (some (id, off)) ys.length c
  t3 : τ 3 = .int .i64 k
  t4 : τ 4 = .slice (some (id, off + i * 2)) (ys.length - i) c2
  t5 : τ 5 = .int .i64 j
  gr : Gr b hh (some (id, off)) c (some id) 2 Rid.enc zs
  len : zs.length = ys.length
  cp : CpR ys (i + j) (zs.take k)
  k1 : 1 ≤ k
  k2 : k < i + j
  ij : i + j ≤ ys.length
  j1 : 1 ≤ j
  rest : ∀ t, i + j ≤ t + 1 → zs[t]? = ys[t]?
  hl : hh.length = h.length
  fr : ∀ t, t ≠ id → hh[t]? = h[t]?
theorem compact_ok {b : Nat} {h : Heap} {p : Option (Nat × Nat)} {c oid : Option Nat} {ys : List Rid} (g : Gr b h p c oid 2 Rid.enc ys) (hso : SrtR ys) : WR (callE Try.prog hk 48 [.slice p ys.length c] h) fun r h' => (∃ zs, r = .slice p zs.length c ∧ Sl h' p 2 Rid.enc zs ∧ AscR zs ∧ (∀ x, x ∈ zs ↔ x ∈ ys)) ∧ h'.length = h.length ∧ ∀ t, oid ≠ some t → h'[t]? = h[t]? := by
  have hsm := g.sl.small
  refine WR.call (hH := rfl) Try.func48 rfl (n := 61) rfl rfl (by simp) ?_
  by_cases h2 : (ys.length : Int) < 2
  · simp -dsimp (disch := first | with_reducible assumption | omega | (intro h_; cases h_; done) | (simp only [LN] <;> omega) | (simp only [LF]; done) | (repeat (first | with_reducible assumption | apply Ext.refl | apply Ext.app | (apply Ext.set <;> omega) | (refine Ext.trans ?_ (by assumption))))) only [AX, TY, gV, dstOf, p_makeFunc, p_mapUpdate, mapPut, entsOf, p_lookup, p_extract, p_nilCheck, oneV, p_load, p_store, p_binOp, p_unOp, p_indexAddr, p_index, p_box, p_build, evParts, builtinV, load1, ldc, splice, minds, disj, rcOf, isCall, touchV, idsOf, mapId, touchB, p_buildSlice, buildSliceV, reps, fillV, p_convert, p_slice, evO, p_makeSlice, sid_some, soff_some, Nat.reduceLT, Nat.reduceLeDiff, Nat.reduceEqDiff, Nat.reduceAdd, Nat.reduceMul, Int.reduceBEq, Int.reduceEq, Int.reduceNeg, Int.reduceLT, Int.reduceLE, Int.reduceAdd, Int.reduceSub, Int.reduceMul, Int.reduceToNat, Int.reduceGT, Nat.reduceBEq, Nat.reducePow, Nat.reduceGT, reduceCtorEq, ↓reduceIte, eq_true h2]
    refine ⟨ys, rfl, g.sl, ?_, fun x => Iff.rfl⟩
    match ys, h2 with
    | [], _ => exact List.Pairwise.nil
    | [y], _ => exact List.pairwise_singleton _ _
    | y :: z :: t, h2 => simp at h2; omega
  rcases g.kind with ⟨rfl, _, _⟩ | ⟨id, off, C, kd, rfl, rfl, e3, e4⟩
  · have := g.sl.nil rfl
    subst this; simp at h2
  have hcne : ∀ a : Nat, a < ys.length → ¬ c = some a := fun a ha e => by
    rcases e4 with ⟨q, _⟩ | ⟨q, _, _⟩
    · rw [q] at e; cases e; omega
    · rw [q] at e; cases e
  have hcut : ∀ (hh : Heap) (zs : List Rid), Gr b hh (some (id, off)) c (some id) 2 Rid.enc zs → zs.length = ys.length → ∀ (a : Nat) (kk : IntKind), a < ys.length → sliceV hh 2 (some (id, off)) ys.length c (some (.int kk (a : Int))) none none = some (.slice (some (id, off + a * 2)) (ys.length - a) (c.map (· - a))) := fun hh zs gz hz a kk ha => by
    have hroom := gz.room
    rw [hz] at hroom
    rw [sliceV_lo (by omega) (by omega) hroom gz.fit, Int.toNat_natCast, if_neg (hcne a ha)]
    rfl
  simp -dsimp (disch := first | with_reducible assumption | omega | (intro h_; cases h_; done) | (simp only [LN] <;> omega) | (simp only [LF]; done) | (repeat (first | with_reducible assumption | apply Ext.refl | apply Ext.app | (apply Ext.set <;> omega) | (refine Ext.trans ?_ (by assumption))))) only [AX, TY, gV, dstOf, p_makeFunc, p_mapUpdate, mapPut, entsOf, p_lookup, p_extract, p_nilCheck, oneV, p_load, p_store, p_binOp, p_unOp, p_indexAddr, p_index, p_box, p_build, evParts, builtinV, load1, ldc, splice, minds, disj, rcOf, isCall, touchV, idsOf, mapId, touchB, p_buildSlice, buildSliceV, reps, fillV, p_convert, p_slice, evO, p_makeSlice, sid_some, soff_some, Nat.reduceLT, Nat.reduceLeDiff, Nat.reduceEqDiff, Nat.reduceAdd, Nat.reduceMul, Int.reduceBEq, Int.reduceEq, Int.reduceNeg, Int.reduceLT, Int.reduceLE, Int.reduceAdd, Int.reduceSub, Int.reduceMul, Int.reduceToNat, Int.reduceGT, Nat.reduceBEq, Nat.reducePow, Nat.reduceGT, reduceCtorEq, ↓reduceIte, h2]
  refine W.loop (fun m τ hh => h = hh ∧ ∃ i : Nat, m + i = ys.length ∧ 1 ≤ i ∧ τ 0 = .slice (some (id, off)) ys.length c ∧ τ 3 = .int .i64 i ∧ CpR ys i (ys.take i)) ?_ (m := ys.length - 1) ?_
  rotate_left
  · exact ⟨rfl, 1, by omega, Nat.le_refl _, rfl, rfl, CpR.one (by omega)⟩
  rintro m τ _ ⟨rfl, i, hm, hi1, t0, t3, cp⟩
  by_cases h3 : (i : Int) < (ys.length : Int)
  rotate_left
  · simp -dsimp (disch := first | with_reducible assumption | omega | (intro h_; cases h_; done) | (simp only [LN] <;> omega) | (simp only [LF]; done) | (repeat (first | with_reducible assumption | apply Ext.refl | apply Ext.app | (apply Ext.set <;> omega) | (refine Ext.trans ?_ (by assumption))))) only [AX, TY, gV, dstOf, p_makeFunc, p_mapUpdate, mapPut, entsOf, p_lookup, p_extract, p_nilCheck, oneV, p_load, p_store, p_binOp, p_unOp, p_indexAddr, p_index, p_box, p_build, evParts, builtinV, load1, ldc, splice, minds, disj, rcOf, isCall, touchV, idsOf, mapId, touchB, p_buildSlice, buildSliceV, reps, fillV, p_convert, p_slice, evO, p_makeSlice, sid_some, soff_some, Nat.reduceLT, Nat.reduceLeDiff, Nat.reduceEqDiff, Nat.reduceAdd, Nat.reduceMul, Int.reduceBEq, Int.reduceEq, Int.reduceNeg, Int.reduceLT, Int.reduceLE, Int.reduceAdd, Int.reduceSub, Int.reduceMul, Int.reduceToNat, Int.reduceGT, Nat.reduceBEq, Nat.reducePow, Nat.reduceGT, reduceCtorEq, ↓reduceIte, t0, t3, h3]
    rw [List.take_of_length_le (by omega)] at cp
    exact ⟨ys, rfl, g.sl, cp.asc, fun x => Iff.rfl⟩
  have hi : i < ys.length := by omega
  have hi0 : i - 1 < ys.length := by omega
  have hla := fun hh e => g.sl.load0 (hh := hh) e hi (m := 2) (by decide)
  have hlb := fun hh e => g.sl.load0 (hh := hh) e hi0 (m := 2) (by decide)
  have hw : IntKind.i64.wrap ((i : Int) - 1) = ((i - 1 : Nat) : Int) := by rw [IntKind.wrap_i64]; omega
  have hi2 : ((i - 1 : Nat) : Int) < (ys.length : Int) := by omega
  simp only [Rid.enc, sid_some, soff_some] at hla hlb
  by_cases he : ys[i] = ys[i - 1]
  rotate_left
  · have hne : ¬ (ys[i].a = ys[i - 1].a ∧ ys[i].b = ys[i - 1].b) := fun ⟨q1, q2⟩ => he (by
      cases h1 : ys[i]; cases h2 : ys[i - 1]
      rw [h1, h2] at q1 q2; simp only at q1 q2; subst q1 q2; rfl)
    have cp2 := cp.next hso hi1 hi he
    rw [← List.take_succ_eq_append_getElem hi] at cp2
    simp -dsimp (disch := first | with_reducible assumption | omega | (intro h_; cases h_; done) | (simp only [LN] <;> omega) | (simp only [LF]; done) | (repeat (first | with_reducible assumption | apply Ext.refl | apply Ext.app | (apply Ext.set <;> omega) | (refine Ext.trans ?_ (by assumption))))) only [AX, TY, gV, dstOf, p_makeFunc, p_mapUpdate, mapPut, entsOf, p_lookup, p_extract, p_nilCheck, oneV, p_load, p_store, p_binOp, p_unOp, p_indexAddr, p_index, p_box, p_build, evParts, builtinV, load1, ldc, splice, minds, disj, rcOf, isCall, touchV, idsOf, mapId, touchB, p_buildSlice, buildSliceV, reps, fillV, p_convert, p_slice, evO, p_makeSlice, sid_some, soff_some, Nat.reduceLT, Nat.reduceLeDiff, Nat.reduceEqDiff, Nat.reduceAdd, Nat.reduceMul, Int.reduceBEq, Int.reduceEq, Int.reduceNeg, Int.reduceLT, Int.reduceLE, Int.reduceAdd, Int.reduceSub, Int.reduceMul, Int.reduceToNat, Int.reduceGT, Nat.reduceBEq, Nat.reducePow, Nat.reduceGT, reduceCtorEq, ↓reduceIte, t0, t3, h3]
    refine W.drawn [(0, []), (1, [0]), (2, []), (3, []), (4, [3, 2, 1, 0]), (5, [4, 3, 2, 1, 0]), (6, [4, 3, 2, 1, 0]), (7, [3, 2, 1, 0]), (8, [3, 2, 1, 0]), (9, [])] (by decide +kernel) ?_
    simp -dsimp (disch := first | with_reducible assumption | omega | (intro h_; cases h_; done) | (simp only [LN] <;> omega) | (simp only [LF]; done) | (repeat (first | with_reducible assumption | apply Ext.refl | apply Ext.app | (apply Ext.set <;> omega) | (refine Ext.trans ?_ (by assumption))))) only [AX, TY, gV, dstOf, p_makeFunc, p_mapUpdate, mapPut, entsOf, p_lookup, p_extract, p_nilCheck, oneV, p_load, p_store, p_binOp, p_unOp, p_indexAddr, p_index, p_box, p_build, evParts, builtinV, load1, ldc, splice, minds, disj, rcOf, isCall, touchV, idsOf, mapId, touchB, p_buildSlice, buildSliceV, reps, fillV, p_convert, p_slice, evO, p_makeSlice, sid_some, soff_some, Nat.reduceLT, Nat.reduceLeDiff, Nat.reduceEqDiff, Nat.reduceAdd, Nat.reduceMul, Int.reduceBEq, Int.reduceEq, Int.reduceNeg, Int.reduceLT, Int.reduceLE, Int.reduceAdd, Int.reduceSub, Int.reduceMul, Int.reduceToNat, Int.reduceGT, Nat.reduceBEq, Nat.reducePow, Nat.reduceGT, reduceCtorEq, ↓reduceIte, t0, t3, h3, hla, hlb, hw, hi2, eql_23, eqt_23, hne, wrap_in]
    exact ⟨m - 1, by omega, i + 1, by omega, by omega, by simp, cp2⟩
  have heq : ys[i].a = ys[i - 1].a ∧ ys[i].b = ys[i - 1].b := by rw [he]; exact ⟨rfl, rfl⟩
  have hc0 := hcut h ys g rfl i
  simp -dsimp (disch := first | with_reducible assumption | omega | (intro h_; cases h_; done) | (simp only [LN] <;> omega) | (simp only [LF]; done) | (repeat (first | with_reducible assumption | apply Ext.refl | apply Ext.app | (apply Ext.set <;> omega) | (refine Ext.trans ?_ (by assumption))))) only [AX, TY, gV, dstOf, p_makeFunc, p_mapUpdate, mapPut, entsOf, p_lookup, p_extract, p_nilCheck, oneV, p_load, p_store, p_binOp, p_unOp, p_indexAddr, p_index, p_box, p_build, evParts, builtinV, load1, ldc, splice, minds, disj, rcOf, isCall, touchV, idsOf, mapId, touchB, p_buildSlice, buildSliceV, reps, fillV, p_convert, p_slice, evO, p_makeSlice, sid_some, soff_some, Nat.reduceLT, Nat.reduceLeDiff, Nat.reduceEqDiff, Nat.reduceAdd, Nat.reduceMul, Int.reduceBEq, Int.reduceEq, Int.reduceNeg, Int.reduceLT, Int.reduceLE, Int.reduceAdd, Int.reduceSub, Int.reduceMul, Int.reduceToNat, Int.reduceGT, Nat.reduceBEq, Nat.reducePow, Nat.reduceGT, reduceCtorEq, ↓reduceIte, t0, t3, h3]
  refine W.drawn [(0, []), (1, [0]), (2, []), (3, []), (4, [3, 2, 1, 0]), (5, [4, 3, 2, 1, 0]), (6, [4, 3, 2, 1, 0]), (7, [3, 2, 1, 0]), (8, [3, 2, 1, 0]), (9, [])] (by decide +kernel) ?_
  simp -dsimp (disch := first | with_reducible assumption | omega | (intro h_; cases h_; done) | (simp only [LN] <;> omega) | (simp only [LF]; done) | (repeat (first | with_reducible assumption | apply Ext.refl | apply Ext.app | (apply Ext.set <;> omega) | (refine Ext.trans ?_ (by assumption))))) only [AX, TY, gV, dstOf, p_makeFunc, p_mapUpdate, mapPut, entsOf, p_lookup, p_extract, p_nilCheck, oneV, p_load, p_store, p_binOp, p_unOp, p_indexAddr, p_index, p_box, p_build, evParts, builtinV, load1, ldc, splice, minds, disj, rcOf, isCall, touchV, idsOf, mapId, touchB, p_buildSlice, buildSliceV, reps, fillV, p_convert, p_slice, evO, p_makeSlice, sid_some, soff_some, Nat.reduceLT, Nat.reduceLeDiff, Nat.reduceEqDiff, Nat.reduceAdd, Nat.reduceMul, Int.reduceBEq, Int.reduceEq, Int.reduceNeg, Int.reduceLT, Int.reduceLE, Int.reduceAdd, Int.reduceSub, Int.reduceMul, Int.reduceToNat, Int.reduceGT, Nat.reduceBEq, Nat.reducePow, Nat.reduceGT, reduceCtorEq, ↓reduceIte, t0, t3, h3, hla, hlb, hw, hi2, eql_23, eqt_23, eq_true heq, hc0]
  refine W.loop (fun m' τ hh => ∃ j k zs, m' + (i + j) = ys.length ∧ LCo b h id off c ys i (c.map (· - i)) j k zs τ hh) ?_ (m := ys.length - (i + 1)) ?_
  rotate_left
  · refine ⟨1, i, ys, by omega, ?_⟩
    constructor <;> (try first | assumption | ((repeat (first | assumption | apply Ext.refl | apply Ext.app | (apply Ext.set <;> omega) | exact Ext.trans (by assumption) (by assumption) | (refine Ext.trans ?_ (by assumption)))); done) | (refine Sl.ext (by assumption) ?_; (repeat (first | assumption | apply Ext.refl | apply Ext.app | (apply Ext.set <;> omega) | exact Ext.trans (by assumption) (by assumption) | (refine Ext.trans ?_ (by assumption)))); done) | (simp -dsimp (disch := first | with_reducible assumption | omega | (intro h_; cases h_; done) | (simp only [LN] <;> omega) | (simp only [LF]; done) | (repeat (first | with_reducible assumption | apply Ext.refl | apply Ext.app | (apply Ext.set <;> omega) | (refine Ext.trans ?_ (by assumption))))) only [AX, TY, gV, dstOf, p_makeFunc, p_mapUpdate, mapPut, entsOf, p_lookup, p_extract, p_nilCheck, oneV, p_load, p_store, p_binOp, p_unOp, p_indexAddr, p_index, p_box, p_build, evParts, builtinV, load1, ldc, splice, minds, disj, rcOf, isCall, touchV, idsOf, mapId, touchB, p_buildSlice, buildSliceV, reps, fillV, p_convert, p_slice, evO, p_makeSlice, sid_some, soff_some, Nat.reduceLT, Nat.reduceLeDiff, Nat.reduceEqDiff, Nat.reduceAdd, Nat.reduceMul, Int.reduceBEq, Int.reduceEq, Int.reduceNeg, Int.reduceLT, Int.reduceLE, Int.reduceAdd, Int.reduceSub, Int.reduceMul, Int.reduceToNat, Int.reduceGT, Nat.reduceBEq, Nat.reducePow, Nat.reduceGT, reduceCtorEq, ↓reduceIte, t0, t3, Int.natCast_add, Int.natCast_one, Int.natCast_zero]; try (first | assumption | with_reducible rfl)))
    all_goals first | exact g | exact cp.same hi1 hi he | omega | rfl | (intro t _; rfl) | skip
  clear t0 t3 hm h3 hla hlb hw hi2 heq hc0
  rintro m τ hh ⟨j, k, zs, hm, t0, t3, t4, t5, gr, hzl, cpz, hk1, hk2, hij, hj1, hrest, hhl, hfr⟩
  by_cases h3 : (j : Int) < ((ys.length - i : Nat) : Int)
  rotate_left
  · have hij2 : i + j = ys.length := by omega
    rw [hij2] at cpz hk2
    obtain ⟨h', hst, gr', hl', hfr'⟩ := gr.fill (k := k) (n := ys.length - k) (by omega)
    have hclr := clr_48 (c := c.map (· - k)) (by omega) hst
    have hcutk := hcut hh zs gr hzl k
    have hlen' : (zs.take k ++ List.replicate (ys.length - k) (⟨0, 0⟩ : Rid)).length = ys.length := by rw [List.length_append, List.length_take, List.length_replicate]; omega
    obtain ⟨hhi, rs'⟩ := gr'.rs.hi (b := k) (by omega)
    rw [hlen'] at hhi
    have htk : (zs.take k ++ List.replicate (ys.length - k) (⟨0, 0⟩ : Rid)).take k = zs.take k := List.take_left' (by rw [List.length_take]; omega)
    rw [htk] at rs'
    simp -dsimp (disch := first | with_reducible assumption | omega | (intro h_; cases h_; done) | (simp only [LN] <;> omega) | (simp only [LF]; done) | (repeat (first | with_reducible assumption | apply Ext.refl | apply Ext.app | (apply Ext.set <;> omega) | (refine Ext.trans ?_ (by assumption))))) only [AX, TY, gV, dstOf, p_makeFunc, p_mapUpdate, mapPut, entsOf, p_lookup, p_extract, p_nilCheck, oneV, p_load, p_store, p_binOp, p_unOp, p_indexAddr, p_index, p_box, p_build, evParts, builtinV, load1, ldc, splice, minds, disj, rcOf, isCall, touchV, idsOf, mapId, touchB, p_buildSlice, buildSliceV, reps, fillV, p_convert, p_slice, evO, p_makeSlice, sid_some, soff_some, Nat.reduceLT, Nat.reduceLeDiff, Nat.reduceEqDiff, Nat.reduceAdd, Nat.reduceMul, Int.reduceBEq, Int.reduceEq, Int.reduceNeg, Int.reduceLT, Int.reduceLE, Int.reduceAdd, Int.reduceSub, Int.reduceMul, Int.reduceToNat, Int.reduceGT, Nat.reduceBEq, Nat.reducePow, Nat.reduceGT, reduceCtorEq, ↓reduceIte, t0, t3, t4, t5, h3, hcutk, hclr, hhi]
    refine ⟨⟨zs.take k, ?_, rs'.sl, cpz.asc, fun x => ?_⟩, by omega, fun t ht => ?_⟩
    · rw [List.length_take, Nat.min_eq_left (by omega)]
    · rw [cpz.mem, List.take_length]
    · rw [hfr' t (fun e => ht (by rw [e])), hfr t (fun e => ht (by rw [e]))]
  have hlt : i + j < ys.length := by omega
  have hz1 : zs[i + j]? = some ys[i + j] := by rw [hrest _ (by omega)]; exact List.getElem?_eq_getElem hlt
  have hz0 : zs[i + j - 1]? = some ys[i + j - 1] := by rw [hrest _ (by omega)]; exact List.getElem?_eq_getElem (by omega)
  have hzlt : i + j < zs.length := by omega
  have hz1' : zs[i + j] = ys[i + j] := (List.getElem?_eq_some_iff.1 hz1).2
  have hz0' : zs[i + j - 1]'(by omega) = ys[i + j - 1] := (List.getElem?_eq_some_iff.1 hz0).2
  have hla := fun g e => gr.sl.load0 (hh := g) e hzlt (m := 2) (by decide)
  have hlb := fun g e => gr.sl.load0 (hh := g) e (show i + j - 1 < zs.length by omega) (m := 2) (by decide)
  rw [hz1'] at hla
  rw [hz0'] at hlb
  have hw : IntKind.i64.wrap ((j : Int) - 1) = ((j - 1 : Nat) : Int) := by rw [IntKind.wrap_i64]; omega
  have hj2 : ((j - 1 : Nat) : Int) < ((ys.length - i : Nat) : Int) := by omega
  have ha1 : off + (i + j) * 2 = off + i * 2 + j * 2 := by rw [Nat.add_mul, Nat.add_assoc]
  have ha2 : off + (i + j - 1) * 2 = off + i * 2 + (j - 1) * 2 := by omega
  simp only [Rid.enc, sid_some, soff_some, ha1, ha2] at hla hlb
  by_cases he : ys[i + j] = ys[i + j - 1]
  · have heq : ys[i + j].a = ys[i + j - 1].a ∧ ys[i + j].b = ys[i + j - 1].b := by rw [he]; exact ⟨rfl, rfl⟩
    have cp2 := cpz.same (by omega) hlt he
    simp -dsimp (disch := first | with_reducible assumption | omega | (intro h_; cases h_; done) | (simp only [LN] <;> omega) | (simp only [LF]; done) | (repeat (first | with_reducible assumption | apply Ext.refl | apply Ext.app | (apply Ext.set <;> omega) | (refine Ext.trans ?_ (by assumption))))) only [AX, TY, gV, dstOf, p_makeFunc, p_mapUpdate, mapPut, entsOf, p_lookup, p_extract, p_nilCheck, oneV, p_load, p_store, p_binOp, p_unOp, p_indexAddr, p_index, p_box, p_build, evParts, builtinV, load1, ldc, splice, minds, disj, rcOf, isCall, touchV, idsOf, mapId, touchB, p_buildSlice, buildSliceV, reps, fillV, p_convert, p_slice, evO, p_makeSlice, sid_some, soff_some, Nat.reduceLT, Nat.reduceLeDiff, Nat.reduceEqDiff, Nat.reduceAdd, Nat.reduceMul, Int.reduceBEq, Int.reduceEq, Int.reduceNeg, Int.reduceLT, Int.reduceLE, Int.reduceAdd, Int.reduceSub, Int.reduceMul, Int.reduceToNat, Int.reduceGT, Nat.reduceBEq, Nat.reducePow, Nat.reduceGT, reduceCtorEq, ↓reduceIte, t0, t3, t4, t5, h3]
    refine W.drawn [(0, []), (1, [0]), (2, []), (3, []), (4, [3, 2, 1, 0]), (5, [4, 3, 2, 1, 0]), (6, [4, 3, 2, 1, 0]), (7, [3, 2, 1, 0]), (8, [3, 2, 1, 0]), (9, [])] (by decide +kernel) ?_
    simp -dsimp (disch := first | with_reducible assumption | omega | (intro h_; cases h_; done) | (simp only [LN] <;> omega) | (simp only [LF]; done) | (repeat (first | with_reducible assumption | apply Ext.refl | apply Ext.app | (apply Ext.set <;> omega) | (refine Ext.trans ?_ (by assumption))))) only [AX, TY, gV, dstOf, p_makeFunc, p_mapUpdate, mapPut, entsOf, p_lookup, p_extract, p_nilCheck, oneV, p_load, p_store, p_binOp, p_unOp, p_indexAddr, p_index, p_box, p_build, evParts, builtinV, load1, ldc, splice, minds, disj, rcOf, isCall, touchV, idsOf, mapId, touchB, p_buildSlice, buildSliceV, reps, fillV, p_convert, p_slice, evO, p_makeSlice, sid_some, soff_some, Nat.reduceLT, Nat.reduceLeDiff, Nat.reduceEqDiff, Nat.reduceAdd, Nat.reduceMul, Int.reduceBEq, Int.reduceEq, Int.reduceNeg, Int.reduceLT, Int.reduceLE, Int.reduceAdd, Int.reduceSub, Int.reduceMul, Int.reduceToNat, Int.reduceGT, Nat.reduceBEq, Nat.reducePow, Nat.reduceGT, reduceCtorEq, ↓reduceIte, t0, t3, t4, t5, h3, hla, hlb, hw, hj2, neq_23, eqt_23, eq_true heq, wrap_in]
    refine ⟨m - 1, by omega, j + 1, k, zs, by omega, ?_⟩
    constructor <;> (try first | assumption | ((repeat (first | assumption | apply Ext.refl | apply Ext.app | (apply Ext.set <;> omega) | exact Ext.trans (by assumption) (by assumption) | (refine Ext.trans ?_ (by assumption)))); done) | (refine Sl.ext (by assumption) ?_; (repeat (first | assumption | apply Ext.refl | apply Ext.app | (apply Ext.set <;> omega) | exact Ext.trans (by assumption) (by assumption) | (refine Ext.trans ?_ (by assumption)))); done) | (simp -dsimp (disch := first | with_reducible assumption | omega | (intro h_; cases h_; done) | (simp only [LN] <;> omega) | (simp only [LF]; done) | (repeat (first | with_reducible assumption | apply Ext.refl | apply Ext.app | (apply Ext.set <;> omega) | (refine Ext.trans ?_ (by assumption))))) only [AX, TY, gV, dstOf, p_makeFunc, p_mapUpdate, mapPut, entsOf, p_lookup, p_extract, p_nilCheck, oneV, p_load, p_store, p_binOp, p_unOp, p_indexAddr, p_index, p_box, p_build, evParts, builtinV, load1, ldc, splice, minds, disj, rcOf, isCall, touchV, idsOf, mapId, touchB, p_buildSlice, buildSliceV, reps, fillV, p_convert, p_slice, evO, p_makeSlice, sid_some, soff_some, Nat.reduceLT, Nat.reduceLeDiff, Nat.reduceEqDiff, Nat.reduceAdd, Nat.reduceMul, Int.reduceBEq, Int.reduceEq, Int.reduceNeg, Int.reduceLT, Int.reduceLE, Int.reduceAdd, Int.reduceSub, Int.reduceMul, Int.reduceToNat, Int.reduceGT, Nat.reduceBEq, Nat.reducePow, Nat.reduceGT, reduceCtorEq, ↓reduceIte, t0, t3, t4, t5, wrap_in, Int.natCast_add, Int.natCast_one, Int.natCast_zero]; try (first | assumption | with_reducible rfl)))
    all_goals first | exact gr | exact cp2 | omega | rfl | (intro t ht; exact hrest t (by omega)) | exact hfr | skip
  · have hne : ¬ (ys[i + j].a = ys[i + j - 1].a ∧ ys[i + j].b = ys[i + j - 1].b) := fun ⟨q1, q2⟩ => he (by
      cases h1 : ys[i + j]; cases h2 : ys[i + j - 1]
      rw [h1, h2] at q1 q2; simp only at q1 q2; subst q1 q2; rfl)
    have cp2 := cpz.next hso (by omega) hlt he
    have hkz : k < zs.length := by omega
    obtain ⟨h5, hst, gr5, hl5, hk5, _⟩ := gr.store0 hkz ys[i + j] rfl rfl
    have hki : (k : Int) < (ys.length : Int) := by omega
    simp only [Rid.enc, sid_some, soff_some] at hst
    have htk : (zs.set k ys[i + j]).take (k + 1) = zs.take k ++ [ys[i + j]] := by
      rw [List.take_succ_eq_append_getElem (by rw [List.length_set]; exact hkz), List.take_set_of_le (Nat.le_refl _), List.getElem_set_self]
    simp -dsimp (disch := first | with_reducible assumption | omega | (intro h_; cases h_; done) | (simp only [LN] <;> omega) | (simp only [LF]; done) | (repeat (first | with_reducible assumption | apply Ext.refl | apply Ext.app | (apply Ext.set <;> omega) | (refine Ext.trans ?_ (by assumption))))) only [AX, TY, gV, dstOf, p_makeFunc, p_mapUpdate, mapPut, entsOf, p_lookup, p_extract, p_nilCheck, oneV, p_load, p_store, p_binOp, p_unOp, p_indexAddr, p_index, p_box, p_build, evParts, builtinV, load1, ldc, splice, minds, disj, rcOf, isCall, touchV, idsOf, mapId, touchB, p_buildSlice, buildSliceV, reps, fillV, p_convert, p_slice, evO, p_makeSlice, sid_some, soff_some, Nat.reduceLT, Nat.reduceLeDiff, Nat.reduceEqDiff, Nat.reduceAdd, Nat.reduceMul, Int.reduceBEq, Int.reduceEq, Int.reduceNeg, Int.reduceLT, Int.reduceLE, Int.reduceAdd, Int.reduceSub, Int.reduceMul, Int.reduceToNat, Int.reduceGT, Nat.reduceBEq, Nat.reducePow, Nat.reduceGT, reduceCtorEq, ↓reduceIte, t0, t3, t4, t5, h3]
    refine W.drawn [(0, []), (1, [0]), (2, []), (3, []), (4, [3, 2, 1, 0]), (5, [4, 3, 2, 1, 0]), (6, [4, 3, 2, 1, 0]), (7, [3, 2, 1, 0]), (8, [3, 2, 1, 0]), (9, [])] (by decide +kernel) ?_
    simp -dsimp (disch := first | with_reducible assumption | omega | (intro h_; cases h_; done) | (simp only [LN] <;> omega) | (simp only [LF]; done) | (repeat (first | with_reducible assumption | apply Ext.refl | apply Ext.app | (apply Ext.set <;> omega) | (refine Ext.trans ?_ (by assumption))))) only [AX, TY, gV, dstOf, p_makeFunc, p_mapUpdate, mapPut, entsOf, p_lookup, p_extract, p_nilCheck, oneV, p_load, p_store, p_binOp, p_unOp, p_indexAddr, p_index, p_box, p_build, evParts, builtinV, load1, ldc, splice, minds, disj, rcOf, isCall, touchV, idsOf, mapId, touchB, p_buildSlice, buildSliceV, reps, fillV, p_convert, p_slice, evO, p_makeSlice, sid_some, soff_some, Nat.reduceLT, Nat.reduceLeDiff, Nat.reduceEqDiff, Nat.reduceAdd, Nat.reduceMul, Int.reduceBEq, Int.reduceEq, Int.reduceNeg, Int.reduceLT, Int.reduceLE, Int.reduceAdd, Int.reduceSub, Int.reduceMul, Int.reduceToNat, Int.reduceGT, Nat.reduceBEq, Nat.reducePow, Nat.reduceGT, reduceCtorEq, ↓reduceIte, t0, t3, t4, t5, h3, hla, hlb, hw, hj2, neq_23, eqt_23, hne, hki, hst, wrap_in]
    refine ⟨m - 1, by omega, j + 1, k + 1, zs.set k ys[i + j], by omega, ?_⟩
    constructor <;> (try first | assumption | ((repeat (first | assumption | apply Ext.refl | apply Ext.app | (apply Ext.set <;> omega) | exact Ext.trans (by assumption) (by assumption) | (refine Ext.trans ?_ (by assumption)))); done) | (refine Sl.ext (by assumption) ?_; (repeat (first | assumption | apply Ext.refl | apply Ext.app | (apply Ext.set <;> omega) | exact Ext.trans (by assumption) (by assumption) | (refine Ext.trans ?_ (by assumption)))); done) | (simp -dsimp (disch := first | with_reducible assumption | omega | (intro h_; cases h_; done) | (simp only [LN] <;> omega) | (simp only [LF]; done) | (repeat (first | with_reducible assumption | apply Ext.refl | apply Ext.app | (apply Ext.set <;> omega) | (refine Ext.trans ?_ (by assumption))))) only [AX, TY, gV, dstOf, p_makeFunc, p_mapUpdate, mapPut, entsOf, p_lookup, p_extract, p_nilCheck, oneV, p_load, p_store, p_binOp, p_unOp, p_indexAddr, p_index, p_box, p_build, evParts, builtinV, load1, ldc, splice, minds, disj, rcOf, isCall, touchV, idsOf, mapId, touchB, p_buildSlice, buildSliceV, reps, fillV, p_convert, p_slice, evO, p_makeSlice, sid_some, soff_some, Nat.reduceLT, Nat.reduceLeDiff, Nat.reduceEqDiff, Nat.reduceAdd, Nat.reduceMul, Int.reduceBEq, Int.reduceEq, Int.reduceNeg, Int.reduceLT, Int.reduceLE, Int.reduceAdd, Int.reduceSub, Int.reduceMul, Int.reduceToNat, Int.reduceGT, Nat.reduceBEq, Nat.reducePow, Nat.reduceGT, reduceCtorEq, ↓reduceIte, t0, t3, t4, t5, hst, wrap_in, Int.natCast_add, Int.natCast_one, Int.natCast_zero]; try (first | assumption | with_reducible rfl)))
    all_goals first | exact gr5 | (rw [htk]; exact cp2) | (rw [List.length_set]; exact hzl) | omega | rfl | skip
    · intro t ht
      rw [List.getElem?_set_ne (by omega)]; exact hrest t (by omega)
    · intro t ht
      rw [hk5 t (fun e => ht (Option.some.inj e).symm)]; exact hfr t ht
end Go.Proofs.YtpmlphefdoaohaaA
