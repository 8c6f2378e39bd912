/- Words of this session: chapter 14: the reference's Replace; the law of updates. -/
import Derived.Test.YtopbmpdcmnhfdaaPN
namespace Go.Proofs.YtopbmpdcmnhfdaaA
open Go Go.Proofs Go.RowKit
set_option linter.unusedVariables false
set_option linter.unusedSimpArgs false
set_option maxRecDepth 10000
set_option maxHeartbeats 4000000
theorem ins_rem {kd : Int} {l cell : List Int} {k : Nat} (hk : 0 ≤ kd ∧ kd ≤ 255) (hf : totalS (remC l k) ≤ 1024) (hkl : k < (cellsS l).length) : insC (layoutS kd (remC l k)) cell k = repC l cell k := by
  show (cellsS (layoutS kd (remC l k))).take k ++ [cell] ++ (cellsS (layoutS kd (remC l k))).drop k = _
  rw [lay_cells hk hf]
  unfold remC repC
  have e1 : ((cellsS l).take k ++ [] ++ (cellsS l).drop (k + 1)).take k = (cellsS l).take k := by
    rw [List.append_nil]; exact List.take_left' (by rw [List.length_take]; omega)
  have e2 : ((cellsS l).take k ++ [] ++ (cellsS l).drop (k + 1)).drop k = (cellsS l).drop (k + 1) := by
    rw [List.append_nil]; exact List.drop_left' (by rw [List.length_take]; omega)
  rw [e1, e2]
theorem rreplace_ok {h : Heap} {p pc : Option (Nat × Nat)} {c cc : Option Nat} {l cell : List Int} (hr : Rs h p c 1 eb l) (hb : Bytes l) (hc : Sl h pc 1 eb cell) (hcl : cell.length ≤ 100000) (i : Int) :
    WR (callE Try.prog hk 36 [.slice p l.length c, .int .i64 i, .slice pc cell.length cc] h) fun r h' => Ext h h' ∧ RUpR h h' l i (num l 1 - 1) (repC l cell) r := by
  refine WR.call (hH := rfl) Try.func36 rfl (n := 25) rfl rfl (by simp) ?_
  simp -dsimp (disch := first | with_reducible assumption | omega | (intro h_; cases h_; done) | (simp only [LN] <;> omega) | (simp only [LF]; done) | (repeat (first | with_reducible assumption | apply Ext.refl | apply Ext.app | (apply Ext.set <;> omega) | (refine Ext.trans ?_ (by assumption))))) only [AX, TY, gV, dstOf, p_makeFunc, p_mapUpdate, mapPut, entsOf, p_lookup, p_extract, p_nilCheck, oneV, p_load, p_store, p_binOp, p_unOp, p_indexAddr, p_index, p_box, p_build, evParts, builtinV, load1, ldc, splice, minds, disj, rcOf, isCall, touchV, idsOf, mapId, touchB, p_buildSlice, buildSliceV, reps, fillV, p_convert, p_slice, evO, p_makeSlice, sid_some, soff_some, Nat.reduceLT, Nat.reduceLeDiff, Nat.reduceEqDiff, Nat.reduceAdd, Nat.reduceMul, Int.reduceBEq, Int.reduceEq, Int.reduceNeg, Int.reduceLT, Int.reduceLE, Int.reduceAdd, Int.reduceSub, Int.reduceMul, Int.reduceToNat, Int.reduceGT, Nat.reduceBEq, Nat.reducePow, Nat.reduceGT, reduceCtorEq, ↓reduceIte]
  refine (rremove_ok hr hb i).mono ?_
  rintro r h1 ⟨e1, hU⟩
  rcases hU with ⟨v, rfl⟩ | ⟨v, ho, rfl⟩ | ⟨v, k, rfl, hkn, hB⟩
  · simp -dsimp (disch := first | with_reducible assumption | omega | (intro h_; cases h_; done) | (simp only [LN] <;> omega) | (simp only [LF]; done) | (repeat (first | with_reducible assumption | apply Ext.refl | apply Ext.app | (apply Ext.set <;> omega) | (refine Ext.trans ?_ (by assumption))))) only [AX, TY, gV, dstOf, p_makeFunc, p_mapUpdate, mapPut, entsOf, p_lookup, p_extract, p_nilCheck, oneV, p_load, p_store, p_binOp, p_unOp, p_indexAddr, p_index, p_box, p_build, evParts, builtinV, load1, ldc, splice, minds, disj, rcOf, isCall, touchV, idsOf, mapId, touchB, p_buildSlice, buildSliceV, reps, fillV, p_convert, p_slice, evO, p_makeSlice, sid_some, soff_some, Nat.reduceLT, Nat.reduceLeDiff, Nat.reduceEqDiff, Nat.reduceAdd, Nat.reduceMul, Int.reduceBEq, Int.reduceEq, Int.reduceNeg, Int.reduceLT, Int.reduceLE, Int.reduceAdd, Int.reduceSub, Int.reduceMul, Int.reduceToNat, Int.reduceGT, Nat.reduceBEq, Nat.reducePow, Nat.reduceGT, reduceCtorEq, ↓reduceIte]
    exact ⟨e1, .inl ⟨v, rfl⟩⟩
  · simp -dsimp (disch := first | with_reducible assumption | omega | (intro h_; cases h_; done) | (simp only [LN] <;> omega) | (simp only [LF]; done) | (repeat (first | with_reducible assumption | apply Ext.refl | apply Ext.app | (apply Ext.set <;> omega) | (refine Ext.trans ?_ (by assumption))))) only [AX, TY, gV, dstOf, p_makeFunc, p_mapUpdate, mapPut, entsOf, p_lookup, p_extract, p_nilCheck, oneV, p_load, p_store, p_binOp, p_unOp, p_indexAddr, p_index, p_box, p_build, evParts, builtinV, load1, ldc, splice, minds, disj, rcOf, isCall, touchV, idsOf, mapId, touchB, p_buildSlice, buildSliceV, reps, fillV, p_convert, p_slice, evO, p_makeSlice, sid_some, soff_some, Nat.reduceLT, Nat.reduceLeDiff, Nat.reduceEqDiff, Nat.reduceAdd, Nat.reduceMul, Int.reduceBEq, Int.reduceEq, Int.reduceNeg, Int.reduceLT, Int.reduceLE, Int.reduceAdd, Int.reduceSub, Int.reduceMul, Int.reduceToNat, Int.reduceGT, Nat.reduceBEq, Nat.reducePow, Nat.reduceGT, reduceCtorEq, ↓reduceIte]
    exact ⟨e1, .inr (.inl ⟨v, ho, rfl⟩)⟩
  have hkd := hb.rd 0
  have hcl' := cellsS_len hb
  have hfit : totalS (remC l k) ≤ 1024 := Nat.le_trans (sum_rem k) (total_fits hb v)
  rcases hB with ⟨_, q, cq, oq, rfl, gq⟩ | ⟨hnf, _⟩
  rotate_left
  · exact absurd hfit hnf
  have hL := lay_len hkd hfit
  have hLb := lay_b hkd (rem_b hb k)
  have hLv := lay_valid hkd hfit
  have hLc := lay_count hkd hfit
  have hLk := lay_kind hkd hfit
  have hrl := rem_len (l := l) (k := k) (by omega)
  have hins := rinsert_ok (cc := cc) gq.rs hLb (hc.ext e1) hcl (k : Int)
  have hir := fun cell => ins_rem (cell := cell) hkd hfit (k := k) (by omega)
  rw [hL] at hins
  simp -dsimp (disch := first | with_reducible assumption | omega | (intro h_; cases h_; done) | (simp only [LN] <;> omega) | (simp only [LF]; done) | (repeat (first | with_reducible assumption | apply Ext.refl | apply Ext.app | (apply Ext.set <;> omega) | (refine Ext.trans ?_ (by assumption))))) only [AX, TY, gV, dstOf, p_makeFunc, p_mapUpdate, mapPut, entsOf, p_lookup, p_extract, p_nilCheck, oneV, p_load, p_store, p_binOp, p_unOp, p_indexAddr, p_index, p_box, p_build, evParts, builtinV, load1, ldc, splice, minds, disj, rcOf, isCall, touchV, idsOf, mapId, touchB, p_buildSlice, buildSliceV, reps, fillV, p_convert, p_slice, evO, p_makeSlice, sid_some, soff_some, Nat.reduceLT, Nat.reduceLeDiff, Nat.reduceEqDiff, Nat.reduceAdd, Nat.reduceMul, Int.reduceBEq, Int.reduceEq, Int.reduceNeg, Int.reduceLT, Int.reduceLE, Int.reduceAdd, Int.reduceSub, Int.reduceMul, Int.reduceToNat, Int.reduceGT, Nat.reduceBEq, Nat.reducePow, Nat.reduceGT, reduceCtorEq, ↓reduceIte]
  refine hins.mono ?_
  rintro r h2 ⟨e2, hU⟩
  have e02 := e1.trans e2
  rcases hU with ⟨nv, _⟩ | ⟨_, ho, _⟩ | ⟨_, k2, hk2, hkn2, hB⟩
  · exact absurd hLv nv
  · exact absurd ⟨by omega, by rw [hLc]; omega⟩ ho
  obtain rfl : k = k2 := by omega
  rw [hir, hLk] at hB
  have hB' := RBuildR.base e1 hB
  rcases hB with ⟨a2, q2, cq2, oq2, rfl, a4⟩ | ⟨a2, rfl⟩
  all_goals
    simp -dsimp (disch := first | with_reducible assumption | omega | (intro h_; cases h_; done) | (simp only [LN] <;> omega) | (simp only [LF]; done) | (repeat (first | with_reducible assumption | apply Ext.refl | apply Ext.app | (apply Ext.set <;> omega) | (refine Ext.trans ?_ (by assumption))))) only [AX, TY, gV, dstOf, p_makeFunc, p_mapUpdate, mapPut, entsOf, p_lookup, p_extract, p_nilCheck, oneV, p_load, p_store, p_binOp, p_unOp, p_indexAddr, p_index, p_box, p_build, evParts, builtinV, load1, ldc, splice, minds, disj, rcOf, isCall, touchV, idsOf, mapId, touchB, p_buildSlice, buildSliceV, reps, fillV, p_convert, p_slice, evO, p_makeSlice, sid_some, soff_some, Nat.reduceLT, Nat.reduceLeDiff, Nat.reduceEqDiff, Nat.reduceAdd, Nat.reduceMul, Int.reduceBEq, Int.reduceEq, Int.reduceNeg, Int.reduceLT, Int.reduceLE, Int.reduceAdd, Int.reduceSub, Int.reduceMul, Int.reduceToNat, Int.reduceGT, Nat.reduceBEq, Nat.reducePow, Nat.reduceGT, reduceCtorEq, ↓reduceIte]
    exact ⟨e02, .inr (.inr ⟨v, k, rfl, hkn, hB'⟩)⟩
/-- What comes of an update, as numbers alone. -/
def UpO (l : List Int) (i top : Int) (new : Nat → List (List Int)) (e : Int) (L : List Int) : Prop :=
  (¬ Valid l ∧ e = 1 ∧ L = []) ∨ (Valid l ∧ ¬ (0 ≤ i ∧ i ≤ top) ∧ e = 2 ∧ L = []) ∨ (Valid l ∧ ∃ k : Nat, i = k ∧ (k : Int) ≤ top ∧ ((totalS (new k) ≤ 1024 ∧ e = 0 ∧ L = layoutS (rd l 0) (new k)) ∨ (¬ totalS (new k) ≤ 1024 ∧ e = 6 ∧ L = [])))
theorem UpO.eq {l : List Int} {i top : Int} {new : Nat → List (List Int)} {e e' : Int} {L L' : List Int} (a : UpO l i top new e L) (b : UpO l i top new e' L') : e = e' ∧ L = L' := by
  rcases a with ⟨a1, rfl, rfl⟩ | ⟨a1, a2, rfl, rfl⟩ | ⟨a1, k, rfl, a2, a3⟩ <;> rcases b with ⟨b1, rfl, rfl⟩ | ⟨b1, b2, rfl, rfl⟩ | ⟨b1, k', hk, b2, b3⟩
  · exact ⟨rfl, rfl⟩
  · exact absurd b1 a1
  · exact absurd b1 a1
  · exact absurd a1 b1
  · exact ⟨rfl, rfl⟩
  · exact absurd ⟨by omega, by omega⟩ a2
  · exact absurd a1 b1
  · exact absurd ⟨by omega, by omega⟩ b2
  · obtain rfl : k = k' := by omega
    rcases a3 with ⟨a3, rfl, rfl⟩ | ⟨a3, rfl, rfl⟩ <;> rcases b3 with ⟨b3, rfl, rfl⟩ | ⟨b3, rfl, rfl⟩
    · exact ⟨rfl, rfl⟩
    · exact absurd a3 b3
    · exact absurd b3 a3
    · exact ⟨rfl, rfl⟩
theorem UpO.bytes {l : List Int} {i top : Int} {new : Nat → List (List Int)} {e : Int} {L : List Int} (hb : Bytes l) (hn : ∀ k, ∀ c ∈ new k, Bytes c) (a : UpO l i top new e L) : Bytes L := by
  have hnil : Bytes [] := fun x hx => (by cases hx)
  rcases a with ⟨_, _, rfl⟩ | ⟨_, _, _, rfl⟩ | ⟨_, k, _, _, ⟨_, _, rfl⟩ | ⟨_, _, rfl⟩⟩
  · exact hnil
  · exact hnil
  · exact lay_b (hb.rd 0) (hn k)
  · exact hnil
theorem UpR.out {h h' : Heap} {l : List Int} {i top : Int} {new : Nat → List (List Int)} {r : V} (u : UpR h h' l i top new r) (hb : Bytes l) : ∃ (e : Int) (L : List Int) (p : Option (Nat × Nat)) (c : Option Nat), r = V.tuple [.slice p L.length c, .int .i64 e] ∧ Sl h' p 1 eb L ∧ UpO l i top new e L := by
  rcases u with ⟨v, rfl⟩ | ⟨v, ho, rfl⟩ | ⟨v, k, hk, hkn, hB⟩
  · exact ⟨1, [], none, some 0, rfl, .nil0 _ _ _, .inl ⟨v, rfl, rfl⟩⟩
  · exact ⟨2, [], none, some 0, rfl, .nil0 _ _ _, .inr (.inl ⟨v, ho, rfl, rfl⟩)⟩
  rcases hB with ⟨a1, a2, q, rfl, _, a5⟩ | ⟨_, a2, rfl⟩ | ⟨a1, rfl⟩
  · have b := Built.of a1 a2 a5
    exact ⟨0, _, some (q, 0), some 1024, by rw [b.len], b.rs.sl, .inr (.inr ⟨v, k, hk, hkn, .inl ⟨a2, rfl, rfl⟩⟩)⟩
  · exact ⟨6, [], none, some 0, rfl, .nil0 _ _ _, .inr (.inr ⟨v, k, hk, hkn, .inr ⟨a2, rfl, rfl⟩⟩)⟩
  · exact absurd (hb.rd 0) a1
theorem RUpR.out {h h' : Heap} {l : List Int} {i top : Int} {new : Nat → List (List Int)} {r : V} (u : RUpR h h' l i top new r) (hb : Bytes l) : ∃ (e : Int) (L : List Int) (p : Option (Nat × Nat)) (c : Option Nat), r = V.tuple [.slice p L.length c, .int .i64 e] ∧ Sl h' p 1 eb L ∧ UpO l i top new e L := by
  rcases u with ⟨v, rfl⟩ | ⟨v, ho, rfl⟩ | ⟨v, k, hk, hkn, hB⟩
  · exact ⟨1, [], none, some 0, rfl, .nil0 _ _ _, .inl ⟨v, rfl, rfl⟩⟩
  · exact ⟨2, [], none, some 0, rfl, .nil0 _ _ _, .inr (.inl ⟨v, ho, rfl, rfl⟩)⟩
  rcases hB with ⟨a2, q, cq, oq, rfl, a5⟩ | ⟨a2, rfl⟩
  · have hL := lay_len (hb.rd 0) a2
    exact ⟨0, _, q, cq, by rw [hL], a5.sl, .inr (.inr ⟨v, k, hk, hkn, .inl ⟨a2, rfl, rfl⟩⟩)⟩
  · exact ⟨6, [], none, some 0, rfl, .nil0 _ _ _, .inr (.inr ⟨v, k, hk, hkn, .inr ⟨a2, rfl, rfl⟩⟩)⟩
theorem law8_ok {h : Heap} {p pc : Option (Nat × Nat)} {c cc : Option Nat} {l cell : List Int} (hr : Rs h p c 1 eb l) (hb : Bytes l) (hc : Sl h pc 1 eb cell) (hcb : Bytes cell) (i : Int) :
    WR (callE Try.prog hk 8 [.slice p l.length c, .int .i64 i, .slice pc cell.length cc] h) fun r h' => r = .bool true := by
  refine WR.call (hH := rfl) Try.func8 rfl (n := 106) rfl rfl (by simp) ?_
  simp -dsimp (disch := first | with_reducible assumption | omega | (intro h_; cases h_; done) | (simp only [LN] <;> omega) | (simp only [LF]; done) | (repeat (first | with_reducible assumption | apply Ext.refl | apply Ext.app | (apply Ext.set <;> omega) | (refine Ext.trans ?_ (by assumption))))) only [AX, TY, gV, dstOf, p_makeFunc, p_mapUpdate, mapPut, entsOf, p_lookup, p_extract, p_nilCheck, oneV, p_load, p_store, p_binOp, p_unOp, p_indexAddr, p_index, p_box, p_build, evParts, builtinV, load1, ldc, splice, minds, disj, rcOf, isCall, touchV, idsOf, mapId, touchB, p_buildSlice, buildSliceV, reps, fillV, p_convert, p_slice, evO, p_makeSlice, sid_some, soff_some, Nat.reduceLT, Nat.reduceLeDiff, Nat.reduceEqDiff, Nat.reduceAdd, Nat.reduceMul, Int.reduceBEq, Int.reduceEq, Int.reduceNeg, Int.reduceLT, Int.reduceLE, Int.reduceAdd, Int.reduceSub, Int.reduceMul, Int.reduceToNat, Int.reduceGT, Nat.reduceBEq, Nat.reducePow, Nat.reduceGT, reduceCtorEq, ↓reduceIte]
  refine awake_ok.mono ?_
  rintro _ h1 ⟨e1, rfl⟩
  by_cases g1 : 1100 < (l.length : Int)
  · simp -dsimp (disch := first | with_reducible assumption | omega | (intro h_; cases h_; done) | (simp only [LN] <;> omega) | (simp only [LF]; done) | (repeat (first | with_reducible assumption | apply Ext.refl | apply Ext.app | (apply Ext.set <;> omega) | (refine Ext.trans ?_ (by assumption))))) only [AX, TY, gV, dstOf, p_makeFunc, p_mapUpdate, mapPut, entsOf, p_lookup, p_extract, p_nilCheck, oneV, p_load, p_store, p_binOp, p_unOp, p_indexAddr, p_index, p_box, p_build, evParts, builtinV, load1, ldc, splice, minds, disj, rcOf, isCall, touchV, idsOf, mapId, touchB, p_buildSlice, buildSliceV, reps, fillV, p_convert, p_slice, evO, p_makeSlice, sid_some, soff_some, Nat.reduceLT, Nat.reduceLeDiff, Nat.reduceEqDiff, Nat.reduceAdd, Nat.reduceMul, Int.reduceBEq, Int.reduceEq, Int.reduceNeg, Int.reduceLT, Int.reduceLE, Int.reduceAdd, Int.reduceSub, Int.reduceMul, Int.reduceToNat, Int.reduceGT, Nat.reduceBEq, Nat.reducePow, Nat.reduceGT, reduceCtorEq, ↓reduceIte, g1]
  by_cases g2 : 1100 < (cell.length : Int)
  · simp -dsimp (disch := first | with_reducible assumption | omega | (intro h_; cases h_; done) | (simp only [LN] <;> omega) | (simp only [LF]; done) | (repeat (first | with_reducible assumption | apply Ext.refl | apply Ext.app | (apply Ext.set <;> omega) | (refine Ext.trans ?_ (by assumption))))) only [AX, TY, gV, dstOf, p_makeFunc, p_mapUpdate, mapPut, entsOf, p_lookup, p_extract, p_nilCheck, oneV, p_load, p_store, p_binOp, p_unOp, p_indexAddr, p_index, p_box, p_build, evParts, builtinV, load1, ldc, splice, minds, disj, rcOf, isCall, touchV, idsOf, mapId, touchB, p_buildSlice, buildSliceV, reps, fillV, p_convert, p_slice, evO, p_makeSlice, sid_some, soff_some, Nat.reduceLT, Nat.reduceLeDiff, Nat.reduceEqDiff, Nat.reduceAdd, Nat.reduceMul, Int.reduceBEq, Int.reduceEq, Int.reduceNeg, Int.reduceLT, Int.reduceLE, Int.reduceAdd, Int.reduceSub, Int.reduceMul, Int.reduceToNat, Int.reduceGT, Nat.reduceBEq, Nat.reducePow, Nat.reduceGT, reduceCtorEq, ↓reduceIte, g1, g2]
  have hcv := fun hh (e : Ext h hh) => cv_25_9 (c := c) hr.sl e (fun b hx => by have := hb b hx; omega)
  simp -dsimp (disch := first | with_reducible assumption | omega | (intro h_; cases h_; done) | (simp only [LN] <;> omega) | (simp only [LF]; done) | (repeat (first | with_reducible assumption | apply Ext.refl | apply Ext.app | (apply Ext.set <;> omega) | (refine Ext.trans ?_ (by assumption))))) only [AX, TY, gV, dstOf, p_makeFunc, p_mapUpdate, mapPut, entsOf, p_lookup, p_extract, p_nilCheck, oneV, p_load, p_store, p_binOp, p_unOp, p_indexAddr, p_index, p_box, p_build, evParts, builtinV, load1, ldc, splice, minds, disj, rcOf, isCall, touchV, idsOf, mapId, touchB, p_buildSlice, buildSliceV, reps, fillV, p_convert, p_slice, evO, p_makeSlice, sid_some, soff_some, Nat.reduceLT, Nat.reduceLeDiff, Nat.reduceEqDiff, Nat.reduceAdd, Nat.reduceMul, Int.reduceBEq, Int.reduceEq, Int.reduceNeg, Int.reduceLT, Int.reduceLE, Int.reduceAdd, Int.reduceSub, Int.reduceMul, Int.reduceToNat, Int.reduceGT, Nat.reduceBEq, Nat.reducePow, Nat.reduceGT, reduceCtorEq, ↓reduceIte, g1, g2, hcv]
  refine (insert_ok (hr.ext e1) hb (hc.ext e1) (by omega) i).mono ?_
  rintro r h2 ⟨e2, hU⟩
  obtain ⟨n1, L1, p1, c1, rfl, s1, o1⟩ := hU.out hb
  have f2 := e1.trans e2
  simp -dsimp (disch := first | with_reducible assumption | omega | (intro h_; cases h_; done) | (simp only [LN] <;> omega) | (simp only [LF]; done) | (repeat (first | with_reducible assumption | apply Ext.refl | apply Ext.app | (apply Ext.set <;> omega) | (refine Ext.trans ?_ (by assumption))))) only [AX, TY, gV, dstOf, p_makeFunc, p_mapUpdate, mapPut, entsOf, p_lookup, p_extract, p_nilCheck, oneV, p_load, p_store, p_binOp, p_unOp, p_indexAddr, p_index, p_box, p_build, evParts, builtinV, load1, ldc, splice, minds, disj, rcOf, isCall, touchV, idsOf, mapId, touchB, p_buildSlice, buildSliceV, reps, fillV, p_convert, p_slice, evO, p_makeSlice, sid_some, soff_some, Nat.reduceLT, Nat.reduceLeDiff, Nat.reduceEqDiff, Nat.reduceAdd, Nat.reduceMul, Int.reduceBEq, Int.reduceEq, Int.reduceNeg, Int.reduceLT, Int.reduceLE, Int.reduceAdd, Int.reduceSub, Int.reduceMul, Int.reduceToNat, Int.reduceGT, Nat.reduceBEq, Nat.reducePow, Nat.reduceGT, reduceCtorEq, ↓reduceIte]
  refine (replace_ok (hr.ext f2) hb (hc.ext f2) (by omega) i).mono ?_
  rintro r h3 ⟨e3, hU⟩
  obtain ⟨n2, L2, p2, c2, rfl, s2, o2⟩ := hU.out hb
  have f3 := f2.trans e3
  simp -dsimp (disch := first | with_reducible assumption | omega | (intro h_; cases h_; done) | (simp only [LN] <;> omega) | (simp only [LF]; done) | (repeat (first | with_reducible assumption | apply Ext.refl | apply Ext.app | (apply Ext.set <;> omega) | (refine Ext.trans ?_ (by assumption))))) only [AX, TY, gV, dstOf, p_makeFunc, p_mapUpdate, mapPut, entsOf, p_lookup, p_extract, p_nilCheck, oneV, p_load, p_store, p_binOp, p_unOp, p_indexAddr, p_index, p_box, p_build, evParts, builtinV, load1, ldc, splice, minds, disj, rcOf, isCall, touchV, idsOf, mapId, touchB, p_buildSlice, buildSliceV, reps, fillV, p_convert, p_slice, evO, p_makeSlice, sid_some, soff_some, Nat.reduceLT, Nat.reduceLeDiff, Nat.reduceEqDiff, Nat.reduceAdd, Nat.reduceMul, Int.reduceBEq, Int.reduceEq, Int.reduceNeg, Int.reduceLT, Int.reduceLE, Int.reduceAdd, Int.reduceSub, Int.reduceMul, Int.reduceToNat, Int.reduceGT, Nat.reduceBEq, Nat.reducePow, Nat.reduceGT, reduceCtorEq, ↓reduceIte]
  refine (remove_ok (hr.ext f3) hb i).mono ?_
  rintro r h4 ⟨e4, hU⟩
  obtain ⟨n3, L3, p3, c3, rfl, s3, o3⟩ := hU.out hb
  have f4 := f3.trans e4
  simp -dsimp (disch := first | with_reducible assumption | omega | (intro h_; cases h_; done) | (simp only [LN] <;> omega) | (simp only [LF]; done) | (repeat (first | with_reducible assumption | apply Ext.refl | apply Ext.app | (apply Ext.set <;> omega) | (refine Ext.trans ?_ (by assumption))))) only [AX, TY, gV, dstOf, p_makeFunc, p_mapUpdate, mapPut, entsOf, p_lookup, p_extract, p_nilCheck, oneV, p_load, p_store, p_binOp, p_unOp, p_indexAddr, p_index, p_box, p_build, evParts, builtinV, load1, ldc, splice, minds, disj, rcOf, isCall, touchV, idsOf, mapId, touchB, p_buildSlice, buildSliceV, reps, fillV, p_convert, p_slice, evO, p_makeSlice, sid_some, soff_some, Nat.reduceLT, Nat.reduceLeDiff, Nat.reduceEqDiff, Nat.reduceAdd, Nat.reduceMul, Int.reduceBEq, Int.reduceEq, Int.reduceNeg, Int.reduceLT, Int.reduceLE, Int.reduceAdd, Int.reduceSub, Int.reduceMul, Int.reduceToNat, Int.reduceGT, Nat.reduceBEq, Nat.reducePow, Nat.reduceGT, reduceCtorEq, ↓reduceIte]
  refine (rinsert_ok (hr.ext f4) hb (hc.ext f4) (by omega) i).mono ?_
  rintro r h5 ⟨e5, hU⟩
  obtain ⟨n4, L4, p4, c4, rfl, s4, o4⟩ := hU.out hb
  have f5 := f4.trans e5
  obtain ⟨rfl, rfl⟩ := o1.eq o4
  simp -dsimp (disch := first | with_reducible assumption | omega | (intro h_; cases h_; done) | (simp only [LN] <;> omega) | (simp only [LF]; done) | (repeat (first | with_reducible assumption | apply Ext.refl | apply Ext.app | (apply Ext.set <;> omega) | (refine Ext.trans ?_ (by assumption))))) only [AX, TY, gV, dstOf, p_makeFunc, p_mapUpdate, mapPut, entsOf, p_lookup, p_extract, p_nilCheck, oneV, p_load, p_store, p_binOp, p_unOp, p_indexAddr, p_index, p_box, p_build, evParts, builtinV, load1, ldc, splice, minds, disj, rcOf, isCall, touchV, idsOf, mapId, touchB, p_buildSlice, buildSliceV, reps, fillV, p_convert, p_slice, evO, p_makeSlice, sid_some, soff_some, Nat.reduceLT, Nat.reduceLeDiff, Nat.reduceEqDiff, Nat.reduceAdd, Nat.reduceMul, Int.reduceBEq, Int.reduceEq, Int.reduceNeg, Int.reduceLT, Int.reduceLE, Int.reduceAdd, Int.reduceSub, Int.reduceMul, Int.reduceToNat, Int.reduceGT, Nat.reduceBEq, Nat.reducePow, Nat.reduceGT, reduceCtorEq, ↓reduceIte]
  refine (rreplace_ok (hr.ext f5) hb (hc.ext f5) (by omega) i).mono ?_
  rintro r h6 ⟨e6, hU⟩
  obtain ⟨n5, L5, p5, c5, rfl, s5, o5⟩ := hU.out hb
  have f6 := f5.trans e6
  obtain ⟨rfl, rfl⟩ := o2.eq o5
  simp -dsimp (disch := first | with_reducible assumption | omega | (intro h_; cases h_; done) | (simp only [LN] <;> omega) | (simp only [LF]; done) | (repeat (first | with_reducible assumption | apply Ext.refl | apply Ext.app | (apply Ext.set <;> omega) | (refine Ext.trans ?_ (by assumption))))) only [AX, TY, gV, dstOf, p_makeFunc, p_mapUpdate, mapPut, entsOf, p_lookup, p_extract, p_nilCheck, oneV, p_load, p_store, p_binOp, p_unOp, p_indexAddr, p_index, p_box, p_build, evParts, builtinV, load1, ldc, splice, minds, disj, rcOf, isCall, touchV, idsOf, mapId, touchB, p_buildSlice, buildSliceV, reps, fillV, p_convert, p_slice, evO, p_makeSlice, sid_some, soff_some, Nat.reduceLT, Nat.reduceLeDiff, Nat.reduceEqDiff, Nat.reduceAdd, Nat.reduceMul, Int.reduceBEq, Int.reduceEq, Int.reduceNeg, Int.reduceLT, Int.reduceLE, Int.reduceAdd, Int.reduceSub, Int.reduceMul, Int.reduceToNat, Int.reduceGT, Nat.reduceBEq, Nat.reducePow, Nat.reduceGT, reduceCtorEq, ↓reduceIte]
  refine (rremove_ok (hr.ext f6) hb i).mono ?_
  rintro r h7 ⟨e7, hU⟩
  obtain ⟨n6, L6, p6, c6, rfl, s6, o6⟩ := hU.out hb
  have f7 := f6.trans e7
  obtain ⟨rfl, rfl⟩ := o3.eq o6
  have b1 := o1.bytes hb (ins_b hb hcb)
  have b2 := o2.bytes hb (rep_b hb hcb)
  have b3 := o3.bytes hb (rem_b hb)
  have m1 := same_ok (c := c1) (d := c4) (s1.ext (e3.trans (e4.trans (e5.trans (e6.trans e7))))) (s4.ext (e6.trans e7)) b1 b1
  have m2 := same_ok (c := c2) (d := c5) (s2.ext (e4.trans (e5.trans (e6.trans e7)))) (s5.ext e7) b2 b2
  have m3 := same_ok (c := c3) (d := c6) (s3.ext (e5.trans (e6.trans e7))) s6 b3 b3
  clear o1 o2 o3 o4 o5 o6
  simp -dsimp (disch := first | with_reducible assumption | omega | (intro h_; cases h_; done) | (simp only [LN] <;> omega) | (simp only [LF]; done) | (repeat (first | with_reducible assumption | apply Ext.refl | apply Ext.app | (apply Ext.set <;> omega) | (refine Ext.trans ?_ (by assumption))))) only [AX, TY, gV, dstOf, p_makeFunc, p_mapUpdate, mapPut, entsOf, p_lookup, p_extract, p_nilCheck, oneV, p_load, p_store, p_binOp, p_unOp, p_indexAddr, p_index, p_box, p_build, evParts, builtinV, load1, ldc, splice, minds, disj, rcOf, isCall, touchV, idsOf, mapId, touchB, p_buildSlice, buildSliceV, reps, fillV, p_convert, p_slice, evO, p_makeSlice, sid_some, soff_some, Nat.reduceLT, Nat.reduceLeDiff, Nat.reduceEqDiff, Nat.reduceAdd, Nat.reduceMul, Int.reduceBEq, Int.reduceEq, Int.reduceNeg, Int.reduceLT, Int.reduceLE, Int.reduceAdd, Int.reduceSub, Int.reduceMul, Int.reduceToNat, Int.reduceGT, Nat.reduceBEq, Nat.reducePow, Nat.reduceGT, reduceCtorEq, ↓reduceIte]
  refine m1.mono ?_
  rintro _ _ ⟨rfl, rfl⟩
  simp -dsimp (disch := first | with_reducible assumption | omega | (intro h_; cases h_; done) | (simp only [LN] <;> omega) | (simp only [LF]; done) | (repeat (first | with_reducible assumption | apply Ext.refl | apply Ext.app | (apply Ext.set <;> omega) | (refine Ext.trans ?_ (by assumption))))) only [AX, TY, gV, dstOf, p_makeFunc, p_mapUpdate, mapPut, entsOf, p_lookup, p_extract, p_nilCheck, oneV, p_load, p_store, p_binOp, p_unOp, p_indexAddr, p_index, p_box, p_build, evParts, builtinV, load1, ldc, splice, minds, disj, rcOf, isCall, touchV, idsOf, mapId, touchB, p_buildSlice, buildSliceV, reps, fillV, p_convert, p_slice, evO, p_makeSlice, sid_some, soff_some, Nat.reduceLT, Nat.reduceLeDiff, Nat.reduceEqDiff, Nat.reduceAdd, Nat.reduceMul, Int.reduceBEq, Int.reduceEq, Int.reduceNeg, Int.reduceLT, Int.reduceLE, Int.reduceAdd, Int.reduceSub, Int.reduceMul, Int.reduceToNat, Int.reduceGT, Nat.reduceBEq, Nat.reducePow, Nat.reduceGT, reduceCtorEq, ↓reduceIte]
  refine m2.mono ?_
  rintro _ _ ⟨rfl, rfl⟩
  simp -dsimp (disch := first | with_reducible assumption | omega | (intro h_; cases h_; done) | (simp only [LN] <;> omega) | (simp only [LF]; done) | (repeat (first | with_reducible assumption | apply Ext.refl | apply Ext.app | (apply Ext.set <;> omega) | (refine Ext.trans ?_ (by assumption))))) only [AX, TY, gV, dstOf, p_makeFunc, p_mapUpdate, mapPut, entsOf, p_lookup, p_extract, p_nilCheck, oneV, p_load, p_store, p_binOp, p_unOp, p_indexAddr, p_index, p_box, p_build, evParts, builtinV, load1, ldc, splice, minds, disj, rcOf, isCall, touchV, idsOf, mapId, touchB, p_buildSlice, buildSliceV, reps, fillV, p_convert, p_slice, evO, p_makeSlice, sid_some, soff_some, Nat.reduceLT, Nat.reduceLeDiff, Nat.reduceEqDiff, Nat.reduceAdd, Nat.reduceMul, Int.reduceBEq, Int.reduceEq, Int.reduceNeg, Int.reduceLT, Int.reduceLE, Int.reduceAdd, Int.reduceSub, Int.reduceMul, Int.reduceToNat, Int.reduceGT, Nat.reduceBEq, Nat.reducePow, Nat.reduceGT, reduceCtorEq, ↓reduceIte]
  refine m3.mono ?_
  rintro _ _ ⟨rfl, rfl⟩
  simp -dsimp (disch := first | with_reducible assumption | omega | (intro h_; cases h_; done) | (simp only [LN] <;> omega) | (simp only [LF]; done) | (repeat (first | with_reducible assumption | apply Ext.refl | apply Ext.app | (apply Ext.set <;> omega) | (refine Ext.trans ?_ (by assumption))))) only [AX, TY, gV, dstOf, p_makeFunc, p_mapUpdate, mapPut, entsOf, p_lookup, p_extract, p_nilCheck, oneV, p_load, p_store, p_binOp, p_unOp, p_indexAddr, p_index, p_box, p_build, evParts, builtinV, load1, ldc, splice, minds, disj, rcOf, isCall, touchV, idsOf, mapId, touchB, p_buildSlice, buildSliceV, reps, fillV, p_convert, p_slice, evO, p_makeSlice, sid_some, soff_some, Nat.reduceLT, Nat.reduceLeDiff, Nat.reduceEqDiff, Nat.reduceAdd, Nat.reduceMul, Int.reduceBEq, Int.reduceEq, Int.reduceNeg, Int.reduceLT, Int.reduceLE, Int.reduceAdd, Int.reduceSub, Int.reduceMul, Int.reduceToNat, Int.reduceGT, Nat.reduceBEq, Nat.reducePow, Nat.reduceGT, reduceCtorEq, ↓reduceIte, hcv]
theorem row8 {h : Heap} (a0 a1 a2 : V) (v0 : ArgV false (.slice 1 1 (.int .u8)) h a0) (v1 : ArgV false (.int .i64) h a1) (v2 : ArgV false (.slice 1 1 (.int .u8)) h a2) : WR (callE Try.prog hk 8 [a0, a1, a2] h) fun r h' => r = .bool true := by
  obtain ⟨p, c, ys, rfl, hs, hb⟩ := v0.bytes
  obtain ⟨i, rfl, wi⟩ := v1.int
  obtain ⟨q, d, zs, rfl, hs2, hb2⟩ := v2.bytes
  exact law8_ok hs hb hs2.sl hb2 i
end Go.Proofs.YtopbmpdcmnhfdaaA
