/- Words of this session: chapter 14: the reference's Insert, Remove, Replace. -/
import Derived.Test.YtopbmpdcmnhfdaaPM
namespace Go.Proofs.YtopbmpdcmnhfdaaA
open Go Go.Proofs Go.RowKit
set_option linter.unusedVariables false
set_option linter.unusedSimpArgs false
set_option maxRecDepth 10000
set_option maxHeartbeats 4000000
theorem Gr.weak {α : Type} {b b' : Nat} {h : Heap} {p : Option (Nat × Nat)} {c oid : Option Nat} {sz : Nat} {enc : α → List V} {ys : List α} (g : Gr b h p c oid sz enc ys) (hb : b' ≤ b) : Gr b' h p c oid sz enc ys := ⟨g.sl, g.kind, fun i e => Nat.le_trans hb (g.base i e), g.leaf⟩
theorem RBuildR.base {h h1 h' : Heap} {kd : Int} {cs : List (List Int)} {r : V} (e : Ext h h1) (b : RBuildR h1 h' kd cs r) : RBuildR h h' kd cs r := by
  have := e.le
  rcases b with ⟨a2, p, c, oid, a3, a4⟩ | b
  · exact .inl ⟨a2, p, c, oid, a3, a4.weak this⟩
  · exact .inr b
def RUpR (h h' : Heap) (l : List Int) (i top : Int) (new : Nat → List (List Int)) (r : V) : Prop :=
  (¬ Valid l ∧ r = V.tuple [.slice none 0 (some 0), .int .i64 1]) ∨ (Valid l ∧ ¬ (0 ≤ i ∧ i ≤ top) ∧ r = V.tuple [.slice none 0 (some 0), .int .i64 2]) ∨ (Valid l ∧ ∃ k : Nat, i = k ∧ (k : Int) ≤ top ∧ RBuildR h h' (rd l 0) (new k) r)
theorem rinsert_ok {h : Heap} {p pc : Option (Nat × Nat)} {c cc : Option Nat} {l cell : List Int} (hr : Rs h p c 1 eb l) (hb : Bytes l) (hc : Sl h pc 1 eb cell) (hcl : cell.length ≤ 100000) (i : Int) :
    WR (callE Try.prog hk 35 [.slice p l.length c, .int .i64 i, .slice pc cell.length cc] h) fun r h' => Ext h h' ∧ RUpR h h' l i (num l 1) (insC l cell) r := by
  refine WR.call (hH := rfl) Try.func35 rfl (n := 41) rfl rfl (by simp) ?_
  simp -dsimp (disch := first | with_reducible assumption | omega | (intro h_; cases h_; done) | (simp only [LN] <;> omega) | (simp only [LF]; done) | (repeat (first | with_reducible assumption | apply Ext.refl | apply Ext.app | (apply Ext.set <;> omega) | (refine Ext.trans ?_ (by assumption))))) only [AX, TY, gV, dstOf, p_makeFunc, p_mapUpdate, mapPut, entsOf, p_lookup, p_extract, p_nilCheck, oneV, p_load, p_store, p_binOp, p_unOp, p_indexAddr, p_index, p_box, p_build, evParts, builtinV, load1, ldc, splice, minds, disj, rcOf, isCall, touchV, idsOf, mapId, touchB, p_buildSlice, buildSliceV, reps, fillV, p_convert, p_slice, evO, p_makeSlice, sid_some, soff_some, Nat.reduceLT, Nat.reduceLeDiff, Nat.reduceEqDiff, Nat.reduceAdd, Nat.reduceMul, Int.reduceBEq, Int.reduceEq, Int.reduceNeg, Int.reduceLT, Int.reduceLE, Int.reduceAdd, Int.reduceSub, Int.reduceMul, Int.reduceToNat, Int.reduceGT, Nat.reduceBEq, Nat.reducePow, Nat.reduceGT, reduceCtorEq, ↓reduceIte]
  refine (rvalid_ok hr hb).mono ?_
  rintro _ _ ⟨rfl, b, rfl, hv⟩
  cases b
  · simp -dsimp (disch := first | with_reducible assumption | omega | (intro h_; cases h_; done) | (simp only [LN] <;> omega) | (simp only [LF]; done) | (repeat (first | with_reducible assumption | apply Ext.refl | apply Ext.app | (apply Ext.set <;> omega) | (refine Ext.trans ?_ (by assumption))))) only [AX, TY, gV, dstOf, p_makeFunc, p_mapUpdate, mapPut, entsOf, p_lookup, p_extract, p_nilCheck, oneV, p_load, p_store, p_binOp, p_unOp, p_indexAddr, p_index, p_box, p_build, evParts, builtinV, load1, ldc, splice, minds, disj, rcOf, isCall, touchV, idsOf, mapId, touchB, p_buildSlice, buildSliceV, reps, fillV, p_convert, p_slice, evO, p_makeSlice, sid_some, soff_some, Nat.reduceLT, Nat.reduceLeDiff, Nat.reduceEqDiff, Nat.reduceAdd, Nat.reduceMul, Int.reduceBEq, Int.reduceEq, Int.reduceNeg, Int.reduceLT, Int.reduceLE, Int.reduceAdd, Int.reduceSub, Int.reduceMul, Int.reduceToNat, Int.reduceGT, Nat.reduceBEq, Nat.reducePow, Nat.reduceGT, reduceCtorEq, ↓reduceIte]
    exact ⟨.refl _, .inl ⟨fun v => absurd (hv.2 v) (by simp), rfl⟩⟩
  have v := hv.1 rfl
  obtain ⟨⟨pa, po'⟩, rfl⟩ : ∃ q, p = some q := by
    cases p with
    | none => have h1 := hr.sl.nil rfl; have h2 := v.len; rw [h1] at h2; simp at h2
    | some q => exact ⟨q, rfl⟩
  have hpa := hr.sl.lt rfl
  simp -dsimp (disch := first | with_reducible assumption | omega | (intro h_; cases h_; done) | (simp only [LN] <;> omega) | (simp only [LF]; done) | (repeat (first | with_reducible assumption | apply Ext.refl | apply Ext.app | (apply Ext.set <;> omega) | (refine Ext.trans ?_ (by assumption))))) only [AX, TY, gV, dstOf, p_makeFunc, p_mapUpdate, mapPut, entsOf, p_lookup, p_extract, p_nilCheck, oneV, p_load, p_store, p_binOp, p_unOp, p_indexAddr, p_index, p_box, p_build, evParts, builtinV, load1, ldc, splice, minds, disj, rcOf, isCall, touchV, idsOf, mapId, touchB, p_buildSlice, buildSliceV, reps, fillV, p_convert, p_slice, evO, p_makeSlice, sid_some, soff_some, Nat.reduceLT, Nat.reduceLeDiff, Nat.reduceEqDiff, Nat.reduceAdd, Nat.reduceMul, Int.reduceBEq, Int.reduceEq, Int.reduceNeg, Int.reduceLT, Int.reduceLE, Int.reduceAdd, Int.reduceSub, Int.reduceMul, Int.reduceToNat, Int.reduceGT, Nat.reduceBEq, Nat.reducePow, Nat.reduceGT, reduceCtorEq, ↓reduceIte]
  refine (rcells_ok hr hb v).mono ?_
  rintro _ h1 ⟨e1, s, po, co, oid, rfl, gr, hvv, hs⟩
  obtain ⟨hs1, hs2, hs3⟩ := cells_small hb v hs
  have le1 := e1.le
  by_cases h1' : i < 0
  · simp -dsimp (disch := first | with_reducible assumption | omega | (intro h_; cases h_; done) | (simp only [LN] <;> omega) | (simp only [LF]; done) | (repeat (first | with_reducible assumption | apply Ext.refl | apply Ext.app | (apply Ext.set <;> omega) | (refine Ext.trans ?_ (by assumption))))) only [AX, TY, gV, dstOf, p_makeFunc, p_mapUpdate, mapPut, entsOf, p_lookup, p_extract, p_nilCheck, oneV, p_load, p_store, p_binOp, p_unOp, p_indexAddr, p_index, p_box, p_build, evParts, builtinV, load1, ldc, splice, minds, disj, rcOf, isCall, touchV, idsOf, mapId, touchB, p_buildSlice, buildSliceV, reps, fillV, p_convert, p_slice, evO, p_makeSlice, sid_some, soff_some, Nat.reduceLT, Nat.reduceLeDiff, Nat.reduceEqDiff, Nat.reduceAdd, Nat.reduceMul, Int.reduceBEq, Int.reduceEq, Int.reduceNeg, Int.reduceLT, Int.reduceLE, Int.reduceAdd, Int.reduceSub, Int.reduceMul, Int.reduceToNat, Int.reduceGT, Nat.reduceBEq, Nat.reducePow, Nat.reduceGT, reduceCtorEq, ↓reduceIte, h1']
    exact ⟨e1, .inr (.inl ⟨v, by omega, rfl⟩)⟩
  by_cases h2' : (s.length : Int) < i
  · simp -dsimp (disch := first | with_reducible assumption | omega | (intro h_; cases h_; done) | (simp only [LN] <;> omega) | (simp only [LF]; done) | (repeat (first | with_reducible assumption | apply Ext.refl | apply Ext.app | (apply Ext.set <;> omega) | (refine Ext.trans ?_ (by assumption))))) only [AX, TY, gV, dstOf, p_makeFunc, p_mapUpdate, mapPut, entsOf, p_lookup, p_extract, p_nilCheck, oneV, p_load, p_store, p_binOp, p_unOp, p_indexAddr, p_index, p_box, p_build, evParts, builtinV, load1, ldc, splice, minds, disj, rcOf, isCall, touchV, idsOf, mapId, touchB, p_buildSlice, buildSliceV, reps, fillV, p_convert, p_slice, evO, p_makeSlice, sid_some, soff_some, Nat.reduceLT, Nat.reduceLeDiff, Nat.reduceEqDiff, Nat.reduceAdd, Nat.reduceMul, Int.reduceBEq, Int.reduceEq, Int.reduceNeg, Int.reduceLT, Int.reduceLE, Int.reduceAdd, Int.reduceSub, Int.reduceMul, Int.reduceToNat, Int.reduceGT, Nat.reduceBEq, Nat.reducePow, Nat.reduceGT, reduceCtorEq, ↓reduceIte, h1', eq_true h2']
    exact ⟨e1, .inr (.inl ⟨v, by omega, rfl⟩)⟩
  obtain ⟨k, rfl⟩ : ∃ k : Nat, i = (k : Int) := ⟨i.toNat, by omega⟩
  have hks : k ≤ s.length := by omega
  obtain ⟨hcut1, rs1⟩ := gr.rs.hi (b := k) hks
  obtain ⟨p2, c2, hcut2, rs2⟩ := gr.rs.lo (a := k) hks
  have ex1 : Ext h1 (h1 ++ [O.cells [] Kd.rw]) := (by (repeat (first | assumption | apply Ext.refl | apply Ext.app | (apply Ext.set <;> omega) | exact Ext.trans (by assumption) (by assumption) | (refine Ext.trans ?_ (by assumption)))))
  have hg1 : (h1 ++ [O.cells [] Kd.rw])[h1.length]? = some (O.cells [] Kd.rw) := snoc_last _ rfl
  obtain ⟨pn, cn, on, h2, hap1, gn, hon, hln, hkn⟩ := clone_app (bytes := 24) (b := h1.length) (c := co) (rs1.sl.ext ex1) hg1 (Nat.le_refl _) (fun y _ => rfl) (by rw [List.length_take]; omega)
  have htl : (s.take k).length = k := by rw [List.length_take]; omega
  have hdl : (s.drop k).length = s.length - k := List.length_drop ..
  rw [htl] at hap1
  have hl1 : (h1 ++ [O.cells [] Kd.rw]).length = h1.length + 1 := by simp
  have keep2 : ∀ a, a < h1.length → h2[a]? = h1[a]? := fun a ha => by rw [hkn a (by omega) (by omega), snoc_old _ ha]
  have e12 : Ext h1 h2 := Ext.of_keep keep2
  have le2 := e12.le
  have e2b : Ext h2 (h2 ++ [O.cells [V.slice pc cell.length cc] Kd.rw]) := (by (repeat (first | assumption | apply Ext.refl | apply Ext.app | (apply Ext.set <;> omega) | exact Ext.trans (by assumption) (by assumption) | (refine Ext.trans ?_ (by assumption)))))
  have hl2 : (h2 ++ [O.cells [V.slice pc cell.length cc] Kd.rw]).length = h2.length + 1 := by simp
  obtain ⟨p5, c5, o5, h3, hap2, g5, ho5, hl5, hk5, hb5⟩ := (gn.ext e2b).push (y := (⟨pc, cc, cell⟩ : Cl)) (q := h2.length) (bytes := 24) (vc := some 1) (by omega) (snoc_last _ rfl) rfl rfl (by rw [htl]; omega) (by rw [htl]; omega)
  rw [htl] at hap2
  have e13 : Ext h1 h3 := (e12.trans e2b).below (Nat.le_refl _) hb5
  have hfr := (rs2.sl.ext e13).first c2 (Nat.le_refl _) (s.length - k)
  rw [← hdl, List.take_length] at hfr
  obtain ⟨p6, c6, o6, h4, hap3, g6, ho6, hl6, hk6, hb6⟩ := g5.append (zs := s.drop k) (n := (s.drop k).length) (bytes := 24) (x := .slice p2 (s.drop k).length c2) (by omega) rfl hfr (cl_w _) (cl_l _) (by simp only [List.length_append, List.length_take, List.length_drop, List.length_cons, List.length_nil]; omega) (by simp only [List.length_append, List.length_take, List.length_drop, List.length_cons, List.length_nil]; omega)
  have e14 : Ext h1 h4 := e13.below (Nat.le_refl _) hb6
  have hl3 : (s.take k ++ [(⟨pc, cc, cell⟩ : Cl)]).length = k + 1 := by rw [List.length_append, htl]; rfl
  have hmap : (s.take k ++ [(⟨pc, cc, cell⟩ : Cl)] ++ s.drop k).map Cl.bs = insC l cell k := by
    unfold insC; rw [← hs]; simp [List.map_take, List.map_drop]
  have hcok : ∀ y ∈ s.take k ++ [(⟨pc, cc, cell⟩ : Cl)] ++ s.drop k, COK h4 y ∧ y.bs.length ≤ 100000 := fun y hy => by
    simp only [List.mem_append, List.mem_singleton] at hy
    rcases hy with (hy | rfl) | hy
    · exact ⟨Sl.ext (hvv y (List.mem_of_mem_take hy)).1 e14, by have := hs3 y (List.mem_of_mem_take hy); omega⟩
    · exact ⟨Sl.ext hc (e1.trans e14), hcl⟩
    · exact ⟨Sl.ext (hvv y (List.mem_of_mem_drop hy)).1 e14, by have := hs3 y (List.mem_of_mem_drop hy); omega⟩
  have hNl : (s.take k ++ [(⟨pc, cc, cell⟩ : Cl)] ++ s.drop k).length = s.length + 1 := by rw [List.length_append, hl3, hdl]; omega
  have hm := fun x => g5.muts x (fun y => !y == pa) (fun id e => by have := g5.base id e; simp; omega)
  generalize hNN : s.take k ++ [(⟨pc, cc, cell⟩ : Cl)] ++ s.drop k = NN at *
  have hbd := rbuild_ok (c := c6) g6.sl (fun y hy => (hcok y hy).1) (kd := rd l 0) (hb.rd 0) (by omega) (fun y hy => (hcok y hy).2)
  rw [hmap, hNl] at hbd
  rw [hl3, hdl, hNl] at hap3
  have hkd := rkind_ok (hr.ext (e1.trans e13)) hb v
  have e04 := e1.trans e14
  simp -dsimp (disch := first | with_reducible assumption | omega | (intro h_; cases h_; done) | (simp only [LN] <;> omega) | (simp only [LF]; done) | (repeat (first | with_reducible assumption | apply Ext.refl | apply Ext.app | (apply Ext.set <;> omega) | (refine Ext.trans ?_ (by assumption))))) only [AX, TY, gV, dstOf, p_makeFunc, p_mapUpdate, mapPut, entsOf, p_lookup, p_extract, p_nilCheck, oneV, p_load, p_store, p_binOp, p_unOp, p_indexAddr, p_index, p_box, p_build, evParts, builtinV, load1, ldc, splice, minds, disj, rcOf, isCall, touchV, idsOf, mapId, touchB, p_buildSlice, buildSliceV, reps, fillV, p_convert, p_slice, evO, p_makeSlice, sid_some, soff_some, Nat.reduceLT, Nat.reduceLeDiff, Nat.reduceEqDiff, Nat.reduceAdd, Nat.reduceMul, Int.reduceBEq, Int.reduceEq, Int.reduceNeg, Int.reduceLT, Int.reduceLE, Int.reduceAdd, Int.reduceSub, Int.reduceMul, Int.reduceToNat, Int.reduceGT, Nat.reduceBEq, Nat.reducePow, Nat.reduceGT, reduceCtorEq, ↓reduceIte, h1', h2', hcut1, hap1, hap2]
  refine W.drawn [(0, []), (2, [0]), (3, [2, 0]), (4, [3, 2, 0]), (5, [2, 0]), (1, [5, 4, 3, 2]), (6, []), (7, []), (8, []), (9, [8]), (10, []), (11, [])] (by decide +kernel) ?_
  simp -dsimp (disch := first | with_reducible assumption | omega | (intro h_; cases h_; done) | (simp only [LN] <;> omega) | (simp only [LF]; done) | (repeat (first | with_reducible assumption | apply Ext.refl | apply Ext.app | (apply Ext.set <;> omega) | (refine Ext.trans ?_ (by assumption))))) only [AX, TY, gV, dstOf, p_makeFunc, p_mapUpdate, mapPut, entsOf, p_lookup, p_extract, p_nilCheck, oneV, p_load, p_store, p_binOp, p_unOp, p_indexAddr, p_index, p_box, p_build, evParts, builtinV, load1, ldc, splice, minds, disj, rcOf, isCall, touchV, idsOf, mapId, touchB, p_buildSlice, buildSliceV, reps, fillV, p_convert, p_slice, evO, p_makeSlice, sid_some, soff_some, Nat.reduceLT, Nat.reduceLeDiff, Nat.reduceEqDiff, Nat.reduceAdd, Nat.reduceMul, Int.reduceBEq, Int.reduceEq, Int.reduceNeg, Int.reduceLT, Int.reduceLE, Int.reduceAdd, Int.reduceSub, Int.reduceMul, Int.reduceToNat, Int.reduceGT, Nat.reduceBEq, Nat.reducePow, Nat.reduceGT, reduceCtorEq, ↓reduceIte, h1', h2', hcut2, hm]
  refine hkd.mono ?_
  rintro _ _ ⟨rfl, rfl⟩
  simp -dsimp (disch := first | with_reducible assumption | omega | (intro h_; cases h_; done) | (simp only [LN] <;> omega) | (simp only [LF]; done) | (repeat (first | with_reducible assumption | apply Ext.refl | apply Ext.app | (apply Ext.set <;> omega) | (refine Ext.trans ?_ (by assumption))))) only [AX, TY, gV, dstOf, p_makeFunc, p_mapUpdate, mapPut, entsOf, p_lookup, p_extract, p_nilCheck, oneV, p_load, p_store, p_binOp, p_unOp, p_indexAddr, p_index, p_box, p_build, evParts, builtinV, load1, ldc, splice, minds, disj, rcOf, isCall, touchV, idsOf, mapId, touchB, p_buildSlice, buildSliceV, reps, fillV, p_convert, p_slice, evO, p_makeSlice, sid_some, soff_some, Nat.reduceLT, Nat.reduceLeDiff, Nat.reduceEqDiff, Nat.reduceAdd, Nat.reduceMul, Int.reduceBEq, Int.reduceEq, Int.reduceNeg, Int.reduceLT, Int.reduceLE, Int.reduceAdd, Int.reduceSub, Int.reduceMul, Int.reduceToNat, Int.reduceGT, Nat.reduceBEq, Nat.reducePow, Nat.reduceGT, reduceCtorEq, ↓reduceIte, hcut2, hap3, hm]
  refine hbd.mono ?_
  skip
  rintro r h9 ⟨e9, hB⟩
  have hB' := RBuildR.base e04 hB
  have e09 := Ext.trans e04 e9
  rcases hB with ⟨a2, q, cq, oq, rfl, a4⟩ | ⟨a2, rfl⟩
  all_goals
    simp -dsimp (disch := first | with_reducible assumption | omega | (intro h_; cases h_; done) | (simp only [LN] <;> omega) | (simp only [LF]; done) | (repeat (first | with_reducible assumption | apply Ext.refl | apply Ext.app | (apply Ext.set <;> omega) | (refine Ext.trans ?_ (by assumption))))) only [AX, TY, gV, dstOf, p_makeFunc, p_mapUpdate, mapPut, entsOf, p_lookup, p_extract, p_nilCheck, oneV, p_load, p_store, p_binOp, p_unOp, p_indexAddr, p_index, p_box, p_build, evParts, builtinV, load1, ldc, splice, minds, disj, rcOf, isCall, touchV, idsOf, mapId, touchB, p_buildSlice, buildSliceV, reps, fillV, p_convert, p_slice, evO, p_makeSlice, sid_some, soff_some, Nat.reduceLT, Nat.reduceLeDiff, Nat.reduceEqDiff, Nat.reduceAdd, Nat.reduceMul, Int.reduceBEq, Int.reduceEq, Int.reduceNeg, Int.reduceLT, Int.reduceLE, Int.reduceAdd, Int.reduceSub, Int.reduceMul, Int.reduceToNat, Int.reduceGT, Nat.reduceBEq, Nat.reducePow, Nat.reduceGT, reduceCtorEq, ↓reduceIte]
    exact ⟨e09, .inr (.inr ⟨v, k, rfl, by omega, hB'⟩)⟩
theorem sum_rem {l : List Int} (k : Nat) : totalS (remC l k) ≤ totalS (cellsS l) := by
  unfold totalS remC
  have h1 : sumLen (cellsS l) = sumLen ((cellsS l).take (k + 1)) + sumLen ((cellsS l).drop (k + 1)) := by
    unfold sumLen; rw [← List.sum_append, ← List.map_append, List.take_append_drop]
  have h2 : sumLen ((cellsS l).take (k + 1)) = sumLen ((cellsS l).take k) + sumLen (((cellsS l).take (k + 1)).drop k) := by
    unfold sumLen; rw [← List.sum_append, ← List.map_append]
    have := List.take_append_drop k ((cellsS l).take (k + 1))
    rw [List.take_take, Nat.min_eq_left (by omega)] at this
    rw [this]
  have h3 : sumLen ((cellsS l).take k ++ [] ++ (cellsS l).drop (k + 1)) = sumLen ((cellsS l).take k) + sumLen ((cellsS l).drop (k + 1)) := by
    unfold sumLen; simp
  rw [h3]
  simp only [List.length_append, List.length_take, List.length_drop, List.length_nil]
  omega
theorem rremove_ok {h : Heap} {p : Option (Nat × Nat)} {c : Option Nat} {l : List Int} (hr : Rs h p c 1 eb l) (hb : Bytes l) (i : Int) :
    WR (callE Try.prog hk 37 [.slice p l.length c, .int .i64 i] h) fun r h' => Ext h h' ∧ RUpR h h' l i (num l 1 - 1) (remC l) r := by
  refine WR.call (hH := rfl) Try.func37 rfl (n := 35) rfl rfl (by simp) ?_
  simp -dsimp (disch := first | with_reducible assumption | omega | (intro h_; cases h_; done) | (simp only [LN] <;> omega) | (simp only [LF]; done) | (repeat (first | with_reducible assumption | apply Ext.refl | apply Ext.app | (apply Ext.set <;> omega) | (refine Ext.trans ?_ (by assumption))))) only [AX, TY, gV, dstOf, p_makeFunc, p_mapUpdate, mapPut, entsOf, p_lookup, p_extract, p_nilCheck, oneV, p_load, p_store, p_binOp, p_unOp, p_indexAddr, p_index, p_box, p_build, evParts, builtinV, load1, ldc, splice, minds, disj, rcOf, isCall, touchV, idsOf, mapId, touchB, p_buildSlice, buildSliceV, reps, fillV, p_convert, p_slice, evO, p_makeSlice, sid_some, soff_some, Nat.reduceLT, Nat.reduceLeDiff, Nat.reduceEqDiff, Nat.reduceAdd, Nat.reduceMul, Int.reduceBEq, Int.reduceEq, Int.reduceNeg, Int.reduceLT, Int.reduceLE, Int.reduceAdd, Int.reduceSub, Int.reduceMul, Int.reduceToNat, Int.reduceGT, Nat.reduceBEq, Nat.reducePow, Nat.reduceGT, reduceCtorEq, ↓reduceIte]
  refine (rvalid_ok hr hb).mono ?_
  rintro _ _ ⟨rfl, b, rfl, hv⟩
  cases b
  · simp -dsimp (disch := first | with_reducible assumption | omega | (intro h_; cases h_; done) | (simp only [LN] <;> omega) | (simp only [LF]; done) | (repeat (first | with_reducible assumption | apply Ext.refl | apply Ext.app | (apply Ext.set <;> omega) | (refine Ext.trans ?_ (by assumption))))) only [AX, TY, gV, dstOf, p_makeFunc, p_mapUpdate, mapPut, entsOf, p_lookup, p_extract, p_nilCheck, oneV, p_load, p_store, p_binOp, p_unOp, p_indexAddr, p_index, p_box, p_build, evParts, builtinV, load1, ldc, splice, minds, disj, rcOf, isCall, touchV, idsOf, mapId, touchB, p_buildSlice, buildSliceV, reps, fillV, p_convert, p_slice, evO, p_makeSlice, sid_some, soff_some, Nat.reduceLT, Nat.reduceLeDiff, Nat.reduceEqDiff, Nat.reduceAdd, Nat.reduceMul, Int.reduceBEq, Int.reduceEq, Int.reduceNeg, Int.reduceLT, Int.reduceLE, Int.reduceAdd, Int.reduceSub, Int.reduceMul, Int.reduceToNat, Int.reduceGT, Nat.reduceBEq, Nat.reducePow, Nat.reduceGT, reduceCtorEq, ↓reduceIte]
    exact ⟨.refl _, .inl ⟨fun v => absurd (hv.2 v) (by simp), rfl⟩⟩
  have v := hv.1 rfl
  obtain ⟨⟨pa, po'⟩, rfl⟩ : ∃ q, p = some q := by
    cases p with
    | none => have h1 := hr.sl.nil rfl; have h2 := v.len; rw [h1] at h2; simp at h2
    | some q => exact ⟨q, rfl⟩
  have hpa := hr.sl.lt rfl
  simp -dsimp (disch := first | with_reducible assumption | omega | (intro h_; cases h_; done) | (simp only [LN] <;> omega) | (simp only [LF]; done) | (repeat (first | with_reducible assumption | apply Ext.refl | apply Ext.app | (apply Ext.set <;> omega) | (refine Ext.trans ?_ (by assumption))))) only [AX, TY, gV, dstOf, p_makeFunc, p_mapUpdate, mapPut, entsOf, p_lookup, p_extract, p_nilCheck, oneV, p_load, p_store, p_binOp, p_unOp, p_indexAddr, p_index, p_box, p_build, evParts, builtinV, load1, ldc, splice, minds, disj, rcOf, isCall, touchV, idsOf, mapId, touchB, p_buildSlice, buildSliceV, reps, fillV, p_convert, p_slice, evO, p_makeSlice, sid_some, soff_some, Nat.reduceLT, Nat.reduceLeDiff, Nat.reduceEqDiff, Nat.reduceAdd, Nat.reduceMul, Int.reduceBEq, Int.reduceEq, Int.reduceNeg, Int.reduceLT, Int.reduceLE, Int.reduceAdd, Int.reduceSub, Int.reduceMul, Int.reduceToNat, Int.reduceGT, Nat.reduceBEq, Nat.reducePow, Nat.reduceGT, reduceCtorEq, ↓reduceIte]
  refine (rcells_ok hr hb v).mono ?_
  rintro _ h1 ⟨e1, s, po, co, oid, rfl, gr, hvv, hs⟩
  obtain ⟨hs1, hs2, hs3⟩ := cells_small hb v hs
  have le1 := e1.le
  by_cases h1' : i < 0
  · simp -dsimp (disch := first | with_reducible assumption | omega | (intro h_; cases h_; done) | (simp only [LN] <;> omega) | (simp only [LF]; done) | (repeat (first | with_reducible assumption | apply Ext.refl | apply Ext.app | (apply Ext.set <;> omega) | (refine Ext.trans ?_ (by assumption))))) only [AX, TY, gV, dstOf, p_makeFunc, p_mapUpdate, mapPut, entsOf, p_lookup, p_extract, p_nilCheck, oneV, p_load, p_store, p_binOp, p_unOp, p_indexAddr, p_index, p_box, p_build, evParts, builtinV, load1, ldc, splice, minds, disj, rcOf, isCall, touchV, idsOf, mapId, touchB, p_buildSlice, buildSliceV, reps, fillV, p_convert, p_slice, evO, p_makeSlice, sid_some, soff_some, Nat.reduceLT, Nat.reduceLeDiff, Nat.reduceEqDiff, Nat.reduceAdd, Nat.reduceMul, Int.reduceBEq, Int.reduceEq, Int.reduceNeg, Int.reduceLT, Int.reduceLE, Int.reduceAdd, Int.reduceSub, Int.reduceMul, Int.reduceToNat, Int.reduceGT, Nat.reduceBEq, Nat.reducePow, Nat.reduceGT, reduceCtorEq, ↓reduceIte, h1']
    exact ⟨e1, .inr (.inl ⟨v, by omega, rfl⟩)⟩
  by_cases h2' : (s.length : Int) ≤ i
  · simp -dsimp (disch := first | with_reducible assumption | omega | (intro h_; cases h_; done) | (simp only [LN] <;> omega) | (simp only [LF]; done) | (repeat (first | with_reducible assumption | apply Ext.refl | apply Ext.app | (apply Ext.set <;> omega) | (refine Ext.trans ?_ (by assumption))))) only [AX, TY, gV, dstOf, p_makeFunc, p_mapUpdate, mapPut, entsOf, p_lookup, p_extract, p_nilCheck, oneV, p_load, p_store, p_binOp, p_unOp, p_indexAddr, p_index, p_box, p_build, evParts, builtinV, load1, ldc, splice, minds, disj, rcOf, isCall, touchV, idsOf, mapId, touchB, p_buildSlice, buildSliceV, reps, fillV, p_convert, p_slice, evO, p_makeSlice, sid_some, soff_some, Nat.reduceLT, Nat.reduceLeDiff, Nat.reduceEqDiff, Nat.reduceAdd, Nat.reduceMul, Int.reduceBEq, Int.reduceEq, Int.reduceNeg, Int.reduceLT, Int.reduceLE, Int.reduceAdd, Int.reduceSub, Int.reduceMul, Int.reduceToNat, Int.reduceGT, Nat.reduceBEq, Nat.reducePow, Nat.reduceGT, reduceCtorEq, ↓reduceIte, h1', eq_true h2']
    exact ⟨e1, .inr (.inl ⟨v, by omega, rfl⟩)⟩
  obtain ⟨k, rfl⟩ : ∃ k : Nat, i = (k : Int) := ⟨i.toNat, by omega⟩
  have hks : k + 1 ≤ s.length := by omega
  obtain ⟨⟨sa, so'⟩, rfl⟩ : ∃ q, po = some q := by
    cases po with
    | none => have h1 := gr.sl.nil rfl; rw [h1] at hks; simp at hks
    | some q => exact ⟨q, rfl⟩
  have hsa := gr.sl.lt rfl
  have hw : IntKind.i64.wrap ((k : Int) + 1) = ((k + 1 : Nat) : Int) := by rw [IntKind.wrap_i64]; omega
  obtain ⟨hcut1, rs1⟩ := gr.rs.hi (b := k) (by omega)
  obtain ⟨p2, c2, hcut2, rs2⟩ := gr.rs.lo (a := k + 1) hks
  have ex1 : Ext h1 (h1 ++ [O.cells [] Kd.rw]) := (by (repeat (first | assumption | apply Ext.refl | apply Ext.app | (apply Ext.set <;> omega) | exact Ext.trans (by assumption) (by assumption) | (refine Ext.trans ?_ (by assumption)))))
  have hg1 : (h1 ++ [O.cells [] Kd.rw])[h1.length]? = some (O.cells [] Kd.rw) := snoc_last _ rfl
  obtain ⟨pn, cn, on, h2, hap1, gn, hon, hln, hkn⟩ := clone_app (bytes := 24) (b := h1.length) (c := co) (rs1.sl.ext ex1) hg1 (Nat.le_refl _) (fun y _ => rfl) (by rw [List.length_take]; omega)
  have htl : (s.take k).length = k := by rw [List.length_take]; omega
  have hdl : (s.drop (k + 1)).length = s.length - (k + 1) := List.length_drop ..
  rw [htl] at hap1
  have hl1 : (h1 ++ [O.cells [] Kd.rw]).length = h1.length + 1 := by simp
  have keep2 : ∀ a, a < h1.length → h2[a]? = h1[a]? := fun a ha => by rw [hkn a (by omega) (by omega), snoc_old _ ha]
  have e12 : Ext h1 h2 := Ext.of_keep keep2
  have le2 := e12.le
  have hfr := (rs2.sl.ext e12).first c2 (Nat.le_refl _) (s.length - (k + 1))
  rw [← hdl, List.take_length] at hfr
  obtain ⟨p6, c6, o6, h4, hap3, g6, ho6, hl6, hk6, hb6⟩ := gn.append (zs := s.drop (k + 1)) (n := (s.drop (k + 1)).length) (bytes := 24) (x := .slice p2 (s.drop (k + 1)).length c2) (by omega) rfl hfr (cl_w _) (cl_l _) (by simp only [List.length_take, List.length_drop]; omega) (by simp only [List.length_take, List.length_drop]; omega)
  have e14 : Ext h1 h4 := e12.below (Nat.le_refl _) hb6
  have hmap : (s.take k ++ s.drop (k + 1)).map Cl.bs = remC l k := by
    unfold remC; rw [← hs]; simp [List.map_take, List.map_drop]
  have hcok : ∀ y ∈ s.take k ++ s.drop (k + 1), COK h4 y ∧ y.bs.length ≤ 100000 := fun y hy => by
    simp only [List.mem_append] at hy
    rcases hy with hy | hy
    · exact ⟨Sl.ext (hvv y (List.mem_of_mem_take hy)).1 e14, by have := hs3 y (List.mem_of_mem_take hy); omega⟩
    · exact ⟨Sl.ext (hvv y (List.mem_of_mem_drop hy)).1 e14, by have := hs3 y (List.mem_of_mem_drop hy); omega⟩
  have hNl : (s.take k ++ s.drop (k + 1)).length = s.length - 1 := by rw [List.length_append, htl, hdl]; omega
  have hm := fun x => gn.muts x (fun y => !y == pa) (fun id e => by have := gn.base id e; simp; omega)
  rw [htl] at hm
  generalize hNN : s.take k ++ s.drop (k + 1) = NN at *
  have hbd := rbuild_ok (c := c6) g6.sl (fun y hy => (hcok y hy).1) (kd := rd l 0) (hb.rd 0) (by omega) (fun y hy => (hcok y hy).2)
  rw [hmap, hNl] at hbd
  rw [htl, hdl, hNl] at hap3
  have e04 := e1.trans e14
  have hkd := fun hh (e : Ext h hh) => rkind_ok (hr.ext e) hb v
  simp -dsimp (disch := first | with_reducible assumption | omega | (intro h_; cases h_; done) | (simp only [LN] <;> omega) | (simp only [LF]; done) | (repeat (first | with_reducible assumption | apply Ext.refl | apply Ext.app | (apply Ext.set <;> omega) | (refine Ext.trans ?_ (by assumption))))) only [AX, TY, gV, dstOf, p_makeFunc, p_mapUpdate, mapPut, entsOf, p_lookup, p_extract, p_nilCheck, oneV, p_load, p_store, p_binOp, p_unOp, p_indexAddr, p_index, p_box, p_build, evParts, builtinV, load1, ldc, splice, minds, disj, rcOf, isCall, touchV, idsOf, mapId, touchB, p_buildSlice, buildSliceV, reps, fillV, p_convert, p_slice, evO, p_makeSlice, sid_some, soff_some, Nat.reduceLT, Nat.reduceLeDiff, Nat.reduceEqDiff, Nat.reduceAdd, Nat.reduceMul, Int.reduceBEq, Int.reduceEq, Int.reduceNeg, Int.reduceLT, Int.reduceLE, Int.reduceAdd, Int.reduceSub, Int.reduceMul, Int.reduceToNat, Int.reduceGT, Nat.reduceBEq, Nat.reducePow, Nat.reduceGT, reduceCtorEq, ↓reduceIte, h1', h2']
  refine W.drawn [(0, []), (2, [0]), (3, [2, 0]), (4, [3, 2, 0]), (5, [2, 0]), (7, [5, 4, 3, 2, 0]), (8, [7, 5, 4, 3, 2, 0]), (9, [7, 5, 4, 3, 2, 0]), (10, [5, 4, 3, 2, 0]), (1, [10, 9, 8, 7, 5, 4, 3, 2]), (6, [10, 9, 8, 7]), (11, []), (12, []), (13, []), (14, [13]), (15, []), (16, [])] (by decide +kernel) ?_
  simp -dsimp (disch := first | with_reducible assumption | omega | (intro h_; cases h_; done) | (simp only [LN] <;> omega) | (simp only [LF]; done) | (repeat (first | with_reducible assumption | apply Ext.refl | apply Ext.app | (apply Ext.set <;> omega) | (refine Ext.trans ?_ (by assumption))))) only [AX, TY, gV, dstOf, p_makeFunc, p_mapUpdate, mapPut, entsOf, p_lookup, p_extract, p_nilCheck, oneV, p_load, p_store, p_binOp, p_unOp, p_indexAddr, p_index, p_box, p_build, evParts, builtinV, load1, ldc, splice, minds, disj, rcOf, isCall, touchV, idsOf, mapId, touchB, p_buildSlice, buildSliceV, reps, fillV, p_convert, p_slice, evO, p_makeSlice, sid_some, soff_some, Nat.reduceLT, Nat.reduceLeDiff, Nat.reduceEqDiff, Nat.reduceAdd, Nat.reduceMul, Int.reduceBEq, Int.reduceEq, Int.reduceNeg, Int.reduceLT, Int.reduceLE, Int.reduceAdd, Int.reduceSub, Int.reduceMul, Int.reduceToNat, Int.reduceGT, Nat.reduceBEq, Nat.reducePow, Nat.reduceGT, reduceCtorEq, ↓reduceIte, hcut1, hcut2, hap1, hap3, hm, hw]
  refine (hkd _ (by exact (by (repeat (first | assumption | apply Ext.refl | apply Ext.app | (apply Ext.set <;> omega) | exact Ext.trans (by assumption) (by assumption) | (refine Ext.trans ?_ (by assumption))))))).mono ?_
  rintro _ _ ⟨rfl, rfl⟩
  simp -dsimp (disch := first | with_reducible assumption | omega | (intro h_; cases h_; done) | (simp only [LN] <;> omega) | (simp only [LF]; done) | (repeat (first | with_reducible assumption | apply Ext.refl | apply Ext.app | (apply Ext.set <;> omega) | (refine Ext.trans ?_ (by assumption))))) only [AX, TY, gV, dstOf, p_makeFunc, p_mapUpdate, mapPut, entsOf, p_lookup, p_extract, p_nilCheck, oneV, p_load, p_store, p_binOp, p_unOp, p_indexAddr, p_index, p_box, p_build, evParts, builtinV, load1, ldc, splice, minds, disj, rcOf, isCall, touchV, idsOf, mapId, touchB, p_buildSlice, buildSliceV, reps, fillV, p_convert, p_slice, evO, p_makeSlice, sid_some, soff_some, Nat.reduceLT, Nat.reduceLeDiff, Nat.reduceEqDiff, Nat.reduceAdd, Nat.reduceMul, Int.reduceBEq, Int.reduceEq, Int.reduceNeg, Int.reduceLT, Int.reduceLE, Int.reduceAdd, Int.reduceSub, Int.reduceMul, Int.reduceToNat, Int.reduceGT, Nat.reduceBEq, Nat.reducePow, Nat.reduceGT, reduceCtorEq, ↓reduceIte, hcut2, hap1, hw, hap3, hm]
  refine hbd.mono ?_
  skip
  rintro r h9 ⟨e9, hB⟩
  have hB' := RBuildR.base e04 hB
  have e09 := Ext.trans e04 e9
  rcases hB with ⟨a2, q, cq, oq, rfl, a4⟩ | ⟨a2, rfl⟩
  all_goals
    simp -dsimp (disch := first | with_reducible assumption | omega | (intro h_; cases h_; done) | (simp only [LN] <;> omega) | (simp only [LF]; done) | (repeat (first | with_reducible assumption | apply Ext.refl | apply Ext.app | (apply Ext.set <;> omega) | (refine Ext.trans ?_ (by assumption))))) only [AX, TY, gV, dstOf, p_makeFunc, p_mapUpdate, mapPut, entsOf, p_lookup, p_extract, p_nilCheck, oneV, p_load, p_store, p_binOp, p_unOp, p_indexAddr, p_index, p_box, p_build, evParts, builtinV, load1, ldc, splice, minds, disj, rcOf, isCall, touchV, idsOf, mapId, touchB, p_buildSlice, buildSliceV, reps, fillV, p_convert, p_slice, evO, p_makeSlice, sid_some, soff_some, Nat.reduceLT, Nat.reduceLeDiff, Nat.reduceEqDiff, Nat.reduceAdd, Nat.reduceMul, Int.reduceBEq, Int.reduceEq, Int.reduceNeg, Int.reduceLT, Int.reduceLE, Int.reduceAdd, Int.reduceSub, Int.reduceMul, Int.reduceToNat, Int.reduceGT, Nat.reduceBEq, Nat.reducePow, Nat.reduceGT, reduceCtorEq, ↓reduceIte]
    exact ⟨e09, .inr (.inr ⟨v, k, rfl, by omega, hB'⟩)⟩
end Go.Proofs.YtopbmpdcmnhfdaaA
