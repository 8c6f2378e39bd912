/- Words of this session: chapter 14: the law of inverses. -/
import Derived.Test.YtopbmpdcmnhfdaaPH
import Derived.Test.YtopbmpdcmnhfdaaAx29
namespace Go.Proofs.YtopbmpdcmnhfdaaA
open Go Go.Proofs Go.RowKit
set_option linter.unusedVariables false
set_option linter.unusedSimpArgs false
set_option maxRecDepth 10000
set_option maxHeartbeats 8000000
theorem lay_b {kd : Int} (hk : 0 ≤ kd ∧ kd ≤ 255) {cs : List (List Int)} (hc : ∀ c ∈ cs, Bytes c) : Bytes (layoutS kd cs) := bytes_layout kd hk cs hc
theorem cellsS_b {l : List Int} (hb : Bytes l) : ∀ c ∈ cellsS l, Bytes c := fun c hc => by
  unfold cellsS cellsTo at hc
  obtain ⟨i, _, rfl⟩ := List.mem_map.1 hc
  exact bytes_cellS hb _
theorem ins_b {l cell : List Int} (hb : Bytes l) (hcb : Bytes cell) (k : Nat) : ∀ c ∈ insC l cell k, Bytes c := fun c hc => by
  unfold insC at hc
  simp only [List.mem_append, List.mem_singleton] at hc
  rcases hc with (hc | rfl) | hc
  · exact cellsS_b hb c (List.mem_of_mem_take hc)
  · exact hcb
  · exact cellsS_b hb c (List.mem_of_mem_drop hc)
theorem rep_b {l cell : List Int} (hb : Bytes l) (hcb : Bytes cell) (k : Nat) : ∀ c ∈ repC l cell k, Bytes c := fun c hc => by
  unfold repC at hc
  simp only [List.mem_append, List.mem_singleton] at hc
  rcases hc with (hc | rfl) | hc
  · exact cellsS_b hb c (List.mem_of_mem_take hc)
  · exact hcb
  · exact cellsS_b hb c (List.mem_of_mem_drop hc)
theorem rem_b {l : List Int} (hb : Bytes l) (k : Nat) : ∀ c ∈ remC l k, Bytes c := fun c hc => by
  unfold remC at hc
  simp only [List.mem_append, List.not_mem_nil, or_false] at hc
  rcases hc with hc | hc
  · exact cellsS_b hb c (List.mem_of_mem_take hc)
  · exact cellsS_b hb c (List.mem_of_mem_drop hc)
theorem cellsS_len {l : List Int} (hb : Bytes l) : ((cellsS l).length : Int) = num l 1 := by
  have := num_range hb 1
  unfold cellsS
  rw [cellsTo_length]; omega
/-- A page that was built. -/
structure Built (h : Heap) (q : Nat) (kd : Int) (cs : List (List Int)) : Prop where
  hkd : 0 ≤ kd ∧ kd ≤ 255
  fit : totalS cs ≤ 1024
  rs : Rs h (some (q, 0)) (some 1024) 1 eb (layoutS kd cs)
  len : (layoutS kd cs).length = 1024
theorem Built.of {h : Heap} {q : Nat} {kd : Int} {cs : List (List Int)} (hk : 0 ≤ kd ∧ kd ≤ 255) (hf : totalS cs ≤ 1024) (g : h[q]? = some (.cells ((layoutS kd cs).flatMap eb) .rw)) : Built h q kd cs := by
  have hl := lay_len hk hf
  exact ⟨hk, hf, Rs.ofSome (Sl.whole g (eb_w _) rfl (by omega)) (by omega), hl⟩
theorem Built.ext {h hh : Heap} {q : Nat} {kd : Int} {cs : List (List Int)} (b : Built h q kd cs) (e : Ext h hh) : Built hh q kd cs := ⟨b.hkd, b.fit, b.rs.ext e, b.len⟩
theorem rem_ins {kd : Int} {l cell : List Int} {k : Nat} (hk : 0 ≤ kd ∧ kd ≤ 255) (hf : totalS (insC l cell k) ≤ 1024) (hkl : k ≤ (cellsS l).length) : remC (layoutS kd (insC l cell k)) k = cellsS l := by
  unfold remC
  rw [lay_cells hk hf]
  unfold insC
  have e1 : ((cellsS l).take k ++ [cell] ++ (cellsS l).drop k).take k = (cellsS l).take k := by
    rw [List.append_assoc]; exact List.take_left' (by rw [List.length_take]; omega)
  have e2 : ((cellsS l).take k ++ [cell] ++ (cellsS l).drop k).drop (k + 1) = (cellsS l).drop k := List.drop_left' (by rw [List.length_append, List.length_take]; simp; omega)
  rw [e1, e2, List.append_nil, List.take_append_drop]
theorem rep_rep {kd : Int} {l cell old : List Int} {k : Nat} (hk : 0 ≤ kd ∧ kd ≤ 255) (hf : totalS (repC l cell k) ≤ 1024) (hkl : k < (cellsS l).length) (ho : (cellsS l).getD k [] = old) : repC (layoutS kd (repC l cell k)) old k = cellsS l := by
  show (cellsS (layoutS kd (repC l cell k))).take k ++ [old] ++ (cellsS (layoutS kd (repC l cell k))).drop (k + 1) = _
  rw [lay_cells hk hf]
  unfold repC
  have e1 : ((cellsS l).take k ++ [cell] ++ (cellsS l).drop (k + 1)).take k = (cellsS l).take k := by
    rw [List.append_assoc]; exact List.take_left' (by rw [List.length_take]; omega)
  have e2 : ((cellsS l).take k ++ [cell] ++ (cellsS l).drop (k + 1)).drop (k + 1) = (cellsS l).drop (k + 1) := List.drop_left' (by rw [List.length_append, List.length_take]; simp; omega)
  rw [e1, e2]
  rw [List.getD_eq_getElem?_getD, List.getElem?_eq_getElem hkl] at ho
  simp only [Option.getD_some] at ho
  rw [← ho, List.append_assoc, List.singleton_append, List.getElem_cons_drop, List.take_append_drop]
/-- What was built of a page's own cells begins as the page. -/
theorem built_back {l : List Int} (hb : Bytes l) (v : Valid l) : (layoutS (rd l 0) (cellsS l)).take 1020 = l.take 1020 := by
  rw [layout_cells hb v]
  exact List.take_left' (by rw [List.length_take]; have := v.len; omega)
theorem ins_len {l cell : List Int} {k : Nat} (hk : k ≤ (cellsS l).length) : (insC l cell k).length = (cellsS l).length + 1 := by
  unfold insC; simp only [List.length_append, List.length_take, List.length_drop, List.length_cons, List.length_nil]; omega
theorem rep_len {l cell : List Int} {k : Nat} (hk : k < (cellsS l).length) : (repC l cell k).length = (cellsS l).length := by
  unfold repC; simp only [List.length_append, List.length_take, List.length_drop, List.length_cons, List.length_nil]; omega
theorem rem_len {l : List Int} {k : Nat} (hk : k < (cellsS l).length) : (remC l k).length + 1 = (cellsS l).length := by
  unfold remC; simp only [List.length_append, List.length_take, List.length_drop, List.length_nil]; omega
/-- Removing an inserted cell. -/
theorem back_ins {h : Heap} {q : Nat} {l cell : List Int} {k : Nat} (hb : Bytes l) (v : Valid l) (hcb : Bytes cell) (hkl : (k : Int) ≤ num l 1) (b : Built h q (rd l 0) (insC l cell k)) :
    WR (callE Try.prog hk 34 [.slice (some (q, 0)) 1024 (some 1024), .int .i64 (k : Int)] h) fun r h' => Ext h h' ∧ ∃ q', r = V.tuple [.slice (some (q', 0)) 1024 (some 1024), .int .i64 0] ∧ Built h' q' (rd l 0) (cellsS l) := by
  have hn := cellsS_len hb
  have hP := lay_b b.hkd (ins_b hb hcb k)
  have hvP : Valid (layoutS (rd l 0) (insC l cell k)) := lay_valid b.hkd b.fit
  have hct := lay_count b.hkd b.fit
  have hil := ins_len (l := l) (cell := cell) (k := k) (by omega)
  have hrm := remove_ok b.rs hP (k : Int)
  rw [b.len] at hrm
  refine hrm.mono ?_
  rintro r h' ⟨e, hU⟩
  refine ⟨e, ?_⟩
  rcases hU with ⟨q, _⟩ | ⟨_, hout, _⟩ | ⟨_, k', hk', _, hB⟩
  · exact absurd hvP q
  · exact absurd ⟨by omega, by rw [hct]; omega⟩ hout
  · obtain rfl : k = k' := by omega
    rw [lay_kind b.hkd b.fit, rem_ins b.hkd b.fit (by omega)] at hB
    rcases hB with ⟨a1, a2, q', rfl, _, a5⟩ | ⟨_, a2, _⟩ | ⟨a1, _⟩
    · exact ⟨q', rfl, Built.of a1 a2 a5⟩
    · exact absurd (total_fits hb v) a2
    · exact absurd b.hkd a1
theorem back_rep {h : Heap} {q : Nat} {po : Option (Nat × Nat)} {co : Option Nat} {l cell : List Int} {k : Nat} (hb : Bytes l) (v : Valid l) (hcb : Bytes cell) (hkl : (k : Int) < num l 1) (b : Built h q (rd l 0) (repC l cell k)) (ho : Sl h po 1 eb (cellS l k)) :
    WR (callE Try.prog hk 33 [.slice (some (q, 0)) 1024 (some 1024), .int .i64 (k : Int), .slice po (cellS l k).length co] h) fun r h' => Ext h h' ∧ ∃ q', r = V.tuple [.slice (some (q', 0)) 1024 (some 1024), .int .i64 0] ∧ Built h' q' (rd l 0) (cellsS l) := by
  have hn := cellsS_len hb
  have hP := lay_b b.hkd (rep_b hb hcb k)
  have hvP : Valid (layoutS (rd l 0) (repC l cell k)) := lay_valid b.hkd b.fit
  have hct := lay_count b.hkd b.fit
  have hil := rep_len (l := l) (cell := cell) (k := k) (by omega)
  have hcl : (cellS l k).length ≤ 1024 := by unfold cellS; rw [List.length_drop, List.length_take]; have := v.len; omega
  have hgd := getD_cells hb v (j := k) hkl
  have hrm := replace_ok (cc := co) b.rs hP ho (by omega) (k : Int)
  rw [b.len] at hrm
  refine hrm.mono ?_
  rintro r h' ⟨e, hU⟩
  refine ⟨e, ?_⟩
  rcases hU with ⟨q, _⟩ | ⟨_, hout, _⟩ | ⟨_, k', hk', _, hB⟩
  · exact absurd hvP q
  · exact absurd ⟨by omega, by rw [hct]; omega⟩ hout
  · obtain rfl : k = k' := by omega
    rw [lay_kind b.hkd b.fit, rep_rep b.hkd b.fit (by omega) hgd] at hB
    rcases hB with ⟨a1, a2, q', rfl, _, a5⟩ | ⟨_, a2, _⟩ | ⟨a1, _⟩
    · exact ⟨q', rfl, Built.of a1 a2 a5⟩
    · exact absurd (total_fits hb v) a2
    · exact absurd b.hkd a1
/-- The first bytes of the two. -/
theorem same_back {h : Heap} {p : Option (Nat × Nat)} {c : Option Nat} {q : Nat} {l : List Int} (hr : Rs h p c 1 eb l) (hb : Bytes l) (v : Valid l) (b : Built h q (rd l 0) (cellsS l)) :
    (∀ hh (k : IntKind), Ext h hh → sliceV hh 1 (some (q, 0)) 1024 (some 1024) none (some (.int k 1020)) none = some (.slice (some (q, 0)) 1020 (some 1024))) ∧ (∀ hh (k : IntKind), Ext h hh → sliceV hh 1 p l.length c none (some (.int k 1020)) none = some (.slice p 1020 c)) ∧
    ∀ hh, Ext h hh → WR (callE Try.prog hk 15 [.slice (some (q, 0)) 1020 (some 1024), .slice p 1020 c] hh) fun r h' => hh = h' ∧ r = .bool true := by
  have hl := v.len
  obtain ⟨c1, r1⟩ := b.rs.hi (b := 1020) (by rw [b.len]; omega)
  obtain ⟨c2, r2⟩ := hr.hi (b := 1020) (by omega)
  rw [b.len] at c1
  refine ⟨fun hh k e => c1 hh k e, fun hh k e => c2 hh k e, fun hh e => ?_⟩
  have hP := lay_b b.hkd (cellsS_b hb)
  have hsm := same_ok (c := some 1024) (d := c) (r1.sl.ext e) (r2.sl.ext e) (hP.take _) (hb.take _)
  have h1 : ((layoutS (rd l 0) (cellsS l)).take 1020).length = 1020 := by rw [List.length_take, b.len]; rfl
  have h2 : (l.take 1020).length = 1020 := by rw [List.length_take, hl]; rfl
  rw [h1, h2, built_back hb v] at hsm
  refine hsm.mono ?_
  rintro r h' ⟨e, rfl⟩
  exact ⟨e, by simp⟩
theorem law10_ok {h : Heap} {p pc : Option (Nat × Nat)} {c cc : Option Nat} {l cell : List Int} (hr : Rs h p c 1 eb l) (hb : Bytes l) (hc : Sl h pc 1 eb cell) (hcb : Bytes cell) (i : Int) (hi : -9223372036854775808 ≤ i ∧ i ≤ 9223372036854775807) :
    WR (callE Try.prog hk 10 [.slice p l.length c, .int .i64 i, .slice pc cell.length cc] h) fun r h' => r = .bool true := by
  refine WR.call (hH := rfl) Try.func10 rfl (n := 86) rfl rfl (by simp) ?_
  simp -dsimp (disch := first | with_reducible assumption | omega | (intro h_; cases h_; done) | (simp only [LN] <;> omega) | (simp only [LF]; done) | (repeat (first | with_reducible assumption | apply Ext.refl | apply Ext.app | (apply Ext.set <;> omega) | (refine Ext.trans ?_ (by assumption))))) only [AX, TY, gV, dstOf, p_makeFunc, p_mapUpdate, mapPut, entsOf, p_lookup, p_extract, p_nilCheck, oneV, p_load, p_store, p_binOp, p_unOp, p_indexAddr, p_index, p_box, p_build, evParts, builtinV, load1, ldc, splice, minds, disj, rcOf, isCall, touchV, idsOf, mapId, touchB, p_buildSlice, buildSliceV, reps, fillV, p_convert, p_slice, evO, p_makeSlice, sid_some, soff_some, Nat.reduceLT, Nat.reduceLeDiff, Nat.reduceEqDiff, Nat.reduceAdd, Nat.reduceMul, Int.reduceBEq, Int.reduceEq, Int.reduceNeg, Int.reduceLT, Int.reduceLE, Int.reduceAdd, Int.reduceSub, Int.reduceMul, Int.reduceToNat, Int.reduceGT, Nat.reduceBEq, Nat.reducePow, Nat.reduceGT, reduceCtorEq, ↓reduceIte]
  refine awake_ok.mono ?_
  rintro _ h1 ⟨e1, rfl⟩
  by_cases g1 : 1100 < (l.length : Int)
  · simp -dsimp (disch := first | with_reducible assumption | omega | (intro h_; cases h_; done) | (simp only [LN] <;> omega) | (simp only [LF]; done) | (repeat (first | with_reducible assumption | apply Ext.refl | apply Ext.app | (apply Ext.set <;> omega) | (refine Ext.trans ?_ (by assumption))))) only [AX, TY, gV, dstOf, p_makeFunc, p_mapUpdate, mapPut, entsOf, p_lookup, p_extract, p_nilCheck, oneV, p_load, p_store, p_binOp, p_unOp, p_indexAddr, p_index, p_box, p_build, evParts, builtinV, load1, ldc, splice, minds, disj, rcOf, isCall, touchV, idsOf, mapId, touchB, p_buildSlice, buildSliceV, reps, fillV, p_convert, p_slice, evO, p_makeSlice, sid_some, soff_some, Nat.reduceLT, Nat.reduceLeDiff, Nat.reduceEqDiff, Nat.reduceAdd, Nat.reduceMul, Int.reduceBEq, Int.reduceEq, Int.reduceNeg, Int.reduceLT, Int.reduceLE, Int.reduceAdd, Int.reduceSub, Int.reduceMul, Int.reduceToNat, Int.reduceGT, Nat.reduceBEq, Nat.reducePow, Nat.reduceGT, reduceCtorEq, ↓reduceIte, g1]
  by_cases g2 : 1100 < (cell.length : Int)
  · simp -dsimp (disch := first | with_reducible assumption | omega | (intro h_; cases h_; done) | (simp only [LN] <;> omega) | (simp only [LF]; done) | (repeat (first | with_reducible assumption | apply Ext.refl | apply Ext.app | (apply Ext.set <;> omega) | (refine Ext.trans ?_ (by assumption))))) only [AX, TY, gV, dstOf, p_makeFunc, p_mapUpdate, mapPut, entsOf, p_lookup, p_extract, p_nilCheck, oneV, p_load, p_store, p_binOp, p_unOp, p_indexAddr, p_index, p_box, p_build, evParts, builtinV, load1, ldc, splice, minds, disj, rcOf, isCall, touchV, idsOf, mapId, touchB, p_buildSlice, buildSliceV, reps, fillV, p_convert, p_slice, evO, p_makeSlice, sid_some, soff_some, Nat.reduceLT, Nat.reduceLeDiff, Nat.reduceEqDiff, Nat.reduceAdd, Nat.reduceMul, Int.reduceBEq, Int.reduceEq, Int.reduceNeg, Int.reduceLT, Int.reduceLE, Int.reduceAdd, Int.reduceSub, Int.reduceMul, Int.reduceToNat, Int.reduceGT, Nat.reduceBEq, Nat.reducePow, Nat.reduceGT, reduceCtorEq, ↓reduceIte, g1, g2]
  simp -dsimp (disch := first | with_reducible assumption | omega | (intro h_; cases h_; done) | (simp only [LN] <;> omega) | (simp only [LF]; done) | (repeat (first | with_reducible assumption | apply Ext.refl | apply Ext.app | (apply Ext.set <;> omega) | (refine Ext.trans ?_ (by assumption))))) only [AX, TY, gV, dstOf, p_makeFunc, p_mapUpdate, mapPut, entsOf, p_lookup, p_extract, p_nilCheck, oneV, p_load, p_store, p_binOp, p_unOp, p_indexAddr, p_index, p_box, p_build, evParts, builtinV, load1, ldc, splice, minds, disj, rcOf, isCall, touchV, idsOf, mapId, touchB, p_buildSlice, buildSliceV, reps, fillV, p_convert, p_slice, evO, p_makeSlice, sid_some, soff_some, Nat.reduceLT, Nat.reduceLeDiff, Nat.reduceEqDiff, Nat.reduceAdd, Nat.reduceMul, Int.reduceBEq, Int.reduceEq, Int.reduceNeg, Int.reduceLT, Int.reduceLE, Int.reduceAdd, Int.reduceSub, Int.reduceMul, Int.reduceToNat, Int.reduceGT, Nat.reduceBEq, Nat.reducePow, Nat.reduceGT, reduceCtorEq, ↓reduceIte, g1, g2]
  refine (insert_ok (hr.ext e1) hb (hc.ext e1) (by omega) i).mono ?_
  rintro r h2 ⟨e2, hU⟩
  have e02 := e1.trans e2
  rcases hU with ⟨q, rfl⟩ | ⟨_, hout, rfl⟩ | ⟨v, k, hk, hkn, hB⟩
  · clear q
    simp -dsimp (disch := first | with_reducible assumption | omega | (intro h_; cases h_; done) | (simp only [LN] <;> omega) | (simp only [LF]; done) | (repeat (first | with_reducible assumption | apply Ext.refl | apply Ext.app | (apply Ext.set <;> omega) | (refine Ext.trans ?_ (by assumption))))) only [AX, TY, gV, dstOf, p_makeFunc, p_mapUpdate, mapPut, entsOf, p_lookup, p_extract, p_nilCheck, oneV, p_load, p_store, p_binOp, p_unOp, p_indexAddr, p_index, p_box, p_build, evParts, builtinV, load1, ldc, splice, minds, disj, rcOf, isCall, touchV, idsOf, mapId, touchB, p_buildSlice, buildSliceV, reps, fillV, p_convert, p_slice, evO, p_makeSlice, sid_some, soff_some, Nat.reduceLT, Nat.reduceLeDiff, Nat.reduceEqDiff, Nat.reduceAdd, Nat.reduceMul, Int.reduceBEq, Int.reduceEq, Int.reduceNeg, Int.reduceLT, Int.reduceLE, Int.reduceAdd, Int.reduceSub, Int.reduceMul, Int.reduceToNat, Int.reduceGT, Nat.reduceBEq, Nat.reducePow, Nat.reduceGT, reduceCtorEq, ↓reduceIte]
    skip
    refine (cell_ok (hr.ext e02) hb i).mono ?_
    rintro _ h5 ⟨e5, hcell⟩
    have e05 := Ext.trans e02 e5
    have hrp := replace_ok (cc := cc) (hr.ext e05) hb (hc.ext e05) (by omega) i
    rcases hcell with ⟨hin, p5, c5, o5, rfl, gr5⟩ | ⟨hnin, rfl⟩
    rotate_left
    · simp -dsimp (disch := first | with_reducible assumption | omega | (intro h_; cases h_; done) | (simp only [LN] <;> omega) | (simp only [LF]; done) | (repeat (first | with_reducible assumption | apply Ext.refl | apply Ext.app | (apply Ext.set <;> omega) | (refine Ext.trans ?_ (by assumption))))) only [AX, TY, gV, dstOf, p_makeFunc, p_mapUpdate, mapPut, entsOf, p_lookup, p_extract, p_nilCheck, oneV, p_load, p_store, p_binOp, p_unOp, p_indexAddr, p_index, p_box, p_build, evParts, builtinV, load1, ldc, splice, minds, disj, rcOf, isCall, touchV, idsOf, mapId, touchB, p_buildSlice, buildSliceV, reps, fillV, p_convert, p_slice, evO, p_makeSlice, sid_some, soff_some, Nat.reduceLT, Nat.reduceLeDiff, Nat.reduceEqDiff, Nat.reduceAdd, Nat.reduceMul, Int.reduceBEq, Int.reduceEq, Int.reduceNeg, Int.reduceLT, Int.reduceLE, Int.reduceAdd, Int.reduceSub, Int.reduceMul, Int.reduceToNat, Int.reduceGT, Nat.reduceBEq, Nat.reducePow, Nat.reduceGT, reduceCtorEq, ↓reduceIte]
      refine hrp.mono ?_
      rintro r6 h6 ⟨e6, hU6⟩
      rcases hU6 with ⟨q, rfl⟩ | ⟨_, hout, rfl⟩ | ⟨v, k, rfl, hk, hB6⟩
      · simp -dsimp (disch := first | with_reducible assumption | omega | (intro h_; cases h_; done) | (simp only [LN] <;> omega) | (simp only [LF]; done) | (repeat (first | with_reducible assumption | apply Ext.refl | apply Ext.app | (apply Ext.set <;> omega) | (refine Ext.trans ?_ (by assumption))))) only [AX, TY, gV, dstOf, p_makeFunc, p_mapUpdate, mapPut, entsOf, p_lookup, p_extract, p_nilCheck, oneV, p_load, p_store, p_binOp, p_unOp, p_indexAddr, p_index, p_box, p_build, evParts, builtinV, load1, ldc, splice, minds, disj, rcOf, isCall, touchV, idsOf, mapId, touchB, p_buildSlice, buildSliceV, reps, fillV, p_convert, p_slice, evO, p_makeSlice, sid_some, soff_some, Nat.reduceLT, Nat.reduceLeDiff, Nat.reduceEqDiff, Nat.reduceAdd, Nat.reduceMul, Int.reduceBEq, Int.reduceEq, Int.reduceNeg, Int.reduceLT, Int.reduceLE, Int.reduceAdd, Int.reduceSub, Int.reduceMul, Int.reduceToNat, Int.reduceGT, Nat.reduceBEq, Nat.reducePow, Nat.reduceGT, reduceCtorEq, ↓reduceIte]
      · simp -dsimp (disch := first | with_reducible assumption | omega | (intro h_; cases h_; done) | (simp only [LN] <;> omega) | (simp only [LF]; done) | (repeat (first | with_reducible assumption | apply Ext.refl | apply Ext.app | (apply Ext.set <;> omega) | (refine Ext.trans ?_ (by assumption))))) only [AX, TY, gV, dstOf, p_makeFunc, p_mapUpdate, mapPut, entsOf, p_lookup, p_extract, p_nilCheck, oneV, p_load, p_store, p_binOp, p_unOp, p_indexAddr, p_index, p_box, p_build, evParts, builtinV, load1, ldc, splice, minds, disj, rcOf, isCall, touchV, idsOf, mapId, touchB, p_buildSlice, buildSliceV, reps, fillV, p_convert, p_slice, evO, p_makeSlice, sid_some, soff_some, Nat.reduceLT, Nat.reduceLeDiff, Nat.reduceEqDiff, Nat.reduceAdd, Nat.reduceMul, Int.reduceBEq, Int.reduceEq, Int.reduceNeg, Int.reduceLT, Int.reduceLE, Int.reduceAdd, Int.reduceSub, Int.reduceMul, Int.reduceToNat, Int.reduceGT, Nat.reduceBEq, Nat.reducePow, Nat.reduceGT, reduceCtorEq, ↓reduceIte]
      · exact absurd ⟨v, by omega, by omega⟩ hnin
    obtain ⟨v, hi0, hi1⟩ := id hin
    have hln := v.len
    simp -dsimp (disch := first | with_reducible assumption | omega | (intro h_; cases h_; done) | (simp only [LN] <;> omega) | (simp only [LF]; done) | (repeat (first | with_reducible assumption | apply Ext.refl | apply Ext.app | (apply Ext.set <;> omega) | (refine Ext.trans ?_ (by assumption))))) only [AX, TY, gV, dstOf, p_makeFunc, p_mapUpdate, mapPut, entsOf, p_lookup, p_extract, p_nilCheck, oneV, p_load, p_store, p_binOp, p_unOp, p_indexAddr, p_index, p_box, p_build, evParts, builtinV, load1, ldc, splice, minds, disj, rcOf, isCall, touchV, idsOf, mapId, touchB, p_buildSlice, buildSliceV, reps, fillV, p_convert, p_slice, evO, p_makeSlice, sid_some, soff_some, Nat.reduceLT, Nat.reduceLeDiff, Nat.reduceEqDiff, Nat.reduceAdd, Nat.reduceMul, Int.reduceBEq, Int.reduceEq, Int.reduceNeg, Int.reduceLT, Int.reduceLE, Int.reduceAdd, Int.reduceSub, Int.reduceMul, Int.reduceToNat, Int.reduceGT, Nat.reduceBEq, Nat.reducePow, Nat.reduceGT, reduceCtorEq, ↓reduceIte]
    refine hrp.mono ?_
    rintro r6 h6 ⟨e6, hU6⟩
    have e06 := e05.trans e6
    rcases hU6 with ⟨q, _⟩ | ⟨_, hout, rfl⟩ | ⟨_, k, rfl, hk, hB6⟩
    · exact absurd v q
    · exact absurd ⟨hi0, by omega⟩ hout
    rcases hB6 with ⟨a1, a2, q, rfl, _, a5⟩ | ⟨_, a2, rfl⟩ | ⟨a1, rfl⟩
    rotate_left
    · clear a2
      simp -dsimp (disch := first | with_reducible assumption | omega | (intro h_; cases h_; done) | (simp only [LN] <;> omega) | (simp only [LF]; done) | (repeat (first | with_reducible assumption | apply Ext.refl | apply Ext.app | (apply Ext.set <;> omega) | (refine Ext.trans ?_ (by assumption))))) only [AX, TY, gV, dstOf, p_makeFunc, p_mapUpdate, mapPut, entsOf, p_lookup, p_extract, p_nilCheck, oneV, p_load, p_store, p_binOp, p_unOp, p_indexAddr, p_index, p_box, p_build, evParts, builtinV, load1, ldc, splice, minds, disj, rcOf, isCall, touchV, idsOf, mapId, touchB, p_buildSlice, buildSliceV, reps, fillV, p_convert, p_slice, evO, p_makeSlice, sid_some, soff_some, Nat.reduceLT, Nat.reduceLeDiff, Nat.reduceEqDiff, Nat.reduceAdd, Nat.reduceMul, Int.reduceBEq, Int.reduceEq, Int.reduceNeg, Int.reduceLT, Int.reduceLE, Int.reduceAdd, Int.reduceSub, Int.reduceMul, Int.reduceToNat, Int.reduceGT, Nat.reduceBEq, Nat.reducePow, Nat.reduceGT, reduceCtorEq, ↓reduceIte]
    · exact absurd (hb.rd 0) a1
    have hbt := Built.of a1 a2 a5
    simp -dsimp (disch := first | with_reducible assumption | omega | (intro h_; cases h_; done) | (simp only [LN] <;> omega) | (simp only [LF]; done) | (repeat (first | with_reducible assumption | apply Ext.refl | apply Ext.app | (apply Ext.set <;> omega) | (refine Ext.trans ?_ (by assumption))))) only [AX, TY, gV, dstOf, p_makeFunc, p_mapUpdate, mapPut, entsOf, p_lookup, p_extract, p_nilCheck, oneV, p_load, p_store, p_binOp, p_unOp, p_indexAddr, p_index, p_box, p_build, evParts, builtinV, load1, ldc, splice, minds, disj, rcOf, isCall, touchV, idsOf, mapId, touchB, p_buildSlice, buildSliceV, reps, fillV, p_convert, p_slice, evO, p_makeSlice, sid_some, soff_some, Nat.reduceLT, Nat.reduceLeDiff, Nat.reduceEqDiff, Nat.reduceAdd, Nat.reduceMul, Int.reduceBEq, Int.reduceEq, Int.reduceNeg, Int.reduceLT, Int.reduceLE, Int.reduceAdd, Int.reduceSub, Int.reduceMul, Int.reduceToNat, Int.reduceGT, Nat.reduceBEq, Nat.reducePow, Nat.reduceGT, reduceCtorEq, ↓reduceIte]
    refine (back_rep (co := c5) hb v hcb hi1 hbt (gr5.sl.ext e6)).mono ?_
    rintro _ h7 ⟨e7, q7, rfl, hb7⟩
    have e07 := e06.trans e7
    obtain ⟨s1, s2, s3⟩ := same_back (hr.ext e07) hb v hb7
    simp -dsimp (disch := first | with_reducible assumption | omega | (intro h_; cases h_; done) | (simp only [LN] <;> omega) | (simp only [LF]; done) | (repeat (first | with_reducible assumption | apply Ext.refl | apply Ext.app | (apply Ext.set <;> omega) | (refine Ext.trans ?_ (by assumption))))) only [AX, TY, gV, dstOf, p_makeFunc, p_mapUpdate, mapPut, entsOf, p_lookup, p_extract, p_nilCheck, oneV, p_load, p_store, p_binOp, p_unOp, p_indexAddr, p_index, p_box, p_build, evParts, builtinV, load1, ldc, splice, minds, disj, rcOf, isCall, touchV, idsOf, mapId, touchB, p_buildSlice, buildSliceV, reps, fillV, p_convert, p_slice, evO, p_makeSlice, sid_some, soff_some, Nat.reduceLT, Nat.reduceLeDiff, Nat.reduceEqDiff, Nat.reduceAdd, Nat.reduceMul, Int.reduceBEq, Int.reduceEq, Int.reduceNeg, Int.reduceLT, Int.reduceLE, Int.reduceAdd, Int.reduceSub, Int.reduceMul, Int.reduceToNat, Int.reduceGT, Nat.reduceBEq, Nat.reducePow, Nat.reduceGT, reduceCtorEq, ↓reduceIte]
    refine W.drawn [(0, []), (1, []), (2, []), (3, []), (4, []), (5, []), (6, []), (7, []), (8, [7, 6]), (9, [7, 6]), (10, []), (11, []), (12, [])] (by decide +kernel) ?_
    simp -dsimp (disch := first | with_reducible assumption | omega | (intro h_; cases h_; done) | (simp only [LN] <;> omega) | (simp only [LF]; done) | (repeat (first | with_reducible assumption | apply Ext.refl | apply Ext.app | (apply Ext.set <;> omega) | (refine Ext.trans ?_ (by assumption))))) only [AX, TY, gV, dstOf, p_makeFunc, p_mapUpdate, mapPut, entsOf, p_lookup, p_extract, p_nilCheck, oneV, p_load, p_store, p_binOp, p_unOp, p_indexAddr, p_index, p_box, p_build, evParts, builtinV, load1, ldc, splice, minds, disj, rcOf, isCall, touchV, idsOf, mapId, touchB, p_buildSlice, buildSliceV, reps, fillV, p_convert, p_slice, evO, p_makeSlice, sid_some, soff_some, Nat.reduceLT, Nat.reduceLeDiff, Nat.reduceEqDiff, Nat.reduceAdd, Nat.reduceMul, Int.reduceBEq, Int.reduceEq, Int.reduceNeg, Int.reduceLT, Int.reduceLE, Int.reduceAdd, Int.reduceSub, Int.reduceMul, Int.reduceToNat, Int.reduceGT, Nat.reduceBEq, Nat.reducePow, Nat.reduceGT, reduceCtorEq, ↓reduceIte, s1, s2]
    refine (s3 _ (.refl _)).mono ?_
    rintro _ _ ⟨rfl, rfl⟩
    simp -dsimp (disch := first | with_reducible assumption | omega | (intro h_; cases h_; done) | (simp only [LN] <;> omega) | (simp only [LF]; done) | (repeat (first | with_reducible assumption | apply Ext.refl | apply Ext.app | (apply Ext.set <;> omega) | (refine Ext.trans ?_ (by assumption))))) only [AX, TY, gV, dstOf, p_makeFunc, p_mapUpdate, mapPut, entsOf, p_lookup, p_extract, p_nilCheck, oneV, p_load, p_store, p_binOp, p_unOp, p_indexAddr, p_index, p_box, p_build, evParts, builtinV, load1, ldc, splice, minds, disj, rcOf, isCall, touchV, idsOf, mapId, touchB, p_buildSlice, buildSliceV, reps, fillV, p_convert, p_slice, evO, p_makeSlice, sid_some, soff_some, Nat.reduceLT, Nat.reduceLeDiff, Nat.reduceEqDiff, Nat.reduceAdd, Nat.reduceMul, Int.reduceBEq, Int.reduceEq, Int.reduceNeg, Int.reduceLT, Int.reduceLE, Int.reduceAdd, Int.reduceSub, Int.reduceMul, Int.reduceToNat, Int.reduceGT, Nat.reduceBEq, Nat.reducePow, Nat.reduceGT, reduceCtorEq, ↓reduceIte]
  · clear hout
    simp -dsimp (disch := first | with_reducible assumption | omega | (intro h_; cases h_; done) | (simp only [LN] <;> omega) | (simp only [LF]; done) | (repeat (first | with_reducible assumption | apply Ext.refl | apply Ext.app | (apply Ext.set <;> omega) | (refine Ext.trans ?_ (by assumption))))) only [AX, TY, gV, dstOf, p_makeFunc, p_mapUpdate, mapPut, entsOf, p_lookup, p_extract, p_nilCheck, oneV, p_load, p_store, p_binOp, p_unOp, p_indexAddr, p_index, p_box, p_build, evParts, builtinV, load1, ldc, splice, minds, disj, rcOf, isCall, touchV, idsOf, mapId, touchB, p_buildSlice, buildSliceV, reps, fillV, p_convert, p_slice, evO, p_makeSlice, sid_some, soff_some, Nat.reduceLT, Nat.reduceLeDiff, Nat.reduceEqDiff, Nat.reduceAdd, Nat.reduceMul, Int.reduceBEq, Int.reduceEq, Int.reduceNeg, Int.reduceLT, Int.reduceLE, Int.reduceAdd, Int.reduceSub, Int.reduceMul, Int.reduceToNat, Int.reduceGT, Nat.reduceBEq, Nat.reducePow, Nat.reduceGT, reduceCtorEq, ↓reduceIte]
    skip
    refine (cell_ok (hr.ext e02) hb i).mono ?_
    rintro _ h5 ⟨e5, hcell⟩
    have e05 := Ext.trans e02 e5
    have hrp := replace_ok (cc := cc) (hr.ext e05) hb (hc.ext e05) (by omega) i
    rcases hcell with ⟨hin, p5, c5, o5, rfl, gr5⟩ | ⟨hnin, rfl⟩
    rotate_left
    · simp -dsimp (disch := first | with_reducible assumption | omega | (intro h_; cases h_; done) | (simp only [LN] <;> omega) | (simp only [LF]; done) | (repeat (first | with_reducible assumption | apply Ext.refl | apply Ext.app | (apply Ext.set <;> omega) | (refine Ext.trans ?_ (by assumption))))) only [AX, TY, gV, dstOf, p_makeFunc, p_mapUpdate, mapPut, entsOf, p_lookup, p_extract, p_nilCheck, oneV, p_load, p_store, p_binOp, p_unOp, p_indexAddr, p_index, p_box, p_build, evParts, builtinV, load1, ldc, splice, minds, disj, rcOf, isCall, touchV, idsOf, mapId, touchB, p_buildSlice, buildSliceV, reps, fillV, p_convert, p_slice, evO, p_makeSlice, sid_some, soff_some, Nat.reduceLT, Nat.reduceLeDiff, Nat.reduceEqDiff, Nat.reduceAdd, Nat.reduceMul, Int.reduceBEq, Int.reduceEq, Int.reduceNeg, Int.reduceLT, Int.reduceLE, Int.reduceAdd, Int.reduceSub, Int.reduceMul, Int.reduceToNat, Int.reduceGT, Nat.reduceBEq, Nat.reducePow, Nat.reduceGT, reduceCtorEq, ↓reduceIte]
      refine hrp.mono ?_
      rintro r6 h6 ⟨e6, hU6⟩
      rcases hU6 with ⟨q, rfl⟩ | ⟨_, hout, rfl⟩ | ⟨v, k, rfl, hk, hB6⟩
      · simp -dsimp (disch := first | with_reducible assumption | omega | (intro h_; cases h_; done) | (simp only [LN] <;> omega) | (simp only [LF]; done) | (repeat (first | with_reducible assumption | apply Ext.refl | apply Ext.app | (apply Ext.set <;> omega) | (refine Ext.trans ?_ (by assumption))))) only [AX, TY, gV, dstOf, p_makeFunc, p_mapUpdate, mapPut, entsOf, p_lookup, p_extract, p_nilCheck, oneV, p_load, p_store, p_binOp, p_unOp, p_indexAddr, p_index, p_box, p_build, evParts, builtinV, load1, ldc, splice, minds, disj, rcOf, isCall, touchV, idsOf, mapId, touchB, p_buildSlice, buildSliceV, reps, fillV, p_convert, p_slice, evO, p_makeSlice, sid_some, soff_some, Nat.reduceLT, Nat.reduceLeDiff, Nat.reduceEqDiff, Nat.reduceAdd, Nat.reduceMul, Int.reduceBEq, Int.reduceEq, Int.reduceNeg, Int.reduceLT, Int.reduceLE, Int.reduceAdd, Int.reduceSub, Int.reduceMul, Int.reduceToNat, Int.reduceGT, Nat.reduceBEq, Nat.reducePow, Nat.reduceGT, reduceCtorEq, ↓reduceIte]
      · simp -dsimp (disch := first | with_reducible assumption | omega | (intro h_; cases h_; done) | (simp only [LN] <;> omega) | (simp only [LF]; done) | (repeat (first | with_reducible assumption | apply Ext.refl | apply Ext.app | (apply Ext.set <;> omega) | (refine Ext.trans ?_ (by assumption))))) only [AX, TY, gV, dstOf, p_makeFunc, p_mapUpdate, mapPut, entsOf, p_lookup, p_extract, p_nilCheck, oneV, p_load, p_store, p_binOp, p_unOp, p_indexAddr, p_index, p_box, p_build, evParts, builtinV, load1, ldc, splice, minds, disj, rcOf, isCall, touchV, idsOf, mapId, touchB, p_buildSlice, buildSliceV, reps, fillV, p_convert, p_slice, evO, p_makeSlice, sid_some, soff_some, Nat.reduceLT, Nat.reduceLeDiff, Nat.reduceEqDiff, Nat.reduceAdd, Nat.reduceMul, Int.reduceBEq, Int.reduceEq, Int.reduceNeg, Int.reduceLT, Int.reduceLE, Int.reduceAdd, Int.reduceSub, Int.reduceMul, Int.reduceToNat, Int.reduceGT, Nat.reduceBEq, Nat.reducePow, Nat.reduceGT, reduceCtorEq, ↓reduceIte]
      · exact absurd ⟨v, by omega, by omega⟩ hnin
    obtain ⟨v, hi0, hi1⟩ := id hin
    have hln := v.len
    simp -dsimp (disch := first | with_reducible assumption | omega | (intro h_; cases h_; done) | (simp only [LN] <;> omega) | (simp only [LF]; done) | (repeat (first | with_reducible assumption | apply Ext.refl | apply Ext.app | (apply Ext.set <;> omega) | (refine Ext.trans ?_ (by assumption))))) only [AX, TY, gV, dstOf, p_makeFunc, p_mapUpdate, mapPut, entsOf, p_lookup, p_extract, p_nilCheck, oneV, p_load, p_store, p_binOp, p_unOp, p_indexAddr, p_index, p_box, p_build, evParts, builtinV, load1, ldc, splice, minds, disj, rcOf, isCall, touchV, idsOf, mapId, touchB, p_buildSlice, buildSliceV, reps, fillV, p_convert, p_slice, evO, p_makeSlice, sid_some, soff_some, Nat.reduceLT, Nat.reduceLeDiff, Nat.reduceEqDiff, Nat.reduceAdd, Nat.reduceMul, Int.reduceBEq, Int.reduceEq, Int.reduceNeg, Int.reduceLT, Int.reduceLE, Int.reduceAdd, Int.reduceSub, Int.reduceMul, Int.reduceToNat, Int.reduceGT, Nat.reduceBEq, Nat.reducePow, Nat.reduceGT, reduceCtorEq, ↓reduceIte]
    refine hrp.mono ?_
    rintro r6 h6 ⟨e6, hU6⟩
    have e06 := e05.trans e6
    rcases hU6 with ⟨q, _⟩ | ⟨_, hout, rfl⟩ | ⟨_, k, rfl, hk, hB6⟩
    · exact absurd v q
    · exact absurd ⟨hi0, by omega⟩ hout
    rcases hB6 with ⟨a1, a2, q, rfl, _, a5⟩ | ⟨_, a2, rfl⟩ | ⟨a1, rfl⟩
    rotate_left
    · clear a2
      simp -dsimp (disch := first | with_reducible assumption | omega | (intro h_; cases h_; done) | (simp only [LN] <;> omega) | (simp only [LF]; done) | (repeat (first | with_reducible assumption | apply Ext.refl | apply Ext.app | (apply Ext.set <;> omega) | (refine Ext.trans ?_ (by assumption))))) only [AX, TY, gV, dstOf, p_makeFunc, p_mapUpdate, mapPut, entsOf, p_lookup, p_extract, p_nilCheck, oneV, p_load, p_store, p_binOp, p_unOp, p_indexAddr, p_index, p_box, p_build, evParts, builtinV, load1, ldc, splice, minds, disj, rcOf, isCall, touchV, idsOf, mapId, touchB, p_buildSlice, buildSliceV, reps, fillV, p_convert, p_slice, evO, p_makeSlice, sid_some, soff_some, Nat.reduceLT, Nat.reduceLeDiff, Nat.reduceEqDiff, Nat.reduceAdd, Nat.reduceMul, Int.reduceBEq, Int.reduceEq, Int.reduceNeg, Int.reduceLT, Int.reduceLE, Int.reduceAdd, Int.reduceSub, Int.reduceMul, Int.reduceToNat, Int.reduceGT, Nat.reduceBEq, Nat.reducePow, Nat.reduceGT, reduceCtorEq, ↓reduceIte]
    · exact absurd (hb.rd 0) a1
    have hbt := Built.of a1 a2 a5
    simp -dsimp (disch := first | with_reducible assumption | omega | (intro h_; cases h_; done) | (simp only [LN] <;> omega) | (simp only [LF]; done) | (repeat (first | with_reducible assumption | apply Ext.refl | apply Ext.app | (apply Ext.set <;> omega) | (refine Ext.trans ?_ (by assumption))))) only [AX, TY, gV, dstOf, p_makeFunc, p_mapUpdate, mapPut, entsOf, p_lookup, p_extract, p_nilCheck, oneV, p_load, p_store, p_binOp, p_unOp, p_indexAddr, p_index, p_box, p_build, evParts, builtinV, load1, ldc, splice, minds, disj, rcOf, isCall, touchV, idsOf, mapId, touchB, p_buildSlice, buildSliceV, reps, fillV, p_convert, p_slice, evO, p_makeSlice, sid_some, soff_some, Nat.reduceLT, Nat.reduceLeDiff, Nat.reduceEqDiff, Nat.reduceAdd, Nat.reduceMul, Int.reduceBEq, Int.reduceEq, Int.reduceNeg, Int.reduceLT, Int.reduceLE, Int.reduceAdd, Int.reduceSub, Int.reduceMul, Int.reduceToNat, Int.reduceGT, Nat.reduceBEq, Nat.reducePow, Nat.reduceGT, reduceCtorEq, ↓reduceIte]
    refine (back_rep (co := c5) hb v hcb hi1 hbt (gr5.sl.ext e6)).mono ?_
    rintro _ h7 ⟨e7, q7, rfl, hb7⟩
    have e07 := e06.trans e7
    obtain ⟨s1, s2, s3⟩ := same_back (hr.ext e07) hb v hb7
    simp -dsimp (disch := first | with_reducible assumption | omega | (intro h_; cases h_; done) | (simp only [LN] <;> omega) | (simp only [LF]; done) | (repeat (first | with_reducible assumption | apply Ext.refl | apply Ext.app | (apply Ext.set <;> omega) | (refine Ext.trans ?_ (by assumption))))) only [AX, TY, gV, dstOf, p_makeFunc, p_mapUpdate, mapPut, entsOf, p_lookup, p_extract, p_nilCheck, oneV, p_load, p_store, p_binOp, p_unOp, p_indexAddr, p_index, p_box, p_build, evParts, builtinV, load1, ldc, splice, minds, disj, rcOf, isCall, touchV, idsOf, mapId, touchB, p_buildSlice, buildSliceV, reps, fillV, p_convert, p_slice, evO, p_makeSlice, sid_some, soff_some, Nat.reduceLT, Nat.reduceLeDiff, Nat.reduceEqDiff, Nat.reduceAdd, Nat.reduceMul, Int.reduceBEq, Int.reduceEq, Int.reduceNeg, Int.reduceLT, Int.reduceLE, Int.reduceAdd, Int.reduceSub, Int.reduceMul, Int.reduceToNat, Int.reduceGT, Nat.reduceBEq, Nat.reducePow, Nat.reduceGT, reduceCtorEq, ↓reduceIte]
    refine W.drawn [(0, []), (1, []), (2, []), (3, []), (4, []), (5, []), (6, []), (7, []), (8, [7, 6]), (9, [7, 6]), (10, []), (11, []), (12, [])] (by decide +kernel) ?_
    simp -dsimp (disch := first | with_reducible assumption | omega | (intro h_; cases h_; done) | (simp only [LN] <;> omega) | (simp only [LF]; done) | (repeat (first | with_reducible assumption | apply Ext.refl | apply Ext.app | (apply Ext.set <;> omega) | (refine Ext.trans ?_ (by assumption))))) only [AX, TY, gV, dstOf, p_makeFunc, p_mapUpdate, mapPut, entsOf, p_lookup, p_extract, p_nilCheck, oneV, p_load, p_store, p_binOp, p_unOp, p_indexAddr, p_index, p_box, p_build, evParts, builtinV, load1, ldc, splice, minds, disj, rcOf, isCall, touchV, idsOf, mapId, touchB, p_buildSlice, buildSliceV, reps, fillV, p_convert, p_slice, evO, p_makeSlice, sid_some, soff_some, Nat.reduceLT, Nat.reduceLeDiff, Nat.reduceEqDiff, Nat.reduceAdd, Nat.reduceMul, Int.reduceBEq, Int.reduceEq, Int.reduceNeg, Int.reduceLT, Int.reduceLE, Int.reduceAdd, Int.reduceSub, Int.reduceMul, Int.reduceToNat, Int.reduceGT, Nat.reduceBEq, Nat.reducePow, Nat.reduceGT, reduceCtorEq, ↓reduceIte, s1, s2]
    refine (s3 _ (.refl _)).mono ?_
    rintro _ _ ⟨rfl, rfl⟩
    simp -dsimp (disch := first | with_reducible assumption | omega | (intro h_; cases h_; done) | (simp only [LN] <;> omega) | (simp only [LF]; done) | (repeat (first | with_reducible assumption | apply Ext.refl | apply Ext.app | (apply Ext.set <;> omega) | (refine Ext.trans ?_ (by assumption))))) only [AX, TY, gV, dstOf, p_makeFunc, p_mapUpdate, mapPut, entsOf, p_lookup, p_extract, p_nilCheck, oneV, p_load, p_store, p_binOp, p_unOp, p_indexAddr, p_index, p_box, p_build, evParts, builtinV, load1, ldc, splice, minds, disj, rcOf, isCall, touchV, idsOf, mapId, touchB, p_buildSlice, buildSliceV, reps, fillV, p_convert, p_slice, evO, p_makeSlice, sid_some, soff_some, Nat.reduceLT, Nat.reduceLeDiff, Nat.reduceEqDiff, Nat.reduceAdd, Nat.reduceMul, Int.reduceBEq, Int.reduceEq, Int.reduceNeg, Int.reduceLT, Int.reduceLE, Int.reduceAdd, Int.reduceSub, Int.reduceMul, Int.reduceToNat, Int.reduceGT, Nat.reduceBEq, Nat.reducePow, Nat.reduceGT, reduceCtorEq, ↓reduceIte]
  rcases hB with ⟨a1, a2, q, rfl, _, a5⟩ | ⟨_, a2, rfl⟩ | ⟨a1, rfl⟩
  rotate_left
  · clear a2
    simp -dsimp (disch := first | with_reducible assumption | omega | (intro h_; cases h_; done) | (simp only [LN] <;> omega) | (simp only [LF]; done) | (repeat (first | with_reducible assumption | apply Ext.refl | apply Ext.app | (apply Ext.set <;> omega) | (refine Ext.trans ?_ (by assumption))))) only [AX, TY, gV, dstOf, p_makeFunc, p_mapUpdate, mapPut, entsOf, p_lookup, p_extract, p_nilCheck, oneV, p_load, p_store, p_binOp, p_unOp, p_indexAddr, p_index, p_box, p_build, evParts, builtinV, load1, ldc, splice, minds, disj, rcOf, isCall, touchV, idsOf, mapId, touchB, p_buildSlice, buildSliceV, reps, fillV, p_convert, p_slice, evO, p_makeSlice, sid_some, soff_some, Nat.reduceLT, Nat.reduceLeDiff, Nat.reduceEqDiff, Nat.reduceAdd, Nat.reduceMul, Int.reduceBEq, Int.reduceEq, Int.reduceNeg, Int.reduceLT, Int.reduceLE, Int.reduceAdd, Int.reduceSub, Int.reduceMul, Int.reduceToNat, Int.reduceGT, Nat.reduceBEq, Nat.reducePow, Nat.reduceGT, reduceCtorEq, ↓reduceIte]
    skip
    refine (cell_ok (hr.ext e02) hb i).mono ?_
    rintro _ h5 ⟨e5, hcell⟩
    have e05 := Ext.trans e02 e5
    have hrp := replace_ok (cc := cc) (hr.ext e05) hb (hc.ext e05) (by omega) i
    rcases hcell with ⟨hin, p5, c5, o5, rfl, gr5⟩ | ⟨hnin, rfl⟩
    rotate_left
    · simp -dsimp (disch := first | with_reducible assumption | omega | (intro h_; cases h_; done) | (simp only [LN] <;> omega) | (simp only [LF]; done) | (repeat (first | with_reducible assumption | apply Ext.refl | apply Ext.app | (apply Ext.set <;> omega) | (refine Ext.trans ?_ (by assumption))))) only [AX, TY, gV, dstOf, p_makeFunc, p_mapUpdate, mapPut, entsOf, p_lookup, p_extract, p_nilCheck, oneV, p_load, p_store, p_binOp, p_unOp, p_indexAddr, p_index, p_box, p_build, evParts, builtinV, load1, ldc, splice, minds, disj, rcOf, isCall, touchV, idsOf, mapId, touchB, p_buildSlice, buildSliceV, reps, fillV, p_convert, p_slice, evO, p_makeSlice, sid_some, soff_some, Nat.reduceLT, Nat.reduceLeDiff, Nat.reduceEqDiff, Nat.reduceAdd, Nat.reduceMul, Int.reduceBEq, Int.reduceEq, Int.reduceNeg, Int.reduceLT, Int.reduceLE, Int.reduceAdd, Int.reduceSub, Int.reduceMul, Int.reduceToNat, Int.reduceGT, Nat.reduceBEq, Nat.reducePow, Nat.reduceGT, reduceCtorEq, ↓reduceIte]
      refine hrp.mono ?_
      rintro r6 h6 ⟨e6, hU6⟩
      rcases hU6 with ⟨q, rfl⟩ | ⟨_, hout, rfl⟩ | ⟨v, k, rfl, hk, hB6⟩
      · simp -dsimp (disch := first | with_reducible assumption | omega | (intro h_; cases h_; done) | (simp only [LN] <;> omega) | (simp only [LF]; done) | (repeat (first | with_reducible assumption | apply Ext.refl | apply Ext.app | (apply Ext.set <;> omega) | (refine Ext.trans ?_ (by assumption))))) only [AX, TY, gV, dstOf, p_makeFunc, p_mapUpdate, mapPut, entsOf, p_lookup, p_extract, p_nilCheck, oneV, p_load, p_store, p_binOp, p_unOp, p_indexAddr, p_index, p_box, p_build, evParts, builtinV, load1, ldc, splice, minds, disj, rcOf, isCall, touchV, idsOf, mapId, touchB, p_buildSlice, buildSliceV, reps, fillV, p_convert, p_slice, evO, p_makeSlice, sid_some, soff_some, Nat.reduceLT, Nat.reduceLeDiff, Nat.reduceEqDiff, Nat.reduceAdd, Nat.reduceMul, Int.reduceBEq, Int.reduceEq, Int.reduceNeg, Int.reduceLT, Int.reduceLE, Int.reduceAdd, Int.reduceSub, Int.reduceMul, Int.reduceToNat, Int.reduceGT, Nat.reduceBEq, Nat.reducePow, Nat.reduceGT, reduceCtorEq, ↓reduceIte]
      · simp -dsimp (disch := first | with_reducible assumption | omega | (intro h_; cases h_; done) | (simp only [LN] <;> omega) | (simp only [LF]; done) | (repeat (first | with_reducible assumption | apply Ext.refl | apply Ext.app | (apply Ext.set <;> omega) | (refine Ext.trans ?_ (by assumption))))) only [AX, TY, gV, dstOf, p_makeFunc, p_mapUpdate, mapPut, entsOf, p_lookup, p_extract, p_nilCheck, oneV, p_load, p_store, p_binOp, p_unOp, p_indexAddr, p_index, p_box, p_build, evParts, builtinV, load1, ldc, splice, minds, disj, rcOf, isCall, touchV, idsOf, mapId, touchB, p_buildSlice, buildSliceV, reps, fillV, p_convert, p_slice, evO, p_makeSlice, sid_some, soff_some, Nat.reduceLT, Nat.reduceLeDiff, Nat.reduceEqDiff, Nat.reduceAdd, Nat.reduceMul, Int.reduceBEq, Int.reduceEq, Int.reduceNeg, Int.reduceLT, Int.reduceLE, Int.reduceAdd, Int.reduceSub, Int.reduceMul, Int.reduceToNat, Int.reduceGT, Nat.reduceBEq, Nat.reducePow, Nat.reduceGT, reduceCtorEq, ↓reduceIte]
      · exact absurd ⟨v, by omega, by omega⟩ hnin
    obtain ⟨v, hi0, hi1⟩ := id hin
    have hln := v.len
    simp -dsimp (disch := first | with_reducible assumption | omega | (intro h_; cases h_; done) | (simp only [LN] <;> omega) | (simp only [LF]; done) | (repeat (first | with_reducible assumption | apply Ext.refl | apply Ext.app | (apply Ext.set <;> omega) | (refine Ext.trans ?_ (by assumption))))) only [AX, TY, gV, dstOf, p_makeFunc, p_mapUpdate, mapPut, entsOf, p_lookup, p_extract, p_nilCheck, oneV, p_load, p_store, p_binOp, p_unOp, p_indexAddr, p_index, p_box, p_build, evParts, builtinV, load1, ldc, splice, minds, disj, rcOf, isCall, touchV, idsOf, mapId, touchB, p_buildSlice, buildSliceV, reps, fillV, p_convert, p_slice, evO, p_makeSlice, sid_some, soff_some, Nat.reduceLT, Nat.reduceLeDiff, Nat.reduceEqDiff, Nat.reduceAdd, Nat.reduceMul, Int.reduceBEq, Int.reduceEq, Int.reduceNeg, Int.reduceLT, Int.reduceLE, Int.reduceAdd, Int.reduceSub, Int.reduceMul, Int.reduceToNat, Int.reduceGT, Nat.reduceBEq, Nat.reducePow, Nat.reduceGT, reduceCtorEq, ↓reduceIte]
    refine hrp.mono ?_
    rintro r6 h6 ⟨e6, hU6⟩
    have e06 := e05.trans e6
    rcases hU6 with ⟨q, _⟩ | ⟨_, hout, rfl⟩ | ⟨_, k, rfl, hk, hB6⟩
    · exact absurd v q
    · exact absurd ⟨hi0, by omega⟩ hout
    rcases hB6 with ⟨a1, a2, q, rfl, _, a5⟩ | ⟨_, a2, rfl⟩ | ⟨a1, rfl⟩
    rotate_left
    · clear a2
      simp -dsimp (disch := first | with_reducible assumption | omega | (intro h_; cases h_; done) | (simp only [LN] <;> omega) | (simp only [LF]; done) | (repeat (first | with_reducible assumption | apply Ext.refl | apply Ext.app | (apply Ext.set <;> omega) | (refine Ext.trans ?_ (by assumption))))) only [AX, TY, gV, dstOf, p_makeFunc, p_mapUpdate, mapPut, entsOf, p_lookup, p_extract, p_nilCheck, oneV, p_load, p_store, p_binOp, p_unOp, p_indexAddr, p_index, p_box, p_build, evParts, builtinV, load1, ldc, splice, minds, disj, rcOf, isCall, touchV, idsOf, mapId, touchB, p_buildSlice, buildSliceV, reps, fillV, p_convert, p_slice, evO, p_makeSlice, sid_some, soff_some, Nat.reduceLT, Nat.reduceLeDiff, Nat.reduceEqDiff, Nat.reduceAdd, Nat.reduceMul, Int.reduceBEq, Int.reduceEq, Int.reduceNeg, Int.reduceLT, Int.reduceLE, Int.reduceAdd, Int.reduceSub, Int.reduceMul, Int.reduceToNat, Int.reduceGT, Nat.reduceBEq, Nat.reducePow, Nat.reduceGT, reduceCtorEq, ↓reduceIte]
    · exact absurd (hb.rd 0) a1
    have hbt := Built.of a1 a2 a5
    simp -dsimp (disch := first | with_reducible assumption | omega | (intro h_; cases h_; done) | (simp only [LN] <;> omega) | (simp only [LF]; done) | (repeat (first | with_reducible assumption | apply Ext.refl | apply Ext.app | (apply Ext.set <;> omega) | (refine Ext.trans ?_ (by assumption))))) only [AX, TY, gV, dstOf, p_makeFunc, p_mapUpdate, mapPut, entsOf, p_lookup, p_extract, p_nilCheck, oneV, p_load, p_store, p_binOp, p_unOp, p_indexAddr, p_index, p_box, p_build, evParts, builtinV, load1, ldc, splice, minds, disj, rcOf, isCall, touchV, idsOf, mapId, touchB, p_buildSlice, buildSliceV, reps, fillV, p_convert, p_slice, evO, p_makeSlice, sid_some, soff_some, Nat.reduceLT, Nat.reduceLeDiff, Nat.reduceEqDiff, Nat.reduceAdd, Nat.reduceMul, Int.reduceBEq, Int.reduceEq, Int.reduceNeg, Int.reduceLT, Int.reduceLE, Int.reduceAdd, Int.reduceSub, Int.reduceMul, Int.reduceToNat, Int.reduceGT, Nat.reduceBEq, Nat.reducePow, Nat.reduceGT, reduceCtorEq, ↓reduceIte]
    refine (back_rep (co := c5) hb v hcb hi1 hbt (gr5.sl.ext e6)).mono ?_
    rintro _ h7 ⟨e7, q7, rfl, hb7⟩
    have e07 := e06.trans e7
    obtain ⟨s1, s2, s3⟩ := same_back (hr.ext e07) hb v hb7
    simp -dsimp (disch := first | with_reducible assumption | omega | (intro h_; cases h_; done) | (simp only [LN] <;> omega) | (simp only [LF]; done) | (repeat (first | with_reducible assumption | apply Ext.refl | apply Ext.app | (apply Ext.set <;> omega) | (refine Ext.trans ?_ (by assumption))))) only [AX, TY, gV, dstOf, p_makeFunc, p_mapUpdate, mapPut, entsOf, p_lookup, p_extract, p_nilCheck, oneV, p_load, p_store, p_binOp, p_unOp, p_indexAddr, p_index, p_box, p_build, evParts, builtinV, load1, ldc, splice, minds, disj, rcOf, isCall, touchV, idsOf, mapId, touchB, p_buildSlice, buildSliceV, reps, fillV, p_convert, p_slice, evO, p_makeSlice, sid_some, soff_some, Nat.reduceLT, Nat.reduceLeDiff, Nat.reduceEqDiff, Nat.reduceAdd, Nat.reduceMul, Int.reduceBEq, Int.reduceEq, Int.reduceNeg, Int.reduceLT, Int.reduceLE, Int.reduceAdd, Int.reduceSub, Int.reduceMul, Int.reduceToNat, Int.reduceGT, Nat.reduceBEq, Nat.reducePow, Nat.reduceGT, reduceCtorEq, ↓reduceIte]
    refine W.drawn [(0, []), (1, []), (2, []), (3, []), (4, []), (5, []), (6, []), (7, []), (8, [7, 6]), (9, [7, 6]), (10, []), (11, []), (12, [])] (by decide +kernel) ?_
    simp -dsimp (disch := first | with_reducible assumption | omega | (intro h_; cases h_; done) | (simp only [LN] <;> omega) | (simp only [LF]; done) | (repeat (first | with_reducible assumption | apply Ext.refl | apply Ext.app | (apply Ext.set <;> omega) | (refine Ext.trans ?_ (by assumption))))) only [AX, TY, gV, dstOf, p_makeFunc, p_mapUpdate, mapPut, entsOf, p_lookup, p_extract, p_nilCheck, oneV, p_load, p_store, p_binOp, p_unOp, p_indexAddr, p_index, p_box, p_build, evParts, builtinV, load1, ldc, splice, minds, disj, rcOf, isCall, touchV, idsOf, mapId, touchB, p_buildSlice, buildSliceV, reps, fillV, p_convert, p_slice, evO, p_makeSlice, sid_some, soff_some, Nat.reduceLT, Nat.reduceLeDiff, Nat.reduceEqDiff, Nat.reduceAdd, Nat.reduceMul, Int.reduceBEq, Int.reduceEq, Int.reduceNeg, Int.reduceLT, Int.reduceLE, Int.reduceAdd, Int.reduceSub, Int.reduceMul, Int.reduceToNat, Int.reduceGT, Nat.reduceBEq, Nat.reducePow, Nat.reduceGT, reduceCtorEq, ↓reduceIte, s1, s2]
    refine (s3 _ (.refl _)).mono ?_
    rintro _ _ ⟨rfl, rfl⟩
    simp -dsimp (disch := first | with_reducible assumption | omega | (intro h_; cases h_; done) | (simp only [LN] <;> omega) | (simp only [LF]; done) | (repeat (first | with_reducible assumption | apply Ext.refl | apply Ext.app | (apply Ext.set <;> omega) | (refine Ext.trans ?_ (by assumption))))) only [AX, TY, gV, dstOf, p_makeFunc, p_mapUpdate, mapPut, entsOf, p_lookup, p_extract, p_nilCheck, oneV, p_load, p_store, p_binOp, p_unOp, p_indexAddr, p_index, p_box, p_build, evParts, builtinV, load1, ldc, splice, minds, disj, rcOf, isCall, touchV, idsOf, mapId, touchB, p_buildSlice, buildSliceV, reps, fillV, p_convert, p_slice, evO, p_makeSlice, sid_some, soff_some, Nat.reduceLT, Nat.reduceLeDiff, Nat.reduceEqDiff, Nat.reduceAdd, Nat.reduceMul, Int.reduceBEq, Int.reduceEq, Int.reduceNeg, Int.reduceLT, Int.reduceLE, Int.reduceAdd, Int.reduceSub, Int.reduceMul, Int.reduceToNat, Int.reduceGT, Nat.reduceBEq, Nat.reducePow, Nat.reduceGT, reduceCtorEq, ↓reduceIte]
  · exact absurd (hb.rd 0) a1
  subst hk
  have hbt := Built.of a1 a2 a5
  have hlen := v.len
  simp -dsimp (disch := first | with_reducible assumption | omega | (intro h_; cases h_; done) | (simp only [LN] <;> omega) | (simp only [LF]; done) | (repeat (first | with_reducible assumption | apply Ext.refl | apply Ext.app | (apply Ext.set <;> omega) | (refine Ext.trans ?_ (by assumption))))) only [AX, TY, gV, dstOf, p_makeFunc, p_mapUpdate, mapPut, entsOf, p_lookup, p_extract, p_nilCheck, oneV, p_load, p_store, p_binOp, p_unOp, p_indexAddr, p_index, p_box, p_build, evParts, builtinV, load1, ldc, splice, minds, disj, rcOf, isCall, touchV, idsOf, mapId, touchB, p_buildSlice, buildSliceV, reps, fillV, p_convert, p_slice, evO, p_makeSlice, sid_some, soff_some, Nat.reduceLT, Nat.reduceLeDiff, Nat.reduceEqDiff, Nat.reduceAdd, Nat.reduceMul, Int.reduceBEq, Int.reduceEq, Int.reduceNeg, Int.reduceLT, Int.reduceLE, Int.reduceAdd, Int.reduceSub, Int.reduceMul, Int.reduceToNat, Int.reduceGT, Nat.reduceBEq, Nat.reducePow, Nat.reduceGT, reduceCtorEq, ↓reduceIte]
  refine (back_ins hb v hcb hkn hbt).mono ?_
  rintro _ h3 ⟨e3, q3, rfl, hb3⟩
  have e03 := e02.trans e3
  obtain ⟨s1, s2, s3⟩ := same_back (hr.ext e03) hb v hb3
  have hrl := hr
  simp -dsimp (disch := first | with_reducible assumption | omega | (intro h_; cases h_; done) | (simp only [LN] <;> omega) | (simp only [LF]; done) | (repeat (first | with_reducible assumption | apply Ext.refl | apply Ext.app | (apply Ext.set <;> omega) | (refine Ext.trans ?_ (by assumption))))) only [AX, TY, gV, dstOf, p_makeFunc, p_mapUpdate, mapPut, entsOf, p_lookup, p_extract, p_nilCheck, oneV, p_load, p_store, p_binOp, p_unOp, p_indexAddr, p_index, p_box, p_build, evParts, builtinV, load1, ldc, splice, minds, disj, rcOf, isCall, touchV, idsOf, mapId, touchB, p_buildSlice, buildSliceV, reps, fillV, p_convert, p_slice, evO, p_makeSlice, sid_some, soff_some, Nat.reduceLT, Nat.reduceLeDiff, Nat.reduceEqDiff, Nat.reduceAdd, Nat.reduceMul, Int.reduceBEq, Int.reduceEq, Int.reduceNeg, Int.reduceLT, Int.reduceLE, Int.reduceAdd, Int.reduceSub, Int.reduceMul, Int.reduceToNat, Int.reduceGT, Nat.reduceBEq, Nat.reducePow, Nat.reduceGT, reduceCtorEq, ↓reduceIte]
  refine W.drawn [(0, []), (1, []), (2, []), (3, []), (4, []), (5, [4, 3]), (6, [4, 3]), (7, []), (8, []), (9, [])] (by decide +kernel) ?_
  simp -dsimp (disch := first | with_reducible assumption | omega | (intro h_; cases h_; done) | (simp only [LN] <;> omega) | (simp only [LF]; done) | (repeat (first | with_reducible assumption | apply Ext.refl | apply Ext.app | (apply Ext.set <;> omega) | (refine Ext.trans ?_ (by assumption))))) only [AX, TY, gV, dstOf, p_makeFunc, p_mapUpdate, mapPut, entsOf, p_lookup, p_extract, p_nilCheck, oneV, p_load, p_store, p_binOp, p_unOp, p_indexAddr, p_index, p_box, p_build, evParts, builtinV, load1, ldc, splice, minds, disj, rcOf, isCall, touchV, idsOf, mapId, touchB, p_buildSlice, buildSliceV, reps, fillV, p_convert, p_slice, evO, p_makeSlice, sid_some, soff_some, Nat.reduceLT, Nat.reduceLeDiff, Nat.reduceEqDiff, Nat.reduceAdd, Nat.reduceMul, Int.reduceBEq, Int.reduceEq, Int.reduceNeg, Int.reduceLT, Int.reduceLE, Int.reduceAdd, Int.reduceSub, Int.reduceMul, Int.reduceToNat, Int.reduceGT, Nat.reduceBEq, Nat.reducePow, Nat.reduceGT, reduceCtorEq, ↓reduceIte, s1, s2]
  refine (s3 _ (.refl _)).mono ?_
  rintro _ _ ⟨rfl, rfl⟩
  simp -dsimp (disch := first | with_reducible assumption | omega | (intro h_; cases h_; done) | (simp only [LN] <;> omega) | (simp only [LF]; done) | (repeat (first | with_reducible assumption | apply Ext.refl | apply Ext.app | (apply Ext.set <;> omega) | (refine Ext.trans ?_ (by assumption))))) only [AX, TY, gV, dstOf, p_makeFunc, p_mapUpdate, mapPut, entsOf, p_lookup, p_extract, p_nilCheck, oneV, p_load, p_store, p_binOp, p_unOp, p_indexAddr, p_index, p_box, p_build, evParts, builtinV, load1, ldc, splice, minds, disj, rcOf, isCall, touchV, idsOf, mapId, touchB, p_buildSlice, buildSliceV, reps, fillV, p_convert, p_slice, evO, p_makeSlice, sid_some, soff_some, Nat.reduceLT, Nat.reduceLeDiff, Nat.reduceEqDiff, Nat.reduceAdd, Nat.reduceMul, Int.reduceBEq, Int.reduceEq, Int.reduceNeg, Int.reduceLT, Int.reduceLE, Int.reduceAdd, Int.reduceSub, Int.reduceMul, Int.reduceToNat, Int.reduceGT, Nat.reduceBEq, Nat.reducePow, Nat.reduceGT, reduceCtorEq, ↓reduceIte]
  skip
  refine (cell_ok (hr.ext e03) hb (k : Int)).mono ?_
  rintro _ h5 ⟨e5, hcell⟩
  have e05 := Ext.trans e03 e5
  have hrp := replace_ok (cc := cc) (hr.ext e05) hb (hc.ext e05) (by omega) (k : Int)
  rcases hcell with ⟨hin, p5, c5, o5, rfl, gr5⟩ | ⟨hnin, rfl⟩
  rotate_left
  · simp -dsimp (disch := first | with_reducible assumption | omega | (intro h_; cases h_; done) | (simp only [LN] <;> omega) | (simp only [LF]; done) | (repeat (first | with_reducible assumption | apply Ext.refl | apply Ext.app | (apply Ext.set <;> omega) | (refine Ext.trans ?_ (by assumption))))) only [AX, TY, gV, dstOf, p_makeFunc, p_mapUpdate, mapPut, entsOf, p_lookup, p_extract, p_nilCheck, oneV, p_load, p_store, p_binOp, p_unOp, p_indexAddr, p_index, p_box, p_build, evParts, builtinV, load1, ldc, splice, minds, disj, rcOf, isCall, touchV, idsOf, mapId, touchB, p_buildSlice, buildSliceV, reps, fillV, p_convert, p_slice, evO, p_makeSlice, sid_some, soff_some, Nat.reduceLT, Nat.reduceLeDiff, Nat.reduceEqDiff, Nat.reduceAdd, Nat.reduceMul, Int.reduceBEq, Int.reduceEq, Int.reduceNeg, Int.reduceLT, Int.reduceLE, Int.reduceAdd, Int.reduceSub, Int.reduceMul, Int.reduceToNat, Int.reduceGT, Nat.reduceBEq, Nat.reducePow, Nat.reduceGT, reduceCtorEq, ↓reduceIte]
    refine hrp.mono ?_
    rintro r6 h6 ⟨e6, hU6⟩
    rcases hU6 with ⟨q, rfl⟩ | ⟨_, hout, rfl⟩ | ⟨v, k', hk', hk, hB6⟩
    · simp -dsimp (disch := first | with_reducible assumption | omega | (intro h_; cases h_; done) | (simp only [LN] <;> omega) | (simp only [LF]; done) | (repeat (first | with_reducible assumption | apply Ext.refl | apply Ext.app | (apply Ext.set <;> omega) | (refine Ext.trans ?_ (by assumption))))) only [AX, TY, gV, dstOf, p_makeFunc, p_mapUpdate, mapPut, entsOf, p_lookup, p_extract, p_nilCheck, oneV, p_load, p_store, p_binOp, p_unOp, p_indexAddr, p_index, p_box, p_build, evParts, builtinV, load1, ldc, splice, minds, disj, rcOf, isCall, touchV, idsOf, mapId, touchB, p_buildSlice, buildSliceV, reps, fillV, p_convert, p_slice, evO, p_makeSlice, sid_some, soff_some, Nat.reduceLT, Nat.reduceLeDiff, Nat.reduceEqDiff, Nat.reduceAdd, Nat.reduceMul, Int.reduceBEq, Int.reduceEq, Int.reduceNeg, Int.reduceLT, Int.reduceLE, Int.reduceAdd, Int.reduceSub, Int.reduceMul, Int.reduceToNat, Int.reduceGT, Nat.reduceBEq, Nat.reducePow, Nat.reduceGT, reduceCtorEq, ↓reduceIte]
    · simp -dsimp (disch := first | with_reducible assumption | omega | (intro h_; cases h_; done) | (simp only [LN] <;> omega) | (simp only [LF]; done) | (repeat (first | with_reducible assumption | apply Ext.refl | apply Ext.app | (apply Ext.set <;> omega) | (refine Ext.trans ?_ (by assumption))))) only [AX, TY, gV, dstOf, p_makeFunc, p_mapUpdate, mapPut, entsOf, p_lookup, p_extract, p_nilCheck, oneV, p_load, p_store, p_binOp, p_unOp, p_indexAddr, p_index, p_box, p_build, evParts, builtinV, load1, ldc, splice, minds, disj, rcOf, isCall, touchV, idsOf, mapId, touchB, p_buildSlice, buildSliceV, reps, fillV, p_convert, p_slice, evO, p_makeSlice, sid_some, soff_some, Nat.reduceLT, Nat.reduceLeDiff, Nat.reduceEqDiff, Nat.reduceAdd, Nat.reduceMul, Int.reduceBEq, Int.reduceEq, Int.reduceNeg, Int.reduceLT, Int.reduceLE, Int.reduceAdd, Int.reduceSub, Int.reduceMul, Int.reduceToNat, Int.reduceGT, Nat.reduceBEq, Nat.reducePow, Nat.reduceGT, reduceCtorEq, ↓reduceIte]
    · exact absurd ⟨v, by omega, by omega⟩ hnin
  obtain ⟨v, hi0, hi1⟩ := id hin
  have hln := v.len
  simp -dsimp (disch := first | with_reducible assumption | omega | (intro h_; cases h_; done) | (simp only [LN] <;> omega) | (simp only [LF]; done) | (repeat (first | with_reducible assumption | apply Ext.refl | apply Ext.app | (apply Ext.set <;> omega) | (refine Ext.trans ?_ (by assumption))))) only [AX, TY, gV, dstOf, p_makeFunc, p_mapUpdate, mapPut, entsOf, p_lookup, p_extract, p_nilCheck, oneV, p_load, p_store, p_binOp, p_unOp, p_indexAddr, p_index, p_box, p_build, evParts, builtinV, load1, ldc, splice, minds, disj, rcOf, isCall, touchV, idsOf, mapId, touchB, p_buildSlice, buildSliceV, reps, fillV, p_convert, p_slice, evO, p_makeSlice, sid_some, soff_some, Nat.reduceLT, Nat.reduceLeDiff, Nat.reduceEqDiff, Nat.reduceAdd, Nat.reduceMul, Int.reduceBEq, Int.reduceEq, Int.reduceNeg, Int.reduceLT, Int.reduceLE, Int.reduceAdd, Int.reduceSub, Int.reduceMul, Int.reduceToNat, Int.reduceGT, Nat.reduceBEq, Nat.reducePow, Nat.reduceGT, reduceCtorEq, ↓reduceIte]
  refine hrp.mono ?_
  rintro r6 h6 ⟨e6, hU6⟩
  have e06 := e05.trans e6
  rcases hU6 with ⟨q, _⟩ | ⟨_, hout, rfl⟩ | ⟨_, k', hk', hk, hB6⟩
  · exact absurd v q
  · exact absurd ⟨hi0, by omega⟩ hout
  obtain rfl : k = k' := by omega
  rcases hB6 with ⟨a1, a2, q, rfl, _, a5⟩ | ⟨_, a2, rfl⟩ | ⟨a1, rfl⟩
  rotate_left
  · clear a2
    simp -dsimp (disch := first | with_reducible assumption | omega | (intro h_; cases h_; done) | (simp only [LN] <;> omega) | (simp only [LF]; done) | (repeat (first | with_reducible assumption | apply Ext.refl | apply Ext.app | (apply Ext.set <;> omega) | (refine Ext.trans ?_ (by assumption))))) only [AX, TY, gV, dstOf, p_makeFunc, p_mapUpdate, mapPut, entsOf, p_lookup, p_extract, p_nilCheck, oneV, p_load, p_store, p_binOp, p_unOp, p_indexAddr, p_index, p_box, p_build, evParts, builtinV, load1, ldc, splice, minds, disj, rcOf, isCall, touchV, idsOf, mapId, touchB, p_buildSlice, buildSliceV, reps, fillV, p_convert, p_slice, evO, p_makeSlice, sid_some, soff_some, Nat.reduceLT, Nat.reduceLeDiff, Nat.reduceEqDiff, Nat.reduceAdd, Nat.reduceMul, Int.reduceBEq, Int.reduceEq, Int.reduceNeg, Int.reduceLT, Int.reduceLE, Int.reduceAdd, Int.reduceSub, Int.reduceMul, Int.reduceToNat, Int.reduceGT, Nat.reduceBEq, Nat.reducePow, Nat.reduceGT, reduceCtorEq, ↓reduceIte]
  · exact absurd (hb.rd 0) a1
  have hbt := Built.of a1 a2 a5
  simp -dsimp (disch := first | with_reducible assumption | omega | (intro h_; cases h_; done) | (simp only [LN] <;> omega) | (simp only [LF]; done) | (repeat (first | with_reducible assumption | apply Ext.refl | apply Ext.app | (apply Ext.set <;> omega) | (refine Ext.trans ?_ (by assumption))))) only [AX, TY, gV, dstOf, p_makeFunc, p_mapUpdate, mapPut, entsOf, p_lookup, p_extract, p_nilCheck, oneV, p_load, p_store, p_binOp, p_unOp, p_indexAddr, p_index, p_box, p_build, evParts, builtinV, load1, ldc, splice, minds, disj, rcOf, isCall, touchV, idsOf, mapId, touchB, p_buildSlice, buildSliceV, reps, fillV, p_convert, p_slice, evO, p_makeSlice, sid_some, soff_some, Nat.reduceLT, Nat.reduceLeDiff, Nat.reduceEqDiff, Nat.reduceAdd, Nat.reduceMul, Int.reduceBEq, Int.reduceEq, Int.reduceNeg, Int.reduceLT, Int.reduceLE, Int.reduceAdd, Int.reduceSub, Int.reduceMul, Int.reduceToNat, Int.reduceGT, Nat.reduceBEq, Nat.reducePow, Nat.reduceGT, reduceCtorEq, ↓reduceIte]
  refine (back_rep (co := c5) hb v hcb hi1 hbt (gr5.sl.ext e6)).mono ?_
  rintro _ h7 ⟨e7, q7, rfl, hb7⟩
  have e07 := e06.trans e7
  obtain ⟨s1, s2, s3⟩ := same_back (hr.ext e07) hb v hb7
  simp -dsimp (disch := first | with_reducible assumption | omega | (intro h_; cases h_; done) | (simp only [LN] <;> omega) | (simp only [LF]; done) | (repeat (first | with_reducible assumption | apply Ext.refl | apply Ext.app | (apply Ext.set <;> omega) | (refine Ext.trans ?_ (by assumption))))) only [AX, TY, gV, dstOf, p_makeFunc, p_mapUpdate, mapPut, entsOf, p_lookup, p_extract, p_nilCheck, oneV, p_load, p_store, p_binOp, p_unOp, p_indexAddr, p_index, p_box, p_build, evParts, builtinV, load1, ldc, splice, minds, disj, rcOf, isCall, touchV, idsOf, mapId, touchB, p_buildSlice, buildSliceV, reps, fillV, p_convert, p_slice, evO, p_makeSlice, sid_some, soff_some, Nat.reduceLT, Nat.reduceLeDiff, Nat.reduceEqDiff, Nat.reduceAdd, Nat.reduceMul, Int.reduceBEq, Int.reduceEq, Int.reduceNeg, Int.reduceLT, Int.reduceLE, Int.reduceAdd, Int.reduceSub, Int.reduceMul, Int.reduceToNat, Int.reduceGT, Nat.reduceBEq, Nat.reducePow, Nat.reduceGT, reduceCtorEq, ↓reduceIte]
  refine W.drawn [(0, []), (1, []), (2, []), (3, []), (4, []), (5, []), (6, []), (7, []), (8, [7, 6]), (9, [7, 6]), (10, []), (11, []), (12, [])] (by decide +kernel) ?_
  simp -dsimp (disch := first | with_reducible assumption | omega | (intro h_; cases h_; done) | (simp only [LN] <;> omega) | (simp only [LF]; done) | (repeat (first | with_reducible assumption | apply Ext.refl | apply Ext.app | (apply Ext.set <;> omega) | (refine Ext.trans ?_ (by assumption))))) only [AX, TY, gV, dstOf, p_makeFunc, p_mapUpdate, mapPut, entsOf, p_lookup, p_extract, p_nilCheck, oneV, p_load, p_store, p_binOp, p_unOp, p_indexAddr, p_index, p_box, p_build, evParts, builtinV, load1, ldc, splice, minds, disj, rcOf, isCall, touchV, idsOf, mapId, touchB, p_buildSlice, buildSliceV, reps, fillV, p_convert, p_slice, evO, p_makeSlice, sid_some, soff_some, Nat.reduceLT, Nat.reduceLeDiff, Nat.reduceEqDiff, Nat.reduceAdd, Nat.reduceMul, Int.reduceBEq, Int.reduceEq, Int.reduceNeg, Int.reduceLT, Int.reduceLE, Int.reduceAdd, Int.reduceSub, Int.reduceMul, Int.reduceToNat, Int.reduceGT, Nat.reduceBEq, Nat.reducePow, Nat.reduceGT, reduceCtorEq, ↓reduceIte, s1, s2]
  refine (s3 _ (.refl _)).mono ?_
  rintro _ _ ⟨rfl, rfl⟩
  simp -dsimp (disch := first | with_reducible assumption | omega | (intro h_; cases h_; done) | (simp only [LN] <;> omega) | (simp only [LF]; done) | (repeat (first | with_reducible assumption | apply Ext.refl | apply Ext.app | (apply Ext.set <;> omega) | (refine Ext.trans ?_ (by assumption))))) only [AX, TY, gV, dstOf, p_makeFunc, p_mapUpdate, mapPut, entsOf, p_lookup, p_extract, p_nilCheck, oneV, p_load, p_store, p_binOp, p_unOp, p_indexAddr, p_index, p_box, p_build, evParts, builtinV, load1, ldc, splice, minds, disj, rcOf, isCall, touchV, idsOf, mapId, touchB, p_buildSlice, buildSliceV, reps, fillV, p_convert, p_slice, evO, p_makeSlice, sid_some, soff_some, Nat.reduceLT, Nat.reduceLeDiff, Nat.reduceEqDiff, Nat.reduceAdd, Nat.reduceMul, Int.reduceBEq, Int.reduceEq, Int.reduceNeg, Int.reduceLT, Int.reduceLE, Int.reduceAdd, Int.reduceSub, Int.reduceMul, Int.reduceToNat, Int.reduceGT, Nat.reduceBEq, Nat.reducePow, Nat.reduceGT, reduceCtorEq, ↓reduceIte]
theorem byte_of {h : Heap} {r : List V} (q : Vw h (.int .u8) r) : ∃ y, r = eb y ∧ (0 ≤ y ∧ y ≤ 255) := by
  obtain ⟨a, rfl, wa⟩ := q
  exact ⟨a, rfl, wf_u8 wa⟩
theorem ArgV.bytes {h : Heap} {v : V} (q : ArgV false (.slice 1 1 (.int .u8)) h v) : ∃ (p : Option (Nat × Nat)) (c : Nat) (ys : List Int), v = .slice p ys.length (some c) ∧ Rs h p (some c) 1 eb ys ∧ Bytes ys := by
  obtain ⟨p, c, ys, h1, h2, h3, h4, _⟩ := q.sl (by decide) eb (fun y => 0 ≤ y ∧ y ≤ 255) fun r => byte_of
  exact ⟨p, c, ys, h1, Rs.ofSome h2 h4, h3⟩
theorem row10 {h : Heap} (a0 a1 a2 : V) (v0 : ArgV false (.slice 1 1 (.int .u8)) h a0) (v1 : ArgV false (.int .i64) h a1) (v2 : ArgV false (.slice 1 1 (.int .u8)) h a2) : WR (callE Try.prog hk 10 [a0, a1, a2] h) fun r h' => r = .bool true := by
  obtain ⟨p, c, ys, rfl, hs, hb⟩ := v0.bytes
  obtain ⟨i, rfl, wi⟩ := v1.int
  obtain ⟨q, d, zs, rfl, hs2, hb2⟩ := v2.bytes
  exact law10_ok hs hb hs2.sl hb2 i (wf_i64 wi)
end Go.Proofs.YtopbmpdcmnhfdaaA
