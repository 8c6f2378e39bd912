/- Words of this session: chapter 14: pages edited. -/
import Derived.Test.YtopbmpdcmnhfdaaPF
namespace Go.Proofs.YtopbmpdcmnhfdaaA
open Go Go.Proofs Go.RowKit
set_option linter.unusedVariables false
set_option linter.unusedSimpArgs false
set_option maxRecDepth 10000
set_option maxHeartbeats 4000000
theorem hk_53_eq (p v : V) (i : Int) (h : Heap) : callE Try.prog hk 53 [p, .int .i64 i, .int .i64 i, v] h = callE Try.prog hk1 53 [p, .int .i64 i, .int .i64 i, v] h := by
  rw [hk_53]
  unfold repHook
  split
  · rename_i id off len i' j' vp vl vc heq
    simp only [List.cons.injEq, V.int.injEq, true_and] at heq
    obtain ⟨rfl, rfl, rfl, rfl, _⟩ := heq
    rw [if_pos rfl]
  · rfl
/-- The rows that come in: a block of their own, or none. -/
def VIn (h : Heap) (oid : Option Nat) (vp : Option (Nat × Nat)) (vc : Option Nat) (zs : List Cl) : Prop :=
  (vp = none ∧ zs = [] ∧ vc = some 0) ∨ ∃ q, vp = some (q, 0) ∧ h[q]? = some (.cells (zs.flatMap Cl.enc) .rw) ∧ oid ≠ some q ∧ 1 ≤ zs.length
def SpR (h : Heap) (oid : Option Nat) (new : List Cl) (r : V) (h' : Heap) : Prop :=
  ∃ p' c', r = .slice p' new.length c' ∧ Sl h' p' 1 Cl.enc new ∧ h.length ≤ h'.length ∧ ∀ k, oid ≠ some k → k < h.length → h'[k]? = h[k]?
theorem splice_ins {b : Nat} {h : Heap} {po : Option (Nat × Nat)} {co oid : Option Nat} {s zs : List Cl} (gr : Gr b h po co oid 1 Cl.enc s) (hb : b ≤ h.length) {vp : Option (Nat × Nat)} {vc : Option Nat} (hv : VIn h oid vp vc zs) (hz : 1 ≤ zs.length) {i : Nat} (hi : i ≤ s.length) (hS : s.length + zs.length ≤ 10000) :
    WR (callE Try.prog hk 53 [.slice po s.length co, .int .i64 (i : Int), .int .i64 (i : Int), .slice vp zs.length vc] h) (SpR h oid (s.take i ++ zs ++ s.drop i)) := by
  rcases hv with ⟨_, rfl, _⟩ | ⟨q, rfl, hq, hne, _⟩
  · simp at hz
  obtain ⟨p2, c2, hcut, _⟩ := gr.rs.cut (a := i) (b := i) (Nat.le_refl _) hi
  obtain ⟨p', oid', h', hres, gr', ho, hle, hk1', hk2'⟩ := gr.insert (vc := vc) insW insN hb hq hne (fun _ _ => rfl) (fun _ _ => rfl) hz hi (by omega) (by omega)
  rw [hk_53_eq]
  refine WR.call (hH := rfl) Try.func53 rfl (n := 224) rfl rfl (by simp) ?_
  simp -dsimp (disch := first | with_reducible assumption | omega | (intro h_; cases h_; done) | (simp only [LN] <;> omega) | (simp only [LF]; done) | (repeat (first | with_reducible assumption | apply Ext.refl | apply Ext.app | (apply Ext.set <;> omega) | (refine Ext.trans ?_ (by assumption))))) only [AX, TY, gV, dstOf, p_makeFunc, p_mapUpdate, mapPut, entsOf, p_lookup, p_extract, p_nilCheck, oneV, p_load, p_store, p_binOp, p_unOp, p_indexAddr, p_index, p_box, p_build, evParts, builtinV, load1, ldc, splice, minds, disj, rcOf, isCall, touchV, idsOf, mapId, touchB, p_buildSlice, buildSliceV, reps, fillV, p_convert, p_slice, evO, p_makeSlice, sid_some, soff_some, Nat.reduceLT, Nat.reduceLeDiff, Nat.reduceEqDiff, Nat.reduceAdd, Nat.reduceMul, Int.reduceBEq, Int.reduceEq, Int.reduceNeg, Int.reduceLT, Int.reduceLE, Int.reduceAdd, Int.reduceSub, Int.reduceMul, Int.reduceToNat, Int.reduceGT, Nat.reduceBEq, Nat.reducePow, Nat.reduceGT, reduceCtorEq, ↓reduceIte, hcut, hk1_55, hres]
  refine ⟨p', none, ?_, gr'.sl, hle, hk1'⟩
  congr 1
  simp only [List.length_append, List.length_take, List.length_drop]; omega
theorem splice_rep {b : Nat} {h : Heap} {po : Option (Nat × Nat)} {co oid : Option Nat} {s zs : List Cl} (gr : Gr b h po co oid 1 Cl.enc s) (hb : b ≤ h.length) {vp : Option (Nat × Nat)} {vc : Option Nat} (hv : VIn h oid vp vc zs) {i j : Nat} (hij : i < j) (hj : j ≤ s.length) (hzj : i + zs.length ≤ j) (hS : s.length ≤ 10000) :
    WR (callE Try.prog hk 53 [.slice po s.length co, .int .i64 (i : Int), .int .i64 (j : Int), .slice vp zs.length vc] h) (SpR h oid (s.take i ++ zs ++ s.drop j)) := by
  have hlen : (s.take i ++ zs ++ s.drop j).length = i + zs.length + (s.length - j) := by simp only [List.length_append, List.length_take, List.length_drop]; omega
  rw [hk_53]
  rcases gr.kind with ⟨rfl, _, _⟩ | ⟨id, off, C, k, rfl, rfl, e3, e4⟩
  · have := gr.sl.nil rfl
    subst this; simp at hj; omega
  rcases e4 with ⟨rfl, hkk⟩ | ⟨rfl, _, _⟩
  · have hlt := lt_of_some e3
    obtain ⟨C', k', h1, h2, h3⟩ := gr.sl.reads id off rfl
    rw [e3] at h1; cases h1
    have hfl := flat_of_reads gr.sl.width h2 h3
    have hC : C = C.take off ++ (s.map Cl.enc).flatten ++ (C.drop (off + s.length * 1)) := by
      rw [map_flat, ← hfl, List.append_assoc, ← List.drop_drop, List.take_append_drop, List.take_append_drop]
    have hAl : (C.take off).length = off := by rw [List.length_take]; omega
    have hwd : ∀ l : List Cl, Wd 1 (l.map Cl.enc) := fun l r hr => by
      obtain ⟨y, _, rfl⟩ := List.mem_map.1 hr; rfl
    have hlf : ∀ l : List Cl, (l.map Cl.enc).flatten.all V.leaf = true := fun l => by rw [map_flat]; exact all_leaf (cl_l l)
    have hvs : VS h id vp (zs.map Cl.enc) := by
      rcases hv with ⟨rfl, rfl, _⟩ | ⟨q, rfl, hq, hne, h1⟩
      · exact .inl ⟨rfl, rfl⟩
      · exact .inr ⟨q, [], [], rfl, by rw [hq, map_flat]; simp, fun e => hne (by rw [e]), by simpa using h1⟩
    have hww := repW (c := s.length) (i := i) (j := j) (vc := vc) (by rw [e3, ← hC]) hkk (hwd s) (hlf s) hvs (hwd zs) (hlf zs) (by
      intro e
      rcases hv with ⟨_, _, h⟩ | ⟨q, h, _⟩
      · exact h
      · rw [e] at h; cases h) hij (by simpa using hj) (by simpa using hzj) (by simp) (by simp; omega)
    simp only [List.length_map, hAl] at hww
    have heq : repHook 1 (callE Try.prog hk1 53) [.slice (some (id, off)) s.length (some s.length), .int .i64 (i : Int), .int .i64 (j : Int), .slice vp zs.length vc] h = callE Try.prog hk1 53 [.slice (some (id, off)) s.length (some s.length), .int .i64 (i : Int), .int .i64 (j : Int), .slice vp zs.length vc] h := rfl
    rw [heq]
    refine hww.mono ?_
    rintro r h' ⟨rfl, rfl⟩
    have hnew : (List.take i (s.map Cl.enc) ++ zs.map Cl.enc ++ List.drop j (s.map Cl.enc) ++ List.replicate (j - (i + zs.length)) zS).flatten = (s.take i ++ zs ++ s.drop j).flatMap Cl.enc ++ (List.replicate (j - (i + zs.length)) zS).flatten := by
      rw [← map_flat]; simp [List.map_take, List.map_drop]
    simp only [List.length_map, hAl]
    rw [hnew]
    refine ⟨some (id, off), some s.length, by rw [hlen], ?_, by simp, fun m hm _ => List.getElem?_set_ne (fun e => hm (by rw [e]))⟩
    have hfl2 := flatMap_len (cl_w (s.take i ++ zs ++ s.drop j))
    rw [hlen] at hfl2
    have hcw := cl_w (s.take i ++ zs ++ s.drop j)
    generalize s.take i ++ zs ++ s.drop j = NN at *
    generalize (List.replicate (j - (i + zs.length)) zS).flatten = ZZ at *
    refine Sl.at (List.getElem?_set_self hlt) hcw ?_ ?_ (by rw [hlen]; omega)
    · simp only [List.length_append, hAl, hfl2]; omega
    · rw [List.append_assoc, List.drop_left' hAl, List.append_assoc, List.take_left' (by rw [hfl2, hlen, Nat.mul_one])]
  · obtain ⟨p', oid', h', hres, gr', ho, hle, hk1', hk2'⟩ := gr.replace (F := callE Try.prog hk1 53) (vc := vc) (vp := vp) (zs := zs) hb hv (cl_w _) (cl_l _) hij hj hzj
    rw [hres, WR_some]
    exact ⟨p', none, by rw [hlen], gr'.sl, hle, hk1'⟩
/-- What comes in, seen before the cells are read. -/
structure VCl (h : Heap) (vp : Option (Nat × Nat)) (vc : Option Nat) (zs : List Cl) : Prop where
  vin : (vp = none ∧ zs = [] ∧ vc = some 0) ∨ ∃ q, vp = some (q, 0) ∧ h[q]? = some (.cells (zs.flatMap Cl.enc) .rw) ∧ 1 ≤ zs.length
  ok : ∀ y ∈ zs, COK h y
  small : ∀ y ∈ zs, y.bs.length ≤ 100000
theorem cells_small {l : List Int} (hb : Bytes l) (v : Valid l) {s : List Cl} (hs : s.map Cl.bs = cellsS l) : s.length ≤ 508 ∧ (s.length : Int) = num l 1 ∧ ∀ y ∈ s, y.bs.length ≤ 1024 := by
  have hl := congrArg List.length hs
  rw [List.length_map] at hl
  have hsl := v.slots
  have hll := v.len
  have hcl : (cellsS l).length = (num l 1).toNat := by unfold cellsS; exact cellsTo_length _ _
  refine ⟨by omega, ?_, fun y hy => ?_⟩
  · have := num_range hb 1
    rw [hl, hcl]; omega
  · have : y.bs ∈ cellsS l := by rw [← hs]; exact List.mem_map_of_mem hy
    unfold cellsS cellsTo at this
    obtain ⟨i, _, e⟩ := List.mem_map.1 this
    rw [← e]
    unfold cellS
    rw [List.length_drop, List.length_take]; omega
theorem edit_ok {h : Heap} {p : Option (Nat × Nat)} {c : Option Nat} {l : List Int} (hr : Rs h p c 1 eb l) (hb : Bytes l) (v : Valid l) {vp : Option (Nat × Nat)} {vc : Option Nat} {zs : List Cl} (hv : VCl h vp vc zs) {i j : Nat} (hij : (i = j ∧ 1 ≤ zs.length) ∨ (i < j ∧ i + zs.length ≤ j)) (hj : (j : Int) ≤ num l 1) (hzl : zs.length ≤ 10) :
    WR (callE Try.prog hk 49 [.slice p l.length c, .int .i64 (i : Int), .int .i64 (j : Int), .slice vp zs.length vc] h) fun r h' => Ext h h' ∧ BuildR h h' (rd l 0) ((cellsS l).take i ++ zs.map Cl.bs ++ (cellsS l).drop j) r := by
  refine WR.call (hH := rfl) Try.func49 rfl (n := 21) rfl rfl (by simp) ?_
  simp -dsimp (disch := first | with_reducible assumption | omega | (intro h_; cases h_; done) | (simp only [LN] <;> omega) | (simp only [LF]; done) | (repeat (first | with_reducible assumption | apply Ext.refl | apply Ext.app | (apply Ext.set <;> omega) | (refine Ext.trans ?_ (by assumption))))) only [AX, TY, gV, dstOf, p_makeFunc, p_mapUpdate, mapPut, entsOf, p_lookup, p_extract, p_nilCheck, oneV, p_load, p_store, p_binOp, p_unOp, p_indexAddr, p_index, p_box, p_build, evParts, builtinV, load1, ldc, splice, minds, disj, rcOf, isCall, touchV, idsOf, mapId, touchB, p_buildSlice, buildSliceV, reps, fillV, p_convert, p_slice, evO, p_makeSlice, sid_some, soff_some, Nat.reduceLT, Nat.reduceLeDiff, Nat.reduceEqDiff, Nat.reduceAdd, Nat.reduceMul, Int.reduceBEq, Int.reduceEq, Int.reduceNeg, Int.reduceLT, Int.reduceLE, Int.reduceAdd, Int.reduceSub, Int.reduceMul, Int.reduceToNat, Int.reduceGT, Nat.reduceBEq, Nat.reducePow, Nat.reduceGT, reduceCtorEq, ↓reduceIte]
  refine (kind_ok hr hb).mono ?_
  rintro _ _ ⟨rfl, kd, rfl, hkd, _⟩
  obtain rfl := hkd v
  simp -dsimp (disch := first | with_reducible assumption | omega | (intro h_; cases h_; done) | (simp only [LN] <;> omega) | (simp only [LF]; done) | (repeat (first | with_reducible assumption | apply Ext.refl | apply Ext.app | (apply Ext.set <;> omega) | (refine Ext.trans ?_ (by assumption))))) only [AX, TY, gV, dstOf, p_makeFunc, p_mapUpdate, mapPut, entsOf, p_lookup, p_extract, p_nilCheck, oneV, p_load, p_store, p_binOp, p_unOp, p_indexAddr, p_index, p_box, p_build, evParts, builtinV, load1, ldc, splice, minds, disj, rcOf, isCall, touchV, idsOf, mapId, touchB, p_buildSlice, buildSliceV, reps, fillV, p_convert, p_slice, evO, p_makeSlice, sid_some, soff_some, Nat.reduceLT, Nat.reduceLeDiff, Nat.reduceEqDiff, Nat.reduceAdd, Nat.reduceMul, Int.reduceBEq, Int.reduceEq, Int.reduceNeg, Int.reduceLT, Int.reduceLE, Int.reduceAdd, Int.reduceSub, Int.reduceMul, Int.reduceToNat, Int.reduceGT, Nat.reduceBEq, Nat.reducePow, Nat.reduceGT, reduceCtorEq, ↓reduceIte]
  refine (cells_ok hr hb).mono ?_
  rintro _ h1 ⟨e1, s, po, co, oid, rfl, gr, hvv, hs, _⟩
  have hs := hs v
  obtain ⟨hs1, hs2, hs3⟩ := cells_small hb v hs
  have le1 := e1.le
  have hbase : ∀ a, oid = some a → h.length ≤ a := gr.base
  have hvin : VIn h1 oid vp vc zs := by
    rcases hv.vin with h | ⟨q, h2, h3, h4⟩
    · exact .inl h
    · exact .inr ⟨q, h2, e1 _ _ h3, fun e => by have := hbase _ e; have := lt_of_some h3; omega, h4⟩
  have hsp : WR (callE Try.prog hk 53 [.slice po s.length co, .int .i64 (i : Int), .int .i64 (j : Int), .slice vp zs.length vc] h1) (SpR h1 oid (s.take i ++ zs ++ s.drop j)) := by
    rcases hij with ⟨rfl, hz⟩ | ⟨hij, hz⟩
    · exact splice_ins gr le1 hvin hz (by omega) (by omega)
    · exact splice_rep gr le1 hvin hij (by omega) hz (by omega)
  simp -dsimp (disch := first | with_reducible assumption | omega | (intro h_; cases h_; done) | (simp only [LN] <;> omega) | (simp only [LF]; done) | (repeat (first | with_reducible assumption | apply Ext.refl | apply Ext.app | (apply Ext.set <;> omega) | (refine Ext.trans ?_ (by assumption))))) only [AX, TY, gV, dstOf, p_makeFunc, p_mapUpdate, mapPut, entsOf, p_lookup, p_extract, p_nilCheck, oneV, p_load, p_store, p_binOp, p_unOp, p_indexAddr, p_index, p_box, p_build, evParts, builtinV, load1, ldc, splice, minds, disj, rcOf, isCall, touchV, idsOf, mapId, touchB, p_buildSlice, buildSliceV, reps, fillV, p_convert, p_slice, evO, p_makeSlice, sid_some, soff_some, Nat.reduceLT, Nat.reduceLeDiff, Nat.reduceEqDiff, Nat.reduceAdd, Nat.reduceMul, Int.reduceBEq, Int.reduceEq, Int.reduceNeg, Int.reduceLT, Int.reduceLE, Int.reduceAdd, Int.reduceSub, Int.reduceMul, Int.reduceToNat, Int.reduceGT, Nat.reduceBEq, Nat.reducePow, Nat.reduceGT, reduceCtorEq, ↓reduceIte]
  refine hsp.mono ?_
  rintro _ h2 ⟨p', c', rfl, sl2, le2, keep⟩
  have e2 : Ext h h2 := Ext.of_keep fun k hk => by
    rw [keep k (fun e => by have := hbase _ e; omega) (by omega)]
    exact (e1.get _ _ (List.getElem?_eq_getElem hk)).trans (List.getElem?_eq_getElem hk).symm
  have hcok : ∀ y ∈ s.take i ++ zs ++ s.drop j, COK h2 y := fun y hy => by
    have hs' : ∀ y ∈ s, COK h2 y := fun y hy => by
      obtain ⟨h6, h7⟩ := hvv y hy
      exact Sl.keep h6 fun a o hp => keep a (h7 a o hp) (Sl.lt h6 hp)
    simp only [List.mem_append] at hy
    rcases hy with (hy | hy) | hy
    · exact hs' y (List.mem_of_mem_take hy)
    · exact Sl.ext (hv.ok y hy) e2
    · exact hs' y (List.mem_of_mem_drop hy)
  have hsml : ∀ y ∈ s.take i ++ zs ++ s.drop j, y.bs.length ≤ 1000000 := fun y hy => by
    simp only [List.mem_append] at hy
    rcases hy with (hy | hy) | hy
    · have := hs3 y (List.mem_of_mem_take hy); omega
    · have := hv.small y hy; omega
    · have := hs3 y (List.mem_of_mem_drop hy); omega
  have hmap : (s.take i ++ zs ++ s.drop j).map Cl.bs = (cellsS l).take i ++ zs.map Cl.bs ++ (cellsS l).drop j := by
    rw [← hs]; simp [List.map_take, List.map_drop]
  have hNl : (s.take i ++ zs ++ s.drop j).length ≤ 1000000 := by simp only [List.length_append, List.length_take, List.length_drop]; omega
  generalize s.take i ++ zs ++ s.drop j = NN at *
  have hbd := build_ok (c := c') sl2 hcok (rd l 0) hNl hsml
  rw [hmap] at hbd
  simp -dsimp (disch := first | with_reducible assumption | omega | (intro h_; cases h_; done) | (simp only [LN] <;> omega) | (simp only [LF]; done) | (repeat (first | with_reducible assumption | apply Ext.refl | apply Ext.app | (apply Ext.set <;> omega) | (refine Ext.trans ?_ (by assumption))))) only [AX, TY, gV, dstOf, p_makeFunc, p_mapUpdate, mapPut, entsOf, p_lookup, p_extract, p_nilCheck, oneV, p_load, p_store, p_binOp, p_unOp, p_indexAddr, p_index, p_box, p_build, evParts, builtinV, load1, ldc, splice, minds, disj, rcOf, isCall, touchV, idsOf, mapId, touchB, p_buildSlice, buildSliceV, reps, fillV, p_convert, p_slice, evO, p_makeSlice, sid_some, soff_some, Nat.reduceLT, Nat.reduceLeDiff, Nat.reduceEqDiff, Nat.reduceAdd, Nat.reduceMul, Int.reduceBEq, Int.reduceEq, Int.reduceNeg, Int.reduceLT, Int.reduceLE, Int.reduceAdd, Int.reduceSub, Int.reduceMul, Int.reduceToNat, Int.reduceGT, Nat.reduceBEq, Nat.reducePow, Nat.reduceGT, reduceCtorEq, ↓reduceIte]
  refine hbd.mono ?_
  rintro r h3 ⟨e3, hB⟩
  have hfin : BuildR h h3 (rd l 0) ((cellsS l).take i ++ zs.map Cl.bs ++ (cellsS l).drop j) r := by
    rcases hB with ⟨a1, a2, q, a3, a4, a5⟩ | hB
    · exact .inl ⟨a1, a2, q, a3, by omega, a5⟩
    · exact .inr hB
  have e03 := e2.trans e3
  rcases hB with ⟨a1, a2, q, rfl, a4, a5⟩ | ⟨a1, a2, rfl⟩ | ⟨a1, rfl⟩
  · simp -dsimp (disch := first | with_reducible assumption | omega | (intro h_; cases h_; done) | (simp only [LN] <;> omega) | (simp only [LF]; done) | (repeat (first | with_reducible assumption | apply Ext.refl | apply Ext.app | (apply Ext.set <;> omega) | (refine Ext.trans ?_ (by assumption))))) only [AX, TY, gV, dstOf, p_makeFunc, p_mapUpdate, mapPut, entsOf, p_lookup, p_extract, p_nilCheck, oneV, p_load, p_store, p_binOp, p_unOp, p_indexAddr, p_index, p_box, p_build, evParts, builtinV, load1, ldc, splice, minds, disj, rcOf, isCall, touchV, idsOf, mapId, touchB, p_buildSlice, buildSliceV, reps, fillV, p_convert, p_slice, evO, p_makeSlice, sid_some, soff_some, Nat.reduceLT, Nat.reduceLeDiff, Nat.reduceEqDiff, Nat.reduceAdd, Nat.reduceMul, Int.reduceBEq, Int.reduceEq, Int.reduceNeg, Int.reduceLT, Int.reduceLE, Int.reduceAdd, Int.reduceSub, Int.reduceMul, Int.reduceToNat, Int.reduceGT, Nat.reduceBEq, Nat.reducePow, Nat.reduceGT, reduceCtorEq, ↓reduceIte]
    exact ⟨e03, hfin⟩
  · simp -dsimp (disch := first | with_reducible assumption | omega | (intro h_; cases h_; done) | (simp only [LN] <;> omega) | (simp only [LF]; done) | (repeat (first | with_reducible assumption | apply Ext.refl | apply Ext.app | (apply Ext.set <;> omega) | (refine Ext.trans ?_ (by assumption))))) only [AX, TY, gV, dstOf, p_makeFunc, p_mapUpdate, mapPut, entsOf, p_lookup, p_extract, p_nilCheck, oneV, p_load, p_store, p_binOp, p_unOp, p_indexAddr, p_index, p_box, p_build, evParts, builtinV, load1, ldc, splice, minds, disj, rcOf, isCall, touchV, idsOf, mapId, touchB, p_buildSlice, buildSliceV, reps, fillV, p_convert, p_slice, evO, p_makeSlice, sid_some, soff_some, Nat.reduceLT, Nat.reduceLeDiff, Nat.reduceEqDiff, Nat.reduceAdd, Nat.reduceMul, Int.reduceBEq, Int.reduceEq, Int.reduceNeg, Int.reduceLT, Int.reduceLE, Int.reduceAdd, Int.reduceSub, Int.reduceMul, Int.reduceToNat, Int.reduceGT, Nat.reduceBEq, Nat.reducePow, Nat.reduceGT, reduceCtorEq, ↓reduceIte]
    exact ⟨e03, hfin⟩
  · simp -dsimp (disch := first | with_reducible assumption | omega | (intro h_; cases h_; done) | (simp only [LN] <;> omega) | (simp only [LF]; done) | (repeat (first | with_reducible assumption | apply Ext.refl | apply Ext.app | (apply Ext.set <;> omega) | (refine Ext.trans ?_ (by assumption))))) only [AX, TY, gV, dstOf, p_makeFunc, p_mapUpdate, mapPut, entsOf, p_lookup, p_extract, p_nilCheck, oneV, p_load, p_store, p_binOp, p_unOp, p_indexAddr, p_index, p_box, p_build, evParts, builtinV, load1, ldc, splice, minds, disj, rcOf, isCall, touchV, idsOf, mapId, touchB, p_buildSlice, buildSliceV, reps, fillV, p_convert, p_slice, evO, p_makeSlice, sid_some, soff_some, Nat.reduceLT, Nat.reduceLeDiff, Nat.reduceEqDiff, Nat.reduceAdd, Nat.reduceMul, Int.reduceBEq, Int.reduceEq, Int.reduceNeg, Int.reduceLT, Int.reduceLE, Int.reduceAdd, Int.reduceSub, Int.reduceMul, Int.reduceToNat, Int.reduceGT, Nat.reduceBEq, Nat.reducePow, Nat.reduceGT, reduceCtorEq, ↓reduceIte]
    exact ⟨e03, hfin⟩
end Go.Proofs.YtopbmpdcmnhfdaaA
