/- Words of this session: chapter 4: rows decoded. Words of this session: chapter 4: rows decoded, both ways. Words of this session: chapter 4: the document's way to decode rows. Words of this session: chapter 4: the laws of decoding. -/
import Derived.Test.YtngcicclaehpbaaDoorPQ
namespace Go.Proofs.YtngcicclaehpbaaDoorA
open Go Go.Proofs Go.RowKit
set_option linter.unusedVariables false
set_option linter.unusedSimpArgs false
set_option maxRecDepth 10000
set_option maxHeartbeats 4000000
theorem str1_parts {b s : List Int} {k : Nat} (hb : Bt b) (h : str1 b = some (s, k)) : Bt s ∧ k ≤ b.length ∧ s.length ≤ b.length ∧ 0 < k := by
  obtain ⟨h1, h2, h3, h4⟩ := enc_str1 hb h
  have h5 : Bt (uenc s.length ++ s) := by rw [h1]; exact hb.take k
  have h6 := congrArg List.length h1
  rw [List.length_append, List.length_take] at h6
  exact ⟨h5.right, h2, by omega, h3⟩
theorem drow1_G {b r : List Int} {v : Vl} (hb : Bt b) (hl : b.length ≤ 1000000) (h : drow1 b = some (v, r)) : v.G ∧ Bt r ∧ r.length < b.length := by
  refine ⟨?_, ?_, drow1_len hb h⟩
  all_goals
    cases b with
    | nil => cases h
    | cons t b =>
      have ht := hb.tail
      simp only [List.length_cons] at hl
      simp only [drow1] at h
      split at h
      · cases hk : udec b with
        | none => rw [hk] at h; cases h
        | some q =>
          obtain ⟨n, k⟩ := q
          rw [hk] at h
          simp only [Option.map_some, Option.some.injEq, Prod.mk.injEq] at h
          obtain ⟨rfl, rfl⟩ := h
          obtain ⟨u1, u2, u3, u4⟩ := uenc_udec ht hk
          have := unzz_in u4
          first | exact ht.drop _ | (simp only [Vl.G]; exact ⟨by omega, by omega, by simp, Bt.nil⟩)
      · split at h
        · cases hk : str1 b with
          | none => rw [hk] at h; cases h
          | some q =>
            obtain ⟨s, k⟩ := q
            rw [hk] at h
            simp only [Option.map_some, Option.some.injEq, Prod.mk.injEq] at h
            obtain ⟨rfl, rfl⟩ := h
            obtain ⟨k1, k2, k3, _⟩ := str1_parts ht hk
            first | exact ht.drop _ | (simp only [Vl.G]; exact ⟨by omega, by omega, by omega, k1⟩)
        · split at h
          · cases b with
            | nil => cases h
            | cons x b =>
              have hx := ht.head
              simp only [Option.some.injEq, Prod.mk.injEq] at h
              obtain ⟨rfl, rfl⟩ := h
              first | exact ht.tail | (simp only [Vl.G]; exact ⟨by omega, by omega, by simp, Bt.nil⟩)
          · cases h
theorem rowValue_ok {hR h : Heap} {p : Option (Nat × Nat)} {c : Option Nat} {b : List Int} (hr : Rs hR p c 1 eb b) (e0 : Ext hR h) (hb : Bt b) (hl : b.length ≤ 1000000) : WR (callE Tryd.prog hk 49 [.slice p b.length c] h) fun r h' => Ext h h' ∧ kvR hR (drow1 b) r := by
  have hle0 := e0.le
  match b, hr, hb, hl with
  | [], hr, hb, hl =>
    refine WR.call (hH := rfl) Tryd.func49 rfl (n := 72) rfl rfl (by simp) ?_
    simp -dsimp (disch := first | with_reducible assumption | omega | (intro h_; cases h_; done) | (simp only [LN] <;> omega) | (simp only [LF]; done) | (repeat (first | with_reducible assumption | apply Ext.refl | apply Ext.app | (apply Ext.set <;> omega) | (refine Ext.trans ?_ (by assumption))))) only [AX, TY, gV, dstOf, p_makeFunc, p_mapUpdate, mapPut, entsOf, p_lookup, p_extract, p_nilCheck, oneV, p_load, p_store, p_binOp, p_unOp, p_indexAddr, p_index, p_box, p_build, evParts, builtinV, load1, ldc, splice, minds, disj, rcOf, isCall, touchV, idsOf, mapId, touchB, p_buildSlice, buildSliceV, reps, fillV, p_convert, p_slice, evO, p_makeSlice, sid_some, soff_some, Nat.reduceLT, Nat.reduceLeDiff, Nat.reduceEqDiff, Nat.reduceAdd, Nat.reduceMul, Int.reduceBEq, Int.reduceEq, Int.reduceNeg, Int.reduceLT, Int.reduceLE, Int.reduceAdd, Int.reduceSub, Int.reduceMul, Int.reduceToNat, Int.reduceGT, Nat.reduceBEq, Nat.reducePow, Nat.reduceGT, reduceCtorEq, ↓reduceIte]
    exact ⟨(by (repeat (first | assumption | apply Ext.refl | apply Ext.app | (apply Ext.set <;> omega) | exact Ext.trans (by assumption) (by assumption) | (refine Ext.trans ?_ (by assumption))))), ⟨0, 0, []⟩, _, _, _, rfl⟩
  | x :: t, hr, hb, hl =>
    have hx := hb.head
    have ht := hb.tail
    have hnp := hr.sl.nil'
    have hld0 := fun hh (e : Ext hR hh) => hr.sl.load0 (hh := hh) e (i := 0) (m := 1) (by simp) (Nat.le_refl 1)
    simp only [eb, List.getElem_cons_zero, Nat.zero_mul, Nat.add_zero] at hld0
    obtain ⟨p6, c6, hcut, rs6⟩ := hr.lo (a := 1) (by simp)
    have hn1 : (x :: t).length - 1 = t.length := rfl
    rw [hn1] at hcut
    simp only [Int.natCast_one] at hcut
    simp only [List.drop_succ_cons, List.drop_zero] at rs6
    have h0 : (0 : Int) < ((x :: t).length : Int) := by simp only [List.length_cons]; omega
    have h00 : ¬ ((x :: t).length : Int) = 0 := by simp only [List.length_cons]; omega
    have hlt' : (x :: t).length = t.length + 1 := rfl
    have hl' : t.length ≤ 1000000 := by simp only [List.length_cons] at hl; omega
    have hnc : (!(match some (V.slice p6 t.length c6) with
            | some (V.ptr (some (id, snd))) => [id]
            | some (V.slice (some (id, snd)) len cap) => [id]
            | some (V.map (some id)) => [id]
            | x => []).contains
          (List.length h)) = true := by
      cases p6 with
      | none => rfl
      | some q =>
        obtain ⟨a6, o6⟩ := q
        have := rs6.sl.lt rfl
        simp; omega
    have hwx : IntKind.i64.wrap x = x := by rw [IntKind.wrap_i64]; omega
    refine WR.call (hH := rfl) Tryd.func49 rfl (n := 72) rfl rfl (by simp) ?_
    generalize hlt : (x :: t).length = n at *
    have ex : Ext h (h ++ [O.cells [V.int .i64 0, V.int .i64 0, V.str []] Kd.rw] ++ [O.cells [V.int .i64 x, V.int .i64 0, V.str []] Kd.rw]) := (by (repeat (first | assumption | apply Ext.refl | apply Ext.app | (apply Ext.set <;> omega) | exact Ext.trans (by assumption) (by assumption) | (refine Ext.trans ?_ (by assumption)))))
    by_cases g1 : x = 0
    · subst g1
      have hd0 : drow1 (0 :: t) = (udec t).map fun q => (⟨0, unzz q.1, []⟩, t.drop q.2) := rfl
      simp -dsimp (disch := first | with_reducible assumption | omega | (intro h_; cases h_; done) | (simp only [LN] <;> omega) | (simp only [LF]; done) | (repeat (first | with_reducible assumption | apply Ext.refl | apply Ext.app | (apply Ext.set <;> omega) | (refine Ext.trans ?_ (by assumption))))) only [AX, TY, gV, dstOf, p_makeFunc, p_mapUpdate, mapPut, entsOf, p_lookup, p_extract, p_nilCheck, oneV, p_load, p_store, p_binOp, p_unOp, p_indexAddr, p_index, p_box, p_build, evParts, builtinV, load1, ldc, splice, minds, disj, rcOf, isCall, touchV, idsOf, mapId, touchB, p_buildSlice, buildSliceV, reps, fillV, p_convert, p_slice, evO, p_makeSlice, sid_some, soff_some, Nat.reduceLT, Nat.reduceLeDiff, Nat.reduceEqDiff, Nat.reduceAdd, Nat.reduceMul, Int.reduceBEq, Int.reduceEq, Int.reduceNeg, Int.reduceLT, Int.reduceLE, Int.reduceAdd, Int.reduceSub, Int.reduceMul, Int.reduceToNat, Int.reduceGT, Nat.reduceBEq, Nat.reducePow, Nat.reduceGT, reduceCtorEq, ↓reduceIte, hld0, hcut, h0, h00, hwx]
      refine (uint_ok (rs6.sl.ext (e0.trans ex)) ht).mono ?_
      rintro _ _ ⟨rfl, rfl⟩
      cases hu : udec t with
      | none =>
        have hR : uintR none = V.tuple [.int .u64 ((0 : Nat) : Int), .int .i64 0, .int .i64 12] := rfl
        rw [hd0, hu]
        simp -dsimp (disch := first | with_reducible assumption | omega | (intro h_; cases h_; done) | (simp only [LN] <;> omega) | (simp only [LF]; done) | (repeat (first | with_reducible assumption | apply Ext.refl | apply Ext.app | (apply Ext.set <;> omega) | (refine Ext.trans ?_ (by assumption))))) only [AX, TY, gV, dstOf, p_makeFunc, p_mapUpdate, mapPut, entsOf, p_lookup, p_extract, p_nilCheck, oneV, p_load, p_store, p_binOp, p_unOp, p_indexAddr, p_index, p_box, p_build, evParts, builtinV, load1, ldc, splice, minds, disj, rcOf, isCall, touchV, idsOf, mapId, touchB, p_buildSlice, buildSliceV, reps, fillV, p_convert, p_slice, evO, p_makeSlice, sid_some, soff_some, Nat.reduceLT, Nat.reduceLeDiff, Nat.reduceEqDiff, Nat.reduceAdd, Nat.reduceMul, Int.reduceBEq, Int.reduceEq, Int.reduceNeg, Int.reduceLT, Int.reduceLE, Int.reduceAdd, Int.reduceSub, Int.reduceMul, Int.reduceToNat, Int.reduceGT, Nat.reduceBEq, Nat.reducePow, Nat.reduceGT, reduceCtorEq, ↓reduceIte, hR]
        refine (unzig_ok (n := 0) (by decide)).mono ?_
        rintro _ _ ⟨rfl, rfl⟩
        obtain ⟨p9, c9, hcut9, rs9⟩ := rs6.lo (a := 0) (by omega)
        simp only [Int.natCast_zero, Nat.sub_zero] at hcut9
        simp -dsimp (disch := first | with_reducible assumption | omega | (intro h_; cases h_; done) | (simp only [LN] <;> omega) | (simp only [LF]; done) | (repeat (first | with_reducible assumption | apply Ext.refl | apply Ext.app | (apply Ext.set <;> omega) | (refine Ext.trans ?_ (by assumption))))) only [AX, TY, gV, dstOf, p_makeFunc, p_mapUpdate, mapPut, entsOf, p_lookup, p_extract, p_nilCheck, oneV, p_load, p_store, p_binOp, p_unOp, p_indexAddr, p_index, p_box, p_build, evParts, builtinV, load1, ldc, splice, minds, disj, rcOf, isCall, touchV, idsOf, mapId, touchB, p_buildSlice, buildSliceV, reps, fillV, p_convert, p_slice, evO, p_makeSlice, sid_some, soff_some, Nat.reduceLT, Nat.reduceLeDiff, Nat.reduceEqDiff, Nat.reduceAdd, Nat.reduceMul, Int.reduceBEq, Int.reduceEq, Int.reduceNeg, Int.reduceLT, Int.reduceLE, Int.reduceAdd, Int.reduceSub, Int.reduceMul, Int.reduceToNat, Int.reduceGT, Nat.reduceBEq, Nat.reducePow, Nat.reduceGT, reduceCtorEq, ↓reduceIte]
        refine W.drawn [(0, []), (1, [0]), (2, [1, 0]), (3, [0]), (4, [3, 2, 1, 0]), (5, [3, 2, 1, 0]), (6, [5, 4, 3, 2, 1]), (7, [5, 4]), (8, [])] (by decide +kernel) ?_
        simp -dsimp (disch := first | with_reducible assumption | omega | (intro h_; cases h_; done) | (simp only [LN] <;> omega) | (simp only [LF]; done) | (repeat (first | with_reducible assumption | apply Ext.refl | apply Ext.app | (apply Ext.set <;> omega) | (refine Ext.trans ?_ (by assumption))))) only [AX, TY, gV, dstOf, p_makeFunc, p_mapUpdate, mapPut, entsOf, p_lookup, p_extract, p_nilCheck, oneV, p_load, p_store, p_binOp, p_unOp, p_indexAddr, p_index, p_box, p_build, evParts, builtinV, load1, ldc, splice, minds, disj, rcOf, isCall, touchV, idsOf, mapId, touchB, p_buildSlice, buildSliceV, reps, fillV, p_convert, p_slice, evO, p_makeSlice, sid_some, soff_some, Nat.reduceLT, Nat.reduceLeDiff, Nat.reduceEqDiff, Nat.reduceAdd, Nat.reduceMul, Int.reduceBEq, Int.reduceEq, Int.reduceNeg, Int.reduceLT, Int.reduceLE, Int.reduceAdd, Int.reduceSub, Int.reduceMul, Int.reduceToNat, Int.reduceGT, Nat.reduceBEq, Nat.reducePow, Nat.reduceGT, reduceCtorEq, ↓reduceIte, hcut9]
        exact ⟨hnc, (by (repeat (first | assumption | apply Ext.refl | apply Ext.app | (apply Ext.set <;> omega) | exact Ext.trans (by assumption) (by assumption) | (refine Ext.trans ?_ (by assumption))))), ⟨0, unzz 0, []⟩, _, _, _, rfl⟩
      | some q =>
        obtain ⟨n', k⟩ := q
        obtain ⟨u1, u2, u3, u4⟩ := uenc_udec ht hu
        have hR : uintR (some (n', k)) = V.tuple [.int .u64 (n' : Int), .int .i64 (k : Int), .int .i64 0] := rfl
        rw [hd0, hu]
        simp -dsimp (disch := first | with_reducible assumption | omega | (intro h_; cases h_; done) | (simp only [LN] <;> omega) | (simp only [LF]; done) | (repeat (first | with_reducible assumption | apply Ext.refl | apply Ext.app | (apply Ext.set <;> omega) | (refine Ext.trans ?_ (by assumption))))) only [AX, TY, gV, dstOf, p_makeFunc, p_mapUpdate, mapPut, entsOf, p_lookup, p_extract, p_nilCheck, oneV, p_load, p_store, p_binOp, p_unOp, p_indexAddr, p_index, p_box, p_build, evParts, builtinV, load1, ldc, splice, minds, disj, rcOf, isCall, touchV, idsOf, mapId, touchB, p_buildSlice, buildSliceV, reps, fillV, p_convert, p_slice, evO, p_makeSlice, sid_some, soff_some, Nat.reduceLT, Nat.reduceLeDiff, Nat.reduceEqDiff, Nat.reduceAdd, Nat.reduceMul, Int.reduceBEq, Int.reduceEq, Int.reduceNeg, Int.reduceLT, Int.reduceLE, Int.reduceAdd, Int.reduceSub, Int.reduceMul, Int.reduceToNat, Int.reduceGT, Nat.reduceBEq, Nat.reducePow, Nat.reduceGT, reduceCtorEq, ↓reduceIte, hR]
        refine (unzig_ok u4).mono ?_
        rintro _ _ ⟨rfl, rfl⟩
        obtain ⟨p9, c9, hcut9, rs9⟩ := rs6.lo (a := k) (by omega)
        simp -dsimp (disch := first | with_reducible assumption | omega | (intro h_; cases h_; done) | (simp only [LN] <;> omega) | (simp only [LF]; done) | (repeat (first | with_reducible assumption | apply Ext.refl | apply Ext.app | (apply Ext.set <;> omega) | (refine Ext.trans ?_ (by assumption))))) only [AX, TY, gV, dstOf, p_makeFunc, p_mapUpdate, mapPut, entsOf, p_lookup, p_extract, p_nilCheck, oneV, p_load, p_store, p_binOp, p_unOp, p_indexAddr, p_index, p_box, p_build, evParts, builtinV, load1, ldc, splice, minds, disj, rcOf, isCall, touchV, idsOf, mapId, touchB, p_buildSlice, buildSliceV, reps, fillV, p_convert, p_slice, evO, p_makeSlice, sid_some, soff_some, Nat.reduceLT, Nat.reduceLeDiff, Nat.reduceEqDiff, Nat.reduceAdd, Nat.reduceMul, Int.reduceBEq, Int.reduceEq, Int.reduceNeg, Int.reduceLT, Int.reduceLE, Int.reduceAdd, Int.reduceSub, Int.reduceMul, Int.reduceToNat, Int.reduceGT, Nat.reduceBEq, Nat.reducePow, Nat.reduceGT, reduceCtorEq, ↓reduceIte]
        refine W.drawn [(0, []), (1, [0]), (2, [1, 0]), (3, [0]), (4, [3, 2, 1, 0]), (5, [3, 2, 1, 0]), (6, [5, 4, 3, 2, 1]), (7, [5, 4]), (8, [])] (by decide +kernel) ?_
        simp -dsimp (disch := first | with_reducible assumption | omega | (intro h_; cases h_; done) | (simp only [LN] <;> omega) | (simp only [LF]; done) | (repeat (first | with_reducible assumption | apply Ext.refl | apply Ext.app | (apply Ext.set <;> omega) | (refine Ext.trans ?_ (by assumption))))) only [AX, TY, gV, dstOf, p_makeFunc, p_mapUpdate, mapPut, entsOf, p_lookup, p_extract, p_nilCheck, oneV, p_load, p_store, p_binOp, p_unOp, p_indexAddr, p_index, p_box, p_build, evParts, builtinV, load1, ldc, splice, minds, disj, rcOf, isCall, touchV, idsOf, mapId, touchB, p_buildSlice, buildSliceV, reps, fillV, p_convert, p_slice, evO, p_makeSlice, sid_some, soff_some, Nat.reduceLT, Nat.reduceLeDiff, Nat.reduceEqDiff, Nat.reduceAdd, Nat.reduceMul, Int.reduceBEq, Int.reduceEq, Int.reduceNeg, Int.reduceLT, Int.reduceLE, Int.reduceAdd, Int.reduceSub, Int.reduceMul, Int.reduceToNat, Int.reduceGT, Nat.reduceBEq, Nat.reducePow, Nat.reduceGT, reduceCtorEq, ↓reduceIte, hcut9]
        refine ⟨hnc, (by (repeat (first | assumption | apply Ext.refl | apply Ext.app | (apply Ext.set <;> omega) | exact Ext.trans (by assumption) (by assumption) | (refine Ext.trans ?_ (by assumption))))), p9, c9, ?_, rs9⟩
        rw [List.length_drop]; rfl
    by_cases g2 : x = 1
    · subst g2
      have hd0 : drow1 (1 :: t) = (str1 t).map fun q => (⟨1, 0, q.1⟩, t.drop q.2) := rfl
      simp -dsimp (disch := first | with_reducible assumption | omega | (intro h_; cases h_; done) | (simp only [LN] <;> omega) | (simp only [LF]; done) | (repeat (first | with_reducible assumption | apply Ext.refl | apply Ext.app | (apply Ext.set <;> omega) | (refine Ext.trans ?_ (by assumption))))) only [AX, TY, gV, dstOf, p_makeFunc, p_mapUpdate, mapPut, entsOf, p_lookup, p_extract, p_nilCheck, oneV, p_load, p_store, p_binOp, p_unOp, p_indexAddr, p_index, p_box, p_build, evParts, builtinV, load1, ldc, splice, minds, disj, rcOf, isCall, touchV, idsOf, mapId, touchB, p_buildSlice, buildSliceV, reps, fillV, p_convert, p_slice, evO, p_makeSlice, sid_some, soff_some, Nat.reduceLT, Nat.reduceLeDiff, Nat.reduceEqDiff, Nat.reduceAdd, Nat.reduceMul, Int.reduceBEq, Int.reduceEq, Int.reduceNeg, Int.reduceLT, Int.reduceLE, Int.reduceAdd, Int.reduceSub, Int.reduceMul, Int.reduceToNat, Int.reduceGT, Nat.reduceBEq, Nat.reducePow, Nat.reduceGT, reduceCtorEq, ↓reduceIte, hld0, hcut, h0, h00, hwx]
      refine (string_ok (rs6.ext (e0.trans ex)) ht).mono ?_
      rintro _ _ ⟨rfl, rfl⟩
      cases hu : str1 t with
      | none =>
        have hR : strR none = V.tuple [.str [], .int .i64 0, .int .i64 12] := rfl
        rw [hd0, hu]
        obtain ⟨p9, c9, hcut9, rs9⟩ := rs6.lo (a := 0) (by omega)
        simp only [Int.natCast_zero, Nat.sub_zero] at hcut9
        simp -dsimp (disch := first | with_reducible assumption | omega | (intro h_; cases h_; done) | (simp only [LN] <;> omega) | (simp only [LF]; done) | (repeat (first | with_reducible assumption | apply Ext.refl | apply Ext.app | (apply Ext.set <;> omega) | (refine Ext.trans ?_ (by assumption))))) only [AX, TY, gV, dstOf, p_makeFunc, p_mapUpdate, mapPut, entsOf, p_lookup, p_extract, p_nilCheck, oneV, p_load, p_store, p_binOp, p_unOp, p_indexAddr, p_index, p_box, p_build, evParts, builtinV, load1, ldc, splice, minds, disj, rcOf, isCall, touchV, idsOf, mapId, touchB, p_buildSlice, buildSliceV, reps, fillV, p_convert, p_slice, evO, p_makeSlice, sid_some, soff_some, Nat.reduceLT, Nat.reduceLeDiff, Nat.reduceEqDiff, Nat.reduceAdd, Nat.reduceMul, Int.reduceBEq, Int.reduceEq, Int.reduceNeg, Int.reduceLT, Int.reduceLE, Int.reduceAdd, Int.reduceSub, Int.reduceMul, Int.reduceToNat, Int.reduceGT, Nat.reduceBEq, Nat.reducePow, Nat.reduceGT, reduceCtorEq, ↓reduceIte, hR]
        refine W.drawn [(0, []), (1, [0]), (2, [1, 0]), (3, [0]), (4, [3, 2, 1, 0]), (5, [3, 2, 1, 0]), (6, [5, 4, 3, 2, 1]), (7, [5, 4]), (8, [])] (by decide +kernel) ?_
        simp -dsimp (disch := first | with_reducible assumption | omega | (intro h_; cases h_; done) | (simp only [LN] <;> omega) | (simp only [LF]; done) | (repeat (first | with_reducible assumption | apply Ext.refl | apply Ext.app | (apply Ext.set <;> omega) | (refine Ext.trans ?_ (by assumption))))) only [AX, TY, gV, dstOf, p_makeFunc, p_mapUpdate, mapPut, entsOf, p_lookup, p_extract, p_nilCheck, oneV, p_load, p_store, p_binOp, p_unOp, p_indexAddr, p_index, p_box, p_build, evParts, builtinV, load1, ldc, splice, minds, disj, rcOf, isCall, touchV, idsOf, mapId, touchB, p_buildSlice, buildSliceV, reps, fillV, p_convert, p_slice, evO, p_makeSlice, sid_some, soff_some, Nat.reduceLT, Nat.reduceLeDiff, Nat.reduceEqDiff, Nat.reduceAdd, Nat.reduceMul, Int.reduceBEq, Int.reduceEq, Int.reduceNeg, Int.reduceLT, Int.reduceLE, Int.reduceAdd, Int.reduceSub, Int.reduceMul, Int.reduceToNat, Int.reduceGT, Nat.reduceBEq, Nat.reducePow, Nat.reduceGT, reduceCtorEq, ↓reduceIte, hcut9]
        exact ⟨hnc, (by (repeat (first | assumption | apply Ext.refl | apply Ext.app | (apply Ext.set <;> omega) | exact Ext.trans (by assumption) (by assumption) | (refine Ext.trans ?_ (by assumption))))), ⟨1, 0, []⟩, _, _, _, rfl⟩
      | some q =>
        obtain ⟨s, k⟩ := q
        obtain ⟨k1, k2, k3, _⟩ := str1_parts ht hu
        have hR : strR (some (s, k)) = V.tuple [.str s, .int .i64 (k : Int), .int .i64 0] := rfl
        rw [hd0, hu]
        obtain ⟨p9, c9, hcut9, rs9⟩ := rs6.lo (a := k) (by omega)
        simp -dsimp (disch := first | with_reducible assumption | omega | (intro h_; cases h_; done) | (simp only [LN] <;> omega) | (simp only [LF]; done) | (repeat (first | with_reducible assumption | apply Ext.refl | apply Ext.app | (apply Ext.set <;> omega) | (refine Ext.trans ?_ (by assumption))))) only [AX, TY, gV, dstOf, p_makeFunc, p_mapUpdate, mapPut, entsOf, p_lookup, p_extract, p_nilCheck, oneV, p_load, p_store, p_binOp, p_unOp, p_indexAddr, p_index, p_box, p_build, evParts, builtinV, load1, ldc, splice, minds, disj, rcOf, isCall, touchV, idsOf, mapId, touchB, p_buildSlice, buildSliceV, reps, fillV, p_convert, p_slice, evO, p_makeSlice, sid_some, soff_some, Nat.reduceLT, Nat.reduceLeDiff, Nat.reduceEqDiff, Nat.reduceAdd, Nat.reduceMul, Int.reduceBEq, Int.reduceEq, Int.reduceNeg, Int.reduceLT, Int.reduceLE, Int.reduceAdd, Int.reduceSub, Int.reduceMul, Int.reduceToNat, Int.reduceGT, Nat.reduceBEq, Nat.reducePow, Nat.reduceGT, reduceCtorEq, ↓reduceIte, hR]
        refine W.drawn [(0, []), (1, [0]), (2, [1, 0]), (3, [0]), (4, [3, 2, 1, 0]), (5, [3, 2, 1, 0]), (6, [5, 4, 3, 2, 1]), (7, [5, 4]), (8, [])] (by decide +kernel) ?_
        simp -dsimp (disch := first | with_reducible assumption | omega | (intro h_; cases h_; done) | (simp only [LN] <;> omega) | (simp only [LF]; done) | (repeat (first | with_reducible assumption | apply Ext.refl | apply Ext.app | (apply Ext.set <;> omega) | (refine Ext.trans ?_ (by assumption))))) only [AX, TY, gV, dstOf, p_makeFunc, p_mapUpdate, mapPut, entsOf, p_lookup, p_extract, p_nilCheck, oneV, p_load, p_store, p_binOp, p_unOp, p_indexAddr, p_index, p_box, p_build, evParts, builtinV, load1, ldc, splice, minds, disj, rcOf, isCall, touchV, idsOf, mapId, touchB, p_buildSlice, buildSliceV, reps, fillV, p_convert, p_slice, evO, p_makeSlice, sid_some, soff_some, Nat.reduceLT, Nat.reduceLeDiff, Nat.reduceEqDiff, Nat.reduceAdd, Nat.reduceMul, Int.reduceBEq, Int.reduceEq, Int.reduceNeg, Int.reduceLT, Int.reduceLE, Int.reduceAdd, Int.reduceSub, Int.reduceMul, Int.reduceToNat, Int.reduceGT, Nat.reduceBEq, Nat.reducePow, Nat.reduceGT, reduceCtorEq, ↓reduceIte, hcut9]
        refine ⟨hnc, (by (repeat (first | assumption | apply Ext.refl | apply Ext.app | (apply Ext.set <;> omega) | exact Ext.trans (by assumption) (by assumption) | (refine Ext.trans ?_ (by assumption))))), p9, c9, ?_, rs9⟩
        rw [List.length_drop]; rfl
    by_cases g3 : x = 2
    · subst g3
      match t, hl', ht, rs6, hcut, hnc with
      | [], hl', ht, rs6, hcut, hnc =>
        simp -dsimp (disch := first | with_reducible assumption | omega | (intro h_; cases h_; done) | (simp only [LN] <;> omega) | (simp only [LF]; done) | (repeat (first | with_reducible assumption | apply Ext.refl | apply Ext.app | (apply Ext.set <;> omega) | (refine Ext.trans ?_ (by assumption))))) only [AX, TY, gV, dstOf, p_makeFunc, p_mapUpdate, mapPut, entsOf, p_lookup, p_extract, p_nilCheck, oneV, p_load, p_store, p_binOp, p_unOp, p_indexAddr, p_index, p_box, p_build, evParts, builtinV, load1, ldc, splice, minds, disj, rcOf, isCall, touchV, idsOf, mapId, touchB, p_buildSlice, buildSliceV, reps, fillV, p_convert, p_slice, evO, p_makeSlice, sid_some, soff_some, Nat.reduceLT, Nat.reduceLeDiff, Nat.reduceEqDiff, Nat.reduceAdd, Nat.reduceMul, Int.reduceBEq, Int.reduceEq, Int.reduceNeg, Int.reduceLT, Int.reduceLE, Int.reduceAdd, Int.reduceSub, Int.reduceMul, Int.reduceToNat, Int.reduceGT, Nat.reduceBEq, Nat.reducePow, Nat.reduceGT, reduceCtorEq, ↓reduceIte, hld0, hcut, h0, h00, hwx]
        exact ⟨(by (repeat (first | assumption | apply Ext.refl | apply Ext.app | (apply Ext.set <;> omega) | exact Ext.trans (by assumption) (by assumption) | (refine Ext.trans ?_ (by assumption))))), ⟨0, 0, []⟩, _, _, _, rfl⟩
      | y :: l, hl', ht, rs6, hcut, hnc =>
        have hy := ht.head
        have hwy : IntKind.i64.wrap y = y := by rw [IntKind.wrap_i64]; omega
        have hld1 := fun hh (e : Ext hR hh) => rs6.sl.load0 (hh := hh) e (i := 0) (m := 1) (by simp) (Nat.le_refl 1)
        simp only [eb, List.getElem_cons_zero, Nat.zero_mul, Nat.add_zero] at hld1
        obtain ⟨p9, c9, hcut9, rs9⟩ := rs6.lo (a := 1) (by simp)
        simp only [Int.natCast_one] at hcut9
        have hnp6 := rs6.sl.nil'
        have h3 : (0 : Int) < ((y :: l).length : Int) := by simp only [List.length_cons]; omega
        generalize hlt2 : (y :: l).length = n2 at *
        simp -dsimp (disch := first | with_reducible assumption | omega | (intro h_; cases h_; done) | (simp only [LN] <;> omega) | (simp only [LF]; done) | (repeat (first | with_reducible assumption | apply Ext.refl | apply Ext.app | (apply Ext.set <;> omega) | (refine Ext.trans ?_ (by assumption))))) only [AX, TY, gV, dstOf, p_makeFunc, p_mapUpdate, mapPut, entsOf, p_lookup, p_extract, p_nilCheck, oneV, p_load, p_store, p_binOp, p_unOp, p_indexAddr, p_index, p_box, p_build, evParts, builtinV, load1, ldc, splice, minds, disj, rcOf, isCall, touchV, idsOf, mapId, touchB, p_buildSlice, buildSliceV, reps, fillV, p_convert, p_slice, evO, p_makeSlice, sid_some, soff_some, Nat.reduceLT, Nat.reduceLeDiff, Nat.reduceEqDiff, Nat.reduceAdd, Nat.reduceMul, Int.reduceBEq, Int.reduceEq, Int.reduceNeg, Int.reduceLT, Int.reduceLE, Int.reduceAdd, Int.reduceSub, Int.reduceMul, Int.reduceToNat, Int.reduceGT, Nat.reduceBEq, Nat.reducePow, Nat.reduceGT, reduceCtorEq, ↓reduceIte, hld0, hcut, h0, h00, hwx, h3, hld1, hwy]
        refine W.drawn [(0, []), (1, [0]), (2, [0]), (3, [2, 1]), (4, []), (5, [])] (by decide +kernel) ?_
        simp -dsimp (disch := first | with_reducible assumption | omega | (intro h_; cases h_; done) | (simp only [LN] <;> omega) | (simp only [LF]; done) | (repeat (first | with_reducible assumption | apply Ext.refl | apply Ext.app | (apply Ext.set <;> omega) | (refine Ext.trans ?_ (by assumption))))) only [AX, TY, gV, dstOf, p_makeFunc, p_mapUpdate, mapPut, entsOf, p_lookup, p_extract, p_nilCheck, oneV, p_load, p_store, p_binOp, p_unOp, p_indexAddr, p_index, p_box, p_build, evParts, builtinV, load1, ldc, splice, minds, disj, rcOf, isCall, touchV, idsOf, mapId, touchB, p_buildSlice, buildSliceV, reps, fillV, p_convert, p_slice, evO, p_makeSlice, sid_some, soff_some, Nat.reduceLT, Nat.reduceLeDiff, Nat.reduceEqDiff, Nat.reduceAdd, Nat.reduceMul, Int.reduceBEq, Int.reduceEq, Int.reduceNeg, Int.reduceLT, Int.reduceLE, Int.reduceAdd, Int.reduceSub, Int.reduceMul, Int.reduceToNat, Int.reduceGT, Nat.reduceBEq, Nat.reducePow, Nat.reduceGT, reduceCtorEq, ↓reduceIte, hcut9]
        refine ⟨hnc, (by (repeat (first | assumption | apply Ext.refl | apply Ext.app | (apply Ext.set <;> omega) | exact Ext.trans (by assumption) (by assumption) | (refine Ext.trans ?_ (by assumption))))), p9, c9, ?_, rs9⟩
        have : n2 - 1 = l.length := by rw [← hlt2]; rfl
        rw [this]; rfl
    · have hd : drow1 (x :: t) = none := by
        simp only [drow1]
        rw [if_neg g1, if_neg g2, if_neg g3]
      rw [hd]
      simp -dsimp (disch := first | with_reducible assumption | omega | (intro h_; cases h_; done) | (simp only [LN] <;> omega) | (simp only [LF]; done) | (repeat (first | with_reducible assumption | apply Ext.refl | apply Ext.app | (apply Ext.set <;> omega) | (refine Ext.trans ?_ (by assumption))))) only [AX, TY, gV, dstOf, p_makeFunc, p_mapUpdate, mapPut, entsOf, p_lookup, p_extract, p_nilCheck, oneV, p_load, p_store, p_binOp, p_unOp, p_indexAddr, p_index, p_box, p_build, evParts, builtinV, load1, ldc, splice, minds, disj, rcOf, isCall, touchV, idsOf, mapId, touchB, p_buildSlice, buildSliceV, reps, fillV, p_convert, p_slice, evO, p_makeSlice, sid_some, soff_some, Nat.reduceLT, Nat.reduceLeDiff, Nat.reduceEqDiff, Nat.reduceAdd, Nat.reduceMul, Int.reduceBEq, Int.reduceEq, Int.reduceNeg, Int.reduceLT, Int.reduceLE, Int.reduceAdd, Int.reduceSub, Int.reduceMul, Int.reduceToNat, Int.reduceGT, Nat.reduceBEq, Nat.reducePow, Nat.reduceGT, reduceCtorEq, ↓reduceIte, hld0, hcut, h0, h00, hwx, g1, g2, g3]
      exact ⟨(by (repeat (first | assumption | apply Ext.refl | apply Ext.app | (apply Ext.set <;> omega) | exact Ext.trans (by assumption) (by assumption) | (refine Ext.trans ?_ (by assumption))))), ⟨0, 0, []⟩, _, _, _, rfl⟩
end Go.Proofs.YtngcicclaehpbaaDoorA
namespace Go.Proofs.YtngcicclaehpbaaDoorA
open Go Go.Proofs Go.RowKit
set_option linter.unusedVariables false
set_option linter.unusedSimpArgs false
set_option maxRecDepth 10000
set_option maxHeartbeats 4000000
def RowDec (b : List Int) (l : List Vl) : Prop := ∃ k, udec b = some (l.length, k) ∧ Dec drow1 (b.drop k) l []
def RowAll (b : List Int) (o : Option (List Vl)) : Prop := match o with
  | some l => RowDec b l
  | none => ¬ ∃ l, RowDec b l
theorem RowDec.uniq {b : List Int} {l m : List Vl} (h : RowDec b l) (h2 : RowDec b m) : l = m := by
  obtain ⟨k, h, h3⟩ := h
  obtain ⟨j, h2, h4⟩ := h2
  rw [h] at h2
  simp only [Option.some.injEq, Prod.mk.injEq] at h2
  obtain ⟨_, rfl⟩ := h2
  exact Dec.uniq rfl h3 h4
theorem RowAll.uniq {b : List Int} {o o' : Option (List Vl)} (h : RowAll b o) (h2 : RowAll b o') : o = o' := by
  cases o with
  | none => cases o' with
    | none => rfl
    | some l => exact absurd ⟨l, h2⟩ h
  | some l => cases o' with
    | none => exact absurd ⟨l, h⟩ h2
    | some m => rw [RowDec.uniq h h2]
theorem RowAll.none_u {b : List Int} (h : udec b = none) : RowAll b none := by
  rintro ⟨l, k, h2, _⟩
  rw [h] at h2; cases h2
theorem RowAll.stuck {b t : List Int} {l : List Vl} {n k : Nat} (h : udec b = some (n, k)) (hd : Dec drow1 (b.drop k) l t) (hl : l.length < n) (hs : ∀ v r, drow1 t = some (v, r) → validV v = false) : RowAll b none := by
  rintro ⟨l', k', h2, h3⟩
  rw [h] at h2
  simp only [Option.some.injEq, Prod.mk.injEq] at h2
  obtain ⟨h4, rfl⟩ := h2
  obtain ⟨m, rfl, h5⟩ := hd.split rfl h3
  cases h5 with
  | nil => simp at h4; omega
  | cons p1 p2 _ => rw [hs _ _ p1] at p2; cases p2
theorem RowAll.rest {b t : List Int} {l : List Vl} {k : Nat} (h : udec b = some (l.length, k)) (hd : Dec drow1 (b.drop k) l t) (ht : t ≠ []) : RowAll b none := by
  rintro ⟨l', k', h2, h3⟩
  rw [h] at h2
  simp only [Option.some.injEq, Prod.mk.injEq] at h2
  obtain ⟨h4, rfl⟩ := h2
  obtain ⟨m, rfl, h5⟩ := hd.split rfl h3
  cases h5 with
  | nil => exact ht rfl
  | cons p1 p2 _ => simp at h4
theorem Dec.len {b r : List Int} {l : List Vl} (h : Dec drow1 b l r) : Bt b → b.length ≤ 1000000 → l.length + r.length ≤ b.length := by
  induction h with
  | nil b => intro _ _; simp
  | cons q1 q2 q3 ih =>
    intro hb hl
    obtain ⟨_, g2, g3⟩ := drow1_G hb hl q1
    have := ih g2 (by omega)
    simp only [List.length_cons]; omega
theorem decodeRow_ok {h : Heap} {p : Option (Nat × Nat)} {c : Option Nat} {b : List Int} (hr : Rs h p c 1 eb b) (hb : Bt b) (hl : b.length ≤ 1000000) : WR (callE Tryd.prog hk 35 [.slice p b.length c] h) fun r h' => Ext h h' ∧ ∃ o, RowAll b o ∧ dkR h.length h' o r := by
  refine WR.call (hH := rfl) Tryd.func35 rfl (n := 48) rfl rfl (by simp) ?_
  simp -dsimp (disch := first | with_reducible assumption | omega | (intro h_; cases h_; done) | (simp only [LN] <;> omega) | (simp only [LF]; done) | (repeat (first | with_reducible assumption | apply Ext.refl | apply Ext.app | (apply Ext.set <;> omega) | (refine Ext.trans ?_ (by assumption))))) only [AX, TY, gV, dstOf, p_makeFunc, p_mapUpdate, mapPut, entsOf, p_lookup, p_extract, p_nilCheck, oneV, p_load, p_store, p_binOp, p_unOp, p_indexAddr, p_index, p_box, p_build, evParts, builtinV, load1, ldc, splice, minds, disj, rcOf, isCall, touchV, idsOf, mapId, touchB, p_buildSlice, buildSliceV, reps, fillV, p_convert, p_slice, evO, p_makeSlice, sid_some, soff_some, Nat.reduceLT, Nat.reduceLeDiff, Nat.reduceEqDiff, Nat.reduceAdd, Nat.reduceMul, Int.reduceBEq, Int.reduceEq, Int.reduceNeg, Int.reduceLT, Int.reduceLE, Int.reduceAdd, Int.reduceSub, Int.reduceMul, Int.reduceToNat, Int.reduceGT, Nat.reduceBEq, Nat.reducePow, Nat.reduceGT, reduceCtorEq, ↓reduceIte]
  refine (uint_ok hr.sl hb).mono ?_
  rintro _ _ ⟨rfl, rfl⟩
  cases hu : udec b with
  | none =>
    have hR : uintR none = V.tuple [.int .u64 0, .int .i64 0, .int .i64 12] := rfl
    simp -dsimp (disch := first | with_reducible assumption | omega | (intro h_; cases h_; done) | (simp only [LN] <;> omega) | (simp only [LF]; done) | (repeat (first | with_reducible assumption | apply Ext.refl | apply Ext.app | (apply Ext.set <;> omega) | (refine Ext.trans ?_ (by assumption))))) only [AX, TY, gV, dstOf, p_makeFunc, p_mapUpdate, mapPut, entsOf, p_lookup, p_extract, p_nilCheck, oneV, p_load, p_store, p_binOp, p_unOp, p_indexAddr, p_index, p_box, p_build, evParts, builtinV, load1, ldc, splice, minds, disj, rcOf, isCall, touchV, idsOf, mapId, touchB, p_buildSlice, buildSliceV, reps, fillV, p_convert, p_slice, evO, p_makeSlice, sid_some, soff_some, Nat.reduceLT, Nat.reduceLeDiff, Nat.reduceEqDiff, Nat.reduceAdd, Nat.reduceMul, Int.reduceBEq, Int.reduceEq, Int.reduceNeg, Int.reduceLT, Int.reduceLE, Int.reduceAdd, Int.reduceSub, Int.reduceMul, Int.reduceToNat, Int.reduceGT, Nat.reduceBEq, Nat.reducePow, Nat.reduceGT, reduceCtorEq, ↓reduceIte, hR]
    exact ⟨.refl _, none, RowAll.none_u hu, rfl⟩
  | some q =>
    obtain ⟨n, k⟩ := q
    obtain ⟨u1, u2, u3, u4⟩ := uenc_udec hb hu
    have hR : uintR (some (n, k)) = V.tuple [.int .u64 n, .int .i64 k, .int .i64 0] := rfl
    obtain ⟨p9, c9, hcut9, rs9⟩ := hr.lo (a := k) (by omega)
    have hdl : (b.drop k).length = b.length - k := List.length_drop
    rw [← hdl] at hcut9
    simp -dsimp (disch := first | with_reducible assumption | omega | (intro h_; cases h_; done) | (simp only [LN] <;> omega) | (simp only [LF]; done) | (repeat (first | with_reducible assumption | apply Ext.refl | apply Ext.app | (apply Ext.set <;> omega) | (refine Ext.trans ?_ (by assumption))))) only [AX, TY, gV, dstOf, p_makeFunc, p_mapUpdate, mapPut, entsOf, p_lookup, p_extract, p_nilCheck, oneV, p_load, p_store, p_binOp, p_unOp, p_indexAddr, p_index, p_box, p_build, evParts, builtinV, load1, ldc, splice, minds, disj, rcOf, isCall, touchV, idsOf, mapId, touchB, p_buildSlice, buildSliceV, reps, fillV, p_convert, p_slice, evO, p_makeSlice, sid_some, soff_some, Nat.reduceLT, Nat.reduceLeDiff, Nat.reduceEqDiff, Nat.reduceAdd, Nat.reduceMul, Int.reduceBEq, Int.reduceEq, Int.reduceNeg, Int.reduceLT, Int.reduceLE, Int.reduceAdd, Int.reduceSub, Int.reduceMul, Int.reduceToNat, Int.reduceGT, Nat.reduceBEq, Nat.reducePow, Nat.reduceGT, reduceCtorEq, ↓reduceIte, hR, hcut9]
    refine W.loop (fun m τ hh => ∃ p c t l, l.length + m = n ∧ τ 4 = .int .u64 (m : Nat) ∧ LDK drow1 h h (b.drop k) (τ 0) (τ 7) hh p c t l) ?_ (m := n) ?_
    rotate_left
    · exact ⟨p9, c9, b.drop k, [], by simp, rfl, by simp, rfl, rs9, hb.drop k, .nil _, rfl, by simp, App.of (Gr.nil _ _ _ _)⟩
    rintro m τ hh ⟨p, c, t, l, hm, t4, hlen, t0, hr, hbt, hdec, hval, hg, ha0⟩
    have eh : Ext h hh := ha0.ext (.refl _) (by simp)
    by_cases h1 : (0 : Int) < (m : Int)
    rotate_left
    · have hn : n = l.length := by omega
      obtain ⟨p', c', oid', t7, gr, ho, hle, hk⟩ := ha0
      cases t with
      | nil =>
        simp -dsimp (disch := first | with_reducible assumption | omega | (intro h_; cases h_; done) | (simp only [LN] <;> omega) | (simp only [LF]; done) | (repeat (first | with_reducible assumption | apply Ext.refl | apply Ext.app | (apply Ext.set <;> omega) | (refine Ext.trans ?_ (by assumption))))) only [AX, TY, gV, dstOf, p_makeFunc, p_mapUpdate, mapPut, entsOf, p_lookup, p_extract, p_nilCheck, oneV, p_load, p_store, p_binOp, p_unOp, p_indexAddr, p_index, p_box, p_build, evParts, builtinV, load1, ldc, splice, minds, disj, rcOf, isCall, touchV, idsOf, mapId, touchB, p_buildSlice, buildSliceV, reps, fillV, p_convert, p_slice, evO, p_makeSlice, sid_some, soff_some, Nat.reduceLT, Nat.reduceLeDiff, Nat.reduceEqDiff, Nat.reduceAdd, Nat.reduceMul, Int.reduceBEq, Int.reduceEq, Int.reduceNeg, Int.reduceLT, Int.reduceLE, Int.reduceAdd, Int.reduceSub, Int.reduceMul, Int.reduceToNat, Int.reduceGT, Nat.reduceBEq, Nat.reducePow, Nat.reduceGT, reduceCtorEq, ↓reduceIte, t0, t4, t7, h1]
        exact ⟨eh, some l, ⟨k, by rw [hu, hn], hdec⟩, p', c', oid', rfl, gr, hval, hg⟩
      | cons x t =>
        have h2 : (0 : Int) < ((x :: t).length : Int) := by simp only [List.length_cons]; omega
        generalize (x :: t).length = n2 at t0 h2
        simp -dsimp (disch := first | with_reducible assumption | omega | (intro h_; cases h_; done) | (simp only [LN] <;> omega) | (simp only [LF]; done) | (repeat (first | with_reducible assumption | apply Ext.refl | apply Ext.app | (apply Ext.set <;> omega) | (refine Ext.trans ?_ (by assumption))))) only [AX, TY, gV, dstOf, p_makeFunc, p_mapUpdate, mapPut, entsOf, p_lookup, p_extract, p_nilCheck, oneV, p_load, p_store, p_binOp, p_unOp, p_indexAddr, p_index, p_box, p_build, evParts, builtinV, load1, ldc, splice, minds, disj, rcOf, isCall, touchV, idsOf, mapId, touchB, p_buildSlice, buildSliceV, reps, fillV, p_convert, p_slice, evO, p_makeSlice, sid_some, soff_some, Nat.reduceLT, Nat.reduceLeDiff, Nat.reduceEqDiff, Nat.reduceAdd, Nat.reduceMul, Int.reduceBEq, Int.reduceEq, Int.reduceNeg, Int.reduceLT, Int.reduceLE, Int.reduceAdd, Int.reduceSub, Int.reduceMul, Int.reduceToNat, Int.reduceGT, Nat.reduceBEq, Nat.reducePow, Nat.reduceGT, reduceCtorEq, ↓reduceIte, t0, t4, t7, h1, h2]
        exact ⟨eh, none, RowAll.rest (by rw [hu, hn]) hdec (by simp), rfl⟩
    have hkv := rowValue_ok hr eh hbt (by omega)
    simp -dsimp (disch := first | with_reducible assumption | omega | (intro h_; cases h_; done) | (simp only [LN] <;> omega) | (simp only [LF]; done) | (repeat (first | with_reducible assumption | apply Ext.refl | apply Ext.app | (apply Ext.set <;> omega) | (refine Ext.trans ?_ (by assumption))))) only [AX, TY, gV, dstOf, p_makeFunc, p_mapUpdate, mapPut, entsOf, p_lookup, p_extract, p_nilCheck, oneV, p_load, p_store, p_binOp, p_unOp, p_indexAddr, p_index, p_box, p_build, evParts, builtinV, load1, ldc, splice, minds, disj, rcOf, isCall, touchV, idsOf, mapId, touchB, p_buildSlice, buildSliceV, reps, fillV, p_convert, p_slice, evO, p_makeSlice, sid_some, soff_some, Nat.reduceLT, Nat.reduceLeDiff, Nat.reduceEqDiff, Nat.reduceAdd, Nat.reduceMul, Int.reduceBEq, Int.reduceEq, Int.reduceNeg, Int.reduceLT, Int.reduceLE, Int.reduceAdd, Int.reduceSub, Int.reduceMul, Int.reduceToNat, Int.reduceGT, Nat.reduceBEq, Nat.reducePow, Nat.reduceGT, reduceCtorEq, ↓reduceIte, t0, t4, h1]
    refine hkv.mono ?_
    rintro r2 h2 ⟨e2, hkr⟩
    have hw : IntKind.u64.wrap ((m : Int) - 1) = ((m - 1 : Nat) : Int) := by rw [w_u64]; omega
    cases hd : drow1 t with
    | none =>
      rw [hd] at hkr
      obtain ⟨v, p2, n2, c2, rfl⟩ := hkr
      simp -dsimp (disch := first | with_reducible assumption | omega | (intro h_; cases h_; done) | (simp only [LN] <;> omega) | (simp only [LF]; done) | (repeat (first | with_reducible assumption | apply Ext.refl | apply Ext.app | (apply Ext.set <;> omega) | (refine Ext.trans ?_ (by assumption))))) only [AX, TY, gV, dstOf, p_makeFunc, p_mapUpdate, mapPut, entsOf, p_lookup, p_extract, p_nilCheck, oneV, p_load, p_store, p_binOp, p_unOp, p_indexAddr, p_index, p_box, p_build, evParts, builtinV, load1, ldc, splice, minds, disj, rcOf, isCall, touchV, idsOf, mapId, touchB, p_buildSlice, buildSliceV, reps, fillV, p_convert, p_slice, evO, p_makeSlice, sid_some, soff_some, Nat.reduceLT, Nat.reduceLeDiff, Nat.reduceEqDiff, Nat.reduceAdd, Nat.reduceMul, Int.reduceBEq, Int.reduceEq, Int.reduceNeg, Int.reduceLT, Int.reduceLE, Int.reduceAdd, Int.reduceSub, Int.reduceMul, Int.reduceToNat, Int.reduceGT, Nat.reduceBEq, Nat.reducePow, Nat.reduceGT, reduceCtorEq, ↓reduceIte, t0, t4, Vl.enc]
      exact ⟨(eh.trans e2).app _, none, RowAll.stuck hu hdec (by omega) (by intro v t q; rw [hd] at q; cases q), rfl⟩
    | some q =>
      obtain ⟨v, t2⟩ := q
      rw [hd] at hkr
      obtain ⟨p2, c2, rfl, rs2⟩ := hkr
      obtain ⟨hvG, hbt2, hlt2⟩ := drow1_G hbt (by omega) hd
      have gx : (h2 ++ [O.cells v.enc Kd.rw])[h2.length]? = some (.cells v.enc .rw) := snoc_last _ rfl
      have ex : Ext h2 (h2 ++ [O.cells v.enc Kd.rw]) := (by (repeat (first | assumption | apply Ext.refl | apply Ext.app | (apply Ext.set <;> omega) | exact Ext.trans (by assumption) (by assumption) | (refine Ext.trans ?_ (by assumption)))))
      simp only [Vl.enc] at gx ex
      simp -dsimp (disch := first | with_reducible assumption | omega | (intro h_; cases h_; done) | (simp only [LN] <;> omega) | (simp only [LF]; done) | (repeat (first | with_reducible assumption | apply Ext.refl | apply Ext.app | (apply Ext.set <;> omega) | (refine Ext.trans ?_ (by assumption))))) only [AX, TY, gV, dstOf, p_makeFunc, p_mapUpdate, mapPut, entsOf, p_lookup, p_extract, p_nilCheck, oneV, p_load, p_store, p_binOp, p_unOp, p_indexAddr, p_index, p_box, p_build, evParts, builtinV, load1, ldc, splice, minds, disj, rcOf, isCall, touchV, idsOf, mapId, touchB, p_buildSlice, buildSliceV, reps, fillV, p_convert, p_slice, evO, p_makeSlice, sid_some, soff_some, Nat.reduceLT, Nat.reduceLeDiff, Nat.reduceEqDiff, Nat.reduceAdd, Nat.reduceMul, Int.reduceBEq, Int.reduceEq, Int.reduceNeg, Int.reduceLT, Int.reduceLE, Int.reduceAdd, Int.reduceSub, Int.reduceMul, Int.reduceToNat, Int.reduceGT, Nat.reduceBEq, Nat.reducePow, Nat.reduceGT, reduceCtorEq, ↓reduceIte, t0, t4, Vl.enc]
      generalize h2 ++ [O.cells [V.int .i64 v.kind, V.int .i64 v.int, V.str v.text] Kd.rw] = h3 at gx ex
      refine (valid_ok v).mono ?_
      rintro _ h4 ⟨e4, rfl⟩
      have gx4 := e4 _ _ gx
      have e04 := (eh.trans e2).trans (ex.trans e4)
      cases hv : validV v
      · simp -dsimp (disch := first | with_reducible assumption | omega | (intro h_; cases h_; done) | (simp only [LN] <;> omega) | (simp only [LF]; done) | (repeat (first | with_reducible assumption | apply Ext.refl | apply Ext.app | (apply Ext.set <;> omega) | (refine Ext.trans ?_ (by assumption))))) only [AX, TY, gV, dstOf, p_makeFunc, p_mapUpdate, mapPut, entsOf, p_lookup, p_extract, p_nilCheck, oneV, p_load, p_store, p_binOp, p_unOp, p_indexAddr, p_index, p_box, p_build, evParts, builtinV, load1, ldc, splice, minds, disj, rcOf, isCall, touchV, idsOf, mapId, touchB, p_buildSlice, buildSliceV, reps, fillV, p_convert, p_slice, evO, p_makeSlice, sid_some, soff_some, Nat.reduceLT, Nat.reduceLeDiff, Nat.reduceEqDiff, Nat.reduceAdd, Nat.reduceMul, Int.reduceBEq, Int.reduceEq, Int.reduceNeg, Int.reduceLT, Int.reduceLE, Int.reduceAdd, Int.reduceSub, Int.reduceMul, Int.reduceToNat, Int.reduceGT, Nat.reduceBEq, Nat.reducePow, Nat.reduceGT, reduceCtorEq, ↓reduceIte, t0, t4]
        exact ⟨e04, none, RowAll.stuck hu hdec (by omega) (by intro v' t' q; rw [hd] at q; cases q; exact hv), rfl⟩
      · obtain ⟨p', c', oid', t7, gr, ho, hle, hk⟩ := ha0
        have eh4 := e2.trans (ex.trans e4)
        have gr4 := gr.ext eh4
        have hle4 := eh4.le
        simp -dsimp (disch := first | with_reducible assumption | omega | (intro h_; cases h_; done) | (simp only [LN] <;> omega) | (simp only [LF]; done) | (repeat (first | with_reducible assumption | apply Ext.refl | apply Ext.app | (apply Ext.set <;> omega) | (refine Ext.trans ?_ (by assumption))))) only [AX, TY, gV, dstOf, p_makeFunc, p_mapUpdate, mapPut, entsOf, p_lookup, p_extract, p_nilCheck, oneV, p_load, p_store, p_binOp, p_unOp, p_indexAddr, p_index, p_box, p_build, evParts, builtinV, load1, ldc, splice, minds, disj, rcOf, isCall, touchV, idsOf, mapId, touchB, p_buildSlice, buildSliceV, reps, fillV, p_convert, p_slice, evO, p_makeSlice, sid_some, soff_some, Nat.reduceLT, Nat.reduceLeDiff, Nat.reduceEqDiff, Nat.reduceAdd, Nat.reduceMul, Int.reduceBEq, Int.reduceEq, Int.reduceNeg, Int.reduceLT, Int.reduceLE, Int.reduceAdd, Int.reduceSub, Int.reduceMul, Int.reduceToNat, Int.reduceGT, Nat.reduceBEq, Nat.reducePow, Nat.reduceGT, reduceCtorEq, ↓reduceIte, t0, t4, t7, loadN_fact gx4]
        refine (gr4.wrB (by omega) (hh := h4 ++ [O.cells v.enc Kd.rw]) (q := h4.length) (n := 1) (vc := some 1) (bytes := 32) (by (repeat (first | assumption | apply Ext.refl | apply Ext.app | (apply Ext.set <;> omega) | exact Ext.trans (by assumption) (by assumption) | (refine Ext.trans ?_ (by assumption))))) [v] (snoc_last _ rfl) rfl (vl_w _) (vl_l _) (by simp only [List.length_cons, List.length_nil]; omega) (by simp only [List.length_cons, List.length_nil]; omega)).mono ?_
        intro r5 h5 ha5
        have ha5' := App.trans ho hle hk (App.base eh4 ha5)
        simp -dsimp (disch := first | with_reducible assumption | omega | (intro h_; cases h_; done) | (simp only [LN] <;> omega) | (simp only [LF]; done) | (repeat (first | with_reducible assumption | apply Ext.refl | apply Ext.app | (apply Ext.set <;> omega) | (refine Ext.trans ?_ (by assumption))))) only [AX, TY, gV, dstOf, p_makeFunc, p_mapUpdate, mapPut, entsOf, p_lookup, p_extract, p_nilCheck, oneV, p_load, p_store, p_binOp, p_unOp, p_indexAddr, p_index, p_box, p_build, evParts, builtinV, load1, ldc, splice, minds, disj, rcOf, isCall, touchV, idsOf, mapId, touchB, p_buildSlice, buildSliceV, reps, fillV, p_convert, p_slice, evO, p_makeSlice, sid_some, soff_some, Nat.reduceLT, Nat.reduceLeDiff, Nat.reduceEqDiff, Nat.reduceAdd, Nat.reduceMul, Int.reduceBEq, Int.reduceEq, Int.reduceNeg, Int.reduceLT, Int.reduceLE, Int.reduceAdd, Int.reduceSub, Int.reduceMul, Int.reduceToNat, Int.reduceGT, Nat.reduceBEq, Nat.reducePow, Nat.reduceGT, reduceCtorEq, ↓reduceIte, t0, t4, t7, hw]
        refine ⟨m - 1, by omega, p2, c2, t2, l ++ [v], by simp only [List.length_append, List.length_cons, List.length_nil]; omega, rfl, ?_, rfl, rs2, hbt2, hdec.snoc hd hv, ?_, snoc_G hg hvG, ha5'⟩
        · simp only [List.length_append, List.length_cons, List.length_nil]; omega
        · rw [List.all_append, hval]; simp [hv]
end Go.Proofs.YtngcicclaehpbaaDoorA
namespace Go.Proofs.YtngcicclaehpbaaDoorA
open Go Go.Proofs Go.RowKit
set_option linter.unusedVariables false
set_option linter.unusedSimpArgs false
set_option maxRecDepth 10000
set_option maxHeartbeats 4000000
def rvR (n : Nat) (o : Option (Vl × List Int)) : V := match o with
  | some (v, t) => if validV v then V.tuple [.agg v.enc, .int .i64 ((n - t.length : Nat) : Int)] else V.tuple [.agg (Vl.enc ⟨0, 0, []⟩), .int .i64 (-1)]
  | none => V.tuple [.agg (Vl.enc ⟨0, 0, []⟩), .int .i64 (-1)]
theorem zz_cast {n : Nat} (h : n < 18446744073709551616) (h2 : n % 2 = 1) : IntKind.i64.wrap (IntKind.i64.wrap (-IntKind.i64.wrap ((n / 2 : Nat) : Int)) - 1) = unzz n := by
  rw [IntKind.wrap_i64, IntKind.wrap_i64, IntKind.wrap_i64, unzz, if_neg (by omega)]; omega
theorem dropc {t : List Int} {n k : Nat} (h : k ≤ t.length) (hn : n = t.length + 1) : 1 + (k : Int) = ((n - (t.drop k).length : Nat) : Int) := by rw [List.length_drop]; omega
theorem refValue_ok {h : Heap} {p : Option (Nat × Nat)} {c : Option Nat} {b : List Int} (hr : Rs h p c 1 eb b) (hb : Bt b) (hl : b.length ≤ 1000000) : WR (callE Tryd.prog hk 50 [.slice p b.length c] h) fun r h' => Ext h h' ∧ r = rvR b.length (drow1 b) := by
  match b, hr, hb, hl with
  | [], hr, hb, hl =>
    refine WR.call (hH := rfl) Tryd.func50 rfl (n := 78) rfl rfl (by simp) ?_
    simp -dsimp (disch := first | with_reducible assumption | omega | (intro h_; cases h_; done) | (simp only [LN] <;> omega) | (simp only [LF]; done) | (repeat (first | with_reducible assumption | apply Ext.refl | apply Ext.app | (apply Ext.set <;> omega) | (refine Ext.trans ?_ (by assumption))))) only [AX, TY, gV, dstOf, p_makeFunc, p_mapUpdate, mapPut, entsOf, p_lookup, p_extract, p_nilCheck, oneV, p_load, p_store, p_binOp, p_unOp, p_indexAddr, p_index, p_box, p_build, evParts, builtinV, load1, ldc, splice, minds, disj, rcOf, isCall, touchV, idsOf, mapId, touchB, p_buildSlice, buildSliceV, reps, fillV, p_convert, p_slice, evO, p_makeSlice, sid_some, soff_some, Nat.reduceLT, Nat.reduceLeDiff, Nat.reduceEqDiff, Nat.reduceAdd, Nat.reduceMul, Int.reduceBEq, Int.reduceEq, Int.reduceNeg, Int.reduceLT, Int.reduceLE, Int.reduceAdd, Int.reduceSub, Int.reduceMul, Int.reduceToNat, Int.reduceGT, Nat.reduceBEq, Nat.reducePow, Nat.reduceGT, reduceCtorEq, ↓reduceIte]
    exact ⟨(by (repeat (first | assumption | apply Ext.refl | apply Ext.app | (apply Ext.set <;> omega) | exact Ext.trans (by assumption) (by assumption) | (refine Ext.trans ?_ (by assumption))))), rfl⟩
  | x :: t, hr, hb, hl =>
    have hx := hb.head
    have ht := hb.tail
    have hnp := hr.sl.nil'
    have hld0 := fun hh (e : Ext h hh) => hr.sl.load0 (hh := hh) e (i := 0) (m := 1) (by simp) (Nat.le_refl 1)
    simp only [eb, List.getElem_cons_zero, Nat.zero_mul, Nat.add_zero] at hld0
    obtain ⟨p6, c6, hcut, rs6⟩ := hr.lo (a := 1) (by simp)
    have hn1 : (x :: t).length - 1 = t.length := rfl
    rw [hn1] at hcut
    simp only [Int.natCast_one] at hcut
    simp only [List.drop_succ_cons, List.drop_zero] at rs6
    have h0 : (0 : Int) < ((x :: t).length : Int) := by simp only [List.length_cons]; omega
    have h00 : ¬ ((x :: t).length : Int) = 0 := by simp only [List.length_cons]; omega
    have hlt' : (x :: t).length = t.length + 1 := rfl
    have hl' : t.length ≤ 1000000 := by simp only [List.length_cons] at hl; omega
    have hwx : IntKind.i64.wrap x = x := by rw [IntKind.wrap_i64]; omega
    refine WR.call (hH := rfl) Tryd.func50 rfl (n := 78) rfl rfl (by simp) ?_
    generalize hlt : (x :: t).length = n at *
    have ex : Ext h (h ++ [O.cells [V.int .i64 0, V.int .i64 0, V.str []] Kd.rw] ++ [O.cells [V.int .i64 x, V.int .i64 0, V.str []] Kd.rw]) := (by (repeat (first | assumption | apply Ext.refl | apply Ext.app | (apply Ext.set <;> omega) | exact Ext.trans (by assumption) (by assumption) | (refine Ext.trans ?_ (by assumption)))))
    have e3g : ∀ v : Vl, Ext h (h ++ [O.cells [V.int .i64 0, V.int .i64 0, V.str []] Kd.rw] ++ [O.cells [V.int .i64 v.kind, V.int .i64 v.int, V.str v.text] Kd.rw]) := fun v => (by (repeat (first | assumption | apply Ext.refl | apply Ext.app | (apply Ext.set <;> omega) | exact Ext.trans (by assumption) (by assumption) | (refine Ext.trans ?_ (by assumption)))))
    have gx3g : ∀ v : Vl, (h ++ [O.cells [V.int .i64 0, V.int .i64 0, V.str []] Kd.rw] ++ [O.cells [V.int .i64 v.kind, V.int .i64 v.int, V.str v.text] Kd.rw])[h.length + 1]? = some (.cells [V.int .i64 v.kind, V.int .i64 v.int, V.str v.text] .rw) := fun v => snoc_last _ (by simp)
    have gy3g : ∀ v : Vl, (h ++ [O.cells [V.int .i64 0, V.int .i64 0, V.str []] Kd.rw] ++ [O.cells [V.int .i64 v.kind, V.int .i64 v.int, V.str v.text] Kd.rw])[h.length]? = some (.cells [V.int .i64 0, V.int .i64 0, V.str []] .rw) := fun v => by rw [snoc_old _ (by simp)]; exact snoc_last _ rfl
    by_cases g1 : x = 0
    · subst g1
      have hd0 : drow1 (0 :: t) = (udec t).map fun q => (⟨0, unzz q.1, []⟩, t.drop q.2) := rfl
      simp -dsimp (disch := first | with_reducible assumption | omega | (intro h_; cases h_; done) | (simp only [LN] <;> omega) | (simp only [LF]; done) | (repeat (first | with_reducible assumption | apply Ext.refl | apply Ext.app | (apply Ext.set <;> omega) | (refine Ext.trans ?_ (by assumption))))) only [AX, TY, gV, dstOf, p_makeFunc, p_mapUpdate, mapPut, entsOf, p_lookup, p_extract, p_nilCheck, oneV, p_load, p_store, p_binOp, p_unOp, p_indexAddr, p_index, p_box, p_build, evParts, builtinV, load1, ldc, splice, minds, disj, rcOf, isCall, touchV, idsOf, mapId, touchB, p_buildSlice, buildSliceV, reps, fillV, p_convert, p_slice, evO, p_makeSlice, sid_some, soff_some, Nat.reduceLT, Nat.reduceLeDiff, Nat.reduceEqDiff, Nat.reduceAdd, Nat.reduceMul, Int.reduceBEq, Int.reduceEq, Int.reduceNeg, Int.reduceLT, Int.reduceLE, Int.reduceAdd, Int.reduceSub, Int.reduceMul, Int.reduceToNat, Int.reduceGT, Nat.reduceBEq, Nat.reducePow, Nat.reduceGT, reduceCtorEq, ↓reduceIte, hld0, hcut, h0, h00, hwx]
      refine (refUint_ok (rs6.sl.ext ex) ht).mono ?_
      rintro _ _ ⟨rfl, rfl⟩
      cases hu : udec t with
      | none =>
        have hR : uintR2 none = V.tuple [.int .u64 0, .int .i64 (-1)] := rfl
        rw [hd0, hu]
        simp -dsimp (disch := first | with_reducible assumption | omega | (intro h_; cases h_; done) | (simp only [LN] <;> omega) | (simp only [LF]; done) | (repeat (first | with_reducible assumption | apply Ext.refl | apply Ext.app | (apply Ext.set <;> omega) | (refine Ext.trans ?_ (by assumption))))) only [AX, TY, gV, dstOf, p_makeFunc, p_mapUpdate, mapPut, entsOf, p_lookup, p_extract, p_nilCheck, oneV, p_load, p_store, p_binOp, p_unOp, p_indexAddr, p_index, p_box, p_build, evParts, builtinV, load1, ldc, splice, minds, disj, rcOf, isCall, touchV, idsOf, mapId, touchB, p_buildSlice, buildSliceV, reps, fillV, p_convert, p_slice, evO, p_makeSlice, sid_some, soff_some, Nat.reduceLT, Nat.reduceLeDiff, Nat.reduceEqDiff, Nat.reduceAdd, Nat.reduceMul, Int.reduceBEq, Int.reduceEq, Int.reduceNeg, Int.reduceLT, Int.reduceLE, Int.reduceAdd, Int.reduceSub, Int.reduceMul, Int.reduceToNat, Int.reduceGT, Nat.reduceBEq, Nat.reducePow, Nat.reduceGT, reduceCtorEq, ↓reduceIte, hR]
        exact ⟨(by (repeat (first | assumption | apply Ext.refl | apply Ext.app | (apply Ext.set <;> omega) | exact Ext.trans (by assumption) (by assumption) | (refine Ext.trans ?_ (by assumption))))), rfl⟩
      | some q =>
        obtain ⟨n', k⟩ := q
        obtain ⟨u1, u2, u3, u4⟩ := uenc_udec ht hu
        have hR : uintR2 (some (n', k)) = V.tuple [.int .u64 (n' : Int), .int .i64 (k : Int)] := rfl
        have hk0 : ¬ (k : Int) < 0 := by omega
        have hw9 : IntKind.i64.wrap (1 + (k : Int)) = 1 + (k : Int) := by rw [IntKind.wrap_i64]; omega
        have e3 := e3g ⟨0, unzz n', []⟩
        have gx3 := gx3g ⟨0, unzz n', []⟩
        have gy3 := gy3g ⟨0, unzz n', []⟩
        simp only at e3 gx3 gy3
        rw [hd0, hu, Option.map_some]
        by_cases hodd : ((n' % 2 : Nat) : Int) = 1
        · have hz := zz_cast u4 (by omega)
          simp -dsimp (disch := first | with_reducible assumption | omega | (intro h_; cases h_; done) | (simp only [LN] <;> omega) | (simp only [LF]; done) | (repeat (first | with_reducible assumption | apply Ext.refl | apply Ext.app | (apply Ext.set <;> omega) | (refine Ext.trans ?_ (by assumption))))) only [AX, TY, gV, dstOf, p_makeFunc, p_mapUpdate, mapPut, entsOf, p_lookup, p_extract, p_nilCheck, oneV, p_load, p_store, p_binOp, p_unOp, p_indexAddr, p_index, p_box, p_build, evParts, builtinV, load1, ldc, splice, minds, disj, rcOf, isCall, touchV, idsOf, mapId, touchB, p_buildSlice, buildSliceV, reps, fillV, p_convert, p_slice, evO, p_makeSlice, sid_some, soff_some, Nat.reduceLT, Nat.reduceLeDiff, Nat.reduceEqDiff, Nat.reduceAdd, Nat.reduceMul, Int.reduceBEq, Int.reduceEq, Int.reduceNeg, Int.reduceLT, Int.reduceLE, Int.reduceAdd, Int.reduceSub, Int.reduceMul, Int.reduceToNat, Int.reduceGT, Nat.reduceBEq, Nat.reducePow, Nat.reduceGT, reduceCtorEq, ↓reduceIte, hR, hk0, shr1_u64, and1_u64 u4, eq_true hodd, neg_i64, hz]
          skip
          have e03 := e3
          refine (refValid_ok ⟨0, unzz n', []⟩).mono ?_
          rintro _ h4 ⟨e4, rfl⟩
          have gx4 := e4 _ _ gx3
          have gy4 := e4 _ _ gy3
          have hlt4 := lt_of_some gy4
          have e04 := e03.trans e4
          have hst := fun a b c => storeN_of (off := 0) (vs := [V.int .i64 a, V.int .i64 b, V.str c]) gy4 (by simp) (by simp) rfl
          cases hv : validV ⟨0, unzz n', []⟩
          · simp -dsimp (disch := first | with_reducible assumption | omega | (intro h_; cases h_; done) | (simp only [LN] <;> omega) | (simp only [LF]; done) | (repeat (first | with_reducible assumption | apply Ext.refl | apply Ext.app | (apply Ext.set <;> omega) | (refine Ext.trans ?_ (by assumption))))) only [AX, TY, gV, dstOf, p_makeFunc, p_mapUpdate, mapPut, entsOf, p_lookup, p_extract, p_nilCheck, oneV, p_load, p_store, p_binOp, p_unOp, p_indexAddr, p_index, p_box, p_build, evParts, builtinV, load1, ldc, splice, minds, disj, rcOf, isCall, touchV, idsOf, mapId, touchB, p_buildSlice, buildSliceV, reps, fillV, p_convert, p_slice, evO, p_makeSlice, sid_some, soff_some, Nat.reduceLT, Nat.reduceLeDiff, Nat.reduceEqDiff, Nat.reduceAdd, Nat.reduceMul, Int.reduceBEq, Int.reduceEq, Int.reduceNeg, Int.reduceLT, Int.reduceLE, Int.reduceAdd, Int.reduceSub, Int.reduceMul, Int.reduceToNat, Int.reduceGT, Nat.reduceBEq, Nat.reducePow, Nat.reduceGT, reduceCtorEq, ↓reduceIte, hst]
            refine ⟨Ext.set e04 (Nat.le_refl _) _, ?_⟩
            simp only [rvR, hv]; rfl
          · simp -dsimp (disch := first | with_reducible assumption | omega | (intro h_; cases h_; done) | (simp only [LN] <;> omega) | (simp only [LF]; done) | (repeat (first | with_reducible assumption | apply Ext.refl | apply Ext.app | (apply Ext.set <;> omega) | (refine Ext.trans ?_ (by assumption))))) only [AX, TY, gV, dstOf, p_makeFunc, p_mapUpdate, mapPut, entsOf, p_lookup, p_extract, p_nilCheck, oneV, p_load, p_store, p_binOp, p_unOp, p_indexAddr, p_index, p_box, p_build, evParts, builtinV, load1, ldc, splice, minds, disj, rcOf, isCall, touchV, idsOf, mapId, touchB, p_buildSlice, buildSliceV, reps, fillV, p_convert, p_slice, evO, p_makeSlice, sid_some, soff_some, Nat.reduceLT, Nat.reduceLeDiff, Nat.reduceEqDiff, Nat.reduceAdd, Nat.reduceMul, Int.reduceBEq, Int.reduceEq, Int.reduceNeg, Int.reduceLT, Int.reduceLE, Int.reduceAdd, Int.reduceSub, Int.reduceMul, Int.reduceToNat, Int.reduceGT, Nat.reduceBEq, Nat.reducePow, Nat.reduceGT, reduceCtorEq, ↓reduceIte, loadN_fact gx4, hst, hw9]
            refine ⟨Ext.set e04 (Nat.le_refl _) _, ?_⟩
            simp only [rvR, hv, if_true]
            congr 4
            all_goals first | omega | exact dropc (by omega) (by omega)
        · have hz : IntKind.i64.wrap ((n' / 2 : Nat) : Int) = unzz n' := by rw [IntKind.wrap_i64, unzz, if_pos (by omega)]; omega
          simp -dsimp (disch := first | with_reducible assumption | omega | (intro h_; cases h_; done) | (simp only [LN] <;> omega) | (simp only [LF]; done) | (repeat (first | with_reducible assumption | apply Ext.refl | apply Ext.app | (apply Ext.set <;> omega) | (refine Ext.trans ?_ (by assumption))))) only [AX, TY, gV, dstOf, p_makeFunc, p_mapUpdate, mapPut, entsOf, p_lookup, p_extract, p_nilCheck, oneV, p_load, p_store, p_binOp, p_unOp, p_indexAddr, p_index, p_box, p_build, evParts, builtinV, load1, ldc, splice, minds, disj, rcOf, isCall, touchV, idsOf, mapId, touchB, p_buildSlice, buildSliceV, reps, fillV, p_convert, p_slice, evO, p_makeSlice, sid_some, soff_some, Nat.reduceLT, Nat.reduceLeDiff, Nat.reduceEqDiff, Nat.reduceAdd, Nat.reduceMul, Int.reduceBEq, Int.reduceEq, Int.reduceNeg, Int.reduceLT, Int.reduceLE, Int.reduceAdd, Int.reduceSub, Int.reduceMul, Int.reduceToNat, Int.reduceGT, Nat.reduceBEq, Nat.reducePow, Nat.reduceGT, reduceCtorEq, ↓reduceIte, hR, hk0, shr1_u64, and1_u64 u4, hodd, hz]
          skip
          have e03 := e3
          refine (refValid_ok ⟨0, unzz n', []⟩).mono ?_
          rintro _ h4 ⟨e4, rfl⟩
          have gx4 := e4 _ _ gx3
          have gy4 := e4 _ _ gy3
          have hlt4 := lt_of_some gy4
          have e04 := e03.trans e4
          have hst := fun a b c => storeN_of (off := 0) (vs := [V.int .i64 a, V.int .i64 b, V.str c]) gy4 (by simp) (by simp) rfl
          cases hv : validV ⟨0, unzz n', []⟩
          · simp -dsimp (disch := first | with_reducible assumption | omega | (intro h_; cases h_; done) | (simp only [LN] <;> omega) | (simp only [LF]; done) | (repeat (first | with_reducible assumption | apply Ext.refl | apply Ext.app | (apply Ext.set <;> omega) | (refine Ext.trans ?_ (by assumption))))) only [AX, TY, gV, dstOf, p_makeFunc, p_mapUpdate, mapPut, entsOf, p_lookup, p_extract, p_nilCheck, oneV, p_load, p_store, p_binOp, p_unOp, p_indexAddr, p_index, p_box, p_build, evParts, builtinV, load1, ldc, splice, minds, disj, rcOf, isCall, touchV, idsOf, mapId, touchB, p_buildSlice, buildSliceV, reps, fillV, p_convert, p_slice, evO, p_makeSlice, sid_some, soff_some, Nat.reduceLT, Nat.reduceLeDiff, Nat.reduceEqDiff, Nat.reduceAdd, Nat.reduceMul, Int.reduceBEq, Int.reduceEq, Int.reduceNeg, Int.reduceLT, Int.reduceLE, Int.reduceAdd, Int.reduceSub, Int.reduceMul, Int.reduceToNat, Int.reduceGT, Nat.reduceBEq, Nat.reducePow, Nat.reduceGT, reduceCtorEq, ↓reduceIte, hst]
            refine ⟨Ext.set e04 (Nat.le_refl _) _, ?_⟩
            simp only [rvR, hv]; rfl
          · simp -dsimp (disch := first | with_reducible assumption | omega | (intro h_; cases h_; done) | (simp only [LN] <;> omega) | (simp only [LF]; done) | (repeat (first | with_reducible assumption | apply Ext.refl | apply Ext.app | (apply Ext.set <;> omega) | (refine Ext.trans ?_ (by assumption))))) only [AX, TY, gV, dstOf, p_makeFunc, p_mapUpdate, mapPut, entsOf, p_lookup, p_extract, p_nilCheck, oneV, p_load, p_store, p_binOp, p_unOp, p_indexAddr, p_index, p_box, p_build, evParts, builtinV, load1, ldc, splice, minds, disj, rcOf, isCall, touchV, idsOf, mapId, touchB, p_buildSlice, buildSliceV, reps, fillV, p_convert, p_slice, evO, p_makeSlice, sid_some, soff_some, Nat.reduceLT, Nat.reduceLeDiff, Nat.reduceEqDiff, Nat.reduceAdd, Nat.reduceMul, Int.reduceBEq, Int.reduceEq, Int.reduceNeg, Int.reduceLT, Int.reduceLE, Int.reduceAdd, Int.reduceSub, Int.reduceMul, Int.reduceToNat, Int.reduceGT, Nat.reduceBEq, Nat.reducePow, Nat.reduceGT, reduceCtorEq, ↓reduceIte, loadN_fact gx4, hst, hw9]
            refine ⟨Ext.set e04 (Nat.le_refl _) _, ?_⟩
            simp only [rvR, hv, if_true]
            congr 4
            all_goals first | omega | exact dropc (by omega) (by omega)
    by_cases g2 : x = 1
    · subst g2
      have hd0 : drow1 (1 :: t) = (str1 t).map fun q => (⟨1, 0, q.1⟩, t.drop q.2) := rfl
      simp -dsimp (disch := first | with_reducible assumption | omega | (intro h_; cases h_; done) | (simp only [LN] <;> omega) | (simp only [LF]; done) | (repeat (first | with_reducible assumption | apply Ext.refl | apply Ext.app | (apply Ext.set <;> omega) | (refine Ext.trans ?_ (by assumption))))) only [AX, TY, gV, dstOf, p_makeFunc, p_mapUpdate, mapPut, entsOf, p_lookup, p_extract, p_nilCheck, oneV, p_load, p_store, p_binOp, p_unOp, p_indexAddr, p_index, p_box, p_build, evParts, builtinV, load1, ldc, splice, minds, disj, rcOf, isCall, touchV, idsOf, mapId, touchB, p_buildSlice, buildSliceV, reps, fillV, p_convert, p_slice, evO, p_makeSlice, sid_some, soff_some, Nat.reduceLT, Nat.reduceLeDiff, Nat.reduceEqDiff, Nat.reduceAdd, Nat.reduceMul, Int.reduceBEq, Int.reduceEq, Int.reduceNeg, Int.reduceLT, Int.reduceLE, Int.reduceAdd, Int.reduceSub, Int.reduceMul, Int.reduceToNat, Int.reduceGT, Nat.reduceBEq, Nat.reducePow, Nat.reduceGT, reduceCtorEq, ↓reduceIte, hld0, hcut, h0, h00, hwx]
      refine (refString_ok (rs6.ext ex) ht).mono ?_
      rintro _ _ ⟨rfl, rfl⟩
      cases hu : str1 t with
      | none =>
        have hR : strR2 none = V.tuple [.str [], .int .i64 (-1)] := rfl
        rw [hd0, hu]
        simp -dsimp (disch := first | with_reducible assumption | omega | (intro h_; cases h_; done) | (simp only [LN] <;> omega) | (simp only [LF]; done) | (repeat (first | with_reducible assumption | apply Ext.refl | apply Ext.app | (apply Ext.set <;> omega) | (refine Ext.trans ?_ (by assumption))))) only [AX, TY, gV, dstOf, p_makeFunc, p_mapUpdate, mapPut, entsOf, p_lookup, p_extract, p_nilCheck, oneV, p_load, p_store, p_binOp, p_unOp, p_indexAddr, p_index, p_box, p_build, evParts, builtinV, load1, ldc, splice, minds, disj, rcOf, isCall, touchV, idsOf, mapId, touchB, p_buildSlice, buildSliceV, reps, fillV, p_convert, p_slice, evO, p_makeSlice, sid_some, soff_some, Nat.reduceLT, Nat.reduceLeDiff, Nat.reduceEqDiff, Nat.reduceAdd, Nat.reduceMul, Int.reduceBEq, Int.reduceEq, Int.reduceNeg, Int.reduceLT, Int.reduceLE, Int.reduceAdd, Int.reduceSub, Int.reduceMul, Int.reduceToNat, Int.reduceGT, Nat.reduceBEq, Nat.reducePow, Nat.reduceGT, reduceCtorEq, ↓reduceIte, hR]
        exact ⟨(by (repeat (first | assumption | apply Ext.refl | apply Ext.app | (apply Ext.set <;> omega) | exact Ext.trans (by assumption) (by assumption) | (refine Ext.trans ?_ (by assumption))))), rfl⟩
      | some q =>
        obtain ⟨s, k⟩ := q
        obtain ⟨k1, k2, k3, _⟩ := str1_parts ht hu
        have hR : strR2 (some (s, k)) = V.tuple [.str s, .int .i64 (k : Int)] := rfl
        have hk0 : ¬ (k : Int) < 0 := by omega
        have hw9 : IntKind.i64.wrap (1 + (k : Int)) = 1 + (k : Int) := by rw [IntKind.wrap_i64]; omega
        have e3 := e3g ⟨1, 0, s⟩
        have gx3 := gx3g ⟨1, 0, s⟩
        have gy3 := gy3g ⟨1, 0, s⟩
        simp only at e3 gx3 gy3
        rw [hd0, hu, Option.map_some]
        simp -dsimp (disch := first | with_reducible assumption | omega | (intro h_; cases h_; done) | (simp only [LN] <;> omega) | (simp only [LF]; done) | (repeat (first | with_reducible assumption | apply Ext.refl | apply Ext.app | (apply Ext.set <;> omega) | (refine Ext.trans ?_ (by assumption))))) only [AX, TY, gV, dstOf, p_makeFunc, p_mapUpdate, mapPut, entsOf, p_lookup, p_extract, p_nilCheck, oneV, p_load, p_store, p_binOp, p_unOp, p_indexAddr, p_index, p_box, p_build, evParts, builtinV, load1, ldc, splice, minds, disj, rcOf, isCall, touchV, idsOf, mapId, touchB, p_buildSlice, buildSliceV, reps, fillV, p_convert, p_slice, evO, p_makeSlice, sid_some, soff_some, Nat.reduceLT, Nat.reduceLeDiff, Nat.reduceEqDiff, Nat.reduceAdd, Nat.reduceMul, Int.reduceBEq, Int.reduceEq, Int.reduceNeg, Int.reduceLT, Int.reduceLE, Int.reduceAdd, Int.reduceSub, Int.reduceMul, Int.reduceToNat, Int.reduceGT, Nat.reduceBEq, Nat.reducePow, Nat.reduceGT, reduceCtorEq, ↓reduceIte, hR, hk0]
        skip
        have e03 := e3
        refine (refValid_ok ⟨1, 0, s⟩).mono ?_
        rintro _ h4 ⟨e4, rfl⟩
        have gx4 := e4 _ _ gx3
        have gy4 := e4 _ _ gy3
        have hlt4 := lt_of_some gy4
        have e04 := e03.trans e4
        have hst := fun a b c => storeN_of (off := 0) (vs := [V.int .i64 a, V.int .i64 b, V.str c]) gy4 (by simp) (by simp) rfl
        cases hv : validV ⟨1, 0, s⟩
        · simp -dsimp (disch := first | with_reducible assumption | omega | (intro h_; cases h_; done) | (simp only [LN] <;> omega) | (simp only [LF]; done) | (repeat (first | with_reducible assumption | apply Ext.refl | apply Ext.app | (apply Ext.set <;> omega) | (refine Ext.trans ?_ (by assumption))))) only [AX, TY, gV, dstOf, p_makeFunc, p_mapUpdate, mapPut, entsOf, p_lookup, p_extract, p_nilCheck, oneV, p_load, p_store, p_binOp, p_unOp, p_indexAddr, p_index, p_box, p_build, evParts, builtinV, load1, ldc, splice, minds, disj, rcOf, isCall, touchV, idsOf, mapId, touchB, p_buildSlice, buildSliceV, reps, fillV, p_convert, p_slice, evO, p_makeSlice, sid_some, soff_some, Nat.reduceLT, Nat.reduceLeDiff, Nat.reduceEqDiff, Nat.reduceAdd, Nat.reduceMul, Int.reduceBEq, Int.reduceEq, Int.reduceNeg, Int.reduceLT, Int.reduceLE, Int.reduceAdd, Int.reduceSub, Int.reduceMul, Int.reduceToNat, Int.reduceGT, Nat.reduceBEq, Nat.reducePow, Nat.reduceGT, reduceCtorEq, ↓reduceIte, hst]
          refine ⟨Ext.set e04 (Nat.le_refl _) _, ?_⟩
          simp only [rvR, hv]; rfl
        · simp -dsimp (disch := first | with_reducible assumption | omega | (intro h_; cases h_; done) | (simp only [LN] <;> omega) | (simp only [LF]; done) | (repeat (first | with_reducible assumption | apply Ext.refl | apply Ext.app | (apply Ext.set <;> omega) | (refine Ext.trans ?_ (by assumption))))) only [AX, TY, gV, dstOf, p_makeFunc, p_mapUpdate, mapPut, entsOf, p_lookup, p_extract, p_nilCheck, oneV, p_load, p_store, p_binOp, p_unOp, p_indexAddr, p_index, p_box, p_build, evParts, builtinV, load1, ldc, splice, minds, disj, rcOf, isCall, touchV, idsOf, mapId, touchB, p_buildSlice, buildSliceV, reps, fillV, p_convert, p_slice, evO, p_makeSlice, sid_some, soff_some, Nat.reduceLT, Nat.reduceLeDiff, Nat.reduceEqDiff, Nat.reduceAdd, Nat.reduceMul, Int.reduceBEq, Int.reduceEq, Int.reduceNeg, Int.reduceLT, Int.reduceLE, Int.reduceAdd, Int.reduceSub, Int.reduceMul, Int.reduceToNat, Int.reduceGT, Nat.reduceBEq, Nat.reducePow, Nat.reduceGT, reduceCtorEq, ↓reduceIte, loadN_fact gx4, hst, hw9]
          refine ⟨Ext.set e04 (Nat.le_refl _) _, ?_⟩
          simp only [rvR, hv, if_true]
          congr 4
          all_goals first | omega | exact dropc (by omega) (by omega)
    by_cases g3 : x = 2
    · subst g3
      match t, hl', ht, rs6, hcut, hlt, hr with
      | [], hl', ht, rs6, hcut, hlt, hr =>
        have h3 : (n : Int) < 2 := by simp at hlt; omega
        simp -dsimp (disch := first | with_reducible assumption | omega | (intro h_; cases h_; done) | (simp only [LN] <;> omega) | (simp only [LF]; done) | (repeat (first | with_reducible assumption | apply Ext.refl | apply Ext.app | (apply Ext.set <;> omega) | (refine Ext.trans ?_ (by assumption))))) only [AX, TY, gV, dstOf, p_makeFunc, p_mapUpdate, mapPut, entsOf, p_lookup, p_extract, p_nilCheck, oneV, p_load, p_store, p_binOp, p_unOp, p_indexAddr, p_index, p_box, p_build, evParts, builtinV, load1, ldc, splice, minds, disj, rcOf, isCall, touchV, idsOf, mapId, touchB, p_buildSlice, buildSliceV, reps, fillV, p_convert, p_slice, evO, p_makeSlice, sid_some, soff_some, Nat.reduceLT, Nat.reduceLeDiff, Nat.reduceEqDiff, Nat.reduceAdd, Nat.reduceMul, Int.reduceBEq, Int.reduceEq, Int.reduceNeg, Int.reduceLT, Int.reduceLE, Int.reduceAdd, Int.reduceSub, Int.reduceMul, Int.reduceToNat, Int.reduceGT, Nat.reduceBEq, Nat.reducePow, Nat.reduceGT, reduceCtorEq, ↓reduceIte, hld0, hcut, h0, h00, hwx, eq_true h3]
        exact ⟨(by (repeat (first | assumption | apply Ext.refl | apply Ext.app | (apply Ext.set <;> omega) | exact Ext.trans (by assumption) (by assumption) | (refine Ext.trans ?_ (by assumption))))), rfl⟩
      | y :: l, hl', ht, rs6, hcut, hlt, hr =>
        have hy := ht.head
        have hwy : IntKind.i64.wrap y = y := by rw [IntKind.wrap_i64]; omega
        have hld1 := fun hh (e : Ext h hh) => hr.sl.load0 (hh := hh) e (i := 1) (m := 1) (by simp) (Nat.le_refl 1)
        simp only [eb, List.getElem_cons_succ, List.getElem_cons_zero, Nat.one_mul] at hld1
        have hnl : n = l.length + 2 := by rw [← hlt]; rfl
        have h3 : ¬ (n : Int) < 2 := by omega
        have h4 : (1 : Int) < (n : Int) := by omega
        have e3 := e3g ⟨2, y, []⟩
        have gx3 := gx3g ⟨2, y, []⟩
        have gy3 := gy3g ⟨2, y, []⟩
        simp only at e3 gx3 gy3
        have hd0 : drow1 (2 :: y :: l) = some (⟨2, y, []⟩, l) := rfl
        rw [hd0]
        have hw9 : IntKind.i64.wrap 2 = 2 := rfl
        simp -dsimp (disch := first | with_reducible assumption | omega | (intro h_; cases h_; done) | (simp only [LN] <;> omega) | (simp only [LF]; done) | (repeat (first | with_reducible assumption | apply Ext.refl | apply Ext.app | (apply Ext.set <;> omega) | (refine Ext.trans ?_ (by assumption))))) only [AX, TY, gV, dstOf, p_makeFunc, p_mapUpdate, mapPut, entsOf, p_lookup, p_extract, p_nilCheck, oneV, p_load, p_store, p_binOp, p_unOp, p_indexAddr, p_index, p_box, p_build, evParts, builtinV, load1, ldc, splice, minds, disj, rcOf, isCall, touchV, idsOf, mapId, touchB, p_buildSlice, buildSliceV, reps, fillV, p_convert, p_slice, evO, p_makeSlice, sid_some, soff_some, Nat.reduceLT, Nat.reduceLeDiff, Nat.reduceEqDiff, Nat.reduceAdd, Nat.reduceMul, Int.reduceBEq, Int.reduceEq, Int.reduceNeg, Int.reduceLT, Int.reduceLE, Int.reduceAdd, Int.reduceSub, Int.reduceMul, Int.reduceToNat, Int.reduceGT, Nat.reduceBEq, Nat.reducePow, Nat.reduceGT, reduceCtorEq, ↓reduceIte, hld0, hcut, h0, h00, hwx, h3, h4, hld1, hwy]
        skip
        have e03 := e3
        refine (refValid_ok ⟨2, y, []⟩).mono ?_
        rintro _ h4 ⟨e4, rfl⟩
        have gx4 := e4 _ _ gx3
        have gy4 := e4 _ _ gy3
        have hlt4 := lt_of_some gy4
        have e04 := e03.trans e4
        have hst := fun a b c => storeN_of (off := 0) (vs := [V.int .i64 a, V.int .i64 b, V.str c]) gy4 (by simp) (by simp) rfl
        cases hv : validV ⟨2, y, []⟩
        · simp -dsimp (disch := first | with_reducible assumption | omega | (intro h_; cases h_; done) | (simp only [LN] <;> omega) | (simp only [LF]; done) | (repeat (first | with_reducible assumption | apply Ext.refl | apply Ext.app | (apply Ext.set <;> omega) | (refine Ext.trans ?_ (by assumption))))) only [AX, TY, gV, dstOf, p_makeFunc, p_mapUpdate, mapPut, entsOf, p_lookup, p_extract, p_nilCheck, oneV, p_load, p_store, p_binOp, p_unOp, p_indexAddr, p_index, p_box, p_build, evParts, builtinV, load1, ldc, splice, minds, disj, rcOf, isCall, touchV, idsOf, mapId, touchB, p_buildSlice, buildSliceV, reps, fillV, p_convert, p_slice, evO, p_makeSlice, sid_some, soff_some, Nat.reduceLT, Nat.reduceLeDiff, Nat.reduceEqDiff, Nat.reduceAdd, Nat.reduceMul, Int.reduceBEq, Int.reduceEq, Int.reduceNeg, Int.reduceLT, Int.reduceLE, Int.reduceAdd, Int.reduceSub, Int.reduceMul, Int.reduceToNat, Int.reduceGT, Nat.reduceBEq, Nat.reducePow, Nat.reduceGT, reduceCtorEq, ↓reduceIte, hst]
          refine ⟨Ext.set e04 (Nat.le_refl _) _, ?_⟩
          simp only [rvR, hv]; rfl
        · simp -dsimp (disch := first | with_reducible assumption | omega | (intro h_; cases h_; done) | (simp only [LN] <;> omega) | (simp only [LF]; done) | (repeat (first | with_reducible assumption | apply Ext.refl | apply Ext.app | (apply Ext.set <;> omega) | (refine Ext.trans ?_ (by assumption))))) only [AX, TY, gV, dstOf, p_makeFunc, p_mapUpdate, mapPut, entsOf, p_lookup, p_extract, p_nilCheck, oneV, p_load, p_store, p_binOp, p_unOp, p_indexAddr, p_index, p_box, p_build, evParts, builtinV, load1, ldc, splice, minds, disj, rcOf, isCall, touchV, idsOf, mapId, touchB, p_buildSlice, buildSliceV, reps, fillV, p_convert, p_slice, evO, p_makeSlice, sid_some, soff_some, Nat.reduceLT, Nat.reduceLeDiff, Nat.reduceEqDiff, Nat.reduceAdd, Nat.reduceMul, Int.reduceBEq, Int.reduceEq, Int.reduceNeg, Int.reduceLT, Int.reduceLE, Int.reduceAdd, Int.reduceSub, Int.reduceMul, Int.reduceToNat, Int.reduceGT, Nat.reduceBEq, Nat.reducePow, Nat.reduceGT, reduceCtorEq, ↓reduceIte, loadN_fact gx4, hst, hw9]
          refine ⟨Ext.set e04 (Nat.le_refl _) _, ?_⟩
          simp only [rvR, hv, if_true]
          congr 4
          all_goals first | omega | exact dropc (by omega) (by omega)
    · have hd : drow1 (x :: t) = none := by
        simp only [drow1]
        rw [if_neg g1, if_neg g2, if_neg g3]
      rw [hd]
      simp -dsimp (disch := first | with_reducible assumption | omega | (intro h_; cases h_; done) | (simp only [LN] <;> omega) | (simp only [LF]; done) | (repeat (first | with_reducible assumption | apply Ext.refl | apply Ext.app | (apply Ext.set <;> omega) | (refine Ext.trans ?_ (by assumption))))) only [AX, TY, gV, dstOf, p_makeFunc, p_mapUpdate, mapPut, entsOf, p_lookup, p_extract, p_nilCheck, oneV, p_load, p_store, p_binOp, p_unOp, p_indexAddr, p_index, p_box, p_build, evParts, builtinV, load1, ldc, splice, minds, disj, rcOf, isCall, touchV, idsOf, mapId, touchB, p_buildSlice, buildSliceV, reps, fillV, p_convert, p_slice, evO, p_makeSlice, sid_some, soff_some, Nat.reduceLT, Nat.reduceLeDiff, Nat.reduceEqDiff, Nat.reduceAdd, Nat.reduceMul, Int.reduceBEq, Int.reduceEq, Int.reduceNeg, Int.reduceLT, Int.reduceLE, Int.reduceAdd, Int.reduceSub, Int.reduceMul, Int.reduceToNat, Int.reduceGT, Nat.reduceBEq, Nat.reducePow, Nat.reduceGT, reduceCtorEq, ↓reduceIte, hld0, hcut, h0, h00, hwx, g1, g2, g3]
      exact ⟨(by (repeat (first | assumption | apply Ext.refl | apply Ext.app | (apply Ext.set <;> omega) | exact Ext.trans (by assumption) (by assumption) | (refine Ext.trans ?_ (by assumption))))), rfl⟩
end Go.Proofs.YtngcicclaehpbaaDoorA
namespace Go.Proofs.YtngcicclaehpbaaDoorA
open Go Go.Proofs Go.RowKit
set_option linter.unusedVariables false
set_option linter.unusedSimpArgs false
set_option maxRecDepth 10000
set_option maxHeartbeats 4000000
theorem drow1_rest {b t : List Int} {v : Vl} (hb : Bt b) (h : drow1 b = some (v, t)) : t = b.drop (b.length - t.length) := by
  cases b with
  | nil => cases h
  | cons x b =>
    have hx := hb.tail
    simp only [drow1] at h
    split at h
    · cases hk : udec b with
      | none => rw [hk] at h; cases h
      | some q =>
        obtain ⟨n, k⟩ := q
        obtain ⟨u1, u2, u3, u4⟩ := uenc_udec hx hk
        rw [hk] at h
        simp only [Option.map_some, Option.some.injEq, Prod.mk.injEq] at h
        obtain ⟨_, rfl⟩ := h
        have : (x :: b).length - (b.drop k).length = k + 1 := by rw [List.length_drop, List.length_cons]; omega
        rw [this, List.drop_succ_cons]
    · split at h
      · cases hk : str1 b with
        | none => rw [hk] at h; cases h
        | some q =>
          obtain ⟨s, k⟩ := q
          obtain ⟨_, u3, _, _⟩ := str1_parts hx hk
          rw [hk] at h
          simp only [Option.map_some, Option.some.injEq, Prod.mk.injEq] at h
          obtain ⟨_, rfl⟩ := h
          have : (x :: b).length - (b.drop k).length = k + 1 := by rw [List.length_drop, List.length_cons]; omega
          rw [this, List.drop_succ_cons]
      · split at h
        · cases b with
          | nil => cases h
          | cons y b =>
            simp only [Option.some.injEq, Prod.mk.injEq] at h
            obtain ⟨_, rfl⟩ := h
            have : (x :: y :: b).length - b.length = 2 := by simp only [List.length_cons]; omega
            rw [this]; rfl
        · cases h
def rrR (b0 : Nat) (h' : Heap) (o : Option (List Vl)) (r : V) : Prop := match o with
  | some l => ∃ p c oid, r = V.tuple [.slice p l.length c, .bool true] ∧ Gr b0 h' p c oid 3 Vl.enc l ∧ l.all validV = true ∧ ∀ y ∈ l, y.G
  | none => ∃ (p : Option (Nat × Nat)) (n : Nat) (c : Option Nat), r = V.tuple [.slice p n c, .bool false]
structure LRD (h : Heap) (p : Option (Nat × Nat)) (c : Option Nat) (b : List Int) (n k m : Nat) (τ : Tp) (hh : Heap) (i : Nat) (l : List Vl) : Prop where
  hm : m + l.length = n
  hi : k ≤ i ∧ i ≤ b.length
  t0 : τ 0 = .slice p b.length c
  t4 : τ 4 = .int .u64 (n : Nat)
  t5 : τ 5 = .int .i64 i
  t7 : τ 7 = .int .u64 (l.length : Nat)
  dec : Dec drow1 (b.drop k) l (b.drop i)
  val : l.all validV = true
  g : ∀ y ∈ l, y.G
  app : App h.length h none 3 Vl.enc l (τ 6) hh
theorem refDecodeRow_ok {h : Heap} {p : Option (Nat × Nat)} {c : Option Nat} {b : List Int} (hr : Rs h p c 1 eb b) (hb : Bt b) (hl : b.length ≤ 1000000) : WR (callE Tryd.prog hk 36 [.slice p b.length c] h) fun r h' => Ext h h' ∧ ∃ o, RowAll b o ∧ rrR h.length h' o r := by
  refine WR.call (hH := rfl) Tryd.func36 rfl (n := 51) rfl rfl (by simp) ?_
  simp -dsimp (disch := first | with_reducible assumption | omega | (intro h_; cases h_; done) | (simp only [LN] <;> omega) | (simp only [LF]; done) | (repeat (first | with_reducible assumption | apply Ext.refl | apply Ext.app | (apply Ext.set <;> omega) | (refine Ext.trans ?_ (by assumption))))) only [AX, TY, gV, dstOf, p_makeFunc, p_mapUpdate, mapPut, entsOf, p_lookup, p_extract, p_nilCheck, oneV, p_load, p_store, p_binOp, p_unOp, p_indexAddr, p_index, p_box, p_build, evParts, builtinV, load1, ldc, splice, minds, disj, rcOf, isCall, touchV, idsOf, mapId, touchB, p_buildSlice, buildSliceV, reps, fillV, p_convert, p_slice, evO, p_makeSlice, sid_some, soff_some, Nat.reduceLT, Nat.reduceLeDiff, Nat.reduceEqDiff, Nat.reduceAdd, Nat.reduceMul, Int.reduceBEq, Int.reduceEq, Int.reduceNeg, Int.reduceLT, Int.reduceLE, Int.reduceAdd, Int.reduceSub, Int.reduceMul, Int.reduceToNat, Int.reduceGT, Nat.reduceBEq, Nat.reducePow, Nat.reduceGT, reduceCtorEq, ↓reduceIte]
  refine (refUint_ok hr.sl hb).mono ?_
  rintro _ _ ⟨rfl, rfl⟩
  cases hu : udec b with
  | none =>
    have hR : uintR2 none = V.tuple [.int .u64 0, .int .i64 (-1)] := rfl
    simp -dsimp (disch := first | with_reducible assumption | omega | (intro h_; cases h_; done) | (simp only [LN] <;> omega) | (simp only [LF]; done) | (repeat (first | with_reducible assumption | apply Ext.refl | apply Ext.app | (apply Ext.set <;> omega) | (refine Ext.trans ?_ (by assumption))))) only [AX, TY, gV, dstOf, p_makeFunc, p_mapUpdate, mapPut, entsOf, p_lookup, p_extract, p_nilCheck, oneV, p_load, p_store, p_binOp, p_unOp, p_indexAddr, p_index, p_box, p_build, evParts, builtinV, load1, ldc, splice, minds, disj, rcOf, isCall, touchV, idsOf, mapId, touchB, p_buildSlice, buildSliceV, reps, fillV, p_convert, p_slice, evO, p_makeSlice, sid_some, soff_some, Nat.reduceLT, Nat.reduceLeDiff, Nat.reduceEqDiff, Nat.reduceAdd, Nat.reduceMul, Int.reduceBEq, Int.reduceEq, Int.reduceNeg, Int.reduceLT, Int.reduceLE, Int.reduceAdd, Int.reduceSub, Int.reduceMul, Int.reduceToNat, Int.reduceGT, Nat.reduceBEq, Nat.reducePow, Nat.reduceGT, reduceCtorEq, ↓reduceIte, hR]
    exact ⟨.refl _, none, RowAll.none_u hu, _, _, _, rfl⟩
  | some q =>
    obtain ⟨n, k⟩ := q
    obtain ⟨u1, u2, u3, u4⟩ := uenc_udec hb hu
    have hR : uintR2 (some (n, k)) = V.tuple [.int .u64 n, .int .i64 k] := rfl
    have hk0 : ¬ (k : Int) < 0 := by omega
    have hwl : IntKind.u64.wrap (b.length : Int) = (b.length : Int) := by rw [w_u64]; omega
    by_cases g1 : (b.length : Int) < (n : Int)
    · simp -dsimp (disch := first | with_reducible assumption | omega | (intro h_; cases h_; done) | (simp only [LN] <;> omega) | (simp only [LF]; done) | (repeat (first | with_reducible assumption | apply Ext.refl | apply Ext.app | (apply Ext.set <;> omega) | (refine Ext.trans ?_ (by assumption))))) only [AX, TY, gV, dstOf, p_makeFunc, p_mapUpdate, mapPut, entsOf, p_lookup, p_extract, p_nilCheck, oneV, p_load, p_store, p_binOp, p_unOp, p_indexAddr, p_index, p_box, p_build, evParts, builtinV, load1, ldc, splice, minds, disj, rcOf, isCall, touchV, idsOf, mapId, touchB, p_buildSlice, buildSliceV, reps, fillV, p_convert, p_slice, evO, p_makeSlice, sid_some, soff_some, Nat.reduceLT, Nat.reduceLeDiff, Nat.reduceEqDiff, Nat.reduceAdd, Nat.reduceMul, Int.reduceBEq, Int.reduceEq, Int.reduceNeg, Int.reduceLT, Int.reduceLE, Int.reduceAdd, Int.reduceSub, Int.reduceMul, Int.reduceToNat, Int.reduceGT, Nat.reduceBEq, Nat.reducePow, Nat.reduceGT, reduceCtorEq, ↓reduceIte, hR, hk0, hwl, eq_true g1]
      refine ⟨.refl _, none, ?_, _, _, _, rfl⟩
      rintro ⟨l, k', h2, h3⟩
      rw [hu] at h2
      simp only [Option.some.injEq, Prod.mk.injEq] at h2
      obtain ⟨h4, rfl⟩ := h2
      have := h3.len (hb.drop k) (by rw [List.length_drop]; omega)
      rw [List.length_drop] at this
      omega
    simp -dsimp (disch := first | with_reducible assumption | omega | (intro h_; cases h_; done) | (simp only [LN] <;> omega) | (simp only [LF]; done) | (repeat (first | with_reducible assumption | apply Ext.refl | apply Ext.app | (apply Ext.set <;> omega) | (refine Ext.trans ?_ (by assumption))))) only [AX, TY, gV, dstOf, p_makeFunc, p_mapUpdate, mapPut, entsOf, p_lookup, p_extract, p_nilCheck, oneV, p_load, p_store, p_binOp, p_unOp, p_indexAddr, p_index, p_box, p_build, evParts, builtinV, load1, ldc, splice, minds, disj, rcOf, isCall, touchV, idsOf, mapId, touchB, p_buildSlice, buildSliceV, reps, fillV, p_convert, p_slice, evO, p_makeSlice, sid_some, soff_some, Nat.reduceLT, Nat.reduceLeDiff, Nat.reduceEqDiff, Nat.reduceAdd, Nat.reduceMul, Int.reduceBEq, Int.reduceEq, Int.reduceNeg, Int.reduceLT, Int.reduceLE, Int.reduceAdd, Int.reduceSub, Int.reduceMul, Int.reduceToNat, Int.reduceGT, Nat.reduceBEq, Nat.reducePow, Nat.reduceGT, reduceCtorEq, ↓reduceIte, hR, hk0, hwl, g1]
    refine W.loop (fun m τ hh => ∃ i l, LRD h p c b n k m τ hh i l) ?_ (m := n) ?_
    rotate_left
    · refine ⟨k, [], ?_⟩
      constructor <;> (try first | assumption | ((repeat (first | assumption | apply Ext.refl | apply Ext.app | (apply Ext.set <;> omega) | exact Ext.trans (by assumption) (by assumption) | (refine Ext.trans ?_ (by assumption)))); done) | (refine Sl.ext (by assumption) ?_; (repeat (first | assumption | apply Ext.refl | apply Ext.app | (apply Ext.set <;> omega) | exact Ext.trans (by assumption) (by assumption) | (refine Ext.trans ?_ (by assumption)))); done) | (simp -dsimp (disch := first | with_reducible assumption | omega | (intro h_; cases h_; done) | (simp only [LN] <;> omega) | (simp only [LF]; done) | (repeat (first | with_reducible assumption | apply Ext.refl | apply Ext.app | (apply Ext.set <;> omega) | (refine Ext.trans ?_ (by assumption))))) only [AX, TY, gV, dstOf, p_makeFunc, p_mapUpdate, mapPut, entsOf, p_lookup, p_extract, p_nilCheck, oneV, p_load, p_store, p_binOp, p_unOp, p_indexAddr, p_index, p_box, p_build, evParts, builtinV, load1, ldc, splice, minds, disj, rcOf, isCall, touchV, idsOf, mapId, touchB, p_buildSlice, buildSliceV, reps, fillV, p_convert, p_slice, evO, p_makeSlice, sid_some, soff_some, Nat.reduceLT, Nat.reduceLeDiff, Nat.reduceEqDiff, Nat.reduceAdd, Nat.reduceMul, Int.reduceBEq, Int.reduceEq, Int.reduceNeg, Int.reduceLT, Int.reduceLE, Int.reduceAdd, Int.reduceSub, Int.reduceMul, Int.reduceToNat, Int.reduceGT, Nat.reduceBEq, Nat.reducePow, Nat.reduceGT, reduceCtorEq, ↓reduceIte, Int.natCast_add, Int.natCast_one, Int.natCast_zero]; try (first | assumption | with_reducible rfl)))
      all_goals first | exact .nil _ | exact ⟨Nat.le_refl _, u3⟩ | (simp; done) | skip
      exact ⟨some (h.length, 0), some 0, some h.length, rfl, Gr.built (ys := ([] : List Vl)) (snoc_last _ rfl) rfl (Nat.le_refl _) (by simp) (by simp) (by simp) rfl, .inr ⟨_, rfl, Nat.le_refl _⟩, by simp, fun j _ hj => snoc_old _ hj⟩
    rintro m τ hh ⟨i, l, hm, hi, t0, t4, t5, t7, hdec, hval, hg, ha0⟩
    have eh : Ext h hh := ha0.ext (.refl _) (by simp)
    by_cases h1 : (l.length : Int) < (n : Int)
    rotate_left
    · have hn : n = l.length := by omega
      obtain ⟨p', c', oid', t6, gr, ho, hle, hk⟩ := ha0
      by_cases h2 : (i : Int) = (b.length : Int)
      · rw [List.drop_of_length_le (show b.length ≤ i by omega)] at hdec
        simp -dsimp (disch := first | with_reducible assumption | omega | (intro h_; cases h_; done) | (simp only [LN] <;> omega) | (simp only [LF]; done) | (repeat (first | with_reducible assumption | apply Ext.refl | apply Ext.app | (apply Ext.set <;> omega) | (refine Ext.trans ?_ (by assumption))))) only [AX, TY, gV, dstOf, p_makeFunc, p_mapUpdate, mapPut, entsOf, p_lookup, p_extract, p_nilCheck, oneV, p_load, p_store, p_binOp, p_unOp, p_indexAddr, p_index, p_box, p_build, evParts, builtinV, load1, ldc, splice, minds, disj, rcOf, isCall, touchV, idsOf, mapId, touchB, p_buildSlice, buildSliceV, reps, fillV, p_convert, p_slice, evO, p_makeSlice, sid_some, soff_some, Nat.reduceLT, Nat.reduceLeDiff, Nat.reduceEqDiff, Nat.reduceAdd, Nat.reduceMul, Int.reduceBEq, Int.reduceEq, Int.reduceNeg, Int.reduceLT, Int.reduceLE, Int.reduceAdd, Int.reduceSub, Int.reduceMul, Int.reduceToNat, Int.reduceGT, Nat.reduceBEq, Nat.reducePow, Nat.reduceGT, reduceCtorEq, ↓reduceIte, t0, t4, t5, t6, t7, h1, eq_true h2]
        exact ⟨eh, some l, ⟨k, by rw [hu, hn], hdec⟩, p', c', oid', rfl, gr, hval, hg⟩
      · simp -dsimp (disch := first | with_reducible assumption | omega | (intro h_; cases h_; done) | (simp only [LN] <;> omega) | (simp only [LF]; done) | (repeat (first | with_reducible assumption | apply Ext.refl | apply Ext.app | (apply Ext.set <;> omega) | (refine Ext.trans ?_ (by assumption))))) only [AX, TY, gV, dstOf, p_makeFunc, p_mapUpdate, mapPut, entsOf, p_lookup, p_extract, p_nilCheck, oneV, p_load, p_store, p_binOp, p_unOp, p_indexAddr, p_index, p_box, p_build, evParts, builtinV, load1, ldc, splice, minds, disj, rcOf, isCall, touchV, idsOf, mapId, touchB, p_buildSlice, buildSliceV, reps, fillV, p_convert, p_slice, evO, p_makeSlice, sid_some, soff_some, Nat.reduceLT, Nat.reduceLeDiff, Nat.reduceEqDiff, Nat.reduceAdd, Nat.reduceMul, Int.reduceBEq, Int.reduceEq, Int.reduceNeg, Int.reduceLT, Int.reduceLE, Int.reduceAdd, Int.reduceSub, Int.reduceMul, Int.reduceToNat, Int.reduceGT, Nat.reduceBEq, Nat.reducePow, Nat.reduceGT, reduceCtorEq, ↓reduceIte, t0, t4, t5, t6, t7, h1, h2]
        exact ⟨eh, none, RowAll.rest (by rw [hu, hn]) hdec (by intro e; have := congrArg List.length e; rw [List.length_drop] at this; simp at this; omega), _, _, _, rfl⟩
    have hlen := hdec.len (hb.drop k) (by rw [List.length_drop]; omega)
    rw [List.length_drop, List.length_drop] at hlen
    obtain ⟨p9, c9, hcut9, rs9⟩ := hr.lo (a := i) (by omega)
    have hdl : (b.drop i).length = b.length - i := List.length_drop
    rw [← hdl] at hcut9
    have hrv := refValue_ok (c := c9) (rs9.ext eh) (hb.drop i) (by omega)
    simp -dsimp (disch := first | with_reducible assumption | omega | (intro h_; cases h_; done) | (simp only [LN] <;> omega) | (simp only [LF]; done) | (repeat (first | with_reducible assumption | apply Ext.refl | apply Ext.app | (apply Ext.set <;> omega) | (refine Ext.trans ?_ (by assumption))))) only [AX, TY, gV, dstOf, p_makeFunc, p_mapUpdate, mapPut, entsOf, p_lookup, p_extract, p_nilCheck, oneV, p_load, p_store, p_binOp, p_unOp, p_indexAddr, p_index, p_box, p_build, evParts, builtinV, load1, ldc, splice, minds, disj, rcOf, isCall, touchV, idsOf, mapId, touchB, p_buildSlice, buildSliceV, reps, fillV, p_convert, p_slice, evO, p_makeSlice, sid_some, soff_some, Nat.reduceLT, Nat.reduceLeDiff, Nat.reduceEqDiff, Nat.reduceAdd, Nat.reduceMul, Int.reduceBEq, Int.reduceEq, Int.reduceNeg, Int.reduceLT, Int.reduceLE, Int.reduceAdd, Int.reduceSub, Int.reduceMul, Int.reduceToNat, Int.reduceGT, Nat.reduceBEq, Nat.reducePow, Nat.reduceGT, reduceCtorEq, ↓reduceIte, t0, t4, t5, t7, h1, hcut9]
    refine hrv.mono ?_
    rintro _ h2 ⟨e2, rfl⟩
    cases hd : drow1 (b.drop i) with
    | none =>
      simp -dsimp (disch := first | with_reducible assumption | omega | (intro h_; cases h_; done) | (simp only [LN] <;> omega) | (simp only [LF]; done) | (repeat (first | with_reducible assumption | apply Ext.refl | apply Ext.app | (apply Ext.set <;> omega) | (refine Ext.trans ?_ (by assumption))))) only [AX, TY, gV, dstOf, p_makeFunc, p_mapUpdate, mapPut, entsOf, p_lookup, p_extract, p_nilCheck, oneV, p_load, p_store, p_binOp, p_unOp, p_indexAddr, p_index, p_box, p_build, evParts, builtinV, load1, ldc, splice, minds, disj, rcOf, isCall, touchV, idsOf, mapId, touchB, p_buildSlice, buildSliceV, reps, fillV, p_convert, p_slice, evO, p_makeSlice, sid_some, soff_some, Nat.reduceLT, Nat.reduceLeDiff, Nat.reduceEqDiff, Nat.reduceAdd, Nat.reduceMul, Int.reduceBEq, Int.reduceEq, Int.reduceNeg, Int.reduceLT, Int.reduceLE, Int.reduceAdd, Int.reduceSub, Int.reduceMul, Int.reduceToNat, Int.reduceGT, Nat.reduceBEq, Nat.reducePow, Nat.reduceGT, reduceCtorEq, ↓reduceIte, t0, t4, t5, t7, rvR, Vl.enc]
      exact ⟨(eh.trans e2).app _, none, RowAll.stuck hu hdec (by omega) (by intro v t q; rw [hd] at q; cases q), _, _, _, rfl⟩
    | some q =>
      obtain ⟨v, t2⟩ := q
      obtain ⟨hvG, hbt2, hlt2⟩ := drow1_G (hb.drop i) (by omega) hd
      have hrest := drow1_rest (hb.drop i) hd
      cases hv : validV v
      · simp -dsimp (disch := first | with_reducible assumption | omega | (intro h_; cases h_; done) | (simp only [LN] <;> omega) | (simp only [LF]; done) | (repeat (first | with_reducible assumption | apply Ext.refl | apply Ext.app | (apply Ext.set <;> omega) | (refine Ext.trans ?_ (by assumption))))) only [AX, TY, gV, dstOf, p_makeFunc, p_mapUpdate, mapPut, entsOf, p_lookup, p_extract, p_nilCheck, oneV, p_load, p_store, p_binOp, p_unOp, p_indexAddr, p_index, p_box, p_build, evParts, builtinV, load1, ldc, splice, minds, disj, rcOf, isCall, touchV, idsOf, mapId, touchB, p_buildSlice, buildSliceV, reps, fillV, p_convert, p_slice, evO, p_makeSlice, sid_some, soff_some, Nat.reduceLT, Nat.reduceLeDiff, Nat.reduceEqDiff, Nat.reduceAdd, Nat.reduceMul, Int.reduceBEq, Int.reduceEq, Int.reduceNeg, Int.reduceLT, Int.reduceLE, Int.reduceAdd, Int.reduceSub, Int.reduceMul, Int.reduceToNat, Int.reduceGT, Nat.reduceBEq, Nat.reducePow, Nat.reduceGT, reduceCtorEq, ↓reduceIte, t0, t4, t5, t7, rvR, hv, Vl.enc]
        exact ⟨(eh.trans e2).app _, none, RowAll.stuck hu hdec (by omega) (by intro v' t' q; rw [hd] at q; cases q; exact hv), _, _, _, rfl⟩
      · obtain ⟨p', c', oid', t6, gr, ho, hle, hk⟩ := ha0
        have gx : (h2 ++ [O.cells v.enc Kd.rw])[h2.length]? = some (.cells v.enc .rw) := snoc_last _ rfl
        have ex : Ext h2 (h2 ++ [O.cells v.enc Kd.rw]) := (by (repeat (first | assumption | apply Ext.refl | apply Ext.app | (apply Ext.set <;> omega) | exact Ext.trans (by assumption) (by assumption) | (refine Ext.trans ?_ (by assumption)))))
        have hle2 := e2.le
        have hxl : (h2 ++ [O.cells v.enc Kd.rw]).length = h2.length + 1 := by simp
        have gr3 := gr.ext (e2.trans ex)
        generalize hj : (b.drop i).length - t2.length = j at hrest
        have hj1 : 1 ≤ j ∧ i + j ≤ b.length := by omega
        rw [List.drop_drop] at hrest
        have hwj : ¬ (j : Int) < 0 := by omega
        have hw1 : IntKind.i64.wrap ((i : Int) + (j : Int)) = ((i + j : Nat) : Int) := by rw [IntKind.wrap_i64]; omega
        have hw2 : IntKind.u64.wrap ((l.length : Int) + 1) = ((l.length + 1 : Nat) : Int) := by rw [w_u64]; omega
        have hrv1 : rvR (b.drop i).length (some (v, t2)) = V.tuple [.agg v.enc, .int .i64 (j : Int)] := by simp only [rvR, hv, if_true, hj]
        simp only [Vl.enc] at gx ex hxl gr3 hrv1
        simp -dsimp (disch := first | with_reducible assumption | omega | (intro h_; cases h_; done) | (simp only [LN] <;> omega) | (simp only [LF]; done) | (repeat (first | with_reducible assumption | apply Ext.refl | apply Ext.app | (apply Ext.set <;> omega) | (refine Ext.trans ?_ (by assumption))))) only [AX, TY, gV, dstOf, p_makeFunc, p_mapUpdate, mapPut, entsOf, p_lookup, p_extract, p_nilCheck, oneV, p_load, p_store, p_binOp, p_unOp, p_indexAddr, p_index, p_box, p_build, evParts, builtinV, load1, ldc, splice, minds, disj, rcOf, isCall, touchV, idsOf, mapId, touchB, p_buildSlice, buildSliceV, reps, fillV, p_convert, p_slice, evO, p_makeSlice, sid_some, soff_some, Nat.reduceLT, Nat.reduceLeDiff, Nat.reduceEqDiff, Nat.reduceAdd, Nat.reduceMul, Int.reduceBEq, Int.reduceEq, Int.reduceNeg, Int.reduceLT, Int.reduceLE, Int.reduceAdd, Int.reduceSub, Int.reduceMul, Int.reduceToNat, Int.reduceGT, Nat.reduceBEq, Nat.reducePow, Nat.reduceGT, reduceCtorEq, ↓reduceIte, t0, t4, t5, t6, t7, hrv1, hwj]
        generalize h2 ++ [O.cells [V.int .i64 v.kind, V.int .i64 v.int, V.str v.text] Kd.rw] = h3 at gx ex hxl gr3
        refine (gr3.wrB (by omega) (hh := h3 ++ [O.cells v.enc Kd.rw]) (q := h2.length + 1) (n := 1) (vc := some 1) (bytes := 32) (by (repeat (first | assumption | apply Ext.refl | apply Ext.app | (apply Ext.set <;> omega) | exact Ext.trans (by assumption) (by assumption) | (refine Ext.trans ?_ (by assumption))))) [v] (snoc_last _ hxl.symm) rfl (vl_w _) (vl_l _) (by simp only [List.length_cons, List.length_nil]; omega) (by simp only [List.length_cons, List.length_nil]; omega)).mono ?_
        intro r5 h5 ha5
        have ha5' := App.trans ho hle hk (App.base (e2.trans ex) ha5)
        simp -dsimp (disch := first | with_reducible assumption | omega | (intro h_; cases h_; done) | (simp only [LN] <;> omega) | (simp only [LF]; done) | (repeat (first | with_reducible assumption | apply Ext.refl | apply Ext.app | (apply Ext.set <;> omega) | (refine Ext.trans ?_ (by assumption))))) only [AX, TY, gV, dstOf, p_makeFunc, p_mapUpdate, mapPut, entsOf, p_lookup, p_extract, p_nilCheck, oneV, p_load, p_store, p_binOp, p_unOp, p_indexAddr, p_index, p_box, p_build, evParts, builtinV, load1, ldc, splice, minds, disj, rcOf, isCall, touchV, idsOf, mapId, touchB, p_buildSlice, buildSliceV, reps, fillV, p_convert, p_slice, evO, p_makeSlice, sid_some, soff_some, Nat.reduceLT, Nat.reduceLeDiff, Nat.reduceEqDiff, Nat.reduceAdd, Nat.reduceMul, Int.reduceBEq, Int.reduceEq, Int.reduceNeg, Int.reduceLT, Int.reduceLE, Int.reduceAdd, Int.reduceSub, Int.reduceMul, Int.reduceToNat, Int.reduceGT, Nat.reduceBEq, Nat.reducePow, Nat.reduceGT, reduceCtorEq, ↓reduceIte, t0, t4, t5, t7, hw1, hw2]
        refine ⟨m - 1, by omega, i + j, l ++ [v], ?_⟩
        constructor <;> (try first | assumption | ((repeat (first | assumption | apply Ext.refl | apply Ext.app | (apply Ext.set <;> omega) | exact Ext.trans (by assumption) (by assumption) | (refine Ext.trans ?_ (by assumption)))); done) | (refine Sl.ext (by assumption) ?_; (repeat (first | assumption | apply Ext.refl | apply Ext.app | (apply Ext.set <;> omega) | exact Ext.trans (by assumption) (by assumption) | (refine Ext.trans ?_ (by assumption)))); done) | (simp -dsimp (disch := first | with_reducible assumption | omega | (intro h_; cases h_; done) | (simp only [LN] <;> omega) | (simp only [LF]; done) | (repeat (first | with_reducible assumption | apply Ext.refl | apply Ext.app | (apply Ext.set <;> omega) | (refine Ext.trans ?_ (by assumption))))) only [AX, TY, gV, dstOf, p_makeFunc, p_mapUpdate, mapPut, entsOf, p_lookup, p_extract, p_nilCheck, oneV, p_load, p_store, p_binOp, p_unOp, p_indexAddr, p_index, p_box, p_build, evParts, builtinV, load1, ldc, splice, minds, disj, rcOf, isCall, touchV, idsOf, mapId, touchB, p_buildSlice, buildSliceV, reps, fillV, p_convert, p_slice, evO, p_makeSlice, sid_some, soff_some, Nat.reduceLT, Nat.reduceLeDiff, Nat.reduceEqDiff, Nat.reduceAdd, Nat.reduceMul, Int.reduceBEq, Int.reduceEq, Int.reduceNeg, Int.reduceLT, Int.reduceLE, Int.reduceAdd, Int.reduceSub, Int.reduceMul, Int.reduceToNat, Int.reduceGT, Nat.reduceBEq, Nat.reducePow, Nat.reduceGT, reduceCtorEq, ↓reduceIte, t0, t4, t5, t7, Int.natCast_add, Int.natCast_one, Int.natCast_zero]; try (first | assumption | with_reducible rfl)))
        all_goals first | omega | exact snoc_G hg hvG | (simp only [List.length_append, List.length_cons, List.length_nil]; omega) | (rw [List.all_append, hval]; simp [hv]; done) | (rw [← hrest]; exact hdec.snoc hd hv) | (rw [List.length_append]; rfl) | skip
end Go.Proofs.YtngcicclaehpbaaDoorA
