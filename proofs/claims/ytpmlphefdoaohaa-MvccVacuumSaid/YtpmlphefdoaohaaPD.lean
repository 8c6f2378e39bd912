/- Words of this session: chapter 22: the clock: New, Begin, End, Next, Horizon, Last. -/
import Derived.Test.YtpmlphefdoaohaaPC
namespace Go.Proofs.YtpmlphefdoaohaaA
open Go Go.Proofs Go.RowKit
set_option linter.unusedVariables false
set_option linter.unusedSimpArgs false
set_option maxRecDepth 10000
@[reducible] def ei (a : Int) : List V := [.int .i64 a]
/-- A clock at block k: last stamp, active snapshots; its blocks are b and more. -/
structure Clk (b : Nat) (h : Heap) (k : Nat) (last : Int) (ys : List Int) : Prop where
  bk : b ≤ k
  srt : Srt ys
  ex : ∃ p c oid, h[k]? = some (.cells [.int .i64 last, .slice p ys.length c] .rw) ∧ Gr b h p c oid 1 ei ys ∧ oid ≠ some k ∧ (c = none ∨ ys = [])
def nxt (l : Int) : Int := if l < 4611686018427387904 then l + 1 else l
def mx0 (a : Int) : Int := if 0 > a then 0 else a
theorem new_ok {h : Heap} (a : Int) : WR (callE Try.prog hk 11 [.int .i64 a] h) fun r h' => h' = h ++ [.cells [.int .i64 (mx0 a), .slice none 0 (some 0)] .rw] ∧ r = .ptr (some (h.length, 0)) := by
  refine WR.call (hH := rfl) Try.func11 rfl (n := 7) rfl rfl (by simp) ?_
  have hm : foldV max2V (.int .i64 a) [.int .i64 0] = some (.int .i64 (mx0 a)) := rfl
  simp -dsimp (disch := first | with_reducible assumption | omega | (intro h_; cases h_; done) | (simp only [LN] <;> omega) | (simp only [LF]; done) | (repeat (first | with_reducible assumption | apply Ext.refl | apply Ext.app | (apply Ext.set <;> omega) | (refine Ext.trans ?_ (by assumption))))) only [AX, TY, gV, dstOf, p_makeFunc, p_mapUpdate, mapPut, entsOf, p_lookup, p_extract, p_nilCheck, oneV, p_load, p_store, p_binOp, p_unOp, p_indexAddr, p_index, p_box, p_build, evParts, builtinV, load1, ldc, splice, minds, disj, rcOf, isCall, touchV, idsOf, mapId, touchB, p_buildSlice, buildSliceV, reps, fillV, p_convert, p_slice, evO, p_makeSlice, sid_some, soff_some, Nat.reduceLT, Nat.reduceLeDiff, Nat.reduceEqDiff, Nat.reduceAdd, Nat.reduceMul, Int.reduceBEq, Int.reduceEq, Int.reduceNeg, Int.reduceLT, Int.reduceLE, Int.reduceAdd, Int.reduceSub, Int.reduceMul, Int.reduceToNat, Int.reduceGT, Nat.reduceBEq, Nat.reducePow, Nat.reduceGT, reduceCtorEq, ↓reduceIte, hm]
theorem new_clk (h : Heap) (a : Int) : Clk h.length (h ++ [.cells [.int .i64 (mx0 a), .slice none 0 (some 0)] .rw]) h.length (mx0 a) [] :=
  ⟨Nat.le_refl _, fun i j x y _ h => by simp at h, _, _, _, snoc_last _ rfl, .nil _ _ _ _, by simp, .inr rfl⟩
theorem last_ok {b : Nat} {h : Heap} {k : Nat} {last : Int} {ys : List Int} (hc : Clk b h k last ys) : WR (callE Try.prog hk 13 [.ptr (some (k, 0))] h) fun r h' => h = h' ∧ r = .int .i64 last := by
  obtain ⟨bk, srt, p, c, oid, hk1, gr, hne, hcn⟩ := hc
  have l0 : loadN h k 0 1 = some [.int .i64 last] := by rw [loadN_of hk1 (by simp)]; rfl
  refine WR.call (hH := rfl) Try.func13 rfl (n := 7) rfl rfl (by simp) ?_
  simp -dsimp (disch := first | with_reducible assumption | omega | (intro h_; cases h_; done) | (simp only [LN] <;> omega) | (simp only [LF]; done) | (repeat (first | with_reducible assumption | apply Ext.refl | apply Ext.app | (apply Ext.set <;> omega) | (refine Ext.trans ?_ (by assumption))))) only [AX, TY, gV, dstOf, p_makeFunc, p_mapUpdate, mapPut, entsOf, p_lookup, p_extract, p_nilCheck, oneV, p_load, p_store, p_binOp, p_unOp, p_indexAddr, p_index, p_box, p_build, evParts, builtinV, load1, ldc, splice, minds, disj, rcOf, isCall, touchV, idsOf, mapId, touchB, p_buildSlice, buildSliceV, reps, fillV, p_convert, p_slice, evO, p_makeSlice, sid_some, soff_some, Nat.reduceLT, Nat.reduceLeDiff, Nat.reduceEqDiff, Nat.reduceAdd, Nat.reduceMul, Int.reduceBEq, Int.reduceEq, Int.reduceNeg, Int.reduceLT, Int.reduceLE, Int.reduceAdd, Int.reduceSub, Int.reduceMul, Int.reduceToNat, Int.reduceGT, Nat.reduceBEq, Nat.reducePow, Nat.reduceGT, reduceCtorEq, ↓reduceIte, l0]
theorem horizon_ok {b : Nat} {h : Heap} {k : Nat} {last : Int} {ys : List Int} (hc : Clk b h k last ys) : WR (callE Try.prog hk 12 [.ptr (some (k, 0))] h) fun r h' => h = h' ∧ r = .int .i64 (ys.headD last) := by
  obtain ⟨bk, srt, p, c, oid, hk1, gr, hne, hcn⟩ := hc
  have hs := gr.sl
  have hsm := hs.small
  have hn := hs.nil'
  have l0 : loadN h k 0 1 = some [.int .i64 last] := by rw [loadN_of hk1 (by simp)]; rfl
  have l1 : loadN h k 1 1 = some [.slice p ys.length c] := by rw [loadN_of hk1 (by simp)]; rfl
  refine WR.call (hH := rfl) Try.func12 rfl (n := 19) rfl rfl (by simp) ?_
  by_cases hy : ys.length = 0
  · have hd : decide ((ys.length : Int) > 0) = false := decide_eq_false (by omega)
    have : ys = [] := List.eq_nil_of_length_eq_zero hy
    simp -dsimp (disch := first | with_reducible assumption | omega | (intro h_; cases h_; done) | (simp only [LN] <;> omega) | (simp only [LF]; done) | (repeat (first | with_reducible assumption | apply Ext.refl | apply Ext.app | (apply Ext.set <;> omega) | (refine Ext.trans ?_ (by assumption))))) only [AX, TY, gV, dstOf, p_makeFunc, p_mapUpdate, mapPut, entsOf, p_lookup, p_extract, p_nilCheck, oneV, p_load, p_store, p_binOp, p_unOp, p_indexAddr, p_index, p_box, p_build, evParts, builtinV, load1, ldc, splice, minds, disj, rcOf, isCall, touchV, idsOf, mapId, touchB, p_buildSlice, buildSliceV, reps, fillV, p_convert, p_slice, evO, p_makeSlice, sid_some, soff_some, Nat.reduceLT, Nat.reduceLeDiff, Nat.reduceEqDiff, Nat.reduceAdd, Nat.reduceMul, Int.reduceBEq, Int.reduceEq, Int.reduceNeg, Int.reduceLT, Int.reduceLE, Int.reduceAdd, Int.reduceSub, Int.reduceMul, Int.reduceToNat, Int.reduceGT, Nat.reduceBEq, Nat.reducePow, Nat.reduceGT, reduceCtorEq, ↓reduceIte, l0, l1, hd]
    subst this; rfl
  · have hd : decide ((ys.length : Int) > 0) = true := decide_eq_true (by omega)
    have l2 : loadN h (sid p) (soff p) 1 = some [.int .i64 (ys.headD last)] := by
      cases p with
      | none => exact absurd (hn rfl) hy
      | some q =>
        obtain ⟨a, o⟩ := q
        obtain ⟨C, k', h1, h2, h3⟩ := hs.reads a o rfl
        show loadN h a o 1 = _
        rw [loadN_of h1 (by omega)]
        have := h3 0 ys[0] (List.getElem?_eq_getElem (by omega))
        rw [Nat.zero_mul, Nat.add_zero] at this
        rw [this]
        cases ys with
        | nil => simp at hy
        | cons y ys => rfl
    simp -dsimp (disch := first | with_reducible assumption | omega | (intro h_; cases h_; done) | (simp only [LN] <;> omega) | (simp only [LF]; done) | (repeat (first | with_reducible assumption | apply Ext.refl | apply Ext.app | (apply Ext.set <;> omega) | (refine Ext.trans ?_ (by assumption))))) only [AX, TY, gV, dstOf, p_makeFunc, p_mapUpdate, mapPut, entsOf, p_lookup, p_extract, p_nilCheck, oneV, p_load, p_store, p_binOp, p_unOp, p_indexAddr, p_index, p_box, p_build, evParts, builtinV, load1, ldc, splice, minds, disj, rcOf, isCall, touchV, idsOf, mapId, touchB, p_buildSlice, buildSliceV, reps, fillV, p_convert, p_slice, evO, p_makeSlice, sid_some, soff_some, Nat.reduceLT, Nat.reduceLeDiff, Nat.reduceEqDiff, Nat.reduceAdd, Nat.reduceMul, Int.reduceBEq, Int.reduceEq, Int.reduceNeg, Int.reduceLT, Int.reduceLE, Int.reduceAdd, Int.reduceSub, Int.reduceMul, Int.reduceToNat, Int.reduceGT, Nat.reduceBEq, Nat.reducePow, Nat.reduceGT, reduceCtorEq, ↓reduceIte, l0, l1, hd, hs.load0, l2]
theorem next_ok {b : Nat} {h : Heap} {k : Nat} {last : Int} {ys : List Int} (hc : Clk b h k last ys) (hb : -9223372036854775808 ≤ last) : WR (callE Try.prog hk 15 [.ptr (some (k, 0))] h) fun r h' => r = .int .i64 (nxt last) ∧ Clk b h' k (nxt last) ys ∧ (∀ i, i < b → h'[i]? = h[i]?) ∧ h'.length = h.length := by
  obtain ⟨bk, srt, p, c, oid, hk1, gr, hne, hcn⟩ := hc
  have l0 : loadN h k 0 1 = some [.int .i64 last] := by rw [loadN_of hk1 (by simp)]; rfl
  have hlt := lt_of_some hk1
  refine WR.call (hH := rfl) Try.func15 rfl (n := 19) rfl rfl (by simp) ?_
  by_cases hl : last < 4611686018427387904
  · have hd : decide (last < 4611686018427387904) = true := decide_eq_true hl
    have hw : IntKind.i64.wrap (last + 1) = last + 1 := by rw [IntKind.wrap_i64]; omega
    have hst : storeN h k 0 [.int .i64 (last + 1)] = some (h.set k (.cells [.int .i64 (last + 1), .slice p ys.length c] .rw)) := by rw [storeN_of hk1 (by simp) (by simp) rfl]; rfl
    have l2 : loadN (h.set k (.cells [.int .i64 (last + 1), .slice p ys.length c] .rw)) k 0 1 = some [.int .i64 (last + 1)] := by rw [loadN_of (List.getElem?_set_self hlt) (by simp)]; rfl
    simp -dsimp (disch := first | with_reducible assumption | omega | (intro h_; cases h_; done) | (simp only [LN] <;> omega) | (simp only [LF]; done) | (repeat (first | with_reducible assumption | apply Ext.refl | apply Ext.app | (apply Ext.set <;> omega) | (refine Ext.trans ?_ (by assumption))))) only [AX, TY, gV, dstOf, p_makeFunc, p_mapUpdate, mapPut, entsOf, p_lookup, p_extract, p_nilCheck, oneV, p_load, p_store, p_binOp, p_unOp, p_indexAddr, p_index, p_box, p_build, evParts, builtinV, load1, ldc, splice, minds, disj, rcOf, isCall, touchV, idsOf, mapId, touchB, p_buildSlice, buildSliceV, reps, fillV, p_convert, p_slice, evO, p_makeSlice, sid_some, soff_some, Nat.reduceLT, Nat.reduceLeDiff, Nat.reduceEqDiff, Nat.reduceAdd, Nat.reduceMul, Int.reduceBEq, Int.reduceEq, Int.reduceNeg, Int.reduceLT, Int.reduceLE, Int.reduceAdd, Int.reduceSub, Int.reduceMul, Int.reduceToNat, Int.reduceGT, Nat.reduceBEq, Nat.reducePow, Nat.reduceGT, reduceCtorEq, ↓reduceIte, l0, hd, hw, hst, l2]
    have hx : nxt last = last + 1 := if_pos hl
    simp only [hx, true_and, and_true]
    refine ⟨⟨bk, srt, p, c, oid, List.getElem?_set_self hlt, gr.keep fun id e => List.getElem?_set_ne (fun q => hne (by rw [e, q])), hne, hcn⟩, fun i hi => List.getElem?_set_ne (by omega)⟩
  · have hd : decide (last < 4611686018427387904) = false := decide_eq_false hl
    simp -dsimp (disch := first | with_reducible assumption | omega | (intro h_; cases h_; done) | (simp only [LN] <;> omega) | (simp only [LF]; done) | (repeat (first | with_reducible assumption | apply Ext.refl | apply Ext.app | (apply Ext.set <;> omega) | (refine Ext.trans ?_ (by assumption))))) only [AX, TY, gV, dstOf, p_makeFunc, p_mapUpdate, mapPut, entsOf, p_lookup, p_extract, p_nilCheck, oneV, p_load, p_store, p_binOp, p_unOp, p_indexAddr, p_index, p_box, p_build, evParts, builtinV, load1, ldc, splice, minds, disj, rcOf, isCall, touchV, idsOf, mapId, touchB, p_buildSlice, buildSliceV, reps, fillV, p_convert, p_slice, evO, p_makeSlice, sid_some, soff_some, Nat.reduceLT, Nat.reduceLeDiff, Nat.reduceEqDiff, Nat.reduceAdd, Nat.reduceMul, Int.reduceBEq, Int.reduceEq, Int.reduceNeg, Int.reduceLT, Int.reduceLE, Int.reduceAdd, Int.reduceSub, Int.reduceMul, Int.reduceToNat, Int.reduceGT, Nat.reduceBEq, Nat.reducePow, Nat.reduceGT, reduceCtorEq, ↓reduceIte, l0, hd]
    have hx : nxt last = last := if_neg hl
    simp only [hx, true_and, and_true]
    exact ⟨bk, srt, p, c, oid, hk1, gr, hne, hcn⟩
theorem ins_get {ys : List Int} {x : Int} {i : Nat} (hi : i ≤ ys.length) (j : Nat) : (ys.take i ++ [x] ++ ys.drop i)[j]? = if j < i then ys[j]? else if j = i then some x else ys[j - 1]? := by
  have hl : (ys.take i).length = i := by rw [List.length_take]; omega
  have hl2 : (ys.take i ++ [x]).length = i + 1 := by rw [List.length_append, hl]; rfl
  by_cases h1 : j < i
  · rw [if_pos h1, List.getElem?_append_left (by omega), List.getElem?_append_left (by omega), List.getElem?_take_of_lt h1]
  · rw [if_neg h1]
    by_cases h2 : j = i
    · subst h2
      rw [if_pos rfl, List.getElem?_append_left (by omega), List.getElem?_append_right (by omega), hl]; simp
    · rw [if_neg h2, List.getElem?_append_right (by omega), hl2, List.getElem?_drop]
      congr 1; omega
theorem ins_srt {ys : List Int} {x : Int} {i : Nat} (hs : Srt ys) (ha : At ys x i) : Srt (ys.take i ++ [x] ++ ys.drop i) := by
  intro a b u v hab hu hv
  rw [ins_get ha.le] at hu hv
  split at hu
  · split at hv
    · exact hs a b u v hab hu hv
    · split at hv
      · cases hv; have := ha.lo a (by assumption) u hu; omega
      · exact hs a (b - 1) u v (by omega) hu hv
  · split at hu
    · cases hu
      split at hv
      · omega
      · split at hv
        · cases hv; exact Int.le_refl _
        · exact ha.hi (b - 1) (by omega) v hv
    · split at hv
      · omega
      · split at hv
        · omega
        · exact hs (a - 1) (b - 1) u v (by omega) hu hv
theorem begin_ok {b : Nat} {h : Heap} {k : Nat} {last : Int} {ys : List Int} (hc : Clk b h k last ys) (hlen : ys.length ≤ 1000) (hbh : b ≤ h.length) : WR (callE Try.prog hk 14 [.ptr (some (k, 0))] h) fun r h' => r = .int .i64 last ∧ (∃ i, At ys last i ∧ Clk b h' k last (ys.take i ++ [last] ++ ys.drop i)) ∧ (∀ i, i < b → h'[i]? = h[i]?) ∧ h.length ≤ h'.length := by
  obtain ⟨bk, srt, p, c, oid, hk1, gr, hne, hcn⟩ := hc
  have l0 : loadN h k 0 1 = some [.int .i64 last] := by rw [loadN_of hk1 (by simp)]; rfl
  have l1 : loadN h k 1 1 = some [.slice p ys.length c] := by rw [loadN_of hk1 (by simp)]; rfl
  have hlt := lt_of_some hk1
  have hs := gr.sl
  have hsm := hs.small
  have hn := hs.nil'
  refine WR.call (hH := rfl) Try.func14 rfl (n := 35) rfl rfl (by simp) ?_
  simp -dsimp (disch := first | with_reducible assumption | omega | (intro h_; cases h_; done) | (simp only [LN] <;> omega) | (simp only [LF]; done) | (repeat (first | with_reducible assumption | apply Ext.refl | apply Ext.app | (apply Ext.set <;> omega) | (refine Ext.trans ?_ (by assumption))))) only [AX, TY, gV, dstOf, p_makeFunc, p_mapUpdate, mapPut, entsOf, p_lookup, p_extract, p_nilCheck, oneV, p_load, p_store, p_binOp, p_unOp, p_indexAddr, p_index, p_box, p_build, evParts, builtinV, load1, ldc, splice, minds, disj, rcOf, isCall, touchV, idsOf, mapId, touchB, p_buildSlice, buildSliceV, reps, fillV, p_convert, p_slice, evO, p_makeSlice, sid_some, soff_some, Nat.reduceLT, Nat.reduceLeDiff, Nat.reduceEqDiff, Nat.reduceAdd, Nat.reduceMul, Int.reduceBEq, Int.reduceEq, Int.reduceNeg, Int.reduceLT, Int.reduceLE, Int.reduceAdd, Int.reduceSub, Int.reduceMul, Int.reduceToNat, Int.reduceGT, Nat.reduceBEq, Nat.reducePow, Nat.reduceGT, reduceCtorEq, ↓reduceIte]
  refine W.drawn [(0, []), (1, []), (2, []), (3, []), (4, [3, 2, 1, 0]), (5, [3, 2, 1, 0]), (6, [3, 2, 1, 0]), (7, [3, 2, 1, 0]), (8, []), (9, []), (10, []), (11, [10]), (12, [11]), (13, [])] (by decide +kernel) ?_
  simp -dsimp (disch := first | with_reducible assumption | omega | (intro h_; cases h_; done) | (simp only [LN] <;> omega) | (simp only [LF]; done) | (repeat (first | with_reducible assumption | apply Ext.refl | apply Ext.app | (apply Ext.set <;> omega) | (refine Ext.trans ?_ (by assumption))))) only [AX, TY, gV, dstOf, p_makeFunc, p_mapUpdate, mapPut, entsOf, p_lookup, p_extract, p_nilCheck, oneV, p_load, p_store, p_binOp, p_unOp, p_indexAddr, p_index, p_box, p_build, evParts, builtinV, load1, ldc, splice, minds, disj, rcOf, isCall, touchV, idsOf, mapId, touchB, p_buildSlice, buildSliceV, reps, fillV, p_convert, p_slice, evO, p_makeSlice, sid_some, soff_some, Nat.reduceLT, Nat.reduceLeDiff, Nat.reduceEqDiff, Nat.reduceAdd, Nat.reduceMul, Int.reduceBEq, Int.reduceEq, Int.reduceNeg, Int.reduceLT, Int.reduceLE, Int.reduceAdd, Int.reduceSub, Int.reduceMul, Int.reduceToNat, Int.reduceGT, Nat.reduceBEq, Nat.reducePow, Nat.reduceGT, reduceCtorEq, ↓reduceIte, l0, l1]
  refine (bs_ok hs srt).mono ?_
  rintro _ _ ⟨rfl, i, hat, rfl⟩
  have hok : oid ≠ some _ := fun e => Nat.lt_irrefl _ (gr.lt e)
  obtain ⟨p', oid', h2, hins, gr2, ho, hle, hkp, hbp⟩ := (gr.ext (hh := _ ++ [O.cells [.int .i64 last] .rw]) (by (repeat (first | assumption | apply Ext.refl | apply Ext.app | (apply Ext.set <;> omega) | exact Ext.trans (by assumption) (by assumption) | (refine Ext.trans ?_ (by assumption)))))).insert insW insN (zs := [last]) (vc := some 1) (i := i) (by simp; omega) (snoc_last _ rfl) hok (by simp) (by simp [V.leaf]) (by simp) hat.le (by simp; omega) (by simp; omega)
  rw [← hk27] at hins
  simp only [List.length_cons, List.length_nil, Nat.zero_add] at hins
  have hk2 := hkp k (fun e => hne e) (by simp; omega)
  rw [snoc_old _ hlt, hk1] at hk2
  have hst : storeN h2 k 1 [.slice p' (ys.length + 1) none] = some (h2.set k (.cells [.int .i64 last, .slice p' (ys.length + 1) none] .rw)) := by rw [storeN_of hk2 (by simp) (by simp) rfl]; rfl
  have l2 : loadN (h2.set k (.cells [.int .i64 last, .slice p' (ys.length + 1) none] .rw)) k 0 1 = some [.int .i64 last] := by rw [loadN_of (List.getElem?_set_self (lt_of_some hk2)) (by simp)]; rfl
  simp -dsimp (disch := first | with_reducible assumption | omega | (intro h_; cases h_; done) | (simp only [LN] <;> omega) | (simp only [LF]; done) | (repeat (first | with_reducible assumption | apply Ext.refl | apply Ext.app | (apply Ext.set <;> omega) | (refine Ext.trans ?_ (by assumption))))) only [AX, TY, gV, dstOf, p_makeFunc, p_mapUpdate, mapPut, entsOf, p_lookup, p_extract, p_nilCheck, oneV, p_load, p_store, p_binOp, p_unOp, p_indexAddr, p_index, p_box, p_build, evParts, builtinV, load1, ldc, splice, minds, disj, rcOf, isCall, touchV, idsOf, mapId, touchB, p_buildSlice, buildSliceV, reps, fillV, p_convert, p_slice, evO, p_makeSlice, sid_some, soff_some, Nat.reduceLT, Nat.reduceLeDiff, Nat.reduceEqDiff, Nat.reduceAdd, Nat.reduceMul, Int.reduceBEq, Int.reduceEq, Int.reduceNeg, Int.reduceLT, Int.reduceLE, Int.reduceAdd, Int.reduceSub, Int.reduceMul, Int.reduceToNat, Int.reduceGT, Nat.reduceBEq, Nat.reducePow, Nat.reduceGT, reduceCtorEq, ↓reduceIte]
  refine W.drawn [(0, []), (1, [0]), (2, [0]), (3, [0]), (4, [0]), (5, [4, 3, 2, 1, 0]), (6, [5, 4, 3, 2, 1, 0]), (7, [5, 4, 3, 2, 1, 0]), (8, [5, 4, 3, 2, 1, 0]), (9, [5, 4, 3, 2, 1, 0]), (10, [5, 4, 3, 2, 1, 0]), (11, [0]), (12, []), (13, []), (14, [])] (by decide +kernel) ?_
  simp -dsimp (disch := first | with_reducible assumption | omega | (intro h_; cases h_; done) | (simp only [LN] <;> omega) | (simp only [LF]; done) | (repeat (first | with_reducible assumption | apply Ext.refl | apply Ext.app | (apply Ext.set <;> omega) | (refine Ext.trans ?_ (by assumption))))) only [AX, TY, gV, dstOf, p_makeFunc, p_mapUpdate, mapPut, entsOf, p_lookup, p_extract, p_nilCheck, oneV, p_load, p_store, p_binOp, p_unOp, p_indexAddr, p_index, p_box, p_build, evParts, builtinV, load1, ldc, splice, minds, disj, rcOf, isCall, touchV, idsOf, mapId, touchB, p_buildSlice, buildSliceV, reps, fillV, p_convert, p_slice, evO, p_makeSlice, sid_some, soff_some, Nat.reduceLT, Nat.reduceLeDiff, Nat.reduceEqDiff, Nat.reduceAdd, Nat.reduceMul, Int.reduceBEq, Int.reduceEq, Int.reduceNeg, Int.reduceLT, Int.reduceLE, Int.reduceAdd, Int.reduceSub, Int.reduceMul, Int.reduceToNat, Int.reduceGT, Nat.reduceBEq, Nat.reducePow, Nat.reduceGT, reduceCtorEq, ↓reduceIte, l0, l1, hins, hst, l2]
  have hl : (ys.take i ++ [last] ++ ys.drop i).length = ys.length + 1 := by have := hat.le; simp; omega
  rw [List.length_append] at hle
  refine ⟨⟨i, hat, bk, ins_srt srt hat, p', none, oid', by rw [hl]; exact List.getElem?_set_self (lt_of_some hk2), gr2.keep fun id e => List.getElem?_set_ne fun q => ?_, fun e => ?_, .inl rfl⟩, fun j hj => ?_, by omega⟩
  · rcases ho with e2 | e2
    · exact hne (by rw [← e2, e, q])
    · rw [e2] at e; cases e; simp at q; omega
  · rcases ho with e2 | e2
    · exact hne (by rw [← e2, e])
    · rw [e2] at e; simp at e; omega
  · rw [List.getElem?_set_ne (by omega), hbp j hj, snoc_old _ (by omega)]
def EndR (b : Nat) (h : Heap) (k : Nat) (last : Int) (ys : List Int) (x : Int) (r : V) (h' : Heap) : Prop :=
  ∃ i, At ys x i ∧ ((ys[i]? = some x ∧ r = .int .i64 0 ∧ Clk b h' k last (ys.take i ++ ys.drop (i + 1))) ∨ (ys[i]? ≠ some x ∧ r = .int .i64 4 ∧ Clk b h' k last ys)) ∧ (∀ i, i < b → h'[i]? = h[i]?) ∧ h.length ≤ h'.length
theorem del_srt {ys : List Int} {i : Nat} (hs : Srt ys) : Srt (ys.take i ++ ys.drop (i + 1)) := by
  have hg : ∀ j, (ys.take i ++ ys.drop (i + 1))[j]? = if j < i then ys[j]? else if i ≤ ys.length then ys[j + 1]? else none := by
    intro j
    by_cases hi : i ≤ ys.length
    · have hl : (ys.take i).length = i := by rw [List.length_take]; omega
      by_cases h1 : j < i
      · rw [if_pos h1, List.getElem?_append_left (by omega), List.getElem?_take_of_lt h1]
      · rw [if_neg h1, if_pos hi, List.getElem?_append_right (by omega), hl, List.getElem?_drop]
        congr 1; omega
    · rw [List.take_of_length_le (by omega), List.drop_of_length_le (by omega), List.append_nil, if_neg hi]
      split
      · rfl
      · exact List.getElem?_eq_none (by omega)
  intro a b u v hab hu hv
  rw [hg] at hu hv
  split at hu
  · split at hv
    · exact hs a b u v hab hu hv
    · split at hv
      · exact hs a (b + 1) u v (by omega) hu hv
      · cases hv
  · split at hu
    · split at hv
      · omega
      · exact hs (a + 1) (b + 1) u v (by omega) hu hv
    · cases hu
theorem end_ok {b : Nat} {h : Heap} {k : Nat} {last : Int} {ys : List Int} {x : Int} (hc : Clk b h k last ys) (hlen : ys.length ≤ 1000) (hbh : b ≤ h.length) : WR (callE Try.prog hk 16 [.ptr (some (k, 0)), .int .i64 x] h) (EndR b h k last ys x) := by
  obtain ⟨bk, srt, p, c, oid, hk1, gr, hne, hcn⟩ := hc
  have l0 : loadN h k 0 1 = some [.int .i64 last] := by rw [loadN_of hk1 (by simp)]; rfl
  have l1 : loadN h k 1 1 = some [.slice p ys.length c] := by rw [loadN_of hk1 (by simp)]; rfl
  have hlt := lt_of_some hk1
  have hs := gr.sl
  refine WR.call (hH := rfl) Try.func16 rfl (n := 29) rfl rfl (by simp) ?_
  simp -dsimp (disch := first | with_reducible assumption | omega | (intro h_; cases h_; done) | (simp only [LN] <;> omega) | (simp only [LF]; done) | (repeat (first | with_reducible assumption | apply Ext.refl | apply Ext.app | (apply Ext.set <;> omega) | (refine Ext.trans ?_ (by assumption))))) only [AX, TY, gV, dstOf, p_makeFunc, p_mapUpdate, mapPut, entsOf, p_lookup, p_extract, p_nilCheck, oneV, p_load, p_store, p_binOp, p_unOp, p_indexAddr, p_index, p_box, p_build, evParts, builtinV, load1, ldc, splice, minds, disj, rcOf, isCall, touchV, idsOf, mapId, touchB, p_buildSlice, buildSliceV, reps, fillV, p_convert, p_slice, evO, p_makeSlice, sid_some, soff_some, Nat.reduceLT, Nat.reduceLeDiff, Nat.reduceEqDiff, Nat.reduceAdd, Nat.reduceMul, Int.reduceBEq, Int.reduceEq, Int.reduceNeg, Int.reduceLT, Int.reduceLE, Int.reduceAdd, Int.reduceSub, Int.reduceMul, Int.reduceToNat, Int.reduceGT, Nat.reduceBEq, Nat.reducePow, Nat.reduceGT, reduceCtorEq, ↓reduceIte, l0, l1]
  refine (bs_ok hs srt).mono ?_
  rintro _ _ ⟨rfl, i, hat, rfl⟩
  cases hq : decide (ys[i]? = some x) with
  | false =>
    have hq' := of_decide_eq_false hq
    simp -dsimp (disch := first | with_reducible assumption | omega | (intro h_; cases h_; done) | (simp only [LN] <;> omega) | (simp only [LF]; done) | (repeat (first | with_reducible assumption | apply Ext.refl | apply Ext.app | (apply Ext.set <;> omega) | (refine Ext.trans ?_ (by assumption))))) only [AX, TY, gV, dstOf, p_makeFunc, p_mapUpdate, mapPut, entsOf, p_lookup, p_extract, p_nilCheck, oneV, p_load, p_store, p_binOp, p_unOp, p_indexAddr, p_index, p_box, p_build, evParts, builtinV, load1, ldc, splice, minds, disj, rcOf, isCall, touchV, idsOf, mapId, touchB, p_buildSlice, buildSliceV, reps, fillV, p_convert, p_slice, evO, p_makeSlice, sid_some, soff_some, Nat.reduceLT, Nat.reduceLeDiff, Nat.reduceEqDiff, Nat.reduceAdd, Nat.reduceMul, Int.reduceBEq, Int.reduceEq, Int.reduceNeg, Int.reduceLT, Int.reduceLE, Int.reduceAdd, Int.reduceSub, Int.reduceMul, Int.reduceToNat, Int.reduceGT, Nat.reduceBEq, Nat.reducePow, Nat.reduceGT, reduceCtorEq, ↓reduceIte, hq, l0, l1]
    unfold EndR
    exact ⟨i, hat, .inr ⟨hq', rfl, bk, srt, p, c, oid, hk1, gr, hne, hcn⟩, fun _ _ => rfl, Nat.le_refl _⟩
  | true =>
    have hq' := of_decide_eq_true hq
    have hi : i < ys.length := (List.getElem?_eq_some_iff.1 hq').1
    have hc0 : c = none := hcn.resolve_right (fun e => by rw [e] at hi; simp at hi)
    subst hc0
    obtain ⟨p', oid', h2, hdel, gr2, ho, hle, hkp, hbp⟩ := gr.delete (F := callE Try.prog hk0 28) hbh (i := i) (j := i + 1) (by omega) hi
    rw [← hk28] at hdel
    have hw : IntKind.i64.wrap ((i : Int) + 1) = ((i + 1 : Nat) : Int) := by rw [IntKind.wrap_i64]; omega
    have hk2 := hkp k (fun e => hne e) hlt
    rw [hk1] at hk2
    have hst : storeN h2 k 1 [.slice p' (i + (ys.length - (i + 1))) none] = some (h2.set k (.cells [.int .i64 last, .slice p' (i + (ys.length - (i + 1))) none] .rw)) := by rw [storeN_of hk2 (by simp) (by simp) rfl]; rfl
    simp -dsimp (disch := first | with_reducible assumption | omega | (intro h_; cases h_; done) | (simp only [LN] <;> omega) | (simp only [LF]; done) | (repeat (first | with_reducible assumption | apply Ext.refl | apply Ext.app | (apply Ext.set <;> omega) | (refine Ext.trans ?_ (by assumption))))) only [AX, TY, gV, dstOf, p_makeFunc, p_mapUpdate, mapPut, entsOf, p_lookup, p_extract, p_nilCheck, oneV, p_load, p_store, p_binOp, p_unOp, p_indexAddr, p_index, p_box, p_build, evParts, builtinV, load1, ldc, splice, minds, disj, rcOf, isCall, touchV, idsOf, mapId, touchB, p_buildSlice, buildSliceV, reps, fillV, p_convert, p_slice, evO, p_makeSlice, sid_some, soff_some, Nat.reduceLT, Nat.reduceLeDiff, Nat.reduceEqDiff, Nat.reduceAdd, Nat.reduceMul, Int.reduceBEq, Int.reduceEq, Int.reduceNeg, Int.reduceLT, Int.reduceLE, Int.reduceAdd, Int.reduceSub, Int.reduceMul, Int.reduceToNat, Int.reduceGT, Nat.reduceBEq, Nat.reducePow, Nat.reduceGT, reduceCtorEq, ↓reduceIte, hq, l0, l1, hw, hdel, hst]
    unfold EndR
    have hl : (ys.take i ++ ys.drop (i + 1)).length = i + (ys.length - (i + 1)) := by simp; omega
    have hne2 : oid' ≠ some k := fun e => by
      rcases ho with e2 | e2
      · exact hne (by rw [← e2, e])
      · rw [e2] at e; simp at e; omega
    refine ⟨i, hat, .inl ⟨hq', rfl, bk, del_srt srt, p', none, oid', by rw [hl]; exact List.getElem?_set_self (lt_of_some hk2), gr2.keep fun id e => List.getElem?_set_ne fun q => hne2 (by rw [e, q]), hne2, .inl rfl⟩, fun j hj => ?_, by simpa using hle⟩
    rw [List.getElem?_set_ne (by omega), hbp j hj]
end Go.Proofs.YtpmlphefdoaohaaA
