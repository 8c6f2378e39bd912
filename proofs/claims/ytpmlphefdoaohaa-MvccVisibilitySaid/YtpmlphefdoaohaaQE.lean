/- Words of this session: chapter 22: slices.BinarySearch at []int. Words of this session: chapter 22: the clock: New, Begin, End, Next, Horizon, Last. Words of this session: chapter 22: Sees, awake. -/
import Derived.Test.YtpmlphefdoaohaaQB
namespace Go.Proofs.YtpmlphefdoaohaaA
open Go Go.Proofs Go.RowKit
set_option linter.unusedVariables false
set_option linter.unusedSimpArgs false
set_option maxRecDepth 10000
theorem nan50_ok {h : Heap} (a : Int) : WR (callE Try.prog hk 50 [.int .i64 a] h) fun r h' => h = h' ∧ r = .bool false := by
  refine WR.call (hH := rfl) Try.func50 rfl (n := 6) rfl rfl (by simp) ?_
  simp -dsimp (disch := first | with_reducible assumption | omega | (intro h_; cases h_; done) | (simp only [LN] <;> omega) | (simp only [LF]; done) | (repeat (first | with_reducible assumption | apply Ext.refl | apply Ext.app | (apply Ext.set <;> omega) | (refine Ext.trans ?_ (by assumption))))) only [AX, TY, gV, dstOf, p_makeFunc, p_mapUpdate, mapPut, entsOf, p_lookup, p_extract, p_nilCheck, oneV, p_load, p_store, p_binOp, p_unOp, p_indexAddr, p_index, p_box, p_build, evParts, builtinV, load1, ldc, splice, minds, disj, rcOf, isCall, touchV, idsOf, mapId, touchB, p_buildSlice, buildSliceV, reps, fillV, p_convert, p_slice, evO, p_makeSlice, sid_some, soff_some, Nat.reduceLT, Nat.reduceLeDiff, Nat.reduceEqDiff, Nat.reduceAdd, Nat.reduceMul, Int.reduceBEq, Int.reduceEq, Int.reduceNeg, Int.reduceLT, Int.reduceLE, Int.reduceAdd, Int.reduceSub, Int.reduceMul, Int.reduceToNat, Int.reduceGT, Nat.reduceBEq, Nat.reducePow, Nat.reduceGT, reduceCtorEq, ↓reduceIte]
theorem nan39_ok {h : Heap} (a : Int) : WR (callE Try.prog hk 39 [.int .i64 a] h) fun r h' => h = h' ∧ r = .bool false := by
  refine WR.call (hH := rfl) Try.func39 rfl (n := 6) rfl rfl (by simp) ?_
  simp -dsimp (disch := first | with_reducible assumption | omega | (intro h_; cases h_; done) | (simp only [LN] <;> omega) | (simp only [LF]; done) | (repeat (first | with_reducible assumption | apply Ext.refl | apply Ext.app | (apply Ext.set <;> omega) | (refine Ext.trans ?_ (by assumption))))) only [AX, TY, gV, dstOf, p_makeFunc, p_mapUpdate, mapPut, entsOf, p_lookup, p_extract, p_nilCheck, oneV, p_load, p_store, p_binOp, p_unOp, p_indexAddr, p_index, p_box, p_build, evParts, builtinV, load1, ldc, splice, minds, disj, rcOf, isCall, touchV, idsOf, mapId, touchB, p_buildSlice, buildSliceV, reps, fillV, p_convert, p_slice, evO, p_makeSlice, sid_some, soff_some, Nat.reduceLT, Nat.reduceLeDiff, Nat.reduceEqDiff, Nat.reduceAdd, Nat.reduceMul, Int.reduceBEq, Int.reduceEq, Int.reduceNeg, Int.reduceLT, Int.reduceLE, Int.reduceAdd, Int.reduceSub, Int.reduceMul, Int.reduceToNat, Int.reduceGT, Nat.reduceBEq, Nat.reducePow, Nat.reduceGT, reduceCtorEq, ↓reduceIte]
theorem less38_ok {h : Heap} (a b : Int) : WR (callE Try.prog hk 38 [.int .i64 a, .int .i64 b] h) fun r h' => h = h' ∧ r = .bool (decide (a < b)) := by
  refine WR.call (hH := rfl) Try.func38 rfl (n := 17) rfl rfl (by simp) ?_
  simp -dsimp (disch := first | with_reducible assumption | omega | (intro h_; cases h_; done) | (simp only [LN] <;> omega) | (simp only [LF]; done) | (repeat (first | with_reducible assumption | apply Ext.refl | apply Ext.app | (apply Ext.set <;> omega) | (refine Ext.trans ?_ (by assumption))))) only [AX, TY, gV, dstOf, p_makeFunc, p_mapUpdate, mapPut, entsOf, p_lookup, p_extract, p_nilCheck, oneV, p_load, p_store, p_binOp, p_unOp, p_indexAddr, p_index, p_box, p_build, evParts, builtinV, load1, ldc, splice, minds, disj, rcOf, isCall, touchV, idsOf, mapId, touchB, p_buildSlice, buildSliceV, reps, fillV, p_convert, p_slice, evO, p_makeSlice, sid_some, soff_some, Nat.reduceLT, Nat.reduceLeDiff, Nat.reduceEqDiff, Nat.reduceAdd, Nat.reduceMul, Int.reduceBEq, Int.reduceEq, Int.reduceNeg, Int.reduceLT, Int.reduceLE, Int.reduceAdd, Int.reduceSub, Int.reduceMul, Int.reduceToNat, Int.reduceGT, Nat.reduceBEq, Nat.reducePow, Nat.reduceGT, reduceCtorEq, ↓reduceIte]
  refine (nan50_ok a).mono ?_
  rintro _ _ ⟨rfl, rfl⟩
  simp -dsimp (disch := first | with_reducible assumption | omega | (intro h_; cases h_; done) | (simp only [LN] <;> omega) | (simp only [LF]; done) | (repeat (first | with_reducible assumption | apply Ext.refl | apply Ext.app | (apply Ext.set <;> omega) | (refine Ext.trans ?_ (by assumption))))) only [AX, TY, gV, dstOf, p_makeFunc, p_mapUpdate, mapPut, entsOf, p_lookup, p_extract, p_nilCheck, oneV, p_load, p_store, p_binOp, p_unOp, p_indexAddr, p_index, p_box, p_build, evParts, builtinV, load1, ldc, splice, minds, disj, rcOf, isCall, touchV, idsOf, mapId, touchB, p_buildSlice, buildSliceV, reps, fillV, p_convert, p_slice, evO, p_makeSlice, sid_some, soff_some, Nat.reduceLT, Nat.reduceLeDiff, Nat.reduceEqDiff, Nat.reduceAdd, Nat.reduceMul, Int.reduceBEq, Int.reduceEq, Int.reduceNeg, Int.reduceLT, Int.reduceLE, Int.reduceAdd, Int.reduceSub, Int.reduceMul, Int.reduceToNat, Int.reduceGT, Nat.reduceBEq, Nat.reducePow, Nat.reduceGT, reduceCtorEq, ↓reduceIte]
theorem shr1 (t : TypeId) (x y : Operand) (n : Nat) : binV Try.prog .shr t x y (.int .u64 (n : Int)) (.int .u64 1) = some (.int .u64 ((n / 2 : Nat) : Int)) := by
  show shiftV .shr .u64 (n : Int) 1 = _
  unfold shiftV
  rw [if_neg (by omega)]
  simp only [show min (1 : Int).toNat IntKind.u64.bits = 1 from rfl]
  rw [Int.fdiv_eq_ediv_of_nonneg _ (by omega)]
  simp
/-- Where x is to be put into ys. -/
structure At (ys : List Int) (x : Int) (i : Nat) : Prop where
  le : i ≤ ys.length
  lo : ∀ k, k < i → ∀ y, ys[k]? = some y → y < x
  hi : ∀ k, i ≤ k → ∀ y, ys[k]? = some y → x ≤ y
def Srt (ys : List Int) : Prop := ∀ (i j : Nat) (x y : Int), i ≤ j → ys[i]? = some x → ys[j]? = some y → x ≤ y
structure LB (p : Option (Nat × Nat)) (c : Option Nat) (ys : List Int) (x : Int) (h : Heap) (m lo hi : Nat) (τ : Tp) (hh : Heap) : Prop where
  hm : m + lo = hi
  e : hh = h
  t0 : τ 0 = .slice p ys.length c
  t1 : τ 1 = .int .i64 x
  t6 : τ 6 = .int .i64 ys.length
  t7 : τ 7 = .int .i64 lo
  t8 : τ 8 = .int .i64 hi
  le : lo ≤ hi
  le2 : hi ≤ ys.length
  low : ∀ k, k < lo → ∀ y, ys[k]? = some y → y < x
  high : ∀ k, hi ≤ k → ∀ y, ys[k]? = some y → x ≤ y
theorem bs_ok {h : Heap} {p : Option (Nat × Nat)} {c : Option Nat} {ys : List Int} {x : Int} (hs : Sl h p 1 (fun a => [.int .i64 a]) ys) (hso : Srt ys) :
    WR (callE Try.prog hk 26 [.slice p ys.length c, .int .i64 x] h) fun r h' => h = h' ∧ ∃ i, At ys x i ∧ r = .tuple [.int .i64 (i : Nat), .bool (decide (ys[i]? = some x))] := by
  have hsm := hs.small
  have hn := hs.nil'
  refine WR.call (hH := rfl) Try.func26 rfl (n := 54) rfl rfl (by simp) ?_
  simp -dsimp (disch := first | with_reducible assumption | omega | (intro h_; cases h_; done) | (simp only [LN] <;> omega) | (simp only [LF]; done) | (repeat (first | with_reducible assumption | apply Ext.refl | apply Ext.app | (apply Ext.set <;> omega) | (refine Ext.trans ?_ (by assumption))))) only [AX, TY, gV, dstOf, p_makeFunc, p_mapUpdate, mapPut, entsOf, p_lookup, p_extract, p_nilCheck, oneV, p_load, p_store, p_binOp, p_unOp, p_indexAddr, p_index, p_box, p_build, evParts, builtinV, load1, ldc, splice, minds, disj, rcOf, isCall, touchV, idsOf, mapId, touchB, p_buildSlice, buildSliceV, reps, fillV, p_convert, p_slice, evO, p_makeSlice, sid_some, soff_some, Nat.reduceLT, Nat.reduceLeDiff, Nat.reduceEqDiff, Nat.reduceAdd, Nat.reduceMul, Int.reduceBEq, Int.reduceEq, Int.reduceNeg, Int.reduceLT, Int.reduceLE, Int.reduceAdd, Int.reduceSub, Int.reduceMul, Int.reduceToNat, Int.reduceGT, Nat.reduceBEq, Nat.reducePow, Nat.reduceGT, reduceCtorEq, ↓reduceIte]
  refine W.loop (fun m τ hh => ∃ lo hi, LB p c ys x h m lo hi τ hh) ?_ (m := ys.length) ?_
  · rintro m τ hh ⟨lo, hi, inv⟩
    obtain ⟨hm, rfl, t0, t1, t6, t7, t8, hle, hle2, low, high⟩ := inv
    by_cases hb' : lo < hi
    · have hb : decide ((lo : Int) < (hi : Int)) = true := decide_eq_true (by omega)
      have hw1 : IntKind.i64.wrap ((lo : Int) + hi) = ((lo + hi : Nat) : Int) := by rw [IntKind.wrap_i64]; omega
      have hw2 : IntKind.u64.wrap ((lo + hi : Nat) : Int) = ((lo + hi : Nat) : Int) := by simp [IntKind.wrap, IntKind.bits, IntKind.signed]; omega
      have hw3 : IntKind.i64.wrap (((lo + hi) / 2 : Nat) : Int) = (((lo + hi) / 2 : Nat) : Int) := by rw [IntKind.wrap_i64]; omega
      have hmid : (lo + hi) / 2 < ys.length := by omega
      generalize hmd : (lo + hi) / 2 = mid at hmid hw3
      have hshr := fun t x y => shr1 t x y (lo + hi)
      rw [hmd] at hshr
      simp -dsimp (disch := first | with_reducible assumption | omega | (intro h_; cases h_; done) | (simp only [LN] <;> omega) | (simp only [LF]; done) | (repeat (first | with_reducible assumption | apply Ext.refl | apply Ext.app | (apply Ext.set <;> omega) | (refine Ext.trans ?_ (by assumption))))) only [AX, TY, gV, dstOf, p_makeFunc, p_mapUpdate, mapPut, entsOf, p_lookup, p_extract, p_nilCheck, oneV, p_load, p_store, p_binOp, p_unOp, p_indexAddr, p_index, p_box, p_build, evParts, builtinV, load1, ldc, splice, minds, disj, rcOf, isCall, touchV, idsOf, mapId, touchB, p_buildSlice, buildSliceV, reps, fillV, p_convert, p_slice, evO, p_makeSlice, sid_some, soff_some, Nat.reduceLT, Nat.reduceLeDiff, Nat.reduceEqDiff, Nat.reduceAdd, Nat.reduceMul, Int.reduceBEq, Int.reduceEq, Int.reduceNeg, Int.reduceLT, Int.reduceLE, Int.reduceAdd, Int.reduceSub, Int.reduceMul, Int.reduceToNat, Int.reduceGT, Nat.reduceBEq, Nat.reducePow, Nat.reduceGT, reduceCtorEq, ↓reduceIte, t0, t1, t6, t7, t8, hb, hw1, hw2, hw3, hshr, hs.load0]
      refine (less38_ok _ x).mono ?_
      rintro _ _ ⟨rfl, rfl⟩
      have hget : ys[mid]? = some ys[mid] := List.getElem?_eq_getElem hmid
      cases hq : decide (ys[mid] < x) with
      | true =>
        have hq' := of_decide_eq_true hq
        have hw4 : IntKind.i64.wrap ((mid : Int) + 1) = ((mid + 1 : Nat) : Int) := by rw [IntKind.wrap_i64]; omega
        simp -dsimp (disch := first | with_reducible assumption | omega | (intro h_; cases h_; done) | (simp only [LN] <;> omega) | (simp only [LF]; done) | (repeat (first | with_reducible assumption | apply Ext.refl | apply Ext.app | (apply Ext.set <;> omega) | (refine Ext.trans ?_ (by assumption))))) only [AX, TY, gV, dstOf, p_makeFunc, p_mapUpdate, mapPut, entsOf, p_lookup, p_extract, p_nilCheck, oneV, p_load, p_store, p_binOp, p_unOp, p_indexAddr, p_index, p_box, p_build, evParts, builtinV, load1, ldc, splice, minds, disj, rcOf, isCall, touchV, idsOf, mapId, touchB, p_buildSlice, buildSliceV, reps, fillV, p_convert, p_slice, evO, p_makeSlice, sid_some, soff_some, Nat.reduceLT, Nat.reduceLeDiff, Nat.reduceEqDiff, Nat.reduceAdd, Nat.reduceMul, Int.reduceBEq, Int.reduceEq, Int.reduceNeg, Int.reduceLT, Int.reduceLE, Int.reduceAdd, Int.reduceSub, Int.reduceMul, Int.reduceToNat, Int.reduceGT, Nat.reduceBEq, Nat.reducePow, Nat.reduceGT, reduceCtorEq, ↓reduceIte, t0, t1, t6, t7, t8, hq, hw4]
        refine ⟨hi - (mid + 1), by omega, mid + 1, hi, ?_⟩
        constructor <;> (try first | assumption | ((repeat (first | assumption | apply Ext.refl | apply Ext.app | (apply Ext.set <;> omega) | exact Ext.trans (by assumption) (by assumption) | (refine Ext.trans ?_ (by assumption)))); done) | (refine Sl.ext (by assumption) ?_; (repeat (first | assumption | apply Ext.refl | apply Ext.app | (apply Ext.set <;> omega) | exact Ext.trans (by assumption) (by assumption) | (refine Ext.trans ?_ (by assumption)))); done) | (simp -dsimp (disch := first | with_reducible assumption | omega | (intro h_; cases h_; done) | (simp only [LN] <;> omega) | (simp only [LF]; done) | (repeat (first | with_reducible assumption | apply Ext.refl | apply Ext.app | (apply Ext.set <;> omega) | (refine Ext.trans ?_ (by assumption))))) only [AX, TY, gV, dstOf, p_makeFunc, p_mapUpdate, mapPut, entsOf, p_lookup, p_extract, p_nilCheck, oneV, p_load, p_store, p_binOp, p_unOp, p_indexAddr, p_index, p_box, p_build, evParts, builtinV, load1, ldc, splice, minds, disj, rcOf, isCall, touchV, idsOf, mapId, touchB, p_buildSlice, buildSliceV, reps, fillV, p_convert, p_slice, evO, p_makeSlice, sid_some, soff_some, Nat.reduceLT, Nat.reduceLeDiff, Nat.reduceEqDiff, Nat.reduceAdd, Nat.reduceMul, Int.reduceBEq, Int.reduceEq, Int.reduceNeg, Int.reduceLT, Int.reduceLE, Int.reduceAdd, Int.reduceSub, Int.reduceMul, Int.reduceToNat, Int.reduceGT, Nat.reduceBEq, Nat.reducePow, Nat.reduceGT, reduceCtorEq, ↓reduceIte, t0, t1, t6, t7, t8, Int.natCast_add, Int.natCast_one, Int.natCast_zero]; try (first | assumption | with_reducible rfl)))
        all_goals try omega
        · intro k hk y hy
          have := hso k mid y _ (by omega) hy hget
          omega
      | false =>
        have hq' := of_decide_eq_false hq
        simp -dsimp (disch := first | with_reducible assumption | omega | (intro h_; cases h_; done) | (simp only [LN] <;> omega) | (simp only [LF]; done) | (repeat (first | with_reducible assumption | apply Ext.refl | apply Ext.app | (apply Ext.set <;> omega) | (refine Ext.trans ?_ (by assumption))))) only [AX, TY, gV, dstOf, p_makeFunc, p_mapUpdate, mapPut, entsOf, p_lookup, p_extract, p_nilCheck, oneV, p_load, p_store, p_binOp, p_unOp, p_indexAddr, p_index, p_box, p_build, evParts, builtinV, load1, ldc, splice, minds, disj, rcOf, isCall, touchV, idsOf, mapId, touchB, p_buildSlice, buildSliceV, reps, fillV, p_convert, p_slice, evO, p_makeSlice, sid_some, soff_some, Nat.reduceLT, Nat.reduceLeDiff, Nat.reduceEqDiff, Nat.reduceAdd, Nat.reduceMul, Int.reduceBEq, Int.reduceEq, Int.reduceNeg, Int.reduceLT, Int.reduceLE, Int.reduceAdd, Int.reduceSub, Int.reduceMul, Int.reduceToNat, Int.reduceGT, Nat.reduceBEq, Nat.reducePow, Nat.reduceGT, reduceCtorEq, ↓reduceIte, t0, t1, t6, t7, t8, hq]
        refine ⟨mid - lo, by omega, lo, mid, ?_⟩
        constructor <;> (try first | assumption | ((repeat (first | assumption | apply Ext.refl | apply Ext.app | (apply Ext.set <;> omega) | exact Ext.trans (by assumption) (by assumption) | (refine Ext.trans ?_ (by assumption)))); done) | (refine Sl.ext (by assumption) ?_; (repeat (first | assumption | apply Ext.refl | apply Ext.app | (apply Ext.set <;> omega) | exact Ext.trans (by assumption) (by assumption) | (refine Ext.trans ?_ (by assumption)))); done) | (simp -dsimp (disch := first | with_reducible assumption | omega | (intro h_; cases h_; done) | (simp only [LN] <;> omega) | (simp only [LF]; done) | (repeat (first | with_reducible assumption | apply Ext.refl | apply Ext.app | (apply Ext.set <;> omega) | (refine Ext.trans ?_ (by assumption))))) only [AX, TY, gV, dstOf, p_makeFunc, p_mapUpdate, mapPut, entsOf, p_lookup, p_extract, p_nilCheck, oneV, p_load, p_store, p_binOp, p_unOp, p_indexAddr, p_index, p_box, p_build, evParts, builtinV, load1, ldc, splice, minds, disj, rcOf, isCall, touchV, idsOf, mapId, touchB, p_buildSlice, buildSliceV, reps, fillV, p_convert, p_slice, evO, p_makeSlice, sid_some, soff_some, Nat.reduceLT, Nat.reduceLeDiff, Nat.reduceEqDiff, Nat.reduceAdd, Nat.reduceMul, Int.reduceBEq, Int.reduceEq, Int.reduceNeg, Int.reduceLT, Int.reduceLE, Int.reduceAdd, Int.reduceSub, Int.reduceMul, Int.reduceToNat, Int.reduceGT, Nat.reduceBEq, Nat.reducePow, Nat.reduceGT, reduceCtorEq, ↓reduceIte, t0, t1, t6, t7, t8, Int.natCast_add, Int.natCast_one, Int.natCast_zero]; try (first | assumption | with_reducible rfl)))
        all_goals try omega
        · intro k hk y hy
          have := hso mid k _ y (by omega) hget hy
          omega
    · have hlo : lo = hi := by omega
      subst hlo
      have hb : decide ((lo : Int) < (lo : Int)) = false := decide_eq_false (by omega)
      have hat : At ys x lo := ⟨hle2, low, high⟩
      by_cases hend : lo < ys.length
      · have hb2 : decide ((lo : Int) < (ys.length : Int)) = true := decide_eq_true (by omega)
        have hget : ys[lo]? = some ys[lo] := List.getElem?_eq_getElem hend
        cases hq : decide (ys[lo] = x) with
        | true =>
          have hq' := of_decide_eq_true hq
          simp -dsimp (disch := first | with_reducible assumption | omega | (intro h_; cases h_; done) | (simp only [LN] <;> omega) | (simp only [LF]; done) | (repeat (first | with_reducible assumption | apply Ext.refl | apply Ext.app | (apply Ext.set <;> omega) | (refine Ext.trans ?_ (by assumption))))) only [AX, TY, gV, dstOf, p_makeFunc, p_mapUpdate, mapPut, entsOf, p_lookup, p_extract, p_nilCheck, oneV, p_load, p_store, p_binOp, p_unOp, p_indexAddr, p_index, p_box, p_build, evParts, builtinV, load1, ldc, splice, minds, disj, rcOf, isCall, touchV, idsOf, mapId, touchB, p_buildSlice, buildSliceV, reps, fillV, p_convert, p_slice, evO, p_makeSlice, sid_some, soff_some, Nat.reduceLT, Nat.reduceLeDiff, Nat.reduceEqDiff, Nat.reduceAdd, Nat.reduceMul, Int.reduceBEq, Int.reduceEq, Int.reduceNeg, Int.reduceLT, Int.reduceLE, Int.reduceAdd, Int.reduceSub, Int.reduceMul, Int.reduceToNat, Int.reduceGT, Nat.reduceBEq, Nat.reducePow, Nat.reduceGT, reduceCtorEq, ↓reduceIte, t0, t1, t6, t7, t8, hb, hb2, hs.load0, hq]
          exact ⟨lo, hat, by rw [hget, hq']; simp⟩
        | false =>
          have hq' := of_decide_eq_false hq
          simp -dsimp (disch := first | with_reducible assumption | omega | (intro h_; cases h_; done) | (simp only [LN] <;> omega) | (simp only [LF]; done) | (repeat (first | with_reducible assumption | apply Ext.refl | apply Ext.app | (apply Ext.set <;> omega) | (refine Ext.trans ?_ (by assumption))))) only [AX, TY, gV, dstOf, p_makeFunc, p_mapUpdate, mapPut, entsOf, p_lookup, p_extract, p_nilCheck, oneV, p_load, p_store, p_binOp, p_unOp, p_indexAddr, p_index, p_box, p_build, evParts, builtinV, load1, ldc, splice, minds, disj, rcOf, isCall, touchV, idsOf, mapId, touchB, p_buildSlice, buildSliceV, reps, fillV, p_convert, p_slice, evO, p_makeSlice, sid_some, soff_some, Nat.reduceLT, Nat.reduceLeDiff, Nat.reduceEqDiff, Nat.reduceAdd, Nat.reduceMul, Int.reduceBEq, Int.reduceEq, Int.reduceNeg, Int.reduceLT, Int.reduceLE, Int.reduceAdd, Int.reduceSub, Int.reduceMul, Int.reduceToNat, Int.reduceGT, Nat.reduceBEq, Nat.reducePow, Nat.reduceGT, reduceCtorEq, ↓reduceIte, t0, t1, t6, t7, t8, hb, hb2, hs.load0, hq]
          refine (nan39_ok _).mono ?_
          rintro _ _ ⟨rfl, rfl⟩
          simp -dsimp (disch := first | with_reducible assumption | omega | (intro h_; cases h_; done) | (simp only [LN] <;> omega) | (simp only [LF]; done) | (repeat (first | with_reducible assumption | apply Ext.refl | apply Ext.app | (apply Ext.set <;> omega) | (refine Ext.trans ?_ (by assumption))))) only [AX, TY, gV, dstOf, p_makeFunc, p_mapUpdate, mapPut, entsOf, p_lookup, p_extract, p_nilCheck, oneV, p_load, p_store, p_binOp, p_unOp, p_indexAddr, p_index, p_box, p_build, evParts, builtinV, load1, ldc, splice, minds, disj, rcOf, isCall, touchV, idsOf, mapId, touchB, p_buildSlice, buildSliceV, reps, fillV, p_convert, p_slice, evO, p_makeSlice, sid_some, soff_some, Nat.reduceLT, Nat.reduceLeDiff, Nat.reduceEqDiff, Nat.reduceAdd, Nat.reduceMul, Int.reduceBEq, Int.reduceEq, Int.reduceNeg, Int.reduceLT, Int.reduceLE, Int.reduceAdd, Int.reduceSub, Int.reduceMul, Int.reduceToNat, Int.reduceGT, Nat.reduceBEq, Nat.reducePow, Nat.reduceGT, reduceCtorEq, ↓reduceIte]
          exact ⟨lo, hat, by rw [hget]; simp [hq']⟩
      · have hb2 : decide ((lo : Int) < (ys.length : Int)) = false := decide_eq_false (by omega)
        simp -dsimp (disch := first | with_reducible assumption | omega | (intro h_; cases h_; done) | (simp only [LN] <;> omega) | (simp only [LF]; done) | (repeat (first | with_reducible assumption | apply Ext.refl | apply Ext.app | (apply Ext.set <;> omega) | (refine Ext.trans ?_ (by assumption))))) only [AX, TY, gV, dstOf, p_makeFunc, p_mapUpdate, mapPut, entsOf, p_lookup, p_extract, p_nilCheck, oneV, p_load, p_store, p_binOp, p_unOp, p_indexAddr, p_index, p_box, p_build, evParts, builtinV, load1, ldc, splice, minds, disj, rcOf, isCall, touchV, idsOf, mapId, touchB, p_buildSlice, buildSliceV, reps, fillV, p_convert, p_slice, evO, p_makeSlice, sid_some, soff_some, Nat.reduceLT, Nat.reduceLeDiff, Nat.reduceEqDiff, Nat.reduceAdd, Nat.reduceMul, Int.reduceBEq, Int.reduceEq, Int.reduceNeg, Int.reduceLT, Int.reduceLE, Int.reduceAdd, Int.reduceSub, Int.reduceMul, Int.reduceToNat, Int.reduceGT, Nat.reduceBEq, Nat.reducePow, Nat.reduceGT, reduceCtorEq, ↓reduceIte, t0, t1, t6, t7, t8, hb, hb2]
        exact ⟨lo, hat, by rw [List.getElem?_eq_none (by omega)]; simp⟩
  · refine ⟨0, ys.length, ?_⟩
    constructor <;> (try first | assumption | ((repeat (first | assumption | apply Ext.refl | apply Ext.app | (apply Ext.set <;> omega) | exact Ext.trans (by assumption) (by assumption) | (refine Ext.trans ?_ (by assumption)))); done) | (refine Sl.ext (by assumption) ?_; (repeat (first | assumption | apply Ext.refl | apply Ext.app | (apply Ext.set <;> omega) | exact Ext.trans (by assumption) (by assumption) | (refine Ext.trans ?_ (by assumption)))); done) | (simp -dsimp (disch := first | with_reducible assumption | omega | (intro h_; cases h_; done) | (simp only [LN] <;> omega) | (simp only [LF]; done) | (repeat (first | with_reducible assumption | apply Ext.refl | apply Ext.app | (apply Ext.set <;> omega) | (refine Ext.trans ?_ (by assumption))))) only [AX, TY, gV, dstOf, p_makeFunc, p_mapUpdate, mapPut, entsOf, p_lookup, p_extract, p_nilCheck, oneV, p_load, p_store, p_binOp, p_unOp, p_indexAddr, p_index, p_box, p_build, evParts, builtinV, load1, ldc, splice, minds, disj, rcOf, isCall, touchV, idsOf, mapId, touchB, p_buildSlice, buildSliceV, reps, fillV, p_convert, p_slice, evO, p_makeSlice, sid_some, soff_some, Nat.reduceLT, Nat.reduceLeDiff, Nat.reduceEqDiff, Nat.reduceAdd, Nat.reduceMul, Int.reduceBEq, Int.reduceEq, Int.reduceNeg, Int.reduceLT, Int.reduceLE, Int.reduceAdd, Int.reduceSub, Int.reduceMul, Int.reduceToNat, Int.reduceGT, Nat.reduceBEq, Nat.reducePow, Nat.reduceGT, reduceCtorEq, ↓reduceIte, Int.natCast_add, Int.natCast_one, Int.natCast_zero]; try (first | assumption | with_reducible rfl)))
    all_goals try omega
    all_goals first | (intro k hk; omega) | (intro k hk y hy; rw [List.getElem?_eq_none hk] at hy; cases hy)
end Go.Proofs.YtpmlphefdoaohaaA
namespace Go.Proofs.YtpmlphefdoaohaaA
open Go Go.Proofs Go.RowKit
set_option linter.unusedVariables false
set_option linter.unusedSimpArgs false
set_option maxRecDepth 10000
@[reducible] def ei (a : Int) : List V := [.int .i64 a]
/-- A clock at block k: last stamp, active snapshots; its blocks are b and more. -/
structure Clk (b : Nat) (h : Heap) (k : Nat) (last : Int) (ys : List Int) : Prop where
  bk : b ≤ k
  srt : Srt ys
  ex : ∃ p c oid, h[k]? = some (.cells [.int .i64 last, .slice p ys.length c] .rw) ∧ Gr b h p c oid 1 ei ys ∧ oid ≠ some k ∧ (c = none ∨ ys = [])
def nxt (l : Int) : Int := if l < 4611686018427387904 then l + 1 else l
def mx0 (a : Int) : Int := if 0 > a then 0 else a
theorem new_ok {h : Heap} (a : Int) : WR (callE Try.prog hk 11 [.int .i64 a] h) fun r h' => h' = h ++ [.cells [.int .i64 (mx0 a), .slice none 0 (some 0)] .rw] ∧ r = .ptr (some (h.length, 0)) := by
  refine WR.call (hH := rfl) Try.func11 rfl (n := 7) rfl rfl (by simp) ?_
  have hm : foldV max2V (.int .i64 a) [.int .i64 0] = some (.int .i64 (mx0 a)) := rfl
  simp -dsimp (disch := first | with_reducible assumption | omega | (intro h_; cases h_; done) | (simp only [LN] <;> omega) | (simp only [LF]; done) | (repeat (first | with_reducible assumption | apply Ext.refl | apply Ext.app | (apply Ext.set <;> omega) | (refine Ext.trans ?_ (by assumption))))) only [AX, TY, gV, dstOf, p_makeFunc, p_mapUpdate, mapPut, entsOf, p_lookup, p_extract, p_nilCheck, oneV, p_load, p_store, p_binOp, p_unOp, p_indexAddr, p_index, p_box, p_build, evParts, builtinV, load1, ldc, splice, minds, disj, rcOf, isCall, touchV, idsOf, mapId, touchB, p_buildSlice, buildSliceV, reps, fillV, p_convert, p_slice, evO, p_makeSlice, sid_some, soff_some, Nat.reduceLT, Nat.reduceLeDiff, Nat.reduceEqDiff, Nat.reduceAdd, Nat.reduceMul, Int.reduceBEq, Int.reduceEq, Int.reduceNeg, Int.reduceLT, Int.reduceLE, Int.reduceAdd, Int.reduceSub, Int.reduceMul, Int.reduceToNat, Int.reduceGT, Nat.reduceBEq, Nat.reducePow, Nat.reduceGT, reduceCtorEq, ↓reduceIte, hm]
theorem new_clk (h : Heap) (a : Int) : Clk h.length (h ++ [.cells [.int .i64 (mx0 a), .slice none 0 (some 0)] .rw]) h.length (mx0 a) [] :=
  ⟨Nat.le_refl _, fun i j x y _ h => by simp at h, _, _, _, snoc_last _ rfl, .nil _ _ _ _, by simp, .inr rfl⟩
theorem last_ok {b : Nat} {h : Heap} {k : Nat} {last : Int} {ys : List Int} (hc : Clk b h k last ys) : WR (callE Try.prog hk 13 [.ptr (some (k, 0))] h) fun r h' => h = h' ∧ r = .int .i64 last := by
  obtain ⟨bk, srt, p, c, oid, hk1, gr, hne, hcn⟩ := hc
  have l0 : loadN h k 0 1 = some [.int .i64 last] := by rw [loadN_of hk1 (by simp)]; rfl
  refine WR.call (hH := rfl) Try.func13 rfl (n := 7) rfl rfl (by simp) ?_
  simp -dsimp (disch := first | with_reducible assumption | omega | (intro h_; cases h_; done) | (simp only [LN] <;> omega) | (simp only [LF]; done) | (repeat (first | with_reducible assumption | apply Ext.refl | apply Ext.app | (apply Ext.set <;> omega) | (refine Ext.trans ?_ (by assumption))))) only [AX, TY, gV, dstOf, p_makeFunc, p_mapUpdate, mapPut, entsOf, p_lookup, p_extract, p_nilCheck, oneV, p_load, p_store, p_binOp, p_unOp, p_indexAddr, p_index, p_box, p_build, evParts, builtinV, load1, ldc, splice, minds, disj, rcOf, isCall, touchV, idsOf, mapId, touchB, p_buildSlice, buildSliceV, reps, fillV, p_convert, p_slice, evO, p_makeSlice, sid_some, soff_some, Nat.reduceLT, Nat.reduceLeDiff, Nat.reduceEqDiff, Nat.reduceAdd, Nat.reduceMul, Int.reduceBEq, Int.reduceEq, Int.reduceNeg, Int.reduceLT, Int.reduceLE, Int.reduceAdd, Int.reduceSub, Int.reduceMul, Int.reduceToNat, Int.reduceGT, Nat.reduceBEq, Nat.reducePow, Nat.reduceGT, reduceCtorEq, ↓reduceIte, l0]
theorem horizon_ok {b : Nat} {h : Heap} {k : Nat} {last : Int} {ys : List Int} (hc : Clk b h k last ys) : WR (callE Try.prog hk 12 [.ptr (some (k, 0))] h) fun r h' => h = h' ∧ r = .int .i64 (ys.headD last) := by
  obtain ⟨bk, srt, p, c, oid, hk1, gr, hne, hcn⟩ := hc
  have hs := gr.sl
  have hsm := hs.small
  have hn := hs.nil'
  have l0 : loadN h k 0 1 = some [.int .i64 last] := by rw [loadN_of hk1 (by simp)]; rfl
  have l1 : loadN h k 1 1 = some [.slice p ys.length c] := by rw [loadN_of hk1 (by simp)]; rfl
  refine WR.call (hH := rfl) Try.func12 rfl (n := 19) rfl rfl (by simp) ?_
  by_cases hy : ys.length = 0
  · have hd : decide ((ys.length : Int) > 0) = false := decide_eq_false (by omega)
    have : ys = [] := List.eq_nil_of_length_eq_zero hy
    simp -dsimp (disch := first | with_reducible assumption | omega | (intro h_; cases h_; done) | (simp only [LN] <;> omega) | (simp only [LF]; done) | (repeat (first | with_reducible assumption | apply Ext.refl | apply Ext.app | (apply Ext.set <;> omega) | (refine Ext.trans ?_ (by assumption))))) only [AX, TY, gV, dstOf, p_makeFunc, p_mapUpdate, mapPut, entsOf, p_lookup, p_extract, p_nilCheck, oneV, p_load, p_store, p_binOp, p_unOp, p_indexAddr, p_index, p_box, p_build, evParts, builtinV, load1, ldc, splice, minds, disj, rcOf, isCall, touchV, idsOf, mapId, touchB, p_buildSlice, buildSliceV, reps, fillV, p_convert, p_slice, evO, p_makeSlice, sid_some, soff_some, Nat.reduceLT, Nat.reduceLeDiff, Nat.reduceEqDiff, Nat.reduceAdd, Nat.reduceMul, Int.reduceBEq, Int.reduceEq, Int.reduceNeg, Int.reduceLT, Int.reduceLE, Int.reduceAdd, Int.reduceSub, Int.reduceMul, Int.reduceToNat, Int.reduceGT, Nat.reduceBEq, Nat.reducePow, Nat.reduceGT, reduceCtorEq, ↓reduceIte, l0, l1, hd]
    subst this; rfl
  · have hd : decide ((ys.length : Int) > 0) = true := decide_eq_true (by omega)
    have l2 : loadN h (sid p) (soff p) 1 = some [.int .i64 (ys.headD last)] := by
      cases p with
      | none => exact absurd (hn rfl) hy
      | some q =>
        obtain ⟨a, o⟩ := q
        obtain ⟨C, k', h1, h2, h3⟩ := hs.reads a o rfl
        show loadN h a o 1 = _
        rw [loadN_of h1 (by omega)]
        have := h3 0 ys[0] (List.getElem?_eq_getElem (by omega))
        rw [Nat.zero_mul, Nat.add_zero] at this
        rw [this]
        cases ys with
        | nil => simp at hy
        | cons y ys => rfl
    simp -dsimp (disch := first | with_reducible assumption | omega | (intro h_; cases h_; done) | (simp only [LN] <;> omega) | (simp only [LF]; done) | (repeat (first | with_reducible assumption | apply Ext.refl | apply Ext.app | (apply Ext.set <;> omega) | (refine Ext.trans ?_ (by assumption))))) only [AX, TY, gV, dstOf, p_makeFunc, p_mapUpdate, mapPut, entsOf, p_lookup, p_extract, p_nilCheck, oneV, p_load, p_store, p_binOp, p_unOp, p_indexAddr, p_index, p_box, p_build, evParts, builtinV, load1, ldc, splice, minds, disj, rcOf, isCall, touchV, idsOf, mapId, touchB, p_buildSlice, buildSliceV, reps, fillV, p_convert, p_slice, evO, p_makeSlice, sid_some, soff_some, Nat.reduceLT, Nat.reduceLeDiff, Nat.reduceEqDiff, Nat.reduceAdd, Nat.reduceMul, Int.reduceBEq, Int.reduceEq, Int.reduceNeg, Int.reduceLT, Int.reduceLE, Int.reduceAdd, Int.reduceSub, Int.reduceMul, Int.reduceToNat, Int.reduceGT, Nat.reduceBEq, Nat.reducePow, Nat.reduceGT, reduceCtorEq, ↓reduceIte, l0, l1, hd, hs.load0, l2]
theorem next_ok {b : Nat} {h : Heap} {k : Nat} {last : Int} {ys : List Int} (hc : Clk b h k last ys) (hb : -9223372036854775808 ≤ last) : WR (callE Try.prog hk 15 [.ptr (some (k, 0))] h) fun r h' => r = .int .i64 (nxt last) ∧ Clk b h' k (nxt last) ys ∧ (∀ i, i < b → h'[i]? = h[i]?) ∧ h'.length = h.length := by
  obtain ⟨bk, srt, p, c, oid, hk1, gr, hne, hcn⟩ := hc
  have l0 : loadN h k 0 1 = some [.int .i64 last] := by rw [loadN_of hk1 (by simp)]; rfl
  have hlt := lt_of_some hk1
  refine WR.call (hH := rfl) Try.func15 rfl (n := 19) rfl rfl (by simp) ?_
  by_cases hl : last < 4611686018427387904
  · have hd : decide (last < 4611686018427387904) = true := decide_eq_true hl
    have hw : IntKind.i64.wrap (last + 1) = last + 1 := by rw [IntKind.wrap_i64]; omega
    have hst : storeN h k 0 [.int .i64 (last + 1)] = some (h.set k (.cells [.int .i64 (last + 1), .slice p ys.length c] .rw)) := by rw [storeN_of hk1 (by simp) (by simp) rfl]; rfl
    have l2 : loadN (h.set k (.cells [.int .i64 (last + 1), .slice p ys.length c] .rw)) k 0 1 = some [.int .i64 (last + 1)] := by rw [loadN_of (List.getElem?_set_self hlt) (by simp)]; rfl
    simp -dsimp (disch := first | with_reducible assumption | omega | (intro h_; cases h_; done) | (simp only [LN] <;> omega) | (simp only [LF]; done) | (repeat (first | with_reducible assumption | apply Ext.refl | apply Ext.app | (apply Ext.set <;> omega) | (refine Ext.trans ?_ (by assumption))))) only [AX, TY, gV, dstOf, p_makeFunc, p_mapUpdate, mapPut, entsOf, p_lookup, p_extract, p_nilCheck, oneV, p_load, p_store, p_binOp, p_unOp, p_indexAddr, p_index, p_box, p_build, evParts, builtinV, load1, ldc, splice, minds, disj, rcOf, isCall, touchV, idsOf, mapId, touchB, p_buildSlice, buildSliceV, reps, fillV, p_convert, p_slice, evO, p_makeSlice, sid_some, soff_some, Nat.reduceLT, Nat.reduceLeDiff, Nat.reduceEqDiff, Nat.reduceAdd, Nat.reduceMul, Int.reduceBEq, Int.reduceEq, Int.reduceNeg, Int.reduceLT, Int.reduceLE, Int.reduceAdd, Int.reduceSub, Int.reduceMul, Int.reduceToNat, Int.reduceGT, Nat.reduceBEq, Nat.reducePow, Nat.reduceGT, reduceCtorEq, ↓reduceIte, l0, hd, hw, hst, l2]
    have hx : nxt last = last + 1 := if_pos hl
    simp only [hx, true_and, and_true]
    refine ⟨⟨bk, srt, p, c, oid, List.getElem?_set_self hlt, gr.keep fun id e => List.getElem?_set_ne (fun q => hne (by rw [e, q])), hne, hcn⟩, fun i hi => List.getElem?_set_ne (by omega)⟩
  · have hd : decide (last < 4611686018427387904) = false := decide_eq_false hl
    simp -dsimp (disch := first | with_reducible assumption | omega | (intro h_; cases h_; done) | (simp only [LN] <;> omega) | (simp only [LF]; done) | (repeat (first | with_reducible assumption | apply Ext.refl | apply Ext.app | (apply Ext.set <;> omega) | (refine Ext.trans ?_ (by assumption))))) only [AX, TY, gV, dstOf, p_makeFunc, p_mapUpdate, mapPut, entsOf, p_lookup, p_extract, p_nilCheck, oneV, p_load, p_store, p_binOp, p_unOp, p_indexAddr, p_index, p_box, p_build, evParts, builtinV, load1, ldc, splice, minds, disj, rcOf, isCall, touchV, idsOf, mapId, touchB, p_buildSlice, buildSliceV, reps, fillV, p_convert, p_slice, evO, p_makeSlice, sid_some, soff_some, Nat.reduceLT, Nat.reduceLeDiff, Nat.reduceEqDiff, Nat.reduceAdd, Nat.reduceMul, Int.reduceBEq, Int.reduceEq, Int.reduceNeg, Int.reduceLT, Int.reduceLE, Int.reduceAdd, Int.reduceSub, Int.reduceMul, Int.reduceToNat, Int.reduceGT, Nat.reduceBEq, Nat.reducePow, Nat.reduceGT, reduceCtorEq, ↓reduceIte, l0, hd]
    have hx : nxt last = last := if_neg hl
    simp only [hx, true_and, and_true]
    exact ⟨bk, srt, p, c, oid, hk1, gr, hne, hcn⟩
theorem ins_get {ys : List Int} {x : Int} {i : Nat} (hi : i ≤ ys.length) (j : Nat) : (ys.take i ++ [x] ++ ys.drop i)[j]? = if j < i then ys[j]? else if j = i then some x else ys[j - 1]? := by
  have hl : (ys.take i).length = i := by rw [List.length_take]; omega
  have hl2 : (ys.take i ++ [x]).length = i + 1 := by rw [List.length_append, hl]; rfl
  by_cases h1 : j < i
  · rw [if_pos h1, List.getElem?_append_left (by omega), List.getElem?_append_left (by omega), List.getElem?_take_of_lt h1]
  · rw [if_neg h1]
    by_cases h2 : j = i
    · subst h2
      rw [if_pos rfl, List.getElem?_append_left (by omega), List.getElem?_append_right (by omega), hl]; simp
    · rw [if_neg h2, List.getElem?_append_right (by omega), hl2, List.getElem?_drop]
      congr 1; omega
theorem ins_srt {ys : List Int} {x : Int} {i : Nat} (hs : Srt ys) (ha : At ys x i) : Srt (ys.take i ++ [x] ++ ys.drop i) := by
  intro a b u v hab hu hv
  rw [ins_get ha.le] at hu hv
  split at hu
  · split at hv
    · exact hs a b u v hab hu hv
    · split at hv
      · cases hv; have := ha.lo a (by assumption) u hu; omega
      · exact hs a (b - 1) u v (by omega) hu hv
  · split at hu
    · cases hu
      split at hv
      · omega
      · split at hv
        · cases hv; exact Int.le_refl _
        · exact ha.hi (b - 1) (by omega) v hv
    · split at hv
      · omega
      · split at hv
        · omega
        · exact hs (a - 1) (b - 1) u v (by omega) hu hv
theorem begin_ok {b : Nat} {h : Heap} {k : Nat} {last : Int} {ys : List Int} (hc : Clk b h k last ys) (hlen : ys.length ≤ 1000) (hbh : b ≤ h.length) : WR (callE Try.prog hk 14 [.ptr (some (k, 0))] h) fun r h' => r = .int .i64 last ∧ (∃ i, At ys last i ∧ Clk b h' k last (ys.take i ++ [last] ++ ys.drop i)) ∧ (∀ i, i < b → h'[i]? = h[i]?) ∧ h.length ≤ h'.length := by
  obtain ⟨bk, srt, p, c, oid, hk1, gr, hne, hcn⟩ := hc
  have l0 : loadN h k 0 1 = some [.int .i64 last] := by rw [loadN_of hk1 (by simp)]; rfl
  have l1 : loadN h k 1 1 = some [.slice p ys.length c] := by rw [loadN_of hk1 (by simp)]; rfl
  have hlt := lt_of_some hk1
  have hs := gr.sl
  have hsm := hs.small
  have hn := hs.nil'
  refine WR.call (hH := rfl) Try.func14 rfl (n := 35) rfl rfl (by simp) ?_
  simp -dsimp (disch := first | with_reducible assumption | omega | (intro h_; cases h_; done) | (simp only [LN] <;> omega) | (simp only [LF]; done) | (repeat (first | with_reducible assumption | apply Ext.refl | apply Ext.app | (apply Ext.set <;> omega) | (refine Ext.trans ?_ (by assumption))))) only [AX, TY, gV, dstOf, p_makeFunc, p_mapUpdate, mapPut, entsOf, p_lookup, p_extract, p_nilCheck, oneV, p_load, p_store, p_binOp, p_unOp, p_indexAddr, p_index, p_box, p_build, evParts, builtinV, load1, ldc, splice, minds, disj, rcOf, isCall, touchV, idsOf, mapId, touchB, p_buildSlice, buildSliceV, reps, fillV, p_convert, p_slice, evO, p_makeSlice, sid_some, soff_some, Nat.reduceLT, Nat.reduceLeDiff, Nat.reduceEqDiff, Nat.reduceAdd, Nat.reduceMul, Int.reduceBEq, Int.reduceEq, Int.reduceNeg, Int.reduceLT, Int.reduceLE, Int.reduceAdd, Int.reduceSub, Int.reduceMul, Int.reduceToNat, Int.reduceGT, Nat.reduceBEq, Nat.reducePow, Nat.reduceGT, reduceCtorEq, ↓reduceIte]
  refine W.drawn [(0, []), (1, []), (2, []), (3, []), (4, [3, 2, 1, 0]), (5, [3, 2, 1, 0]), (6, [3, 2, 1, 0]), (7, [3, 2, 1, 0]), (8, []), (9, []), (10, []), (11, [10]), (12, [11]), (13, [])] (by decide +kernel) ?_
  simp -dsimp (disch := first | with_reducible assumption | omega | (intro h_; cases h_; done) | (simp only [LN] <;> omega) | (simp only [LF]; done) | (repeat (first | with_reducible assumption | apply Ext.refl | apply Ext.app | (apply Ext.set <;> omega) | (refine Ext.trans ?_ (by assumption))))) only [AX, TY, gV, dstOf, p_makeFunc, p_mapUpdate, mapPut, entsOf, p_lookup, p_extract, p_nilCheck, oneV, p_load, p_store, p_binOp, p_unOp, p_indexAddr, p_index, p_box, p_build, evParts, builtinV, load1, ldc, splice, minds, disj, rcOf, isCall, touchV, idsOf, mapId, touchB, p_buildSlice, buildSliceV, reps, fillV, p_convert, p_slice, evO, p_makeSlice, sid_some, soff_some, Nat.reduceLT, Nat.reduceLeDiff, Nat.reduceEqDiff, Nat.reduceAdd, Nat.reduceMul, Int.reduceBEq, Int.reduceEq, Int.reduceNeg, Int.reduceLT, Int.reduceLE, Int.reduceAdd, Int.reduceSub, Int.reduceMul, Int.reduceToNat, Int.reduceGT, Nat.reduceBEq, Nat.reducePow, Nat.reduceGT, reduceCtorEq, ↓reduceIte, l0, l1]
  refine (bs_ok hs srt).mono ?_
  rintro _ _ ⟨rfl, i, hat, rfl⟩
  have hok : oid ≠ some _ := fun e => Nat.lt_irrefl _ (gr.lt e)
  obtain ⟨p', oid', h2, hins, gr2, ho, hle, hkp, hbp⟩ := (gr.ext (hh := _ ++ [O.cells [.int .i64 last] .rw]) (by (repeat (first | assumption | apply Ext.refl | apply Ext.app | (apply Ext.set <;> omega) | exact Ext.trans (by assumption) (by assumption) | (refine Ext.trans ?_ (by assumption)))))).insert insW insN (zs := [last]) (vc := some 1) (i := i) (by simp; omega) (snoc_last _ rfl) hok (by simp) (by simp [V.leaf]) (by simp) hat.le (by simp; omega) (by simp; omega)
  rw [← hk27] at hins
  simp only [List.length_cons, List.length_nil, Nat.zero_add] at hins
  have hk2 := hkp k (fun e => hne e) (by simp; omega)
  rw [snoc_old _ hlt, hk1] at hk2
  have hst : storeN h2 k 1 [.slice p' (ys.length + 1) none] = some (h2.set k (.cells [.int .i64 last, .slice p' (ys.length + 1) none] .rw)) := by rw [storeN_of hk2 (by simp) (by simp) rfl]; rfl
  have l2 : loadN (h2.set k (.cells [.int .i64 last, .slice p' (ys.length + 1) none] .rw)) k 0 1 = some [.int .i64 last] := by rw [loadN_of (List.getElem?_set_self (lt_of_some hk2)) (by simp)]; rfl
  simp -dsimp (disch := first | with_reducible assumption | omega | (intro h_; cases h_; done) | (simp only [LN] <;> omega) | (simp only [LF]; done) | (repeat (first | with_reducible assumption | apply Ext.refl | apply Ext.app | (apply Ext.set <;> omega) | (refine Ext.trans ?_ (by assumption))))) only [AX, TY, gV, dstOf, p_makeFunc, p_mapUpdate, mapPut, entsOf, p_lookup, p_extract, p_nilCheck, oneV, p_load, p_store, p_binOp, p_unOp, p_indexAddr, p_index, p_box, p_build, evParts, builtinV, load1, ldc, splice, minds, disj, rcOf, isCall, touchV, idsOf, mapId, touchB, p_buildSlice, buildSliceV, reps, fillV, p_convert, p_slice, evO, p_makeSlice, sid_some, soff_some, Nat.reduceLT, Nat.reduceLeDiff, Nat.reduceEqDiff, Nat.reduceAdd, Nat.reduceMul, Int.reduceBEq, Int.reduceEq, Int.reduceNeg, Int.reduceLT, Int.reduceLE, Int.reduceAdd, Int.reduceSub, Int.reduceMul, Int.reduceToNat, Int.reduceGT, Nat.reduceBEq, Nat.reducePow, Nat.reduceGT, reduceCtorEq, ↓reduceIte]
  refine W.drawn [(0, []), (1, [0]), (2, [0]), (3, [0]), (4, [0]), (5, [4, 3, 2, 1, 0]), (6, [5, 4, 3, 2, 1, 0]), (7, [5, 4, 3, 2, 1, 0]), (8, [5, 4, 3, 2, 1, 0]), (9, [5, 4, 3, 2, 1, 0]), (10, [5, 4, 3, 2, 1, 0]), (11, [0]), (12, []), (13, []), (14, [])] (by decide +kernel) ?_
  simp -dsimp (disch := first | with_reducible assumption | omega | (intro h_; cases h_; done) | (simp only [LN] <;> omega) | (simp only [LF]; done) | (repeat (first | with_reducible assumption | apply Ext.refl | apply Ext.app | (apply Ext.set <;> omega) | (refine Ext.trans ?_ (by assumption))))) only [AX, TY, gV, dstOf, p_makeFunc, p_mapUpdate, mapPut, entsOf, p_lookup, p_extract, p_nilCheck, oneV, p_load, p_store, p_binOp, p_unOp, p_indexAddr, p_index, p_box, p_build, evParts, builtinV, load1, ldc, splice, minds, disj, rcOf, isCall, touchV, idsOf, mapId, touchB, p_buildSlice, buildSliceV, reps, fillV, p_convert, p_slice, evO, p_makeSlice, sid_some, soff_some, Nat.reduceLT, Nat.reduceLeDiff, Nat.reduceEqDiff, Nat.reduceAdd, Nat.reduceMul, Int.reduceBEq, Int.reduceEq, Int.reduceNeg, Int.reduceLT, Int.reduceLE, Int.reduceAdd, Int.reduceSub, Int.reduceMul, Int.reduceToNat, Int.reduceGT, Nat.reduceBEq, Nat.reducePow, Nat.reduceGT, reduceCtorEq, ↓reduceIte, l0, l1, hins, hst, l2]
  have hl : (ys.take i ++ [last] ++ ys.drop i).length = ys.length + 1 := by have := hat.le; simp; omega
  rw [List.length_append] at hle
  refine ⟨⟨i, hat, bk, ins_srt srt hat, p', none, oid', by rw [hl]; exact List.getElem?_set_self (lt_of_some hk2), gr2.keep fun id e => List.getElem?_set_ne fun q => ?_, fun e => ?_, .inl rfl⟩, fun j hj => ?_, by omega⟩
  · rcases ho with e2 | e2
    · exact hne (by rw [← e2, e, q])
    · rw [e2] at e; cases e; simp at q; omega
  · rcases ho with e2 | e2
    · exact hne (by rw [← e2, e])
    · rw [e2] at e; simp at e; omega
  · rw [List.getElem?_set_ne (by omega), hbp j hj, snoc_old _ (by omega)]
def EndR (b : Nat) (h : Heap) (k : Nat) (last : Int) (ys : List Int) (x : Int) (r : V) (h' : Heap) : Prop :=
  ∃ i, At ys x i ∧ ((ys[i]? = some x ∧ r = .int .i64 0 ∧ Clk b h' k last (ys.take i ++ ys.drop (i + 1))) ∨ (ys[i]? ≠ some x ∧ r = .int .i64 4 ∧ Clk b h' k last ys)) ∧ (∀ i, i < b → h'[i]? = h[i]?) ∧ h.length ≤ h'.length
theorem del_srt {ys : List Int} {i : Nat} (hs : Srt ys) : Srt (ys.take i ++ ys.drop (i + 1)) := by
  have hg : ∀ j, (ys.take i ++ ys.drop (i + 1))[j]? = if j < i then ys[j]? else if i ≤ ys.length then ys[j + 1]? else none := by
    intro j
    by_cases hi : i ≤ ys.length
    · have hl : (ys.take i).length = i := by rw [List.length_take]; omega
      by_cases h1 : j < i
      · rw [if_pos h1, List.getElem?_append_left (by omega), List.getElem?_take_of_lt h1]
      · rw [if_neg h1, if_pos hi, List.getElem?_append_right (by omega), hl, List.getElem?_drop]
        congr 1; omega
    · rw [List.take_of_length_le (by omega), List.drop_of_length_le (by omega), List.append_nil, if_neg hi]
      split
      · rfl
      · exact List.getElem?_eq_none (by omega)
  intro a b u v hab hu hv
  rw [hg] at hu hv
  split at hu
  · split at hv
    · exact hs a b u v hab hu hv
    · split at hv
      · exact hs a (b + 1) u v (by omega) hu hv
      · cases hv
  · split at hu
    · split at hv
      · omega
      · exact hs (a + 1) (b + 1) u v (by omega) hu hv
    · cases hu
theorem end_ok {b : Nat} {h : Heap} {k : Nat} {last : Int} {ys : List Int} {x : Int} (hc : Clk b h k last ys) (hlen : ys.length ≤ 1000) (hbh : b ≤ h.length) : WR (callE Try.prog hk 16 [.ptr (some (k, 0)), .int .i64 x] h) (EndR b h k last ys x) := by
  obtain ⟨bk, srt, p, c, oid, hk1, gr, hne, hcn⟩ := hc
  have l0 : loadN h k 0 1 = some [.int .i64 last] := by rw [loadN_of hk1 (by simp)]; rfl
  have l1 : loadN h k 1 1 = some [.slice p ys.length c] := by rw [loadN_of hk1 (by simp)]; rfl
  have hlt := lt_of_some hk1
  have hs := gr.sl
  refine WR.call (hH := rfl) Try.func16 rfl (n := 29) rfl rfl (by simp) ?_
  simp -dsimp (disch := first | with_reducible assumption | omega | (intro h_; cases h_; done) | (simp only [LN] <;> omega) | (simp only [LF]; done) | (repeat (first | with_reducible assumption | apply Ext.refl | apply Ext.app | (apply Ext.set <;> omega) | (refine Ext.trans ?_ (by assumption))))) only [AX, TY, gV, dstOf, p_makeFunc, p_mapUpdate, mapPut, entsOf, p_lookup, p_extract, p_nilCheck, oneV, p_load, p_store, p_binOp, p_unOp, p_indexAddr, p_index, p_box, p_build, evParts, builtinV, load1, ldc, splice, minds, disj, rcOf, isCall, touchV, idsOf, mapId, touchB, p_buildSlice, buildSliceV, reps, fillV, p_convert, p_slice, evO, p_makeSlice, sid_some, soff_some, Nat.reduceLT, Nat.reduceLeDiff, Nat.reduceEqDiff, Nat.reduceAdd, Nat.reduceMul, Int.reduceBEq, Int.reduceEq, Int.reduceNeg, Int.reduceLT, Int.reduceLE, Int.reduceAdd, Int.reduceSub, Int.reduceMul, Int.reduceToNat, Int.reduceGT, Nat.reduceBEq, Nat.reducePow, Nat.reduceGT, reduceCtorEq, ↓reduceIte, l0, l1]
  refine (bs_ok hs srt).mono ?_
  rintro _ _ ⟨rfl, i, hat, rfl⟩
  cases hq : decide (ys[i]? = some x) with
  | false =>
    have hq' := of_decide_eq_false hq
    simp -dsimp (disch := first | with_reducible assumption | omega | (intro h_; cases h_; done) | (simp only [LN] <;> omega) | (simp only [LF]; done) | (repeat (first | with_reducible assumption | apply Ext.refl | apply Ext.app | (apply Ext.set <;> omega) | (refine Ext.trans ?_ (by assumption))))) only [AX, TY, gV, dstOf, p_makeFunc, p_mapUpdate, mapPut, entsOf, p_lookup, p_extract, p_nilCheck, oneV, p_load, p_store, p_binOp, p_unOp, p_indexAddr, p_index, p_box, p_build, evParts, builtinV, load1, ldc, splice, minds, disj, rcOf, isCall, touchV, idsOf, mapId, touchB, p_buildSlice, buildSliceV, reps, fillV, p_convert, p_slice, evO, p_makeSlice, sid_some, soff_some, Nat.reduceLT, Nat.reduceLeDiff, Nat.reduceEqDiff, Nat.reduceAdd, Nat.reduceMul, Int.reduceBEq, Int.reduceEq, Int.reduceNeg, Int.reduceLT, Int.reduceLE, Int.reduceAdd, Int.reduceSub, Int.reduceMul, Int.reduceToNat, Int.reduceGT, Nat.reduceBEq, Nat.reducePow, Nat.reduceGT, reduceCtorEq, ↓reduceIte, hq, l0, l1]
    unfold EndR
    exact ⟨i, hat, .inr ⟨hq', rfl, bk, srt, p, c, oid, hk1, gr, hne, hcn⟩, fun _ _ => rfl, Nat.le_refl _⟩
  | true =>
    have hq' := of_decide_eq_true hq
    have hi : i < ys.length := (List.getElem?_eq_some_iff.1 hq').1
    have hc0 : c = none := hcn.resolve_right (fun e => by rw [e] at hi; simp at hi)
    subst hc0
    obtain ⟨p', oid', h2, hdel, gr2, ho, hle, hkp, hbp⟩ := gr.delete (F := callE Try.prog hk0 28) hbh (i := i) (j := i + 1) (by omega) hi
    rw [← hk28] at hdel
    have hw : IntKind.i64.wrap ((i : Int) + 1) = ((i + 1 : Nat) : Int) := by rw [IntKind.wrap_i64]; omega
    have hk2 := hkp k (fun e => hne e) hlt
    rw [hk1] at hk2
    have hst : storeN h2 k 1 [.slice p' (i + (ys.length - (i + 1))) none] = some (h2.set k (.cells [.int .i64 last, .slice p' (i + (ys.length - (i + 1))) none] .rw)) := by rw [storeN_of hk2 (by simp) (by simp) rfl]; rfl
    simp -dsimp (disch := first | with_reducible assumption | omega | (intro h_; cases h_; done) | (simp only [LN] <;> omega) | (simp only [LF]; done) | (repeat (first | with_reducible assumption | apply Ext.refl | apply Ext.app | (apply Ext.set <;> omega) | (refine Ext.trans ?_ (by assumption))))) only [AX, TY, gV, dstOf, p_makeFunc, p_mapUpdate, mapPut, entsOf, p_lookup, p_extract, p_nilCheck, oneV, p_load, p_store, p_binOp, p_unOp, p_indexAddr, p_index, p_box, p_build, evParts, builtinV, load1, ldc, splice, minds, disj, rcOf, isCall, touchV, idsOf, mapId, touchB, p_buildSlice, buildSliceV, reps, fillV, p_convert, p_slice, evO, p_makeSlice, sid_some, soff_some, Nat.reduceLT, Nat.reduceLeDiff, Nat.reduceEqDiff, Nat.reduceAdd, Nat.reduceMul, Int.reduceBEq, Int.reduceEq, Int.reduceNeg, Int.reduceLT, Int.reduceLE, Int.reduceAdd, Int.reduceSub, Int.reduceMul, Int.reduceToNat, Int.reduceGT, Nat.reduceBEq, Nat.reducePow, Nat.reduceGT, reduceCtorEq, ↓reduceIte, hq, l0, l1, hw, hdel, hst]
    unfold EndR
    have hl : (ys.take i ++ ys.drop (i + 1)).length = i + (ys.length - (i + 1)) := by simp; omega
    have hne2 : oid' ≠ some k := fun e => by
      rcases ho with e2 | e2
      · exact hne (by rw [← e2, e])
      · rw [e2] at e; simp at e; omega
    refine ⟨i, hat, .inl ⟨hq', rfl, bk, del_srt srt, p', none, oid', by rw [hl]; exact List.getElem?_set_self (lt_of_some hk2), gr2.keep fun id e => List.getElem?_set_ne fun q => hne2 (by rw [e, q]), hne2, .inl rfl⟩, fun j hj => ?_, by simpa using hle⟩
    rw [List.getElem?_set_ne (by omega), hbp j hj]
end Go.Proofs.YtpmlphefdoaohaaA
namespace Go.Proofs.YtpmlphefdoaohaaA
open Go Go.Proofs Go.RowKit
set_option linter.unusedVariables false
set_option linter.unusedSimpArgs false
set_option maxRecDepth 10000
def sees (c d s : Int) : Bool := decide (c ≤ s) && (decide (d = 0) || decide (d > s))
theorem sees_ok {h : Heap} {i i2 : Int} {p : Option (Nat × Nat)} {n : Nat} {cc : Option Nat} (c d s : Int) : WR (callE Try.prog hk 10 [.agg [.int .i64 i, .int .i64 i2, .slice p n cc, .int .i64 c, .int .i64 d], .int .i64 s] h) fun r h' => Ext h h' ∧ r = .bool (sees c d s) := by
  refine WR.call (hH := rfl) Try.func10 rfl (n := 20) rfl rfl (by simp) ?_
  cases h1 : decide (c ≤ s) <;> cases h2 : decide (d = 0) <;> cases h3 : decide (d > s) <;> (simp -dsimp (disch := first | with_reducible assumption | omega | (intro h_; cases h_; done) | (simp only [LN] <;> omega) | (simp only [LF]; done) | (repeat (first | with_reducible assumption | apply Ext.refl | apply Ext.app | (apply Ext.set <;> omega) | (refine Ext.trans ?_ (by assumption))))) only [AX, TY, gV, dstOf, p_makeFunc, p_mapUpdate, mapPut, entsOf, p_lookup, p_extract, p_nilCheck, oneV, p_load, p_store, p_binOp, p_unOp, p_indexAddr, p_index, p_box, p_build, evParts, builtinV, load1, ldc, splice, minds, disj, rcOf, isCall, touchV, idsOf, mapId, touchB, p_buildSlice, buildSliceV, reps, fillV, p_convert, p_slice, evO, p_makeSlice, sid_some, soff_some, Nat.reduceLT, Nat.reduceLeDiff, Nat.reduceEqDiff, Nat.reduceAdd, Nat.reduceMul, Int.reduceBEq, Int.reduceEq, Int.reduceNeg, Int.reduceLT, Int.reduceLE, Int.reduceAdd, Int.reduceSub, Int.reduceMul, Int.reduceToNat, Int.reduceGT, Nat.reduceBEq, Nat.reducePow, Nat.reduceGT, reduceCtorEq, ↓reduceIte, h1, h2, h3]; simp [sees, h1, h2, h3]; try (exact (by (repeat (first | assumption | apply Ext.refl | apply Ext.app | (apply Ext.set <;> omega) | exact Ext.trans (by assumption) (by assumption) | (refine Ext.trans ?_ (by assumption)))))))
theorem ext_of {h h' : Heap} (q : ∀ i, i < h.length → h'[i]? = h[i]?) : Ext h h' := ⟨fun i o hi => by rw [q i (lt_of_some hi)]; exact hi⟩
theorem awake_ok {h : Heap} : WR (callE Try.prog hk 9 [] h) fun r h' => Ext h h' ∧ r = .bool true := by
  refine WR.call (hH := rfl) Try.func9 rfl (n := 39) rfl rfl (by simp) ?_
  simp -dsimp (disch := first | with_reducible assumption | omega | (intro h_; cases h_; done) | (simp only [LN] <;> omega) | (simp only [LF]; done) | (repeat (first | with_reducible assumption | apply Ext.refl | apply Ext.app | (apply Ext.set <;> omega) | (refine Ext.trans ?_ (by assumption))))) only [AX, TY, gV, dstOf, p_makeFunc, p_mapUpdate, mapPut, entsOf, p_lookup, p_extract, p_nilCheck, oneV, p_load, p_store, p_binOp, p_unOp, p_indexAddr, p_index, p_box, p_build, evParts, builtinV, load1, ldc, splice, minds, disj, rcOf, isCall, touchV, idsOf, mapId, touchB, p_buildSlice, buildSliceV, reps, fillV, p_convert, p_slice, evO, p_makeSlice, sid_some, soff_some, Nat.reduceLT, Nat.reduceLeDiff, Nat.reduceEqDiff, Nat.reduceAdd, Nat.reduceMul, Int.reduceBEq, Int.reduceEq, Int.reduceNeg, Int.reduceLT, Int.reduceLE, Int.reduceAdd, Int.reduceSub, Int.reduceMul, Int.reduceToNat, Int.reduceGT, Nat.reduceBEq, Nat.reducePow, Nat.reduceGT, reduceCtorEq, ↓reduceIte]
  refine (new_ok 5).mono ?_
  rintro _ _ ⟨rfl, rfl⟩
  have c1 := new_clk h 5
  have e1 : Ext h (h ++ [O.cells [.int .i64 (mx0 5), .slice none 0 (some 0)] .rw]) := (by (repeat (first | assumption | apply Ext.refl | apply Ext.app | (apply Ext.set <;> omega) | exact Ext.trans (by assumption) (by assumption) | (refine Ext.trans ?_ (by assumption)))))
  have l1 : h.length ≤ (h ++ [O.cells [.int .i64 (mx0 5), .slice none 0 (some 0)] .rw]).length := by simp
  generalize h ++ [O.cells [.int .i64 (mx0 5), .slice none 0 (some 0)] .rw] = h1 at c1 e1 l1
  rw [show mx0 5 = 5 from rfl] at c1
  simp -dsimp (disch := first | with_reducible assumption | omega | (intro h_; cases h_; done) | (simp only [LN] <;> omega) | (simp only [LF]; done) | (repeat (first | with_reducible assumption | apply Ext.refl | apply Ext.app | (apply Ext.set <;> omega) | (refine Ext.trans ?_ (by assumption))))) only [AX, TY, gV, dstOf, p_makeFunc, p_mapUpdate, mapPut, entsOf, p_lookup, p_extract, p_nilCheck, oneV, p_load, p_store, p_binOp, p_unOp, p_indexAddr, p_index, p_box, p_build, evParts, builtinV, load1, ldc, splice, minds, disj, rcOf, isCall, touchV, idsOf, mapId, touchB, p_buildSlice, buildSliceV, reps, fillV, p_convert, p_slice, evO, p_makeSlice, sid_some, soff_some, Nat.reduceLT, Nat.reduceLeDiff, Nat.reduceEqDiff, Nat.reduceAdd, Nat.reduceMul, Int.reduceBEq, Int.reduceEq, Int.reduceNeg, Int.reduceLT, Int.reduceLE, Int.reduceAdd, Int.reduceSub, Int.reduceMul, Int.reduceToNat, Int.reduceGT, Nat.reduceBEq, Nat.reducePow, Nat.reduceGT, reduceCtorEq, ↓reduceIte]
  refine (begin_ok c1 (by simp) l1).mono ?_
  rintro _ h2 ⟨rfl, ⟨i, hat, c2⟩, k2, l2⟩
  have hi0 : i = 0 := by simpa using hat.le
  subst hi0
  have c2 : Clk h.length h2 h.length 5 [5] := c2
  simp -dsimp (disch := first | with_reducible assumption | omega | (intro h_; cases h_; done) | (simp only [LN] <;> omega) | (simp only [LF]; done) | (repeat (first | with_reducible assumption | apply Ext.refl | apply Ext.app | (apply Ext.set <;> omega) | (refine Ext.trans ?_ (by assumption))))) only [AX, TY, gV, dstOf, p_makeFunc, p_mapUpdate, mapPut, entsOf, p_lookup, p_extract, p_nilCheck, oneV, p_load, p_store, p_binOp, p_unOp, p_indexAddr, p_index, p_box, p_build, evParts, builtinV, load1, ldc, splice, minds, disj, rcOf, isCall, touchV, idsOf, mapId, touchB, p_buildSlice, buildSliceV, reps, fillV, p_convert, p_slice, evO, p_makeSlice, sid_some, soff_some, Nat.reduceLT, Nat.reduceLeDiff, Nat.reduceEqDiff, Nat.reduceAdd, Nat.reduceMul, Int.reduceBEq, Int.reduceEq, Int.reduceNeg, Int.reduceLT, Int.reduceLE, Int.reduceAdd, Int.reduceSub, Int.reduceMul, Int.reduceToNat, Int.reduceGT, Nat.reduceBEq, Nat.reducePow, Nat.reduceGT, reduceCtorEq, ↓reduceIte]
  refine (next_ok c2 (by decide)).mono ?_
  rintro _ h3 ⟨rfl, c3, k3, l3⟩
  rw [show nxt 5 = 6 from rfl] at c3 ⊢
  simp -dsimp (disch := first | with_reducible assumption | omega | (intro h_; cases h_; done) | (simp only [LN] <;> omega) | (simp only [LF]; done) | (repeat (first | with_reducible assumption | apply Ext.refl | apply Ext.app | (apply Ext.set <;> omega) | (refine Ext.trans ?_ (by assumption))))) only [AX, TY, gV, dstOf, p_makeFunc, p_mapUpdate, mapPut, entsOf, p_lookup, p_extract, p_nilCheck, oneV, p_load, p_store, p_binOp, p_unOp, p_indexAddr, p_index, p_box, p_build, evParts, builtinV, load1, ldc, splice, minds, disj, rcOf, isCall, touchV, idsOf, mapId, touchB, p_buildSlice, buildSliceV, reps, fillV, p_convert, p_slice, evO, p_makeSlice, sid_some, soff_some, Nat.reduceLT, Nat.reduceLeDiff, Nat.reduceEqDiff, Nat.reduceAdd, Nat.reduceMul, Int.reduceBEq, Int.reduceEq, Int.reduceNeg, Int.reduceLT, Int.reduceLE, Int.reduceAdd, Int.reduceSub, Int.reduceMul, Int.reduceToNat, Int.reduceGT, Nat.reduceBEq, Nat.reducePow, Nat.reduceGT, reduceCtorEq, ↓reduceIte]
  refine (horizon_ok c3).mono ?_
  rintro _ _ ⟨rfl, rfl⟩
  rw [show ([5] : List Int).headD 6 = 5 from rfl]
  simp -dsimp (disch := first | with_reducible assumption | omega | (intro h_; cases h_; done) | (simp only [LN] <;> omega) | (simp only [LF]; done) | (repeat (first | with_reducible assumption | apply Ext.refl | apply Ext.app | (apply Ext.set <;> omega) | (refine Ext.trans ?_ (by assumption))))) only [AX, TY, gV, dstOf, p_makeFunc, p_mapUpdate, mapPut, entsOf, p_lookup, p_extract, p_nilCheck, oneV, p_load, p_store, p_binOp, p_unOp, p_indexAddr, p_index, p_box, p_build, evParts, builtinV, load1, ldc, splice, minds, disj, rcOf, isCall, touchV, idsOf, mapId, touchB, p_buildSlice, buildSliceV, reps, fillV, p_convert, p_slice, evO, p_makeSlice, sid_some, soff_some, Nat.reduceLT, Nat.reduceLeDiff, Nat.reduceEqDiff, Nat.reduceAdd, Nat.reduceMul, Int.reduceBEq, Int.reduceEq, Int.reduceNeg, Int.reduceLT, Int.reduceLE, Int.reduceAdd, Int.reduceSub, Int.reduceMul, Int.reduceToNat, Int.reduceGT, Nat.reduceBEq, Nat.reducePow, Nat.reduceGT, reduceCtorEq, ↓reduceIte]
  refine (end_ok (x := 5) c3 (by simp) (by omega)).mono ?_
  rintro _ h4 ⟨i, hat, hr, k4, l4⟩
  have hi0 : i = 0 := by
    have h1 := hat.le
    by_cases h2 : i = 0
    · exact h2
    · have := hat.lo 0 (by omega) 5 rfl
      omega
  subst hi0
  rcases hr with ⟨_, rfl, c4⟩ | ⟨hno, _⟩
  · have c4 : Clk h.length h4 h.length 6 [] := c4
    have e4 : Ext h h4 := ext_of fun i hi => by rw [k4 i hi, k3 i hi, k2 i hi]; have := (e1.get _ _ (List.getElem?_eq_getElem hi)); rw [this, List.getElem?_eq_getElem hi]
    simp -dsimp (disch := first | with_reducible assumption | omega | (intro h_; cases h_; done) | (simp only [LN] <;> omega) | (simp only [LF]; done) | (repeat (first | with_reducible assumption | apply Ext.refl | apply Ext.app | (apply Ext.set <;> omega) | (refine Ext.trans ?_ (by assumption))))) only [AX, TY, gV, dstOf, p_makeFunc, p_mapUpdate, mapPut, entsOf, p_lookup, p_extract, p_nilCheck, oneV, p_load, p_store, p_binOp, p_unOp, p_indexAddr, p_index, p_box, p_build, evParts, builtinV, load1, ldc, splice, minds, disj, rcOf, isCall, touchV, idsOf, mapId, touchB, p_buildSlice, buildSliceV, reps, fillV, p_convert, p_slice, evO, p_makeSlice, sid_some, soff_some, Nat.reduceLT, Nat.reduceLeDiff, Nat.reduceEqDiff, Nat.reduceAdd, Nat.reduceMul, Int.reduceBEq, Int.reduceEq, Int.reduceNeg, Int.reduceLT, Int.reduceLE, Int.reduceAdd, Int.reduceSub, Int.reduceMul, Int.reduceToNat, Int.reduceGT, Nat.reduceBEq, Nat.reducePow, Nat.reduceGT, reduceCtorEq, ↓reduceIte]
    refine (horizon_ok c4).mono ?_
    rintro _ _ ⟨rfl, rfl⟩
    rw [show ([] : List Int).headD 6 = 6 from rfl]
    simp -dsimp (disch := first | with_reducible assumption | omega | (intro h_; cases h_; done) | (simp only [LN] <;> omega) | (simp only [LF]; done) | (repeat (first | with_reducible assumption | apply Ext.refl | apply Ext.app | (apply Ext.set <;> omega) | (refine Ext.trans ?_ (by assumption))))) only [AX, TY, gV, dstOf, p_makeFunc, p_mapUpdate, mapPut, entsOf, p_lookup, p_extract, p_nilCheck, oneV, p_load, p_store, p_binOp, p_unOp, p_indexAddr, p_index, p_box, p_build, evParts, builtinV, load1, ldc, splice, minds, disj, rcOf, isCall, touchV, idsOf, mapId, touchB, p_buildSlice, buildSliceV, reps, fillV, p_convert, p_slice, evO, p_makeSlice, sid_some, soff_some, Nat.reduceLT, Nat.reduceLeDiff, Nat.reduceEqDiff, Nat.reduceAdd, Nat.reduceMul, Int.reduceBEq, Int.reduceEq, Int.reduceNeg, Int.reduceLT, Int.reduceLE, Int.reduceAdd, Int.reduceSub, Int.reduceMul, Int.reduceToNat, Int.reduceGT, Nat.reduceBEq, Nat.reducePow, Nat.reduceGT, reduceCtorEq, ↓reduceIte]
    refine (sees_ok 3 6 5).mono ?_
    rintro _ h5 ⟨e5, rfl⟩
    rw [show sees 3 6 5 = true from rfl]
    simp -dsimp (disch := first | with_reducible assumption | omega | (intro h_; cases h_; done) | (simp only [LN] <;> omega) | (simp only [LF]; done) | (repeat (first | with_reducible assumption | apply Ext.refl | apply Ext.app | (apply Ext.set <;> omega) | (refine Ext.trans ?_ (by assumption))))) only [AX, TY, gV, dstOf, p_makeFunc, p_mapUpdate, mapPut, entsOf, p_lookup, p_extract, p_nilCheck, oneV, p_load, p_store, p_binOp, p_unOp, p_indexAddr, p_index, p_box, p_build, evParts, builtinV, load1, ldc, splice, minds, disj, rcOf, isCall, touchV, idsOf, mapId, touchB, p_buildSlice, buildSliceV, reps, fillV, p_convert, p_slice, evO, p_makeSlice, sid_some, soff_some, Nat.reduceLT, Nat.reduceLeDiff, Nat.reduceEqDiff, Nat.reduceAdd, Nat.reduceMul, Int.reduceBEq, Int.reduceEq, Int.reduceNeg, Int.reduceLT, Int.reduceLE, Int.reduceAdd, Int.reduceSub, Int.reduceMul, Int.reduceToNat, Int.reduceGT, Nat.reduceBEq, Nat.reducePow, Nat.reduceGT, reduceCtorEq, ↓reduceIte]
    have hb := e5.get _ _ (snoc_last _ rfl)
    have l5 : loadN h5 _ 0 5 = _ := loadN_of hb (by simp)
    simp only [List.drop_zero, List.take_succ_cons, List.take_zero] at l5
    simp -dsimp (disch := first | with_reducible assumption | omega | (intro h_; cases h_; done) | (simp only [LN] <;> omega) | (simp only [LF]; done) | (repeat (first | with_reducible assumption | apply Ext.refl | apply Ext.app | (apply Ext.set <;> omega) | (refine Ext.trans ?_ (by assumption))))) only [AX, TY, gV, dstOf, p_makeFunc, p_mapUpdate, mapPut, entsOf, p_lookup, p_extract, p_nilCheck, oneV, p_load, p_store, p_binOp, p_unOp, p_indexAddr, p_index, p_box, p_build, evParts, builtinV, load1, ldc, splice, minds, disj, rcOf, isCall, touchV, idsOf, mapId, touchB, p_buildSlice, buildSliceV, reps, fillV, p_convert, p_slice, evO, p_makeSlice, sid_some, soff_some, Nat.reduceLT, Nat.reduceLeDiff, Nat.reduceEqDiff, Nat.reduceAdd, Nat.reduceMul, Int.reduceBEq, Int.reduceEq, Int.reduceNeg, Int.reduceLT, Int.reduceLE, Int.reduceAdd, Int.reduceSub, Int.reduceMul, Int.reduceToNat, Int.reduceGT, Nat.reduceBEq, Nat.reducePow, Nat.reduceGT, reduceCtorEq, ↓reduceIte, l5]
    refine (sees_ok 3 6 6).mono ?_
    rintro _ h6 ⟨e6, rfl⟩
    rw [show sees 3 6 6 = false from rfl]
    simp -dsimp (disch := first | with_reducible assumption | omega | (intro h_; cases h_; done) | (simp only [LN] <;> omega) | (simp only [LF]; done) | (repeat (first | with_reducible assumption | apply Ext.refl | apply Ext.app | (apply Ext.set <;> omega) | (refine Ext.trans ?_ (by assumption))))) only [AX, TY, gV, dstOf, p_makeFunc, p_mapUpdate, mapPut, entsOf, p_lookup, p_extract, p_nilCheck, oneV, p_load, p_store, p_binOp, p_unOp, p_indexAddr, p_index, p_box, p_build, evParts, builtinV, load1, ldc, splice, minds, disj, rcOf, isCall, touchV, idsOf, mapId, touchB, p_buildSlice, buildSliceV, reps, fillV, p_convert, p_slice, evO, p_makeSlice, sid_some, soff_some, Nat.reduceLT, Nat.reduceLeDiff, Nat.reduceEqDiff, Nat.reduceAdd, Nat.reduceMul, Int.reduceBEq, Int.reduceEq, Int.reduceNeg, Int.reduceLT, Int.reduceLE, Int.reduceAdd, Int.reduceSub, Int.reduceMul, Int.reduceToNat, Int.reduceGT, Nat.reduceBEq, Nat.reducePow, Nat.reduceGT, reduceCtorEq, ↓reduceIte]
    exact e4.trans (((Ext.refl _).app _).trans (e5.trans e6))
  · exact absurd rfl hno
end Go.Proofs.YtpmlphefdoaohaaA
