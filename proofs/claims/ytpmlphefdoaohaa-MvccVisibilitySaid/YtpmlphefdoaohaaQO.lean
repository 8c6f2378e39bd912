/- Words of this session: chapter 22: comparing row identifiers; slices.SortFunc of the library, laid at row identifiers. -/
import Derived.Test.YtpmlphefdoaohaaQA
import Derived.Test.YtpmlphefdoaohaaAx40
import Derived.Test.YtpmlphefdoaohaaAx36
import Derived.Test.YtpmlphefdoaohaaHk
import Derived.Shelf.Lay
import Derived.Ground.SlsfProg
import Derived.Ground.NamesProg
namespace Go.Proofs
open Go.Shelf Go.RowKit Go.Lib Go.Sort
set_option maxRecDepth 10000
shelf_lay_g SlLaysF0.n6 Slsf 6 at Try 46 as Try.sortRow
end Go.Proofs
namespace Go.Proofs.YtpmlphefdoaohaaA
open Go Go.Proofs Go.RowKit
set_option linter.unusedVariables false
set_option linter.unusedSimpArgs false
set_option maxRecDepth 10000
def cmpI (a b : Int) : Int := if a < b then -1 else if b < a then 1 else 0
theorem nan50_0 {h : Heap} (a : Int) : WR (callE Try.prog hk0 50 [.int .i64 a] h) fun r h' => h = h' ∧ r = .bool false := by
  refine WR.call (hH := rfl) Try.func50 rfl (n := 6) rfl rfl (by simp) ?_
  simp -dsimp (disch := first | with_reducible assumption | omega | (intro h_; cases h_; done) | (simp only [LN] <;> omega) | (simp only [LF]; done) | (repeat (first | with_reducible assumption | apply Ext.refl | apply Ext.app | (apply Ext.set <;> omega) | (refine Ext.trans ?_ (by assumption))))) only [AX, TY, gV, dstOf, p_makeFunc, p_mapUpdate, mapPut, entsOf, p_lookup, p_extract, p_nilCheck, oneV, p_load, p_store, p_binOp, p_unOp, p_indexAddr, p_index, p_box, p_build, evParts, builtinV, load1, ldc, splice, minds, disj, rcOf, isCall, touchV, idsOf, mapId, touchB, p_buildSlice, buildSliceV, reps, fillV, p_convert, p_slice, evO, p_makeSlice, sid_some, soff_some, Nat.reduceLT, Nat.reduceLeDiff, Nat.reduceEqDiff, Nat.reduceAdd, Nat.reduceMul, Int.reduceBEq, Int.reduceEq, Int.reduceNeg, Int.reduceLT, Int.reduceLE, Int.reduceAdd, Int.reduceSub, Int.reduceMul, Int.reduceToNat, Int.reduceGT, Nat.reduceBEq, Nat.reducePow, Nat.reduceGT, reduceCtorEq, ↓reduceIte]
theorem cmp56_ok {h : Heap} (a b : Int) : WR (callE Try.prog hk0 56 [.int .i64 a, .int .i64 b] h) fun r h' => h = h' ∧ r = .int .i64 (cmpI a b) := by
  refine WR.call (hH := rfl) Try.func56 rfl (n := 20) rfl rfl (by simp) ?_
  simp -dsimp (disch := first | with_reducible assumption | omega | (intro h_; cases h_; done) | (simp only [LN] <;> omega) | (simp only [LF]; done) | (repeat (first | with_reducible assumption | apply Ext.refl | apply Ext.app | (apply Ext.set <;> omega) | (refine Ext.trans ?_ (by assumption))))) only [AX, TY, gV, dstOf, p_makeFunc, p_mapUpdate, mapPut, entsOf, p_lookup, p_extract, p_nilCheck, oneV, p_load, p_store, p_binOp, p_unOp, p_indexAddr, p_index, p_box, p_build, evParts, builtinV, load1, ldc, splice, minds, disj, rcOf, isCall, touchV, idsOf, mapId, touchB, p_buildSlice, buildSliceV, reps, fillV, p_convert, p_slice, evO, p_makeSlice, sid_some, soff_some, Nat.reduceLT, Nat.reduceLeDiff, Nat.reduceEqDiff, Nat.reduceAdd, Nat.reduceMul, Int.reduceBEq, Int.reduceEq, Int.reduceNeg, Int.reduceLT, Int.reduceLE, Int.reduceAdd, Int.reduceSub, Int.reduceMul, Int.reduceToNat, Int.reduceGT, Nat.reduceBEq, Nat.reducePow, Nat.reduceGT, reduceCtorEq, ↓reduceIte]
  refine (nan50_0 a).mono ?_
  rintro _ _ ⟨rfl, rfl⟩
  simp -dsimp (disch := first | with_reducible assumption | omega | (intro h_; cases h_; done) | (simp only [LN] <;> omega) | (simp only [LF]; done) | (repeat (first | with_reducible assumption | apply Ext.refl | apply Ext.app | (apply Ext.set <;> omega) | (refine Ext.trans ?_ (by assumption))))) only [AX, TY, gV, dstOf, p_makeFunc, p_mapUpdate, mapPut, entsOf, p_lookup, p_extract, p_nilCheck, oneV, p_load, p_store, p_binOp, p_unOp, p_indexAddr, p_index, p_box, p_build, evParts, builtinV, load1, ldc, splice, minds, disj, rcOf, isCall, touchV, idsOf, mapId, touchB, p_buildSlice, buildSliceV, reps, fillV, p_convert, p_slice, evO, p_makeSlice, sid_some, soff_some, Nat.reduceLT, Nat.reduceLeDiff, Nat.reduceEqDiff, Nat.reduceAdd, Nat.reduceMul, Int.reduceBEq, Int.reduceEq, Int.reduceNeg, Int.reduceLT, Int.reduceLE, Int.reduceAdd, Int.reduceSub, Int.reduceMul, Int.reduceToNat, Int.reduceGT, Nat.reduceBEq, Nat.reducePow, Nat.reduceGT, reduceCtorEq, ↓reduceIte]
  refine (nan50_0 b).mono ?_
  rintro _ _ ⟨rfl, rfl⟩
  simp -dsimp (disch := first | with_reducible assumption | omega | (intro h_; cases h_; done) | (simp only [LN] <;> omega) | (simp only [LF]; done) | (repeat (first | with_reducible assumption | apply Ext.refl | apply Ext.app | (apply Ext.set <;> omega) | (refine Ext.trans ?_ (by assumption))))) only [AX, TY, gV, dstOf, p_makeFunc, p_mapUpdate, mapPut, entsOf, p_lookup, p_extract, p_nilCheck, oneV, p_load, p_store, p_binOp, p_unOp, p_indexAddr, p_index, p_box, p_build, evParts, builtinV, load1, ldc, splice, minds, disj, rcOf, isCall, touchV, idsOf, mapId, touchB, p_buildSlice, buildSliceV, reps, fillV, p_convert, p_slice, evO, p_makeSlice, sid_some, soff_some, Nat.reduceLT, Nat.reduceLeDiff, Nat.reduceEqDiff, Nat.reduceAdd, Nat.reduceMul, Int.reduceBEq, Int.reduceEq, Int.reduceNeg, Int.reduceLT, Int.reduceLE, Int.reduceAdd, Int.reduceSub, Int.reduceMul, Int.reduceToNat, Int.reduceGT, Nat.reduceBEq, Nat.reducePow, Nat.reduceGT, reduceCtorEq, ↓reduceIte]
  all_goals try ((first | refine WC_dec (fun hq => ?_) (fun hq => ?_) | refine WC_bool (fun hq => ?_) (fun hq => ?_)) <;> (try simp -dsimp (disch := first | with_reducible assumption | omega | (intro h_; cases h_; done) | (simp only [LN] <;> omega) | (simp only [LF]; done) | (repeat (first | with_reducible assumption | apply Ext.refl | apply Ext.app | (apply Ext.set <;> omega) | (refine Ext.trans ?_ (by assumption))))) only [AX, TY, gV, dstOf, p_makeFunc, p_mapUpdate, mapPut, entsOf, p_lookup, p_extract, p_nilCheck, oneV, p_load, p_store, p_binOp, p_unOp, p_indexAddr, p_index, p_box, p_build, evParts, builtinV, load1, ldc, splice, minds, disj, rcOf, isCall, touchV, idsOf, mapId, touchB, p_buildSlice, buildSliceV, reps, fillV, p_convert, p_slice, evO, p_makeSlice, sid_some, soff_some, Nat.reduceLT, Nat.reduceLeDiff, Nat.reduceEqDiff, Nat.reduceAdd, Nat.reduceMul, Int.reduceBEq, Int.reduceEq, Int.reduceNeg, Int.reduceLT, Int.reduceLE, Int.reduceAdd, Int.reduceSub, Int.reduceMul, Int.reduceToNat, Int.reduceGT, Nat.reduceBEq, Nat.reducePow, Nat.reduceGT, reduceCtorEq, ↓reduceIte, *]))
  all_goals try ((first | refine WC_dec (fun hq => ?_) (fun hq => ?_) | refine WC_bool (fun hq => ?_) (fun hq => ?_)) <;> (try simp -dsimp (disch := first | with_reducible assumption | omega | (intro h_; cases h_; done) | (simp only [LN] <;> omega) | (simp only [LF]; done) | (repeat (first | with_reducible assumption | apply Ext.refl | apply Ext.app | (apply Ext.set <;> omega) | (refine Ext.trans ?_ (by assumption))))) only [AX, TY, gV, dstOf, p_makeFunc, p_mapUpdate, mapPut, entsOf, p_lookup, p_extract, p_nilCheck, oneV, p_load, p_store, p_binOp, p_unOp, p_indexAddr, p_index, p_box, p_build, evParts, builtinV, load1, ldc, splice, minds, disj, rcOf, isCall, touchV, idsOf, mapId, touchB, p_buildSlice, buildSliceV, reps, fillV, p_convert, p_slice, evO, p_makeSlice, sid_some, soff_some, Nat.reduceLT, Nat.reduceLeDiff, Nat.reduceEqDiff, Nat.reduceAdd, Nat.reduceMul, Int.reduceBEq, Int.reduceEq, Int.reduceNeg, Int.reduceLT, Int.reduceLE, Int.reduceAdd, Int.reduceSub, Int.reduceMul, Int.reduceToNat, Int.reduceGT, Nat.reduceBEq, Nat.reducePow, Nat.reduceGT, reduceCtorEq, ↓reduceIte, *]))
  all_goals try ((first | refine WC_dec (fun hq => ?_) (fun hq => ?_) | refine WC_bool (fun hq => ?_) (fun hq => ?_)) <;> (try simp -dsimp (disch := first | with_reducible assumption | omega | (intro h_; cases h_; done) | (simp only [LN] <;> omega) | (simp only [LF]; done) | (repeat (first | with_reducible assumption | apply Ext.refl | apply Ext.app | (apply Ext.set <;> omega) | (refine Ext.trans ?_ (by assumption))))) only [AX, TY, gV, dstOf, p_makeFunc, p_mapUpdate, mapPut, entsOf, p_lookup, p_extract, p_nilCheck, oneV, p_load, p_store, p_binOp, p_unOp, p_indexAddr, p_index, p_box, p_build, evParts, builtinV, load1, ldc, splice, minds, disj, rcOf, isCall, touchV, idsOf, mapId, touchB, p_buildSlice, buildSliceV, reps, fillV, p_convert, p_slice, evO, p_makeSlice, sid_some, soff_some, Nat.reduceLT, Nat.reduceLeDiff, Nat.reduceEqDiff, Nat.reduceAdd, Nat.reduceMul, Int.reduceBEq, Int.reduceEq, Int.reduceNeg, Int.reduceLT, Int.reduceLE, Int.reduceAdd, Int.reduceSub, Int.reduceMul, Int.reduceToNat, Int.reduceGT, Nat.reduceBEq, Nat.reducePow, Nat.reduceGT, reduceCtorEq, ↓reduceIte, *]))
  all_goals simp [cmpI, *]
def orL : List Int → Int
  | [] => 0
  | a :: l => if a = 0 then orL l else a
theorem or_ok {h : Heap} {p : Option (Nat × Nat)} {c : Option Nat} {ys : List Int} (hs : Sl h p 1 (fun a => [.int .i64 a]) ys) :
    WR (callE Try.prog hk0 55 [.slice p ys.length c] h) fun r h' => h' = h ∧ r = .int .i64 (orL ys) := by
  have hn := hs.nil'
  have hl := hs.small
  refine WR.call (hH := rfl) Try.func55 rfl (n := 18) rfl rfl (by simp) ?_
  simp -dsimp (disch := first | with_reducible assumption | omega | (intro h_; cases h_; done) | (simp only [LN] <;> omega) | (simp only [LF]; done) | (repeat (first | with_reducible assumption | apply Ext.refl | apply Ext.app | (apply Ext.set <;> omega) | (refine Ext.trans ?_ (by assumption))))) only [AX, TY, gV, dstOf, p_makeFunc, p_mapUpdate, mapPut, entsOf, p_lookup, p_extract, p_nilCheck, oneV, p_load, p_store, p_binOp, p_unOp, p_indexAddr, p_index, p_box, p_build, evParts, builtinV, load1, ldc, splice, minds, disj, rcOf, isCall, touchV, idsOf, mapId, touchB, p_buildSlice, buildSliceV, reps, fillV, p_convert, p_slice, evO, p_makeSlice, sid_some, soff_some, Nat.reduceLT, Nat.reduceLeDiff, Nat.reduceEqDiff, Nat.reduceAdd, Nat.reduceMul, Int.reduceBEq, Int.reduceEq, Int.reduceNeg, Int.reduceLT, Int.reduceLE, Int.reduceAdd, Int.reduceSub, Int.reduceMul, Int.reduceToNat, Int.reduceGT, Nat.reduceBEq, Nat.reducePow, Nat.reduceGT, reduceCtorEq, ↓reduceIte]
  refine W.loop (fun m τ hh => hh = h ∧ ∃ i : Nat, m + i = ys.length ∧ τ 6 = .slice p ys.length c ∧ τ 7 = .int .i64 ys.length ∧ τ 8 = .int .i64 i ∧ τ 3 = .int .i64 0 ∧ orL ys = orL (ys.drop i)) ?_ (m := ys.length) ?_
  rotate_left
  · exact ⟨rfl, 0, by simp, rfl, rfl, rfl, rfl, by simp⟩
  rintro m τ _ ⟨rfl, i, hm, h6, h7, h8, h3, hx⟩
  simp -dsimp (disch := first | with_reducible assumption | omega | (intro h_; cases h_; done) | (simp only [LN] <;> omega) | (simp only [LF]; done) | (repeat (first | with_reducible assumption | apply Ext.refl | apply Ext.app | (apply Ext.set <;> omega) | (refine Ext.trans ?_ (by assumption))))) only [AX, TY, gV, dstOf, p_makeFunc, p_mapUpdate, mapPut, entsOf, p_lookup, p_extract, p_nilCheck, oneV, p_load, p_store, p_binOp, p_unOp, p_indexAddr, p_index, p_box, p_build, evParts, builtinV, load1, ldc, splice, minds, disj, rcOf, isCall, touchV, idsOf, mapId, touchB, p_buildSlice, buildSliceV, reps, fillV, p_convert, p_slice, evO, p_makeSlice, sid_some, soff_some, Nat.reduceLT, Nat.reduceLeDiff, Nat.reduceEqDiff, Nat.reduceAdd, Nat.reduceMul, Int.reduceBEq, Int.reduceEq, Int.reduceNeg, Int.reduceLT, Int.reduceLE, Int.reduceAdd, Int.reduceSub, Int.reduceMul, Int.reduceToNat, Int.reduceGT, Nat.reduceBEq, Nat.reducePow, Nat.reduceGT, reduceCtorEq, ↓reduceIte, h6, h7, h8, h3]
  refine WC_dec (fun hlt => ?_) (fun hge => ?_)
  · have hi : i < ys.length := by omega
    rw [List.drop_eq_getElem_cons hi] at hx
    simp -dsimp (disch := first | with_reducible assumption | omega | (intro h_; cases h_; done) | (simp only [LN] <;> omega) | (simp only [LF]; done) | (repeat (first | with_reducible assumption | apply Ext.refl | apply Ext.app | (apply Ext.set <;> omega) | (refine Ext.trans ?_ (by assumption))))) only [AX, TY, gV, dstOf, p_makeFunc, p_mapUpdate, mapPut, entsOf, p_lookup, p_extract, p_nilCheck, oneV, p_load, p_store, p_binOp, p_unOp, p_indexAddr, p_index, p_box, p_build, evParts, builtinV, load1, ldc, splice, minds, disj, rcOf, isCall, touchV, idsOf, mapId, touchB, p_buildSlice, buildSliceV, reps, fillV, p_convert, p_slice, evO, p_makeSlice, sid_some, soff_some, Nat.reduceLT, Nat.reduceLeDiff, Nat.reduceEqDiff, Nat.reduceAdd, Nat.reduceMul, Int.reduceBEq, Int.reduceEq, Int.reduceNeg, Int.reduceLT, Int.reduceLE, Int.reduceAdd, Int.reduceSub, Int.reduceMul, Int.reduceToNat, Int.reduceGT, Nat.reduceBEq, Nat.reducePow, Nat.reduceGT, reduceCtorEq, ↓reduceIte, h6, h7, h8, h3, hs.load0]
    refine WC_dec (fun hq => ?_) (fun hq => ?_)
    · simp -dsimp (disch := first | with_reducible assumption | omega | (intro h_; cases h_; done) | (simp only [LN] <;> omega) | (simp only [LF]; done) | (repeat (first | with_reducible assumption | apply Ext.refl | apply Ext.app | (apply Ext.set <;> omega) | (refine Ext.trans ?_ (by assumption))))) only [AX, TY, gV, dstOf, p_makeFunc, p_mapUpdate, mapPut, entsOf, p_lookup, p_extract, p_nilCheck, oneV, p_load, p_store, p_binOp, p_unOp, p_indexAddr, p_index, p_box, p_build, evParts, builtinV, load1, ldc, splice, minds, disj, rcOf, isCall, touchV, idsOf, mapId, touchB, p_buildSlice, buildSliceV, reps, fillV, p_convert, p_slice, evO, p_makeSlice, sid_some, soff_some, Nat.reduceLT, Nat.reduceLeDiff, Nat.reduceEqDiff, Nat.reduceAdd, Nat.reduceMul, Int.reduceBEq, Int.reduceEq, Int.reduceNeg, Int.reduceLT, Int.reduceLE, Int.reduceAdd, Int.reduceSub, Int.reduceMul, Int.reduceToNat, Int.reduceGT, Nat.reduceBEq, Nat.reducePow, Nat.reduceGT, reduceCtorEq, ↓reduceIte, h6, h7, h8, h3]
      rw [hx]; simp [orL, hq]
    · simp -dsimp (disch := first | with_reducible assumption | omega | (intro h_; cases h_; done) | (simp only [LN] <;> omega) | (simp only [LF]; done) | (repeat (first | with_reducible assumption | apply Ext.refl | apply Ext.app | (apply Ext.set <;> omega) | (refine Ext.trans ?_ (by assumption))))) only [AX, TY, gV, dstOf, p_makeFunc, p_mapUpdate, mapPut, entsOf, p_lookup, p_extract, p_nilCheck, oneV, p_load, p_store, p_binOp, p_unOp, p_indexAddr, p_index, p_box, p_build, evParts, builtinV, load1, ldc, splice, minds, disj, rcOf, isCall, touchV, idsOf, mapId, touchB, p_buildSlice, buildSliceV, reps, fillV, p_convert, p_slice, evO, p_makeSlice, sid_some, soff_some, Nat.reduceLT, Nat.reduceLeDiff, Nat.reduceEqDiff, Nat.reduceAdd, Nat.reduceMul, Int.reduceBEq, Int.reduceEq, Int.reduceNeg, Int.reduceLT, Int.reduceLE, Int.reduceAdd, Int.reduceSub, Int.reduceMul, Int.reduceToNat, Int.reduceGT, Nat.reduceBEq, Nat.reducePow, Nat.reduceGT, reduceCtorEq, ↓reduceIte, h6, h7, h8, h3, wrap_in]
      refine ⟨m - 1, by omega, i + 1, by omega, by simp, ?_⟩
      rw [hx]
      simp only [Decidable.not_not] at hq
      simp [orL, hq]
  · simp -dsimp (disch := first | with_reducible assumption | omega | (intro h_; cases h_; done) | (simp only [LN] <;> omega) | (simp only [LF]; done) | (repeat (first | with_reducible assumption | apply Ext.refl | apply Ext.app | (apply Ext.set <;> omega) | (refine Ext.trans ?_ (by assumption))))) only [AX, TY, gV, dstOf, p_makeFunc, p_mapUpdate, mapPut, entsOf, p_lookup, p_extract, p_nilCheck, oneV, p_load, p_store, p_binOp, p_unOp, p_indexAddr, p_index, p_box, p_build, evParts, builtinV, load1, ldc, splice, minds, disj, rcOf, isCall, touchV, idsOf, mapId, touchB, p_buildSlice, buildSliceV, reps, fillV, p_convert, p_slice, evO, p_makeSlice, sid_some, soff_some, Nat.reduceLT, Nat.reduceLeDiff, Nat.reduceEqDiff, Nat.reduceAdd, Nat.reduceMul, Int.reduceBEq, Int.reduceEq, Int.reduceNeg, Int.reduceLT, Int.reduceLE, Int.reduceAdd, Int.reduceSub, Int.reduceMul, Int.reduceToNat, Int.reduceGT, Nat.reduceBEq, Nat.reducePow, Nat.reduceGT, reduceCtorEq, ↓reduceIte, h6, h7, h8, h3]
    rw [hx, List.drop_of_length_le (by omega)]; rfl
/-- A row identifier. -/
structure Rid where
  a : Int
  b : Int
  deriving Inhabited
def Rid.enc (x : Rid) : List V := [.int .i64 x.a, .int .i64 x.b]
def Rid.encM (x : Rid) : List Value := [.int .i64 x.a, .int .i64 x.b]
def Rid.dec : List V → Option Rid
  | [.int .i64 a, .int .i64 b] => some ⟨a, b⟩
  | _ => none
def cmpR (x y : Rid) : Int := if cmpI x.a y.a = 0 then cmpI x.b y.b else cmpI x.a y.a
theorem Rid.elm : Elm 2 Rid.enc Rid.encM Rid.dec where
  pos := by decide
  lenV := fun _ => rfl
  lenM := fun _ => rfl
  is := fun r a h => by
    unfold Rid.dec at h
    split at h
    · cases h; rfl
    · cases h
  back := fun _ => rfl
  one := fun a v hv => by
    simp only [Rid.encM, List.mem_cons, List.not_mem_nil, or_false] at hv
    rcases hv with rfl | rfl <;> rfl
  leaf := fun _ => rfl
  uniq := fun ι a i v c hv hrv => by
    match i with
    | 0 => cases hv; cases hrv; rfl
    | 1 => cases hv; cases hrv; rfl
    | i + 2 => cases hv
  enc := fun ι a => RVs.cons (.int _ _) (RVs.cons (.int _ _) (RVs.nil ι))
theorem cmp47_ok {h : Heap} (x y : Rid) : WR (callE Try.prog hk0 47 [.agg x.enc, .agg y.enc] h) fun r h' => Ext h h' ∧ r = .int .i64 (cmpR x y) := by
  refine WR.call (hH := rfl) Try.func47 rfl (n := 17) rfl rfl (by simp) ?_
  obtain ⟨g, hg, g1, g2, ex, hl⟩ : ∃ g, h ++ [O.cells [V.int .i64 x.a, V.int .i64 x.b] .rw] ++ [O.cells [V.int .i64 y.a, V.int .i64 y.b] .rw] = g ∧ g[h.length]? = some (O.cells [V.int .i64 x.a, V.int .i64 x.b] .rw) ∧ g[h.length + 1]? = some (O.cells [V.int .i64 y.a, V.int .i64 y.b] .rw) ∧ Ext h g ∧ g.length = h.length + 2 := ⟨_, rfl, by rw [snoc_old _ (by simp)]; exact snoc_last _ rfl, snoc_last _ (by simp), (by (repeat (first | assumption | apply Ext.refl | apply Ext.app | (apply Ext.set <;> omega) | exact Ext.trans (by assumption) (by assumption) | (refine Ext.trans ?_ (by assumption))))), by simp⟩
  have lx := loadN_fact g1
  have ly := loadN_fact g2
  simp only [Rid.enc]
  simp -dsimp (disch := first | with_reducible assumption | omega | (intro h_; cases h_; done) | (simp only [LN] <;> omega) | (simp only [LF]; done) | (repeat (first | with_reducible assumption | apply Ext.refl | apply Ext.app | (apply Ext.set <;> omega) | (refine Ext.trans ?_ (by assumption))))) only [AX, TY, gV, dstOf, p_makeFunc, p_mapUpdate, mapPut, entsOf, p_lookup, p_extract, p_nilCheck, oneV, p_load, p_store, p_binOp, p_unOp, p_indexAddr, p_index, p_box, p_build, evParts, builtinV, load1, ldc, splice, minds, disj, rcOf, isCall, touchV, idsOf, mapId, touchB, p_buildSlice, buildSliceV, reps, fillV, p_convert, p_slice, evO, p_makeSlice, sid_some, soff_some, Nat.reduceLT, Nat.reduceLeDiff, Nat.reduceEqDiff, Nat.reduceAdd, Nat.reduceMul, Int.reduceBEq, Int.reduceEq, Int.reduceNeg, Int.reduceLT, Int.reduceLE, Int.reduceAdd, Int.reduceSub, Int.reduceMul, Int.reduceToNat, Int.reduceGT, Nat.reduceBEq, Nat.reducePow, Nat.reduceGT, reduceCtorEq, ↓reduceIte, hg]
  refine W.drawn [(0, []), (1, []), (2, [1, 0]), (3, [1, 0]), (5, [3, 2, 1, 0]), (6, [3, 2, 1, 0]), (7, [6, 5, 3, 2, 1, 0]), (8, [6, 5, 3, 2, 1, 0]), (4, [8, 7, 6, 5]), (9, []), (10, []), (11, []), (12, [])] (by decide +kernel) ?_
  simp -dsimp (disch := first | with_reducible assumption | omega | (intro h_; cases h_; done) | (simp only [LN] <;> omega) | (simp only [LF]; done) | (repeat (first | with_reducible assumption | apply Ext.refl | apply Ext.app | (apply Ext.set <;> omega) | (refine Ext.trans ?_ (by assumption))))) only [AX, TY, gV, dstOf, p_makeFunc, p_mapUpdate, mapPut, entsOf, p_lookup, p_extract, p_nilCheck, oneV, p_load, p_store, p_binOp, p_unOp, p_indexAddr, p_index, p_box, p_build, evParts, builtinV, load1, ldc, splice, minds, disj, rcOf, isCall, touchV, idsOf, mapId, touchB, p_buildSlice, buildSliceV, reps, fillV, p_convert, p_slice, evO, p_makeSlice, sid_some, soff_some, Nat.reduceLT, Nat.reduceLeDiff, Nat.reduceEqDiff, Nat.reduceAdd, Nat.reduceMul, Int.reduceBEq, Int.reduceEq, Int.reduceNeg, Int.reduceLT, Int.reduceLE, Int.reduceAdd, Int.reduceSub, Int.reduceMul, Int.reduceToNat, Int.reduceGT, Nat.reduceBEq, Nat.reducePow, Nat.reduceGT, reduceCtorEq, ↓reduceIte, lx, ly]
  refine (cmp56_ok _ _).mono ?_
  rintro _ _ ⟨rfl, rfl⟩
  simp -dsimp (disch := first | with_reducible assumption | omega | (intro h_; cases h_; done) | (simp only [LN] <;> omega) | (simp only [LF]; done) | (repeat (first | with_reducible assumption | apply Ext.refl | apply Ext.app | (apply Ext.set <;> omega) | (refine Ext.trans ?_ (by assumption))))) only [AX, TY, gV, dstOf, p_makeFunc, p_mapUpdate, mapPut, entsOf, p_lookup, p_extract, p_nilCheck, oneV, p_load, p_store, p_binOp, p_unOp, p_indexAddr, p_index, p_box, p_build, evParts, builtinV, load1, ldc, splice, minds, disj, rcOf, isCall, touchV, idsOf, mapId, touchB, p_buildSlice, buildSliceV, reps, fillV, p_convert, p_slice, evO, p_makeSlice, sid_some, soff_some, Nat.reduceLT, Nat.reduceLeDiff, Nat.reduceEqDiff, Nat.reduceAdd, Nat.reduceMul, Int.reduceBEq, Int.reduceEq, Int.reduceNeg, Int.reduceLT, Int.reduceLE, Int.reduceAdd, Int.reduceSub, Int.reduceMul, Int.reduceToNat, Int.reduceGT, Nat.reduceBEq, Nat.reducePow, Nat.reduceGT, reduceCtorEq, ↓reduceIte, lx, ly]
  refine (cmp56_ok _ _).mono ?_
  rintro _ _ ⟨rfl, rfl⟩
  have hb : Sl (g ++ [O.cells [V.int .i64 (cmpI x.a y.a), V.int .i64 (cmpI x.b y.b)] .rw]) (some (g.length, 0)) 1 (fun a => [V.int .i64 a]) [cmpI x.a y.a, cmpI x.b y.b] := Sl.whole (snoc_last _ rfl) (by simp) rfl (by simp)
  have hor := or_ok (c := some 2) hb
  simp -dsimp (disch := first | with_reducible assumption | omega | (intro h_; cases h_; done) | (simp only [LN] <;> omega) | (simp only [LF]; done) | (repeat (first | with_reducible assumption | apply Ext.refl | apply Ext.app | (apply Ext.set <;> omega) | (refine Ext.trans ?_ (by assumption))))) only [AX, TY, gV, dstOf, p_makeFunc, p_mapUpdate, mapPut, entsOf, p_lookup, p_extract, p_nilCheck, oneV, p_load, p_store, p_binOp, p_unOp, p_indexAddr, p_index, p_box, p_build, evParts, builtinV, load1, ldc, splice, minds, disj, rcOf, isCall, touchV, idsOf, mapId, touchB, p_buildSlice, buildSliceV, reps, fillV, p_convert, p_slice, evO, p_makeSlice, sid_some, soff_some, Nat.reduceLT, Nat.reduceLeDiff, Nat.reduceEqDiff, Nat.reduceAdd, Nat.reduceMul, Int.reduceBEq, Int.reduceEq, Int.reduceNeg, Int.reduceLT, Int.reduceLE, Int.reduceAdd, Int.reduceSub, Int.reduceMul, Int.reduceToNat, Int.reduceGT, Nat.reduceBEq, Nat.reducePow, Nat.reduceGT, reduceCtorEq, ↓reduceIte, lx, ly]
  refine hor.mono ?_
  rintro _ _ ⟨rfl, rfl⟩
  simp -dsimp (disch := first | with_reducible assumption | omega | (intro h_; cases h_; done) | (simp only [LN] <;> omega) | (simp only [LF]; done) | (repeat (first | with_reducible assumption | apply Ext.refl | apply Ext.app | (apply Ext.set <;> omega) | (refine Ext.trans ?_ (by assumption))))) only [AX, TY, gV, dstOf, p_makeFunc, p_mapUpdate, mapPut, entsOf, p_lookup, p_extract, p_nilCheck, oneV, p_load, p_store, p_binOp, p_unOp, p_indexAddr, p_index, p_box, p_build, evParts, builtinV, load1, ldc, splice, minds, disj, rcOf, isCall, touchV, idsOf, mapId, touchB, p_buildSlice, buildSliceV, reps, fillV, p_convert, p_slice, evO, p_makeSlice, sid_some, soff_some, Nat.reduceLT, Nat.reduceLeDiff, Nat.reduceEqDiff, Nat.reduceAdd, Nat.reduceMul, Int.reduceBEq, Int.reduceEq, Int.reduceNeg, Int.reduceLT, Int.reduceLE, Int.reduceAdd, Int.reduceSub, Int.reduceMul, Int.reduceToNat, Int.reduceGT, Nat.reduceBEq, Nat.reducePow, Nat.reduceGT, reduceCtorEq, ↓reduceIte]
  refine ⟨(by (repeat (first | assumption | apply Ext.refl | apply Ext.app | (apply Ext.set <;> omega) | exact Ext.trans (by assumption) (by assumption) | (refine Ext.trans ?_ (by assumption))))), ?_⟩
  unfold cmpR orL
  split
  · unfold orL; split
    · rename_i q; rw [q]; rfl
    · rfl
  · rfl
theorem cmpI_swap (a b : Int) : cmpI b a = - cmpI a b := by unfold cmpI; split <;> split <;> (try split) <;> omega
theorem cmpI_zero {a b : Int} : cmpI a b = 0 ↔ a = b := by unfold cmpI; split <;> (try split) <;> omega
theorem cmpI_neg {a b : Int} : cmpI a b < 0 ↔ a < b := by unfold cmpI; split <;> (try split) <;> omega
theorem cmpR_swap (x y : Rid) : cmpR y x = - cmpR x y := by
  unfold cmpR
  rw [cmpI_swap x.a y.a, cmpI_swap x.b y.b]
  split <;> split <;> omega
theorem cmpR_zero {x y : Rid} (h : cmpR x y = 0) : x = y := by
  unfold cmpR at h
  obtain ⟨xa, xb⟩ := x
  obtain ⟨ya, yb⟩ := y
  split at h
  · rename_i q
    have h1 := cmpI_zero.1 q
    have h2 := cmpI_zero.1 h
    simp only at h1 h2
    subst h1 h2; rfl
  · rename_i q; exact absurd h q
theorem cmpR_neg {x y : Rid} : cmpR x y < 0 ↔ x.a < y.a ∨ x.a = y.a ∧ x.b < y.b := by
  unfold cmpR
  split
  · rename_i q
    have h1 := cmpI_zero.1 q
    rw [cmpI_neg]; omega
  · rename_i q
    have h1 : ¬ x.a = y.a := fun e => q (cmpI_zero.2 e)
    rw [cmpI_neg]; omega
theorem cmpR_self (x : Rid) : cmpR x x = 0 := by simp [cmpR, cmpI]
theorem swoR : Go.Sort.SWO (ltOf cmpR) where
  irrefl x := by unfold ltOf; rw [cmpR_self]; rfl
  trans x y z h1 h2 := by
    unfold ltOf at *
    rw [decide_eq_true_eq, cmpR_neg] at *
    omega
  ntrans x y z h1 h2 := by
    unfold ltOf at *
    rw [decide_eq_false_iff_not, cmpR_neg] at *
    omega
theorem cmp_calls (W : World) (x y : Rid) : Calls Try.prog 47 #[.agg x.encM.toArray, .agg y.encM.toArray] W fun e w' => e = .returned (.int .i64 (cmpR x y)) ∧ ∃ q os', w' = Go.Sort.grow (W.drewN q) os' := by
  have hm : Try.prog.follows .mixedOrders = true := by kernel_rfl
  obtain ⟨fn, code, hf, hb⟩ : ∃ fn code, Try.prog.funcs[47]? = some fn ∧ fn.body = some code := ⟨_, _, Try.func47, rfl⟩
  have hrn : Rel (fun _ => none) [] W := ⟨fun id pl o a => (by cases a), fun i j pi pj oi oj _ a => (by cases a)⟩
  have hag : ∀ z : Rid, RV (fun _ => none) (.agg z.enc) (.agg z.encM.toArray) := fun z => .agg _ _ rfl fun i v c hv hc => (Rid.elm.enc _ z).2 i v c hv (by simpa using hc)
  refine (calls_of hm named hk0_sound hf hb (cmp47_ok x y) (ι := fun _ => none) (w := W) (A := #[.agg x.encM.toArray, .agg y.encM.toArray]) hrn (RVs.cons (hag x) (RVs.cons (hag y) (RVs.nil _))) (fun _ _ => rfl) AllRo.nil).mono ?_
  rintro e w' ⟨v, h', r, κ, ⟨_, rfl⟩, rfl, hrv, st, _⟩
  cases hrv
  refine ⟨rfl, w'.drawn - W.drawn, w'.heap.extract W.heap.size w'.heap.size, ?_⟩
  have hd := st.drawn
  have hs := st.size
  have hheap : w'.heap = W.heap ++ w'.heap.extract W.heap.size w'.heap.size := by
    apply Array.ext_getElem?
    intro j
    by_cases hj : j < W.heap.size
    · rw [Array.getElem?_append_left hj]
      exact st.frame j hj (fun ⟨id, pl, o, h1, _⟩ => (by cases h1))
    · rw [Array.getElem?_append_right (by omega), Array.getElem?_extract]
      by_cases hj2 : j < w'.heap.size
      · rw [if_pos (by omega)]; congr 1; omega
      · rw [if_neg (by omega), Array.getElem?_eq_none (by omega)]
  have h1 := st.os
  have h2 := st.tape
  have h3 := st.output
  obtain ⟨heap, tape, drawn, os, output⟩ := w'
  unfold Go.Sort.grow World.drewN
  simp only at hheap h1 h2 h3 hd ⊢
  rw [← hheap, h1, h2, h3]
  congr 1
  omega
noncomputable def hkS : Hooks := fun f => if f = 46 then some (srtHook 2 Rid.enc Rid.dec cmpR 47 (callE Try.prog hk0 46)) else none
theorem sort_goes {args : List V} {h : Heap} {v : V} {h' : Heap} (q : srtHook 2 Rid.enc Rid.dec cmpR 47 (callE Try.prog hk0 46) args h = some (v, h')) (ι : Mp) (w : World) (A : Array Value) (hr : Rel ι h w) (ha : RVs ι args A.toList) (hfr : Free ι h.length h'.length) :
    CallsTo Try.prog 46 A w fun x w' => ∃ κ, RV κ v x ∧ Stp ι h w κ h' w' := by
  have hm : Try.prog.follows .mixedOrders = true := by kernel_rfl
  have hag : aggT Try.prog 23 = some true := by kernel_rfl
  have hsz : szT Try.prog 23 = some 2 := by kernel_rfl
  have h24 : Try.sortRow_ren.t 24 = 23 := rfl
  obtain ⟨fn, code, hf, hb⟩ : ∃ fn code, Try.prog.funcs[46]? = some fn ∧ fn.body = some code := ⟨_, _, Try.func46, rfl⟩
  have eg : ∀ args w, (callFunc 47 args).run Try.prog w = .ok (.enter 47 args) w := enters_of Try.func47 (by kernel_rfl) rfl
  exact srtHook_goes hm named hk0_sound Rid.elm Try.sortRow (fun w => by rw [h24]; exact aggT_run hag w) (fun w => by rw [h24]; exact szT_run hsz w) swoR cmpR_swap (fun x y h => cmpR_zero h) rfl hf hb eg cmp_calls q ι w A hr ha hfr
end Go.Proofs.YtpmlphefdoaohaaA
