/- Words of this session: chapter 4: keys decoded. Words of this session: chapter 4: the first value of a key. Words of this session: chapter 4: keys decoded, both ways. Words of this session: chapter 4: the document's way to decode keys. Words of this session: chapter 4: the document's way to decode keys: the loop. -/
import Derived.Test.YtngcicclaehpbaaDoorPK
namespace Go.Proofs.YtngcicclaehpbaaDoorA
open Go Go.Proofs Go.RowKit
set_option linter.unusedVariables false
set_option linter.unusedSimpArgs false
set_option maxRecDepth 10000
set_option maxHeartbeats 2000000
def ktR (hR : Heap) (o : Option (List Int × List Int)) (r : V) : Prop := match o with
  | some (s, t) => ∃ p2 c2, r = V.tuple [.str s, .slice p2 t.length c2, .bool true] ∧ Rs hR p2 c2 1 eb t
  | none => r = V.tuple [.str [], .slice none 0 (some 0), .bool false]
theorem keyText_ne {x : Int} {t : List Int} (h : x ≠ 0) : keyText (x :: t) = (keyText t).map fun q => (x :: q.1, q.2) := by
  cases t with
  | nil => rfl
  | cons y l => rw [keyText, if_pos h]
structure LKX (hR h0 : Heap) (b : List Int) (m : Nat) (τ : Tp) (hh : Heap) (p : Option (Nat × Nat)) (c : Option Nat) (t L : List Int) : Prop where
  hm : m = t.length
  hl : L.length + t.length ≤ b.length
  t0 : τ 0 = .slice p t.length c
  rs : Rs hR p c 1 eb t
  bt : Bt t
  bl : Bt L
  kt : (keyText t).map (fun q => (L ++ q.1, q.2)) = keyText b
  app : App h0.length h0 none 1 eb L (τ 5) hh
theorem keyText_ok {hR h : Heap} {p : Option (Nat × Nat)} {c : Option Nat} {b : List Int} (hr : Rs hR p c 1 eb b) (e0 : Ext hR h) (hb : Bt b) (hl : b.length ≤ 1000000) : WR (callE Tryd.prog hk 53 [.slice p b.length c] h) fun r h' => Ext h h' ∧ ktR hR (keyText b) r := by
  refine WR.call (hH := rfl) Tryd.func53 rfl (n := 49) rfl rfl (by simp) ?_
  simp -dsimp (disch := first | with_reducible assumption | omega | (intro h_; cases h_; done) | (simp only [LN] <;> omega) | (simp only [LF]; done) | (repeat (first | with_reducible assumption | apply Ext.refl | apply Ext.app | (apply Ext.set <;> omega) | (refine Ext.trans ?_ (by assumption))))) only [AX, TY, gV, dstOf, p_makeFunc, p_mapUpdate, mapPut, entsOf, p_lookup, p_extract, p_nilCheck, oneV, p_load, p_store, p_binOp, p_unOp, p_indexAddr, p_index, p_box, p_build, evParts, builtinV, load1, ldc, splice, minds, disj, rcOf, isCall, touchV, idsOf, mapId, touchB, p_buildSlice, buildSliceV, reps, fillV, p_convert, p_slice, evO, p_makeSlice, sid_some, soff_some, Nat.reduceLT, Nat.reduceLeDiff, Nat.reduceEqDiff, Nat.reduceAdd, Nat.reduceMul, Int.reduceBEq, Int.reduceEq, Int.reduceNeg, Int.reduceLT, Int.reduceLE, Int.reduceAdd, Int.reduceSub, Int.reduceMul, Int.reduceToNat, Int.reduceGT, Nat.reduceBEq, Nat.reducePow, Nat.reduceGT, reduceCtorEq, ↓reduceIte]
  refine W.loop (fun m τ hh => ∃ p c t L, LKX hR h b m τ hh p c t L) ?_ (m := b.length) ?_
  rotate_left
  · refine ⟨p, c, b, [], ?_⟩
    constructor <;> (try first | assumption | ((repeat (first | assumption | apply Ext.refl | apply Ext.app | (apply Ext.set <;> omega) | exact Ext.trans (by assumption) (by assumption) | (refine Ext.trans ?_ (by assumption)))); done) | (refine Sl.ext (by assumption) ?_; (repeat (first | assumption | apply Ext.refl | apply Ext.app | (apply Ext.set <;> omega) | exact Ext.trans (by assumption) (by assumption) | (refine Ext.trans ?_ (by assumption)))); done) | (simp -dsimp (disch := first | with_reducible assumption | omega | (intro h_; cases h_; done) | (simp only [LN] <;> omega) | (simp only [LF]; done) | (repeat (first | with_reducible assumption | apply Ext.refl | apply Ext.app | (apply Ext.set <;> omega) | (refine Ext.trans ?_ (by assumption))))) only [AX, TY, gV, dstOf, p_makeFunc, p_mapUpdate, mapPut, entsOf, p_lookup, p_extract, p_nilCheck, oneV, p_load, p_store, p_binOp, p_unOp, p_indexAddr, p_index, p_box, p_build, evParts, builtinV, load1, ldc, splice, minds, disj, rcOf, isCall, touchV, idsOf, mapId, touchB, p_buildSlice, buildSliceV, reps, fillV, p_convert, p_slice, evO, p_makeSlice, sid_some, soff_some, Nat.reduceLT, Nat.reduceLeDiff, Nat.reduceEqDiff, Nat.reduceAdd, Nat.reduceMul, Int.reduceBEq, Int.reduceEq, Int.reduceNeg, Int.reduceLT, Int.reduceLE, Int.reduceAdd, Int.reduceSub, Int.reduceMul, Int.reduceToNat, Int.reduceGT, Nat.reduceBEq, Nat.reducePow, Nat.reduceGT, reduceCtorEq, ↓reduceIte, Int.natCast_add, Int.natCast_one, Int.natCast_zero]; try (first | assumption | with_reducible rfl)))
    all_goals first | exact hr | exact hb | exact Bt.nil | (simp; done) | exact App.of (Gr.nil _ _ _ _) | skip
  clear hr
  rintro m τ hh ⟨p, c, t, L, hm, hlen, t0, hr, hbt, hbl, hkt, ha0⟩
  have eh : Ext h hh := ha0.ext (.refl _) (by simp)
  have eh0 : Ext hR hh := e0.trans eh
  have hle0 := e0.le
  have hn := hr.sl.nil'
  match t, hm, hlen, t0, hr, hbt, hkt, hn with
  | [], hm, hlen, t0, hr, hbt, hkt, hn =>
    simp -dsimp (disch := first | with_reducible assumption | omega | (intro h_; cases h_; done) | (simp only [LN] <;> omega) | (simp only [LF]; done) | (repeat (first | with_reducible assumption | apply Ext.refl | apply Ext.app | (apply Ext.set <;> omega) | (refine Ext.trans ?_ (by assumption))))) only [AX, TY, gV, dstOf, p_makeFunc, p_mapUpdate, mapPut, entsOf, p_lookup, p_extract, p_nilCheck, oneV, p_load, p_store, p_binOp, p_unOp, p_indexAddr, p_index, p_box, p_build, evParts, builtinV, load1, ldc, splice, minds, disj, rcOf, isCall, touchV, idsOf, mapId, touchB, p_buildSlice, buildSliceV, reps, fillV, p_convert, p_slice, evO, p_makeSlice, sid_some, soff_some, Nat.reduceLT, Nat.reduceLeDiff, Nat.reduceEqDiff, Nat.reduceAdd, Nat.reduceMul, Int.reduceBEq, Int.reduceEq, Int.reduceNeg, Int.reduceLT, Int.reduceLE, Int.reduceAdd, Int.reduceSub, Int.reduceMul, Int.reduceToNat, Int.reduceGT, Nat.reduceBEq, Nat.reducePow, Nat.reduceGT, reduceCtorEq, ↓reduceIte, t0]
    rw [← hkt]
    exact ⟨eh, rfl⟩
  | x :: t, hm, hlen, t0, hr, hbt, hkt, hn =>
    have h1 : (0 : Int) < ((x :: t).length : Int) := by simp only [List.length_cons]; omega
    have hx := hbt.head
    obtain ⟨⟨a, o⟩, rfl⟩ : ∃ q, p = some q := by
      cases p with
      | none => exact absurd (hn rfl) (by simp)
      | some q => exact ⟨q, rfl⟩
    have hah := hr.sl.lt rfl
    have hld0 : ∀ {hh : Heap}, Ext h hh → loadN hh a o 1 = some [.int .u8 x] := fun e => by
      have := hr.sl.load0 (e0.trans e) (i := 0) (m := 1) (by simp) (Nat.le_refl 1)
      simpa [eb, sid_some, soff_some] using this
    have hn1 : (x :: t).length - 1 = t.length := rfl
    generalize hlt : (x :: t).length = n at *
    obtain ⟨p', c', oid', t5, gr, ho, hle, hk⟩ := ha0
    have hm := fun x => gr.muts x (fun y => !y == a) (fun id e => by have := gr.base id e; simp; omega)
    by_cases h2 : x = 0
    rotate_left
    · simp -dsimp (disch := first | with_reducible assumption | omega | (intro h_; cases h_; done) | (simp only [LN] <;> omega) | (simp only [LF]; done) | (repeat (first | with_reducible assumption | apply Ext.refl | apply Ext.app | (apply Ext.set <;> omega) | (refine Ext.trans ?_ (by assumption))))) only [AX, TY, gV, dstOf, p_makeFunc, p_mapUpdate, mapPut, entsOf, p_lookup, p_extract, p_nilCheck, oneV, p_load, p_store, p_binOp, p_unOp, p_indexAddr, p_index, p_box, p_build, evParts, builtinV, load1, ldc, splice, minds, disj, rcOf, isCall, touchV, idsOf, mapId, touchB, p_buildSlice, buildSliceV, reps, fillV, p_convert, p_slice, evO, p_makeSlice, sid_some, soff_some, Nat.reduceLT, Nat.reduceLeDiff, Nat.reduceEqDiff, Nat.reduceAdd, Nat.reduceMul, Int.reduceBEq, Int.reduceEq, Int.reduceNeg, Int.reduceLT, Int.reduceLE, Int.reduceAdd, Int.reduceSub, Int.reduceMul, Int.reduceToNat, Int.reduceGT, Nat.reduceBEq, Nat.reducePow, Nat.reduceGT, reduceCtorEq, ↓reduceIte, t0, t5, h1, hld0, h2]
      refine W.drawn [(0, []), (1, [0]), (2, [0]), (3, [0]), (4, [0]), (5, []), (6, [5, 4, 3, 2, 1, 0]), (7, [5, 4, 3, 2, 1, 0]), (8, [7, 6]), (9, [])] (by decide +kernel) ?_
      simp -dsimp (disch := first | with_reducible assumption | omega | (intro h_; cases h_; done) | (simp only [LN] <;> omega) | (simp only [LF]; done) | (repeat (first | with_reducible assumption | apply Ext.refl | apply Ext.app | (apply Ext.set <;> omega) | (refine Ext.trans ?_ (by assumption))))) only [AX, TY, gV, dstOf, p_makeFunc, p_mapUpdate, mapPut, entsOf, p_lookup, p_extract, p_nilCheck, oneV, p_load, p_store, p_binOp, p_unOp, p_indexAddr, p_index, p_box, p_build, evParts, builtinV, load1, ldc, splice, minds, disj, rcOf, isCall, touchV, idsOf, mapId, touchB, p_buildSlice, buildSliceV, reps, fillV, p_convert, p_slice, evO, p_makeSlice, sid_some, soff_some, Nat.reduceLT, Nat.reduceLeDiff, Nat.reduceEqDiff, Nat.reduceAdd, Nat.reduceMul, Int.reduceBEq, Int.reduceEq, Int.reduceNeg, Int.reduceLT, Int.reduceLE, Int.reduceAdd, Int.reduceSub, Int.reduceMul, Int.reduceToNat, Int.reduceGT, Nat.reduceBEq, Nat.reducePow, Nat.reduceGT, reduceCtorEq, ↓reduceIte, t0, t5, h1, hld0, h2]
      refine (gr.wrB (by omega) (hh := hh ++ [O.cells [V.int IntKind.u8 x] Kd.rw]) (bytes := 1) (by (repeat (first | assumption | apply Ext.refl | apply Ext.app | (apply Ext.set <;> omega) | exact Ext.trans (by assumption) (by assumption) | (refine Ext.trans ?_ (by assumption))))) [x] (snoc_last _ rfl) rfl (eb_w _) (eb_l _) (by simp only [List.length_cons, List.length_nil]; omega) (by simp only [List.length_cons, List.length_nil]; omega)).mono ?_
      rintro r2 h2' ha2
      have ha2' := App.trans ho hle hk ha2
      obtain ⟨p2, c2, o2, rfl, gr2, ho2, hl2, hk2⟩ := ha2
      obtain ⟨p3, c3, hcut, rs3⟩ := hr.lo (a := 1) (by omega)
      rw [hlt, hn1] at hcut
      simp only [Int.natCast_one] at hcut
      have e2 : Ext h h2' := ha2'.ext (.refl _) (by simp)
      have e20 : Ext hR h2' := e0.trans e2
      rw [keyText_ne h2, Option.map_map] at hkt
      simp -dsimp (disch := first | with_reducible assumption | omega | (intro h_; cases h_; done) | (simp only [LN] <;> omega) | (simp only [LF]; done) | (repeat (first | with_reducible assumption | apply Ext.refl | apply Ext.app | (apply Ext.set <;> omega) | (refine Ext.trans ?_ (by assumption))))) only [AX, TY, gV, dstOf, p_makeFunc, p_mapUpdate, mapPut, entsOf, p_lookup, p_extract, p_nilCheck, oneV, p_load, p_store, p_binOp, p_unOp, p_indexAddr, p_index, p_box, p_build, evParts, builtinV, load1, ldc, splice, minds, disj, rcOf, isCall, touchV, idsOf, mapId, touchB, p_buildSlice, buildSliceV, reps, fillV, p_convert, p_slice, evO, p_makeSlice, sid_some, soff_some, Nat.reduceLT, Nat.reduceLeDiff, Nat.reduceEqDiff, Nat.reduceAdd, Nat.reduceMul, Int.reduceBEq, Int.reduceEq, Int.reduceNeg, Int.reduceLT, Int.reduceLE, Int.reduceAdd, Int.reduceSub, Int.reduceMul, Int.reduceToNat, Int.reduceGT, Nat.reduceBEq, Nat.reducePow, Nat.reduceGT, reduceCtorEq, ↓reduceIte, t0, t5, h1, hld0, h2, hcut, hm]
      refine ⟨m - 1, by omega, p3, c3, t, L ++ [x], ?_⟩
      constructor <;> (try first | assumption | ((repeat (first | assumption | apply Ext.refl | apply Ext.app | (apply Ext.set <;> omega) | exact Ext.trans (by assumption) (by assumption) | (refine Ext.trans ?_ (by assumption)))); done) | (refine Sl.ext (by assumption) ?_; (repeat (first | assumption | apply Ext.refl | apply Ext.app | (apply Ext.set <;> omega) | exact Ext.trans (by assumption) (by assumption) | (refine Ext.trans ?_ (by assumption)))); done) | (simp -dsimp (disch := first | with_reducible assumption | omega | (intro h_; cases h_; done) | (simp only [LN] <;> omega) | (simp only [LF]; done) | (repeat (first | with_reducible assumption | apply Ext.refl | apply Ext.app | (apply Ext.set <;> omega) | (refine Ext.trans ?_ (by assumption))))) only [AX, TY, gV, dstOf, p_makeFunc, p_mapUpdate, mapPut, entsOf, p_lookup, p_extract, p_nilCheck, oneV, p_load, p_store, p_binOp, p_unOp, p_indexAddr, p_index, p_box, p_build, evParts, builtinV, load1, ldc, splice, minds, disj, rcOf, isCall, touchV, idsOf, mapId, touchB, p_buildSlice, buildSliceV, reps, fillV, p_convert, p_slice, evO, p_makeSlice, sid_some, soff_some, Nat.reduceLT, Nat.reduceLeDiff, Nat.reduceEqDiff, Nat.reduceAdd, Nat.reduceMul, Int.reduceBEq, Int.reduceEq, Int.reduceNeg, Int.reduceLT, Int.reduceLE, Int.reduceAdd, Int.reduceSub, Int.reduceMul, Int.reduceToNat, Int.reduceGT, Nat.reduceBEq, Nat.reducePow, Nat.reduceGT, reduceCtorEq, ↓reduceIte, t0, t5, Int.natCast_add, Int.natCast_one, Int.natCast_zero]; try (first | assumption | with_reducible rfl)))
      all_goals first | omega | exact hbt.tail | exact hbl.app (Bt.cons hx Bt.nil) | (simp only [List.length_append, List.length_cons, List.length_nil]; omega) | skip
      all_goals first | (rw [← hkt]; congr 1; funext q; simp; done) | skip
      all_goals first | (rw [List.length_append] at ha2'; exact ha2') | skip
    subst h2
    match t, hlt, hn1, hr, hbt, hkt with
    | [], hlt, hn1, hr, hbt, hkt =>
      have hn : n = 1 := by simpa using hlt.symm
      subst hn
      simp -dsimp (disch := first | with_reducible assumption | omega | (intro h_; cases h_; done) | (simp only [LN] <;> omega) | (simp only [LF]; done) | (repeat (first | with_reducible assumption | apply Ext.refl | apply Ext.app | (apply Ext.set <;> omega) | (refine Ext.trans ?_ (by assumption))))) only [AX, TY, gV, dstOf, p_makeFunc, p_mapUpdate, mapPut, entsOf, p_lookup, p_extract, p_nilCheck, oneV, p_load, p_store, p_binOp, p_unOp, p_indexAddr, p_index, p_box, p_build, evParts, builtinV, load1, ldc, splice, minds, disj, rcOf, isCall, touchV, idsOf, mapId, touchB, p_buildSlice, buildSliceV, reps, fillV, p_convert, p_slice, evO, p_makeSlice, sid_some, soff_some, Nat.reduceLT, Nat.reduceLeDiff, Nat.reduceEqDiff, Nat.reduceAdd, Nat.reduceMul, Int.reduceBEq, Int.reduceEq, Int.reduceNeg, Int.reduceLT, Int.reduceLE, Int.reduceAdd, Int.reduceSub, Int.reduceMul, Int.reduceToNat, Int.reduceGT, Nat.reduceBEq, Nat.reducePow, Nat.reduceGT, reduceCtorEq, ↓reduceIte, t0, t5, hld0]
      rw [← hkt]
      exact ⟨eh, rfl⟩
    | y :: l, hlt, hn1, hr, hbt, hkt =>
      have hnl : n = l.length + 2 := by simpa using hlt.symm
      have hy := hbt.tail.head
      have h3 : ¬ (n : Int) < 2 := by omega
      have hld1 : ∀ {hh : Heap}, Ext h hh → loadN hh a (o + 1) 1 = some [.int .u8 y] := fun e => by
        have := hr.sl.load0 (e0.trans e) (i := 1) (m := 1) (by simp) (Nat.le_refl 1)
        simpa [eb, sid_some, soff_some] using this
      have h4 : (1 : Int) < (n : Int) := by omega
      obtain ⟨p3, c3, hcut, rs3⟩ := hr.lo (a := 2) (by omega)
      rw [hlt, show n - 2 = l.length by omega] at hcut
      simp only [Int.cast_ofNat_Int] at hcut
      by_cases hy1 : y = 1
      · subst hy1
        have hcv := conv_bs (P := Tryd.prog) Tryd.underlying28 Tryd.underlying5 Tryd.underlying9 (c := c') gr.sl (.refl _) hbl
        simp -dsimp (disch := first | with_reducible assumption | omega | (intro h_; cases h_; done) | (simp only [LN] <;> omega) | (simp only [LF]; done) | (repeat (first | with_reducible assumption | apply Ext.refl | apply Ext.app | (apply Ext.set <;> omega) | (refine Ext.trans ?_ (by assumption))))) only [AX, TY, gV, dstOf, p_makeFunc, p_mapUpdate, mapPut, entsOf, p_lookup, p_extract, p_nilCheck, oneV, p_load, p_store, p_binOp, p_unOp, p_indexAddr, p_index, p_box, p_build, evParts, builtinV, load1, ldc, splice, minds, disj, rcOf, isCall, touchV, idsOf, mapId, touchB, p_buildSlice, buildSliceV, reps, fillV, p_convert, p_slice, evO, p_makeSlice, sid_some, soff_some, Nat.reduceLT, Nat.reduceLeDiff, Nat.reduceEqDiff, Nat.reduceAdd, Nat.reduceMul, Int.reduceBEq, Int.reduceEq, Int.reduceNeg, Int.reduceLT, Int.reduceLE, Int.reduceAdd, Int.reduceSub, Int.reduceMul, Int.reduceToNat, Int.reduceGT, Nat.reduceBEq, Nat.reducePow, Nat.reduceGT, reduceCtorEq, ↓reduceIte, t0, t5, h1, hld0, hld1, h3, h4]
        refine W.drawn [(0, []), (1, []), (2, [1, 0]), (3, [1, 0]), (4, [3, 2]), (5, []), (6, [])] (by decide +kernel) ?_
        simp -dsimp (disch := first | with_reducible assumption | omega | (intro h_; cases h_; done) | (simp only [LN] <;> omega) | (simp only [LF]; done) | (repeat (first | with_reducible assumption | apply Ext.refl | apply Ext.app | (apply Ext.set <;> omega) | (refine Ext.trans ?_ (by assumption))))) only [AX, TY, gV, dstOf, p_makeFunc, p_mapUpdate, mapPut, entsOf, p_lookup, p_extract, p_nilCheck, oneV, p_load, p_store, p_binOp, p_unOp, p_indexAddr, p_index, p_box, p_build, evParts, builtinV, load1, ldc, splice, minds, disj, rcOf, isCall, touchV, idsOf, mapId, touchB, p_buildSlice, buildSliceV, reps, fillV, p_convert, p_slice, evO, p_makeSlice, sid_some, soff_some, Nat.reduceLT, Nat.reduceLeDiff, Nat.reduceEqDiff, Nat.reduceAdd, Nat.reduceMul, Int.reduceBEq, Int.reduceEq, Int.reduceNeg, Int.reduceLT, Int.reduceLE, Int.reduceAdd, Int.reduceSub, Int.reduceMul, Int.reduceToNat, Int.reduceGT, Nat.reduceBEq, Nat.reducePow, Nat.reduceGT, reduceCtorEq, ↓reduceIte, t0, t5, h1, hld0, hld1, h3, h4, hcut, hcv]
        have hk2 : keyText (0 :: 1 :: l) = some ([], l) := by rw [keyText, if_neg (by simp), if_pos rfl]
        rw [hk2] at hkt
        rw [← hkt]
        simp only [Option.map_some, List.append_nil]
        exact ⟨eh, p3, c3, rfl, rs3⟩
      · by_cases hy2 : y = 255
        · subst hy2
          simp -dsimp (disch := first | with_reducible assumption | omega | (intro h_; cases h_; done) | (simp only [LN] <;> omega) | (simp only [LF]; done) | (repeat (first | with_reducible assumption | apply Ext.refl | apply Ext.app | (apply Ext.set <;> omega) | (refine Ext.trans ?_ (by assumption))))) only [AX, TY, gV, dstOf, p_makeFunc, p_mapUpdate, mapPut, entsOf, p_lookup, p_extract, p_nilCheck, oneV, p_load, p_store, p_binOp, p_unOp, p_indexAddr, p_index, p_box, p_build, evParts, builtinV, load1, ldc, splice, minds, disj, rcOf, isCall, touchV, idsOf, mapId, touchB, p_buildSlice, buildSliceV, reps, fillV, p_convert, p_slice, evO, p_makeSlice, sid_some, soff_some, Nat.reduceLT, Nat.reduceLeDiff, Nat.reduceEqDiff, Nat.reduceAdd, Nat.reduceMul, Int.reduceBEq, Int.reduceEq, Int.reduceNeg, Int.reduceLT, Int.reduceLE, Int.reduceAdd, Int.reduceSub, Int.reduceMul, Int.reduceToNat, Int.reduceGT, Nat.reduceBEq, Nat.reducePow, Nat.reduceGT, reduceCtorEq, ↓reduceIte, t0, t5, h1, hld0, hld1, h3, h4]
          refine W.drawn [(0, []), (1, [0]), (2, []), (3, [2, 1, 0]), (4, [2, 1, 0]), (5, [4, 3]), (6, [])] (by decide +kernel) ?_
          simp -dsimp (disch := first | with_reducible assumption | omega | (intro h_; cases h_; done) | (simp only [LN] <;> omega) | (simp only [LF]; done) | (repeat (first | with_reducible assumption | apply Ext.refl | apply Ext.app | (apply Ext.set <;> omega) | (refine Ext.trans ?_ (by assumption))))) only [AX, TY, gV, dstOf, p_makeFunc, p_mapUpdate, mapPut, entsOf, p_lookup, p_extract, p_nilCheck, oneV, p_load, p_store, p_binOp, p_unOp, p_indexAddr, p_index, p_box, p_build, evParts, builtinV, load1, ldc, splice, minds, disj, rcOf, isCall, touchV, idsOf, mapId, touchB, p_buildSlice, buildSliceV, reps, fillV, p_convert, p_slice, evO, p_makeSlice, sid_some, soff_some, Nat.reduceLT, Nat.reduceLeDiff, Nat.reduceEqDiff, Nat.reduceAdd, Nat.reduceMul, Int.reduceBEq, Int.reduceEq, Int.reduceNeg, Int.reduceLT, Int.reduceLE, Int.reduceAdd, Int.reduceSub, Int.reduceMul, Int.reduceToNat, Int.reduceGT, Nat.reduceBEq, Nat.reducePow, Nat.reduceGT, reduceCtorEq, ↓reduceIte, t0, t5, h1, hld0, hld1, h3, h4]
          refine (gr.wrB (by omega) (hh := hh ++ [O.cells [V.int IntKind.u8 0] Kd.rw]) (bytes := 1) (by (repeat (first | assumption | apply Ext.refl | apply Ext.app | (apply Ext.set <;> omega) | exact Ext.trans (by assumption) (by assumption) | (refine Ext.trans ?_ (by assumption))))) [0] (snoc_last _ rfl) rfl (eb_w _) (eb_l _) (by simp only [List.length_cons, List.length_nil]; omega) (by simp only [List.length_cons, List.length_nil]; omega)).mono ?_
          rintro r2 h2' ha2
          have ha2' := App.trans ho hle hk ha2
          obtain ⟨p2, c2, o2, rfl, gr2, ho2, hl2, hk2⟩ := ha2
          have e2 : Ext h h2' := ha2'.ext (.refl _) (by simp)
          have e20 : Ext hR h2' := e0.trans e2
          have hk2 : keyText (0 :: 255 :: l) = (keyText l).map fun q => (0 :: q.1, q.2) := by rw [keyText, if_neg (by simp), if_neg (by decide), if_pos rfl]
          rw [hk2, Option.map_map] at hkt
          simp -dsimp (disch := first | with_reducible assumption | omega | (intro h_; cases h_; done) | (simp only [LN] <;> omega) | (simp only [LF]; done) | (repeat (first | with_reducible assumption | apply Ext.refl | apply Ext.app | (apply Ext.set <;> omega) | (refine Ext.trans ?_ (by assumption))))) only [AX, TY, gV, dstOf, p_makeFunc, p_mapUpdate, mapPut, entsOf, p_lookup, p_extract, p_nilCheck, oneV, p_load, p_store, p_binOp, p_unOp, p_indexAddr, p_index, p_box, p_build, evParts, builtinV, load1, ldc, splice, minds, disj, rcOf, isCall, touchV, idsOf, mapId, touchB, p_buildSlice, buildSliceV, reps, fillV, p_convert, p_slice, evO, p_makeSlice, sid_some, soff_some, Nat.reduceLT, Nat.reduceLeDiff, Nat.reduceEqDiff, Nat.reduceAdd, Nat.reduceMul, Int.reduceBEq, Int.reduceEq, Int.reduceNeg, Int.reduceLT, Int.reduceLE, Int.reduceAdd, Int.reduceSub, Int.reduceMul, Int.reduceToNat, Int.reduceGT, Nat.reduceBEq, Nat.reducePow, Nat.reduceGT, reduceCtorEq, ↓reduceIte, t0, t5, h1, hld0, hld1, h3, h4, hcut, hm]
          refine ⟨m - 2, by omega, p3, c3, l, L ++ [0], ?_⟩
          constructor <;> (try first | assumption | ((repeat (first | assumption | apply Ext.refl | apply Ext.app | (apply Ext.set <;> omega) | exact Ext.trans (by assumption) (by assumption) | (refine Ext.trans ?_ (by assumption)))); done) | (refine Sl.ext (by assumption) ?_; (repeat (first | assumption | apply Ext.refl | apply Ext.app | (apply Ext.set <;> omega) | exact Ext.trans (by assumption) (by assumption) | (refine Ext.trans ?_ (by assumption)))); done) | (simp -dsimp (disch := first | with_reducible assumption | omega | (intro h_; cases h_; done) | (simp only [LN] <;> omega) | (simp only [LF]; done) | (repeat (first | with_reducible assumption | apply Ext.refl | apply Ext.app | (apply Ext.set <;> omega) | (refine Ext.trans ?_ (by assumption))))) only [AX, TY, gV, dstOf, p_makeFunc, p_mapUpdate, mapPut, entsOf, p_lookup, p_extract, p_nilCheck, oneV, p_load, p_store, p_binOp, p_unOp, p_indexAddr, p_index, p_box, p_build, evParts, builtinV, load1, ldc, splice, minds, disj, rcOf, isCall, touchV, idsOf, mapId, touchB, p_buildSlice, buildSliceV, reps, fillV, p_convert, p_slice, evO, p_makeSlice, sid_some, soff_some, Nat.reduceLT, Nat.reduceLeDiff, Nat.reduceEqDiff, Nat.reduceAdd, Nat.reduceMul, Int.reduceBEq, Int.reduceEq, Int.reduceNeg, Int.reduceLT, Int.reduceLE, Int.reduceAdd, Int.reduceSub, Int.reduceMul, Int.reduceToNat, Int.reduceGT, Nat.reduceBEq, Nat.reducePow, Nat.reduceGT, reduceCtorEq, ↓reduceIte, t0, t5, Int.natCast_add, Int.natCast_one, Int.natCast_zero]; try (first | assumption | with_reducible rfl)))
          all_goals first | omega | exact hbt.tail.tail | exact hbl.app (Bt.cons (by decide) Bt.nil) | (simp only [List.length_append, List.length_cons, List.length_nil]; omega) | skip
          all_goals first | (rw [← hkt]; congr 1; funext q; simp; done) | skip
          all_goals first | (rw [List.length_append] at ha2'; exact ha2') | skip
        · simp -dsimp (disch := first | with_reducible assumption | omega | (intro h_; cases h_; done) | (simp only [LN] <;> omega) | (simp only [LF]; done) | (repeat (first | with_reducible assumption | apply Ext.refl | apply Ext.app | (apply Ext.set <;> omega) | (refine Ext.trans ?_ (by assumption))))) only [AX, TY, gV, dstOf, p_makeFunc, p_mapUpdate, mapPut, entsOf, p_lookup, p_extract, p_nilCheck, oneV, p_load, p_store, p_binOp, p_unOp, p_indexAddr, p_index, p_box, p_build, evParts, builtinV, load1, ldc, splice, minds, disj, rcOf, isCall, touchV, idsOf, mapId, touchB, p_buildSlice, buildSliceV, reps, fillV, p_convert, p_slice, evO, p_makeSlice, sid_some, soff_some, Nat.reduceLT, Nat.reduceLeDiff, Nat.reduceEqDiff, Nat.reduceAdd, Nat.reduceMul, Int.reduceBEq, Int.reduceEq, Int.reduceNeg, Int.reduceLT, Int.reduceLE, Int.reduceAdd, Int.reduceSub, Int.reduceMul, Int.reduceToNat, Int.reduceGT, Nat.reduceBEq, Nat.reducePow, Nat.reduceGT, reduceCtorEq, ↓reduceIte, t0, t5, h1, hld0, hld1, h3, h4, hy1, hy2]
          have hk2 : keyText (0 :: y :: l) = none := by rw [keyText, if_neg (by simp), if_neg hy1, if_neg hy2]
          rw [hk2] at hkt
          rw [← hkt]
          exact ⟨eh, rfl⟩
end Go.Proofs.YtngcicclaehpbaaDoorA
namespace Go.Proofs.YtngcicclaehpbaaDoorA
open Go Go.Proofs Go.RowKit
set_option linter.unusedVariables false
set_option linter.unusedSimpArgs false
set_option maxRecDepth 10000
set_option maxHeartbeats 2000000
theorem un8_snoc (l : List Int) (x : Int) : un8 (l ++ [x]) = un8 l * 256 + x := by simp [un8, List.foldl_append]
theorem un8_take {l : List Int} {j : Nat} (hj : j < l.length) : un8 (l.take (j + 1)) = un8 (l.take j) * 256 + l[j] := by
  rw [List.take_succ_eq_append_getElem hj, un8_snoc]
theorem un8_lt {l : List Int} (hb : Bt l) : ∀ j : Nat, j ≤ l.length → 0 ≤ un8 (l.take j) ∧ un8 (l.take j) < 256 ^ j
  | 0, _ => by simp [un8]
  | j + 1, h => by
    have ih := un8_lt hb j (by omega)
    have hx := hb _ (List.getElem_mem (show j < l.length by omega))
    rw [un8_take (by omega), Int.pow_succ]
    omega
theorem shl8_or {n : Int} {x : Int} (h0 : 0 ≤ n) (h1 : n < 72057594037927936) (hx : 0 ≤ x ∧ x < 256) : IntKind.u64.wrap ((BitVec.ofInt IntKind.u64.bits (n * 256) ||| BitVec.ofInt IntKind.u64.bits x).toNat : Int) = n * 256 + x := by
  obtain ⟨a, rfl⟩ : ∃ a : Nat, n = (a : Int) := ⟨n.toNat, by omega⟩
  obtain ⟨b, rfl⟩ : ∃ b : Nat, x = (b : Int) := ⟨x.toNat, by omega⟩
  have h2 := or_u64 (a := a * 256) (b := b) (by omega) (by omega)
  have h3 : a * 256 ||| b = a * 256 + b := by
    have := Nat.two_pow_add_eq_or_of_lt (i := 8) (b := b) (by omega) a
    rw [Nat.mul_comm a 256]; rw [show 2 ^ 8 = 256 from rfl] at this; omega
  rw [h3] at h2
  rw [show (a : Int) * 256 = ((a * 256 : Nat) : Int) by omega, h2]; omega
theorem shl8 {n : Int} (h0 : 0 ≤ n) (h1 : n < 72057594037927936) (ty : TypeId) (x y : Operand) {k' : IntKind} : binV Tryd.prog .shl ty x y (.int .u64 n) (.int k' 8) = some (.int .u64 (n * 256)) := by
  rw [shl_of (by decide), w_u64]
  have : min (8 : Int).toNat IntKind.u64.bits = 8 := rfl
  rw [this]
  congr 2
  omega
theorem un8_small {l : List Int} (hb : Bt l) {j : Nat} (hj : j < 8) (hl : j ≤ l.length) : 0 ≤ un8 (l.take j) ∧ un8 (l.take j) < 72057594037927936 := by
  have := un8_lt hb j hl
  have h2 : (256 : Int) ^ j ≤ 256 ^ 7 := by
    match j, hj with
    | 0, _ => decide
    | 1, _ => decide
    | 2, _ => decide
    | 3, _ => decide
    | 4, _ => decide
    | 5, _ => decide
    | 6, _ => decide
    | 7, _ => decide
  have h3 : (256 : Int) ^ 7 = 72057594037927936 := by decide
  omega
def kvR (hR : Heap) (o : Option (Vl × List Int)) (r : V) : Prop := match o with
  | some (v, t) => ∃ p2 c2, r = V.tuple [.agg v.enc, .slice p2 t.length c2, .bool true] ∧ Rs hR p2 c2 1 eb t
  | none => ∃ (v : Vl) (p2 : Option (Nat × Nat)) (n2 : Nat) (c2 : Option Nat), r = V.tuple [.agg v.enc, .slice p2 n2 c2, .bool false]
structure LNB (H1 : Heap) (a : Nat) (p6 p7 : Option (Nat × Nat)) (c6 c7 : Option Nat) (t : List Int) (m : Nat) (τ : Tp) (hh : Heap) (j : Nat) : Prop where
  hm : m + j = 8
  heq : H1 = hh
  t2 : τ 2 = .ptr (some (a, 0))
  t6 : τ 6 = .slice p6 t.length c6
  t7 : τ 7 = .int .u64 (un8 (t.take j))
  t27 : τ 27 = .slice p7 8 c7
  t28 : τ 28 = .int .i64 8
  t29 : τ 29 = .int .i64 j
theorem keyValue_ok {hR h : Heap} {p : Option (Nat × Nat)} {c : Option Nat} {x : Int} {t : List Int} (hr : Rs hR p c 1 eb (x :: t)) (e0 : Ext hR h) (hb : Bt (x :: t)) (hl : t.length ≤ 1000000) : WR (callE Tryd.prog hk 45 [.slice p (x :: t).length c] h) fun r h' => Ext h h' ∧ kvR hR (dec1 (x :: t)) r := by
  obtain ⟨⟨a, o⟩, rfl⟩ : ∃ q, p = some q := by
    cases p with
    | none => exact absurd (hr.sl.nil' rfl) (by simp)
    | some q => exact ⟨q, rfl⟩
  have hle0 := e0.le
  have hah0 := hr.sl.lt rfl
  have hah : a < h.length := by omega
  have hx := hb.head
  have ht := hb.tail
  have hld0 : ∀ {hh : Heap}, Ext h hh → loadN hh a o 1 = some [.int .u8 x] := fun e => by
    have := hr.sl.load0 (e0.trans e) (i := 0) (m := 1) (by simp) (Nat.le_refl 1)
    simpa [eb, sid_some, soff_some] using this
  obtain ⟨p6, c6, hcut, rs6⟩ := hr.lo (a := 1) (by simp)
  have hn1 : (x :: t).length - 1 = t.length := rfl
  rw [hn1] at hcut
  simp only [Int.natCast_one] at hcut
  simp only [List.drop_succ_cons, List.drop_zero] at rs6
  have h0 : (0 : Int) < ((x :: t).length : Int) := by simp only [List.length_cons]; omega
  refine WR.call (hH := rfl) Tryd.func45 rfl (n := 74) rfl rfl (by simp) ?_
  generalize hlt : (x :: t).length = n at *
  simp -dsimp (disch := first | with_reducible assumption | omega | (intro h_; cases h_; done) | (simp only [LN] <;> omega) | (simp only [LF]; done) | (repeat (first | with_reducible assumption | apply Ext.refl | apply Ext.app | (apply Ext.set <;> omega) | (refine Ext.trans ?_ (by assumption))))) only [AX, TY, gV, dstOf, p_makeFunc, p_mapUpdate, mapPut, entsOf, p_lookup, p_extract, p_nilCheck, oneV, p_load, p_store, p_binOp, p_unOp, p_indexAddr, p_index, p_box, p_build, evParts, builtinV, load1, ldc, splice, minds, disj, rcOf, isCall, touchV, idsOf, mapId, touchB, p_buildSlice, buildSliceV, reps, fillV, p_convert, p_slice, evO, p_makeSlice, sid_some, soff_some, Nat.reduceLT, Nat.reduceLeDiff, Nat.reduceEqDiff, Nat.reduceAdd, Nat.reduceMul, Int.reduceBEq, Int.reduceEq, Int.reduceNeg, Int.reduceLT, Int.reduceLE, Int.reduceAdd, Int.reduceSub, Int.reduceMul, Int.reduceToNat, Int.reduceGT, Nat.reduceBEq, Nat.reducePow, Nat.reduceGT, reduceCtorEq, ↓reduceIte]
  refine W.drawn [(0, []), (1, []), (2, []), (3, [2, 1, 0]), (4, [2, 1, 0]), (5, [4, 3]), (6, [])] (by decide +kernel) ?_
  simp -dsimp (disch := first | with_reducible assumption | omega | (intro h_; cases h_; done) | (simp only [LN] <;> omega) | (simp only [LF]; done) | (repeat (first | with_reducible assumption | apply Ext.refl | apply Ext.app | (apply Ext.set <;> omega) | (refine Ext.trans ?_ (by assumption))))) only [AX, TY, gV, dstOf, p_makeFunc, p_mapUpdate, mapPut, entsOf, p_lookup, p_extract, p_nilCheck, oneV, p_load, p_store, p_binOp, p_unOp, p_indexAddr, p_index, p_box, p_build, evParts, builtinV, load1, ldc, splice, minds, disj, rcOf, isCall, touchV, idsOf, mapId, touchB, p_buildSlice, buildSliceV, reps, fillV, p_convert, p_slice, evO, p_makeSlice, sid_some, soff_some, Nat.reduceLT, Nat.reduceLeDiff, Nat.reduceEqDiff, Nat.reduceAdd, Nat.reduceMul, Int.reduceBEq, Int.reduceEq, Int.reduceNeg, Int.reduceLT, Int.reduceLE, Int.reduceAdd, Int.reduceSub, Int.reduceMul, Int.reduceToNat, Int.reduceGT, Nat.reduceBEq, Nat.reducePow, Nat.reduceGT, reduceCtorEq, ↓reduceIte, hld0, hcut, h0]
  have e1 : Ext h (h ++ [O.cells [V.int .i64 0, V.int .i64 0, V.str []] Kd.rw]) := (by (repeat (first | assumption | apply Ext.refl | apply Ext.app | (apply Ext.set <;> omega) | exact Ext.trans (by assumption) (by assumption) | (refine Ext.trans ?_ (by assumption)))))
  by_cases g1 : x = 1
  · subst g1
    by_cases g2 : (8 : Int) ≤ (t.length : Int)
    · obtain ⟨⟨a6, o6⟩, rfl⟩ : ∃ q, p6 = some q := by
        cases p6 with
        | none => have := rs6.sl.nil' rfl; omega
        | some q => exact ⟨q, rfl⟩
      have ha60 := rs6.sl.lt rfl
      have ha6 : a6 < h.length := by omega
      have hd : dec1 (1 :: t) = some (⟨0, un8 (t.take 8) - 9223372036854775808, []⟩, t.drop 8) := by
        show (if 8 ≤ t.length then _ else _) = _
        rw [if_pos (by omega)]
      obtain ⟨hcut7, rs7⟩ := rs6.hi (b := 8) (by omega)
      obtain ⟨p9, c9, hcut9, rs9⟩ := rs6.lo (a := 8) (by omega)
      simp only [Int.cast_ofNat_Int] at hcut7 hcut9
      have hn7 := rs7.sl.nil'
      have htl : (t.take 8).length = 8 := by rw [List.length_take]; omega
      rw [htl] at hn7
      rw [hd]
      simp -dsimp (disch := first | with_reducible assumption | omega | (intro h_; cases h_; done) | (simp only [LN] <;> omega) | (simp only [LF]; done) | (repeat (first | with_reducible assumption | apply Ext.refl | apply Ext.app | (apply Ext.set <;> omega) | (refine Ext.trans ?_ (by assumption))))) only [AX, TY, gV, dstOf, p_makeFunc, p_mapUpdate, mapPut, entsOf, p_lookup, p_extract, p_nilCheck, oneV, p_load, p_store, p_binOp, p_unOp, p_indexAddr, p_index, p_box, p_build, evParts, builtinV, load1, ldc, splice, minds, disj, rcOf, isCall, touchV, idsOf, mapId, touchB, p_buildSlice, buildSliceV, reps, fillV, p_convert, p_slice, evO, p_makeSlice, sid_some, soff_some, Nat.reduceLT, Nat.reduceLeDiff, Nat.reduceEqDiff, Nat.reduceAdd, Nat.reduceMul, Int.reduceBEq, Int.reduceEq, Int.reduceNeg, Int.reduceLT, Int.reduceLE, Int.reduceAdd, Int.reduceSub, Int.reduceMul, Int.reduceToNat, Int.reduceGT, Nat.reduceBEq, Nat.reducePow, Nat.reduceGT, reduceCtorEq, ↓reduceIte, g2, hcut7]
      refine W.loop (fun m τ hh => ∃ j, LNB (h ++ [O.cells [V.int .i64 0, V.int .i64 0, V.str []] Kd.rw]) h.length (some (a6, o6)) (some (a6, o6)) c6 c6 t m τ hh j) ?_ (m := 8) ?_
      rotate_left
      · refine ⟨0, ?_⟩
        constructor <;> (try first | assumption | ((repeat (first | assumption | apply Ext.refl | apply Ext.app | (apply Ext.set <;> omega) | exact Ext.trans (by assumption) (by assumption) | (refine Ext.trans ?_ (by assumption)))); done) | (refine Sl.ext (by assumption) ?_; (repeat (first | assumption | apply Ext.refl | apply Ext.app | (apply Ext.set <;> omega) | exact Ext.trans (by assumption) (by assumption) | (refine Ext.trans ?_ (by assumption)))); done) | (simp -dsimp (disch := first | with_reducible assumption | omega | (intro h_; cases h_; done) | (simp only [LN] <;> omega) | (simp only [LF]; done) | (repeat (first | with_reducible assumption | apply Ext.refl | apply Ext.app | (apply Ext.set <;> omega) | (refine Ext.trans ?_ (by assumption))))) only [AX, TY, gV, dstOf, p_makeFunc, p_mapUpdate, mapPut, entsOf, p_lookup, p_extract, p_nilCheck, oneV, p_load, p_store, p_binOp, p_unOp, p_indexAddr, p_index, p_box, p_build, evParts, builtinV, load1, ldc, splice, minds, disj, rcOf, isCall, touchV, idsOf, mapId, touchB, p_buildSlice, buildSliceV, reps, fillV, p_convert, p_slice, evO, p_makeSlice, sid_some, soff_some, Nat.reduceLT, Nat.reduceLeDiff, Nat.reduceEqDiff, Nat.reduceAdd, Nat.reduceMul, Int.reduceBEq, Int.reduceEq, Int.reduceNeg, Int.reduceLT, Int.reduceLE, Int.reduceAdd, Int.reduceSub, Int.reduceMul, Int.reduceToNat, Int.reduceGT, Nat.reduceBEq, Nat.reducePow, Nat.reduceGT, reduceCtorEq, ↓reduceIte, Int.natCast_add, Int.natCast_one, Int.natCast_zero]; try (first | assumption | with_reducible rfl)))
        all_goals first | rfl | skip
      rintro m τ hh ⟨j, hm, rfl, t2, t6, t7, t27, t28, t29⟩
      by_cases h1 : (j : Int) < 8
      · have hj : j < 8 := by omega
        have hjt : j < t.length := by omega
        have hsn := un8_take hjt
        have hxj := ht _ (List.getElem_mem hjt)
        obtain ⟨s0, s1⟩ := un8_small ht hj (by omega)
        have hld := fun hh e => rs7.sl.load0 (hh := hh) e (i := j) (m := 1) (by omega) (Nat.le_refl 1)
        simp only [List.getElem_take] at hld
        generalize un8 (t.take j) = n8 at t7 hsn s0 s1
        generalize t[j] = y at hld hsn hxj
        simp only [eb, sid_some, soff_some, List.take_succ_cons, List.take_zero] at hld
        have hwy : IntKind.u64.wrap y = y := by rw [w_u64]; omega
        simp -dsimp (disch := first | with_reducible assumption | omega | (intro h_; cases h_; done) | (simp only [LN] <;> omega) | (simp only [LF]; done) | (repeat (first | with_reducible assumption | apply Ext.refl | apply Ext.app | (apply Ext.set <;> omega) | (refine Ext.trans ?_ (by assumption))))) only [AX, TY, gV, dstOf, p_makeFunc, p_mapUpdate, mapPut, entsOf, p_lookup, p_extract, p_nilCheck, oneV, p_load, p_store, p_binOp, p_unOp, p_indexAddr, p_index, p_box, p_build, evParts, builtinV, load1, ldc, splice, minds, disj, rcOf, isCall, touchV, idsOf, mapId, touchB, p_buildSlice, buildSliceV, reps, fillV, p_convert, p_slice, evO, p_makeSlice, sid_some, soff_some, Nat.reduceLT, Nat.reduceLeDiff, Nat.reduceEqDiff, Nat.reduceAdd, Nat.reduceMul, Int.reduceBEq, Int.reduceEq, Int.reduceNeg, Int.reduceLT, Int.reduceLE, Int.reduceAdd, Int.reduceSub, Int.reduceMul, Int.reduceToNat, Int.reduceGT, Nat.reduceBEq, Nat.reducePow, Nat.reduceGT, reduceCtorEq, ↓reduceIte, t2, t6, t7, t27, t28, t29, h1, hld, shl8 s0 s1, shl8_or s0 s1 hxj, hwy, wrap_in]
        refine ⟨m - 1, by omega, j + 1, ?_⟩
        constructor <;> (try first | assumption | ((repeat (first | assumption | apply Ext.refl | apply Ext.app | (apply Ext.set <;> omega) | exact Ext.trans (by assumption) (by assumption) | (refine Ext.trans ?_ (by assumption)))); done) | (refine Sl.ext (by assumption) ?_; (repeat (first | assumption | apply Ext.refl | apply Ext.app | (apply Ext.set <;> omega) | exact Ext.trans (by assumption) (by assumption) | (refine Ext.trans ?_ (by assumption)))); done) | (simp -dsimp (disch := first | with_reducible assumption | omega | (intro h_; cases h_; done) | (simp only [LN] <;> omega) | (simp only [LF]; done) | (repeat (first | with_reducible assumption | apply Ext.refl | apply Ext.app | (apply Ext.set <;> omega) | (refine Ext.trans ?_ (by assumption))))) only [AX, TY, gV, dstOf, p_makeFunc, p_mapUpdate, mapPut, entsOf, p_lookup, p_extract, p_nilCheck, oneV, p_load, p_store, p_binOp, p_unOp, p_indexAddr, p_index, p_box, p_build, evParts, builtinV, load1, ldc, splice, minds, disj, rcOf, isCall, touchV, idsOf, mapId, touchB, p_buildSlice, buildSliceV, reps, fillV, p_convert, p_slice, evO, p_makeSlice, sid_some, soff_some, Nat.reduceLT, Nat.reduceLeDiff, Nat.reduceEqDiff, Nat.reduceAdd, Nat.reduceMul, Int.reduceBEq, Int.reduceEq, Int.reduceNeg, Int.reduceLT, Int.reduceLE, Int.reduceAdd, Int.reduceSub, Int.reduceMul, Int.reduceToNat, Int.reduceGT, Nat.reduceBEq, Nat.reducePow, Nat.reduceGT, reduceCtorEq, ↓reduceIte, t2, t6, t7, t27, t28, t29, Int.natCast_add, Int.natCast_one, Int.natCast_zero]; try (first | assumption | with_reducible rfl)))
        all_goals first | omega | rfl | skip
        · rw [hsn]
      · have hj : j = 8 := by omega
        subst hj
        have hlt8 := un8_lt ht 8 (by omega)
        rw [show (256 : Int) ^ 8 = 18446744073709551616 by decide] at hlt8
        have hw : IntKind.i64.wrap (IntKind.u64.wrap (un8 (t.take 8) - 9223372036854775808)) = un8 (t.take 8) - 9223372036854775808 := by rw [w_u64, IntKind.wrap_i64]; omega
        simp -dsimp (disch := first | with_reducible assumption | omega | (intro h_; cases h_; done) | (simp only [LN] <;> omega) | (simp only [LF]; done) | (repeat (first | with_reducible assumption | apply Ext.refl | apply Ext.app | (apply Ext.set <;> omega) | (refine Ext.trans ?_ (by assumption))))) only [AX, TY, gV, dstOf, p_makeFunc, p_mapUpdate, mapPut, entsOf, p_lookup, p_extract, p_nilCheck, oneV, p_load, p_store, p_binOp, p_unOp, p_indexAddr, p_index, p_box, p_build, evParts, builtinV, load1, ldc, splice, minds, disj, rcOf, isCall, touchV, idsOf, mapId, touchB, p_buildSlice, buildSliceV, reps, fillV, p_convert, p_slice, evO, p_makeSlice, sid_some, soff_some, Nat.reduceLT, Nat.reduceLeDiff, Nat.reduceEqDiff, Nat.reduceAdd, Nat.reduceMul, Int.reduceBEq, Int.reduceEq, Int.reduceNeg, Int.reduceLT, Int.reduceLE, Int.reduceAdd, Int.reduceSub, Int.reduceMul, Int.reduceToNat, Int.reduceGT, Nat.reduceBEq, Nat.reducePow, Nat.reduceGT, reduceCtorEq, ↓reduceIte, t2, t6, t7, t27, t28, t29, h1]
        refine W.drawn [(0, []), (1, []), (2, []), (3, []), (4, [3, 2, 1, 0]), (5, [3, 2, 1, 0]), (6, [5, 4]), (7, []), (8, [])] (by decide +kernel) ?_
        simp -dsimp (disch := first | with_reducible assumption | omega | (intro h_; cases h_; done) | (simp only [LN] <;> omega) | (simp only [LF]; done) | (repeat (first | with_reducible assumption | apply Ext.refl | apply Ext.app | (apply Ext.set <;> omega) | (refine Ext.trans ?_ (by assumption))))) only [AX, TY, gV, dstOf, p_makeFunc, p_mapUpdate, mapPut, entsOf, p_lookup, p_extract, p_nilCheck, oneV, p_load, p_store, p_binOp, p_unOp, p_indexAddr, p_index, p_box, p_build, evParts, builtinV, load1, ldc, splice, minds, disj, rcOf, isCall, touchV, idsOf, mapId, touchB, p_buildSlice, buildSliceV, reps, fillV, p_convert, p_slice, evO, p_makeSlice, sid_some, soff_some, Nat.reduceLT, Nat.reduceLeDiff, Nat.reduceEqDiff, Nat.reduceAdd, Nat.reduceMul, Int.reduceBEq, Int.reduceEq, Int.reduceNeg, Int.reduceLT, Int.reduceLE, Int.reduceAdd, Int.reduceSub, Int.reduceMul, Int.reduceToNat, Int.reduceGT, Nat.reduceBEq, Nat.reducePow, Nat.reduceGT, reduceCtorEq, ↓reduceIte, t2, t6, t7, t27, t28, t29, h1, hw, hcut9]
        refine ⟨by simp; omega, (by (repeat (first | assumption | apply Ext.refl | apply Ext.app | (apply Ext.set <;> omega) | exact Ext.trans (by assumption) (by assumption) | (refine Ext.trans ?_ (by assumption))))), p9, c9, ?_, rs9⟩
        rw [List.length_drop]; rfl
    · have hd : dec1 (1 :: t) = none := by
        show (if 8 ≤ t.length then _ else _) = _
        rw [if_neg (by omega)]
      rw [hd]
      simp -dsimp (disch := first | with_reducible assumption | omega | (intro h_; cases h_; done) | (simp only [LN] <;> omega) | (simp only [LF]; done) | (repeat (first | with_reducible assumption | apply Ext.refl | apply Ext.app | (apply Ext.set <;> omega) | (refine Ext.trans ?_ (by assumption))))) only [AX, TY, gV, dstOf, p_makeFunc, p_mapUpdate, mapPut, entsOf, p_lookup, p_extract, p_nilCheck, oneV, p_load, p_store, p_binOp, p_unOp, p_indexAddr, p_index, p_box, p_build, evParts, builtinV, load1, ldc, splice, minds, disj, rcOf, isCall, touchV, idsOf, mapId, touchB, p_buildSlice, buildSliceV, reps, fillV, p_convert, p_slice, evO, p_makeSlice, sid_some, soff_some, Nat.reduceLT, Nat.reduceLeDiff, Nat.reduceEqDiff, Nat.reduceAdd, Nat.reduceMul, Int.reduceBEq, Int.reduceEq, Int.reduceNeg, Int.reduceLT, Int.reduceLE, Int.reduceAdd, Int.reduceSub, Int.reduceMul, Int.reduceToNat, Int.reduceGT, Nat.reduceBEq, Nat.reducePow, Nat.reduceGT, reduceCtorEq, ↓reduceIte, g2]
      exact ⟨(by (repeat (first | assumption | apply Ext.refl | apply Ext.app | (apply Ext.set <;> omega) | exact Ext.trans (by assumption) (by assumption) | (refine Ext.trans ?_ (by assumption))))), ⟨0, 0, []⟩, _, _, _, rfl⟩
  by_cases g1 : x = 2
  · subst g1
    have hd : dec1 (2 :: t) = (keyText t).map fun q => (⟨1, 0, q.1⟩, q.2) := rfl
    rw [hd]
    simp -dsimp (disch := first | with_reducible assumption | omega | (intro h_; cases h_; done) | (simp only [LN] <;> omega) | (simp only [LF]; done) | (repeat (first | with_reducible assumption | apply Ext.refl | apply Ext.app | (apply Ext.set <;> omega) | (refine Ext.trans ?_ (by assumption))))) only [AX, TY, gV, dstOf, p_makeFunc, p_mapUpdate, mapPut, entsOf, p_lookup, p_extract, p_nilCheck, oneV, p_load, p_store, p_binOp, p_unOp, p_indexAddr, p_index, p_box, p_build, evParts, builtinV, load1, ldc, splice, minds, disj, rcOf, isCall, touchV, idsOf, mapId, touchB, p_buildSlice, buildSliceV, reps, fillV, p_convert, p_slice, evO, p_makeSlice, sid_some, soff_some, Nat.reduceLT, Nat.reduceLeDiff, Nat.reduceEqDiff, Nat.reduceAdd, Nat.reduceMul, Int.reduceBEq, Int.reduceEq, Int.reduceNeg, Int.reduceLT, Int.reduceLE, Int.reduceAdd, Int.reduceSub, Int.reduceMul, Int.reduceToNat, Int.reduceGT, Nat.reduceBEq, Nat.reducePow, Nat.reduceGT, reduceCtorEq, ↓reduceIte]
    refine (keyText_ok rs6 (e0.trans e1) ht hl).mono ?_
    rintro r2 h2 ⟨e2, hk⟩
    have gx : h2[h.length]? = _ := e2 _ _ (snoc_last _ rfl)
    have e02 := e1.trans e2
    have hlt2 := lt_of_some gx
    have hst := fun s => storeN_of (off := 0) (vs := [V.int .i64 1, V.int .i64 0, V.str s]) gx (by simp) (by simp) rfl
    cases hkt : keyText t with
    | none =>
      rw [hkt] at hk
      cases hk
      simp -dsimp (disch := first | with_reducible assumption | omega | (intro h_; cases h_; done) | (simp only [LN] <;> omega) | (simp only [LF]; done) | (repeat (first | with_reducible assumption | apply Ext.refl | apply Ext.app | (apply Ext.set <;> omega) | (refine Ext.trans ?_ (by assumption))))) only [AX, TY, gV, dstOf, p_makeFunc, p_mapUpdate, mapPut, entsOf, p_lookup, p_extract, p_nilCheck, oneV, p_load, p_store, p_binOp, p_unOp, p_indexAddr, p_index, p_box, p_build, evParts, builtinV, load1, ldc, splice, minds, disj, rcOf, isCall, touchV, idsOf, mapId, touchB, p_buildSlice, buildSliceV, reps, fillV, p_convert, p_slice, evO, p_makeSlice, sid_some, soff_some, Nat.reduceLT, Nat.reduceLeDiff, Nat.reduceEqDiff, Nat.reduceAdd, Nat.reduceMul, Int.reduceBEq, Int.reduceEq, Int.reduceNeg, Int.reduceLT, Int.reduceLE, Int.reduceAdd, Int.reduceSub, Int.reduceMul, Int.reduceToNat, Int.reduceGT, Nat.reduceBEq, Nat.reducePow, Nat.reduceGT, reduceCtorEq, ↓reduceIte, hst]
      refine ⟨Ext.set e02 (Nat.le_refl _) _, ⟨1, 0, []⟩, _, _, _, rfl⟩
    | some q =>
      obtain ⟨s, r⟩ := q
      rw [hkt] at hk
      obtain ⟨p2, c2, rfl, rs2⟩ := hk
      simp -dsimp (disch := first | with_reducible assumption | omega | (intro h_; cases h_; done) | (simp only [LN] <;> omega) | (simp only [LF]; done) | (repeat (first | with_reducible assumption | apply Ext.refl | apply Ext.app | (apply Ext.set <;> omega) | (refine Ext.trans ?_ (by assumption))))) only [AX, TY, gV, dstOf, p_makeFunc, p_mapUpdate, mapPut, entsOf, p_lookup, p_extract, p_nilCheck, oneV, p_load, p_store, p_binOp, p_unOp, p_indexAddr, p_index, p_box, p_build, evParts, builtinV, load1, ldc, splice, minds, disj, rcOf, isCall, touchV, idsOf, mapId, touchB, p_buildSlice, buildSliceV, reps, fillV, p_convert, p_slice, evO, p_makeSlice, sid_some, soff_some, Nat.reduceLT, Nat.reduceLeDiff, Nat.reduceEqDiff, Nat.reduceAdd, Nat.reduceMul, Int.reduceBEq, Int.reduceEq, Int.reduceNeg, Int.reduceLT, Int.reduceLE, Int.reduceAdd, Int.reduceSub, Int.reduceMul, Int.reduceToNat, Int.reduceGT, Nat.reduceBEq, Nat.reducePow, Nat.reduceGT, reduceCtorEq, ↓reduceIte, hst]
      exact ⟨Ext.set e02 (Nat.le_refl _) _, p2, c2, rfl, rs2⟩
  by_cases g1 : x = 3
  · subst g1
    match t, hl, ht, rs6, hcut with
    | [], hl, ht, rs6, hcut =>
      simp -dsimp (disch := first | with_reducible assumption | omega | (intro h_; cases h_; done) | (simp only [LN] <;> omega) | (simp only [LF]; done) | (repeat (first | with_reducible assumption | apply Ext.refl | apply Ext.app | (apply Ext.set <;> omega) | (refine Ext.trans ?_ (by assumption))))) only [AX, TY, gV, dstOf, p_makeFunc, p_mapUpdate, mapPut, entsOf, p_lookup, p_extract, p_nilCheck, oneV, p_load, p_store, p_binOp, p_unOp, p_indexAddr, p_index, p_box, p_build, evParts, builtinV, load1, ldc, splice, minds, disj, rcOf, isCall, touchV, idsOf, mapId, touchB, p_buildSlice, buildSliceV, reps, fillV, p_convert, p_slice, evO, p_makeSlice, sid_some, soff_some, Nat.reduceLT, Nat.reduceLeDiff, Nat.reduceEqDiff, Nat.reduceAdd, Nat.reduceMul, Int.reduceBEq, Int.reduceEq, Int.reduceNeg, Int.reduceLT, Int.reduceLE, Int.reduceAdd, Int.reduceSub, Int.reduceMul, Int.reduceToNat, Int.reduceGT, Nat.reduceBEq, Nat.reducePow, Nat.reduceGT, reduceCtorEq, ↓reduceIte]
      exact ⟨(by (repeat (first | assumption | apply Ext.refl | apply Ext.app | (apply Ext.set <;> omega) | exact Ext.trans (by assumption) (by assumption) | (refine Ext.trans ?_ (by assumption))))), ⟨0, 0, []⟩, _, _, _, rfl⟩
    | y :: l, hl, ht, rs6, hcut =>
      have h2 : (1 : Int) ≤ ((y :: l).length : Int) := by simp only [List.length_cons]; omega
      obtain ⟨⟨a6, o6⟩, rfl⟩ : ∃ q, p6 = some q := by
        cases p6 with
        | none => have := rs6.sl.nil' rfl; simp at this
        | some q => exact ⟨q, rfl⟩
      have ha60 := rs6.sl.lt rfl
      have ha6 : a6 < h.length := by omega
      have hy := ht.head
      have hwy : IntKind.i64.wrap y = y := by rw [IntKind.wrap_i64]; omega
      have hld1 : ∀ {hh : Heap}, Ext h hh → loadN hh a6 o6 1 = some [.int .u8 y] := fun e => by
        have := rs6.sl.load0 (e0.trans e) (i := 0) (m := 1) (by simp) (Nat.le_refl 1)
        simpa [eb, sid_some, soff_some] using this
      obtain ⟨p9, c9, hcut9, rs9⟩ := rs6.lo (a := 1) (by simp)
      simp only [Int.natCast_one] at hcut9
      have h3 : (0 : Int) < ((y :: l).length : Int) := by omega
      generalize hlt2 : (y :: l).length = n2 at *
      simp -dsimp (disch := first | with_reducible assumption | omega | (intro h_; cases h_; done) | (simp only [LN] <;> omega) | (simp only [LF]; done) | (repeat (first | with_reducible assumption | apply Ext.refl | apply Ext.app | (apply Ext.set <;> omega) | (refine Ext.trans ?_ (by assumption))))) only [AX, TY, gV, dstOf, p_makeFunc, p_mapUpdate, mapPut, entsOf, p_lookup, p_extract, p_nilCheck, oneV, p_load, p_store, p_binOp, p_unOp, p_indexAddr, p_index, p_box, p_build, evParts, builtinV, load1, ldc, splice, minds, disj, rcOf, isCall, touchV, idsOf, mapId, touchB, p_buildSlice, buildSliceV, reps, fillV, p_convert, p_slice, evO, p_makeSlice, sid_some, soff_some, Nat.reduceLT, Nat.reduceLeDiff, Nat.reduceEqDiff, Nat.reduceAdd, Nat.reduceMul, Int.reduceBEq, Int.reduceEq, Int.reduceNeg, Int.reduceLT, Int.reduceLE, Int.reduceAdd, Int.reduceSub, Int.reduceMul, Int.reduceToNat, Int.reduceGT, Nat.reduceBEq, Nat.reducePow, Nat.reduceGT, reduceCtorEq, ↓reduceIte, h2]
      refine W.drawn [(0, []), (1, []), (2, []), (3, []), (4, []), (5, [4, 3, 2, 1, 0]), (6, [4, 3, 2, 1, 0]), (7, [6, 5]), (8, []), (9, [])] (by decide +kernel) ?_
      simp -dsimp (disch := first | with_reducible assumption | omega | (intro h_; cases h_; done) | (simp only [LN] <;> omega) | (simp only [LF]; done) | (repeat (first | with_reducible assumption | apply Ext.refl | apply Ext.app | (apply Ext.set <;> omega) | (refine Ext.trans ?_ (by assumption))))) only [AX, TY, gV, dstOf, p_makeFunc, p_mapUpdate, mapPut, entsOf, p_lookup, p_extract, p_nilCheck, oneV, p_load, p_store, p_binOp, p_unOp, p_indexAddr, p_index, p_box, p_build, evParts, builtinV, load1, ldc, splice, minds, disj, rcOf, isCall, touchV, idsOf, mapId, touchB, p_buildSlice, buildSliceV, reps, fillV, p_convert, p_slice, evO, p_makeSlice, sid_some, soff_some, Nat.reduceLT, Nat.reduceLeDiff, Nat.reduceEqDiff, Nat.reduceAdd, Nat.reduceMul, Int.reduceBEq, Int.reduceEq, Int.reduceNeg, Int.reduceLT, Int.reduceLE, Int.reduceAdd, Int.reduceSub, Int.reduceMul, Int.reduceToNat, Int.reduceGT, Nat.reduceBEq, Nat.reducePow, Nat.reduceGT, reduceCtorEq, ↓reduceIte, hld1, hcut9, h3, hwy]
      refine ⟨by simp; omega, (by (repeat (first | assumption | apply Ext.refl | apply Ext.app | (apply Ext.set <;> omega) | exact Ext.trans (by assumption) (by assumption) | (refine Ext.trans ?_ (by assumption))))), p9, c9, ?_, rs9⟩
      have : n2 - 1 = l.length := by rw [← hlt2]; rfl
      rw [this]; rfl
  · have hd : dec1 (x :: t) = none := by
      simp only [dec1]
      rw [if_neg (by assumption), if_neg (by assumption), if_neg (by assumption)]
    rw [hd]
    rename_i g2 g3
    simp -dsimp (disch := first | with_reducible assumption | omega | (intro h_; cases h_; done) | (simp only [LN] <;> omega) | (simp only [LF]; done) | (repeat (first | with_reducible assumption | apply Ext.refl | apply Ext.app | (apply Ext.set <;> omega) | (refine Ext.trans ?_ (by assumption))))) only [AX, TY, gV, dstOf, p_makeFunc, p_mapUpdate, mapPut, entsOf, p_lookup, p_extract, p_nilCheck, oneV, p_load, p_store, p_binOp, p_unOp, p_indexAddr, p_index, p_box, p_build, evParts, builtinV, load1, ldc, splice, minds, disj, rcOf, isCall, touchV, idsOf, mapId, touchB, p_buildSlice, buildSliceV, reps, fillV, p_convert, p_slice, evO, p_makeSlice, sid_some, soff_some, Nat.reduceLT, Nat.reduceLeDiff, Nat.reduceEqDiff, Nat.reduceAdd, Nat.reduceMul, Int.reduceBEq, Int.reduceEq, Int.reduceNeg, Int.reduceLT, Int.reduceLE, Int.reduceAdd, Int.reduceSub, Int.reduceMul, Int.reduceToNat, Int.reduceGT, Nat.reduceBEq, Nat.reducePow, Nat.reduceGT, reduceCtorEq, ↓reduceIte, g1, g2, g3]
    exact ⟨(by (repeat (first | assumption | apply Ext.refl | apply Ext.app | (apply Ext.set <;> omega) | exact Ext.trans (by assumption) (by assumption) | (refine Ext.trans ?_ (by assumption))))), ⟨0, 0, []⟩, _, _, _, rfl⟩
end Go.Proofs.YtngcicclaehpbaaDoorA
namespace Go.Proofs.YtngcicclaehpbaaDoorA
open Go Go.Proofs Go.RowKit
set_option linter.unusedVariables false
set_option linter.unusedSimpArgs false
set_option maxRecDepth 10000
set_option maxHeartbeats 2000000
theorem Dec.split {d : List Int → Option (Vl × List Int)} (h0 : d [] = none) {b r : List Int} {l : List Vl} (h : Dec d b l r) : ∀ {l' : List Vl}, Dec d b l' [] → ∃ m, l' = l ++ m ∧ Dec d r m [] := by
  induction h with
  | nil b => exact fun h' => ⟨_, rfl, h'⟩
  | cons q1 q2 q3 ih =>
    intro l' h'
    cases h' with
    | nil => rw [h0] at q1; cases q1
    | cons p1 p2 p3 =>
      rw [q1] at p1
      simp only [Option.some.injEq, Prod.mk.injEq] at p1
      obtain ⟨rfl, rfl⟩ := p1
      obtain ⟨m, rfl, h2⟩ := ih p3
      exact ⟨m, rfl, h2⟩
def DecAll (d : List Int → Option (Vl × List Int)) (b : List Int) (o : Option (List Vl)) : Prop := match o with
  | some l => Dec d b l []
  | none => ¬ ∃ l, Dec d b l []
theorem Dec.uniq {d : List Int → Option (Vl × List Int)} (h0 : d [] = none) {b : List Int} {l m : List Vl} (h : Dec d b l []) (h2 : Dec d b m []) : l = m := by
  obtain ⟨q, rfl, h3⟩ := h.split h0 h2
  cases h3 with
  | nil => simp
  | cons p1 _ _ => rw [h0] at p1; cases p1
theorem DecAll.uniq {d : List Int → Option (Vl × List Int)} (h0 : d [] = none) {b : List Int} {o o' : Option (List Vl)} (h : DecAll d b o) (h2 : DecAll d b o') : o = o' := by
  cases o with
  | none => cases o' with
    | none => rfl
    | some l => exact absurd ⟨l, h2⟩ h
  | some l => cases o' with
    | none => exact absurd ⟨l, h⟩ h2
    | some m => rw [Dec.uniq h0 h h2]
theorem Dec.stuck {d : List Int → Option (Vl × List Int)} (h0 : d [] = none) {b r : List Int} {l : List Vl} (h : Dec d b l r) (hr : r ≠ []) (hs : ∀ v t, d r = some (v, t) → validV v = false) : DecAll d b none := by
  rintro ⟨l', h'⟩
  obtain ⟨m, rfl, h2⟩ := h.split h0 h'
  cases h2 with
  | nil => exact hr rfl
  | cons p1 p2 _ => rw [hs _ _ p1] at p2; cases p2
theorem bt_of_esc : ∀ {s : List Int}, Bt (esc s) → Bt s
  | [], _ => Bt.nil
  | c :: s, h => by
    simp only [esc] at h
    split at h
    · exact Bt.cons (by omega) (bt_of_esc h.tail.tail)
    · exact Bt.cons h.head (bt_of_esc h.tail)
theorem esc_ge (s : List Int) : s.length ≤ (esc s).length := by
  induction s with
  | nil => simp [esc]
  | cons c s ih => simp only [esc]; split <;> simp <;> omega
theorem keyText_parts {b s r : List Int} (hb : Bt b) (h : keyText b = some (s, r)) : Bt s ∧ Bt r ∧ s.length + r.length ≤ b.length := by
  have e := esc_keyText b h
  rw [e] at hb
  refine ⟨bt_of_esc hb.left, hb.right.tail.tail, ?_⟩
  have := esc_ge s
  rw [e]; simp; omega
theorem dec1_G {b r : List Int} {v : Vl} (hb : Bt b) (hl : b.length ≤ 1000000) (h : dec1 b = some (v, r)) : v.G ∧ Bt r ∧ r.length < b.length := by
  refine ⟨?_, ?_, dec1_len h⟩
  all_goals
    cases b with
    | nil => cases h
    | cons t b =>
      have ht := hb.tail
      simp only [List.length_cons] at hl
      simp only [dec1] at h
      split at h
      · split at h
        · simp only [Option.some.injEq, Prod.mk.injEq] at h
          obtain ⟨rfl, rfl⟩ := h
          have := un8_lt ht 8 (by omega)
          rw [show (256 : Int) ^ 8 = 18446744073709551616 by decide] at this
          first | exact ht.drop 8 | (simp only [Vl.G]; exact ⟨by omega, by omega, by simp, Bt.nil⟩)
        · cases h
      · split at h
        · cases hk : keyText b with
          | none => rw [hk] at h; cases h
          | some q =>
            obtain ⟨s, r1⟩ := q
            rw [hk] at h
            simp only [Option.map_some, Option.some.injEq, Prod.mk.injEq] at h
            obtain ⟨rfl, rfl⟩ := h
            obtain ⟨k1, k2, k3⟩ := keyText_parts ht hk
            first | exact k2 | (simp only [Vl.G]; exact ⟨by omega, by omega, by omega, k1⟩)
        · split at h
          · cases b with
            | nil => cases h
            | cons x b =>
              have hx := ht.head
              simp only [Option.some.injEq, Prod.mk.injEq] at h
              obtain ⟨rfl, rfl⟩ := h
              first | exact ht.tail | (simp only [Vl.G]; exact ⟨by omega, by omega, by simp, Bt.nil⟩)
          · cases h
def dkR (b0 : Nat) (h' : Heap) (o : Option (List Vl)) (r : V) : Prop := match o with
  | some l => ∃ p c oid, r = V.tuple [.slice p l.length c, .int .i64 0] ∧ Gr b0 h' p c oid 3 Vl.enc l ∧ l.all validV = true ∧ ∀ y ∈ l, y.G
  | none => r = V.tuple [.slice none 0 (some 0), .int .i64 12]
structure LDK (d : List Int → Option (Vl × List Int)) (h b0 : Heap) (b : List Int) (τ0 τ4 : V) (hh : Heap) (p : Option (Nat × Nat)) (c : Option Nat) (t : List Int) (l : List Vl) : Prop where
  hl : l.length + t.length ≤ b.length
  t0 : τ0 = .slice p t.length c
  rs : Rs h p c 1 eb t
  bt : Bt t
  dec : Dec d b l t
  val : l.all validV = true
  g : ∀ y ∈ l, y.G
  app : App h.length h none 3 Vl.enc l τ4 hh
theorem vl_w (zs : List Vl) : ∀ y ∈ zs, (Vl.enc y).length = 3 := fun _ _ => rfl
theorem vl_l (zs : List Vl) : ∀ y ∈ zs, (Vl.enc y).all V.leaf = true := fun _ _ => rfl
theorem snoc_G {l : List Vl} {v : Vl} (hl : ∀ y ∈ l, y.G) (hv : v.G) : ∀ y ∈ l ++ [v], y.G := fun y hy => by
  rcases List.mem_append.1 hy with hy | hy
  · exact hl y hy
  · simp only [List.mem_singleton] at hy; subst hy; exact hv
theorem decodeKey_ok {h : Heap} {p : Option (Nat × Nat)} {c : Option Nat} {b : List Int} (hr : Rs h p c 1 eb b) (hb : Bt b) (hl : b.length ≤ 1000000) : WR (callE Tryd.prog hk 33 [.slice p b.length c] h) fun r h' => Ext h h' ∧ ∃ o, DecAll dec1 b o ∧ dkR h.length h' o r := by
  refine WR.call (hH := rfl) Tryd.func33 rfl (n := 30) rfl rfl (by simp) ?_
  simp -dsimp (disch := first | with_reducible assumption | omega | (intro h_; cases h_; done) | (simp only [LN] <;> omega) | (simp only [LF]; done) | (repeat (first | with_reducible assumption | apply Ext.refl | apply Ext.app | (apply Ext.set <;> omega) | (refine Ext.trans ?_ (by assumption))))) only [AX, TY, gV, dstOf, p_makeFunc, p_mapUpdate, mapPut, entsOf, p_lookup, p_extract, p_nilCheck, oneV, p_load, p_store, p_binOp, p_unOp, p_indexAddr, p_index, p_box, p_build, evParts, builtinV, load1, ldc, splice, minds, disj, rcOf, isCall, touchV, idsOf, mapId, touchB, p_buildSlice, buildSliceV, reps, fillV, p_convert, p_slice, evO, p_makeSlice, sid_some, soff_some, Nat.reduceLT, Nat.reduceLeDiff, Nat.reduceEqDiff, Nat.reduceAdd, Nat.reduceMul, Int.reduceBEq, Int.reduceEq, Int.reduceNeg, Int.reduceLT, Int.reduceLE, Int.reduceAdd, Int.reduceSub, Int.reduceMul, Int.reduceToNat, Int.reduceGT, Nat.reduceBEq, Nat.reducePow, Nat.reduceGT, reduceCtorEq, ↓reduceIte]
  refine W.loop (fun m τ hh => ∃ p c t l, m = t.length ∧ LDK dec1 h h b (τ 0) (τ 4) hh p c t l) ?_ (m := b.length) ?_
  rotate_left
  · exact ⟨p, c, b, [], rfl, by simp, rfl, hr, hb, .nil b, rfl, by simp, App.of (Gr.nil _ _ _ _)⟩
  clear hr
  rintro m τ hh ⟨p, c, t, l, hm, hlen, t0, hr, hbt, hdec, hval, hg, ha0⟩
  have eh : Ext h hh := ha0.ext (.refl _) (by simp)
  match t, hm, hlen, t0, hr, hbt, hdec with
  | [], hm, hlen, t0, hr, hbt, hdec =>
    obtain ⟨p', c', oid', t4, gr, ho, hle, hk⟩ := ha0
    simp -dsimp (disch := first | with_reducible assumption | omega | (intro h_; cases h_; done) | (simp only [LN] <;> omega) | (simp only [LF]; done) | (repeat (first | with_reducible assumption | apply Ext.refl | apply Ext.app | (apply Ext.set <;> omega) | (refine Ext.trans ?_ (by assumption))))) only [AX, TY, gV, dstOf, p_makeFunc, p_mapUpdate, mapPut, entsOf, p_lookup, p_extract, p_nilCheck, oneV, p_load, p_store, p_binOp, p_unOp, p_indexAddr, p_index, p_box, p_build, evParts, builtinV, load1, ldc, splice, minds, disj, rcOf, isCall, touchV, idsOf, mapId, touchB, p_buildSlice, buildSliceV, reps, fillV, p_convert, p_slice, evO, p_makeSlice, sid_some, soff_some, Nat.reduceLT, Nat.reduceLeDiff, Nat.reduceEqDiff, Nat.reduceAdd, Nat.reduceMul, Int.reduceBEq, Int.reduceEq, Int.reduceNeg, Int.reduceLT, Int.reduceLE, Int.reduceAdd, Int.reduceSub, Int.reduceMul, Int.reduceToNat, Int.reduceGT, Nat.reduceBEq, Nat.reducePow, Nat.reduceGT, reduceCtorEq, ↓reduceIte, t0, t4]
    exact ⟨eh, some l, hdec, p', c', oid', rfl, gr, hval, hg⟩
  | x :: t, hm, hlen, t0, hr, hbt, hdec =>
    have h1 : (0 : Int) < ((x :: t).length : Int) := by simp only [List.length_cons]; omega
    simp only [List.length_cons] at hlen
    have hkv := keyValue_ok hr eh hbt (by omega)
    have hlt' : (x :: t).length = t.length + 1 := rfl
    generalize hlt : (x :: t).length = n at *
    simp -dsimp (disch := first | with_reducible assumption | omega | (intro h_; cases h_; done) | (simp only [LN] <;> omega) | (simp only [LF]; done) | (repeat (first | with_reducible assumption | apply Ext.refl | apply Ext.app | (apply Ext.set <;> omega) | (refine Ext.trans ?_ (by assumption))))) only [AX, TY, gV, dstOf, p_makeFunc, p_mapUpdate, mapPut, entsOf, p_lookup, p_extract, p_nilCheck, oneV, p_load, p_store, p_binOp, p_unOp, p_indexAddr, p_index, p_box, p_build, evParts, builtinV, load1, ldc, splice, minds, disj, rcOf, isCall, touchV, idsOf, mapId, touchB, p_buildSlice, buildSliceV, reps, fillV, p_convert, p_slice, evO, p_makeSlice, sid_some, soff_some, Nat.reduceLT, Nat.reduceLeDiff, Nat.reduceEqDiff, Nat.reduceAdd, Nat.reduceMul, Int.reduceBEq, Int.reduceEq, Int.reduceNeg, Int.reduceLT, Int.reduceLE, Int.reduceAdd, Int.reduceSub, Int.reduceMul, Int.reduceToNat, Int.reduceGT, Nat.reduceBEq, Nat.reducePow, Nat.reduceGT, reduceCtorEq, ↓reduceIte, t0, h1]
    refine hkv.mono ?_
    rintro r2 h2 ⟨e2, hkr⟩
    cases hd : dec1 (x :: t) with
    | none =>
      rw [hd] at hkr
      obtain ⟨v, p2, n2, c2, rfl⟩ := hkr
      simp -dsimp (disch := first | with_reducible assumption | omega | (intro h_; cases h_; done) | (simp only [LN] <;> omega) | (simp only [LF]; done) | (repeat (first | with_reducible assumption | apply Ext.refl | apply Ext.app | (apply Ext.set <;> omega) | (refine Ext.trans ?_ (by assumption))))) only [AX, TY, gV, dstOf, p_makeFunc, p_mapUpdate, mapPut, entsOf, p_lookup, p_extract, p_nilCheck, oneV, p_load, p_store, p_binOp, p_unOp, p_indexAddr, p_index, p_box, p_build, evParts, builtinV, load1, ldc, splice, minds, disj, rcOf, isCall, touchV, idsOf, mapId, touchB, p_buildSlice, buildSliceV, reps, fillV, p_convert, p_slice, evO, p_makeSlice, sid_some, soff_some, Nat.reduceLT, Nat.reduceLeDiff, Nat.reduceEqDiff, Nat.reduceAdd, Nat.reduceMul, Int.reduceBEq, Int.reduceEq, Int.reduceNeg, Int.reduceLT, Int.reduceLE, Int.reduceAdd, Int.reduceSub, Int.reduceMul, Int.reduceToNat, Int.reduceGT, Nat.reduceBEq, Nat.reducePow, Nat.reduceGT, reduceCtorEq, ↓reduceIte, t0, Vl.enc]
      exact ⟨(eh.trans e2).app _, none, hdec.stuck rfl (by simp) (by intro v t q; rw [hd] at q; cases q), rfl⟩
    | some q =>
      obtain ⟨v, t2⟩ := q
      rw [hd] at hkr
      obtain ⟨p2, c2, rfl, rs2⟩ := hkr
      obtain ⟨hvG, hbt2, hlt2⟩ := dec1_G hbt (by omega) hd
      have gx : (h2 ++ [O.cells v.enc Kd.rw])[h2.length]? = some (.cells v.enc .rw) := snoc_last _ rfl
      have ex : Ext h2 (h2 ++ [O.cells v.enc Kd.rw]) := (by (repeat (first | assumption | apply Ext.refl | apply Ext.app | (apply Ext.set <;> omega) | exact Ext.trans (by assumption) (by assumption) | (refine Ext.trans ?_ (by assumption)))))
      simp only [Vl.enc] at gx ex
      simp -dsimp (disch := first | with_reducible assumption | omega | (intro h_; cases h_; done) | (simp only [LN] <;> omega) | (simp only [LF]; done) | (repeat (first | with_reducible assumption | apply Ext.refl | apply Ext.app | (apply Ext.set <;> omega) | (refine Ext.trans ?_ (by assumption))))) only [AX, TY, gV, dstOf, p_makeFunc, p_mapUpdate, mapPut, entsOf, p_lookup, p_extract, p_nilCheck, oneV, p_load, p_store, p_binOp, p_unOp, p_indexAddr, p_index, p_box, p_build, evParts, builtinV, load1, ldc, splice, minds, disj, rcOf, isCall, touchV, idsOf, mapId, touchB, p_buildSlice, buildSliceV, reps, fillV, p_convert, p_slice, evO, p_makeSlice, sid_some, soff_some, Nat.reduceLT, Nat.reduceLeDiff, Nat.reduceEqDiff, Nat.reduceAdd, Nat.reduceMul, Int.reduceBEq, Int.reduceEq, Int.reduceNeg, Int.reduceLT, Int.reduceLE, Int.reduceAdd, Int.reduceSub, Int.reduceMul, Int.reduceToNat, Int.reduceGT, Nat.reduceBEq, Nat.reducePow, Nat.reduceGT, reduceCtorEq, ↓reduceIte, t0, Vl.enc]
      generalize h2 ++ [O.cells [V.int .i64 v.kind, V.int .i64 v.int, V.str v.text] Kd.rw] = h3 at gx ex
      refine (valid_ok v).mono ?_
      rintro _ h4 ⟨e4, rfl⟩
      have gx4 := e4 _ _ gx
      have e04 := (eh.trans e2).trans (ex.trans e4)
      cases hv : validV v
      · simp -dsimp (disch := first | with_reducible assumption | omega | (intro h_; cases h_; done) | (simp only [LN] <;> omega) | (simp only [LF]; done) | (repeat (first | with_reducible assumption | apply Ext.refl | apply Ext.app | (apply Ext.set <;> omega) | (refine Ext.trans ?_ (by assumption))))) only [AX, TY, gV, dstOf, p_makeFunc, p_mapUpdate, mapPut, entsOf, p_lookup, p_extract, p_nilCheck, oneV, p_load, p_store, p_binOp, p_unOp, p_indexAddr, p_index, p_box, p_build, evParts, builtinV, load1, ldc, splice, minds, disj, rcOf, isCall, touchV, idsOf, mapId, touchB, p_buildSlice, buildSliceV, reps, fillV, p_convert, p_slice, evO, p_makeSlice, sid_some, soff_some, Nat.reduceLT, Nat.reduceLeDiff, Nat.reduceEqDiff, Nat.reduceAdd, Nat.reduceMul, Int.reduceBEq, Int.reduceEq, Int.reduceNeg, Int.reduceLT, Int.reduceLE, Int.reduceAdd, Int.reduceSub, Int.reduceMul, Int.reduceToNat, Int.reduceGT, Nat.reduceBEq, Nat.reducePow, Nat.reduceGT, reduceCtorEq, ↓reduceIte, t0]
        exact ⟨e04, none, hdec.stuck rfl (by simp) (by intro v' t' q; rw [hd] at q; cases q; exact hv), rfl⟩
      · obtain ⟨p', c', oid', t4, gr, ho, hle, hk⟩ := ha0
        have eh4 := e2.trans (ex.trans e4)
        have gr4 := gr.ext eh4
        have hle4 := eh4.le
        simp -dsimp (disch := first | with_reducible assumption | omega | (intro h_; cases h_; done) | (simp only [LN] <;> omega) | (simp only [LF]; done) | (repeat (first | with_reducible assumption | apply Ext.refl | apply Ext.app | (apply Ext.set <;> omega) | (refine Ext.trans ?_ (by assumption))))) only [AX, TY, gV, dstOf, p_makeFunc, p_mapUpdate, mapPut, entsOf, p_lookup, p_extract, p_nilCheck, oneV, p_load, p_store, p_binOp, p_unOp, p_indexAddr, p_index, p_box, p_build, evParts, builtinV, load1, ldc, splice, minds, disj, rcOf, isCall, touchV, idsOf, mapId, touchB, p_buildSlice, buildSliceV, reps, fillV, p_convert, p_slice, evO, p_makeSlice, sid_some, soff_some, Nat.reduceLT, Nat.reduceLeDiff, Nat.reduceEqDiff, Nat.reduceAdd, Nat.reduceMul, Int.reduceBEq, Int.reduceEq, Int.reduceNeg, Int.reduceLT, Int.reduceLE, Int.reduceAdd, Int.reduceSub, Int.reduceMul, Int.reduceToNat, Int.reduceGT, Nat.reduceBEq, Nat.reducePow, Nat.reduceGT, reduceCtorEq, ↓reduceIte, t0, t4, loadN_fact gx4]
        refine (gr4.wrB (by omega) (hh := h4 ++ [O.cells v.enc Kd.rw]) (q := h4.length) (n := 1) (vc := some 1) (bytes := 32) (by (repeat (first | assumption | apply Ext.refl | apply Ext.app | (apply Ext.set <;> omega) | exact Ext.trans (by assumption) (by assumption) | (refine Ext.trans ?_ (by assumption))))) [v] (snoc_last _ rfl) rfl (vl_w _) (vl_l _) (by simp only [List.length_cons, List.length_nil]; omega) (by simp only [List.length_cons, List.length_nil]; omega)).mono ?_
        intro r5 h5 ha5
        have ha5' := App.trans ho hle hk (App.base eh4 ha5)
        simp -dsimp (disch := first | with_reducible assumption | omega | (intro h_; cases h_; done) | (simp only [LN] <;> omega) | (simp only [LF]; done) | (repeat (first | with_reducible assumption | apply Ext.refl | apply Ext.app | (apply Ext.set <;> omega) | (refine Ext.trans ?_ (by assumption))))) only [AX, TY, gV, dstOf, p_makeFunc, p_mapUpdate, mapPut, entsOf, p_lookup, p_extract, p_nilCheck, oneV, p_load, p_store, p_binOp, p_unOp, p_indexAddr, p_index, p_box, p_build, evParts, builtinV, load1, ldc, splice, minds, disj, rcOf, isCall, touchV, idsOf, mapId, touchB, p_buildSlice, buildSliceV, reps, fillV, p_convert, p_slice, evO, p_makeSlice, sid_some, soff_some, Nat.reduceLT, Nat.reduceLeDiff, Nat.reduceEqDiff, Nat.reduceAdd, Nat.reduceMul, Int.reduceBEq, Int.reduceEq, Int.reduceNeg, Int.reduceLT, Int.reduceLE, Int.reduceAdd, Int.reduceSub, Int.reduceMul, Int.reduceToNat, Int.reduceGT, Nat.reduceBEq, Nat.reducePow, Nat.reduceGT, reduceCtorEq, ↓reduceIte, t0, t4]
        refine ⟨t2.length, by simp only [List.length_cons] at hlt2; omega, p2, c2, t2, l ++ [v], rfl, ?_, rfl, rs2, hbt2, hdec.snoc hd hv, ?_, snoc_G hg hvG, ha5'⟩
        · simp only [List.length_append, List.length_cons, List.length_nil] at hlt2 ⊢; omega
        · rw [List.all_append, hval]; simp [hv]
end Go.Proofs.YtngcicclaehpbaaDoorA
namespace Go.Proofs.YtngcicclaehpbaaDoorA
open Go Go.Proofs Go.RowKit
set_option linter.unusedVariables false
set_option linter.unusedSimpArgs false
set_option maxRecDepth 10000
set_option maxHeartbeats 2000000
theorem refNumber_ok {h : Heap} {p : Option (Nat × Nat)} {c : Option Nat} {l : List Int} (hs : Sl h p 1 eb l) (hb : Bt l) (hl : l.length = 8) : WR (callE Tryd.prog hk 47 [.slice p 8 c] h) fun r h' => h = h' ∧ r = .int .i64 (un8 l - 9223372036854775808) := by
  have hn := hs.nil'
  rw [hl] at hn
  refine WR.call (hH := rfl) Tryd.func47 rfl (n := 20) rfl rfl (by simp) ?_
  simp -dsimp (disch := first | with_reducible assumption | omega | (intro h_; cases h_; done) | (simp only [LN] <;> omega) | (simp only [LF]; done) | (repeat (first | with_reducible assumption | apply Ext.refl | apply Ext.app | (apply Ext.set <;> omega) | (refine Ext.trans ?_ (by assumption))))) only [AX, TY, gV, dstOf, p_makeFunc, p_mapUpdate, mapPut, entsOf, p_lookup, p_extract, p_nilCheck, oneV, p_load, p_store, p_binOp, p_unOp, p_indexAddr, p_index, p_box, p_build, evParts, builtinV, load1, ldc, splice, minds, disj, rcOf, isCall, touchV, idsOf, mapId, touchB, p_buildSlice, buildSliceV, reps, fillV, p_convert, p_slice, evO, p_makeSlice, sid_some, soff_some, Nat.reduceLT, Nat.reduceLeDiff, Nat.reduceEqDiff, Nat.reduceAdd, Nat.reduceMul, Int.reduceBEq, Int.reduceEq, Int.reduceNeg, Int.reduceLT, Int.reduceLE, Int.reduceAdd, Int.reduceSub, Int.reduceMul, Int.reduceToNat, Int.reduceGT, Nat.reduceBEq, Nat.reducePow, Nat.reduceGT, reduceCtorEq, ↓reduceIte]
  refine W.loop (fun m τ hh => h = hh ∧ ∃ j : Nat, m + j = 8 ∧ τ 0 = .slice p 8 c ∧ τ 3 = .int .u64 (un8 (l.take j)) ∧ τ 4 = .int .i64 j) ?_ (m := 8) ?_
  rotate_left
  · exact ⟨rfl, 0, rfl, rfl, rfl, rfl⟩
  rintro m τ _ ⟨rfl, j, hm, t0, t3, t4⟩
  by_cases h1 : (j : Int) < 8
  · have hj : j < l.length := by omega
    have hsn := un8_take hj
    have hxj := hb _ (List.getElem_mem hj)
    obtain ⟨s0, s1⟩ := un8_small hb (show j < 8 by omega) (by omega)
    have hld := fun hh e => hs.load0 (hh := hh) e hj (m := 1) (Nat.le_refl 1)
    generalize un8 (l.take j) = n8 at t3 hsn s0 s1
    generalize l[j] = y at hld hsn hxj
    simp only [eb] at hld
    have hwy : IntKind.u64.wrap y = y := by rw [w_u64]; omega
    simp -dsimp (disch := first | with_reducible assumption | omega | (intro h_; cases h_; done) | (simp only [LN] <;> omega) | (simp only [LF]; done) | (repeat (first | with_reducible assumption | apply Ext.refl | apply Ext.app | (apply Ext.set <;> omega) | (refine Ext.trans ?_ (by assumption))))) only [AX, TY, gV, dstOf, p_makeFunc, p_mapUpdate, mapPut, entsOf, p_lookup, p_extract, p_nilCheck, oneV, p_load, p_store, p_binOp, p_unOp, p_indexAddr, p_index, p_box, p_build, evParts, builtinV, load1, ldc, splice, minds, disj, rcOf, isCall, touchV, idsOf, mapId, touchB, p_buildSlice, buildSliceV, reps, fillV, p_convert, p_slice, evO, p_makeSlice, sid_some, soff_some, Nat.reduceLT, Nat.reduceLeDiff, Nat.reduceEqDiff, Nat.reduceAdd, Nat.reduceMul, Int.reduceBEq, Int.reduceEq, Int.reduceNeg, Int.reduceLT, Int.reduceLE, Int.reduceAdd, Int.reduceSub, Int.reduceMul, Int.reduceToNat, Int.reduceGT, Nat.reduceBEq, Nat.reducePow, Nat.reduceGT, reduceCtorEq, ↓reduceIte, t0, t3, t4, h1, hld, shl8 s0 s1, shl8_or s0 s1 hxj, hwy, wrap_in]
    exact ⟨m - 1, by omega, j + 1, by omega, by rw [hsn], by simp⟩
  · have hj : j = 8 := by omega
    subst hj
    have hlt8 := un8_lt hb 8 (by omega)
    rw [show (256 : Int) ^ 8 = 18446744073709551616 by decide] at hlt8
    have htk : l.take 8 = l := List.take_of_length_le (by omega)
    rw [htk] at hlt8 t3
    have hw : IntKind.i64.wrap (IntKind.u64.wrap (un8 l - 9223372036854775808)) = un8 l - 9223372036854775808 := by rw [w_u64, IntKind.wrap_i64]; omega
    simp -dsimp (disch := first | with_reducible assumption | omega | (intro h_; cases h_; done) | (simp only [LN] <;> omega) | (simp only [LF]; done) | (repeat (first | with_reducible assumption | apply Ext.refl | apply Ext.app | (apply Ext.set <;> omega) | (refine Ext.trans ?_ (by assumption))))) only [AX, TY, gV, dstOf, p_makeFunc, p_mapUpdate, mapPut, entsOf, p_lookup, p_extract, p_nilCheck, oneV, p_load, p_store, p_binOp, p_unOp, p_indexAddr, p_index, p_box, p_build, evParts, builtinV, load1, ldc, splice, minds, disj, rcOf, isCall, touchV, idsOf, mapId, touchB, p_buildSlice, buildSliceV, reps, fillV, p_convert, p_slice, evO, p_makeSlice, sid_some, soff_some, Nat.reduceLT, Nat.reduceLeDiff, Nat.reduceEqDiff, Nat.reduceAdd, Nat.reduceMul, Int.reduceBEq, Int.reduceEq, Int.reduceNeg, Int.reduceLT, Int.reduceLE, Int.reduceAdd, Int.reduceSub, Int.reduceMul, Int.reduceToNat, Int.reduceGT, Nat.reduceBEq, Nat.reducePow, Nat.reduceGT, reduceCtorEq, ↓reduceIte, t0, t3, t4, h1, hw]
def rtR (n : Nat) (o : Option (List Int × List Int)) : V := match o with
  | some (s, t) => V.tuple [.str s, .int .i64 ((n - t.length : Nat) : Int)]
  | none => V.tuple [.str [], .int .i64 (-1)]
structure LRT (h0 : Heap) (p : Option (Nat × Nat)) (c : Option Nat) (b : List Int) (m : Nat) (τ : Tp) (hh : Heap) (i : Nat) (L : List Int) : Prop where
  hm : m + i = b.length
  hl : L.length ≤ i
  t0 : τ 0 = .slice p b.length c
  t5 : τ 5 = .int .i64 i
  bl : Bt L
  kt : (keyText (b.drop i)).map (fun q => (L ++ q.1, q.2)) = keyText b
  app : App h0.length h0 none 1 eb L (τ 4) hh
theorem refText_ok {h : Heap} {p : Option (Nat × Nat)} {c : Option Nat} {b : List Int} (hs : Sl h p 1 eb b) (hb : Bt b) (hl : b.length ≤ 1000000) : WR (callE Tryd.prog hk 48 [.slice p b.length c] h) fun r h' => Ext h h' ∧ r = rtR b.length (keyText b) := by
  have hn := hs.nil'
  refine WR.call (hH := rfl) Tryd.func48 rfl (n := 51) rfl rfl (by simp) ?_
  simp -dsimp (disch := first | with_reducible assumption | omega | (intro h_; cases h_; done) | (simp only [LN] <;> omega) | (simp only [LF]; done) | (repeat (first | with_reducible assumption | apply Ext.refl | apply Ext.app | (apply Ext.set <;> omega) | (refine Ext.trans ?_ (by assumption))))) only [AX, TY, gV, dstOf, p_makeFunc, p_mapUpdate, mapPut, entsOf, p_lookup, p_extract, p_nilCheck, oneV, p_load, p_store, p_binOp, p_unOp, p_indexAddr, p_index, p_box, p_build, evParts, builtinV, load1, ldc, splice, minds, disj, rcOf, isCall, touchV, idsOf, mapId, touchB, p_buildSlice, buildSliceV, reps, fillV, p_convert, p_slice, evO, p_makeSlice, sid_some, soff_some, Nat.reduceLT, Nat.reduceLeDiff, Nat.reduceEqDiff, Nat.reduceAdd, Nat.reduceMul, Int.reduceBEq, Int.reduceEq, Int.reduceNeg, Int.reduceLT, Int.reduceLE, Int.reduceAdd, Int.reduceSub, Int.reduceMul, Int.reduceToNat, Int.reduceGT, Nat.reduceBEq, Nat.reducePow, Nat.reduceGT, reduceCtorEq, ↓reduceIte]
  refine W.loop (fun m τ hh => ∃ i L, LRT h p c b m τ hh i L) ?_ (m := b.length) ?_
  rotate_left
  · refine ⟨0, [], ?_⟩
    constructor <;> (try first | assumption | ((repeat (first | assumption | apply Ext.refl | apply Ext.app | (apply Ext.set <;> omega) | exact Ext.trans (by assumption) (by assumption) | (refine Ext.trans ?_ (by assumption)))); done) | (refine Sl.ext (by assumption) ?_; (repeat (first | assumption | apply Ext.refl | apply Ext.app | (apply Ext.set <;> omega) | exact Ext.trans (by assumption) (by assumption) | (refine Ext.trans ?_ (by assumption)))); done) | (simp -dsimp (disch := first | with_reducible assumption | omega | (intro h_; cases h_; done) | (simp only [LN] <;> omega) | (simp only [LF]; done) | (repeat (first | with_reducible assumption | apply Ext.refl | apply Ext.app | (apply Ext.set <;> omega) | (refine Ext.trans ?_ (by assumption))))) only [AX, TY, gV, dstOf, p_makeFunc, p_mapUpdate, mapPut, entsOf, p_lookup, p_extract, p_nilCheck, oneV, p_load, p_store, p_binOp, p_unOp, p_indexAddr, p_index, p_box, p_build, evParts, builtinV, load1, ldc, splice, minds, disj, rcOf, isCall, touchV, idsOf, mapId, touchB, p_buildSlice, buildSliceV, reps, fillV, p_convert, p_slice, evO, p_makeSlice, sid_some, soff_some, Nat.reduceLT, Nat.reduceLeDiff, Nat.reduceEqDiff, Nat.reduceAdd, Nat.reduceMul, Int.reduceBEq, Int.reduceEq, Int.reduceNeg, Int.reduceLT, Int.reduceLE, Int.reduceAdd, Int.reduceSub, Int.reduceMul, Int.reduceToNat, Int.reduceGT, Nat.reduceBEq, Nat.reducePow, Nat.reduceGT, reduceCtorEq, ↓reduceIte, Int.natCast_add, Int.natCast_one, Int.natCast_zero]; try (first | assumption | with_reducible rfl)))
    all_goals first | exact Bt.nil | (simp; done) | skip
    exact ⟨some (h.length, 0), some 0, some h.length, rfl, Gr.built (ys := ([] : List Int)) (snoc_last _ rfl) rfl (Nat.le_refl _) (by simp) (by simp) (by simp) rfl, .inr ⟨_, rfl, Nat.le_refl _⟩, by simp, fun j _ hj => snoc_old _ hj⟩
  rintro m τ hh ⟨i, L, hm, hlen, t0, t5, hbl, hkt, ha0⟩
  have eh : Ext h hh := ha0.ext (.refl _) (by simp)
  obtain ⟨p', c', oid', t4, gr, ho, hle, hk⟩ := ha0
  by_cases h1 : (i : Int) < (b.length : Int)
  rotate_left
  · rw [List.drop_of_length_le (by omega)] at hkt
    simp -dsimp (disch := first | with_reducible assumption | omega | (intro h_; cases h_; done) | (simp only [LN] <;> omega) | (simp only [LF]; done) | (repeat (first | with_reducible assumption | apply Ext.refl | apply Ext.app | (apply Ext.set <;> omega) | (refine Ext.trans ?_ (by assumption))))) only [AX, TY, gV, dstOf, p_makeFunc, p_mapUpdate, mapPut, entsOf, p_lookup, p_extract, p_nilCheck, oneV, p_load, p_store, p_binOp, p_unOp, p_indexAddr, p_index, p_box, p_build, evParts, builtinV, load1, ldc, splice, minds, disj, rcOf, isCall, touchV, idsOf, mapId, touchB, p_buildSlice, buildSliceV, reps, fillV, p_convert, p_slice, evO, p_makeSlice, sid_some, soff_some, Nat.reduceLT, Nat.reduceLeDiff, Nat.reduceEqDiff, Nat.reduceAdd, Nat.reduceMul, Int.reduceBEq, Int.reduceEq, Int.reduceNeg, Int.reduceLT, Int.reduceLE, Int.reduceAdd, Int.reduceSub, Int.reduceMul, Int.reduceToNat, Int.reduceGT, Nat.reduceBEq, Nat.reducePow, Nat.reduceGT, reduceCtorEq, ↓reduceIte, t0, t4, t5, h1]
    rw [← hkt]
    exact ⟨eh, rfl⟩
  have hi : i < b.length := by omega
  have hx := hb _ (List.getElem_mem hi)
  rw [List.drop_eq_getElem_cons hi] at hkt
  have hld0 := fun hh (e : Ext h hh) => hs.load0 (hh := hh) e hi (m := 1) (Nat.le_refl 1)
  generalize b[i] = x at hld0 hkt hx
  simp only [eb] at hld0
  by_cases h2 : x = 0
  rotate_left
  · simp -dsimp (disch := first | with_reducible assumption | omega | (intro h_; cases h_; done) | (simp only [LN] <;> omega) | (simp only [LF]; done) | (repeat (first | with_reducible assumption | apply Ext.refl | apply Ext.app | (apply Ext.set <;> omega) | (refine Ext.trans ?_ (by assumption))))) only [AX, TY, gV, dstOf, p_makeFunc, p_mapUpdate, mapPut, entsOf, p_lookup, p_extract, p_nilCheck, oneV, p_load, p_store, p_binOp, p_unOp, p_indexAddr, p_index, p_box, p_build, evParts, builtinV, load1, ldc, splice, minds, disj, rcOf, isCall, touchV, idsOf, mapId, touchB, p_buildSlice, buildSliceV, reps, fillV, p_convert, p_slice, evO, p_makeSlice, sid_some, soff_some, Nat.reduceLT, Nat.reduceLeDiff, Nat.reduceEqDiff, Nat.reduceAdd, Nat.reduceMul, Int.reduceBEq, Int.reduceEq, Int.reduceNeg, Int.reduceLT, Int.reduceLE, Int.reduceAdd, Int.reduceSub, Int.reduceMul, Int.reduceToNat, Int.reduceGT, Nat.reduceBEq, Nat.reducePow, Nat.reduceGT, reduceCtorEq, ↓reduceIte, t0, t4, t5, h1, hld0, h2]
    refine (gr.wrB (by omega) (hh := hh ++ [O.cells [V.int IntKind.u8 x] Kd.rw]) (bytes := 1) (by (repeat (first | assumption | apply Ext.refl | apply Ext.app | (apply Ext.set <;> omega) | exact Ext.trans (by assumption) (by assumption) | (refine Ext.trans ?_ (by assumption))))) [x] (snoc_last _ rfl) rfl (eb_w _) (eb_l _) (by simp only [List.length_cons, List.length_nil]; omega) (by simp only [List.length_cons, List.length_nil]; omega)).mono ?_
    rintro r2 h2' ha2
    have ha2' := App.trans ho hle hk ha2
    rw [keyText_ne h2, Option.map_map] at hkt
    simp -dsimp (disch := first | with_reducible assumption | omega | (intro h_; cases h_; done) | (simp only [LN] <;> omega) | (simp only [LF]; done) | (repeat (first | with_reducible assumption | apply Ext.refl | apply Ext.app | (apply Ext.set <;> omega) | (refine Ext.trans ?_ (by assumption))))) only [AX, TY, gV, dstOf, p_makeFunc, p_mapUpdate, mapPut, entsOf, p_lookup, p_extract, p_nilCheck, oneV, p_load, p_store, p_binOp, p_unOp, p_indexAddr, p_index, p_box, p_build, evParts, builtinV, load1, ldc, splice, minds, disj, rcOf, isCall, touchV, idsOf, mapId, touchB, p_buildSlice, buildSliceV, reps, fillV, p_convert, p_slice, evO, p_makeSlice, sid_some, soff_some, Nat.reduceLT, Nat.reduceLeDiff, Nat.reduceEqDiff, Nat.reduceAdd, Nat.reduceMul, Int.reduceBEq, Int.reduceEq, Int.reduceNeg, Int.reduceLT, Int.reduceLE, Int.reduceAdd, Int.reduceSub, Int.reduceMul, Int.reduceToNat, Int.reduceGT, Nat.reduceBEq, Nat.reducePow, Nat.reduceGT, reduceCtorEq, ↓reduceIte, t0, t4, t5, wrap_in]
    refine ⟨m - 1, by omega, i + 1, L ++ [x], ?_⟩
    constructor <;> (try first | assumption | ((repeat (first | assumption | apply Ext.refl | apply Ext.app | (apply Ext.set <;> omega) | exact Ext.trans (by assumption) (by assumption) | (refine Ext.trans ?_ (by assumption)))); done) | (refine Sl.ext (by assumption) ?_; (repeat (first | assumption | apply Ext.refl | apply Ext.app | (apply Ext.set <;> omega) | exact Ext.trans (by assumption) (by assumption) | (refine Ext.trans ?_ (by assumption)))); done) | (simp -dsimp (disch := first | with_reducible assumption | omega | (intro h_; cases h_; done) | (simp only [LN] <;> omega) | (simp only [LF]; done) | (repeat (first | with_reducible assumption | apply Ext.refl | apply Ext.app | (apply Ext.set <;> omega) | (refine Ext.trans ?_ (by assumption))))) only [AX, TY, gV, dstOf, p_makeFunc, p_mapUpdate, mapPut, entsOf, p_lookup, p_extract, p_nilCheck, oneV, p_load, p_store, p_binOp, p_unOp, p_indexAddr, p_index, p_box, p_build, evParts, builtinV, load1, ldc, splice, minds, disj, rcOf, isCall, touchV, idsOf, mapId, touchB, p_buildSlice, buildSliceV, reps, fillV, p_convert, p_slice, evO, p_makeSlice, sid_some, soff_some, Nat.reduceLT, Nat.reduceLeDiff, Nat.reduceEqDiff, Nat.reduceAdd, Nat.reduceMul, Int.reduceBEq, Int.reduceEq, Int.reduceNeg, Int.reduceLT, Int.reduceLE, Int.reduceAdd, Int.reduceSub, Int.reduceMul, Int.reduceToNat, Int.reduceGT, Nat.reduceBEq, Nat.reducePow, Nat.reduceGT, reduceCtorEq, ↓reduceIte, t0, t5, Int.natCast_add, Int.natCast_one, Int.natCast_zero]; try (first | assumption | with_reducible rfl)))
    all_goals first | omega | exact hbl.app (Bt.cons hx Bt.nil) | (simp only [List.length_append, List.length_cons, List.length_nil]; omega) | skip
    all_goals first | (rw [← hkt]; congr 1; funext q; simp; done) | skip
  subst h2
  have hw1 : IntKind.i64.wrap ((i : Int) + 1) = ((i + 1 : Nat) : Int) := by rw [IntKind.wrap_i64]; omega
  have hw2 : IntKind.i64.wrap ((i : Int) + 2) = ((i + 2 : Nat) : Int) := by rw [IntKind.wrap_i64]; omega
  by_cases h3 : ((i + 1 : Nat) : Int) = (b.length : Int)
  · rw [List.drop_of_length_le (by omega)] at hkt
    simp -dsimp (disch := first | with_reducible assumption | omega | (intro h_; cases h_; done) | (simp only [LN] <;> omega) | (simp only [LF]; done) | (repeat (first | with_reducible assumption | apply Ext.refl | apply Ext.app | (apply Ext.set <;> omega) | (refine Ext.trans ?_ (by assumption))))) only [AX, TY, gV, dstOf, p_makeFunc, p_mapUpdate, mapPut, entsOf, p_lookup, p_extract, p_nilCheck, oneV, p_load, p_store, p_binOp, p_unOp, p_indexAddr, p_index, p_box, p_build, evParts, builtinV, load1, ldc, splice, minds, disj, rcOf, isCall, touchV, idsOf, mapId, touchB, p_buildSlice, buildSliceV, reps, fillV, p_convert, p_slice, evO, p_makeSlice, sid_some, soff_some, Nat.reduceLT, Nat.reduceLeDiff, Nat.reduceEqDiff, Nat.reduceAdd, Nat.reduceMul, Int.reduceBEq, Int.reduceEq, Int.reduceNeg, Int.reduceLT, Int.reduceLE, Int.reduceAdd, Int.reduceSub, Int.reduceMul, Int.reduceToNat, Int.reduceGT, Nat.reduceBEq, Nat.reducePow, Nat.reduceGT, reduceCtorEq, ↓reduceIte, t0, t4, t5, h1, hld0, hw1, eq_true h3]
    rw [← hkt]
    exact ⟨eh, rfl⟩
  have hi2 : i + 1 < b.length := by omega
  have hi2' : ((i + 1 : Nat) : Int) < (b.length : Int) := by omega
  have hy := hb _ (List.getElem_mem hi2)
  rw [List.drop_eq_getElem_cons hi2] at hkt
  have hld1 := fun hh (e : Ext h hh) => hs.load0 (hh := hh) e hi2 (m := 1) (Nat.le_refl 1)
  generalize b[i + 1] = y at hld1 hkt hy
  simp only [eb] at hld1
  by_cases hy1 : y = 1
  · subst hy1
    have hcv := conv_bs (P := Tryd.prog) Tryd.underlying28 Tryd.underlying5 Tryd.underlying9 (c := c') gr.sl (.refl _) hbl
    have hk2 : keyText (0 :: 1 :: b.drop (i + 1 + 1)) = some ([], b.drop (i + 1 + 1)) := by rw [keyText, if_neg (by simp), if_pos rfl]
    rw [hk2] at hkt
    simp -dsimp (disch := first | with_reducible assumption | omega | (intro h_; cases h_; done) | (simp only [LN] <;> omega) | (simp only [LF]; done) | (repeat (first | with_reducible assumption | apply Ext.refl | apply Ext.app | (apply Ext.set <;> omega) | (refine Ext.trans ?_ (by assumption))))) only [AX, TY, gV, dstOf, p_makeFunc, p_mapUpdate, mapPut, entsOf, p_lookup, p_extract, p_nilCheck, oneV, p_load, p_store, p_binOp, p_unOp, p_indexAddr, p_index, p_box, p_build, evParts, builtinV, load1, ldc, splice, minds, disj, rcOf, isCall, touchV, idsOf, mapId, touchB, p_buildSlice, buildSliceV, reps, fillV, p_convert, p_slice, evO, p_makeSlice, sid_some, soff_some, Nat.reduceLT, Nat.reduceLeDiff, Nat.reduceEqDiff, Nat.reduceAdd, Nat.reduceMul, Int.reduceBEq, Int.reduceEq, Int.reduceNeg, Int.reduceLT, Int.reduceLE, Int.reduceAdd, Int.reduceSub, Int.reduceMul, Int.reduceToNat, Int.reduceGT, Nat.reduceBEq, Nat.reducePow, Nat.reduceGT, reduceCtorEq, ↓reduceIte, t0, t4, t5, h1, hld0, hw1, h3, hi2', hld1, hcv, hw2]
    rw [← hkt]
    simp only [Option.map_some, List.append_nil, rtR, List.length_drop]
    refine ⟨eh, ?_⟩
    congr 4; omega
  by_cases hy2 : y = 255
  · subst hy2
    have hk2 : keyText (0 :: 255 :: b.drop (i + 1 + 1)) = (keyText (b.drop (i + 1 + 1))).map fun q => (0 :: q.1, q.2) := by rw [keyText, if_neg (by simp), if_neg (by decide), if_pos rfl]
    rw [hk2, Option.map_map] at hkt
    simp -dsimp (disch := first | with_reducible assumption | omega | (intro h_; cases h_; done) | (simp only [LN] <;> omega) | (simp only [LF]; done) | (repeat (first | with_reducible assumption | apply Ext.refl | apply Ext.app | (apply Ext.set <;> omega) | (refine Ext.trans ?_ (by assumption))))) only [AX, TY, gV, dstOf, p_makeFunc, p_mapUpdate, mapPut, entsOf, p_lookup, p_extract, p_nilCheck, oneV, p_load, p_store, p_binOp, p_unOp, p_indexAddr, p_index, p_box, p_build, evParts, builtinV, load1, ldc, splice, minds, disj, rcOf, isCall, touchV, idsOf, mapId, touchB, p_buildSlice, buildSliceV, reps, fillV, p_convert, p_slice, evO, p_makeSlice, sid_some, soff_some, Nat.reduceLT, Nat.reduceLeDiff, Nat.reduceEqDiff, Nat.reduceAdd, Nat.reduceMul, Int.reduceBEq, Int.reduceEq, Int.reduceNeg, Int.reduceLT, Int.reduceLE, Int.reduceAdd, Int.reduceSub, Int.reduceMul, Int.reduceToNat, Int.reduceGT, Nat.reduceBEq, Nat.reducePow, Nat.reduceGT, reduceCtorEq, ↓reduceIte, t0, t4, t5, h1, hld0, hw1, h3, hi2', hld1]
    refine (gr.wrB (by omega) (hh := hh ++ [O.cells [V.int IntKind.u8 0] Kd.rw]) (bytes := 1) (by (repeat (first | assumption | apply Ext.refl | apply Ext.app | (apply Ext.set <;> omega) | exact Ext.trans (by assumption) (by assumption) | (refine Ext.trans ?_ (by assumption))))) [0] (snoc_last _ rfl) rfl (eb_w _) (eb_l _) (by simp only [List.length_cons, List.length_nil]; omega) (by simp only [List.length_cons, List.length_nil]; omega)).mono ?_
    rintro r2 h2' ha2
    have ha2' := App.trans ho hle hk ha2
    simp -dsimp (disch := first | with_reducible assumption | omega | (intro h_; cases h_; done) | (simp only [LN] <;> omega) | (simp only [LF]; done) | (repeat (first | with_reducible assumption | apply Ext.refl | apply Ext.app | (apply Ext.set <;> omega) | (refine Ext.trans ?_ (by assumption))))) only [AX, TY, gV, dstOf, p_makeFunc, p_mapUpdate, mapPut, entsOf, p_lookup, p_extract, p_nilCheck, oneV, p_load, p_store, p_binOp, p_unOp, p_indexAddr, p_index, p_box, p_build, evParts, builtinV, load1, ldc, splice, minds, disj, rcOf, isCall, touchV, idsOf, mapId, touchB, p_buildSlice, buildSliceV, reps, fillV, p_convert, p_slice, evO, p_makeSlice, sid_some, soff_some, Nat.reduceLT, Nat.reduceLeDiff, Nat.reduceEqDiff, Nat.reduceAdd, Nat.reduceMul, Int.reduceBEq, Int.reduceEq, Int.reduceNeg, Int.reduceLT, Int.reduceLE, Int.reduceAdd, Int.reduceSub, Int.reduceMul, Int.reduceToNat, Int.reduceGT, Nat.reduceBEq, Nat.reducePow, Nat.reduceGT, reduceCtorEq, ↓reduceIte, t0, t4, t5, hw2]
    refine ⟨m - 2, by omega, i + 2, L ++ [0], ?_⟩
    constructor <;> (try first | assumption | ((repeat (first | assumption | apply Ext.refl | apply Ext.app | (apply Ext.set <;> omega) | exact Ext.trans (by assumption) (by assumption) | (refine Ext.trans ?_ (by assumption)))); done) | (refine Sl.ext (by assumption) ?_; (repeat (first | assumption | apply Ext.refl | apply Ext.app | (apply Ext.set <;> omega) | exact Ext.trans (by assumption) (by assumption) | (refine Ext.trans ?_ (by assumption)))); done) | (simp -dsimp (disch := first | with_reducible assumption | omega | (intro h_; cases h_; done) | (simp only [LN] <;> omega) | (simp only [LF]; done) | (repeat (first | with_reducible assumption | apply Ext.refl | apply Ext.app | (apply Ext.set <;> omega) | (refine Ext.trans ?_ (by assumption))))) only [AX, TY, gV, dstOf, p_makeFunc, p_mapUpdate, mapPut, entsOf, p_lookup, p_extract, p_nilCheck, oneV, p_load, p_store, p_binOp, p_unOp, p_indexAddr, p_index, p_box, p_build, evParts, builtinV, load1, ldc, splice, minds, disj, rcOf, isCall, touchV, idsOf, mapId, touchB, p_buildSlice, buildSliceV, reps, fillV, p_convert, p_slice, evO, p_makeSlice, sid_some, soff_some, Nat.reduceLT, Nat.reduceLeDiff, Nat.reduceEqDiff, Nat.reduceAdd, Nat.reduceMul, Int.reduceBEq, Int.reduceEq, Int.reduceNeg, Int.reduceLT, Int.reduceLE, Int.reduceAdd, Int.reduceSub, Int.reduceMul, Int.reduceToNat, Int.reduceGT, Nat.reduceBEq, Nat.reducePow, Nat.reduceGT, reduceCtorEq, ↓reduceIte, t0, t5, Int.natCast_add, Int.natCast_one, Int.natCast_zero]; try (first | assumption | with_reducible rfl)))
    all_goals first | omega | exact hbl.app (Bt.cons (by decide) Bt.nil) | (simp only [List.length_append, List.length_cons, List.length_nil]; omega) | skip
    all_goals first | (rw [← hkt]; congr 1; funext q; simp; done) | skip
  · have hk2 : keyText (0 :: y :: b.drop (i + 1 + 1)) = none := by rw [keyText, if_neg (by simp), if_neg hy1, if_neg hy2]
    rw [hk2] at hkt
    simp -dsimp (disch := first | with_reducible assumption | omega | (intro h_; cases h_; done) | (simp only [LN] <;> omega) | (simp only [LF]; done) | (repeat (first | with_reducible assumption | apply Ext.refl | apply Ext.app | (apply Ext.set <;> omega) | (refine Ext.trans ?_ (by assumption))))) only [AX, TY, gV, dstOf, p_makeFunc, p_mapUpdate, mapPut, entsOf, p_lookup, p_extract, p_nilCheck, oneV, p_load, p_store, p_binOp, p_unOp, p_indexAddr, p_index, p_box, p_build, evParts, builtinV, load1, ldc, splice, minds, disj, rcOf, isCall, touchV, idsOf, mapId, touchB, p_buildSlice, buildSliceV, reps, fillV, p_convert, p_slice, evO, p_makeSlice, sid_some, soff_some, Nat.reduceLT, Nat.reduceLeDiff, Nat.reduceEqDiff, Nat.reduceAdd, Nat.reduceMul, Int.reduceBEq, Int.reduceEq, Int.reduceNeg, Int.reduceLT, Int.reduceLE, Int.reduceAdd, Int.reduceSub, Int.reduceMul, Int.reduceToNat, Int.reduceGT, Nat.reduceBEq, Nat.reducePow, Nat.reduceGT, reduceCtorEq, ↓reduceIte, t0, t4, t5, h1, hld0, hw1, h3, hi2', hld1, hy1, hy2]
    rw [← hkt]
    exact ⟨eh, rfl⟩
end Go.Proofs.YtngcicclaehpbaaDoorA
namespace Go.Proofs.YtngcicclaehpbaaDoorA
open Go Go.Proofs Go.RowKit
set_option linter.unusedVariables false
set_option linter.unusedSimpArgs false
set_option maxRecDepth 10000
set_option maxHeartbeats 4000000
def rdR (b0 : Nat) (h' : Heap) (o : Option (List Vl)) (r : V) : Prop := match o with
  | some l => ∃ p c oid, r = V.tuple [.slice p l.length c, .bool true] ∧ Gr b0 h' p c oid 3 Vl.enc l ∧ l.all validV = true ∧ ∀ y ∈ l, y.G
  | none => r = V.tuple [.slice none 0 (some 0), .bool false]
structure LDR (h : Heap) (p : Option (Nat × Nat)) (c : Option Nat) (b : List Int) (m : Nat) (τ : Tp) (hh : Heap) (i : Nat) (l : List Vl) : Prop where
  hm : m + i = b.length
  hl : l.length ≤ i
  t0 : τ 0 = .slice p b.length c
  t5 : τ 5 = .int .i64 i
  dec : Dec dec1 b l (b.drop i)
  val : l.all validV = true
  g : ∀ y ∈ l, y.G
  app : App h.length h none 3 Vl.enc l (τ 4) hh
theorem refDecodeKey_ok {h : Heap} {p : Option (Nat × Nat)} {c : Option Nat} {b : List Int} (hr : Rs h p c 1 eb b) (hb : Bt b) (hl : b.length ≤ 1000000) : WR (callE Tryd.prog hk 34 [.slice p b.length c] h) fun r h' => Ext h h' ∧ ∃ o, DecAll dec1 b o ∧ rdR h.length h' o r := by
  have hn := hr.sl.nil'
  have hw0 : IntKind.i64.wrap 0 = 0 := rfl
  have hwa : IntKind.i64.wrap 1 = 1 := rfl
  have hwb : IntKind.i64.wrap 2 = 2 := rfl
  have hwc : IntKind.i64.wrap 3 = 3 := rfl
  refine WR.call (hH := rfl) Tryd.func34 rfl (n := 84) rfl rfl (by simp) ?_
  simp -dsimp (disch := first | with_reducible assumption | omega | (intro h_; cases h_; done) | (simp only [LN] <;> omega) | (simp only [LF]; done) | (repeat (first | with_reducible assumption | apply Ext.refl | apply Ext.app | (apply Ext.set <;> omega) | (refine Ext.trans ?_ (by assumption))))) only [AX, TY, gV, dstOf, p_makeFunc, p_mapUpdate, mapPut, entsOf, p_lookup, p_extract, p_nilCheck, oneV, p_load, p_store, p_binOp, p_unOp, p_indexAddr, p_index, p_box, p_build, evParts, builtinV, load1, ldc, splice, minds, disj, rcOf, isCall, touchV, idsOf, mapId, touchB, p_buildSlice, buildSliceV, reps, fillV, p_convert, p_slice, evO, p_makeSlice, sid_some, soff_some, Nat.reduceLT, Nat.reduceLeDiff, Nat.reduceEqDiff, Nat.reduceAdd, Nat.reduceMul, Int.reduceBEq, Int.reduceEq, Int.reduceNeg, Int.reduceLT, Int.reduceLE, Int.reduceAdd, Int.reduceSub, Int.reduceMul, Int.reduceToNat, Int.reduceGT, Nat.reduceBEq, Nat.reducePow, Nat.reduceGT, reduceCtorEq, ↓reduceIte]
  refine W.loop (fun m τ hh => ∃ i l, LDR h p c b m τ hh i l) ?_ (m := b.length) ?_
  rotate_left
  · refine ⟨0, [], ?_⟩
    constructor <;> (try first | assumption | ((repeat (first | assumption | apply Ext.refl | apply Ext.app | (apply Ext.set <;> omega) | exact Ext.trans (by assumption) (by assumption) | (refine Ext.trans ?_ (by assumption)))); done) | (refine Sl.ext (by assumption) ?_; (repeat (first | assumption | apply Ext.refl | apply Ext.app | (apply Ext.set <;> omega) | exact Ext.trans (by assumption) (by assumption) | (refine Ext.trans ?_ (by assumption)))); done) | (simp -dsimp (disch := first | with_reducible assumption | omega | (intro h_; cases h_; done) | (simp only [LN] <;> omega) | (simp only [LF]; done) | (repeat (first | with_reducible assumption | apply Ext.refl | apply Ext.app | (apply Ext.set <;> omega) | (refine Ext.trans ?_ (by assumption))))) only [AX, TY, gV, dstOf, p_makeFunc, p_mapUpdate, mapPut, entsOf, p_lookup, p_extract, p_nilCheck, oneV, p_load, p_store, p_binOp, p_unOp, p_indexAddr, p_index, p_box, p_build, evParts, builtinV, load1, ldc, splice, minds, disj, rcOf, isCall, touchV, idsOf, mapId, touchB, p_buildSlice, buildSliceV, reps, fillV, p_convert, p_slice, evO, p_makeSlice, sid_some, soff_some, Nat.reduceLT, Nat.reduceLeDiff, Nat.reduceEqDiff, Nat.reduceAdd, Nat.reduceMul, Int.reduceBEq, Int.reduceEq, Int.reduceNeg, Int.reduceLT, Int.reduceLE, Int.reduceAdd, Int.reduceSub, Int.reduceMul, Int.reduceToNat, Int.reduceGT, Nat.reduceBEq, Nat.reducePow, Nat.reduceGT, reduceCtorEq, ↓reduceIte, Int.natCast_add, Int.natCast_one, Int.natCast_zero]; try (first | assumption | with_reducible rfl)))
    all_goals first | exact .nil b | (simp; done) | skip
    exact ⟨some (h.length, 0), some 0, some h.length, rfl, Gr.built (ys := ([] : List Vl)) (snoc_last _ rfl) rfl (Nat.le_refl _) (by simp) (by simp) (by simp) rfl, .inr ⟨_, rfl, Nat.le_refl _⟩, by simp, fun j _ hj => snoc_old _ hj⟩
  rintro m τ hh ⟨i, l, hm, hlen, t0, t5, hdec, hval, hg, ha0⟩
  have eh : Ext h hh := ha0.ext (.refl _) (by simp)
  obtain ⟨p', c', oid', t4, gr, ho, hle, hk⟩ := ha0
  by_cases h1 : (i : Int) < (b.length : Int)
  rotate_left
  · rw [List.drop_of_length_le (by omega)] at hdec
    simp -dsimp (disch := first | with_reducible assumption | omega | (intro h_; cases h_; done) | (simp only [LN] <;> omega) | (simp only [LF]; done) | (repeat (first | with_reducible assumption | apply Ext.refl | apply Ext.app | (apply Ext.set <;> omega) | (refine Ext.trans ?_ (by assumption))))) only [AX, TY, gV, dstOf, p_makeFunc, p_mapUpdate, mapPut, entsOf, p_lookup, p_extract, p_nilCheck, oneV, p_load, p_store, p_binOp, p_unOp, p_indexAddr, p_index, p_box, p_build, evParts, builtinV, load1, ldc, splice, minds, disj, rcOf, isCall, touchV, idsOf, mapId, touchB, p_buildSlice, buildSliceV, reps, fillV, p_convert, p_slice, evO, p_makeSlice, sid_some, soff_some, Nat.reduceLT, Nat.reduceLeDiff, Nat.reduceEqDiff, Nat.reduceAdd, Nat.reduceMul, Int.reduceBEq, Int.reduceEq, Int.reduceNeg, Int.reduceLT, Int.reduceLE, Int.reduceAdd, Int.reduceSub, Int.reduceMul, Int.reduceToNat, Int.reduceGT, Nat.reduceBEq, Nat.reducePow, Nat.reduceGT, reduceCtorEq, ↓reduceIte, t0, t4, t5, h1]
    exact ⟨eh, some l, hdec, p', c', oid', rfl, gr, hval, hg⟩
  have hi : i < b.length := by omega
  have hx := hb _ (List.getElem_mem hi)
  have hdr := List.drop_eq_getElem_cons hi
  have hld0 := fun hh (e : Ext h hh) => hr.sl.load0 (hh := hh) e hi (m := 1) (Nat.le_refl 1)
  generalize b[i] = x at hld0 hdr hx
  simp only [eb] at hld0
  have hT : (b.drop (i + 1)).length = b.length - (i + 1) := List.length_drop
  have hwn : IntKind.i64.wrap ((b.length : Int) - (i : Int)) = ((b.length - i : Nat) : Int) := by rw [IntKind.wrap_i64]; omega
  have hw1 : IntKind.i64.wrap ((i : Int) + 1) = ((i + 1 : Nat) : Int) := by rw [IntKind.wrap_i64]; omega
  by_cases g1 : x = 1
  · subst g1
    by_cases g2 : ((b.length - i : Nat) : Int) < 9
    · have hd : dec1 (b.drop i) = none := by
        rw [hdr]
        show (if 8 ≤ (b.drop (i + 1)).length then _ else _) = _
        rw [if_neg (by omega)]
      simp -dsimp (disch := first | with_reducible assumption | omega | (intro h_; cases h_; done) | (simp only [LN] <;> omega) | (simp only [LF]; done) | (repeat (first | with_reducible assumption | apply Ext.refl | apply Ext.app | (apply Ext.set <;> omega) | (refine Ext.trans ?_ (by assumption))))) only [AX, TY, gV, dstOf, p_makeFunc, p_mapUpdate, mapPut, entsOf, p_lookup, p_extract, p_nilCheck, oneV, p_load, p_store, p_binOp, p_unOp, p_indexAddr, p_index, p_box, p_build, evParts, builtinV, load1, ldc, splice, minds, disj, rcOf, isCall, touchV, idsOf, mapId, touchB, p_buildSlice, buildSliceV, reps, fillV, p_convert, p_slice, evO, p_makeSlice, sid_some, soff_some, Nat.reduceLT, Nat.reduceLeDiff, Nat.reduceEqDiff, Nat.reduceAdd, Nat.reduceMul, Int.reduceBEq, Int.reduceEq, Int.reduceNeg, Int.reduceLT, Int.reduceLE, Int.reduceAdd, Int.reduceSub, Int.reduceMul, Int.reduceToNat, Int.reduceGT, Nat.reduceBEq, Nat.reducePow, Nat.reduceGT, reduceCtorEq, ↓reduceIte, t0, t4, t5, h1, hld0, hwa, hw0, hwn, eq_true g2]
      exact ⟨eh.app _, none, hdec.stuck rfl (by rw [hdr]; simp) (by intro v' t' q; rw [hd] at q; cases q), rfl⟩
    · have hd : dec1 (b.drop i) = some (⟨0, un8 ((b.drop (i + 1)).take 8) - 9223372036854775808, []⟩, b.drop (i + 9)) := by
        rw [hdr]
        show (if 8 ≤ (b.drop (i + 1)).length then _ else _) = _
        rw [if_pos (by omega), List.drop_drop]
      have hw9 : IntKind.i64.wrap ((i : Int) + 9) = ((i + 9 : Nat) : Int) := by rw [IntKind.wrap_i64]; omega
      obtain ⟨p9, c9, hcut9, rs9⟩ := hr.cut (a := i + 1) (b := i + 9) (by omega) (by omega)
      rw [List.drop_take, show i + 9 - (i + 1) = 8 by omega] at rs9
      rw [show i + 9 - (i + 1) = 8 by omega] at hcut9
      simp -dsimp (disch := first | with_reducible assumption | omega | (intro h_; cases h_; done) | (simp only [LN] <;> omega) | (simp only [LF]; done) | (repeat (first | with_reducible assumption | apply Ext.refl | apply Ext.app | (apply Ext.set <;> omega) | (refine Ext.trans ?_ (by assumption))))) only [AX, TY, gV, dstOf, p_makeFunc, p_mapUpdate, mapPut, entsOf, p_lookup, p_extract, p_nilCheck, oneV, p_load, p_store, p_binOp, p_unOp, p_indexAddr, p_index, p_box, p_build, evParts, builtinV, load1, ldc, splice, minds, disj, rcOf, isCall, touchV, idsOf, mapId, touchB, p_buildSlice, buildSliceV, reps, fillV, p_convert, p_slice, evO, p_makeSlice, sid_some, soff_some, Nat.reduceLT, Nat.reduceLeDiff, Nat.reduceEqDiff, Nat.reduceAdd, Nat.reduceMul, Int.reduceBEq, Int.reduceEq, Int.reduceNeg, Int.reduceLT, Int.reduceLE, Int.reduceAdd, Int.reduceSub, Int.reduceMul, Int.reduceToNat, Int.reduceGT, Nat.reduceBEq, Nat.reducePow, Nat.reduceGT, reduceCtorEq, ↓reduceIte, t0, t4, t5, h1, hld0, hwa, hw0, hwn, g2, hw1, hw9, hcut9]
      have ex : Ext hh (hh ++ [O.cells [V.int .i64 0, V.int .i64 0, V.str []] Kd.rw]) := (by (repeat (first | assumption | apply Ext.refl | apply Ext.app | (apply Ext.set <;> omega) | exact Ext.trans (by assumption) (by assumption) | (refine Ext.trans ?_ (by assumption)))))
      refine (refNumber_ok (rs9.sl.ext (eh.trans ex)) ((hb.drop _).take 8) (by rw [List.length_take]; omega)).mono ?_
      rintro _ _ ⟨rfl, rfl⟩
      have eh3 : Ext hh (hh ++ [O.cells (Vl.enc ⟨0, un8 ((b.drop (i + 1)).take 8) - 9223372036854775808, []⟩) Kd.rw]) := (by (repeat (first | assumption | apply Ext.refl | apply Ext.app | (apply Ext.set <;> omega) | exact Ext.trans (by assumption) (by assumption) | (refine Ext.trans ?_ (by assumption)))))
      have gx3 : (hh ++ [O.cells (Vl.enc ⟨0, un8 ((b.drop (i + 1)).take 8) - 9223372036854775808, []⟩) Kd.rw])[hh.length]? = some (.cells (Vl.enc ⟨0, un8 ((b.drop (i + 1)).take 8) - 9223372036854775808, []⟩) .rw) := snoc_last _ rfl
      simp only [Vl.enc] at eh3 gx3
      simp -dsimp (disch := first | with_reducible assumption | omega | (intro h_; cases h_; done) | (simp only [LN] <;> omega) | (simp only [LF]; done) | (repeat (first | with_reducible assumption | apply Ext.refl | apply Ext.app | (apply Ext.set <;> omega) | (refine Ext.trans ?_ (by assumption))))) only [AX, TY, gV, dstOf, p_makeFunc, p_mapUpdate, mapPut, entsOf, p_lookup, p_extract, p_nilCheck, oneV, p_load, p_store, p_binOp, p_unOp, p_indexAddr, p_index, p_box, p_build, evParts, builtinV, load1, ldc, splice, minds, disj, rcOf, isCall, touchV, idsOf, mapId, touchB, p_buildSlice, buildSliceV, reps, fillV, p_convert, p_slice, evO, p_makeSlice, sid_some, soff_some, Nat.reduceLT, Nat.reduceLeDiff, Nat.reduceEqDiff, Nat.reduceAdd, Nat.reduceMul, Int.reduceBEq, Int.reduceEq, Int.reduceNeg, Int.reduceLT, Int.reduceLE, Int.reduceAdd, Int.reduceSub, Int.reduceMul, Int.reduceToNat, Int.reduceGT, Nat.reduceBEq, Nat.reducePow, Nat.reduceGT, reduceCtorEq, ↓reduceIte, t0, t4, t5, hw9]
      skip
      have e03 := eh.trans eh3
      refine (refValid_ok ⟨0, un8 ((b.drop (i + 1)).take 8) - 9223372036854775808, []⟩).mono ?_
      rintro _ h4 ⟨e4, rfl⟩
      have gx4 := e4 _ _ gx3
      have e04 := e03.trans e4
      cases hv : validV ⟨0, un8 ((b.drop (i + 1)).take 8) - 9223372036854775808, []⟩
      · simp -dsimp (disch := first | with_reducible assumption | omega | (intro h_; cases h_; done) | (simp only [LN] <;> omega) | (simp only [LF]; done) | (repeat (first | with_reducible assumption | apply Ext.refl | apply Ext.app | (apply Ext.set <;> omega) | (refine Ext.trans ?_ (by assumption))))) only [AX, TY, gV, dstOf, p_makeFunc, p_mapUpdate, mapPut, entsOf, p_lookup, p_extract, p_nilCheck, oneV, p_load, p_store, p_binOp, p_unOp, p_indexAddr, p_index, p_box, p_build, evParts, builtinV, load1, ldc, splice, minds, disj, rcOf, isCall, touchV, idsOf, mapId, touchB, p_buildSlice, buildSliceV, reps, fillV, p_convert, p_slice, evO, p_makeSlice, sid_some, soff_some, Nat.reduceLT, Nat.reduceLeDiff, Nat.reduceEqDiff, Nat.reduceAdd, Nat.reduceMul, Int.reduceBEq, Int.reduceEq, Int.reduceNeg, Int.reduceLT, Int.reduceLE, Int.reduceAdd, Int.reduceSub, Int.reduceMul, Int.reduceToNat, Int.reduceGT, Nat.reduceBEq, Nat.reducePow, Nat.reduceGT, reduceCtorEq, ↓reduceIte, t0]
        exact ⟨e04, none, hdec.stuck rfl (by rw [hdr]; simp) (by intro v' t' q; rw [hd] at q; cases q; exact hv), rfl⟩
      · have eh4 := eh3.trans e4
        have gr4 := gr.ext eh4
        have hle4 := eh4.le
        simp -dsimp (disch := first | with_reducible assumption | omega | (intro h_; cases h_; done) | (simp only [LN] <;> omega) | (simp only [LF]; done) | (repeat (first | with_reducible assumption | apply Ext.refl | apply Ext.app | (apply Ext.set <;> omega) | (refine Ext.trans ?_ (by assumption))))) only [AX, TY, gV, dstOf, p_makeFunc, p_mapUpdate, mapPut, entsOf, p_lookup, p_extract, p_nilCheck, oneV, p_load, p_store, p_binOp, p_unOp, p_indexAddr, p_index, p_box, p_build, evParts, builtinV, load1, ldc, splice, minds, disj, rcOf, isCall, touchV, idsOf, mapId, touchB, p_buildSlice, buildSliceV, reps, fillV, p_convert, p_slice, evO, p_makeSlice, sid_some, soff_some, Nat.reduceLT, Nat.reduceLeDiff, Nat.reduceEqDiff, Nat.reduceAdd, Nat.reduceMul, Int.reduceBEq, Int.reduceEq, Int.reduceNeg, Int.reduceLT, Int.reduceLE, Int.reduceAdd, Int.reduceSub, Int.reduceMul, Int.reduceToNat, Int.reduceGT, Nat.reduceBEq, Nat.reducePow, Nat.reduceGT, reduceCtorEq, ↓reduceIte, t0, t4, t5, loadN_fact gx4]
        refine (gr4.wrB (by omega) (hh := h4 ++ [O.cells (Vl.enc ⟨0, un8 ((b.drop (i + 1)).take 8) - 9223372036854775808, []⟩) Kd.rw]) (q := h4.length) (n := 1) (vc := some 1) (bytes := 32) (by (repeat (first | assumption | apply Ext.refl | apply Ext.app | (apply Ext.set <;> omega) | exact Ext.trans (by assumption) (by assumption) | (refine Ext.trans ?_ (by assumption))))) [⟨0, un8 ((b.drop (i + 1)).take 8) - 9223372036854775808, []⟩] (snoc_last _ rfl) rfl (vl_w _) (vl_l _) (by simp only [List.length_cons, List.length_nil]; omega) (by simp only [List.length_cons, List.length_nil]; omega)).mono ?_
        intro r5 h5 ha5
        have ha5' := App.trans ho hle hk (App.base eh4 ha5)
        have hvG := (dec1_G (hb.drop i) (by rw [List.length_drop]; omega) hd).1
        simp -dsimp (disch := first | with_reducible assumption | omega | (intro h_; cases h_; done) | (simp only [LN] <;> omega) | (simp only [LF]; done) | (repeat (first | with_reducible assumption | apply Ext.refl | apply Ext.app | (apply Ext.set <;> omega) | (refine Ext.trans ?_ (by assumption))))) only [AX, TY, gV, dstOf, p_makeFunc, p_mapUpdate, mapPut, entsOf, p_lookup, p_extract, p_nilCheck, oneV, p_load, p_store, p_binOp, p_unOp, p_indexAddr, p_index, p_box, p_build, evParts, builtinV, load1, ldc, splice, minds, disj, rcOf, isCall, touchV, idsOf, mapId, touchB, p_buildSlice, buildSliceV, reps, fillV, p_convert, p_slice, evO, p_makeSlice, sid_some, soff_some, Nat.reduceLT, Nat.reduceLeDiff, Nat.reduceEqDiff, Nat.reduceAdd, Nat.reduceMul, Int.reduceBEq, Int.reduceEq, Int.reduceNeg, Int.reduceLT, Int.reduceLE, Int.reduceAdd, Int.reduceSub, Int.reduceMul, Int.reduceToNat, Int.reduceGT, Nat.reduceBEq, Nat.reducePow, Nat.reduceGT, reduceCtorEq, ↓reduceIte, t0, t4, t5]
        refine ⟨m - 9, by omega, i + 9, l ++ [⟨0, un8 ((b.drop (i + 1)).take 8) - 9223372036854775808, []⟩], ?_⟩
        constructor <;> (try first | assumption | ((repeat (first | assumption | apply Ext.refl | apply Ext.app | (apply Ext.set <;> omega) | exact Ext.trans (by assumption) (by assumption) | (refine Ext.trans ?_ (by assumption)))); done) | (refine Sl.ext (by assumption) ?_; (repeat (first | assumption | apply Ext.refl | apply Ext.app | (apply Ext.set <;> omega) | exact Ext.trans (by assumption) (by assumption) | (refine Ext.trans ?_ (by assumption)))); done) | (simp -dsimp (disch := first | with_reducible assumption | omega | (intro h_; cases h_; done) | (simp only [LN] <;> omega) | (simp only [LF]; done) | (repeat (first | with_reducible assumption | apply Ext.refl | apply Ext.app | (apply Ext.set <;> omega) | (refine Ext.trans ?_ (by assumption))))) only [AX, TY, gV, dstOf, p_makeFunc, p_mapUpdate, mapPut, entsOf, p_lookup, p_extract, p_nilCheck, oneV, p_load, p_store, p_binOp, p_unOp, p_indexAddr, p_index, p_box, p_build, evParts, builtinV, load1, ldc, splice, minds, disj, rcOf, isCall, touchV, idsOf, mapId, touchB, p_buildSlice, buildSliceV, reps, fillV, p_convert, p_slice, evO, p_makeSlice, sid_some, soff_some, Nat.reduceLT, Nat.reduceLeDiff, Nat.reduceEqDiff, Nat.reduceAdd, Nat.reduceMul, Int.reduceBEq, Int.reduceEq, Int.reduceNeg, Int.reduceLT, Int.reduceLE, Int.reduceAdd, Int.reduceSub, Int.reduceMul, Int.reduceToNat, Int.reduceGT, Nat.reduceBEq, Nat.reducePow, Nat.reduceGT, reduceCtorEq, ↓reduceIte, t0, t5, Int.natCast_add, Int.natCast_one, Int.natCast_zero]; try (first | assumption | with_reducible rfl)))
        all_goals first | omega | exact hdec.snoc hd hv | exact snoc_G hg hvG | (simp only [List.length_append, List.length_cons, List.length_nil]; omega) | (rw [List.all_append, hval]; simp [hv]; done) | skip
  by_cases g2 : x = 2
  · subst g2
    obtain ⟨p9, c9, hcut9, rs9⟩ := hr.lo (a := i + 1) (by omega)
    rw [← hT] at hcut9
    have ex : Ext hh (hh ++ [O.cells [V.int .i64 1, V.int .i64 0, V.str []] Kd.rw]) := (by (repeat (first | assumption | apply Ext.refl | apply Ext.app | (apply Ext.set <;> omega) | exact Ext.trans (by assumption) (by assumption) | (refine Ext.trans ?_ (by assumption)))))
    have hrt := refText_ok (c := c9) (h := hh ++ [O.cells [V.int .i64 1, V.int .i64 0, V.str []] Kd.rw]) (rs9.sl.ext (eh.trans ex)) (hb.drop _) (by omega)
    simp -dsimp (disch := first | with_reducible assumption | omega | (intro h_; cases h_; done) | (simp only [LN] <;> omega) | (simp only [LF]; done) | (repeat (first | with_reducible assumption | apply Ext.refl | apply Ext.app | (apply Ext.set <;> omega) | (refine Ext.trans ?_ (by assumption))))) only [AX, TY, gV, dstOf, p_makeFunc, p_mapUpdate, mapPut, entsOf, p_lookup, p_extract, p_nilCheck, oneV, p_load, p_store, p_binOp, p_unOp, p_indexAddr, p_index, p_box, p_build, evParts, builtinV, load1, ldc, splice, minds, disj, rcOf, isCall, touchV, idsOf, mapId, touchB, p_buildSlice, buildSliceV, reps, fillV, p_convert, p_slice, evO, p_makeSlice, sid_some, soff_some, Nat.reduceLT, Nat.reduceLeDiff, Nat.reduceEqDiff, Nat.reduceAdd, Nat.reduceMul, Int.reduceBEq, Int.reduceEq, Int.reduceNeg, Int.reduceLT, Int.reduceLE, Int.reduceAdd, Int.reduceSub, Int.reduceMul, Int.reduceToNat, Int.reduceGT, Nat.reduceBEq, Nat.reducePow, Nat.reduceGT, reduceCtorEq, ↓reduceIte, t0, t4, t5, h1, hld0, hwa, hwb, hw1, hcut9]
    refine hrt.mono ?_
    rintro _ h2 ⟨e2, rfl⟩
    have gx2 : h2[hh.length]? = _ := e2 _ _ (snoc_last _ rfl)
    have hlt2 := lt_of_some gx2
    have eh2 : Ext hh h2 := Ext.trans ex e2
    have hst := fun s => storeN_of (off := 2) (vs := [V.str s]) gx2 (by simp) (by simp) rfl
    have hd0 : dec1 (b.drop i) = (keyText (b.drop (i + 1))).map fun q => (⟨1, 0, q.1⟩, q.2) := by rw [hdr]; rfl
    cases hkt : keyText (b.drop (i + 1)) with
    | none =>
      have hd : dec1 (b.drop i) = none := by rw [hd0, hkt]; rfl
      have hR : rtR (b.drop (i + 1)).length none = V.tuple [.str [], .int .i64 (-1)] := rfl
      simp -dsimp (disch := first | with_reducible assumption | omega | (intro h_; cases h_; done) | (simp only [LN] <;> omega) | (simp only [LF]; done) | (repeat (first | with_reducible assumption | apply Ext.refl | apply Ext.app | (apply Ext.set <;> omega) | (refine Ext.trans ?_ (by assumption))))) only [AX, TY, gV, dstOf, p_makeFunc, p_mapUpdate, mapPut, entsOf, p_lookup, p_extract, p_nilCheck, oneV, p_load, p_store, p_binOp, p_unOp, p_indexAddr, p_index, p_box, p_build, evParts, builtinV, load1, ldc, splice, minds, disj, rcOf, isCall, touchV, idsOf, mapId, touchB, p_buildSlice, buildSliceV, reps, fillV, p_convert, p_slice, evO, p_makeSlice, sid_some, soff_some, Nat.reduceLT, Nat.reduceLeDiff, Nat.reduceEqDiff, Nat.reduceAdd, Nat.reduceMul, Int.reduceBEq, Int.reduceEq, Int.reduceNeg, Int.reduceLT, Int.reduceLE, Int.reduceAdd, Int.reduceSub, Int.reduceMul, Int.reduceToNat, Int.reduceGT, Nat.reduceBEq, Nat.reducePow, Nat.reduceGT, reduceCtorEq, ↓reduceIte, t0, t4, t5, hR]
      exact ⟨eh.trans eh2, none, hdec.stuck rfl (by rw [hdr]; simp) (by intro v' t' q; rw [hd] at q; cases q), rfl⟩
    | some q =>
      obtain ⟨s, r⟩ := q
      obtain ⟨k1, k2, k3⟩ := keyText_parts (hb.drop _) hkt
      have hsuf := esc_keyText _ hkt
      have hrl : r.length + 2 ≤ (b.drop (i + 1)).length := by rw [hsuf]; simp
      have hR : rtR (b.drop (i + 1)).length (some (s, r)) = V.tuple [.str s, .int .i64 (((b.drop (i + 1)).length - r.length : Nat) : Int)] := rfl
      generalize hk9 : (b.drop (i + 1)).length - r.length = k at hR
      have hkk : 2 ≤ k ∧ i + 1 + k ≤ b.length := by omega
      have hrr : r = b.drop (i + (1 + k)) := by
        have h9 : (b.drop (i + 1)).drop k = r := by
          rw [hsuf]
          have : k = (esc s ++ [0, 1]).length := by
            rw [← hk9, hsuf]; simp; omega
          rw [this, show esc s ++ 0 :: 1 :: r = (esc s ++ [0, 1]) ++ r by simp, List.drop_left]
        rw [← h9, List.drop_drop]; congr 1 <;> omega
      have hd : dec1 (b.drop i) = some (⟨1, 0, s⟩, b.drop (i + (1 + k))) := by rw [hd0, hkt, hrr]; rfl
      have hkn : ¬ (k : Int) < 0 := by omega
      have hw8 : IntKind.i64.wrap (1 + (k : Int)) = ((1 + k : Nat) : Int) := by rw [IntKind.wrap_i64]; omega
      have hw9 : IntKind.i64.wrap ((i : Int) + ((1 + k : Nat) : Int)) = ((i + (1 + k) : Nat) : Int) := by rw [IntKind.wrap_i64]; omega
      have eh3 : Ext hh (h2.set hh.length (O.cells (Vl.enc ⟨1, 0, s⟩) Kd.rw)) := Ext.set eh2 (Nat.le_refl _) _
      have gx3 : (h2.set hh.length (O.cells (Vl.enc ⟨1, 0, s⟩) Kd.rw))[hh.length]? = some (.cells (Vl.enc ⟨1, 0, s⟩) .rw) := set_same _ hlt2
      simp only [Vl.enc] at eh3 gx3
      simp -dsimp (disch := first | with_reducible assumption | omega | (intro h_; cases h_; done) | (simp only [LN] <;> omega) | (simp only [LF]; done) | (repeat (first | with_reducible assumption | apply Ext.refl | apply Ext.app | (apply Ext.set <;> omega) | (refine Ext.trans ?_ (by assumption))))) only [AX, TY, gV, dstOf, p_makeFunc, p_mapUpdate, mapPut, entsOf, p_lookup, p_extract, p_nilCheck, oneV, p_load, p_store, p_binOp, p_unOp, p_indexAddr, p_index, p_box, p_build, evParts, builtinV, load1, ldc, splice, minds, disj, rcOf, isCall, touchV, idsOf, mapId, touchB, p_buildSlice, buildSliceV, reps, fillV, p_convert, p_slice, evO, p_makeSlice, sid_some, soff_some, Nat.reduceLT, Nat.reduceLeDiff, Nat.reduceEqDiff, Nat.reduceAdd, Nat.reduceMul, Int.reduceBEq, Int.reduceEq, Int.reduceNeg, Int.reduceLT, Int.reduceLE, Int.reduceAdd, Int.reduceSub, Int.reduceMul, Int.reduceToNat, Int.reduceGT, Nat.reduceBEq, Nat.reducePow, Nat.reduceGT, reduceCtorEq, ↓reduceIte, t0, t4, t5, hR, hkn, hst, hw8, hw9, loadN_fact gx3]
      skip
      have e03 := eh.trans eh3
      refine (refValid_ok ⟨1, 0, s⟩).mono ?_
      rintro _ h4 ⟨e4, rfl⟩
      have gx4 := e4 _ _ gx3
      have e04 := e03.trans e4
      cases hv : validV ⟨1, 0, s⟩
      · simp -dsimp (disch := first | with_reducible assumption | omega | (intro h_; cases h_; done) | (simp only [LN] <;> omega) | (simp only [LF]; done) | (repeat (first | with_reducible assumption | apply Ext.refl | apply Ext.app | (apply Ext.set <;> omega) | (refine Ext.trans ?_ (by assumption))))) only [AX, TY, gV, dstOf, p_makeFunc, p_mapUpdate, mapPut, entsOf, p_lookup, p_extract, p_nilCheck, oneV, p_load, p_store, p_binOp, p_unOp, p_indexAddr, p_index, p_box, p_build, evParts, builtinV, load1, ldc, splice, minds, disj, rcOf, isCall, touchV, idsOf, mapId, touchB, p_buildSlice, buildSliceV, reps, fillV, p_convert, p_slice, evO, p_makeSlice, sid_some, soff_some, Nat.reduceLT, Nat.reduceLeDiff, Nat.reduceEqDiff, Nat.reduceAdd, Nat.reduceMul, Int.reduceBEq, Int.reduceEq, Int.reduceNeg, Int.reduceLT, Int.reduceLE, Int.reduceAdd, Int.reduceSub, Int.reduceMul, Int.reduceToNat, Int.reduceGT, Nat.reduceBEq, Nat.reducePow, Nat.reduceGT, reduceCtorEq, ↓reduceIte, t0]
        exact ⟨e04, none, hdec.stuck rfl (by rw [hdr]; simp) (by intro v' t' q; rw [hd] at q; cases q; exact hv), rfl⟩
      · have eh4 := eh3.trans e4
        have gr4 := gr.ext eh4
        have hle4 := eh4.le
        simp -dsimp (disch := first | with_reducible assumption | omega | (intro h_; cases h_; done) | (simp only [LN] <;> omega) | (simp only [LF]; done) | (repeat (first | with_reducible assumption | apply Ext.refl | apply Ext.app | (apply Ext.set <;> omega) | (refine Ext.trans ?_ (by assumption))))) only [AX, TY, gV, dstOf, p_makeFunc, p_mapUpdate, mapPut, entsOf, p_lookup, p_extract, p_nilCheck, oneV, p_load, p_store, p_binOp, p_unOp, p_indexAddr, p_index, p_box, p_build, evParts, builtinV, load1, ldc, splice, minds, disj, rcOf, isCall, touchV, idsOf, mapId, touchB, p_buildSlice, buildSliceV, reps, fillV, p_convert, p_slice, evO, p_makeSlice, sid_some, soff_some, Nat.reduceLT, Nat.reduceLeDiff, Nat.reduceEqDiff, Nat.reduceAdd, Nat.reduceMul, Int.reduceBEq, Int.reduceEq, Int.reduceNeg, Int.reduceLT, Int.reduceLE, Int.reduceAdd, Int.reduceSub, Int.reduceMul, Int.reduceToNat, Int.reduceGT, Nat.reduceBEq, Nat.reducePow, Nat.reduceGT, reduceCtorEq, ↓reduceIte, t0, t4, t5, loadN_fact gx4]
        refine (gr4.wrB (by omega) (hh := h4 ++ [O.cells (Vl.enc ⟨1, 0, s⟩) Kd.rw]) (q := h4.length) (n := 1) (vc := some 1) (bytes := 32) (by (repeat (first | assumption | apply Ext.refl | apply Ext.app | (apply Ext.set <;> omega) | exact Ext.trans (by assumption) (by assumption) | (refine Ext.trans ?_ (by assumption))))) [⟨1, 0, s⟩] (snoc_last _ rfl) rfl (vl_w _) (vl_l _) (by simp only [List.length_cons, List.length_nil]; omega) (by simp only [List.length_cons, List.length_nil]; omega)).mono ?_
        intro r5 h5 ha5
        have ha5' := App.trans ho hle hk (App.base eh4 ha5)
        have hvG := (dec1_G (hb.drop i) (by rw [List.length_drop]; omega) hd).1
        simp -dsimp (disch := first | with_reducible assumption | omega | (intro h_; cases h_; done) | (simp only [LN] <;> omega) | (simp only [LF]; done) | (repeat (first | with_reducible assumption | apply Ext.refl | apply Ext.app | (apply Ext.set <;> omega) | (refine Ext.trans ?_ (by assumption))))) only [AX, TY, gV, dstOf, p_makeFunc, p_mapUpdate, mapPut, entsOf, p_lookup, p_extract, p_nilCheck, oneV, p_load, p_store, p_binOp, p_unOp, p_indexAddr, p_index, p_box, p_build, evParts, builtinV, load1, ldc, splice, minds, disj, rcOf, isCall, touchV, idsOf, mapId, touchB, p_buildSlice, buildSliceV, reps, fillV, p_convert, p_slice, evO, p_makeSlice, sid_some, soff_some, Nat.reduceLT, Nat.reduceLeDiff, Nat.reduceEqDiff, Nat.reduceAdd, Nat.reduceMul, Int.reduceBEq, Int.reduceEq, Int.reduceNeg, Int.reduceLT, Int.reduceLE, Int.reduceAdd, Int.reduceSub, Int.reduceMul, Int.reduceToNat, Int.reduceGT, Nat.reduceBEq, Nat.reducePow, Nat.reduceGT, reduceCtorEq, ↓reduceIte, t0, t4, t5]
        refine ⟨m - (1 + k), by omega, i + (1 + k), l ++ [⟨1, 0, s⟩], ?_⟩
        constructor <;> (try first | assumption | ((repeat (first | assumption | apply Ext.refl | apply Ext.app | (apply Ext.set <;> omega) | exact Ext.trans (by assumption) (by assumption) | (refine Ext.trans ?_ (by assumption)))); done) | (refine Sl.ext (by assumption) ?_; (repeat (first | assumption | apply Ext.refl | apply Ext.app | (apply Ext.set <;> omega) | exact Ext.trans (by assumption) (by assumption) | (refine Ext.trans ?_ (by assumption)))); done) | (simp -dsimp (disch := first | with_reducible assumption | omega | (intro h_; cases h_; done) | (simp only [LN] <;> omega) | (simp only [LF]; done) | (repeat (first | with_reducible assumption | apply Ext.refl | apply Ext.app | (apply Ext.set <;> omega) | (refine Ext.trans ?_ (by assumption))))) only [AX, TY, gV, dstOf, p_makeFunc, p_mapUpdate, mapPut, entsOf, p_lookup, p_extract, p_nilCheck, oneV, p_load, p_store, p_binOp, p_unOp, p_indexAddr, p_index, p_box, p_build, evParts, builtinV, load1, ldc, splice, minds, disj, rcOf, isCall, touchV, idsOf, mapId, touchB, p_buildSlice, buildSliceV, reps, fillV, p_convert, p_slice, evO, p_makeSlice, sid_some, soff_some, Nat.reduceLT, Nat.reduceLeDiff, Nat.reduceEqDiff, Nat.reduceAdd, Nat.reduceMul, Int.reduceBEq, Int.reduceEq, Int.reduceNeg, Int.reduceLT, Int.reduceLE, Int.reduceAdd, Int.reduceSub, Int.reduceMul, Int.reduceToNat, Int.reduceGT, Nat.reduceBEq, Nat.reducePow, Nat.reduceGT, reduceCtorEq, ↓reduceIte, t0, t5, Int.natCast_add, Int.natCast_one, Int.natCast_zero]; try (first | assumption | with_reducible rfl)))
        all_goals first | omega | exact hdec.snoc hd hv | exact snoc_G hg hvG | (simp only [List.length_append, List.length_cons, List.length_nil]; omega) | (rw [List.all_append, hval]; simp [hv]; done) | skip
  by_cases g3 : x = 3
  · subst g3
    by_cases g4 : ((b.length - i : Nat) : Int) < 2
    · have hd : dec1 (b.drop i) = none := by
        rw [hdr, List.drop_of_length_le (by omega)]; rfl
      simp -dsimp (disch := first | with_reducible assumption | omega | (intro h_; cases h_; done) | (simp only [LN] <;> omega) | (simp only [LF]; done) | (repeat (first | with_reducible assumption | apply Ext.refl | apply Ext.app | (apply Ext.set <;> omega) | (refine Ext.trans ?_ (by assumption))))) only [AX, TY, gV, dstOf, p_makeFunc, p_mapUpdate, mapPut, entsOf, p_lookup, p_extract, p_nilCheck, oneV, p_load, p_store, p_binOp, p_unOp, p_indexAddr, p_index, p_box, p_build, evParts, builtinV, load1, ldc, splice, minds, disj, rcOf, isCall, touchV, idsOf, mapId, touchB, p_buildSlice, buildSliceV, reps, fillV, p_convert, p_slice, evO, p_makeSlice, sid_some, soff_some, Nat.reduceLT, Nat.reduceLeDiff, Nat.reduceEqDiff, Nat.reduceAdd, Nat.reduceMul, Int.reduceBEq, Int.reduceEq, Int.reduceNeg, Int.reduceLT, Int.reduceLE, Int.reduceAdd, Int.reduceSub, Int.reduceMul, Int.reduceToNat, Int.reduceGT, Nat.reduceBEq, Nat.reducePow, Nat.reduceGT, reduceCtorEq, ↓reduceIte, t0, t4, t5, h1, hld0, hwc, hwb, hwn, eq_true g4]
      exact ⟨eh.app _, none, hdec.stuck rfl (by rw [hdr]; simp) (by intro v' t' q; rw [hd] at q; cases q), rfl⟩
    · have hi2 : i + 1 < b.length := by omega
      have hi2' : ((i + 1 : Nat) : Int) < (b.length : Int) := by omega
      have hy := hb _ (List.getElem_mem hi2)
      have hdr2 := List.drop_eq_getElem_cons hi2
      have hld1 := fun hh (e : Ext h hh) => hr.sl.load0 (hh := hh) e hi2 (m := 1) (Nat.le_refl 1)
      generalize b[i + 1] = y at hld1 hdr2 hy
      simp only [eb] at hld1
      have hd : dec1 (b.drop i) = some (⟨2, y, []⟩, b.drop (i + 2)) := by rw [hdr, hdr2]; rfl
      have hw9 : IntKind.i64.wrap ((i : Int) + 2) = ((i + 2 : Nat) : Int) := by rw [IntKind.wrap_i64]; omega
      have hwy : IntKind.i64.wrap y = y := by rw [IntKind.wrap_i64]; omega
      have eh3 : Ext hh (hh ++ [O.cells (Vl.enc ⟨2, y, []⟩) Kd.rw]) := (by (repeat (first | assumption | apply Ext.refl | apply Ext.app | (apply Ext.set <;> omega) | exact Ext.trans (by assumption) (by assumption) | (refine Ext.trans ?_ (by assumption)))))
      have gx3 : (hh ++ [O.cells (Vl.enc ⟨2, y, []⟩) Kd.rw])[hh.length]? = some (.cells (Vl.enc ⟨2, y, []⟩) .rw) := snoc_last _ rfl
      simp only [Vl.enc] at eh3 gx3
      simp -dsimp (disch := first | with_reducible assumption | omega | (intro h_; cases h_; done) | (simp only [LN] <;> omega) | (simp only [LF]; done) | (repeat (first | with_reducible assumption | apply Ext.refl | apply Ext.app | (apply Ext.set <;> omega) | (refine Ext.trans ?_ (by assumption))))) only [AX, TY, gV, dstOf, p_makeFunc, p_mapUpdate, mapPut, entsOf, p_lookup, p_extract, p_nilCheck, oneV, p_load, p_store, p_binOp, p_unOp, p_indexAddr, p_index, p_box, p_build, evParts, builtinV, load1, ldc, splice, minds, disj, rcOf, isCall, touchV, idsOf, mapId, touchB, p_buildSlice, buildSliceV, reps, fillV, p_convert, p_slice, evO, p_makeSlice, sid_some, soff_some, Nat.reduceLT, Nat.reduceLeDiff, Nat.reduceEqDiff, Nat.reduceAdd, Nat.reduceMul, Int.reduceBEq, Int.reduceEq, Int.reduceNeg, Int.reduceLT, Int.reduceLE, Int.reduceAdd, Int.reduceSub, Int.reduceMul, Int.reduceToNat, Int.reduceGT, Nat.reduceBEq, Nat.reducePow, Nat.reduceGT, reduceCtorEq, ↓reduceIte, t0, t4, t5, h1, hld0, hwc, hwb, hwn, g4, hw1, hw9, hi2', hld1, hwy]
      skip
      have e03 := eh.trans eh3
      refine (refValid_ok ⟨2, y, []⟩).mono ?_
      rintro _ h4 ⟨e4, rfl⟩
      have gx4 := e4 _ _ gx3
      have e04 := e03.trans e4
      cases hv : validV ⟨2, y, []⟩
      · simp -dsimp (disch := first | with_reducible assumption | omega | (intro h_; cases h_; done) | (simp only [LN] <;> omega) | (simp only [LF]; done) | (repeat (first | with_reducible assumption | apply Ext.refl | apply Ext.app | (apply Ext.set <;> omega) | (refine Ext.trans ?_ (by assumption))))) only [AX, TY, gV, dstOf, p_makeFunc, p_mapUpdate, mapPut, entsOf, p_lookup, p_extract, p_nilCheck, oneV, p_load, p_store, p_binOp, p_unOp, p_indexAddr, p_index, p_box, p_build, evParts, builtinV, load1, ldc, splice, minds, disj, rcOf, isCall, touchV, idsOf, mapId, touchB, p_buildSlice, buildSliceV, reps, fillV, p_convert, p_slice, evO, p_makeSlice, sid_some, soff_some, Nat.reduceLT, Nat.reduceLeDiff, Nat.reduceEqDiff, Nat.reduceAdd, Nat.reduceMul, Int.reduceBEq, Int.reduceEq, Int.reduceNeg, Int.reduceLT, Int.reduceLE, Int.reduceAdd, Int.reduceSub, Int.reduceMul, Int.reduceToNat, Int.reduceGT, Nat.reduceBEq, Nat.reducePow, Nat.reduceGT, reduceCtorEq, ↓reduceIte, t0]
        exact ⟨e04, none, hdec.stuck rfl (by rw [hdr]; simp) (by intro v' t' q; rw [hd] at q; cases q; exact hv), rfl⟩
      · have eh4 := eh3.trans e4
        have gr4 := gr.ext eh4
        have hle4 := eh4.le
        simp -dsimp (disch := first | with_reducible assumption | omega | (intro h_; cases h_; done) | (simp only [LN] <;> omega) | (simp only [LF]; done) | (repeat (first | with_reducible assumption | apply Ext.refl | apply Ext.app | (apply Ext.set <;> omega) | (refine Ext.trans ?_ (by assumption))))) only [AX, TY, gV, dstOf, p_makeFunc, p_mapUpdate, mapPut, entsOf, p_lookup, p_extract, p_nilCheck, oneV, p_load, p_store, p_binOp, p_unOp, p_indexAddr, p_index, p_box, p_build, evParts, builtinV, load1, ldc, splice, minds, disj, rcOf, isCall, touchV, idsOf, mapId, touchB, p_buildSlice, buildSliceV, reps, fillV, p_convert, p_slice, evO, p_makeSlice, sid_some, soff_some, Nat.reduceLT, Nat.reduceLeDiff, Nat.reduceEqDiff, Nat.reduceAdd, Nat.reduceMul, Int.reduceBEq, Int.reduceEq, Int.reduceNeg, Int.reduceLT, Int.reduceLE, Int.reduceAdd, Int.reduceSub, Int.reduceMul, Int.reduceToNat, Int.reduceGT, Nat.reduceBEq, Nat.reducePow, Nat.reduceGT, reduceCtorEq, ↓reduceIte, t0, t4, t5, loadN_fact gx4]
        refine (gr4.wrB (by omega) (hh := h4 ++ [O.cells (Vl.enc ⟨2, y, []⟩) Kd.rw]) (q := h4.length) (n := 1) (vc := some 1) (bytes := 32) (by (repeat (first | assumption | apply Ext.refl | apply Ext.app | (apply Ext.set <;> omega) | exact Ext.trans (by assumption) (by assumption) | (refine Ext.trans ?_ (by assumption))))) [⟨2, y, []⟩] (snoc_last _ rfl) rfl (vl_w _) (vl_l _) (by simp only [List.length_cons, List.length_nil]; omega) (by simp only [List.length_cons, List.length_nil]; omega)).mono ?_
        intro r5 h5 ha5
        have ha5' := App.trans ho hle hk (App.base eh4 ha5)
        have hvG := (dec1_G (hb.drop i) (by rw [List.length_drop]; omega) hd).1
        simp -dsimp (disch := first | with_reducible assumption | omega | (intro h_; cases h_; done) | (simp only [LN] <;> omega) | (simp only [LF]; done) | (repeat (first | with_reducible assumption | apply Ext.refl | apply Ext.app | (apply Ext.set <;> omega) | (refine Ext.trans ?_ (by assumption))))) only [AX, TY, gV, dstOf, p_makeFunc, p_mapUpdate, mapPut, entsOf, p_lookup, p_extract, p_nilCheck, oneV, p_load, p_store, p_binOp, p_unOp, p_indexAddr, p_index, p_box, p_build, evParts, builtinV, load1, ldc, splice, minds, disj, rcOf, isCall, touchV, idsOf, mapId, touchB, p_buildSlice, buildSliceV, reps, fillV, p_convert, p_slice, evO, p_makeSlice, sid_some, soff_some, Nat.reduceLT, Nat.reduceLeDiff, Nat.reduceEqDiff, Nat.reduceAdd, Nat.reduceMul, Int.reduceBEq, Int.reduceEq, Int.reduceNeg, Int.reduceLT, Int.reduceLE, Int.reduceAdd, Int.reduceSub, Int.reduceMul, Int.reduceToNat, Int.reduceGT, Nat.reduceBEq, Nat.reducePow, Nat.reduceGT, reduceCtorEq, ↓reduceIte, t0, t4, t5]
        refine ⟨m - 2, by omega, i + 2, l ++ [⟨2, y, []⟩], ?_⟩
        constructor <;> (try first | assumption | ((repeat (first | assumption | apply Ext.refl | apply Ext.app | (apply Ext.set <;> omega) | exact Ext.trans (by assumption) (by assumption) | (refine Ext.trans ?_ (by assumption)))); done) | (refine Sl.ext (by assumption) ?_; (repeat (first | assumption | apply Ext.refl | apply Ext.app | (apply Ext.set <;> omega) | exact Ext.trans (by assumption) (by assumption) | (refine Ext.trans ?_ (by assumption)))); done) | (simp -dsimp (disch := first | with_reducible assumption | omega | (intro h_; cases h_; done) | (simp only [LN] <;> omega) | (simp only [LF]; done) | (repeat (first | with_reducible assumption | apply Ext.refl | apply Ext.app | (apply Ext.set <;> omega) | (refine Ext.trans ?_ (by assumption))))) only [AX, TY, gV, dstOf, p_makeFunc, p_mapUpdate, mapPut, entsOf, p_lookup, p_extract, p_nilCheck, oneV, p_load, p_store, p_binOp, p_unOp, p_indexAddr, p_index, p_box, p_build, evParts, builtinV, load1, ldc, splice, minds, disj, rcOf, isCall, touchV, idsOf, mapId, touchB, p_buildSlice, buildSliceV, reps, fillV, p_convert, p_slice, evO, p_makeSlice, sid_some, soff_some, Nat.reduceLT, Nat.reduceLeDiff, Nat.reduceEqDiff, Nat.reduceAdd, Nat.reduceMul, Int.reduceBEq, Int.reduceEq, Int.reduceNeg, Int.reduceLT, Int.reduceLE, Int.reduceAdd, Int.reduceSub, Int.reduceMul, Int.reduceToNat, Int.reduceGT, Nat.reduceBEq, Nat.reducePow, Nat.reduceGT, reduceCtorEq, ↓reduceIte, t0, t5, Int.natCast_add, Int.natCast_one, Int.natCast_zero]; try (first | assumption | with_reducible rfl)))
        all_goals first | omega | exact hdec.snoc hd hv | exact snoc_G hg hvG | (simp only [List.length_append, List.length_cons, List.length_nil]; omega) | (rw [List.all_append, hval]; simp [hv]; done) | skip
  · have hd : dec1 (b.drop i) = none := by
      rw [hdr]
      simp only [dec1]
      rw [if_neg g1, if_neg g2, if_neg g3]
    simp -dsimp (disch := first | with_reducible assumption | omega | (intro h_; cases h_; done) | (simp only [LN] <;> omega) | (simp only [LF]; done) | (repeat (first | with_reducible assumption | apply Ext.refl | apply Ext.app | (apply Ext.set <;> omega) | (refine Ext.trans ?_ (by assumption))))) only [AX, TY, gV, dstOf, p_makeFunc, p_mapUpdate, mapPut, entsOf, p_lookup, p_extract, p_nilCheck, oneV, p_load, p_store, p_binOp, p_unOp, p_indexAddr, p_index, p_box, p_build, evParts, builtinV, load1, ldc, splice, minds, disj, rcOf, isCall, touchV, idsOf, mapId, touchB, p_buildSlice, buildSliceV, reps, fillV, p_convert, p_slice, evO, p_makeSlice, sid_some, soff_some, Nat.reduceLT, Nat.reduceLeDiff, Nat.reduceEqDiff, Nat.reduceAdd, Nat.reduceMul, Int.reduceBEq, Int.reduceEq, Int.reduceNeg, Int.reduceLT, Int.reduceLE, Int.reduceAdd, Int.reduceSub, Int.reduceMul, Int.reduceToNat, Int.reduceGT, Nat.reduceBEq, Nat.reducePow, Nat.reduceGT, reduceCtorEq, ↓reduceIte, t0, t4, t5, h1, hld0, g1, g2, g3]
    exact ⟨eh.app _, none, hdec.stuck rfl (by rw [hdr]; simp) (by intro v' t' q; rw [hd] at q; cases q), rfl⟩
end Go.Proofs.YtngcicclaehpbaaDoorA
