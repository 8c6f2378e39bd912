/- Words of this session: chapter 4: the laws of keys and of their order. -/
import Derived.Test.YtngcicclaehpbaaDoorPK
import Derived.Test.YtngcicclaehpbaaDoorAx29
namespace Go.Proofs.YtngcicclaehpbaaDoorA
open Go Go.Proofs Go.RowKit
set_option linter.unusedVariables false
set_option linter.unusedSimpArgs false
set_option maxRecDepth 10000
set_option maxHeartbeats 2000000
theorem law7_ok {h : Heap} {p : Option (Nat × Nat)} {c : Option Nat} {ys : List Vl} (hs : Sl h p 3 Vl.enc ys) (hg : ∀ y ∈ ys, y.G) : WR (callE Tryd.prog hk 7 [.slice p ys.length c] h) fun r h' => r = .bool true := by
  refine WR.call (hH := rfl) Tryd.func7 rfl (n := 23) rfl rfl (by simp) ?_
  simp -dsimp (disch := first | with_reducible assumption | omega | (intro h_; cases h_; done) | (simp only [LN] <;> omega) | (simp only [LF]; done) | (repeat (first | with_reducible assumption | apply Ext.refl | apply Ext.app | (apply Ext.set <;> omega) | (refine Ext.trans ?_ (by assumption))))) only [AX, TY, gV, dstOf, p_makeFunc, p_mapUpdate, mapPut, entsOf, p_lookup, p_extract, p_nilCheck, oneV, p_load, p_store, p_binOp, p_unOp, p_indexAddr, p_index, p_box, p_build, evParts, builtinV, load1, ldc, splice, minds, disj, rcOf, isCall, touchV, idsOf, mapId, touchB, p_buildSlice, buildSliceV, reps, fillV, p_convert, p_slice, evO, p_makeSlice, sid_some, soff_some, Nat.reduceLT, Nat.reduceLeDiff, Nat.reduceEqDiff, Nat.reduceAdd, Nat.reduceMul, Int.reduceBEq, Int.reduceEq, Int.reduceNeg, Int.reduceLT, Int.reduceLE, Int.reduceAdd, Int.reduceSub, Int.reduceMul, Int.reduceToNat, Int.reduceGT, Nat.reduceBEq, Nat.reducePow, Nat.reduceGT, reduceCtorEq, ↓reduceIte]
  have hs1 : Sl (h ++ [O.cells [V.slice p ys.length c] Kd.rw]) (some (h.length, 0)) 1 Rw.enc [⟨p, c, ys⟩] := Sl.whole (snoc_last _ rfl) (fun _ _ => rfl) rfl (by simp)
  have e1 : Ext h (h ++ [O.cells [V.slice p ys.length c] Kd.rw]) := (by (repeat (first | assumption | apply Ext.refl | apply Ext.app | (apply Ext.set <;> omega) | exact Ext.trans (by assumption) (by assumption) | (refine Ext.trans ?_ (by assumption)))))
  refine (shorts_ok (c := some 1) hs1 (by intro r hr; simp only [List.mem_singleton] at hr; subst hr; exact hs.ext e1)).mono ?_
  rintro _ _ ⟨rfl, b, rfl, hb⟩
  cases b
  · simp -dsimp (disch := first | with_reducible assumption | omega | (intro h_; cases h_; done) | (simp only [LN] <;> omega) | (simp only [LF]; done) | (repeat (first | with_reducible assumption | apply Ext.refl | apply Ext.app | (apply Ext.set <;> omega) | (refine Ext.trans ?_ (by assumption))))) only [AX, TY, gV, dstOf, p_makeFunc, p_mapUpdate, mapPut, entsOf, p_lookup, p_extract, p_nilCheck, oneV, p_load, p_store, p_binOp, p_unOp, p_indexAddr, p_index, p_box, p_build, evParts, builtinV, load1, ldc, splice, minds, disj, rcOf, isCall, touchV, idsOf, mapId, touchB, p_buildSlice, buildSliceV, reps, fillV, p_convert, p_slice, evO, p_makeSlice, sid_some, soff_some, Nat.reduceLT, Nat.reduceLeDiff, Nat.reduceEqDiff, Nat.reduceAdd, Nat.reduceMul, Int.reduceBEq, Int.reduceEq, Int.reduceNeg, Int.reduceLT, Int.reduceLE, Int.reduceAdd, Int.reduceSub, Int.reduceMul, Int.reduceToNat, Int.reduceGT, Nat.reduceBEq, Nat.reducePow, Nat.reduceGT, reduceCtorEq, ↓reduceIte]
    refine awake_ok.mono ?_
    rintro _ h9 ⟨e9, rfl⟩
    simp -dsimp (disch := first | with_reducible assumption | omega | (intro h_; cases h_; done) | (simp only [LN] <;> omega) | (simp only [LF]; done) | (repeat (first | with_reducible assumption | apply Ext.refl | apply Ext.app | (apply Ext.set <;> omega) | (refine Ext.trans ?_ (by assumption))))) only [AX, TY, gV, dstOf, p_makeFunc, p_mapUpdate, mapPut, entsOf, p_lookup, p_extract, p_nilCheck, oneV, p_load, p_store, p_binOp, p_unOp, p_indexAddr, p_index, p_box, p_build, evParts, builtinV, load1, ldc, splice, minds, disj, rcOf, isCall, touchV, idsOf, mapId, touchB, p_buildSlice, buildSliceV, reps, fillV, p_convert, p_slice, evO, p_makeSlice, sid_some, soff_some, Nat.reduceLT, Nat.reduceLeDiff, Nat.reduceEqDiff, Nat.reduceAdd, Nat.reduceMul, Int.reduceBEq, Int.reduceEq, Int.reduceNeg, Int.reduceLT, Int.reduceLE, Int.reduceAdd, Int.reduceSub, Int.reduceMul, Int.reduceToNat, Int.reduceGT, Nat.reduceBEq, Nat.reducePow, Nat.reduceGT, reduceCtorEq, ↓reduceIte]
  have hl := hb rfl ⟨p, c, ys⟩ (by simp)
  simp only at hl
  simp -dsimp (disch := first | with_reducible assumption | omega | (intro h_; cases h_; done) | (simp only [LN] <;> omega) | (simp only [LF]; done) | (repeat (first | with_reducible assumption | apply Ext.refl | apply Ext.app | (apply Ext.set <;> omega) | (refine Ext.trans ?_ (by assumption))))) only [AX, TY, gV, dstOf, p_makeFunc, p_mapUpdate, mapPut, entsOf, p_lookup, p_extract, p_nilCheck, oneV, p_load, p_store, p_binOp, p_unOp, p_indexAddr, p_index, p_box, p_build, evParts, builtinV, load1, ldc, splice, minds, disj, rcOf, isCall, touchV, idsOf, mapId, touchB, p_buildSlice, buildSliceV, reps, fillV, p_convert, p_slice, evO, p_makeSlice, sid_some, soff_some, Nat.reduceLT, Nat.reduceLeDiff, Nat.reduceEqDiff, Nat.reduceAdd, Nat.reduceMul, Int.reduceBEq, Int.reduceEq, Int.reduceNeg, Int.reduceLT, Int.reduceLE, Int.reduceAdd, Int.reduceSub, Int.reduceMul, Int.reduceToNat, Int.reduceGT, Nat.reduceBEq, Nat.reducePow, Nat.reduceGT, reduceCtorEq, ↓reduceIte]
  refine (encKey_ok (hs.ext e1) hg (by omega)).mono ?_
  rintro _ h2 ⟨e2, p2, c2, o2, rfl, g2⟩
  have f2 := e1.trans e2
  simp -dsimp (disch := first | with_reducible assumption | omega | (intro h_; cases h_; done) | (simp only [LN] <;> omega) | (simp only [LF]; done) | (repeat (first | with_reducible assumption | apply Ext.refl | apply Ext.app | (apply Ext.set <;> omega) | (refine Ext.trans ?_ (by assumption))))) only [AX, TY, gV, dstOf, p_makeFunc, p_mapUpdate, mapPut, entsOf, p_lookup, p_extract, p_nilCheck, oneV, p_load, p_store, p_binOp, p_unOp, p_indexAddr, p_index, p_box, p_build, evParts, builtinV, load1, ldc, splice, minds, disj, rcOf, isCall, touchV, idsOf, mapId, touchB, p_buildSlice, buildSliceV, reps, fillV, p_convert, p_slice, evO, p_makeSlice, sid_some, soff_some, Nat.reduceLT, Nat.reduceLeDiff, Nat.reduceEqDiff, Nat.reduceAdd, Nat.reduceMul, Int.reduceBEq, Int.reduceEq, Int.reduceNeg, Int.reduceLT, Int.reduceLE, Int.reduceAdd, Int.reduceSub, Int.reduceMul, Int.reduceToNat, Int.reduceGT, Nat.reduceBEq, Nat.reducePow, Nat.reduceGT, reduceCtorEq, ↓reduceIte]
  refine (refEncKey_ok (hs.ext f2) hg (by omega)).mono ?_
  rintro _ h3 ⟨e3, p3, c3, o3, rfl, g3⟩
  have f3 := f2.trans e3
  simp -dsimp (disch := first | with_reducible assumption | omega | (intro h_; cases h_; done) | (simp only [LN] <;> omega) | (simp only [LF]; done) | (repeat (first | with_reducible assumption | apply Ext.refl | apply Ext.app | (apply Ext.set <;> omega) | (refine Ext.trans ?_ (by assumption))))) only [AX, TY, gV, dstOf, p_makeFunc, p_mapUpdate, mapPut, entsOf, p_lookup, p_extract, p_nilCheck, oneV, p_load, p_store, p_binOp, p_unOp, p_indexAddr, p_index, p_box, p_build, evParts, builtinV, load1, ldc, splice, minds, disj, rcOf, isCall, touchV, idsOf, mapId, touchB, p_buildSlice, buildSliceV, reps, fillV, p_convert, p_slice, evO, p_makeSlice, sid_some, soff_some, Nat.reduceLT, Nat.reduceLeDiff, Nat.reduceEqDiff, Nat.reduceAdd, Nat.reduceMul, Int.reduceBEq, Int.reduceEq, Int.reduceNeg, Int.reduceLT, Int.reduceLE, Int.reduceAdd, Int.reduceSub, Int.reduceMul, Int.reduceToNat, Int.reduceGT, Nat.reduceBEq, Nat.reducePow, Nat.reduceGT, reduceCtorEq, ↓reduceIte]
  refine (same_ok (c := c2) (d := c3) (g2.sl.ext e3) g3.sl).mono ?_
  rintro _ _ ⟨rfl, rfl⟩
  simp -dsimp (disch := first | with_reducible assumption | omega | (intro h_; cases h_; done) | (simp only [LN] <;> omega) | (simp only [LF]; done) | (repeat (first | with_reducible assumption | apply Ext.refl | apply Ext.app | (apply Ext.set <;> omega) | (refine Ext.trans ?_ (by assumption))))) only [AX, TY, gV, dstOf, p_makeFunc, p_mapUpdate, mapPut, entsOf, p_lookup, p_extract, p_nilCheck, oneV, p_load, p_store, p_binOp, p_unOp, p_indexAddr, p_index, p_box, p_build, evParts, builtinV, load1, ldc, splice, minds, disj, rcOf, isCall, touchV, idsOf, mapId, touchB, p_buildSlice, buildSliceV, reps, fillV, p_convert, p_slice, evO, p_makeSlice, sid_some, soff_some, Nat.reduceLT, Nat.reduceLeDiff, Nat.reduceEqDiff, Nat.reduceAdd, Nat.reduceMul, Int.reduceBEq, Int.reduceEq, Int.reduceNeg, Int.reduceLT, Int.reduceLE, Int.reduceAdd, Int.reduceSub, Int.reduceMul, Int.reduceToNat, Int.reduceGT, Nat.reduceBEq, Nat.reducePow, Nat.reduceGT, reduceCtorEq, ↓reduceIte]
  refine (encRow_ok (hs.ext f3) hg (by omega)).mono ?_
  rintro _ h4 ⟨e4, p4, c4, o4, rfl, g4⟩
  have f4 := f3.trans e4
  simp -dsimp (disch := first | with_reducible assumption | omega | (intro h_; cases h_; done) | (simp only [LN] <;> omega) | (simp only [LF]; done) | (repeat (first | with_reducible assumption | apply Ext.refl | apply Ext.app | (apply Ext.set <;> omega) | (refine Ext.trans ?_ (by assumption))))) only [AX, TY, gV, dstOf, p_makeFunc, p_mapUpdate, mapPut, entsOf, p_lookup, p_extract, p_nilCheck, oneV, p_load, p_store, p_binOp, p_unOp, p_indexAddr, p_index, p_box, p_build, evParts, builtinV, load1, ldc, splice, minds, disj, rcOf, isCall, touchV, idsOf, mapId, touchB, p_buildSlice, buildSliceV, reps, fillV, p_convert, p_slice, evO, p_makeSlice, sid_some, soff_some, Nat.reduceLT, Nat.reduceLeDiff, Nat.reduceEqDiff, Nat.reduceAdd, Nat.reduceMul, Int.reduceBEq, Int.reduceEq, Int.reduceNeg, Int.reduceLT, Int.reduceLE, Int.reduceAdd, Int.reduceSub, Int.reduceMul, Int.reduceToNat, Int.reduceGT, Nat.reduceBEq, Nat.reducePow, Nat.reduceGT, reduceCtorEq, ↓reduceIte]
  refine (refEncRow_ok (hs.ext f4) hg (by omega)).mono ?_
  rintro _ h5 ⟨e5, p5, c5, o5, rfl, g5⟩
  simp -dsimp (disch := first | with_reducible assumption | omega | (intro h_; cases h_; done) | (simp only [LN] <;> omega) | (simp only [LF]; done) | (repeat (first | with_reducible assumption | apply Ext.refl | apply Ext.app | (apply Ext.set <;> omega) | (refine Ext.trans ?_ (by assumption))))) only [AX, TY, gV, dstOf, p_makeFunc, p_mapUpdate, mapPut, entsOf, p_lookup, p_extract, p_nilCheck, oneV, p_load, p_store, p_binOp, p_unOp, p_indexAddr, p_index, p_box, p_build, evParts, builtinV, load1, ldc, splice, minds, disj, rcOf, isCall, touchV, idsOf, mapId, touchB, p_buildSlice, buildSliceV, reps, fillV, p_convert, p_slice, evO, p_makeSlice, sid_some, soff_some, Nat.reduceLT, Nat.reduceLeDiff, Nat.reduceEqDiff, Nat.reduceAdd, Nat.reduceMul, Int.reduceBEq, Int.reduceEq, Int.reduceNeg, Int.reduceLT, Int.reduceLE, Int.reduceAdd, Int.reduceSub, Int.reduceMul, Int.reduceToNat, Int.reduceGT, Nat.reduceBEq, Nat.reducePow, Nat.reduceGT, reduceCtorEq, ↓reduceIte]
  refine (same_ok (c := c4) (d := c5) (g4.sl.ext e5) g5.sl).mono ?_
  rintro _ _ ⟨rfl, rfl⟩
  simp -dsimp (disch := first | with_reducible assumption | omega | (intro h_; cases h_; done) | (simp only [LN] <;> omega) | (simp only [LF]; done) | (repeat (first | with_reducible assumption | apply Ext.refl | apply Ext.app | (apply Ext.set <;> omega) | (refine Ext.trans ?_ (by assumption))))) only [AX, TY, gV, dstOf, p_makeFunc, p_mapUpdate, mapPut, entsOf, p_lookup, p_extract, p_nilCheck, oneV, p_load, p_store, p_binOp, p_unOp, p_indexAddr, p_index, p_box, p_build, evParts, builtinV, load1, ldc, splice, minds, disj, rcOf, isCall, touchV, idsOf, mapId, touchB, p_buildSlice, buildSliceV, reps, fillV, p_convert, p_slice, evO, p_makeSlice, sid_some, soff_some, Nat.reduceLT, Nat.reduceLeDiff, Nat.reduceEqDiff, Nat.reduceAdd, Nat.reduceMul, Int.reduceBEq, Int.reduceEq, Int.reduceNeg, Int.reduceLT, Int.reduceLE, Int.reduceAdd, Int.reduceSub, Int.reduceMul, Int.reduceToNat, Int.reduceGT, Nat.reduceBEq, Nat.reducePow, Nat.reduceGT, reduceCtorEq, ↓reduceIte]
  refine awake_ok.mono ?_
  rintro _ h9 ⟨e9, rfl⟩
  simp -dsimp (disch := first | with_reducible assumption | omega | (intro h_; cases h_; done) | (simp only [LN] <;> omega) | (simp only [LF]; done) | (repeat (first | with_reducible assumption | apply Ext.refl | apply Ext.app | (apply Ext.set <;> omega) | (refine Ext.trans ?_ (by assumption))))) only [AX, TY, gV, dstOf, p_makeFunc, p_mapUpdate, mapPut, entsOf, p_lookup, p_extract, p_nilCheck, oneV, p_load, p_store, p_binOp, p_unOp, p_indexAddr, p_index, p_box, p_build, evParts, builtinV, load1, ldc, splice, minds, disj, rcOf, isCall, touchV, idsOf, mapId, touchB, p_buildSlice, buildSliceV, reps, fillV, p_convert, p_slice, evO, p_makeSlice, sid_some, soff_some, Nat.reduceLT, Nat.reduceLeDiff, Nat.reduceEqDiff, Nat.reduceAdd, Nat.reduceMul, Int.reduceBEq, Int.reduceEq, Int.reduceNeg, Int.reduceLT, Int.reduceLE, Int.reduceAdd, Int.reduceSub, Int.reduceMul, Int.reduceToNat, Int.reduceGT, Nat.reduceBEq, Nat.reducePow, Nat.reduceGT, reduceCtorEq, ↓reduceIte]
/-! ### the order of keys -/
theorem cmpB_app (a x y : List Int) : cmpB (a ++ x) (a ++ y) = cmpB x y := by
  induction a with
  | nil => rfl
  | cons c a ih => simp only [List.cons_append, cmpB]; rw [if_neg (by omega), if_neg (by omega), ih]
theorem sgn_of (b : Bool) : sgn b = if b then -1 else 1 := rfl
theorem cmpB_step {a b : Int} {x y : List Int} (h : a < b ∨ (a = b ∧ cmpB x y = -1)) : cmpB (a :: x) (b :: y) = -1 := by
  simp only [cmpB]
  rcases h with h | ⟨h, h2⟩
  · rw [if_pos h]
  · rw [if_neg (by omega), if_neg (by omega)]; exact h2
theorem be8_cmp {a b : Int} (ha : 0 ≤ a ∧ a < 18446744073709551616) (hb : 0 ≤ b ∧ b < 18446744073709551616) (h : a < b) (x y : List Int) : cmpB (be8 a ++ x) (be8 b ++ y) = -1 := by
  simp only [be8, List.cons_append, List.nil_append]
  refine cmpB_step ?_
  by_cases h0 : a / 72057594037927936 % 256 = b / 72057594037927936 % 256
  rotate_left
  · left; omega
  refine .inr ⟨h0, ?_⟩
  refine cmpB_step ?_
  by_cases h1 : a / 281474976710656 % 256 = b / 281474976710656 % 256
  rotate_left
  · left; omega
  refine .inr ⟨h1, ?_⟩
  refine cmpB_step ?_
  by_cases h2 : a / 1099511627776 % 256 = b / 1099511627776 % 256
  rotate_left
  · left; omega
  refine .inr ⟨h2, ?_⟩
  refine cmpB_step ?_
  by_cases h3 : a / 4294967296 % 256 = b / 4294967296 % 256
  rotate_left
  · left; omega
  refine .inr ⟨h3, ?_⟩
  refine cmpB_step ?_
  by_cases h4 : a / 16777216 % 256 = b / 16777216 % 256
  rotate_left
  · left; omega
  refine .inr ⟨h4, ?_⟩
  refine cmpB_step ?_
  by_cases h5 : a / 65536 % 256 = b / 65536 % 256
  rotate_left
  · left; omega
  refine .inr ⟨h5, ?_⟩
  refine cmpB_step ?_
  by_cases h6 : a / 256 % 256 = b / 256 % 256
  rotate_left
  · left; omega
  refine .inr ⟨h6, ?_⟩
  refine cmpB_step (.inl ?_)
  omega
theorem cmpB_neg : ∀ (x y : List Int), cmpB x y = -1 → cmpB y x = 1
  | [], [], h => by simp [cmpB] at h
  | [], _ :: _, _ => by simp [cmpB]
  | _ :: _, [], h => by simp [cmpB] at h
  | a :: x, b :: y, h => by
    simp only [cmpB] at h ⊢
    split at h
    · rw [if_neg (by omega), if_pos (by omega)]
    · split at h
      · omega
      · rw [if_neg (by omega), if_neg (by omega)]; exact cmpB_neg x y h
/-- Texts, escaped and ended, in order. -/
theorem esc_cmp : ∀ {s t : List Int}, Bt s → Bt t → s ≠ t → lessL s t = true → ∀ (x y : List Int), cmpB (esc s ++ 0 :: 1 :: x) (esc t ++ 0 :: 1 :: y) = -1
  | [], [], _, _, h, _, _, _ => absurd rfl h
  | [], d :: t, _, ht, _, _, x, y => by
    have := ht.head
    simp only [esc]
    by_cases hd : d = 0
    · rw [if_pos hd]; simp [cmpB]
    · rw [if_neg hd]; simp only [List.nil_append, List.cons_append, cmpB]; rw [if_pos (by omega)]
  | c :: s, [], _, _, _, h, _, _ => by simp [lessL] at h
  | c :: s, d :: t, hs, ht, hne, h, x, y => by
    have hc := hs.head
    have hd := ht.head
    simp only [lessL, Bool.or_eq_true, decide_eq_true_eq, Bool.and_eq_true, beq_iff_eq] at h
    simp only [esc]
    by_cases hcd : c = d
    · subst hcd
      have h2 : lessL s t = true := by
        rcases h with h | h
        · omega
        · exact h.2
      have ih := esc_cmp hs.tail ht.tail (fun e => hne (by rw [e])) h2 x y
      by_cases h0 : c = 0
      · rw [if_pos h0, if_pos h0]
        simp only [List.cons_append, cmpB]
        rw [if_neg (by omega), if_neg (by omega), if_neg (by omega), if_neg (by omega)]; exact ih
      · rw [if_neg h0, if_neg h0]
        simp only [List.cons_append, cmpB]
        rw [if_neg (by omega), if_neg (by omega)]; exact ih
    · have h1 : c < d := by
        rcases h with h | h
        · exact h
        · exact absurd h.1 hcd
      rw [if_neg (show ¬ d = 0 by omega)]
      by_cases h0 : c = 0
      · rw [if_pos h0]; simp only [List.cons_append, cmpB]; rw [if_pos (by omega)]
      · rw [if_neg h0]; simp only [List.cons_append, cmpB]; rw [if_pos h1]
theorem lessL_total : ∀ {s t : List Int}, s ≠ t → lessL s t = false → lessL t s = true
  | [], [], h, _ => absurd rfl h
  | [], _ :: _, _, h => by simp [lessL] at h
  | _ :: _, [], _, _ => by simp [lessL]
  | a :: s, b :: t, hne, h => by
    simp only [lessL, Bool.or_eq_false_iff, decide_eq_false_iff_not, Bool.and_eq_false_iff, beq_eq_false_iff_ne] at h
    simp only [lessL, Bool.or_eq_true, decide_eq_true_eq, Bool.and_eq_true, beq_iff_eq]
    by_cases e : a = b
    · subst e
      refine .inr ⟨rfl, lessL_total (fun q => hne (by rw [q])) ?_⟩
      rcases h.2 with q | q
      · exact absurd rfl q
      · exact q
    · exact .inl (by omega)
theorem keyV_less {x y : Vl} (hx : validV x = true) (hy : validV y = true) (gx : x.G) (gy : y.G) (h : cmpV x y = -1) (X Y : List Int) : cmpB (keyV x ++ X) (keyV y ++ Y) = -1 := by
  have ix := gx.2.1
  have iy := gy.2.1
  unfold cmpV at h
  split at h
  · rename_i hk
    split at h
    · rename_i hi
      split at h
      · cases h
      · rename_i ht
        have hl : lessL x.text y.text = true := by
          cases q : lessL x.text y.text with
          | true => rfl
          | false => rw [q] at h; cases h
        rcases valid_cases hx with ⟨k0, k1⟩ | ⟨k0, k1, k2⟩ | ⟨k0, k1, k2⟩
        · rcases valid_cases hy with ⟨j0, j1⟩ | ⟨j0, j1, j2⟩ | ⟨j0, j1, j2⟩
          · exact absurd (k1.trans j1.symm) ht
          · omega
          · omega
        · rw [keyV, keyV, if_neg (by omega), if_pos k0, if_neg (by omega), if_pos (by omega)]
          have := esc_cmp gx.2.2.2 gy.2.2.2 ht hl X Y
          simp only [List.cons_append, List.append_assoc, List.nil_append, cmpB]
          rw [if_neg (by omega), if_neg (by omega)]; exact this
        · rcases valid_cases hy with ⟨j0, j1⟩ | ⟨j0, j1, j2⟩ | ⟨j0, j1, j2⟩
          · omega
          · omega
          · exact absurd (k1.trans j1.symm) ht
    · rename_i hi
      have hl : x.int < y.int := by
        by_cases q : x.int < y.int
        · exact q
        · simp [q, sgn] at h
      rcases valid_cases hx with ⟨k0, k1⟩ | ⟨k0, k1, k2⟩ | ⟨k0, k1, k2⟩
      · rw [keyV, keyV, if_pos k0, if_pos (by omega)]
        simp only [List.cons_append, cmpB]
        rw [if_neg (by omega), if_neg (by omega)]
        exact be8_cmp (by omega) (by omega) (by omega) X Y
      · rcases valid_cases hy with ⟨j0, j1⟩ | ⟨j0, j1, j2⟩ | ⟨j0, j1, j2⟩ <;> omega
      · rw [keyV, keyV, if_neg (by omega), if_neg (by omega), if_neg (by omega), if_neg (by omega)]
        have hy2 : y.int = 0 ∨ y.int = 1 := by
          rcases valid_cases hy with ⟨j0, j1⟩ | ⟨j0, j1, j2⟩ | ⟨j0, j1, j2⟩
          · omega
          · omega
          · exact j2
        simp only [List.cons_append, cmpB]
        rw [if_neg (by omega), if_neg (by omega), if_pos (by omega)]
  · rename_i hk
    have hl : x.kind < y.kind := by
      by_cases q : x.kind < y.kind
      · exact q
      · simp [q, sgn] at h
    have tag : ∀ {v : Vl}, validV v = true → ∃ t, keyV v = (v.kind + 1) :: t := by
      intro v hv
      rcases valid_cases hv with ⟨k0, k1⟩ | ⟨k0, k1, k2⟩ | ⟨k0, k1, k2⟩
      · exact ⟨_, by rw [keyV, if_pos k0, k0]; rfl⟩
      · exact ⟨_, by rw [keyV, if_neg (by omega), if_pos k0, k0]; rfl⟩
      · exact ⟨_, by rw [keyV, if_neg (by omega), if_neg (by omega), k0]; rfl⟩
    obtain ⟨t, ht⟩ := tag hx
    obtain ⟨u, hu⟩ := tag hy
    rw [ht, hu]
    simp only [List.cons_append, cmpB]
    rw [if_pos (by omega)]
theorem sgn_cases (b : Bool) : sgn b = -1 ∨ sgn b = 1 := by cases b <;> simp [sgn]
theorem cmpV_anti {x y : Vl} (h0 : ¬ cmpV x y = 0) (h : ¬ cmpV x y = -1) : cmpV x y = 1 ∧ cmpV y x = -1 := by
  unfold cmpV at *
  split at h
  · rename_i hk
    rw [if_pos hk] at h0 ⊢
    rw [if_pos hk.symm]
    split at h
    · rename_i hi
      rw [if_pos hi] at h0 ⊢
      rw [if_pos hi.symm]
      split at h
      · rename_i ht; rw [if_pos ht] at h0; exact absurd rfl h0
      · rename_i ht
        rw [if_neg ht, if_neg (Ne.symm ht)]
        have q : lessL x.text y.text = false := by
          cases q : lessL x.text y.text with
          | false => rfl
          | true => rw [q] at h; exact absurd rfl h
        rw [q, lessL_total ht q]; exact ⟨rfl, rfl⟩
    · rename_i hi
      rw [if_neg hi, if_neg (Ne.symm hi)]
      have q : ¬ x.int < y.int := fun q => h (by simp [q, sgn])
      have q2 : y.int < x.int := by omega
      simp [q, q2, sgn]
  · rename_i hk
    rw [if_neg hk, if_neg (Ne.symm hk)]
    have q : ¬ x.kind < y.kind := fun q => h (by simp [q, sgn])
    have q2 : y.kind < x.kind := by omega
    simp [q, q2, sgn]
theorem keyV_cons (y : Vl) : ∃ c t, keyV y = c :: t := by
  unfold keyV
  split
  · exact ⟨_, _, rfl⟩
  · split <;> exact ⟨_, _, rfl⟩
theorem key_order : ∀ {a b : List Vl}, a.all validV = true → b.all validV = true → (∀ y ∈ a, y.G) → (∀ y ∈ b, y.G) → cmpB (keyL a) (keyL b) = cmpR a b
  | [], [], _, _, _, _ => rfl
  | [], y :: b, _, _, _, _ => by
    simp only [keyL, List.flatMap_nil, List.flatMap_cons, cmpR]
    have : ∃ c t, keyV y = c :: t := by exact keyV_cons _
    obtain ⟨c, t, e⟩ := this
    rw [e]; rfl
  | x :: a, [], _, _, _, _ => by
    simp only [keyL, List.flatMap_nil, List.flatMap_cons, cmpR]
    have : ∃ c t, keyV x = c :: t := by exact keyV_cons _
    obtain ⟨c, t, e⟩ := this
    rw [e]; rfl
  | x :: a, y :: b, ha, hb, ga, gb => by
    simp only [List.all_cons, Bool.and_eq_true] at ha hb
    have ih := key_order ha.2 hb.2 (fun z hz => ga z (by simp [hz])) (fun z hz => gb z (by simp [hz]))
    have e1 : keyL (x :: a) = keyV x ++ keyL a := by simp [keyL]
    have e2 : keyL (y :: b) = keyV y ++ keyL b := by simp [keyL]
    rw [e1, e2, cmpR]
    split
    · rename_i h0
      rw [cmpV_eq.1 h0, cmpB_app]; exact ih
    · rename_i h0
      by_cases h1 : cmpV x y = -1
      · rw [h1]; exact keyV_less ha.1 hb.1 (ga x (by simp)) (gb y (by simp)) h1 _ _
      · obtain ⟨h2, h3⟩ := cmpV_anti h0 h1
        rw [h2]; exact cmpB_neg _ _ (keyV_less hb.1 ha.1 (gb y (by simp)) (ga x (by simp)) h3 _ _)
theorem dec_key : ∀ {l : List Vl} (r : List Int), l.all validV = true → (∀ y ∈ l, y.G) → Dec dec1 (keyL l ++ r) l r
  | [], r, _, _ => .nil r
  | v :: l, r, hv, hg => by
    simp only [List.all_cons, Bool.and_eq_true] at hv
    have e : keyL (v :: l) ++ r = keyV v ++ (keyL l ++ r) := by simp [keyL]
    rw [e]
    exact .cons (dec1_key hv.1 (hg v (by simp)) _) hv.1 (dec_key r hv.2 fun y hy => hg y (by simp [hy]))
theorem key_prefix {a b : List Vl} (ha : a.all validV = true) (hb : b.all validV = true) (ga : ∀ y ∈ a, y.G) (gb : ∀ y ∈ b, y.G) (hl : a.length = b.length) (hp : keyL a = (keyL b).take (keyL a).length) : ¬ (keyL a).length < (keyL b).length := by
  intro hlt
  have e : keyL b = keyL a ++ (keyL b).drop (keyL a).length := by
    conv => lhs; rw [← List.take_append_drop (keyL a).length (keyL b), ← hp]
  have h1 := dec_key ((keyL b).drop (keyL a).length) ha ga
  rw [← e] at h1
  have h2 := dec_key [] hb gb
  rw [List.append_nil] at h2
  have := (h1.det h2 hl).2
  have := congrArg List.length this
  rw [List.length_drop] at this
  simp only [List.length_nil] at this
  omega
structure LKO (h0 : Heap) (p q : Option (Nat × Nat)) (c d : Option Nat) (a b : List Vl) (r : Option (Nat × Nat)) (rc : Option Nat) (i : Nat) (τ : Tp) (hh : Heap) : Prop where
  ex : Ext h0 hh
  t0 : τ 0 = .slice p a.length c
  t1 : τ 1 = .slice q b.length d
  t19 : τ 19 = .slice r (a.length + b.length) rc
  t20 : τ 20 = .int .i64 ((a.length + b.length : Nat) : Int)
  t21 : τ 21 = .int .i64 i
  val : ((a ++ b).take i).all validV = true
theorem law3_ok {h : Heap} {p q : Option (Nat × Nat)} {c d : Option Nat} {a b : List Vl} (ha : Sl h p 3 Vl.enc a) (hb : Sl h q 3 Vl.enc b) (ga : ∀ y ∈ a, y.G) (gb : ∀ y ∈ b, y.G) : WR (callE Tryd.prog hk 3 [.slice p a.length c, .slice q b.length d] h) fun r h' => r = .bool true := by
  refine WR.call (hH := rfl) Tryd.func3 rfl (n := 62) rfl rfl (by simp) ?_
  simp -dsimp (disch := first | with_reducible assumption | omega | (intro h_; cases h_; done) | (simp only [LN] <;> omega) | (simp only [LF]; done) | (repeat (first | with_reducible assumption | apply Ext.refl | apply Ext.app | (apply Ext.set <;> omega) | (refine Ext.trans ?_ (by assumption))))) only [AX, TY, gV, dstOf, p_makeFunc, p_mapUpdate, mapPut, entsOf, p_lookup, p_extract, p_nilCheck, oneV, p_load, p_store, p_binOp, p_unOp, p_indexAddr, p_index, p_box, p_build, evParts, builtinV, load1, ldc, splice, minds, disj, rcOf, isCall, touchV, idsOf, mapId, touchB, p_buildSlice, buildSliceV, reps, fillV, p_convert, p_slice, evO, p_makeSlice, sid_some, soff_some, Nat.reduceLT, Nat.reduceLeDiff, Nat.reduceEqDiff, Nat.reduceAdd, Nat.reduceMul, Int.reduceBEq, Int.reduceEq, Int.reduceNeg, Int.reduceLT, Int.reduceLE, Int.reduceAdd, Int.reduceSub, Int.reduceMul, Int.reduceToNat, Int.reduceGT, Nat.reduceBEq, Nat.reducePow, Nat.reduceGT, reduceCtorEq, ↓reduceIte]
  have hs1 : Sl (h ++ [O.cells [V.slice p a.length c, V.slice q b.length d] Kd.rw]) (some (h.length, 0)) 1 Rw.enc [⟨p, c, a⟩, ⟨q, d, b⟩] := Sl.whole (snoc_last _ rfl) (fun _ _ => rfl) rfl (by simp)
  have e1 : Ext h (h ++ [O.cells [V.slice p a.length c, V.slice q b.length d] Kd.rw]) := (by (repeat (first | assumption | apply Ext.refl | apply Ext.app | (apply Ext.set <;> omega) | exact Ext.trans (by assumption) (by assumption) | (refine Ext.trans ?_ (by assumption)))))
  generalize h ++ [O.cells [V.slice p a.length c, V.slice q b.length d] Kd.rw] = h1 at hs1 e1
  refine (shorts_ok (c := some 2) hs1 (by
    intro r hr
    simp only [List.mem_cons, List.not_mem_nil, or_false] at hr
    rcases hr with rfl | rfl
    · exact ha.ext e1
    · exact hb.ext e1)).mono ?_
  rintro _ _ ⟨rfl, bo, rfl, hbo⟩
  cases bo
  · simp -dsimp (disch := first | with_reducible assumption | omega | (intro h_; cases h_; done) | (simp only [LN] <;> omega) | (simp only [LF]; done) | (repeat (first | with_reducible assumption | apply Ext.refl | apply Ext.app | (apply Ext.set <;> omega) | (refine Ext.trans ?_ (by assumption))))) only [AX, TY, gV, dstOf, p_makeFunc, p_mapUpdate, mapPut, entsOf, p_lookup, p_extract, p_nilCheck, oneV, p_load, p_store, p_binOp, p_unOp, p_indexAddr, p_index, p_box, p_build, evParts, builtinV, load1, ldc, splice, minds, disj, rcOf, isCall, touchV, idsOf, mapId, touchB, p_buildSlice, buildSliceV, reps, fillV, p_convert, p_slice, evO, p_makeSlice, sid_some, soff_some, Nat.reduceLT, Nat.reduceLeDiff, Nat.reduceEqDiff, Nat.reduceAdd, Nat.reduceMul, Int.reduceBEq, Int.reduceEq, Int.reduceNeg, Int.reduceLT, Int.reduceLE, Int.reduceAdd, Int.reduceSub, Int.reduceMul, Int.reduceToNat, Int.reduceGT, Nat.reduceBEq, Nat.reducePow, Nat.reduceGT, reduceCtorEq, ↓reduceIte]
    refine awake_ok.mono ?_
    rintro _ h9 ⟨e9, rfl⟩
    simp -dsimp (disch := first | with_reducible assumption | omega | (intro h_; cases h_; done) | (simp only [LN] <;> omega) | (simp only [LF]; done) | (repeat (first | with_reducible assumption | apply Ext.refl | apply Ext.app | (apply Ext.set <;> omega) | (refine Ext.trans ?_ (by assumption))))) only [AX, TY, gV, dstOf, p_makeFunc, p_mapUpdate, mapPut, entsOf, p_lookup, p_extract, p_nilCheck, oneV, p_load, p_store, p_binOp, p_unOp, p_indexAddr, p_index, p_box, p_build, evParts, builtinV, load1, ldc, splice, minds, disj, rcOf, isCall, touchV, idsOf, mapId, touchB, p_buildSlice, buildSliceV, reps, fillV, p_convert, p_slice, evO, p_makeSlice, sid_some, soff_some, Nat.reduceLT, Nat.reduceLeDiff, Nat.reduceEqDiff, Nat.reduceAdd, Nat.reduceMul, Int.reduceBEq, Int.reduceEq, Int.reduceNeg, Int.reduceLT, Int.reduceLE, Int.reduceAdd, Int.reduceSub, Int.reduceMul, Int.reduceToNat, Int.reduceGT, Nat.reduceBEq, Nat.reducePow, Nat.reduceGT, reduceCtorEq, ↓reduceIte]
  have hla := hbo rfl ⟨p, c, a⟩ (by simp)
  have hlb := hbo rfl ⟨q, d, b⟩ (by simp)
  simp only at hla hlb
  have ha1 := ha.ext e1
  have hb1 := hb.ext e1
  have lf : ∀ (l : List Vl), ∀ y ∈ l, (Vl.enc y).all V.leaf = true := fun _ _ _ => rfl
  simp -dsimp (disch := first | with_reducible assumption | omega | (intro h_; cases h_; done) | (simp only [LN] <;> omega) | (simp only [LF]; done) | (repeat (first | with_reducible assumption | apply Ext.refl | apply Ext.app | (apply Ext.set <;> omega) | (refine Ext.trans ?_ (by assumption))))) only [AX, TY, gV, dstOf, p_makeFunc, p_mapUpdate, mapPut, entsOf, p_lookup, p_extract, p_nilCheck, oneV, p_load, p_store, p_binOp, p_unOp, p_indexAddr, p_index, p_box, p_build, evParts, builtinV, load1, ldc, splice, minds, disj, rcOf, isCall, touchV, idsOf, mapId, touchB, p_buildSlice, buildSliceV, reps, fillV, p_convert, p_slice, evO, p_makeSlice, sid_some, soff_some, Nat.reduceLT, Nat.reduceLeDiff, Nat.reduceEqDiff, Nat.reduceAdd, Nat.reduceMul, Int.reduceBEq, Int.reduceEq, Int.reduceNeg, Int.reduceLT, Int.reduceLE, Int.reduceAdd, Int.reduceSub, Int.reduceMul, Int.reduceToNat, Int.reduceGT, Nat.reduceBEq, Nat.reducePow, Nat.reduceGT, reduceCtorEq, ↓reduceIte]
  obtain ⟨p2, c2, o2, h2, hap, gr2, ho2, hl2, hk2⟩ := clone_app (bytes := 32) (b := h1.length) (c := c) (ha1.ext (hh := h1 ++ [O.cells [] Kd.rw]) (by (repeat (first | assumption | apply Ext.refl | apply Ext.app | (apply Ext.set <;> omega) | exact Ext.trans (by assumption) (by assumption) | (refine Ext.trans ?_ (by assumption)))))) (q := h1.length) (snoc_last _ rfl) (Nat.le_refl _) (lf a) (by omega)
  have e2 : Ext h1 h2 := Ext.of_keep fun j hj => by rw [hk2 j (by omega) (by simp; omega), snoc_old _ hj]
  simp -dsimp (disch := first | with_reducible assumption | omega | (intro h_; cases h_; done) | (simp only [LN] <;> omega) | (simp only [LF]; done) | (repeat (first | with_reducible assumption | apply Ext.refl | apply Ext.app | (apply Ext.set <;> omega) | (refine Ext.trans ?_ (by assumption))))) only [AX, TY, gV, dstOf, p_makeFunc, p_mapUpdate, mapPut, entsOf, p_lookup, p_extract, p_nilCheck, oneV, p_load, p_store, p_binOp, p_unOp, p_indexAddr, p_index, p_box, p_build, evParts, builtinV, load1, ldc, splice, minds, disj, rcOf, isCall, touchV, idsOf, mapId, touchB, p_buildSlice, buildSliceV, reps, fillV, p_convert, p_slice, evO, p_makeSlice, sid_some, soff_some, Nat.reduceLT, Nat.reduceLeDiff, Nat.reduceEqDiff, Nat.reduceAdd, Nat.reduceMul, Int.reduceBEq, Int.reduceEq, Int.reduceNeg, Int.reduceLT, Int.reduceLE, Int.reduceAdd, Int.reduceSub, Int.reduceMul, Int.reduceToNat, Int.reduceGT, Nat.reduceBEq, Nat.reducePow, Nat.reduceGT, reduceCtorEq, ↓reduceIte, hap]
  refine (gr2.wrS (bytes := 32) e2.le (.refl _) (hb1.ext e2) (lf b) (by omega) (by omega)).mono ?_
  rintro _ h3 ⟨p3, c3, o3, rfl, gr3, ho3, hl3, hk3⟩
  have e3 : Ext h1 h3 := Ext.of_keep fun j hj => by rw [hk3 j (fun q => by have := gr2.base j q; omega) (by have := e2.le; omega), e2.get _ _ (List.getElem?_eq_getElem hj), List.getElem?_eq_getElem hj]
  have hs3 := gr3.sl
  have hln : (a ++ b).length = a.length + b.length := List.length_append
  have hn3 := hs3.nil'
  rw [hln] at hn3
  simp -dsimp (disch := first | with_reducible assumption | omega | (intro h_; cases h_; done) | (simp only [LN] <;> omega) | (simp only [LF]; done) | (repeat (first | with_reducible assumption | apply Ext.refl | apply Ext.app | (apply Ext.set <;> omega) | (refine Ext.trans ?_ (by assumption))))) only [AX, TY, gV, dstOf, p_makeFunc, p_mapUpdate, mapPut, entsOf, p_lookup, p_extract, p_nilCheck, oneV, p_load, p_store, p_binOp, p_unOp, p_indexAddr, p_index, p_box, p_build, evParts, builtinV, load1, ldc, splice, minds, disj, rcOf, isCall, touchV, idsOf, mapId, touchB, p_buildSlice, buildSliceV, reps, fillV, p_convert, p_slice, evO, p_makeSlice, sid_some, soff_some, Nat.reduceLT, Nat.reduceLeDiff, Nat.reduceEqDiff, Nat.reduceAdd, Nat.reduceMul, Int.reduceBEq, Int.reduceEq, Int.reduceNeg, Int.reduceLT, Int.reduceLE, Int.reduceAdd, Int.reduceSub, Int.reduceMul, Int.reduceToNat, Int.reduceGT, Nat.reduceBEq, Nat.reducePow, Nat.reduceGT, reduceCtorEq, ↓reduceIte]
  refine W.loop (fun m τ hh => ∃ i, m + i = a.length + b.length ∧ LKO h3 p q c d a b p3 c3 i τ hh) ?_ (m := a.length + b.length) ?_
  rotate_left
  · refine ⟨0, by simp, ?_⟩
    constructor <;> (try first | assumption | ((repeat (first | assumption | apply Ext.refl | apply Ext.app | (apply Ext.set <;> omega) | exact Ext.trans (by assumption) (by assumption) | (refine Ext.trans ?_ (by assumption)))); done) | (refine Sl.ext (by assumption) ?_; (repeat (first | assumption | apply Ext.refl | apply Ext.app | (apply Ext.set <;> omega) | exact Ext.trans (by assumption) (by assumption) | (refine Ext.trans ?_ (by assumption)))); done) | (simp -dsimp (disch := first | with_reducible assumption | omega | (intro h_; cases h_; done) | (simp only [LN] <;> omega) | (simp only [LF]; done) | (repeat (first | with_reducible assumption | apply Ext.refl | apply Ext.app | (apply Ext.set <;> omega) | (refine Ext.trans ?_ (by assumption))))) only [AX, TY, gV, dstOf, p_makeFunc, p_mapUpdate, mapPut, entsOf, p_lookup, p_extract, p_nilCheck, oneV, p_load, p_store, p_binOp, p_unOp, p_indexAddr, p_index, p_box, p_build, evParts, builtinV, load1, ldc, splice, minds, disj, rcOf, isCall, touchV, idsOf, mapId, touchB, p_buildSlice, buildSliceV, reps, fillV, p_convert, p_slice, evO, p_makeSlice, sid_some, soff_some, Nat.reduceLT, Nat.reduceLeDiff, Nat.reduceEqDiff, Nat.reduceAdd, Nat.reduceMul, Int.reduceBEq, Int.reduceEq, Int.reduceNeg, Int.reduceLT, Int.reduceLE, Int.reduceAdd, Int.reduceSub, Int.reduceMul, Int.reduceToNat, Int.reduceGT, Nat.reduceBEq, Nat.reducePow, Nat.reduceGT, reduceCtorEq, ↓reduceIte, Int.natCast_add, Int.natCast_one, Int.natCast_zero]; try (first | assumption | with_reducible rfl)))
    all_goals first | rfl | skip
  rintro m τ hh ⟨i, hm, ex, t0, t1, t19, t20, t21, hval⟩
  by_cases h4 : (i : Int) < ((a.length + b.length : Nat) : Int)
  · have hi : i < (a ++ b).length := by omega
    have hsn : (a ++ b).take (i + 1) = (a ++ b).take i ++ [(a ++ b)[i]] := List.take_succ_eq_append_getElem hi
    have hld := hs3.load0 (hh := hh) ex hi (m := 3) (Nat.le_refl 3)
    generalize (a ++ b)[i] = v at hld hsn
    have hx : Ext hh (hh ++ [O.cells v.enc Kd.rw]) := (by (repeat (first | assumption | apply Ext.refl | apply Ext.app | (apply Ext.set <;> omega) | exact Ext.trans (by assumption) (by assumption) | (refine Ext.trans ?_ (by assumption)))))
    simp only [Vl.enc] at hld hx
    simp -dsimp (disch := first | with_reducible assumption | omega | (intro h_; cases h_; done) | (simp only [LN] <;> omega) | (simp only [LF]; done) | (repeat (first | with_reducible assumption | apply Ext.refl | apply Ext.app | (apply Ext.set <;> omega) | (refine Ext.trans ?_ (by assumption))))) only [AX, TY, gV, dstOf, p_makeFunc, p_mapUpdate, mapPut, entsOf, p_lookup, p_extract, p_nilCheck, oneV, p_load, p_store, p_binOp, p_unOp, p_indexAddr, p_index, p_box, p_build, evParts, builtinV, load1, ldc, splice, minds, disj, rcOf, isCall, touchV, idsOf, mapId, touchB, p_buildSlice, buildSliceV, reps, fillV, p_convert, p_slice, evO, p_makeSlice, sid_some, soff_some, Nat.reduceLT, Nat.reduceLeDiff, Nat.reduceEqDiff, Nat.reduceAdd, Nat.reduceMul, Int.reduceBEq, Int.reduceEq, Int.reduceNeg, Int.reduceLT, Int.reduceLE, Int.reduceAdd, Int.reduceSub, Int.reduceMul, Int.reduceToNat, Int.reduceGT, Nat.reduceBEq, Nat.reducePow, Nat.reduceGT, reduceCtorEq, ↓reduceIte, t0, t1, t19, t20, t21, h4, hld]
    generalize hh ++ [O.cells [V.int .i64 v.kind, V.int .i64 v.int, V.str v.text] Kd.rw] = hx' at hx
    refine (refValid_ok v).mono ?_
    rintro _ h5 ⟨e5, rfl⟩
    have ex5 := ex.trans (hx.trans e5)
    cases hv : validV v
    · simp -dsimp (disch := first | with_reducible assumption | omega | (intro h_; cases h_; done) | (simp only [LN] <;> omega) | (simp only [LF]; done) | (repeat (first | with_reducible assumption | apply Ext.refl | apply Ext.app | (apply Ext.set <;> omega) | (refine Ext.trans ?_ (by assumption))))) only [AX, TY, gV, dstOf, p_makeFunc, p_mapUpdate, mapPut, entsOf, p_lookup, p_extract, p_nilCheck, oneV, p_load, p_store, p_binOp, p_unOp, p_indexAddr, p_index, p_box, p_build, evParts, builtinV, load1, ldc, splice, minds, disj, rcOf, isCall, touchV, idsOf, mapId, touchB, p_buildSlice, buildSliceV, reps, fillV, p_convert, p_slice, evO, p_makeSlice, sid_some, soff_some, Nat.reduceLT, Nat.reduceLeDiff, Nat.reduceEqDiff, Nat.reduceAdd, Nat.reduceMul, Int.reduceBEq, Int.reduceEq, Int.reduceNeg, Int.reduceLT, Int.reduceLE, Int.reduceAdd, Int.reduceSub, Int.reduceMul, Int.reduceToNat, Int.reduceGT, Nat.reduceBEq, Nat.reducePow, Nat.reduceGT, reduceCtorEq, ↓reduceIte, t0, t1, t19, t20, t21]
      refine awake_ok.mono ?_
      rintro _ h9 ⟨e9, rfl⟩
      simp -dsimp (disch := first | with_reducible assumption | omega | (intro h_; cases h_; done) | (simp only [LN] <;> omega) | (simp only [LF]; done) | (repeat (first | with_reducible assumption | apply Ext.refl | apply Ext.app | (apply Ext.set <;> omega) | (refine Ext.trans ?_ (by assumption))))) only [AX, TY, gV, dstOf, p_makeFunc, p_mapUpdate, mapPut, entsOf, p_lookup, p_extract, p_nilCheck, oneV, p_load, p_store, p_binOp, p_unOp, p_indexAddr, p_index, p_box, p_build, evParts, builtinV, load1, ldc, splice, minds, disj, rcOf, isCall, touchV, idsOf, mapId, touchB, p_buildSlice, buildSliceV, reps, fillV, p_convert, p_slice, evO, p_makeSlice, sid_some, soff_some, Nat.reduceLT, Nat.reduceLeDiff, Nat.reduceEqDiff, Nat.reduceAdd, Nat.reduceMul, Int.reduceBEq, Int.reduceEq, Int.reduceNeg, Int.reduceLT, Int.reduceLE, Int.reduceAdd, Int.reduceSub, Int.reduceMul, Int.reduceToNat, Int.reduceGT, Nat.reduceBEq, Nat.reducePow, Nat.reduceGT, reduceCtorEq, ↓reduceIte]
    · simp -dsimp (disch := first | with_reducible assumption | omega | (intro h_; cases h_; done) | (simp only [LN] <;> omega) | (simp only [LF]; done) | (repeat (first | with_reducible assumption | apply Ext.refl | apply Ext.app | (apply Ext.set <;> omega) | (refine Ext.trans ?_ (by assumption))))) only [AX, TY, gV, dstOf, p_makeFunc, p_mapUpdate, mapPut, entsOf, p_lookup, p_extract, p_nilCheck, oneV, p_load, p_store, p_binOp, p_unOp, p_indexAddr, p_index, p_box, p_build, evParts, builtinV, load1, ldc, splice, minds, disj, rcOf, isCall, touchV, idsOf, mapId, touchB, p_buildSlice, buildSliceV, reps, fillV, p_convert, p_slice, evO, p_makeSlice, sid_some, soff_some, Nat.reduceLT, Nat.reduceLeDiff, Nat.reduceEqDiff, Nat.reduceAdd, Nat.reduceMul, Int.reduceBEq, Int.reduceEq, Int.reduceNeg, Int.reduceLT, Int.reduceLE, Int.reduceAdd, Int.reduceSub, Int.reduceMul, Int.reduceToNat, Int.reduceGT, Nat.reduceBEq, Nat.reducePow, Nat.reduceGT, reduceCtorEq, ↓reduceIte, t0, t1, t19, t20, t21, wrap_in]
      refine ⟨m - 1, by omega, i + 1, by omega, ?_⟩
      constructor <;> (try first | assumption | ((repeat (first | assumption | apply Ext.refl | apply Ext.app | (apply Ext.set <;> omega) | exact Ext.trans (by assumption) (by assumption) | (refine Ext.trans ?_ (by assumption)))); done) | (refine Sl.ext (by assumption) ?_; (repeat (first | assumption | apply Ext.refl | apply Ext.app | (apply Ext.set <;> omega) | exact Ext.trans (by assumption) (by assumption) | (refine Ext.trans ?_ (by assumption)))); done) | (simp -dsimp (disch := first | with_reducible assumption | omega | (intro h_; cases h_; done) | (simp only [LN] <;> omega) | (simp only [LF]; done) | (repeat (first | with_reducible assumption | apply Ext.refl | apply Ext.app | (apply Ext.set <;> omega) | (refine Ext.trans ?_ (by assumption))))) only [AX, TY, gV, dstOf, p_makeFunc, p_mapUpdate, mapPut, entsOf, p_lookup, p_extract, p_nilCheck, oneV, p_load, p_store, p_binOp, p_unOp, p_indexAddr, p_index, p_box, p_build, evParts, builtinV, load1, ldc, splice, minds, disj, rcOf, isCall, touchV, idsOf, mapId, touchB, p_buildSlice, buildSliceV, reps, fillV, p_convert, p_slice, evO, p_makeSlice, sid_some, soff_some, Nat.reduceLT, Nat.reduceLeDiff, Nat.reduceEqDiff, Nat.reduceAdd, Nat.reduceMul, Int.reduceBEq, Int.reduceEq, Int.reduceNeg, Int.reduceLT, Int.reduceLE, Int.reduceAdd, Int.reduceSub, Int.reduceMul, Int.reduceToNat, Int.reduceGT, Nat.reduceBEq, Nat.reducePow, Nat.reduceGT, reduceCtorEq, ↓reduceIte, t0, t1, t19, t20, t21, wrap_in, Int.natCast_add, Int.natCast_one, Int.natCast_zero]; try (first | assumption | with_reducible rfl)))
      all_goals first | rfl | skip
      · rw [hsn, List.all_append, hval]; simp [hv]
  · rw [List.take_of_length_le (by omega), List.all_append, Bool.and_eq_true] at hval
    obtain ⟨va, vb⟩ := hval
    have f1 := e3.trans ex
    simp -dsimp (disch := first | with_reducible assumption | omega | (intro h_; cases h_; done) | (simp only [LN] <;> omega) | (simp only [LF]; done) | (repeat (first | with_reducible assumption | apply Ext.refl | apply Ext.app | (apply Ext.set <;> omega) | (refine Ext.trans ?_ (by assumption))))) only [AX, TY, gV, dstOf, p_makeFunc, p_mapUpdate, mapPut, entsOf, p_lookup, p_extract, p_nilCheck, oneV, p_load, p_store, p_binOp, p_unOp, p_indexAddr, p_index, p_box, p_build, evParts, builtinV, load1, ldc, splice, minds, disj, rcOf, isCall, touchV, idsOf, mapId, touchB, p_buildSlice, buildSliceV, reps, fillV, p_convert, p_slice, evO, p_makeSlice, sid_some, soff_some, Nat.reduceLT, Nat.reduceLeDiff, Nat.reduceEqDiff, Nat.reduceAdd, Nat.reduceMul, Int.reduceBEq, Int.reduceEq, Int.reduceNeg, Int.reduceLT, Int.reduceLE, Int.reduceAdd, Int.reduceSub, Int.reduceMul, Int.reduceToNat, Int.reduceGT, Nat.reduceBEq, Nat.reducePow, Nat.reduceGT, reduceCtorEq, ↓reduceIte, t0, t1, t19, t20, t21, h4]
    refine (encKey_ok (ha1.ext f1) ga (by omega)).mono ?_
    rintro _ h6 ⟨e6, p6, c6, o6, rfl, g6⟩
    have f6 := f1.trans e6
    simp -dsimp (disch := first | with_reducible assumption | omega | (intro h_; cases h_; done) | (simp only [LN] <;> omega) | (simp only [LF]; done) | (repeat (first | with_reducible assumption | apply Ext.refl | apply Ext.app | (apply Ext.set <;> omega) | (refine Ext.trans ?_ (by assumption))))) only [AX, TY, gV, dstOf, p_makeFunc, p_mapUpdate, mapPut, entsOf, p_lookup, p_extract, p_nilCheck, oneV, p_load, p_store, p_binOp, p_unOp, p_indexAddr, p_index, p_box, p_build, evParts, builtinV, load1, ldc, splice, minds, disj, rcOf, isCall, touchV, idsOf, mapId, touchB, p_buildSlice, buildSliceV, reps, fillV, p_convert, p_slice, evO, p_makeSlice, sid_some, soff_some, Nat.reduceLT, Nat.reduceLeDiff, Nat.reduceEqDiff, Nat.reduceAdd, Nat.reduceMul, Int.reduceBEq, Int.reduceEq, Int.reduceNeg, Int.reduceLT, Int.reduceLE, Int.reduceAdd, Int.reduceSub, Int.reduceMul, Int.reduceToNat, Int.reduceGT, Nat.reduceBEq, Nat.reducePow, Nat.reduceGT, reduceCtorEq, ↓reduceIte, t0, t1]
    refine (encKey_ok (hb1.ext f6) gb (by omega)).mono ?_
    rintro _ h7 ⟨e7, p7, c7, o7, rfl, g7⟩
    have f7 := f6.trans e7
    have ka : encKey a = keyL a := by rw [encKey, va]; rfl
    have kb : encKey b = keyL b := by rw [encKey, vb]; rfl
    rw [ka] at g6 ⊢
    rw [kb] at g7 ⊢
    have g6' := g6.ext e7
    have hbo := bytes_ok (c := c6) (d := c7) g6'.sl g7.sl
    rw [key_order va vb ga gb] at hbo
    simp -dsimp (disch := first | with_reducible assumption | omega | (intro h_; cases h_; done) | (simp only [LN] <;> omega) | (simp only [LF]; done) | (repeat (first | with_reducible assumption | apply Ext.refl | apply Ext.app | (apply Ext.set <;> omega) | (refine Ext.trans ?_ (by assumption))))) only [AX, TY, gV, dstOf, p_makeFunc, p_mapUpdate, mapPut, entsOf, p_lookup, p_extract, p_nilCheck, oneV, p_load, p_store, p_binOp, p_unOp, p_indexAddr, p_index, p_box, p_build, evParts, builtinV, load1, ldc, splice, minds, disj, rcOf, isCall, touchV, idsOf, mapId, touchB, p_buildSlice, buildSliceV, reps, fillV, p_convert, p_slice, evO, p_makeSlice, sid_some, soff_some, Nat.reduceLT, Nat.reduceLeDiff, Nat.reduceEqDiff, Nat.reduceAdd, Nat.reduceMul, Int.reduceBEq, Int.reduceEq, Int.reduceNeg, Int.reduceLT, Int.reduceLE, Int.reduceAdd, Int.reduceSub, Int.reduceMul, Int.reduceToNat, Int.reduceGT, Nat.reduceBEq, Nat.reducePow, Nat.reduceGT, reduceCtorEq, ↓reduceIte, t0, t1]
    refine hbo.mono ?_
    rintro _ _ ⟨rfl, rfl⟩
    simp -dsimp (disch := first | with_reducible assumption | omega | (intro h_; cases h_; done) | (simp only [LN] <;> omega) | (simp only [LF]; done) | (repeat (first | with_reducible assumption | apply Ext.refl | apply Ext.app | (apply Ext.set <;> omega) | (refine Ext.trans ?_ (by assumption))))) only [AX, TY, gV, dstOf, p_makeFunc, p_mapUpdate, mapPut, entsOf, p_lookup, p_extract, p_nilCheck, oneV, p_load, p_store, p_binOp, p_unOp, p_indexAddr, p_index, p_box, p_build, evParts, builtinV, load1, ldc, splice, minds, disj, rcOf, isCall, touchV, idsOf, mapId, touchB, p_buildSlice, buildSliceV, reps, fillV, p_convert, p_slice, evO, p_makeSlice, sid_some, soff_some, Nat.reduceLT, Nat.reduceLeDiff, Nat.reduceEqDiff, Nat.reduceAdd, Nat.reduceMul, Int.reduceBEq, Int.reduceEq, Int.reduceNeg, Int.reduceLT, Int.reduceLE, Int.reduceAdd, Int.reduceSub, Int.reduceMul, Int.reduceToNat, Int.reduceGT, Nat.reduceBEq, Nat.reducePow, Nat.reduceGT, reduceCtorEq, ↓reduceIte, t0, t1]
    refine (cmpRows_ok (ha1.ext f7) (hb1.ext f7)).mono ?_
    rintro _ h8 ⟨e8, rfl⟩
    have g6'' := g6'.ext e8
    have g7'' := g7.ext e8
    simp -dsimp (disch := first | with_reducible assumption | omega | (intro h_; cases h_; done) | (simp only [LN] <;> omega) | (simp only [LF]; done) | (repeat (first | with_reducible assumption | apply Ext.refl | apply Ext.app | (apply Ext.set <;> omega) | (refine Ext.trans ?_ (by assumption))))) only [AX, TY, gV, dstOf, p_makeFunc, p_mapUpdate, mapPut, entsOf, p_lookup, p_extract, p_nilCheck, oneV, p_load, p_store, p_binOp, p_unOp, p_indexAddr, p_index, p_box, p_build, evParts, builtinV, load1, ldc, splice, minds, disj, rcOf, isCall, touchV, idsOf, mapId, touchB, p_buildSlice, buildSliceV, reps, fillV, p_convert, p_slice, evO, p_makeSlice, sid_some, soff_some, Nat.reduceLT, Nat.reduceLeDiff, Nat.reduceEqDiff, Nat.reduceAdd, Nat.reduceMul, Int.reduceBEq, Int.reduceEq, Int.reduceNeg, Int.reduceLT, Int.reduceLE, Int.reduceAdd, Int.reduceSub, Int.reduceMul, Int.reduceToNat, Int.reduceGT, Nat.reduceBEq, Nat.reducePow, Nat.reduceGT, reduceCtorEq, ↓reduceIte, t0, t1]
    by_cases q1 : (a.length : Int) = (b.length : Int)
    · by_cases q2 : ((keyL a).length : Int) < ((keyL b).length : Int)
      · obtain ⟨hcut, rs2⟩ := g7''.rs.hi (b := (keyL a).length) (by omega)
        have htl : ((keyL b).take (keyL a).length).length = (keyL a).length := by rw [List.length_take]; omega
        have hsm := same_ok (c := c6) (d := c7) g6''.sl rs2.sl
        rw [htl] at hsm
        simp -dsimp (disch := first | with_reducible assumption | omega | (intro h_; cases h_; done) | (simp only [LN] <;> omega) | (simp only [LF]; done) | (repeat (first | with_reducible assumption | apply Ext.refl | apply Ext.app | (apply Ext.set <;> omega) | (refine Ext.trans ?_ (by assumption))))) only [AX, TY, gV, dstOf, p_makeFunc, p_mapUpdate, mapPut, entsOf, p_lookup, p_extract, p_nilCheck, oneV, p_load, p_store, p_binOp, p_unOp, p_indexAddr, p_index, p_box, p_build, evParts, builtinV, load1, ldc, splice, minds, disj, rcOf, isCall, touchV, idsOf, mapId, touchB, p_buildSlice, buildSliceV, reps, fillV, p_convert, p_slice, evO, p_makeSlice, sid_some, soff_some, Nat.reduceLT, Nat.reduceLeDiff, Nat.reduceEqDiff, Nat.reduceAdd, Nat.reduceMul, Int.reduceBEq, Int.reduceEq, Int.reduceNeg, Int.reduceLT, Int.reduceLE, Int.reduceAdd, Int.reduceSub, Int.reduceMul, Int.reduceToNat, Int.reduceGT, Nat.reduceBEq, Nat.reducePow, Nat.reduceGT, reduceCtorEq, ↓reduceIte, t0, t1, eq_true q1, eq_true q2, hcut]
        refine hsm.mono ?_
        rintro _ _ ⟨rfl, rfl⟩
        have hne : ¬ keyL a = (keyL b).take (keyL a).length := fun e => key_prefix va vb ga gb (by omega) e (by omega)
        simp -dsimp (disch := first | with_reducible assumption | omega | (intro h_; cases h_; done) | (simp only [LN] <;> omega) | (simp only [LF]; done) | (repeat (first | with_reducible assumption | apply Ext.refl | apply Ext.app | (apply Ext.set <;> omega) | (refine Ext.trans ?_ (by assumption))))) only [AX, TY, gV, dstOf, p_makeFunc, p_mapUpdate, mapPut, entsOf, p_lookup, p_extract, p_nilCheck, oneV, p_load, p_store, p_binOp, p_unOp, p_indexAddr, p_index, p_box, p_build, evParts, builtinV, load1, ldc, splice, minds, disj, rcOf, isCall, touchV, idsOf, mapId, touchB, p_buildSlice, buildSliceV, reps, fillV, p_convert, p_slice, evO, p_makeSlice, sid_some, soff_some, Nat.reduceLT, Nat.reduceLeDiff, Nat.reduceEqDiff, Nat.reduceAdd, Nat.reduceMul, Int.reduceBEq, Int.reduceEq, Int.reduceNeg, Int.reduceLT, Int.reduceLE, Int.reduceAdd, Int.reduceSub, Int.reduceMul, Int.reduceToNat, Int.reduceGT, Nat.reduceBEq, Nat.reducePow, Nat.reduceGT, reduceCtorEq, ↓reduceIte, hne]
        refine awake_ok.mono ?_
        rintro _ h9 ⟨e9, rfl⟩
        simp -dsimp (disch := first | with_reducible assumption | omega | (intro h_; cases h_; done) | (simp only [LN] <;> omega) | (simp only [LF]; done) | (repeat (first | with_reducible assumption | apply Ext.refl | apply Ext.app | (apply Ext.set <;> omega) | (refine Ext.trans ?_ (by assumption))))) only [AX, TY, gV, dstOf, p_makeFunc, p_mapUpdate, mapPut, entsOf, p_lookup, p_extract, p_nilCheck, oneV, p_load, p_store, p_binOp, p_unOp, p_indexAddr, p_index, p_box, p_build, evParts, builtinV, load1, ldc, splice, minds, disj, rcOf, isCall, touchV, idsOf, mapId, touchB, p_buildSlice, buildSliceV, reps, fillV, p_convert, p_slice, evO, p_makeSlice, sid_some, soff_some, Nat.reduceLT, Nat.reduceLeDiff, Nat.reduceEqDiff, Nat.reduceAdd, Nat.reduceMul, Int.reduceBEq, Int.reduceEq, Int.reduceNeg, Int.reduceLT, Int.reduceLE, Int.reduceAdd, Int.reduceSub, Int.reduceMul, Int.reduceToNat, Int.reduceGT, Nat.reduceBEq, Nat.reducePow, Nat.reduceGT, reduceCtorEq, ↓reduceIte, t0, t1]
      · simp -dsimp (disch := first | with_reducible assumption | omega | (intro h_; cases h_; done) | (simp only [LN] <;> omega) | (simp only [LF]; done) | (repeat (first | with_reducible assumption | apply Ext.refl | apply Ext.app | (apply Ext.set <;> omega) | (refine Ext.trans ?_ (by assumption))))) only [AX, TY, gV, dstOf, p_makeFunc, p_mapUpdate, mapPut, entsOf, p_lookup, p_extract, p_nilCheck, oneV, p_load, p_store, p_binOp, p_unOp, p_indexAddr, p_index, p_box, p_build, evParts, builtinV, load1, ldc, splice, minds, disj, rcOf, isCall, touchV, idsOf, mapId, touchB, p_buildSlice, buildSliceV, reps, fillV, p_convert, p_slice, evO, p_makeSlice, sid_some, soff_some, Nat.reduceLT, Nat.reduceLeDiff, Nat.reduceEqDiff, Nat.reduceAdd, Nat.reduceMul, Int.reduceBEq, Int.reduceEq, Int.reduceNeg, Int.reduceLT, Int.reduceLE, Int.reduceAdd, Int.reduceSub, Int.reduceMul, Int.reduceToNat, Int.reduceGT, Nat.reduceBEq, Nat.reducePow, Nat.reduceGT, reduceCtorEq, ↓reduceIte, t0, t1, eq_true q1, q2]
        refine awake_ok.mono ?_
        rintro _ h9 ⟨e9, rfl⟩
        simp -dsimp (disch := first | with_reducible assumption | omega | (intro h_; cases h_; done) | (simp only [LN] <;> omega) | (simp only [LF]; done) | (repeat (first | with_reducible assumption | apply Ext.refl | apply Ext.app | (apply Ext.set <;> omega) | (refine Ext.trans ?_ (by assumption))))) only [AX, TY, gV, dstOf, p_makeFunc, p_mapUpdate, mapPut, entsOf, p_lookup, p_extract, p_nilCheck, oneV, p_load, p_store, p_binOp, p_unOp, p_indexAddr, p_index, p_box, p_build, evParts, builtinV, load1, ldc, splice, minds, disj, rcOf, isCall, touchV, idsOf, mapId, touchB, p_buildSlice, buildSliceV, reps, fillV, p_convert, p_slice, evO, p_makeSlice, sid_some, soff_some, Nat.reduceLT, Nat.reduceLeDiff, Nat.reduceEqDiff, Nat.reduceAdd, Nat.reduceMul, Int.reduceBEq, Int.reduceEq, Int.reduceNeg, Int.reduceLT, Int.reduceLE, Int.reduceAdd, Int.reduceSub, Int.reduceMul, Int.reduceToNat, Int.reduceGT, Nat.reduceBEq, Nat.reducePow, Nat.reduceGT, reduceCtorEq, ↓reduceIte, t0, t1]
    · simp -dsimp (disch := first | with_reducible assumption | omega | (intro h_; cases h_; done) | (simp only [LN] <;> omega) | (simp only [LF]; done) | (repeat (first | with_reducible assumption | apply Ext.refl | apply Ext.app | (apply Ext.set <;> omega) | (refine Ext.trans ?_ (by assumption))))) only [AX, TY, gV, dstOf, p_makeFunc, p_mapUpdate, mapPut, entsOf, p_lookup, p_extract, p_nilCheck, oneV, p_load, p_store, p_binOp, p_unOp, p_indexAddr, p_index, p_box, p_build, evParts, builtinV, load1, ldc, splice, minds, disj, rcOf, isCall, touchV, idsOf, mapId, touchB, p_buildSlice, buildSliceV, reps, fillV, p_convert, p_slice, evO, p_makeSlice, sid_some, soff_some, Nat.reduceLT, Nat.reduceLeDiff, Nat.reduceEqDiff, Nat.reduceAdd, Nat.reduceMul, Int.reduceBEq, Int.reduceEq, Int.reduceNeg, Int.reduceLT, Int.reduceLE, Int.reduceAdd, Int.reduceSub, Int.reduceMul, Int.reduceToNat, Int.reduceGT, Nat.reduceBEq, Nat.reducePow, Nat.reduceGT, reduceCtorEq, ↓reduceIte, t0, t1, q1]
      refine awake_ok.mono ?_
      rintro _ h9 ⟨e9, rfl⟩
      simp -dsimp (disch := first | with_reducible assumption | omega | (intro h_; cases h_; done) | (simp only [LN] <;> omega) | (simp only [LF]; done) | (repeat (first | with_reducible assumption | apply Ext.refl | apply Ext.app | (apply Ext.set <;> omega) | (refine Ext.trans ?_ (by assumption))))) only [AX, TY, gV, dstOf, p_makeFunc, p_mapUpdate, mapPut, entsOf, p_lookup, p_extract, p_nilCheck, oneV, p_load, p_store, p_binOp, p_unOp, p_indexAddr, p_index, p_box, p_build, evParts, builtinV, load1, ldc, splice, minds, disj, rcOf, isCall, touchV, idsOf, mapId, touchB, p_buildSlice, buildSliceV, reps, fillV, p_convert, p_slice, evO, p_makeSlice, sid_some, soff_some, Nat.reduceLT, Nat.reduceLeDiff, Nat.reduceEqDiff, Nat.reduceAdd, Nat.reduceMul, Int.reduceBEq, Int.reduceEq, Int.reduceNeg, Int.reduceLT, Int.reduceLE, Int.reduceAdd, Int.reduceSub, Int.reduceMul, Int.reduceToNat, Int.reduceGT, Nat.reduceBEq, Nat.reducePow, Nat.reduceGT, reduceCtorEq, ↓reduceIte, t0, t1]
@[reducible] def kVl : Kn := .cat (.int .i64) (.cat (.int .i64) .str)
theorem vl_of {h : Heap} {r : List V} (q : Vw h kVl r) : ∃ y, r = Vl.enc y ∧ Vl.G y := by
  obtain ⟨_, _, rfl, ⟨a, rfl, wa⟩, _, _, rfl, ⟨b, rfl, wb⟩, c, rfl, wc⟩ := q
  exact ⟨⟨a, b, c⟩, rfl, wf_i64 wa, wf_i64 wb, wc.1, fun x hx => by have := wc.2 x hx; omega⟩
theorem ArgV.vls {h : Heap} {v : V} (q : ArgV false (.slice 3 32 kVl) h v) : ∃ (p : Option (Nat × Nat)) (c : Nat) (ys : List Vl), v = .slice p ys.length (some c) ∧ Sl h p 3 Vl.enc ys ∧ ∀ y ∈ ys, y.G := by
  obtain ⟨p, c, ys, h1, h2, h3, h4, _⟩ := q.sl (by decide) Vl.enc Vl.G fun r => vl_of
  exact ⟨p, c, ys, h1, h2, h3⟩
theorem row3 {h : Heap} (a0 a1 : V) (v0 : ArgV false (.slice 3 32 kVl) h a0) (v1 : ArgV false (.slice 3 32 kVl) h a1) : WR (callE Tryd.prog hk 3 [a0, a1] h) fun r h' => r = .bool true := by
  obtain ⟨p, c, ys, rfl, hs, hg⟩ := v0.vls
  obtain ⟨q, d, zs, rfl, hs2, hg2⟩ := v1.vls
  exact law3_ok hs hs2 hg hg2
theorem row7 {h : Heap} (a0 : V) (v0 : ArgV false (.slice 3 32 kVl) h a0) : WR (callE Tryd.prog hk 7 [a0] h) fun r h' => r = .bool true := by
  obtain ⟨p, c, ys, rfl, hs, hg⟩ := v0.vls
  exact law7_ok hs hg
end Go.Proofs.YtngcicclaehpbaaDoorA
