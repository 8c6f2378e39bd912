/- Words of this session: chapter 4: key encodings. Words of this session: chapter 4: the checksum; comparing bytes. -/
import Derived.Test.YtngcicclaehpbaaDoorPC
namespace Go.Proofs.YtngcicclaehpbaaDoorA
open Go Go.Proofs Go.RowKit
set_option linter.unusedVariables false
set_option linter.unusedSimpArgs false
set_option maxRecDepth 10000
set_option maxHeartbeats 1000000
theorem shr_nat {P : Program} {ty : TypeId} {x y : Operand} {k' : IntKind} {n : Int} {b : Nat} (hn : 0 ≤ n) (hb : b ≤ 64) : binV P .shr ty x y (.int .u64 n) (.int k' (b : Int)) = some (.int .u64 (n / 2 ^ b)) := by
  rw [shr_of (by omega), Int.fdiv_eq_ediv_of_nonneg _ (Int.le_of_lt (Int.pow_pos (by decide)))]
  simp only [Int.toNat_natCast, show IntKind.u64.bits = 64 from rfl, Nat.min_eq_left hb]
theorem be8_at (n : Int) {j : Nat} (hj : j < 8) : (be8 n)[j]? = some (n / 2 ^ (56 - 8 * j) % 256) := by
  match j, hj with
  | 0, _ => rfl
  | 1, _ => rfl
  | 2, _ => rfl
  | 3, _ => rfl
  | 4, _ => rfl
  | 5, _ => rfl
  | 6, _ => rfl
  | 7, _ => simp [be8]
theorem be8_take (n : Int) {j : Nat} (hj : j < 8) : (be8 n).take (j + 1) = (be8 n).take j ++ [n / 2 ^ (56 - 8 * j) % 256] := by
  rw [List.take_add_one, be8_at n hj]; rfl
theorem appendBig_ok {b : Nat} {h : Heap} {p : Option (Nat × Nat)} {c oid : Option Nat} {ys : List Int} (g : Gr b h p c oid 1 eb ys) (hb : b ≤ h.length) {n : Int} (hn : 0 ≤ n ∧ n < 18446744073709551616) (hl : ys.length ≤ 1000000000) :
    WR (callE Tryd.prog hk 51 [.slice p ys.length c, .int .u64 n] h) (App b h oid 1 eb (ys ++ be8 n)) := by
  refine WR.call (hH := rfl) Tryd.func51 rfl (n := 18) rfl rfl (by simp) ?_
  simp -dsimp (disch := first | with_reducible assumption | omega | (intro h_; cases h_; done) | (simp only [LN] <;> omega) | (simp only [LF]; done) | (repeat (first | with_reducible assumption | apply Ext.refl | apply Ext.app | (apply Ext.set <;> omega) | (refine Ext.trans ?_ (by assumption))))) only [AX, TY, gV, dstOf, p_makeFunc, p_mapUpdate, mapPut, entsOf, p_lookup, p_extract, p_nilCheck, oneV, p_load, p_store, p_binOp, p_unOp, p_indexAddr, p_index, p_box, p_build, evParts, builtinV, load1, ldc, splice, minds, disj, rcOf, isCall, touchV, idsOf, mapId, touchB, p_buildSlice, buildSliceV, reps, fillV, p_convert, p_slice, evO, p_makeSlice, sid_some, soff_some, Nat.reduceLT, Nat.reduceLeDiff, Nat.reduceEqDiff, Nat.reduceAdd, Nat.reduceMul, Int.reduceBEq, Int.reduceEq, Int.reduceNeg, Int.reduceLT, Int.reduceLE, Int.reduceAdd, Int.reduceSub, Int.reduceMul, Int.reduceToNat, Int.reduceGT, Nat.reduceBEq, Nat.reducePow, Nat.reduceGT, reduceCtorEq, ↓reduceIte]
  refine W.loop (fun m τ hh => ∃ j : Nat, m + j = 8 ∧ τ 1 = .int .u64 n ∧ τ 5 = .int .i64 (56 - 8 * (j : Int)) ∧ App b h oid 1 eb (ys ++ (be8 n).take j) (τ 0) hh) ?_ (m := 8) ?_
  rotate_left
  · exact ⟨0, rfl, rfl, rfl, by rw [List.take_zero, List.append_nil]; exact App.of g⟩
  rintro m τ hh ⟨j, hm, t1, t5, ha0⟩
  have htl : ((be8 n).take j).length ≤ 8 := by rw [List.length_take]; exact Nat.min_le_right _ _
  generalize hL : ys ++ (be8 n).take j = L at ha0
  have hLl : L.length ≤ ys.length + 8 := by rw [← hL, List.length_append]; omega
  obtain ⟨p', c', oid', t0, gr, ho, hle, hk⟩ := ha0
  by_cases h1 : 0 ≤ 56 - 8 * (j : Int)
  · have hj : j < 8 := by omega
    have hsh : ∀ (ty : TypeId) (x y : Operand), binV Tryd.prog .shr ty x y (.int .u64 n) (.int .i64 (56 - 8 * (j : Int))) = some (.int .u64 (n / 2 ^ (56 - 8 * j))) := fun ty x y => by
      rw [show (56 : Int) - 8 * (j : Int) = ((56 - 8 * j : Nat) : Int) by omega]
      exact shr_nat hn.1 (by omega)
    have hw : IntKind.u8.wrap (n / 2 ^ (56 - 8 * j)) = n / 2 ^ (56 - 8 * j) % 256 := w_u8 _
    simp -dsimp (disch := first | with_reducible assumption | omega | (intro h_; cases h_; done) | (simp only [LN] <;> omega) | (simp only [LF]; done) | (repeat (first | with_reducible assumption | apply Ext.refl | apply Ext.app | (apply Ext.set <;> omega) | (refine Ext.trans ?_ (by assumption))))) only [AX, TY, gV, dstOf, p_makeFunc, p_mapUpdate, mapPut, entsOf, p_lookup, p_extract, p_nilCheck, oneV, p_load, p_store, p_binOp, p_unOp, p_indexAddr, p_index, p_box, p_build, evParts, builtinV, load1, ldc, splice, minds, disj, rcOf, isCall, touchV, idsOf, mapId, touchB, p_buildSlice, buildSliceV, reps, fillV, p_convert, p_slice, evO, p_makeSlice, sid_some, soff_some, Nat.reduceLT, Nat.reduceLeDiff, Nat.reduceEqDiff, Nat.reduceAdd, Nat.reduceMul, Int.reduceBEq, Int.reduceEq, Int.reduceNeg, Int.reduceLT, Int.reduceLE, Int.reduceAdd, Int.reduceSub, Int.reduceMul, Int.reduceToNat, Int.reduceGT, Nat.reduceBEq, Nat.reducePow, Nat.reduceGT, reduceCtorEq, ↓reduceIte, t0, t1, t5, h1, hsh, hw]
    refine (gr.wrB (by omega) (hh := hh ++ [O.cells [V.int IntKind.u8 (n / 2 ^ (56 - 8 * j) % 256)] Kd.rw]) (by (repeat (first | assumption | apply Ext.refl | apply Ext.app | (apply Ext.set <;> omega) | exact Ext.trans (by assumption) (by assumption) | (refine Ext.trans ?_ (by assumption))))) [n / 2 ^ (56 - 8 * j) % 256] (snoc_last _ rfl) rfl (eb_w _) (eb_l _) (by simp only [List.length_cons, List.length_nil]; omega) (by simp only [List.length_cons, List.length_nil]; omega)).mono ?_
    intro r h2 ha
    have ha2 := App.trans ho hle hk ha
    rw [← hL, List.append_assoc, ← be8_take n hj] at ha2
    simp -dsimp (disch := first | with_reducible assumption | omega | (intro h_; cases h_; done) | (simp only [LN] <;> omega) | (simp only [LF]; done) | (repeat (first | with_reducible assumption | apply Ext.refl | apply Ext.app | (apply Ext.set <;> omega) | (refine Ext.trans ?_ (by assumption))))) only [AX, TY, gV, dstOf, p_makeFunc, p_mapUpdate, mapPut, entsOf, p_lookup, p_extract, p_nilCheck, oneV, p_load, p_store, p_binOp, p_unOp, p_indexAddr, p_index, p_box, p_build, evParts, builtinV, load1, ldc, splice, minds, disj, rcOf, isCall, touchV, idsOf, mapId, touchB, p_buildSlice, buildSliceV, reps, fillV, p_convert, p_slice, evO, p_makeSlice, sid_some, soff_some, Nat.reduceLT, Nat.reduceLeDiff, Nat.reduceEqDiff, Nat.reduceAdd, Nat.reduceMul, Int.reduceBEq, Int.reduceEq, Int.reduceNeg, Int.reduceLT, Int.reduceLE, Int.reduceAdd, Int.reduceSub, Int.reduceMul, Int.reduceToNat, Int.reduceGT, Nat.reduceBEq, Nat.reducePow, Nat.reduceGT, reduceCtorEq, ↓reduceIte, t0, t1, t5, wrap_in]
    exact ⟨m - 1, by omega, j + 1, by omega, by congr 1; omega, ha2⟩
  · have hj : j = 8 := by omega
    subst hj
    have hL' : ys ++ be8 n = L := hL
    simp -dsimp (disch := first | with_reducible assumption | omega | (intro h_; cases h_; done) | (simp only [LN] <;> omega) | (simp only [LF]; done) | (repeat (first | with_reducible assumption | apply Ext.refl | apply Ext.app | (apply Ext.set <;> omega) | (refine Ext.trans ?_ (by assumption))))) only [AX, TY, gV, dstOf, p_makeFunc, p_mapUpdate, mapPut, entsOf, p_lookup, p_extract, p_nilCheck, oneV, p_load, p_store, p_binOp, p_unOp, p_indexAddr, p_index, p_box, p_build, evParts, builtinV, load1, ldc, splice, minds, disj, rcOf, isCall, touchV, idsOf, mapId, touchB, p_buildSlice, buildSliceV, reps, fillV, p_convert, p_slice, evO, p_makeSlice, sid_some, soff_some, Nat.reduceLT, Nat.reduceLeDiff, Nat.reduceEqDiff, Nat.reduceAdd, Nat.reduceMul, Int.reduceBEq, Int.reduceEq, Int.reduceNeg, Int.reduceLT, Int.reduceLE, Int.reduceAdd, Int.reduceSub, Int.reduceMul, Int.reduceToNat, Int.reduceGT, Nat.reduceBEq, Nat.reducePow, Nat.reduceGT, reduceCtorEq, ↓reduceIte, t0, t1, t5, h1]
    rw [hL']
    exact ⟨p', c', oid', rfl, gr, ho, hle, hk⟩
theorem rs_str {h : Heap} (s : List Int) (hl : s.length ≤ 140737488355328) : Rs (h ++ [O.cells (s.map (V.int .u8)) (.gr 1)]) (some (h.length, 0)) none 1 eb s := by
  have hb : (h ++ [O.cells (s.map (V.int .u8)) (.gr 1)])[h.length]? = some (.cells (s.map (V.int .u8)) (.gr 1)) := snoc_last _ rfl
  exact ⟨.whole hb (eb_w _) (map_eb s) hl, fun n e => (by cases e), fun _ => fits_gr hb⟩
theorem appendKey_ok {b : Nat} {h : Heap} {p : Option (Nat × Nat)} {c oid : Option Nat} {ys : List Int} (g : Gr b h p c oid 1 eb ys) (hb : b ≤ h.length) {v : Vl} (hv : validV v = true) (hg : v.G) (hl : ys.length ≤ 100000000) :
    WR (callE Tryd.prog hk 40 [.slice p ys.length c, .agg v.enc] h) (App b h oid 1 eb (ys ++ keyV v)) := by
  have hi := hg.2.1
  have ex : Ext h (h ++ [O.cells v.enc Kd.rw]) := (by (repeat (first | assumption | apply Ext.refl | apply Ext.app | (apply Ext.set <;> omega) | exact Ext.trans (by assumption) (by assumption) | (refine Ext.trans ?_ (by assumption)))))
  refine WR.mono (K := App b (h ++ [O.cells v.enc Kd.rw]) oid 1 eb (ys ++ keyV v)) ?_ fun r h' a => a.base ex
  have gx : (h ++ [O.cells v.enc Kd.rw])[h.length]? = some (.cells v.enc .rw) := snoc_last _ rfl
  have gr := g.ext ex
  have lx := lt_of_some gx
  have hno : ∀ {i : Nat}, oid = some i → i ≠ h.length := fun e => by have := g.lt e; omega
  refine WR.call (hH := rfl) Tryd.func40 rfl (n := 39) rfl rfl (by simp) ?_
  unfold Vl.enc at *
  generalize hbx : h ++ [O.cells [V.int .i64 v.kind, V.int .i64 v.int, V.str v.text] Kd.rw] = h1 at gx ex gr lx
  rcases valid_cases hv with ⟨k0, k1⟩ | ⟨k0, k1, k2⟩ | ⟨k0, k1, k2⟩
  · simp -dsimp (disch := first | with_reducible assumption | omega | (intro h_; cases h_; done) | (simp only [LN] <;> omega) | (simp only [LF]; done) | (repeat (first | with_reducible assumption | apply Ext.refl | apply Ext.app | (apply Ext.set <;> omega) | (refine Ext.trans ?_ (by assumption))))) only [AX, TY, gV, dstOf, p_makeFunc, p_mapUpdate, mapPut, entsOf, p_lookup, p_extract, p_nilCheck, oneV, p_load, p_store, p_binOp, p_unOp, p_indexAddr, p_index, p_box, p_build, evParts, builtinV, load1, ldc, splice, minds, disj, rcOf, isCall, touchV, idsOf, mapId, touchB, p_buildSlice, buildSliceV, reps, fillV, p_convert, p_slice, evO, p_makeSlice, sid_some, soff_some, Nat.reduceLT, Nat.reduceLeDiff, Nat.reduceEqDiff, Nat.reduceAdd, Nat.reduceMul, Int.reduceBEq, Int.reduceEq, Int.reduceNeg, Int.reduceLT, Int.reduceLE, Int.reduceAdd, Int.reduceSub, Int.reduceMul, Int.reduceToNat, Int.reduceGT, Nat.reduceBEq, Nat.reducePow, Nat.reduceGT, reduceCtorEq, ↓reduceIte, hbx, loadN_fact gx, eq_true k0]
    refine W.drawn [(0, []), (1, [0]), (2, []), (3, [2, 1, 0]), (4, [2, 1, 0]), (5, [2, 1, 0]), (6, [2, 1, 0]), (7, []), (8, [])] (by decide +kernel) ?_
    have hw : IntKind.u64.wrap (IntKind.u64.wrap v.int + 9223372036854775808) = v.int + 9223372036854775808 := by rw [w_u64, w_u64]; omega
    simp -dsimp (disch := first | with_reducible assumption | omega | (intro h_; cases h_; done) | (simp only [LN] <;> omega) | (simp only [LF]; done) | (repeat (first | with_reducible assumption | apply Ext.refl | apply Ext.app | (apply Ext.set <;> omega) | (refine Ext.trans ?_ (by assumption))))) only [AX, TY, gV, dstOf, p_makeFunc, p_mapUpdate, mapPut, entsOf, p_lookup, p_extract, p_nilCheck, oneV, p_load, p_store, p_binOp, p_unOp, p_indexAddr, p_index, p_box, p_build, evParts, builtinV, load1, ldc, splice, minds, disj, rcOf, isCall, touchV, idsOf, mapId, touchB, p_buildSlice, buildSliceV, reps, fillV, p_convert, p_slice, evO, p_makeSlice, sid_some, soff_some, Nat.reduceLT, Nat.reduceLeDiff, Nat.reduceEqDiff, Nat.reduceAdd, Nat.reduceMul, Int.reduceBEq, Int.reduceEq, Int.reduceNeg, Int.reduceLT, Int.reduceLE, Int.reduceAdd, Int.reduceSub, Int.reduceMul, Int.reduceToNat, Int.reduceGT, Nat.reduceBEq, Nat.reducePow, Nat.reduceGT, reduceCtorEq, ↓reduceIte, hw]
    refine (gr.wrB (by omega) (hh := h1 ++ [O.cells [V.int IntKind.u8 1] Kd.rw]) (by (repeat (first | assumption | apply Ext.refl | apply Ext.app | (apply Ext.set <;> omega) | exact Ext.trans (by assumption) (by assumption) | (refine Ext.trans ?_ (by assumption))))) [1] (snoc_last _ rfl) rfl (eb_w _) (eb_l _) (by simp; omega) (by simp; omega)).mono ?_
    rintro _ h2 ⟨p2, c2, oid2, rfl, gr2, ho2, hl2, hk2⟩
    have gx2 : h2[h.length]? = _ := (hk2 h.length (fun e => hno e rfl) lx).trans gx
    have hm := fun x => gr.muts x (fun x => !x == h.length) fun id e => by simp [hno e]
    simp -dsimp (disch := first | with_reducible assumption | omega | (intro h_; cases h_; done) | (simp only [LN] <;> omega) | (simp only [LF]; done) | (repeat (first | with_reducible assumption | apply Ext.refl | apply Ext.app | (apply Ext.set <;> omega) | (refine Ext.trans ?_ (by assumption))))) only [AX, TY, gV, dstOf, p_makeFunc, p_mapUpdate, mapPut, entsOf, p_lookup, p_extract, p_nilCheck, oneV, p_load, p_store, p_binOp, p_unOp, p_indexAddr, p_index, p_box, p_build, evParts, builtinV, load1, ldc, splice, minds, disj, rcOf, isCall, touchV, idsOf, mapId, touchB, p_buildSlice, buildSliceV, reps, fillV, p_convert, p_slice, evO, p_makeSlice, sid_some, soff_some, Nat.reduceLT, Nat.reduceLeDiff, Nat.reduceEqDiff, Nat.reduceAdd, Nat.reduceMul, Int.reduceBEq, Int.reduceEq, Int.reduceNeg, Int.reduceLT, Int.reduceLE, Int.reduceAdd, Int.reduceSub, Int.reduceMul, Int.reduceToNat, Int.reduceGT, Nat.reduceBEq, Nat.reducePow, Nat.reduceGT, reduceCtorEq, ↓reduceIte, loadN_fact gx2, hw, hm]
    have hap := appendBig_ok gr2 (by omega) (n := v.int + 9223372036854775808) (by omega) (by simp; omega)
    rw [List.length_append] at hap
    refine hap.mono ?_
    intro r h3 ha
    have ha2 := App.trans ho2 hl2 hk2 ha
    have hkv : ys ++ keyV v = ys ++ [1] ++ be8 (v.int + 9223372036854775808) := by rw [keyV, if_pos k0]; simp
    simp -dsimp (disch := first | with_reducible assumption | omega | (intro h_; cases h_; done) | (simp only [LN] <;> omega) | (simp only [LF]; done) | (repeat (first | with_reducible assumption | apply Ext.refl | apply Ext.app | (apply Ext.set <;> omega) | (refine Ext.trans ?_ (by assumption))))) only [AX, TY, gV, dstOf, p_makeFunc, p_mapUpdate, mapPut, entsOf, p_lookup, p_extract, p_nilCheck, oneV, p_load, p_store, p_binOp, p_unOp, p_indexAddr, p_index, p_box, p_build, evParts, builtinV, load1, ldc, splice, minds, disj, rcOf, isCall, touchV, idsOf, mapId, touchB, p_buildSlice, buildSliceV, reps, fillV, p_convert, p_slice, evO, p_makeSlice, sid_some, soff_some, Nat.reduceLT, Nat.reduceLeDiff, Nat.reduceEqDiff, Nat.reduceAdd, Nat.reduceMul, Int.reduceBEq, Int.reduceEq, Int.reduceNeg, Int.reduceLT, Int.reduceLE, Int.reduceAdd, Int.reduceSub, Int.reduceMul, Int.reduceToNat, Int.reduceGT, Nat.reduceBEq, Nat.reducePow, Nat.reduceGT, reduceCtorEq, ↓reduceIte, hm]
    rw [hkv]; exact ha2
  · have k3 : ¬ v.kind = 0 := by omega
    simp -dsimp (disch := first | with_reducible assumption | omega | (intro h_; cases h_; done) | (simp only [LN] <;> omega) | (simp only [LF]; done) | (repeat (first | with_reducible assumption | apply Ext.refl | apply Ext.app | (apply Ext.set <;> omega) | (refine Ext.trans ?_ (by assumption))))) only [AX, TY, gV, dstOf, p_makeFunc, p_mapUpdate, mapPut, entsOf, p_lookup, p_extract, p_nilCheck, oneV, p_load, p_store, p_binOp, p_unOp, p_indexAddr, p_index, p_box, p_build, evParts, builtinV, load1, ldc, splice, minds, disj, rcOf, isCall, touchV, idsOf, mapId, touchB, p_buildSlice, buildSliceV, reps, fillV, p_convert, p_slice, evO, p_makeSlice, sid_some, soff_some, Nat.reduceLT, Nat.reduceLeDiff, Nat.reduceEqDiff, Nat.reduceAdd, Nat.reduceMul, Int.reduceBEq, Int.reduceEq, Int.reduceNeg, Int.reduceLT, Int.reduceLE, Int.reduceAdd, Int.reduceSub, Int.reduceMul, Int.reduceToNat, Int.reduceGT, Nat.reduceBEq, Nat.reducePow, Nat.reduceGT, reduceCtorEq, ↓reduceIte, hbx, loadN_fact gx, k3, eq_true k0]
    refine (gr.wrB (by omega) (hh := h1 ++ [O.cells [V.int IntKind.u8 2] Kd.rw]) (by (repeat (first | assumption | apply Ext.refl | apply Ext.app | (apply Ext.set <;> omega) | exact Ext.trans (by assumption) (by assumption) | (refine Ext.trans ?_ (by assumption))))) [2] (snoc_last _ rfl) rfl (eb_w _) (eb_l _) (by simp; omega) (by simp; omega)).mono ?_
    rintro _ h2 ⟨p2, c2, oid2, rfl, gr2, ho2, hl2, hk2⟩
    have gx2 : h2[h.length]? = _ := (hk2 h.length (fun e => hno e rfl) lx).trans gx
    have hbt : Bt v.text := hg.2.2.2
    simp -dsimp (disch := first | with_reducible assumption | omega | (intro h_; cases h_; done) | (simp only [LN] <;> omega) | (simp only [LF]; done) | (repeat (first | with_reducible assumption | apply Ext.refl | apply Ext.app | (apply Ext.set <;> omega) | (refine Ext.trans ?_ (by assumption))))) only [AX, TY, gV, dstOf, p_makeFunc, p_mapUpdate, mapPut, entsOf, p_lookup, p_extract, p_nilCheck, oneV, p_load, p_store, p_binOp, p_unOp, p_indexAddr, p_index, p_box, p_build, evParts, builtinV, load1, ldc, splice, minds, disj, rcOf, isCall, touchV, idsOf, mapId, touchB, p_buildSlice, buildSliceV, reps, fillV, p_convert, p_slice, evO, p_makeSlice, sid_some, soff_some, Nat.reduceLT, Nat.reduceLeDiff, Nat.reduceEqDiff, Nat.reduceAdd, Nat.reduceMul, Int.reduceBEq, Int.reduceEq, Int.reduceNeg, Int.reduceLT, Int.reduceLE, Int.reduceAdd, Int.reduceSub, Int.reduceMul, Int.reduceToNat, Int.reduceGT, Nat.reduceBEq, Nat.reducePow, Nat.reduceGT, reduceCtorEq, ↓reduceIte, loadN_fact gx2]
    have hrs := rs_str (h := h2) v.text (by omega)
    generalize hst : h2 ++ [O.cells (v.text.map (V.int .u8)) (.gr 1)] = h3 at hrs
    have e23 : Ext h2 h3 := by rw [← hst]; exact (by (repeat (first | assumption | apply Ext.refl | apply Ext.app | (apply Ext.set <;> omega) | exact Ext.trans (by assumption) (by assumption) | (refine Ext.trans ?_ (by assumption)))))
    have hl3 : h3.length = h2.length + 1 := by rw [← hst]; simp
    have ho : Sl (h3 ++ [O.cells [V.int IntKind.u8 0] Kd.rw] ++ [O.cells [V.int IntKind.u8 0, V.int IntKind.u8 255] Kd.rw]) (some (h2.length + 1, 0)) 1 eb [0] := Sl.whole (by rw [snoc_old _ (by simp; omega)]; exact snoc_last _ hl3.symm) (eb_w _) rfl (by simp)
    have hnw : Sl (h3 ++ [O.cells [V.int IntKind.u8 0] Kd.rw] ++ [O.cells [V.int IntKind.u8 0, V.int IntKind.u8 255] Kd.rw]) (some (h2.length + 1 + 1, 0)) 1 eb [0, 255] := Sl.whole (snoc_last _ (by simp; omega)) (eb_w _) rfl (by simp)
    have e34 : Ext h3 (h3 ++ [O.cells [V.int IntKind.u8 0] Kd.rw] ++ [O.cells [V.int IntKind.u8 0, V.int IntKind.u8 255] Kd.rw]) := (by (repeat (first | assumption | apply Ext.refl | apply Ext.app | (apply Ext.set <;> omega) | exact Ext.trans (by assumption) (by assumption) | (refine Ext.trans ?_ (by assumption)))))
    have hle3 := e23.le
    refine (replaceAll_ok (hrs.ext e34) hbt ho hnw (by omega)).mono ?_
    rintro _ h5 ⟨e5, p5, c5, rfl, rs5⟩
    have hesc := esc_len v.text
    have e25 : Ext h2 h5 := e23.trans (e34.trans e5)
    simp -dsimp (disch := first | with_reducible assumption | omega | (intro h_; cases h_; done) | (simp only [LN] <;> omega) | (simp only [LF]; done) | (repeat (first | with_reducible assumption | apply Ext.refl | apply Ext.app | (apply Ext.set <;> omega) | (refine Ext.trans ?_ (by assumption))))) only [AX, TY, gV, dstOf, p_makeFunc, p_mapUpdate, mapPut, entsOf, p_lookup, p_extract, p_nilCheck, oneV, p_load, p_store, p_binOp, p_unOp, p_indexAddr, p_index, p_box, p_build, evParts, builtinV, load1, ldc, splice, minds, disj, rcOf, isCall, touchV, idsOf, mapId, touchB, p_buildSlice, buildSliceV, reps, fillV, p_convert, p_slice, evO, p_makeSlice, sid_some, soff_some, Nat.reduceLT, Nat.reduceLeDiff, Nat.reduceEqDiff, Nat.reduceAdd, Nat.reduceMul, Int.reduceBEq, Int.reduceEq, Int.reduceNeg, Int.reduceLT, Int.reduceLE, Int.reduceAdd, Int.reduceSub, Int.reduceMul, Int.reduceToNat, Int.reduceGT, Nat.reduceBEq, Nat.reducePow, Nat.reduceGT, reduceCtorEq, ↓reduceIte]
    have hap := gr2.wrS (bytes := 1) (vc := c5) (by omega) e25 rs5.sl (eb_l _) (by simp; omega) (by simp; omega)
    rw [List.length_append] at hap
    refine hap.mono ?_
    rintro _ h6 ⟨p6, c6, oid6, rfl, gr6, ho6, hl6, hk6⟩
    simp -dsimp (disch := first | with_reducible assumption | omega | (intro h_; cases h_; done) | (simp only [LN] <;> omega) | (simp only [LF]; done) | (repeat (first | with_reducible assumption | apply Ext.refl | apply Ext.app | (apply Ext.set <;> omega) | (refine Ext.trans ?_ (by assumption))))) only [AX, TY, gV, dstOf, p_makeFunc, p_mapUpdate, mapPut, entsOf, p_lookup, p_extract, p_nilCheck, oneV, p_load, p_store, p_binOp, p_unOp, p_indexAddr, p_index, p_box, p_build, evParts, builtinV, load1, ldc, splice, minds, disj, rcOf, isCall, touchV, idsOf, mapId, touchB, p_buildSlice, buildSliceV, reps, fillV, p_convert, p_slice, evO, p_makeSlice, sid_some, soff_some, Nat.reduceLT, Nat.reduceLeDiff, Nat.reduceEqDiff, Nat.reduceAdd, Nat.reduceMul, Int.reduceBEq, Int.reduceEq, Int.reduceNeg, Int.reduceLT, Int.reduceLE, Int.reduceAdd, Int.reduceSub, Int.reduceMul, Int.reduceToNat, Int.reduceGT, Nat.reduceBEq, Nat.reducePow, Nat.reduceGT, reduceCtorEq, ↓reduceIte]
    have hap := gr6.wrB (by omega) (hh := h6 ++ [O.cells [V.int IntKind.u8 0, V.int IntKind.u8 1] Kd.rw]) (bytes := 1) (vc := some 2) (n := 2) (by (repeat (first | assumption | apply Ext.refl | apply Ext.app | (apply Ext.set <;> omega) | exact Ext.trans (by assumption) (by assumption) | (refine Ext.trans ?_ (by assumption))))) [0, 1] (snoc_last _ rfl) rfl (eb_w _) (eb_l _) (by simp; omega) (by simp; omega)
    simp only [List.length_append] at hap
    refine hap.mono ?_
    intro r h7 ha
    have ha2 := App.trans ho2 hl2 hk2 (App.trans ho6 hl6 hk6 ha)
    have hkv : ys ++ keyV v = ys ++ [2] ++ esc v.text ++ [0, 1] := by rw [keyV, if_neg k3, if_pos k0]; simp
    simp -dsimp (disch := first | with_reducible assumption | omega | (intro h_; cases h_; done) | (simp only [LN] <;> omega) | (simp only [LF]; done) | (repeat (first | with_reducible assumption | apply Ext.refl | apply Ext.app | (apply Ext.set <;> omega) | (refine Ext.trans ?_ (by assumption))))) only [AX, TY, gV, dstOf, p_makeFunc, p_mapUpdate, mapPut, entsOf, p_lookup, p_extract, p_nilCheck, oneV, p_load, p_store, p_binOp, p_unOp, p_indexAddr, p_index, p_box, p_build, evParts, builtinV, load1, ldc, splice, minds, disj, rcOf, isCall, touchV, idsOf, mapId, touchB, p_buildSlice, buildSliceV, reps, fillV, p_convert, p_slice, evO, p_makeSlice, sid_some, soff_some, Nat.reduceLT, Nat.reduceLeDiff, Nat.reduceEqDiff, Nat.reduceAdd, Nat.reduceMul, Int.reduceBEq, Int.reduceEq, Int.reduceNeg, Int.reduceLT, Int.reduceLE, Int.reduceAdd, Int.reduceSub, Int.reduceMul, Int.reduceToNat, Int.reduceGT, Nat.reduceBEq, Nat.reducePow, Nat.reduceGT, reduceCtorEq, ↓reduceIte]
    rw [hkv]; exact ha2
  · have k3 : ¬ v.kind = 0 := by omega
    have k4 : ¬ v.kind = 1 := by omega
    simp -dsimp (disch := first | with_reducible assumption | omega | (intro h_; cases h_; done) | (simp only [LN] <;> omega) | (simp only [LF]; done) | (repeat (first | with_reducible assumption | apply Ext.refl | apply Ext.app | (apply Ext.set <;> omega) | (refine Ext.trans ?_ (by assumption))))) only [AX, TY, gV, dstOf, p_makeFunc, p_mapUpdate, mapPut, entsOf, p_lookup, p_extract, p_nilCheck, oneV, p_load, p_store, p_binOp, p_unOp, p_indexAddr, p_index, p_box, p_build, evParts, builtinV, load1, ldc, splice, minds, disj, rcOf, isCall, touchV, idsOf, mapId, touchB, p_buildSlice, buildSliceV, reps, fillV, p_convert, p_slice, evO, p_makeSlice, sid_some, soff_some, Nat.reduceLT, Nat.reduceLeDiff, Nat.reduceEqDiff, Nat.reduceAdd, Nat.reduceMul, Int.reduceBEq, Int.reduceEq, Int.reduceNeg, Int.reduceLT, Int.reduceLE, Int.reduceAdd, Int.reduceSub, Int.reduceMul, Int.reduceToNat, Int.reduceGT, Nat.reduceBEq, Nat.reducePow, Nat.reduceGT, reduceCtorEq, ↓reduceIte, hbx, loadN_fact gx, k3, k4]
    have hap := gr.wrB (by omega) (hh := h1 ++ [O.cells [V.int IntKind.u8 3, V.int IntKind.u8 (IntKind.u8.wrap v.int)] Kd.rw]) (bytes := 1) (vc := some 2) (n := 2) (by (repeat (first | assumption | apply Ext.refl | apply Ext.app | (apply Ext.set <;> omega) | exact Ext.trans (by assumption) (by assumption) | (refine Ext.trans ?_ (by assumption))))) [3, IntKind.u8.wrap v.int] (snoc_last _ rfl) rfl (eb_w _) (eb_l _) (by simp; omega) (by simp; omega)
    refine hap.mono ?_
    intro r h7 ha
    have hkv : ys ++ keyV v = ys ++ [3, IntKind.u8.wrap v.int] := by rw [keyV, if_neg k3, if_neg k4, w_u8]
    simp -dsimp (disch := first | with_reducible assumption | omega | (intro h_; cases h_; done) | (simp only [LN] <;> omega) | (simp only [LF]; done) | (repeat (first | with_reducible assumption | apply Ext.refl | apply Ext.app | (apply Ext.set <;> omega) | (refine Ext.trans ?_ (by assumption))))) only [AX, TY, gV, dstOf, p_makeFunc, p_mapUpdate, mapPut, entsOf, p_lookup, p_extract, p_nilCheck, oneV, p_load, p_store, p_binOp, p_unOp, p_indexAddr, p_index, p_box, p_build, evParts, builtinV, load1, ldc, splice, minds, disj, rcOf, isCall, touchV, idsOf, mapId, touchB, p_buildSlice, buildSliceV, reps, fillV, p_convert, p_slice, evO, p_makeSlice, sid_some, soff_some, Nat.reduceLT, Nat.reduceLeDiff, Nat.reduceEqDiff, Nat.reduceAdd, Nat.reduceMul, Int.reduceBEq, Int.reduceEq, Int.reduceNeg, Int.reduceLT, Int.reduceLE, Int.reduceAdd, Int.reduceSub, Int.reduceMul, Int.reduceToNat, Int.reduceGT, Nat.reduceBEq, Nat.reducePow, Nat.reduceGT, reduceCtorEq, ↓reduceIte]
    rw [hkv]; exact ha
structure LEK (h0 : Heap) (p : Option (Nat × Nat)) (c : Option Nat) (ys : List Vl) (i : Nat) (τ : Tp) (hh : Heap) : Prop where
  t9 : τ 9 = .slice p ys.length c
  t10 : τ 10 = .int .i64 ys.length
  t11 : τ 11 = .int .i64 i
  app : App h0.length h0 none 1 eb (keyL (ys.take i)) (τ 3) hh
theorem keyV_len {v : Vl} (hv : validV v = true) : (keyV v).length ≤ 513 := by
  unfold keyV
  rcases valid_cases hv with ⟨k0, k1⟩ | ⟨k0, k1, k2⟩ | ⟨k0, k1, k2⟩
  · rw [if_pos k0]; simp [be8]
  · rw [if_neg (by omega), if_pos k0]
    have := esc_len v.text
    simp only [List.length_cons, List.length_append, List.length_nil]; omega
  · rw [if_neg (by omega), if_neg (by omega)]; simp
theorem keyL_len {l : List Vl} (hv : l.all validV = true) : (keyL l).length ≤ 513 * l.length := by
  induction l with
  | nil => simp [keyL]
  | cons v l ih =>
    simp only [List.all_cons, Bool.and_eq_true] at hv
    have := keyV_len hv.1
    have := ih hv.2
    simp only [keyL, List.flatMap_cons, List.length_append, List.length_cons] at *; omega
theorem keyL_snoc {ys : List Vl} {i : Nat} (hi : i < ys.length) : keyL (ys.take (i + 1)) = keyL (ys.take i) ++ keyV ys[i] := by
  rw [List.take_succ_eq_append_getElem hi, keyL, List.flatMap_append]; simp [keyL]
theorem all_take {ys : List Vl} (h : ys.all validV = true) (i : Nat) : (ys.take i).all validV = true := by
  rw [List.all_eq_true] at h ⊢
  exact fun v hv => h v (List.mem_of_mem_take hv)
theorem encKey_ok {h : Heap} {p : Option (Nat × Nat)} {c : Option Nat} {ys : List Vl} (hs : Sl h p 3 Vl.enc ys) (hg : ∀ y ∈ ys, y.G) (hl : ys.length ≤ 10000) :
    WR (callE Tryd.prog hk 14 [.slice p ys.length c] h) fun r h' => Ext h h' ∧ ∃ p' c' oid, r = .slice p' (encKey ys).length c' ∧ Gr h.length h' p' c' oid 1 eb (encKey ys) := by
  have hn := hs.nil'
  refine WR.call (hH := rfl) Tryd.func14 rfl (n := 20) rfl rfl (by simp) ?_
  simp -dsimp (disch := first | with_reducible assumption | omega | (intro h_; cases h_; done) | (simp only [LN] <;> omega) | (simp only [LF]; done) | (repeat (first | with_reducible assumption | apply Ext.refl | apply Ext.app | (apply Ext.set <;> omega) | (refine Ext.trans ?_ (by assumption))))) only [AX, TY, gV, dstOf, p_makeFunc, p_mapUpdate, mapPut, entsOf, p_lookup, p_extract, p_nilCheck, oneV, p_load, p_store, p_binOp, p_unOp, p_indexAddr, p_index, p_box, p_build, evParts, builtinV, load1, ldc, splice, minds, disj, rcOf, isCall, touchV, idsOf, mapId, touchB, p_buildSlice, buildSliceV, reps, fillV, p_convert, p_slice, evO, p_makeSlice, sid_some, soff_some, Nat.reduceLT, Nat.reduceLeDiff, Nat.reduceEqDiff, Nat.reduceAdd, Nat.reduceMul, Int.reduceBEq, Int.reduceEq, Int.reduceNeg, Int.reduceLT, Int.reduceLE, Int.reduceAdd, Int.reduceSub, Int.reduceMul, Int.reduceToNat, Int.reduceGT, Nat.reduceBEq, Nat.reducePow, Nat.reduceGT, reduceCtorEq, ↓reduceIte]
  refine (allValid_ok hs).mono ?_
  rintro _ h1 ⟨e1, rfl⟩
  cases hv : ys.all validV
  · simp -dsimp (disch := first | with_reducible assumption | omega | (intro h_; cases h_; done) | (simp only [LN] <;> omega) | (simp only [LF]; done) | (repeat (first | with_reducible assumption | apply Ext.refl | apply Ext.app | (apply Ext.set <;> omega) | (refine Ext.trans ?_ (by assumption))))) only [AX, TY, gV, dstOf, p_makeFunc, p_mapUpdate, mapPut, entsOf, p_lookup, p_extract, p_nilCheck, oneV, p_load, p_store, p_binOp, p_unOp, p_indexAddr, p_index, p_box, p_build, evParts, builtinV, load1, ldc, splice, minds, disj, rcOf, isCall, touchV, idsOf, mapId, touchB, p_buildSlice, buildSliceV, reps, fillV, p_convert, p_slice, evO, p_makeSlice, sid_some, soff_some, Nat.reduceLT, Nat.reduceLeDiff, Nat.reduceEqDiff, Nat.reduceAdd, Nat.reduceMul, Int.reduceBEq, Int.reduceEq, Int.reduceNeg, Int.reduceLT, Int.reduceLE, Int.reduceAdd, Int.reduceSub, Int.reduceMul, Int.reduceToNat, Int.reduceGT, Nat.reduceBEq, Nat.reducePow, Nat.reduceGT, reduceCtorEq, ↓reduceIte]
    refine ⟨e1, none, some 0, none, ?_⟩
    simp only [encKey, hv]
    exact ⟨rfl, Gr.nil _ _ _ _⟩
  simp -dsimp (disch := first | with_reducible assumption | omega | (intro h_; cases h_; done) | (simp only [LN] <;> omega) | (simp only [LF]; done) | (repeat (first | with_reducible assumption | apply Ext.refl | apply Ext.app | (apply Ext.set <;> omega) | (refine Ext.trans ?_ (by assumption))))) only [AX, TY, gV, dstOf, p_makeFunc, p_mapUpdate, mapPut, entsOf, p_lookup, p_extract, p_nilCheck, oneV, p_load, p_store, p_binOp, p_unOp, p_indexAddr, p_index, p_box, p_build, evParts, builtinV, load1, ldc, splice, minds, disj, rcOf, isCall, touchV, idsOf, mapId, touchB, p_buildSlice, buildSliceV, reps, fillV, p_convert, p_slice, evO, p_makeSlice, sid_some, soff_some, Nat.reduceLT, Nat.reduceLeDiff, Nat.reduceEqDiff, Nat.reduceAdd, Nat.reduceMul, Int.reduceBEq, Int.reduceEq, Int.reduceNeg, Int.reduceLT, Int.reduceLE, Int.reduceAdd, Int.reduceSub, Int.reduceMul, Int.reduceToNat, Int.reduceGT, Nat.reduceBEq, Nat.reducePow, Nat.reduceGT, reduceCtorEq, ↓reduceIte]
  refine W.loop (fun m τ hh => ∃ i, m + i = ys.length ∧ LEK h1 p c ys i τ hh) ?_ (m := ys.length) ?_
  rotate_left
  · refine ⟨0, by simp, ?_⟩
    constructor <;> (try first | assumption | ((repeat (first | assumption | apply Ext.refl | apply Ext.app | (apply Ext.set <;> omega) | exact Ext.trans (by assumption) (by assumption) | (refine Ext.trans ?_ (by assumption)))); done) | (refine Sl.ext (by assumption) ?_; (repeat (first | assumption | apply Ext.refl | apply Ext.app | (apply Ext.set <;> omega) | exact Ext.trans (by assumption) (by assumption) | (refine Ext.trans ?_ (by assumption)))); done) | (simp -dsimp (disch := first | with_reducible assumption | omega | (intro h_; cases h_; done) | (simp only [LN] <;> omega) | (simp only [LF]; done) | (repeat (first | with_reducible assumption | apply Ext.refl | apply Ext.app | (apply Ext.set <;> omega) | (refine Ext.trans ?_ (by assumption))))) only [AX, TY, gV, dstOf, p_makeFunc, p_mapUpdate, mapPut, entsOf, p_lookup, p_extract, p_nilCheck, oneV, p_load, p_store, p_binOp, p_unOp, p_indexAddr, p_index, p_box, p_build, evParts, builtinV, load1, ldc, splice, minds, disj, rcOf, isCall, touchV, idsOf, mapId, touchB, p_buildSlice, buildSliceV, reps, fillV, p_convert, p_slice, evO, p_makeSlice, sid_some, soff_some, Nat.reduceLT, Nat.reduceLeDiff, Nat.reduceEqDiff, Nat.reduceAdd, Nat.reduceMul, Int.reduceBEq, Int.reduceEq, Int.reduceNeg, Int.reduceLT, Int.reduceLE, Int.reduceAdd, Int.reduceSub, Int.reduceMul, Int.reduceToNat, Int.reduceGT, Nat.reduceBEq, Nat.reducePow, Nat.reduceGT, reduceCtorEq, ↓reduceIte, Int.natCast_add, Int.natCast_one, Int.natCast_zero]; try (first | assumption | with_reducible rfl)))
    · exact App.of (Gr.nil _ _ _ _)
  rintro m τ hh ⟨i, hm, t9, t10, t11, ha0⟩
  have hkl := keyL_len (all_take hv i)
  have eh : Ext h1 hh := ha0.ext (.refl _) (by simp)
  by_cases h2 : (i : Int) < (ys.length : Int)
  · have hi : i < ys.length := by omega
    have hsn := keyL_snoc hi
    have hvi : validV ys[i] = true := List.all_eq_true.1 hv _ (List.getElem_mem hi)
    have hgi := hg _ (List.getElem_mem hi)
    rw [List.length_take] at hkl
    generalize hL : keyL (ys.take i) = L at ha0 hsn hkl
    obtain ⟨p', c', oid', t3, gr, ho, hle, hk⟩ := ha0
    simp -dsimp (disch := first | with_reducible assumption | omega | (intro h_; cases h_; done) | (simp only [LN] <;> omega) | (simp only [LF]; done) | (repeat (first | with_reducible assumption | apply Ext.refl | apply Ext.app | (apply Ext.set <;> omega) | (refine Ext.trans ?_ (by assumption))))) only [AX, TY, gV, dstOf, p_makeFunc, p_mapUpdate, mapPut, entsOf, p_lookup, p_extract, p_nilCheck, oneV, p_load, p_store, p_binOp, p_unOp, p_indexAddr, p_index, p_box, p_build, evParts, builtinV, load1, ldc, splice, minds, disj, rcOf, isCall, touchV, idsOf, mapId, touchB, p_buildSlice, buildSliceV, reps, fillV, p_convert, p_slice, evO, p_makeSlice, sid_some, soff_some, Nat.reduceLT, Nat.reduceLeDiff, Nat.reduceEqDiff, Nat.reduceAdd, Nat.reduceMul, Int.reduceBEq, Int.reduceEq, Int.reduceNeg, Int.reduceLT, Int.reduceLE, Int.reduceAdd, Int.reduceSub, Int.reduceMul, Int.reduceToNat, Int.reduceGT, Nat.reduceBEq, Nat.reducePow, Nat.reduceGT, reduceCtorEq, ↓reduceIte, t3, t9, t10, t11, h2, hs.load0, Vl.enc]
    have hxx : Ext hh (hh ++ [O.cells (ys[i]).enc Kd.rw]) := (by (repeat (first | assumption | apply Ext.refl | apply Ext.app | (apply Ext.set <;> omega) | exact Ext.trans (by assumption) (by assumption) | (refine Ext.trans ?_ (by assumption)))))
    refine (appendKey_ok (gr.ext hxx) (by simp; omega) hvi hgi (by omega)).mono ?_
    intro r h3 ha
    have ha2 := App.trans ho hle hk (App.base hxx ha)
    rw [← hsn] at ha2
    simp -dsimp (disch := first | with_reducible assumption | omega | (intro h_; cases h_; done) | (simp only [LN] <;> omega) | (simp only [LF]; done) | (repeat (first | with_reducible assumption | apply Ext.refl | apply Ext.app | (apply Ext.set <;> omega) | (refine Ext.trans ?_ (by assumption))))) only [AX, TY, gV, dstOf, p_makeFunc, p_mapUpdate, mapPut, entsOf, p_lookup, p_extract, p_nilCheck, oneV, p_load, p_store, p_binOp, p_unOp, p_indexAddr, p_index, p_box, p_build, evParts, builtinV, load1, ldc, splice, minds, disj, rcOf, isCall, touchV, idsOf, mapId, touchB, p_buildSlice, buildSliceV, reps, fillV, p_convert, p_slice, evO, p_makeSlice, sid_some, soff_some, Nat.reduceLT, Nat.reduceLeDiff, Nat.reduceEqDiff, Nat.reduceAdd, Nat.reduceMul, Int.reduceBEq, Int.reduceEq, Int.reduceNeg, Int.reduceLT, Int.reduceLE, Int.reduceAdd, Int.reduceSub, Int.reduceMul, Int.reduceToNat, Int.reduceGT, Nat.reduceBEq, Nat.reducePow, Nat.reduceGT, reduceCtorEq, ↓reduceIte, t9, t10, t11, wrap_in]
    refine ⟨m - 1, by omega, i + 1, by omega, ?_⟩
    constructor <;> (try first | assumption | ((repeat (first | assumption | apply Ext.refl | apply Ext.app | (apply Ext.set <;> omega) | exact Ext.trans (by assumption) (by assumption) | (refine Ext.trans ?_ (by assumption)))); done) | (refine Sl.ext (by assumption) ?_; (repeat (first | assumption | apply Ext.refl | apply Ext.app | (apply Ext.set <;> omega) | exact Ext.trans (by assumption) (by assumption) | (refine Ext.trans ?_ (by assumption)))); done) | (simp -dsimp (disch := first | with_reducible assumption | omega | (intro h_; cases h_; done) | (simp only [LN] <;> omega) | (simp only [LF]; done) | (repeat (first | with_reducible assumption | apply Ext.refl | apply Ext.app | (apply Ext.set <;> omega) | (refine Ext.trans ?_ (by assumption))))) only [AX, TY, gV, dstOf, p_makeFunc, p_mapUpdate, mapPut, entsOf, p_lookup, p_extract, p_nilCheck, oneV, p_load, p_store, p_binOp, p_unOp, p_indexAddr, p_index, p_box, p_build, evParts, builtinV, load1, ldc, splice, minds, disj, rcOf, isCall, touchV, idsOf, mapId, touchB, p_buildSlice, buildSliceV, reps, fillV, p_convert, p_slice, evO, p_makeSlice, sid_some, soff_some, Nat.reduceLT, Nat.reduceLeDiff, Nat.reduceEqDiff, Nat.reduceAdd, Nat.reduceMul, Int.reduceBEq, Int.reduceEq, Int.reduceNeg, Int.reduceLT, Int.reduceLE, Int.reduceAdd, Int.reduceSub, Int.reduceMul, Int.reduceToNat, Int.reduceGT, Nat.reduceBEq, Nat.reducePow, Nat.reduceGT, reduceCtorEq, ↓reduceIte, t9, t10, t11, wrap_in, Int.natCast_add, Int.natCast_one, Int.natCast_zero]; try (first | assumption | with_reducible rfl)))
  · have hL : keyL (ys.take i) = encKey ys := by rw [List.take_of_length_le (by omega), encKey, hv]; rfl
    rw [hL] at ha0
    obtain ⟨p', c', oid', t3, gr, ho, hle, hk⟩ := ha0
    simp -dsimp (disch := first | with_reducible assumption | omega | (intro h_; cases h_; done) | (simp only [LN] <;> omega) | (simp only [LF]; done) | (repeat (first | with_reducible assumption | apply Ext.refl | apply Ext.app | (apply Ext.set <;> omega) | (refine Ext.trans ?_ (by assumption))))) only [AX, TY, gV, dstOf, p_makeFunc, p_mapUpdate, mapPut, entsOf, p_lookup, p_extract, p_nilCheck, oneV, p_load, p_store, p_binOp, p_unOp, p_indexAddr, p_index, p_box, p_build, evParts, builtinV, load1, ldc, splice, minds, disj, rcOf, isCall, touchV, idsOf, mapId, touchB, p_buildSlice, buildSliceV, reps, fillV, p_convert, p_slice, evO, p_makeSlice, sid_some, soff_some, Nat.reduceLT, Nat.reduceLeDiff, Nat.reduceEqDiff, Nat.reduceAdd, Nat.reduceMul, Int.reduceBEq, Int.reduceEq, Int.reduceNeg, Int.reduceLT, Int.reduceLE, Int.reduceAdd, Int.reduceSub, Int.reduceMul, Int.reduceToNat, Int.reduceGT, Nat.reduceBEq, Nat.reducePow, Nat.reduceGT, reduceCtorEq, ↓reduceIte, t3, t9, t10, t11, h2]
    exact ⟨e1.trans eh, p', c', oid', rfl, ⟨gr.sl, gr.kind, fun id q => by have := gr.base id q; have := e1.le; omega, gr.leaf⟩⟩
end Go.Proofs.YtngcicclaehpbaaDoorA
namespace Go.Proofs.YtngcicclaehpbaaDoorA
open Go Go.Proofs Go.RowKit
set_option linter.unusedVariables false
set_option linter.unusedSimpArgs false
set_option maxRecDepth 10000
set_option maxHeartbeats 1000000
/-! ### CRC-32C -/
def crcR (s : Nat) : Nat := if s % 2 = 1 then s / 2 ^^^ 2197175160 else s / 2
def crcN : Nat → Nat → Nat
  | 0, s => s
  | n + 1, s => crcN n (crcR s)
def crcStep (s : Nat) (b : Int) : Nat := crcN 8 (s ^^^ b.toNat)
def crc (l : List Int) : Nat := 4294967295 ^^^ l.foldl crcStep 4294967295
theorem xor_lt {a b : Nat} (ha : a < 4294967296) (hb : b < 4294967296) : a ^^^ b < 4294967296 := Nat.xor_lt_two_pow (n := 32) ha hb
theorem crcR_lt {s : Nat} (h : s < 4294967296) : crcR s < 4294967296 := by
  unfold crcR; split
  · exact xor_lt (by omega) (by decide)
  · omega
theorem crcN_lt (n : Nat) : ∀ {s : Nat}, s < 4294967296 → crcN n s < 4294967296 := by
  induction n with
  | zero => exact fun h => h
  | succ n ih => exact fun h => ih (crcR_lt h)
theorem xor_cancel {a b c : Nat} (h : a ^^^ c = b ^^^ c) : a = b := by
  have := congrArg (· ^^^ c) h
  simpa [Nat.xor_assoc] using this
theorem xor_cancel' {a b c : Nat} (h : c ^^^ a = c ^^^ b) : a = b := by
  rw [Nat.xor_comm c a, Nat.xor_comm c b] at h
  exact xor_cancel h
theorem xor_top {a : Nat} (h : a < 2147483648) : 2147483648 ≤ a ^^^ 2197175160 := by
  rcases Nat.lt_or_ge (a ^^^ 2197175160) 2147483648 with h1 | h1
  · have h2 : a ^^^ (a ^^^ 2197175160) < 2 ^ 31 := Nat.xor_lt_two_pow (by omega) (by omega)
    rw [← Nat.xor_assoc, Nat.xor_self, Nat.zero_xor] at h2
    omega
  · exact h1
theorem crcR_inj {a b : Nat} (ha : a < 4294967296) (hb : b < 4294967296) (h : crcR a = crcR b) : a = b := by
  have ta := xor_top (show a / 2 < 2147483648 by omega)
  have tb := xor_top (show b / 2 < 2147483648 by omega)
  unfold crcR at h
  split at h <;> split at h
  · have := xor_cancel h; omega
  · omega
  · omega
  · omega
theorem crcN_inj (n : Nat) : ∀ {a b : Nat}, a < 4294967296 → b < 4294967296 → crcN n a = crcN n b → a = b := by
  induction n with
  | zero => exact fun _ _ h => h
  | succ n ih => exact fun ha hb h => crcR_inj ha hb (ih (crcR_lt ha) (crcR_lt hb) h)
theorem crcStep_lt {s : Nat} {b : Int} (h : s < 4294967296) (hb : 0 ≤ b ∧ b < 256) : crcStep s b < 4294967296 := crcN_lt 8 (xor_lt h (by omega))
theorem crcFold_lt {l : List Int} (hl : Bt l) : ∀ {s : Nat}, s < 4294967296 → l.foldl crcStep s < 4294967296 := by
  induction l with
  | nil => exact fun h => h
  | cons b l ih => exact fun h => ih hl.tail (crcStep_lt h hl.head)
theorem crc_lt {l : List Int} (hl : Bt l) : crc l < 4294967296 := xor_lt (by decide) (crcFold_lt hl (by decide))
theorem crcFold_inj {l : List Int} (hl : Bt l) : ∀ {a b : Nat}, a < 4294967296 → b < 4294967296 → l.foldl crcStep a = l.foldl crcStep b → a = b := by
  induction l with
  | nil => exact fun _ _ h => h
  | cons x l ih =>
    intro a b ha hb h
    have := ih hl.tail (crcStep_lt ha hl.head) (crcStep_lt hb hl.head) h
    have hx := hl.head
    exact xor_cancel (crcN_inj 8 (xor_lt ha (by omega)) (xor_lt hb (by omega)) this)
/-- Lists that part at one place have other checksums. -/
theorem crc_parts {a b : List Int} {x y : Int} (ha : Bt a) (hb : Bt b) (hx : 0 ≤ x ∧ x < 256) (hy : 0 ≤ y ∧ y < 256) (h : crc (a ++ x :: b) = crc (a ++ y :: b)) : x = y := by
  have h1 := xor_cancel' h
  rw [List.foldl_append, List.foldl_append, List.foldl_cons, List.foldl_cons] at h1
  have hf := crcFold_lt ha (s := 4294967295) (by decide)
  have h2 := crcFold_inj hb (crcStep_lt hf hx) (crcStep_lt hf hy) h1
  have h3 := xor_cancel' (crcN_inj 8 (xor_lt hf (by omega)) (xor_lt hf (by omega)) h2)
  omega
theorem xor_u32 {a b : Nat} (ha : a < 4294967296) (hb : b < 4294967296) : IntKind.u32.wrap ((BitVec.ofInt IntKind.u32.bits (a : Int) ^^^ BitVec.ofInt IntKind.u32.bits (b : Int)).toNat : Int) = ((a ^^^ b : Nat) : Int) := by
  rw [BitVec.toNat_xor, ofInt_nat _ (by exact ha), ofInt_nat _ (by exact hb), w_u32]
  have := xor_lt ha hb
  omega
theorem and1_u32 {a : Nat} (ha : a < 4294967296) : IntKind.u32.wrap ((BitVec.ofInt IntKind.u32.bits (a : Int) &&& BitVec.ofInt IntKind.u32.bits 1).toNat : Int) = ((a % 2 : Nat) : Int) := by
  have h1 : (BitVec.ofInt IntKind.u32.bits 1).toNat = 1 := by decide
  rw [BitVec.toNat_and, ofInt_nat _ (by exact ha), h1, w_u32, and_1]
  omega
theorem shr1_u32 {a : Nat} (ty : TypeId) (x y : Operand) : binV Tryd.prog .shr ty x y (.int .u32 (a : Int)) (.int .u64 1) = some (.int .u32 ((a / 2 : Nat) : Int)) := by
  rw [shr_of (by decide), Int.fdiv_eq_ediv_of_nonneg _ (by decide)]
  simp [IntKind.bits]
theorem not_u32 {a : Nat} (ha : a < 4294967296) : unV .xor (.int .u32 (a : Int)) = some (.int .u32 ((4294967295 ^^^ a : Nat) : Int)) := by
  show intV .xor .u32 (if IntKind.u32.signed then -1 else IntKind.u32.max) (a : Int) = _
  have : (if IntKind.u32.signed then (-1 : Int) else IntKind.u32.max) = ((4294967295 : Nat) : Int) := by decide
  rw [this]
  show some (V.int _ _) = _
  rw [xor_u32 (by decide) ha]
theorem poly_u32 {a : Nat} (ha : a < 4294967296) : IntKind.u32.wrap ((BitVec.ofInt IntKind.u32.bits (a : Int) ^^^ BitVec.ofInt IntKind.u32.bits 2197175160).toNat : Int) = ((a ^^^ 2197175160 : Nat) : Int) := xor_u32 (b := 2197175160) ha (by decide)
theorem byte_u32 {b : Int} (hb : 0 ≤ b ∧ b < 256) : IntKind.u32.wrap b = (b.toNat : Int) := by rw [w_u32]; omega
theorem crcN_succ (n s : Nat) : crcN (n + 1) s = crcN n (crcR s) := rfl
theorem checksum_ok {h : Heap} {p : Option (Nat × Nat)} {c : Option Nat} {l : List Int} (hs : Sl h p 1 eb l) (hb : Bt l) : WR (callE Tryd.prog hk 18 [.slice p l.length c] h) fun r h' => h = h' ∧ r = .int .u32 (crc l : Nat) := by
  have hn := hs.nil'
  have hl := hs.small
  refine WR.call (hH := rfl) Tryd.func18 rfl (n := 31) rfl rfl (by simp) ?_
  simp -dsimp (disch := first | with_reducible assumption | omega | (intro h_; cases h_; done) | (simp only [LN] <;> omega) | (simp only [LF]; done) | (repeat (first | with_reducible assumption | apply Ext.refl | apply Ext.app | (apply Ext.set <;> omega) | (refine Ext.trans ?_ (by assumption))))) only [AX, TY, gV, dstOf, p_makeFunc, p_mapUpdate, mapPut, entsOf, p_lookup, p_extract, p_nilCheck, oneV, p_load, p_store, p_binOp, p_unOp, p_indexAddr, p_index, p_box, p_build, evParts, builtinV, load1, ldc, splice, minds, disj, rcOf, isCall, touchV, idsOf, mapId, touchB, p_buildSlice, buildSliceV, reps, fillV, p_convert, p_slice, evO, p_makeSlice, sid_some, soff_some, Nat.reduceLT, Nat.reduceLeDiff, Nat.reduceEqDiff, Nat.reduceAdd, Nat.reduceMul, Int.reduceBEq, Int.reduceEq, Int.reduceNeg, Int.reduceLT, Int.reduceLE, Int.reduceAdd, Int.reduceSub, Int.reduceMul, Int.reduceToNat, Int.reduceGT, Nat.reduceBEq, Nat.reducePow, Nat.reduceGT, reduceCtorEq, ↓reduceIte]
  refine W.loop (fun m τ hh => h = hh ∧ ∃ i : Nat, m + i = l.length ∧ τ 3 = .int .u32 (((l.take i).foldl crcStep 4294967295 : Nat) : Int) ∧ τ 7 = .slice p l.length c ∧ τ 8 = .int .i64 l.length ∧ τ 9 = .int .i64 i) ?_ (m := l.length) ?_
  rotate_left
  · exact ⟨rfl, 0, by simp, rfl, rfl, rfl, rfl⟩
  rintro m τ _ ⟨rfl, i, hm, t3, t7, t8, t9⟩
  have hlt : (l.take i).foldl crcStep 4294967295 < 4294967296 := crcFold_lt (hb.take i) (by decide)
  by_cases h1 : (i : Int) < (l.length : Int)
  · have hi : i < l.length := by omega
    have hbi := hb _ (List.getElem_mem hi)
    have hst : (l.take (i + 1)).foldl crcStep 4294967295 = crcN 8 ((l.take i).foldl crcStep 4294967295 ^^^ l[i].toNat) := by
      rw [List.take_succ_eq_append_getElem hi, List.foldl_append]; rfl
    generalize (l.take i).foldl crcStep 4294967295 = S at t3 hlt hst
    simp -dsimp (disch := first | with_reducible assumption | omega | (intro h_; cases h_; done) | (simp only [LN] <;> omega) | (simp only [LF]; done) | (repeat (first | with_reducible assumption | apply Ext.refl | apply Ext.app | (apply Ext.set <;> omega) | (refine Ext.trans ?_ (by assumption))))) only [AX, TY, gV, dstOf, p_makeFunc, p_mapUpdate, mapPut, entsOf, p_lookup, p_extract, p_nilCheck, oneV, p_load, p_store, p_binOp, p_unOp, p_indexAddr, p_index, p_box, p_build, evParts, builtinV, load1, ldc, splice, minds, disj, rcOf, isCall, touchV, idsOf, mapId, touchB, p_buildSlice, buildSliceV, reps, fillV, p_convert, p_slice, evO, p_makeSlice, sid_some, soff_some, Nat.reduceLT, Nat.reduceLeDiff, Nat.reduceEqDiff, Nat.reduceAdd, Nat.reduceMul, Int.reduceBEq, Int.reduceEq, Int.reduceNeg, Int.reduceLT, Int.reduceLE, Int.reduceAdd, Int.reduceSub, Int.reduceMul, Int.reduceToNat, Int.reduceGT, Nat.reduceBEq, Nat.reducePow, Nat.reduceGT, reduceCtorEq, ↓reduceIte, t3, t7, t8, t9, h1, hs.ld, eb, byte_u32 hbi, xor_u32 hlt (show l[i].toNat < 4294967296 by omega)]
    have hlt2 := xor_lt hlt (show l[i].toNat < 4294967296 by omega)
    refine W.loop (fun m' τ hh => h = hh ∧ ∃ (j s : Nat), m' + j = 8 ∧ s < 4294967296 ∧ crcN (8 - j) s = crcN 8 (S ^^^ l[i].toNat) ∧ τ 3 = .int .u32 (s : Int) ∧ τ 7 = .slice p l.length c ∧ τ 8 = .int .i64 l.length ∧ τ 9 = .int .i64 i ∧ τ 17 = .int .i64 j) ?_ (m := 8) ?_
    rotate_left
    · refine ⟨rfl, 0, S ^^^ l[i].toNat, rfl, hlt2, rfl, ?_⟩
      simp -dsimp (disch := first | with_reducible assumption | omega | (intro h_; cases h_; done) | (simp only [LN] <;> omega) | (simp only [LF]; done) | (repeat (first | with_reducible assumption | apply Ext.refl | apply Ext.app | (apply Ext.set <;> omega) | (refine Ext.trans ?_ (by assumption))))) only [AX, TY, gV, dstOf, p_makeFunc, p_mapUpdate, mapPut, entsOf, p_lookup, p_extract, p_nilCheck, oneV, p_load, p_store, p_binOp, p_unOp, p_indexAddr, p_index, p_box, p_build, evParts, builtinV, load1, ldc, splice, minds, disj, rcOf, isCall, touchV, idsOf, mapId, touchB, p_buildSlice, buildSliceV, reps, fillV, p_convert, p_slice, evO, p_makeSlice, sid_some, soff_some, Nat.reduceLT, Nat.reduceLeDiff, Nat.reduceEqDiff, Nat.reduceAdd, Nat.reduceMul, Int.reduceBEq, Int.reduceEq, Int.reduceNeg, Int.reduceLT, Int.reduceLE, Int.reduceAdd, Int.reduceSub, Int.reduceMul, Int.reduceToNat, Int.reduceGT, Nat.reduceBEq, Nat.reducePow, Nat.reduceGT, reduceCtorEq, ↓reduceIte, t7, t8, t9]
    rintro m' τ2 _ ⟨rfl, j, s, hj, hs1, hcr, t3, t7, t8, t9, t17⟩
    by_cases h2 : (j : Int) < 8
    · have hcr2 : crcN (8 - (j + 1)) (crcR s) = crcN 8 (S ^^^ l[i].toNat) := by rw [← hcr, show 8 - j = 8 - (j + 1) + 1 by omega, crcN_succ]
      by_cases h3 : s % 2 = 1
      · have h3' : ((s % 2 : Nat) : Int) = 1 := by omega
        simp -dsimp (disch := first | with_reducible assumption | omega | (intro h_; cases h_; done) | (simp only [LN] <;> omega) | (simp only [LF]; done) | (repeat (first | with_reducible assumption | apply Ext.refl | apply Ext.app | (apply Ext.set <;> omega) | (refine Ext.trans ?_ (by assumption))))) only [AX, TY, gV, dstOf, p_makeFunc, p_mapUpdate, mapPut, entsOf, p_lookup, p_extract, p_nilCheck, oneV, p_load, p_store, p_binOp, p_unOp, p_indexAddr, p_index, p_box, p_build, evParts, builtinV, load1, ldc, splice, minds, disj, rcOf, isCall, touchV, idsOf, mapId, touchB, p_buildSlice, buildSliceV, reps, fillV, p_convert, p_slice, evO, p_makeSlice, sid_some, soff_some, Nat.reduceLT, Nat.reduceLeDiff, Nat.reduceEqDiff, Nat.reduceAdd, Nat.reduceMul, Int.reduceBEq, Int.reduceEq, Int.reduceNeg, Int.reduceLT, Int.reduceLE, Int.reduceAdd, Int.reduceSub, Int.reduceMul, Int.reduceToNat, Int.reduceGT, Nat.reduceBEq, Nat.reducePow, Nat.reduceGT, reduceCtorEq, ↓reduceIte, t3, t7, t8, t9, t17, h2, and1_u32 hs1, shr1_u32, h3', poly_u32 (show s / 2 < 4294967296 by omega), wrap_in]
        refine ⟨m' - 1, by omega, j + 1, s / 2 ^^^ 2197175160, by omega, xor_lt (by omega) (by decide), by rw [← hcr2, crcR, if_pos h3], by simp⟩
      · have h3' : ¬ ((s % 2 : Nat) : Int) = 1 := by omega
        simp -dsimp (disch := first | with_reducible assumption | omega | (intro h_; cases h_; done) | (simp only [LN] <;> omega) | (simp only [LF]; done) | (repeat (first | with_reducible assumption | apply Ext.refl | apply Ext.app | (apply Ext.set <;> omega) | (refine Ext.trans ?_ (by assumption))))) only [AX, TY, gV, dstOf, p_makeFunc, p_mapUpdate, mapPut, entsOf, p_lookup, p_extract, p_nilCheck, oneV, p_load, p_store, p_binOp, p_unOp, p_indexAddr, p_index, p_box, p_build, evParts, builtinV, load1, ldc, splice, minds, disj, rcOf, isCall, touchV, idsOf, mapId, touchB, p_buildSlice, buildSliceV, reps, fillV, p_convert, p_slice, evO, p_makeSlice, sid_some, soff_some, Nat.reduceLT, Nat.reduceLeDiff, Nat.reduceEqDiff, Nat.reduceAdd, Nat.reduceMul, Int.reduceBEq, Int.reduceEq, Int.reduceNeg, Int.reduceLT, Int.reduceLE, Int.reduceAdd, Int.reduceSub, Int.reduceMul, Int.reduceToNat, Int.reduceGT, Nat.reduceBEq, Nat.reducePow, Nat.reduceGT, reduceCtorEq, ↓reduceIte, t3, t7, t8, t9, t17, h2, and1_u32 hs1, shr1_u32, h3', wrap_in]
        refine ⟨m' - 1, by omega, j + 1, s / 2, by omega, by omega, by rw [← hcr2, crcR, if_neg h3], by simp⟩
    · have hj8 : 8 - j = 0 := by omega
      rw [hj8] at hcr
      simp -dsimp (disch := first | with_reducible assumption | omega | (intro h_; cases h_; done) | (simp only [LN] <;> omega) | (simp only [LF]; done) | (repeat (first | with_reducible assumption | apply Ext.refl | apply Ext.app | (apply Ext.set <;> omega) | (refine Ext.trans ?_ (by assumption))))) only [AX, TY, gV, dstOf, p_makeFunc, p_mapUpdate, mapPut, entsOf, p_lookup, p_extract, p_nilCheck, oneV, p_load, p_store, p_binOp, p_unOp, p_indexAddr, p_index, p_box, p_build, evParts, builtinV, load1, ldc, splice, minds, disj, rcOf, isCall, touchV, idsOf, mapId, touchB, p_buildSlice, buildSliceV, reps, fillV, p_convert, p_slice, evO, p_makeSlice, sid_some, soff_some, Nat.reduceLT, Nat.reduceLeDiff, Nat.reduceEqDiff, Nat.reduceAdd, Nat.reduceMul, Int.reduceBEq, Int.reduceEq, Int.reduceNeg, Int.reduceLT, Int.reduceLE, Int.reduceAdd, Int.reduceSub, Int.reduceMul, Int.reduceToNat, Int.reduceGT, Nat.reduceBEq, Nat.reducePow, Nat.reduceGT, reduceCtorEq, ↓reduceIte, t3, t7, t8, t9, t17, h2, wrap_in]
      refine ⟨m - 1, by omega, i + 1, by omega, ?_⟩
      rw [hst, ← hcr]; simp [crcN]
  · rw [List.take_of_length_le (by omega)] at t3 hlt
    simp -dsimp (disch := first | with_reducible assumption | omega | (intro h_; cases h_; done) | (simp only [LN] <;> omega) | (simp only [LF]; done) | (repeat (first | with_reducible assumption | apply Ext.refl | apply Ext.app | (apply Ext.set <;> omega) | (refine Ext.trans ?_ (by assumption))))) only [AX, TY, gV, dstOf, p_makeFunc, p_mapUpdate, mapPut, entsOf, p_lookup, p_extract, p_nilCheck, oneV, p_load, p_store, p_binOp, p_unOp, p_indexAddr, p_index, p_box, p_build, evParts, builtinV, load1, ldc, splice, minds, disj, rcOf, isCall, touchV, idsOf, mapId, touchB, p_buildSlice, buildSliceV, reps, fillV, p_convert, p_slice, evO, p_makeSlice, sid_some, soff_some, Nat.reduceLT, Nat.reduceLeDiff, Nat.reduceEqDiff, Nat.reduceAdd, Nat.reduceMul, Int.reduceBEq, Int.reduceEq, Int.reduceNeg, Int.reduceLT, Int.reduceLE, Int.reduceAdd, Int.reduceSub, Int.reduceMul, Int.reduceToNat, Int.reduceGT, Nat.reduceBEq, Nat.reducePow, Nat.reduceGT, reduceCtorEq, ↓reduceIte, t3, t7, t8, t9, h1, not_u32 hlt]
    rfl
theorem refChecksum_ok {h : Heap} {p : Option (Nat × Nat)} {c : Option Nat} {l : List Int} (hs : Sl h p 1 eb l) (hb : Bt l) : WR (callE Tryd.prog hk 19 [.slice p l.length c] h) fun r h' => h = h' ∧ r = .int .u32 (crc l : Nat) := by
  have hn := hs.nil'
  have hl := hs.small
  refine WR.call (hH := rfl) Tryd.func19 rfl (n := 33) rfl rfl (by simp) ?_
  simp -dsimp (disch := first | with_reducible assumption | omega | (intro h_; cases h_; done) | (simp only [LN] <;> omega) | (simp only [LF]; done) | (repeat (first | with_reducible assumption | apply Ext.refl | apply Ext.app | (apply Ext.set <;> omega) | (refine Ext.trans ?_ (by assumption))))) only [AX, TY, gV, dstOf, p_makeFunc, p_mapUpdate, mapPut, entsOf, p_lookup, p_extract, p_nilCheck, oneV, p_load, p_store, p_binOp, p_unOp, p_indexAddr, p_index, p_box, p_build, evParts, builtinV, load1, ldc, splice, minds, disj, rcOf, isCall, touchV, idsOf, mapId, touchB, p_buildSlice, buildSliceV, reps, fillV, p_convert, p_slice, evO, p_makeSlice, sid_some, soff_some, Nat.reduceLT, Nat.reduceLeDiff, Nat.reduceEqDiff, Nat.reduceAdd, Nat.reduceMul, Int.reduceBEq, Int.reduceEq, Int.reduceNeg, Int.reduceLT, Int.reduceLE, Int.reduceAdd, Int.reduceSub, Int.reduceMul, Int.reduceToNat, Int.reduceGT, Nat.reduceBEq, Nat.reducePow, Nat.reduceGT, reduceCtorEq, ↓reduceIte]
  refine W.loop (fun m τ hh => h = hh ∧ ∃ i : Nat, m + i = l.length ∧ τ 3 = .int .u32 (((l.take i).foldl crcStep 4294967295 : Nat) : Int) ∧ τ 0 = .slice p l.length c ∧ τ 4 = .int .i64 i) ?_ (m := l.length) ?_
  rotate_left
  · exact ⟨rfl, 0, by simp, rfl, rfl, rfl⟩
  rintro m τ _ ⟨rfl, i, hm, t3, t0, t4⟩
  have hlt : (l.take i).foldl crcStep 4294967295 < 4294967296 := crcFold_lt (hb.take i) (by decide)
  by_cases h1 : (i : Int) < (l.length : Int)
  · have hi : i < l.length := by omega
    have hbi := hb _ (List.getElem_mem hi)
    have hst : (l.take (i + 1)).foldl crcStep 4294967295 = crcN 8 ((l.take i).foldl crcStep 4294967295 ^^^ l[i].toNat) := by
      rw [List.take_succ_eq_append_getElem hi, List.foldl_append]; rfl
    generalize (l.take i).foldl crcStep 4294967295 = S at t3 hlt hst
    simp -dsimp (disch := first | with_reducible assumption | omega | (intro h_; cases h_; done) | (simp only [LN] <;> omega) | (simp only [LF]; done) | (repeat (first | with_reducible assumption | apply Ext.refl | apply Ext.app | (apply Ext.set <;> omega) | (refine Ext.trans ?_ (by assumption))))) only [AX, TY, gV, dstOf, p_makeFunc, p_mapUpdate, mapPut, entsOf, p_lookup, p_extract, p_nilCheck, oneV, p_load, p_store, p_binOp, p_unOp, p_indexAddr, p_index, p_box, p_build, evParts, builtinV, load1, ldc, splice, minds, disj, rcOf, isCall, touchV, idsOf, mapId, touchB, p_buildSlice, buildSliceV, reps, fillV, p_convert, p_slice, evO, p_makeSlice, sid_some, soff_some, Nat.reduceLT, Nat.reduceLeDiff, Nat.reduceEqDiff, Nat.reduceAdd, Nat.reduceMul, Int.reduceBEq, Int.reduceEq, Int.reduceNeg, Int.reduceLT, Int.reduceLE, Int.reduceAdd, Int.reduceSub, Int.reduceMul, Int.reduceToNat, Int.reduceGT, Nat.reduceBEq, Nat.reducePow, Nat.reduceGT, reduceCtorEq, ↓reduceIte, t3, t0, t4, h1, hs.ld, eb, byte_u32 hbi, xor_u32 hlt (show l[i].toNat < 4294967296 by omega)]
    have hlt2 := xor_lt hlt (show l[i].toNat < 4294967296 by omega)
    refine W.loop (fun m' τ hh => h = hh ∧ ∃ (j s : Nat), m' + j = 8 ∧ s < 4294967296 ∧ crcN (8 - j) s = crcN 8 (S ^^^ l[i].toNat) ∧ τ 3 = .int .u32 (s : Int) ∧ τ 0 = .slice p l.length c ∧ τ 4 = .int .i64 i ∧ τ 5 = .int .i64 j) ?_ (m := 8) ?_
    rotate_left
    · refine ⟨rfl, 0, S ^^^ l[i].toNat, rfl, hlt2, rfl, ?_⟩
      simp -dsimp (disch := first | with_reducible assumption | omega | (intro h_; cases h_; done) | (simp only [LN] <;> omega) | (simp only [LF]; done) | (repeat (first | with_reducible assumption | apply Ext.refl | apply Ext.app | (apply Ext.set <;> omega) | (refine Ext.trans ?_ (by assumption))))) only [AX, TY, gV, dstOf, p_makeFunc, p_mapUpdate, mapPut, entsOf, p_lookup, p_extract, p_nilCheck, oneV, p_load, p_store, p_binOp, p_unOp, p_indexAddr, p_index, p_box, p_build, evParts, builtinV, load1, ldc, splice, minds, disj, rcOf, isCall, touchV, idsOf, mapId, touchB, p_buildSlice, buildSliceV, reps, fillV, p_convert, p_slice, evO, p_makeSlice, sid_some, soff_some, Nat.reduceLT, Nat.reduceLeDiff, Nat.reduceEqDiff, Nat.reduceAdd, Nat.reduceMul, Int.reduceBEq, Int.reduceEq, Int.reduceNeg, Int.reduceLT, Int.reduceLE, Int.reduceAdd, Int.reduceSub, Int.reduceMul, Int.reduceToNat, Int.reduceGT, Nat.reduceBEq, Nat.reducePow, Nat.reduceGT, reduceCtorEq, ↓reduceIte, t0, t4]
    rintro m' τ2 _ ⟨rfl, j, s, hj, hs1, hcr, t3, t0, t4, t5⟩
    by_cases h2 : (j : Int) < 8
    · have hcr2 : crcN (8 - (j + 1)) (crcR s) = crcN 8 (S ^^^ l[i].toNat) := by rw [← hcr, show 8 - j = 8 - (j + 1) + 1 by omega, crcN_succ]
      by_cases h3 : s % 2 = 1
      · have h3' : ((s % 2 : Nat) : Int) = 1 := by omega
        simp -dsimp (disch := first | with_reducible assumption | omega | (intro h_; cases h_; done) | (simp only [LN] <;> omega) | (simp only [LF]; done) | (repeat (first | with_reducible assumption | apply Ext.refl | apply Ext.app | (apply Ext.set <;> omega) | (refine Ext.trans ?_ (by assumption))))) only [AX, TY, gV, dstOf, p_makeFunc, p_mapUpdate, mapPut, entsOf, p_lookup, p_extract, p_nilCheck, oneV, p_load, p_store, p_binOp, p_unOp, p_indexAddr, p_index, p_box, p_build, evParts, builtinV, load1, ldc, splice, minds, disj, rcOf, isCall, touchV, idsOf, mapId, touchB, p_buildSlice, buildSliceV, reps, fillV, p_convert, p_slice, evO, p_makeSlice, sid_some, soff_some, Nat.reduceLT, Nat.reduceLeDiff, Nat.reduceEqDiff, Nat.reduceAdd, Nat.reduceMul, Int.reduceBEq, Int.reduceEq, Int.reduceNeg, Int.reduceLT, Int.reduceLE, Int.reduceAdd, Int.reduceSub, Int.reduceMul, Int.reduceToNat, Int.reduceGT, Nat.reduceBEq, Nat.reducePow, Nat.reduceGT, reduceCtorEq, ↓reduceIte, t3, t0, t4, t5, h2, and1_u32 hs1, shr1_u32, h3', poly_u32 (show s / 2 < 4294967296 by omega), wrap_in]
        refine ⟨m' - 1, by omega, j + 1, s / 2 ^^^ 2197175160, by omega, xor_lt (by omega) (by decide), by rw [← hcr2, crcR, if_pos h3], by simp⟩
      · have h3' : ¬ ((s % 2 : Nat) : Int) = 1 := by omega
        simp -dsimp (disch := first | with_reducible assumption | omega | (intro h_; cases h_; done) | (simp only [LN] <;> omega) | (simp only [LF]; done) | (repeat (first | with_reducible assumption | apply Ext.refl | apply Ext.app | (apply Ext.set <;> omega) | (refine Ext.trans ?_ (by assumption))))) only [AX, TY, gV, dstOf, p_makeFunc, p_mapUpdate, mapPut, entsOf, p_lookup, p_extract, p_nilCheck, oneV, p_load, p_store, p_binOp, p_unOp, p_indexAddr, p_index, p_box, p_build, evParts, builtinV, load1, ldc, splice, minds, disj, rcOf, isCall, touchV, idsOf, mapId, touchB, p_buildSlice, buildSliceV, reps, fillV, p_convert, p_slice, evO, p_makeSlice, sid_some, soff_some, Nat.reduceLT, Nat.reduceLeDiff, Nat.reduceEqDiff, Nat.reduceAdd, Nat.reduceMul, Int.reduceBEq, Int.reduceEq, Int.reduceNeg, Int.reduceLT, Int.reduceLE, Int.reduceAdd, Int.reduceSub, Int.reduceMul, Int.reduceToNat, Int.reduceGT, Nat.reduceBEq, Nat.reducePow, Nat.reduceGT, reduceCtorEq, ↓reduceIte, t3, t0, t4, t5, h2, and1_u32 hs1, shr1_u32, h3', wrap_in]
        refine ⟨m' - 1, by omega, j + 1, s / 2, by omega, by omega, by rw [← hcr2, crcR, if_neg h3], by simp⟩
    · have hj8 : 8 - j = 0 := by omega
      rw [hj8] at hcr
      simp -dsimp (disch := first | with_reducible assumption | omega | (intro h_; cases h_; done) | (simp only [LN] <;> omega) | (simp only [LF]; done) | (repeat (first | with_reducible assumption | apply Ext.refl | apply Ext.app | (apply Ext.set <;> omega) | (refine Ext.trans ?_ (by assumption))))) only [AX, TY, gV, dstOf, p_makeFunc, p_mapUpdate, mapPut, entsOf, p_lookup, p_extract, p_nilCheck, oneV, p_load, p_store, p_binOp, p_unOp, p_indexAddr, p_index, p_box, p_build, evParts, builtinV, load1, ldc, splice, minds, disj, rcOf, isCall, touchV, idsOf, mapId, touchB, p_buildSlice, buildSliceV, reps, fillV, p_convert, p_slice, evO, p_makeSlice, sid_some, soff_some, Nat.reduceLT, Nat.reduceLeDiff, Nat.reduceEqDiff, Nat.reduceAdd, Nat.reduceMul, Int.reduceBEq, Int.reduceEq, Int.reduceNeg, Int.reduceLT, Int.reduceLE, Int.reduceAdd, Int.reduceSub, Int.reduceMul, Int.reduceToNat, Int.reduceGT, Nat.reduceBEq, Nat.reducePow, Nat.reduceGT, reduceCtorEq, ↓reduceIte, t3, t0, t4, t5, h2, wrap_in]
      refine ⟨m - 1, by omega, i + 1, by omega, ?_⟩
      rw [hst, ← hcr]; simp [crcN]
  · rw [List.take_of_length_le (by omega)] at t3 hlt
    have hx : IntKind.u32.wrap ((BitVec.ofInt IntKind.u32.bits ((l.foldl crcStep 4294967295 : Nat) : Int) ^^^ BitVec.ofInt IntKind.u32.bits 4294967295).toNat : Int) = ((crc l : Nat) : Int) := by
      have := xor_u32 (b := 4294967295) hlt (by decide)
      rw [Nat.xor_comm] at this
      exact this
    simp -dsimp (disch := first | with_reducible assumption | omega | (intro h_; cases h_; done) | (simp only [LN] <;> omega) | (simp only [LF]; done) | (repeat (first | with_reducible assumption | apply Ext.refl | apply Ext.app | (apply Ext.set <;> omega) | (refine Ext.trans ?_ (by assumption))))) only [AX, TY, gV, dstOf, p_makeFunc, p_mapUpdate, mapPut, entsOf, p_lookup, p_extract, p_nilCheck, oneV, p_load, p_store, p_binOp, p_unOp, p_indexAddr, p_index, p_box, p_build, evParts, builtinV, load1, ldc, splice, minds, disj, rcOf, isCall, touchV, idsOf, mapId, touchB, p_buildSlice, buildSliceV, reps, fillV, p_convert, p_slice, evO, p_makeSlice, sid_some, soff_some, Nat.reduceLT, Nat.reduceLeDiff, Nat.reduceEqDiff, Nat.reduceAdd, Nat.reduceMul, Int.reduceBEq, Int.reduceEq, Int.reduceNeg, Int.reduceLT, Int.reduceLE, Int.reduceAdd, Int.reduceSub, Int.reduceMul, Int.reduceToNat, Int.reduceGT, Nat.reduceBEq, Nat.reducePow, Nat.reduceGT, reduceCtorEq, ↓reduceIte, t3, t0, t4, h1, hx]
/-! ### comparing -/
def cmpB : List Int → List Int → Int
  | [], [] => 0
  | [], _ :: _ => -1
  | _ :: _, [] => 1
  | a :: x, b :: y => if a < b then -1 else if b < a then 1 else cmpB x y
theorem cmpB_eq : ∀ {x y : List Int}, cmpB x y = 0 ↔ x = y
  | [], [] => by simp [cmpB]
  | [], _ :: _ => by simp [cmpB]
  | _ :: _, [] => by simp [cmpB]
  | a :: x, b :: y => by
    simp only [cmpB]
    split
    · simp; omega
    · split
      · simp; omega
      · rw [cmpB_eq]; simp; omega
theorem bytes_ok {h : Heap} {p q : Option (Nat × Nat)} {c d : Option Nat} {xs ys : List Int} (hx : Sl h p 1 eb xs) (hy : Sl h q 1 eb ys) : WR (callE Tryd.prog hk 15 [.slice p xs.length c, .slice q ys.length d] h) fun r h' => h = h' ∧ r = .int .i64 (cmpB xs ys) := by
  have hnx := hx.nil'
  have hny := hy.nil'
  have hlx := hx.small
  have hly := hy.small
  refine WR.call (hH := rfl) Tryd.func15 rfl (n := 46) rfl rfl (by simp) ?_
  simp -dsimp (disch := first | with_reducible assumption | omega | (intro h_; cases h_; done) | (simp only [LN] <;> omega) | (simp only [LF]; done) | (repeat (first | with_reducible assumption | apply Ext.refl | apply Ext.app | (apply Ext.set <;> omega) | (refine Ext.trans ?_ (by assumption))))) only [AX, TY, gV, dstOf, p_makeFunc, p_mapUpdate, mapPut, entsOf, p_lookup, p_extract, p_nilCheck, oneV, p_load, p_store, p_binOp, p_unOp, p_indexAddr, p_index, p_box, p_build, evParts, builtinV, load1, ldc, splice, minds, disj, rcOf, isCall, touchV, idsOf, mapId, touchB, p_buildSlice, buildSliceV, reps, fillV, p_convert, p_slice, evO, p_makeSlice, sid_some, soff_some, Nat.reduceLT, Nat.reduceLeDiff, Nat.reduceEqDiff, Nat.reduceAdd, Nat.reduceMul, Int.reduceBEq, Int.reduceEq, Int.reduceNeg, Int.reduceLT, Int.reduceLE, Int.reduceAdd, Int.reduceSub, Int.reduceMul, Int.reduceToNat, Int.reduceGT, Nat.reduceBEq, Nat.reducePow, Nat.reduceGT, reduceCtorEq, ↓reduceIte]
  refine W.loop (fun m τ hh => h = hh ∧ ∃ i : Nat, m + i = xs.length ∧ i ≤ ys.length ∧ τ 0 = .slice p xs.length c ∧ τ 1 = .slice q ys.length d ∧ τ 5 = .int .i64 i ∧ cmpB (xs.drop i) (ys.drop i) = cmpB xs ys) ?_ (m := xs.length) ?_
  rotate_left
  · exact ⟨rfl, 0, by simp, by simp, rfl, rfl, rfl, by simp⟩
  rintro m τ _ ⟨rfl, i, hm, hiy, t0, t1, t5, hcmp⟩
  by_cases h1 : (i : Int) < (xs.length : Int)
  · have hi : i < xs.length := by omega
    by_cases h2 : (i : Int) < (ys.length : Int)
    · have hj : i < ys.length := by omega
      rw [List.drop_eq_getElem_cons hi, List.drop_eq_getElem_cons hj, cmpB] at hcmp
      simp -dsimp (disch := first | with_reducible assumption | omega | (intro h_; cases h_; done) | (simp only [LN] <;> omega) | (simp only [LF]; done) | (repeat (first | with_reducible assumption | apply Ext.refl | apply Ext.app | (apply Ext.set <;> omega) | (refine Ext.trans ?_ (by assumption))))) only [AX, TY, gV, dstOf, p_makeFunc, p_mapUpdate, mapPut, entsOf, p_lookup, p_extract, p_nilCheck, oneV, p_load, p_store, p_binOp, p_unOp, p_indexAddr, p_index, p_box, p_build, evParts, builtinV, load1, ldc, splice, minds, disj, rcOf, isCall, touchV, idsOf, mapId, touchB, p_buildSlice, buildSliceV, reps, fillV, p_convert, p_slice, evO, p_makeSlice, sid_some, soff_some, Nat.reduceLT, Nat.reduceLeDiff, Nat.reduceEqDiff, Nat.reduceAdd, Nat.reduceMul, Int.reduceBEq, Int.reduceEq, Int.reduceNeg, Int.reduceLT, Int.reduceLE, Int.reduceAdd, Int.reduceSub, Int.reduceMul, Int.reduceToNat, Int.reduceGT, Nat.reduceBEq, Nat.reducePow, Nat.reduceGT, reduceCtorEq, ↓reduceIte, t0, t1, t5, h1, h2]
      refine W.drawn [(0, []), (1, [0]), (2, []), (3, []), (4, [3, 2, 1, 0]), (5, [4, 3, 2, 1, 0]), (6, [3, 2, 1, 0]), (7, [3, 2, 1, 0]), (8, [])] (by decide +kernel) ?_
      by_cases h3 : xs[i] < ys[i]
      · simp -dsimp (disch := first | with_reducible assumption | omega | (intro h_; cases h_; done) | (simp only [LN] <;> omega) | (simp only [LF]; done) | (repeat (first | with_reducible assumption | apply Ext.refl | apply Ext.app | (apply Ext.set <;> omega) | (refine Ext.trans ?_ (by assumption))))) only [AX, TY, gV, dstOf, p_makeFunc, p_mapUpdate, mapPut, entsOf, p_lookup, p_extract, p_nilCheck, oneV, p_load, p_store, p_binOp, p_unOp, p_indexAddr, p_index, p_box, p_build, evParts, builtinV, load1, ldc, splice, minds, disj, rcOf, isCall, touchV, idsOf, mapId, touchB, p_buildSlice, buildSliceV, reps, fillV, p_convert, p_slice, evO, p_makeSlice, sid_some, soff_some, Nat.reduceLT, Nat.reduceLeDiff, Nat.reduceEqDiff, Nat.reduceAdd, Nat.reduceMul, Int.reduceBEq, Int.reduceEq, Int.reduceNeg, Int.reduceLT, Int.reduceLE, Int.reduceAdd, Int.reduceSub, Int.reduceMul, Int.reduceToNat, Int.reduceGT, Nat.reduceBEq, Nat.reducePow, Nat.reduceGT, reduceCtorEq, ↓reduceIte, t0, t1, t5, hx.ld, hy.ld, eb, h3]
        rw [← hcmp, if_pos h3]
      · simp -dsimp (disch := first | with_reducible assumption | omega | (intro h_; cases h_; done) | (simp only [LN] <;> omega) | (simp only [LF]; done) | (repeat (first | with_reducible assumption | apply Ext.refl | apply Ext.app | (apply Ext.set <;> omega) | (refine Ext.trans ?_ (by assumption))))) only [AX, TY, gV, dstOf, p_makeFunc, p_mapUpdate, mapPut, entsOf, p_lookup, p_extract, p_nilCheck, oneV, p_load, p_store, p_binOp, p_unOp, p_indexAddr, p_index, p_box, p_build, evParts, builtinV, load1, ldc, splice, minds, disj, rcOf, isCall, touchV, idsOf, mapId, touchB, p_buildSlice, buildSliceV, reps, fillV, p_convert, p_slice, evO, p_makeSlice, sid_some, soff_some, Nat.reduceLT, Nat.reduceLeDiff, Nat.reduceEqDiff, Nat.reduceAdd, Nat.reduceMul, Int.reduceBEq, Int.reduceEq, Int.reduceNeg, Int.reduceLT, Int.reduceLE, Int.reduceAdd, Int.reduceSub, Int.reduceMul, Int.reduceToNat, Int.reduceGT, Nat.reduceBEq, Nat.reducePow, Nat.reduceGT, reduceCtorEq, ↓reduceIte, t0, t1, t5, hx.ld, hy.ld, eb, h3]
        refine W.drawn [(0, []), (1, [0]), (2, []), (3, []), (4, [3, 2, 1, 0]), (5, [4, 3, 2, 1, 0]), (6, [3, 2, 1, 0]), (7, [3, 2, 1, 0]), (8, [])] (by decide +kernel) ?_
        by_cases h4 : ys[i] < xs[i]
        · simp -dsimp (disch := first | with_reducible assumption | omega | (intro h_; cases h_; done) | (simp only [LN] <;> omega) | (simp only [LF]; done) | (repeat (first | with_reducible assumption | apply Ext.refl | apply Ext.app | (apply Ext.set <;> omega) | (refine Ext.trans ?_ (by assumption))))) only [AX, TY, gV, dstOf, p_makeFunc, p_mapUpdate, mapPut, entsOf, p_lookup, p_extract, p_nilCheck, oneV, p_load, p_store, p_binOp, p_unOp, p_indexAddr, p_index, p_box, p_build, evParts, builtinV, load1, ldc, splice, minds, disj, rcOf, isCall, touchV, idsOf, mapId, touchB, p_buildSlice, buildSliceV, reps, fillV, p_convert, p_slice, evO, p_makeSlice, sid_some, soff_some, Nat.reduceLT, Nat.reduceLeDiff, Nat.reduceEqDiff, Nat.reduceAdd, Nat.reduceMul, Int.reduceBEq, Int.reduceEq, Int.reduceNeg, Int.reduceLT, Int.reduceLE, Int.reduceAdd, Int.reduceSub, Int.reduceMul, Int.reduceToNat, Int.reduceGT, Nat.reduceBEq, Nat.reducePow, Nat.reduceGT, reduceCtorEq, ↓reduceIte, t0, t1, t5, hx.ld, hy.ld, eb, h4]
          rw [← hcmp, if_neg h3, if_pos h4]
        · simp -dsimp (disch := first | with_reducible assumption | omega | (intro h_; cases h_; done) | (simp only [LN] <;> omega) | (simp only [LF]; done) | (repeat (first | with_reducible assumption | apply Ext.refl | apply Ext.app | (apply Ext.set <;> omega) | (refine Ext.trans ?_ (by assumption))))) only [AX, TY, gV, dstOf, p_makeFunc, p_mapUpdate, mapPut, entsOf, p_lookup, p_extract, p_nilCheck, oneV, p_load, p_store, p_binOp, p_unOp, p_indexAddr, p_index, p_box, p_build, evParts, builtinV, load1, ldc, splice, minds, disj, rcOf, isCall, touchV, idsOf, mapId, touchB, p_buildSlice, buildSliceV, reps, fillV, p_convert, p_slice, evO, p_makeSlice, sid_some, soff_some, Nat.reduceLT, Nat.reduceLeDiff, Nat.reduceEqDiff, Nat.reduceAdd, Nat.reduceMul, Int.reduceBEq, Int.reduceEq, Int.reduceNeg, Int.reduceLT, Int.reduceLE, Int.reduceAdd, Int.reduceSub, Int.reduceMul, Int.reduceToNat, Int.reduceGT, Nat.reduceBEq, Nat.reducePow, Nat.reduceGT, reduceCtorEq, ↓reduceIte, t0, t1, t5, hx.ld, hy.ld, eb, h4, wrap_in]
          rw [if_neg h3, if_neg h4] at hcmp
          exact ⟨m - 1, by omega, i + 1, by omega, by omega, by simp, hcmp⟩
    · have hj : ys.length ≤ i := by omega
      have h3 : ¬ (xs.length : Int) < (ys.length : Int) := by omega
      have h4 : (ys.length : Int) < (xs.length : Int) := by omega
      rw [List.drop_eq_getElem_cons hi, List.drop_of_length_le hj, cmpB] at hcmp
      simp -dsimp (disch := first | with_reducible assumption | omega | (intro h_; cases h_; done) | (simp only [LN] <;> omega) | (simp only [LF]; done) | (repeat (first | with_reducible assumption | apply Ext.refl | apply Ext.app | (apply Ext.set <;> omega) | (refine Ext.trans ?_ (by assumption))))) only [AX, TY, gV, dstOf, p_makeFunc, p_mapUpdate, mapPut, entsOf, p_lookup, p_extract, p_nilCheck, oneV, p_load, p_store, p_binOp, p_unOp, p_indexAddr, p_index, p_box, p_build, evParts, builtinV, load1, ldc, splice, minds, disj, rcOf, isCall, touchV, idsOf, mapId, touchB, p_buildSlice, buildSliceV, reps, fillV, p_convert, p_slice, evO, p_makeSlice, sid_some, soff_some, Nat.reduceLT, Nat.reduceLeDiff, Nat.reduceEqDiff, Nat.reduceAdd, Nat.reduceMul, Int.reduceBEq, Int.reduceEq, Int.reduceNeg, Int.reduceLT, Int.reduceLE, Int.reduceAdd, Int.reduceSub, Int.reduceMul, Int.reduceToNat, Int.reduceGT, Nat.reduceBEq, Nat.reducePow, Nat.reduceGT, reduceCtorEq, ↓reduceIte, t0, t1, t5, h1, h2, h3, h4]
      rw [← hcmp]
  · have hj : xs.length ≤ i := by omega
    rw [List.drop_of_length_le hj] at hcmp
    by_cases h3 : (xs.length : Int) < (ys.length : Int)
    · have hi : i < ys.length := by omega
      rw [List.drop_eq_getElem_cons hi, cmpB] at hcmp
      simp -dsimp (disch := first | with_reducible assumption | omega | (intro h_; cases h_; done) | (simp only [LN] <;> omega) | (simp only [LF]; done) | (repeat (first | with_reducible assumption | apply Ext.refl | apply Ext.app | (apply Ext.set <;> omega) | (refine Ext.trans ?_ (by assumption))))) only [AX, TY, gV, dstOf, p_makeFunc, p_mapUpdate, mapPut, entsOf, p_lookup, p_extract, p_nilCheck, oneV, p_load, p_store, p_binOp, p_unOp, p_indexAddr, p_index, p_box, p_build, evParts, builtinV, load1, ldc, splice, minds, disj, rcOf, isCall, touchV, idsOf, mapId, touchB, p_buildSlice, buildSliceV, reps, fillV, p_convert, p_slice, evO, p_makeSlice, sid_some, soff_some, Nat.reduceLT, Nat.reduceLeDiff, Nat.reduceEqDiff, Nat.reduceAdd, Nat.reduceMul, Int.reduceBEq, Int.reduceEq, Int.reduceNeg, Int.reduceLT, Int.reduceLE, Int.reduceAdd, Int.reduceSub, Int.reduceMul, Int.reduceToNat, Int.reduceGT, Nat.reduceBEq, Nat.reducePow, Nat.reduceGT, reduceCtorEq, ↓reduceIte, t0, t1, t5, h1, h3]
      rw [← hcmp]
    · have h4 : ¬ (ys.length : Int) < (xs.length : Int) := by omega
      rw [List.drop_of_length_le (show ys.length ≤ i by omega), cmpB] at hcmp
      simp -dsimp (disch := first | with_reducible assumption | omega | (intro h_; cases h_; done) | (simp only [LN] <;> omega) | (simp only [LF]; done) | (repeat (first | with_reducible assumption | apply Ext.refl | apply Ext.app | (apply Ext.set <;> omega) | (refine Ext.trans ?_ (by assumption))))) only [AX, TY, gV, dstOf, p_makeFunc, p_mapUpdate, mapPut, entsOf, p_lookup, p_extract, p_nilCheck, oneV, p_load, p_store, p_binOp, p_unOp, p_indexAddr, p_index, p_box, p_build, evParts, builtinV, load1, ldc, splice, minds, disj, rcOf, isCall, touchV, idsOf, mapId, touchB, p_buildSlice, buildSliceV, reps, fillV, p_convert, p_slice, evO, p_makeSlice, sid_some, soff_some, Nat.reduceLT, Nat.reduceLeDiff, Nat.reduceEqDiff, Nat.reduceAdd, Nat.reduceMul, Int.reduceBEq, Int.reduceEq, Int.reduceNeg, Int.reduceLT, Int.reduceLE, Int.reduceAdd, Int.reduceSub, Int.reduceMul, Int.reduceToNat, Int.reduceGT, Nat.reduceBEq, Nat.reducePow, Nat.reduceGT, reduceCtorEq, ↓reduceIte, t0, t1, t5, h1, h3, h4]
      rw [← hcmp]
theorem same_ok {h : Heap} {p q : Option (Nat × Nat)} {c d : Option Nat} {xs ys : List Int} (hx : Sl h p 1 eb xs) (hy : Sl h q 1 eb ys) : WR (callE Tryd.prog hk 17 [.slice p xs.length c, .slice q ys.length d] h) fun r h' => h = h' ∧ r = .bool (decide (xs = ys)) := by
  refine WR.call (hH := rfl) Tryd.func17 rfl (n := 9) rfl rfl (by simp) ?_
  simp -dsimp (disch := first | with_reducible assumption | omega | (intro h_; cases h_; done) | (simp only [LN] <;> omega) | (simp only [LF]; done) | (repeat (first | with_reducible assumption | apply Ext.refl | apply Ext.app | (apply Ext.set <;> omega) | (refine Ext.trans ?_ (by assumption))))) only [AX, TY, gV, dstOf, p_makeFunc, p_mapUpdate, mapPut, entsOf, p_lookup, p_extract, p_nilCheck, oneV, p_load, p_store, p_binOp, p_unOp, p_indexAddr, p_index, p_box, p_build, evParts, builtinV, load1, ldc, splice, minds, disj, rcOf, isCall, touchV, idsOf, mapId, touchB, p_buildSlice, buildSliceV, reps, fillV, p_convert, p_slice, evO, p_makeSlice, sid_some, soff_some, Nat.reduceLT, Nat.reduceLeDiff, Nat.reduceEqDiff, Nat.reduceAdd, Nat.reduceMul, Int.reduceBEq, Int.reduceEq, Int.reduceNeg, Int.reduceLT, Int.reduceLE, Int.reduceAdd, Int.reduceSub, Int.reduceMul, Int.reduceToNat, Int.reduceGT, Nat.reduceBEq, Nat.reducePow, Nat.reduceGT, reduceCtorEq, ↓reduceIte]
  refine (bytes_ok hx hy).mono ?_
  rintro _ _ ⟨rfl, rfl⟩
  simp -dsimp (disch := first | with_reducible assumption | omega | (intro h_; cases h_; done) | (simp only [LN] <;> omega) | (simp only [LF]; done) | (repeat (first | with_reducible assumption | apply Ext.refl | apply Ext.app | (apply Ext.set <;> omega) | (refine Ext.trans ?_ (by assumption))))) only [AX, TY, gV, dstOf, p_makeFunc, p_mapUpdate, mapPut, entsOf, p_lookup, p_extract, p_nilCheck, oneV, p_load, p_store, p_binOp, p_unOp, p_indexAddr, p_index, p_box, p_build, evParts, builtinV, load1, ldc, splice, minds, disj, rcOf, isCall, touchV, idsOf, mapId, touchB, p_buildSlice, buildSliceV, reps, fillV, p_convert, p_slice, evO, p_makeSlice, sid_some, soff_some, Nat.reduceLT, Nat.reduceLeDiff, Nat.reduceEqDiff, Nat.reduceAdd, Nat.reduceMul, Int.reduceBEq, Int.reduceEq, Int.reduceNeg, Int.reduceLT, Int.reduceLE, Int.reduceAdd, Int.reduceSub, Int.reduceMul, Int.reduceToNat, Int.reduceGT, Nat.reduceBEq, Nat.reducePow, Nat.reduceGT, reduceCtorEq, ↓reduceIte]
  simp only [cmpB_eq]
end Go.Proofs.YtngcicclaehpbaaDoorA
