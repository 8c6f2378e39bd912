/- Words of this session: chapter 22: MvccStability. -/
import Derived.Test.YtpmlphefdoaohaaPJ
namespace Go.Proofs.YtpmlphefdoaohaaA
open Go Go.Proofs Go.RowKit
set_option linter.unusedVariables false
set_option linter.unusedSimpArgs false
set_option maxRecDepth 10000
set_option maxHeartbeats 8000000
@[reducible] def eB (b : Bool) : List V := [.bool b]
/-- A version and what it is changed to. -/
def Chg (b : Int) (y z : Ver) : Prop := z.a = y.a ∧ z.b = y.b ∧ z.p = y.p ∧ z.vals = y.vals ∧ z.cr = y.cr ∧ (z.dl = y.dl ∨ (y.dl = 0 ∧ z.dl = b + 1))
def quietV (a b : Int) (y : Ver) : Bool := (decide (y.cr ≤ a) || decide (b < y.cr)) && (decide (y.dl ≤ a) || decide (b < y.dl))
theorem chg_all {a b : Int} (hab : a ≤ b) (ha : 0 ≤ a) : ∀ {ys zs : List Ver}, ys.length = zs.length → (∀ (k : Nat) (y z : Ver), ys[k]? = some y → zs[k]? = some z → Chg b y z) → ((ys.filter fun v => sees v.cr v.dl a).map Ver.key).map (fun k => (k.a, k.b, k.cr)) = ((zs.filter fun v => sees v.cr v.dl a).map Ver.key).map (fun k => (k.a, k.b, k.cr))
  | [], [], _, _ => rfl
  | [], _ :: _, h, _ => by simp at h
  | _ :: _, [], h, _ => by simp at h
  | y :: ys, z :: zs, h, hk => by
    have ih := chg_all hab ha (ys := ys) (zs := zs) (by simpa using h) fun k u v hu hv => hk (k + 1) u v (by simpa using hu) (by simpa using hv)
    obtain ⟨h1, h2, h3, h4, h5, h6⟩ := hk 0 y z rfl rfl
    have hse : sees z.cr z.dl a = sees y.cr y.dl a := by
      rcases h6 with h6 | ⟨h6, h7⟩
      · rw [h5, h6]
      · rw [h5, h6, h7]; unfold sees
        have e1 : ¬ (b + 1 = 0) := by omega
        have e2 : a < b + 1 := by omega
        simp [e1, e2]
    simp only [List.filter_cons, hse]
    cases sees y.cr y.dl a
    · simpa using ih
    · simp only [if_true, List.map_cons, ih, Ver.key, h1, h2, h5]
theorem quiet_sees {a b : Int} (hab : a ≤ b) {y : Ver} (hq : quietV a b y = true) : sees y.cr y.dl a = sees y.cr y.dl b := by
  unfold quietV at hq
  unfold sees
  rw [Bool.eq_iff_iff]
  simp only [Bool.and_eq_true, Bool.or_eq_true, decide_eq_true_eq] at hq ⊢
  omega
structure LS (h : Heap) (p : Option (Nat × Nat)) (c : Option Nat) (ys : List Ver) (pm : Option (Nat × Nat)) (cm : Option Nat) (ms : List Bool) (a b : Int) (i : Nat) (zs : List Ver) (τ : Tp) (hh : Heap) : Prop where
  e : Ext h hh
  t0 : τ 0 = .slice p ys.length c
  t1 : τ 1 = .int .i64 a
  t2 : τ 2 = .int .i64 b
  t3 : τ 3 = .slice pm ms.length cm
  t10 : τ 10 = .bool ((ys.take i).all (quietV a b))
  t11 : τ 11 = .int .i64 i
  out : ∃ po co oid, τ 9 = .slice po zs.length co ∧ Gr h.length hh po co oid 5 Ver.enc zs
  len : zs.length = i
  chg : ∀ (k : Nat) (y z : Ver), ys[k]? = some y → zs[k]? = some z → Chg b y z
  ok : ∀ z ∈ zs, VOK h z
theorem law5_ok {h : Heap} {p : Option (Nat × Nat)} {c : Option Nat} {ys : List Ver} {pm : Option (Nat × Nat)} {cm : Option Nat} {ms : List Bool} (hs : Vers h p ys) (hm : Sl h pm 1 eB ms) (a b : Int) :
    WR (callE Try.prog hk 5 [.slice p ys.length c, .int .i64 a, .int .i64 b, .slice pm ms.length cm] h) fun r h' => r = .bool true := by
  have hn := hs.sl.nil'
  have hl := hs.sl.small
  have hnm := hm.nil'
  have hlm := hm.small
  refine WR.call (hH := rfl) Try.func5 rfl (n := 154) rfl rfl (by simp) ?_
  simp -dsimp (disch := first | with_reducible assumption | omega | (intro h_; cases h_; done) | (simp only [LN] <;> omega) | (simp only [LF]; done) | (repeat (first | with_reducible assumption | apply Ext.refl | apply Ext.app | (apply Ext.set <;> omega) | (refine Ext.trans ?_ (by assumption))))) only [AX, TY, gV, dstOf, p_makeFunc, p_mapUpdate, mapPut, entsOf, p_lookup, p_extract, p_nilCheck, oneV, p_load, p_store, p_binOp, p_unOp, p_indexAddr, p_index, p_box, p_build, evParts, builtinV, load1, ldc, splice, minds, disj, rcOf, isCall, touchV, idsOf, mapId, touchB, p_buildSlice, buildSliceV, reps, fillV, p_convert, p_slice, evO, p_makeSlice, sid_some, soff_some, Nat.reduceLT, Nat.reduceLeDiff, Nat.reduceEqDiff, Nat.reduceAdd, Nat.reduceMul, Int.reduceBEq, Int.reduceEq, Int.reduceNeg, Int.reduceLT, Int.reduceLE, Int.reduceAdd, Int.reduceSub, Int.reduceMul, Int.reduceToNat, Int.reduceGT, Nat.reduceBEq, Nat.reducePow, Nat.reduceGT, reduceCtorEq, ↓reduceIte]
  refine awake_ok.mono ?_
  rintro _ h1 ⟨e1, rfl⟩
  simp -dsimp (disch := first | with_reducible assumption | omega | (intro h_; cases h_; done) | (simp only [LN] <;> omega) | (simp only [LF]; done) | (repeat (first | with_reducible assumption | apply Ext.refl | apply Ext.app | (apply Ext.set <;> omega) | (refine Ext.trans ?_ (by assumption))))) only [AX, TY, gV, dstOf, p_makeFunc, p_mapUpdate, mapPut, entsOf, p_lookup, p_extract, p_nilCheck, oneV, p_load, p_store, p_binOp, p_unOp, p_indexAddr, p_index, p_box, p_build, evParts, builtinV, load1, ldc, splice, minds, disj, rcOf, isCall, touchV, idsOf, mapId, touchB, p_buildSlice, buildSliceV, reps, fillV, p_convert, p_slice, evO, p_makeSlice, sid_some, soff_some, Nat.reduceLT, Nat.reduceLeDiff, Nat.reduceEqDiff, Nat.reduceAdd, Nat.reduceMul, Int.reduceBEq, Int.reduceEq, Int.reduceNeg, Int.reduceLT, Int.reduceLE, Int.reduceAdd, Int.reduceSub, Int.reduceMul, Int.reduceToNat, Int.reduceGT, Nat.reduceBEq, Nat.reducePow, Nat.reduceGT, reduceCtorEq, ↓reduceIte]
  refine (few_ok (hs.ext e1) 20).mono ?_
  rintro _ h1 ⟨rfl, fb, rfl, hfb⟩
  cases fb
  · simp -dsimp (disch := first | with_reducible assumption | omega | (intro h_; cases h_; done) | (simp only [LN] <;> omega) | (simp only [LF]; done) | (repeat (first | with_reducible assumption | apply Ext.refl | apply Ext.app | (apply Ext.set <;> omega) | (refine Ext.trans ?_ (by assumption))))) only [AX, TY, gV, dstOf, p_makeFunc, p_mapUpdate, mapPut, entsOf, p_lookup, p_extract, p_nilCheck, oneV, p_load, p_store, p_binOp, p_unOp, p_indexAddr, p_index, p_box, p_build, evParts, builtinV, load1, ldc, splice, minds, disj, rcOf, isCall, touchV, idsOf, mapId, touchB, p_buildSlice, buildSliceV, reps, fillV, p_convert, p_slice, evO, p_makeSlice, sid_some, soff_some, Nat.reduceLT, Nat.reduceLeDiff, Nat.reduceEqDiff, Nat.reduceAdd, Nat.reduceMul, Int.reduceBEq, Int.reduceEq, Int.reduceNeg, Int.reduceLT, Int.reduceLE, Int.reduceAdd, Int.reduceSub, Int.reduceMul, Int.reduceToNat, Int.reduceGT, Nat.reduceBEq, Nat.reducePow, Nat.reduceGT, reduceCtorEq, ↓reduceIte]
  obtain ⟨hl20, hv10⟩ := hfb rfl
  by_cases g1 : b < a
  · simp -dsimp (disch := first | with_reducible assumption | omega | (intro h_; cases h_; done) | (simp only [LN] <;> omega) | (simp only [LF]; done) | (repeat (first | with_reducible assumption | apply Ext.refl | apply Ext.app | (apply Ext.set <;> omega) | (refine Ext.trans ?_ (by assumption))))) only [AX, TY, gV, dstOf, p_makeFunc, p_mapUpdate, mapPut, entsOf, p_lookup, p_extract, p_nilCheck, oneV, p_load, p_store, p_binOp, p_unOp, p_indexAddr, p_index, p_box, p_build, evParts, builtinV, load1, ldc, splice, minds, disj, rcOf, isCall, touchV, idsOf, mapId, touchB, p_buildSlice, buildSliceV, reps, fillV, p_convert, p_slice, evO, p_makeSlice, sid_some, soff_some, Nat.reduceLT, Nat.reduceLeDiff, Nat.reduceEqDiff, Nat.reduceAdd, Nat.reduceMul, Int.reduceBEq, Int.reduceEq, Int.reduceNeg, Int.reduceLT, Int.reduceLE, Int.reduceAdd, Int.reduceSub, Int.reduceMul, Int.reduceToNat, Int.reduceGT, Nat.reduceBEq, Nat.reducePow, Nat.reduceGT, reduceCtorEq, ↓reduceIte, g1]
  by_cases g2 : 4611686018427387904 ≤ b
  · simp -dsimp (disch := first | with_reducible assumption | omega | (intro h_; cases h_; done) | (simp only [LN] <;> omega) | (simp only [LF]; done) | (repeat (first | with_reducible assumption | apply Ext.refl | apply Ext.app | (apply Ext.set <;> omega) | (refine Ext.trans ?_ (by assumption))))) only [AX, TY, gV, dstOf, p_makeFunc, p_mapUpdate, mapPut, entsOf, p_lookup, p_extract, p_nilCheck, oneV, p_load, p_store, p_binOp, p_unOp, p_indexAddr, p_index, p_box, p_build, evParts, builtinV, load1, ldc, splice, minds, disj, rcOf, isCall, touchV, idsOf, mapId, touchB, p_buildSlice, buildSliceV, reps, fillV, p_convert, p_slice, evO, p_makeSlice, sid_some, soff_some, Nat.reduceLT, Nat.reduceLeDiff, Nat.reduceEqDiff, Nat.reduceAdd, Nat.reduceMul, Int.reduceBEq, Int.reduceEq, Int.reduceNeg, Int.reduceLT, Int.reduceLE, Int.reduceAdd, Int.reduceSub, Int.reduceMul, Int.reduceToNat, Int.reduceGT, Nat.reduceBEq, Nat.reducePow, Nat.reduceGT, reduceCtorEq, ↓reduceIte, g1, g2]
  by_cases g3 : a < 0
  · simp -dsimp (disch := first | with_reducible assumption | omega | (intro h_; cases h_; done) | (simp only [LN] <;> omega) | (simp only [LF]; done) | (repeat (first | with_reducible assumption | apply Ext.refl | apply Ext.app | (apply Ext.set <;> omega) | (refine Ext.trans ?_ (by assumption))))) only [AX, TY, gV, dstOf, p_makeFunc, p_mapUpdate, mapPut, entsOf, p_lookup, p_extract, p_nilCheck, oneV, p_load, p_store, p_binOp, p_unOp, p_indexAddr, p_index, p_box, p_build, evParts, builtinV, load1, ldc, splice, minds, disj, rcOf, isCall, touchV, idsOf, mapId, touchB, p_buildSlice, buildSliceV, reps, fillV, p_convert, p_slice, evO, p_makeSlice, sid_some, soff_some, Nat.reduceLT, Nat.reduceLeDiff, Nat.reduceEqDiff, Nat.reduceAdd, Nat.reduceMul, Int.reduceBEq, Int.reduceEq, Int.reduceNeg, Int.reduceLT, Int.reduceLE, Int.reduceAdd, Int.reduceSub, Int.reduceMul, Int.reduceToNat, Int.reduceGT, Nat.reduceBEq, Nat.reducePow, Nat.reduceGT, reduceCtorEq, ↓reduceIte, g1, g2, g3]
  simp -dsimp (disch := first | with_reducible assumption | omega | (intro h_; cases h_; done) | (simp only [LN] <;> omega) | (simp only [LF]; done) | (repeat (first | with_reducible assumption | apply Ext.refl | apply Ext.app | (apply Ext.set <;> omega) | (refine Ext.trans ?_ (by assumption))))) only [AX, TY, gV, dstOf, p_makeFunc, p_mapUpdate, mapPut, entsOf, p_lookup, p_extract, p_nilCheck, oneV, p_load, p_store, p_binOp, p_unOp, p_indexAddr, p_index, p_box, p_build, evParts, builtinV, load1, ldc, splice, minds, disj, rcOf, isCall, touchV, idsOf, mapId, touchB, p_buildSlice, buildSliceV, reps, fillV, p_convert, p_slice, evO, p_makeSlice, sid_some, soff_some, Nat.reduceLT, Nat.reduceLeDiff, Nat.reduceEqDiff, Nat.reduceAdd, Nat.reduceMul, Int.reduceBEq, Int.reduceEq, Int.reduceNeg, Int.reduceLT, Int.reduceLE, Int.reduceAdd, Int.reduceSub, Int.reduceMul, Int.reduceToNat, Int.reduceGT, Nat.reduceBEq, Nat.reducePow, Nat.reduceGT, reduceCtorEq, ↓reduceIte, g1, g2, g3]
  refine W.loop (fun m τ hh => ∃ i zs, m + i = ys.length ∧ LS h1 p c ys pm cm ms a b i zs τ hh) ?_ (m := ys.length) ?_
  rotate_left
  · refine ⟨0, [], by simp, ?_⟩
    constructor <;> (try first | assumption | ((repeat (first | assumption | apply Ext.refl | apply Ext.app | (apply Ext.set <;> omega) | exact Ext.trans (by assumption) (by assumption) | (refine Ext.trans ?_ (by assumption)))); done) | (refine Sl.ext (by assumption) ?_; (repeat (first | assumption | apply Ext.refl | apply Ext.app | (apply Ext.set <;> omega) | exact Ext.trans (by assumption) (by assumption) | (refine Ext.trans ?_ (by assumption)))); done) | (simp -dsimp (disch := first | with_reducible assumption | omega | (intro h_; cases h_; done) | (simp only [LN] <;> omega) | (simp only [LF]; done) | (repeat (first | with_reducible assumption | apply Ext.refl | apply Ext.app | (apply Ext.set <;> omega) | (refine Ext.trans ?_ (by assumption))))) only [AX, TY, gV, dstOf, p_makeFunc, p_mapUpdate, mapPut, entsOf, p_lookup, p_extract, p_nilCheck, oneV, p_load, p_store, p_binOp, p_unOp, p_indexAddr, p_index, p_box, p_build, evParts, builtinV, load1, ldc, splice, minds, disj, rcOf, isCall, touchV, idsOf, mapId, touchB, p_buildSlice, buildSliceV, reps, fillV, p_convert, p_slice, evO, p_makeSlice, sid_some, soff_some, Nat.reduceLT, Nat.reduceLeDiff, Nat.reduceEqDiff, Nat.reduceAdd, Nat.reduceMul, Int.reduceBEq, Int.reduceEq, Int.reduceNeg, Int.reduceLT, Int.reduceLE, Int.reduceAdd, Int.reduceSub, Int.reduceMul, Int.reduceToNat, Int.reduceGT, Nat.reduceBEq, Nat.reducePow, Nat.reduceGT, reduceCtorEq, ↓reduceIte, Int.natCast_add, Int.natCast_one, Int.natCast_zero]; try (first | assumption | with_reducible rfl)))
    · exact ⟨some (h1.length, 0), some 0, some h1.length, rfl, Gr.built (C := []) (snoc_last _ rfl) rfl (Nat.le_refl _) (by simp) (by simp) (by simp) rfl⟩
    all_goals simp
  rintro m τ hh ⟨i, zs, hmi, e, t0, t1, t2, t3, t10, t11, ⟨po, co, oid, t9, gr⟩, hlen, hchg, hok⟩
  have le1 := e.le
  by_cases h1' : (i : Int) < (ys.length : Int)
  · have hi : i < ys.length := by omega
    have hyk := hs.ok _ (List.getElem_mem hi)
    generalize hyi : ys[i] = y at hyk
    have hld : ∀ {h3 : Heap}, Ext h1 h3 → ∀ {m : Nat}, m ≤ 5 → loadN h3 (sid p) (soff p + i * 5) m = some ((Ver.enc y).take m) := fun e3 => by rw [← hyi]; exact hs.sl.load0 (e1.trans e3) hi
    have hld2 : ∀ {h3 : Heap}, Ext h1 h3 → ∀ {o m : Nat}, o + m ≤ 5 → loadN h3 (sid p) (fld (soff p + i * 5) o) m = some (((Ver.enc y).drop o).take m) := fun e3 => by rw [← hyi]; exact hs.sl.load (e1.trans e3) hi
    generalize hR : Code.region 13 _ _ = R13
    have key13 : ∀ (τ2 : Tp) (h5 : Heap) {v9 : V} {Q : Post}, τ2 0 = .slice p ys.length c → τ2 1 = .int .i64 a → τ2 2 = .int .i64 b → τ2 3 = .slice pm ms.length cm → τ2 9 = v9 → τ2 10 = .bool ((ys.take i).all (quietV a b)) → τ2 11 = .int .i64 i → Ext h1 h5 →
        (∀ τ' h', (h5 = h' ∧ τ' 0 = .slice p ys.length c ∧ τ' 1 = .int .i64 a ∧ τ' 2 = .int .i64 b ∧ τ' 3 = .slice pm ms.length cm ∧ τ' 9 = v9 ∧ τ' 10 = .bool ((ys.take i).all (quietV a b) && quietV a b y) ∧ τ' 11 = .int .i64 i) → Q .norm τ' h') → wpc Try.prog hk 154 R13 Q τ2 h5 := by
      clear t0 t1 t2 t3 t9 t10 t11
      intro τ2 h5 v9 Q t0 t1 t2 t3 t9 t10 t11 ex5 hQ
      subst hR
      rw [wpc_region]
      refine wpo_cut (fun τ' h' => h5 = h' ∧ τ' 0 = .slice p ys.length c ∧ τ' 1 = .int .i64 a ∧ τ' 2 = .int .i64 b ∧ τ' 3 = .slice pm ms.length cm ∧ τ' 9 = v9 ∧ τ' 10 = .bool ((ys.take i).all (quietV a b) && quietV a b y) ∧ τ' 11 = .int .i64 i) ?_ hQ
      cases hQ : (ys.take i).all (quietV a b)
      · rw [hQ] at t10
        simp -dsimp (disch := first | with_reducible assumption | omega | (intro h_; cases h_; done) | (simp only [LN] <;> omega) | (simp only [LF]; done) | (repeat (first | with_reducible assumption | apply Ext.refl | apply Ext.app | (apply Ext.set <;> omega) | (refine Ext.trans ?_ (by assumption))))) only [AX, TY, gV, dstOf, p_makeFunc, p_mapUpdate, mapPut, entsOf, p_lookup, p_extract, p_nilCheck, oneV, p_load, p_store, p_binOp, p_unOp, p_indexAddr, p_index, p_box, p_build, evParts, builtinV, load1, ldc, splice, minds, disj, rcOf, isCall, touchV, idsOf, mapId, touchB, p_buildSlice, buildSliceV, reps, fillV, p_convert, p_slice, evO, p_makeSlice, sid_some, soff_some, Nat.reduceLT, Nat.reduceLeDiff, Nat.reduceEqDiff, Nat.reduceAdd, Nat.reduceMul, Int.reduceBEq, Int.reduceEq, Int.reduceNeg, Int.reduceLT, Int.reduceLE, Int.reduceAdd, Int.reduceSub, Int.reduceMul, Int.reduceToNat, Int.reduceGT, Nat.reduceBEq, Nat.reducePow, Nat.reduceGT, reduceCtorEq, ↓reduceIte, t0, t1, t2, t3, t9, t10, t11]
      · rw [hQ] at t10
        by_cases cc : y.cr ≤ a ∨ b < y.cr
        · by_cases d1 : y.dl ≤ a
          · rcases cc with c1 | c1
            · simp -dsimp (disch := first | with_reducible assumption | omega | (intro h_; cases h_; done) | (simp only [LN] <;> omega) | (simp only [LF]; done) | (repeat (first | with_reducible assumption | apply Ext.refl | apply Ext.app | (apply Ext.set <;> omega) | (refine Ext.trans ?_ (by assumption))))) only [AX, TY, gV, dstOf, p_makeFunc, p_mapUpdate, mapPut, entsOf, p_lookup, p_extract, p_nilCheck, oneV, p_load, p_store, p_binOp, p_unOp, p_indexAddr, p_index, p_box, p_build, evParts, builtinV, load1, ldc, splice, minds, disj, rcOf, isCall, touchV, idsOf, mapId, touchB, p_buildSlice, buildSliceV, reps, fillV, p_convert, p_slice, evO, p_makeSlice, sid_some, soff_some, Nat.reduceLT, Nat.reduceLeDiff, Nat.reduceEqDiff, Nat.reduceAdd, Nat.reduceMul, Int.reduceBEq, Int.reduceEq, Int.reduceNeg, Int.reduceLT, Int.reduceLE, Int.reduceAdd, Int.reduceSub, Int.reduceMul, Int.reduceToNat, Int.reduceGT, Nat.reduceBEq, Nat.reducePow, Nat.reduceGT, reduceCtorEq, ↓reduceIte, t0, t1, t2, t3, t9, t10, t11, hld2, Ver.enc, c1, d1]
              simp [quietV, c1, d1]
            · have c2 : ¬ y.cr ≤ a := by omega
              simp -dsimp (disch := first | with_reducible assumption | omega | (intro h_; cases h_; done) | (simp only [LN] <;> omega) | (simp only [LF]; done) | (repeat (first | with_reducible assumption | apply Ext.refl | apply Ext.app | (apply Ext.set <;> omega) | (refine Ext.trans ?_ (by assumption))))) only [AX, TY, gV, dstOf, p_makeFunc, p_mapUpdate, mapPut, entsOf, p_lookup, p_extract, p_nilCheck, oneV, p_load, p_store, p_binOp, p_unOp, p_indexAddr, p_index, p_box, p_build, evParts, builtinV, load1, ldc, splice, minds, disj, rcOf, isCall, touchV, idsOf, mapId, touchB, p_buildSlice, buildSliceV, reps, fillV, p_convert, p_slice, evO, p_makeSlice, sid_some, soff_some, Nat.reduceLT, Nat.reduceLeDiff, Nat.reduceEqDiff, Nat.reduceAdd, Nat.reduceMul, Int.reduceBEq, Int.reduceEq, Int.reduceNeg, Int.reduceLT, Int.reduceLE, Int.reduceAdd, Int.reduceSub, Int.reduceMul, Int.reduceToNat, Int.reduceGT, Nat.reduceBEq, Nat.reducePow, Nat.reduceGT, reduceCtorEq, ↓reduceIte, t0, t1, t2, t3, t9, t10, t11, hld2, Ver.enc, c1, c2, d1]
              simp [quietV, c1, d1]
          · rcases cc with c1 | c1
            · simp -dsimp (disch := first | with_reducible assumption | omega | (intro h_; cases h_; done) | (simp only [LN] <;> omega) | (simp only [LF]; done) | (repeat (first | with_reducible assumption | apply Ext.refl | apply Ext.app | (apply Ext.set <;> omega) | (refine Ext.trans ?_ (by assumption))))) only [AX, TY, gV, dstOf, p_makeFunc, p_mapUpdate, mapPut, entsOf, p_lookup, p_extract, p_nilCheck, oneV, p_load, p_store, p_binOp, p_unOp, p_indexAddr, p_index, p_box, p_build, evParts, builtinV, load1, ldc, splice, minds, disj, rcOf, isCall, touchV, idsOf, mapId, touchB, p_buildSlice, buildSliceV, reps, fillV, p_convert, p_slice, evO, p_makeSlice, sid_some, soff_some, Nat.reduceLT, Nat.reduceLeDiff, Nat.reduceEqDiff, Nat.reduceAdd, Nat.reduceMul, Int.reduceBEq, Int.reduceEq, Int.reduceNeg, Int.reduceLT, Int.reduceLE, Int.reduceAdd, Int.reduceSub, Int.reduceMul, Int.reduceToNat, Int.reduceGT, Nat.reduceBEq, Nat.reducePow, Nat.reduceGT, reduceCtorEq, ↓reduceIte, t0, t1, t2, t3, t9, t10, t11, hld2, Ver.enc, c1, d1]
              simp [quietV, c1, d1]
            · have c2 : ¬ y.cr ≤ a := by omega
              simp -dsimp (disch := first | with_reducible assumption | omega | (intro h_; cases h_; done) | (simp only [LN] <;> omega) | (simp only [LF]; done) | (repeat (first | with_reducible assumption | apply Ext.refl | apply Ext.app | (apply Ext.set <;> omega) | (refine Ext.trans ?_ (by assumption))))) only [AX, TY, gV, dstOf, p_makeFunc, p_mapUpdate, mapPut, entsOf, p_lookup, p_extract, p_nilCheck, oneV, p_load, p_store, p_binOp, p_unOp, p_indexAddr, p_index, p_box, p_build, evParts, builtinV, load1, ldc, splice, minds, disj, rcOf, isCall, touchV, idsOf, mapId, touchB, p_buildSlice, buildSliceV, reps, fillV, p_convert, p_slice, evO, p_makeSlice, sid_some, soff_some, Nat.reduceLT, Nat.reduceLeDiff, Nat.reduceEqDiff, Nat.reduceAdd, Nat.reduceMul, Int.reduceBEq, Int.reduceEq, Int.reduceNeg, Int.reduceLT, Int.reduceLE, Int.reduceAdd, Int.reduceSub, Int.reduceMul, Int.reduceToNat, Int.reduceGT, Nat.reduceBEq, Nat.reducePow, Nat.reduceGT, reduceCtorEq, ↓reduceIte, t0, t1, t2, t3, t9, t10, t11, hld2, Ver.enc, c1, c2, d1]
              simp [quietV, c1, d1]
        · have c1 : ¬ y.cr ≤ a := by omega
          have c2 : ¬ b < y.cr := by omega
          simp -dsimp (disch := first | with_reducible assumption | omega | (intro h_; cases h_; done) | (simp only [LN] <;> omega) | (simp only [LF]; done) | (repeat (first | with_reducible assumption | apply Ext.refl | apply Ext.app | (apply Ext.set <;> omega) | (refine Ext.trans ?_ (by assumption))))) only [AX, TY, gV, dstOf, p_makeFunc, p_mapUpdate, mapPut, entsOf, p_lookup, p_extract, p_nilCheck, oneV, p_load, p_store, p_binOp, p_unOp, p_indexAddr, p_index, p_box, p_build, evParts, builtinV, load1, ldc, splice, minds, disj, rcOf, isCall, touchV, idsOf, mapId, touchB, p_buildSlice, buildSliceV, reps, fillV, p_convert, p_slice, evO, p_makeSlice, sid_some, soff_some, Nat.reduceLT, Nat.reduceLeDiff, Nat.reduceEqDiff, Nat.reduceAdd, Nat.reduceMul, Int.reduceBEq, Int.reduceEq, Int.reduceNeg, Int.reduceLT, Int.reduceLE, Int.reduceAdd, Int.reduceSub, Int.reduceMul, Int.reduceToNat, Int.reduceGT, Nat.reduceBEq, Nat.reducePow, Nat.reduceGT, reduceCtorEq, ↓reduceIte, t0, t1, t2, t3, t9, t10, t11, hld2, Ver.enc, c1, c2]
          simp [quietV, c1, c2]
    clear hR
    simp -dsimp (disch := first | with_reducible assumption | omega | (intro h_; cases h_; done) | (simp only [LN] <;> omega) | (simp only [LF]; done) | (repeat (first | with_reducible assumption | apply Ext.refl | apply Ext.app | (apply Ext.set <;> omega) | (refine Ext.trans ?_ (by assumption))))) only [AX, TY, gV, dstOf, p_makeFunc, p_mapUpdate, mapPut, entsOf, p_lookup, p_extract, p_nilCheck, oneV, p_load, p_store, p_binOp, p_unOp, p_indexAddr, p_index, p_box, p_build, evParts, builtinV, load1, ldc, splice, minds, disj, rcOf, isCall, touchV, idsOf, mapId, touchB, p_buildSlice, buildSliceV, reps, fillV, p_convert, p_slice, evO, p_makeSlice, sid_some, soff_some, Nat.reduceLT, Nat.reduceLeDiff, Nat.reduceEqDiff, Nat.reduceAdd, Nat.reduceMul, Int.reduceBEq, Int.reduceEq, Int.reduceNeg, Int.reduceLT, Int.reduceLE, Int.reduceAdd, Int.reduceSub, Int.reduceMul, Int.reduceToNat, Int.reduceGT, Nat.reduceBEq, Nat.reducePow, Nat.reduceGT, reduceCtorEq, ↓reduceIte, t0, t1, t2, t3, t9, t10, t11, h1', hld, Ver.enc]
    by_cases k1 : (i : Int) < (ms.length : Int)
    rotate_left
    · simp -dsimp (disch := first | with_reducible assumption | omega | (intro h_; cases h_; done) | (simp only [LN] <;> omega) | (simp only [LF]; done) | (repeat (first | with_reducible assumption | apply Ext.refl | apply Ext.app | (apply Ext.set <;> omega) | (refine Ext.trans ?_ (by assumption))))) only [AX, TY, gV, dstOf, p_makeFunc, p_mapUpdate, mapPut, entsOf, p_lookup, p_extract, p_nilCheck, oneV, p_load, p_store, p_binOp, p_unOp, p_indexAddr, p_index, p_box, p_build, evParts, builtinV, load1, ldc, splice, minds, disj, rcOf, isCall, touchV, idsOf, mapId, touchB, p_buildSlice, buildSliceV, reps, fillV, p_convert, p_slice, evO, p_makeSlice, sid_some, soff_some, Nat.reduceLT, Nat.reduceLeDiff, Nat.reduceEqDiff, Nat.reduceAdd, Nat.reduceMul, Int.reduceBEq, Int.reduceEq, Int.reduceNeg, Int.reduceLT, Int.reduceLE, Int.reduceAdd, Int.reduceSub, Int.reduceMul, Int.reduceToNat, Int.reduceGT, Nat.reduceBEq, Nat.reducePow, Nat.reduceGT, reduceCtorEq, ↓reduceIte, t0, t1, t2, t3, t9, t10, t11, k1]
      obtain ⟨p5, c5, oid5, h5, hap, gr5, ho5, hl5, hk5, hb5⟩ := (gr.ext (hh := hh ++ [O.cells [V.int IntKind.i64 y.a, V.int IntKind.i64 y.b, V.slice y.p y.vals.length y.c, V.int IntKind.i64 y.cr, V.int IntKind.i64 y.dl] Kd.rw] ++ [O.cells (Ver.enc ⟨y.a, y.b, y.p, y.c, y.vals, y.cr, y.dl⟩) Kd.rw]) (by (repeat (first | assumption | apply Ext.refl | apply Ext.app | (apply Ext.set <;> omega) | exact Ext.trans (by assumption) (by assumption) | (refine Ext.trans ?_ (by assumption)))))).push (bytes := 56) (vc := some 1) (q := hh.length + 1) (by simp; omega) (snoc_last _ (by simp)) rfl rfl (by omega) (by omega)
      simp only [Ver.enc] at hap
      rw [hap, WR_some]
      refine wpo_cut (fun τ' h' => h5 = h' ∧ τ' 0 = .slice p ys.length c ∧ τ' 1 = .int .i64 a ∧ τ' 2 = .int .i64 b ∧ τ' 3 = .slice pm ms.length cm ∧ τ' 9 = .slice p5 (zs.length + 1) c5 ∧ τ' 10 = .bool ((ys.take i).all (quietV a b)) ∧ τ' 11 = .int .i64 i) ?_ ?_
      · simp -dsimp (disch := first | with_reducible assumption | omega | (intro h_; cases h_; done) | (simp only [LN] <;> omega) | (simp only [LF]; done) | (repeat (first | with_reducible assumption | apply Ext.refl | apply Ext.app | (apply Ext.set <;> omega) | (refine Ext.trans ?_ (by assumption))))) only [AX, TY, gV, dstOf, p_makeFunc, p_mapUpdate, mapPut, entsOf, p_lookup, p_extract, p_nilCheck, oneV, p_load, p_store, p_binOp, p_unOp, p_indexAddr, p_index, p_box, p_build, evParts, builtinV, load1, ldc, splice, minds, disj, rcOf, isCall, touchV, idsOf, mapId, touchB, p_buildSlice, buildSliceV, reps, fillV, p_convert, p_slice, evO, p_makeSlice, sid_some, soff_some, Nat.reduceLT, Nat.reduceLeDiff, Nat.reduceEqDiff, Nat.reduceAdd, Nat.reduceMul, Int.reduceBEq, Int.reduceEq, Int.reduceNeg, Int.reduceLT, Int.reduceLE, Int.reduceAdd, Int.reduceSub, Int.reduceMul, Int.reduceToNat, Int.reduceGT, Nat.reduceBEq, Nat.reducePow, Nat.reduceGT, reduceCtorEq, ↓reduceIte, t0, t1, t2, t3, t9, t10, t11]
      clear t0 t1 t2 t3 t9 t10 t11
      rintro τ2 _ ⟨rfl, t0, t1, t2, t3, t9, t10, t11⟩
      have ex5 : Ext h1 h5 := Ext.below (h := hh ++ [O.cells [V.int IntKind.i64 y.a, V.int IntKind.i64 y.b, V.slice y.p y.vals.length y.c, V.int IntKind.i64 y.cr, V.int IntKind.i64 y.dl] Kd.rw] ++ [O.cells (Ver.enc ⟨y.a, y.b, y.p, y.c, y.vals, y.cr, y.dl⟩) Kd.rw]) (by (repeat (first | assumption | apply Ext.refl | apply Ext.app | (apply Ext.set <;> omega) | exact Ext.trans (by assumption) (by assumption) | (refine Ext.trans ?_ (by assumption))))) (Nat.le_refl _) hb5
      rw [thenQ_norm]
      refine key13 τ2 _ t0 t1 t2 t3 t9 t10 t11 ex5 ?_
      clear t0 t1 t2 t3 t9 t10 t11
      rintro τ3 _ ⟨rfl, t0, t1, t2, t3, t9, t10, t11⟩
      simp -dsimp (disch := first | with_reducible assumption | omega | (intro h_; cases h_; done) | (simp only [LN] <;> omega) | (simp only [LF]; done) | (repeat (first | with_reducible assumption | apply Ext.refl | apply Ext.app | (apply Ext.set <;> omega) | (refine Ext.trans ?_ (by assumption))))) only [AX, TY, gV, dstOf, p_makeFunc, p_mapUpdate, mapPut, entsOf, p_lookup, p_extract, p_nilCheck, oneV, p_load, p_store, p_binOp, p_unOp, p_indexAddr, p_index, p_box, p_build, evParts, builtinV, load1, ldc, splice, minds, disj, rcOf, isCall, touchV, idsOf, mapId, touchB, p_buildSlice, buildSliceV, reps, fillV, p_convert, p_slice, evO, p_makeSlice, sid_some, soff_some, Nat.reduceLT, Nat.reduceLeDiff, Nat.reduceEqDiff, Nat.reduceAdd, Nat.reduceMul, Int.reduceBEq, Int.reduceEq, Int.reduceNeg, Int.reduceLT, Int.reduceLE, Int.reduceAdd, Int.reduceSub, Int.reduceMul, Int.reduceToNat, Int.reduceGT, Nat.reduceBEq, Nat.reducePow, Nat.reduceGT, reduceCtorEq, ↓reduceIte, t0, t1, t2, t3, t9, t10, t11, wrap_in]
      refine ⟨m - 1, by omega, i + 1, zs ++ [⟨y.a, y.b, y.p, y.c, y.vals, y.cr, y.dl⟩], by omega, ?_⟩
      constructor <;> (try first | assumption | ((repeat (first | assumption | apply Ext.refl | apply Ext.app | (apply Ext.set <;> omega) | exact Ext.trans (by assumption) (by assumption) | (refine Ext.trans ?_ (by assumption)))); done) | (refine Sl.ext (by assumption) ?_; (repeat (first | assumption | apply Ext.refl | apply Ext.app | (apply Ext.set <;> omega) | exact Ext.trans (by assumption) (by assumption) | (refine Ext.trans ?_ (by assumption)))); done) | (simp -dsimp (disch := first | with_reducible assumption | omega | (intro h_; cases h_; done) | (simp only [LN] <;> omega) | (simp only [LF]; done) | (repeat (first | with_reducible assumption | apply Ext.refl | apply Ext.app | (apply Ext.set <;> omega) | (refine Ext.trans ?_ (by assumption))))) only [AX, TY, gV, dstOf, p_makeFunc, p_mapUpdate, mapPut, entsOf, p_lookup, p_extract, p_nilCheck, oneV, p_load, p_store, p_binOp, p_unOp, p_indexAddr, p_index, p_box, p_build, evParts, builtinV, load1, ldc, splice, minds, disj, rcOf, isCall, touchV, idsOf, mapId, touchB, p_buildSlice, buildSliceV, reps, fillV, p_convert, p_slice, evO, p_makeSlice, sid_some, soff_some, Nat.reduceLT, Nat.reduceLeDiff, Nat.reduceEqDiff, Nat.reduceAdd, Nat.reduceMul, Int.reduceBEq, Int.reduceEq, Int.reduceNeg, Int.reduceLT, Int.reduceLE, Int.reduceAdd, Int.reduceSub, Int.reduceMul, Int.reduceToNat, Int.reduceGT, Nat.reduceBEq, Nat.reducePow, Nat.reduceGT, reduceCtorEq, ↓reduceIte, t0, t1, t2, t3, t9, t10, t11, wrap_in, Int.natCast_add, Int.natCast_one, Int.natCast_zero]; try (first | assumption | with_reducible rfl)))
      · rw [List.take_succ_eq_append_getElem hi, List.all_append, hyi]; simp
      · exact ⟨p5, c5, oid5, by simp, gr5⟩
      · intro k y' z' hy' hz'
        rw [List.getElem?_append] at hz'
        split at hz'
        · exact hchg k y' z' hy' hz'
        · rename_i hk
          have hkz : k - zs.length = 0 := by
            have := (List.getElem?_eq_some_iff.1 hz').1
            simp at this; omega
          rw [hkz] at hz'
          simp only [List.getElem?_cons_zero, Option.some.injEq] at hz'
          subst hz'
          have hki : k = i := by omega
          subst hki
          rw [List.getElem?_eq_getElem hi, hyi] at hy'
          simp only [Option.some.injEq] at hy'
          subst hy'
          exact (by exact ⟨rfl, rfl, rfl, rfl, rfl, .inl rfl⟩)
      · intro z hz
        rcases List.mem_append.1 hz with hz | hz
        · exact hok z hz
        · simp only [List.mem_singleton] at hz
          subst hz
          exact hyk.ext e1
    have hmi' : i < ms.length := by omega
    have hmb : ∀ {h3 : Heap}, Ext h1 h3 → ∀ {m : Nat}, m ≤ 1 → loadN h3 (sid pm) (soff pm + i * 1) m = some ((eB ms[i]).take m) := fun e3 => hm.load0 (e1.trans e3) hmi'
    generalize ms[i] = mb at hmb
    cases mb
    · simp -dsimp (disch := first | with_reducible assumption | omega | (intro h_; cases h_; done) | (simp only [LN] <;> omega) | (simp only [LF]; done) | (repeat (first | with_reducible assumption | apply Ext.refl | apply Ext.app | (apply Ext.set <;> omega) | (refine Ext.trans ?_ (by assumption))))) only [AX, TY, gV, dstOf, p_makeFunc, p_mapUpdate, mapPut, entsOf, p_lookup, p_extract, p_nilCheck, oneV, p_load, p_store, p_binOp, p_unOp, p_indexAddr, p_index, p_box, p_build, evParts, builtinV, load1, ldc, splice, minds, disj, rcOf, isCall, touchV, idsOf, mapId, touchB, p_buildSlice, buildSliceV, reps, fillV, p_convert, p_slice, evO, p_makeSlice, sid_some, soff_some, Nat.reduceLT, Nat.reduceLeDiff, Nat.reduceEqDiff, Nat.reduceAdd, Nat.reduceMul, Int.reduceBEq, Int.reduceEq, Int.reduceNeg, Int.reduceLT, Int.reduceLE, Int.reduceAdd, Int.reduceSub, Int.reduceMul, Int.reduceToNat, Int.reduceGT, Nat.reduceBEq, Nat.reducePow, Nat.reduceGT, reduceCtorEq, ↓reduceIte, t0, t1, t2, t3, t9, t10, t11, k1, hmb]
      obtain ⟨p5, c5, oid5, h5, hap, gr5, ho5, hl5, hk5, hb5⟩ := (gr.ext (hh := hh ++ [O.cells [V.int IntKind.i64 y.a, V.int IntKind.i64 y.b, V.slice y.p y.vals.length y.c, V.int IntKind.i64 y.cr, V.int IntKind.i64 y.dl] Kd.rw] ++ [O.cells (Ver.enc ⟨y.a, y.b, y.p, y.c, y.vals, y.cr, y.dl⟩) Kd.rw]) (by (repeat (first | assumption | apply Ext.refl | apply Ext.app | (apply Ext.set <;> omega) | exact Ext.trans (by assumption) (by assumption) | (refine Ext.trans ?_ (by assumption)))))).push (bytes := 56) (vc := some 1) (q := hh.length + 1) (by simp; omega) (snoc_last _ (by simp)) rfl rfl (by omega) (by omega)
      simp only [Ver.enc] at hap
      rw [hap, WR_some]
      refine wpo_cut (fun τ' h' => h5 = h' ∧ τ' 0 = .slice p ys.length c ∧ τ' 1 = .int .i64 a ∧ τ' 2 = .int .i64 b ∧ τ' 3 = .slice pm ms.length cm ∧ τ' 9 = .slice p5 (zs.length + 1) c5 ∧ τ' 10 = .bool ((ys.take i).all (quietV a b)) ∧ τ' 11 = .int .i64 i) ?_ ?_
      · simp -dsimp (disch := first | with_reducible assumption | omega | (intro h_; cases h_; done) | (simp only [LN] <;> omega) | (simp only [LF]; done) | (repeat (first | with_reducible assumption | apply Ext.refl | apply Ext.app | (apply Ext.set <;> omega) | (refine Ext.trans ?_ (by assumption))))) only [AX, TY, gV, dstOf, p_makeFunc, p_mapUpdate, mapPut, entsOf, p_lookup, p_extract, p_nilCheck, oneV, p_load, p_store, p_binOp, p_unOp, p_indexAddr, p_index, p_box, p_build, evParts, builtinV, load1, ldc, splice, minds, disj, rcOf, isCall, touchV, idsOf, mapId, touchB, p_buildSlice, buildSliceV, reps, fillV, p_convert, p_slice, evO, p_makeSlice, sid_some, soff_some, Nat.reduceLT, Nat.reduceLeDiff, Nat.reduceEqDiff, Nat.reduceAdd, Nat.reduceMul, Int.reduceBEq, Int.reduceEq, Int.reduceNeg, Int.reduceLT, Int.reduceLE, Int.reduceAdd, Int.reduceSub, Int.reduceMul, Int.reduceToNat, Int.reduceGT, Nat.reduceBEq, Nat.reducePow, Nat.reduceGT, reduceCtorEq, ↓reduceIte, t0, t1, t2, t3, t9, t10, t11]
      clear t0 t1 t2 t3 t9 t10 t11
      rintro τ2 _ ⟨rfl, t0, t1, t2, t3, t9, t10, t11⟩
      have ex5 : Ext h1 h5 := Ext.below (h := hh ++ [O.cells [V.int IntKind.i64 y.a, V.int IntKind.i64 y.b, V.slice y.p y.vals.length y.c, V.int IntKind.i64 y.cr, V.int IntKind.i64 y.dl] Kd.rw] ++ [O.cells (Ver.enc ⟨y.a, y.b, y.p, y.c, y.vals, y.cr, y.dl⟩) Kd.rw]) (by (repeat (first | assumption | apply Ext.refl | apply Ext.app | (apply Ext.set <;> omega) | exact Ext.trans (by assumption) (by assumption) | (refine Ext.trans ?_ (by assumption))))) (Nat.le_refl _) hb5
      rw [thenQ_norm]
      refine key13 τ2 _ t0 t1 t2 t3 t9 t10 t11 ex5 ?_
      clear t0 t1 t2 t3 t9 t10 t11
      rintro τ3 _ ⟨rfl, t0, t1, t2, t3, t9, t10, t11⟩
      simp -dsimp (disch := first | with_reducible assumption | omega | (intro h_; cases h_; done) | (simp only [LN] <;> omega) | (simp only [LF]; done) | (repeat (first | with_reducible assumption | apply Ext.refl | apply Ext.app | (apply Ext.set <;> omega) | (refine Ext.trans ?_ (by assumption))))) only [AX, TY, gV, dstOf, p_makeFunc, p_mapUpdate, mapPut, entsOf, p_lookup, p_extract, p_nilCheck, oneV, p_load, p_store, p_binOp, p_unOp, p_indexAddr, p_index, p_box, p_build, evParts, builtinV, load1, ldc, splice, minds, disj, rcOf, isCall, touchV, idsOf, mapId, touchB, p_buildSlice, buildSliceV, reps, fillV, p_convert, p_slice, evO, p_makeSlice, sid_some, soff_some, Nat.reduceLT, Nat.reduceLeDiff, Nat.reduceEqDiff, Nat.reduceAdd, Nat.reduceMul, Int.reduceBEq, Int.reduceEq, Int.reduceNeg, Int.reduceLT, Int.reduceLE, Int.reduceAdd, Int.reduceSub, Int.reduceMul, Int.reduceToNat, Int.reduceGT, Nat.reduceBEq, Nat.reducePow, Nat.reduceGT, reduceCtorEq, ↓reduceIte, t0, t1, t2, t3, t9, t10, t11, wrap_in]
      refine ⟨m - 1, by omega, i + 1, zs ++ [⟨y.a, y.b, y.p, y.c, y.vals, y.cr, y.dl⟩], by omega, ?_⟩
      constructor <;> (try first | assumption | ((repeat (first | assumption | apply Ext.refl | apply Ext.app | (apply Ext.set <;> omega) | exact Ext.trans (by assumption) (by assumption) | (refine Ext.trans ?_ (by assumption)))); done) | (refine Sl.ext (by assumption) ?_; (repeat (first | assumption | apply Ext.refl | apply Ext.app | (apply Ext.set <;> omega) | exact Ext.trans (by assumption) (by assumption) | (refine Ext.trans ?_ (by assumption)))); done) | (simp -dsimp (disch := first | with_reducible assumption | omega | (intro h_; cases h_; done) | (simp only [LN] <;> omega) | (simp only [LF]; done) | (repeat (first | with_reducible assumption | apply Ext.refl | apply Ext.app | (apply Ext.set <;> omega) | (refine Ext.trans ?_ (by assumption))))) only [AX, TY, gV, dstOf, p_makeFunc, p_mapUpdate, mapPut, entsOf, p_lookup, p_extract, p_nilCheck, oneV, p_load, p_store, p_binOp, p_unOp, p_indexAddr, p_index, p_box, p_build, evParts, builtinV, load1, ldc, splice, minds, disj, rcOf, isCall, touchV, idsOf, mapId, touchB, p_buildSlice, buildSliceV, reps, fillV, p_convert, p_slice, evO, p_makeSlice, sid_some, soff_some, Nat.reduceLT, Nat.reduceLeDiff, Nat.reduceEqDiff, Nat.reduceAdd, Nat.reduceMul, Int.reduceBEq, Int.reduceEq, Int.reduceNeg, Int.reduceLT, Int.reduceLE, Int.reduceAdd, Int.reduceSub, Int.reduceMul, Int.reduceToNat, Int.reduceGT, Nat.reduceBEq, Nat.reducePow, Nat.reduceGT, reduceCtorEq, ↓reduceIte, t0, t1, t2, t3, t9, t10, t11, wrap_in, Int.natCast_add, Int.natCast_one, Int.natCast_zero]; try (first | assumption | with_reducible rfl)))
      · rw [List.take_succ_eq_append_getElem hi, List.all_append, hyi]; simp
      · exact ⟨p5, c5, oid5, by simp, gr5⟩
      · intro k y' z' hy' hz'
        rw [List.getElem?_append] at hz'
        split at hz'
        · exact hchg k y' z' hy' hz'
        · rename_i hk
          have hkz : k - zs.length = 0 := by
            have := (List.getElem?_eq_some_iff.1 hz').1
            simp at this; omega
          rw [hkz] at hz'
          simp only [List.getElem?_cons_zero, Option.some.injEq] at hz'
          subst hz'
          have hki : k = i := by omega
          subst hki
          rw [List.getElem?_eq_getElem hi, hyi] at hy'
          simp only [Option.some.injEq] at hy'
          subst hy'
          exact (by exact ⟨rfl, rfl, rfl, rfl, rfl, .inl rfl⟩)
      · intro z hz
        rcases List.mem_append.1 hz with hz | hz
        · exact hok z hz
        · simp only [List.mem_singleton] at hz
          subst hz
          exact hyk.ext e1
    by_cases k2 : y.dl = 0
    rotate_left
    · simp -dsimp (disch := first | with_reducible assumption | omega | (intro h_; cases h_; done) | (simp only [LN] <;> omega) | (simp only [LF]; done) | (repeat (first | with_reducible assumption | apply Ext.refl | apply Ext.app | (apply Ext.set <;> omega) | (refine Ext.trans ?_ (by assumption))))) only [AX, TY, gV, dstOf, p_makeFunc, p_mapUpdate, mapPut, entsOf, p_lookup, p_extract, p_nilCheck, oneV, p_load, p_store, p_binOp, p_unOp, p_indexAddr, p_index, p_box, p_build, evParts, builtinV, load1, ldc, splice, minds, disj, rcOf, isCall, touchV, idsOf, mapId, touchB, p_buildSlice, buildSliceV, reps, fillV, p_convert, p_slice, evO, p_makeSlice, sid_some, soff_some, Nat.reduceLT, Nat.reduceLeDiff, Nat.reduceEqDiff, Nat.reduceAdd, Nat.reduceMul, Int.reduceBEq, Int.reduceEq, Int.reduceNeg, Int.reduceLT, Int.reduceLE, Int.reduceAdd, Int.reduceSub, Int.reduceMul, Int.reduceToNat, Int.reduceGT, Nat.reduceBEq, Nat.reducePow, Nat.reduceGT, reduceCtorEq, ↓reduceIte, t0, t1, t2, t3, t9, t10, t11, k1, hmb, k2]
      obtain ⟨p5, c5, oid5, h5, hap, gr5, ho5, hl5, hk5, hb5⟩ := (gr.ext (hh := hh ++ [O.cells [V.int IntKind.i64 y.a, V.int IntKind.i64 y.b, V.slice y.p y.vals.length y.c, V.int IntKind.i64 y.cr, V.int IntKind.i64 y.dl] Kd.rw] ++ [O.cells (Ver.enc ⟨y.a, y.b, y.p, y.c, y.vals, y.cr, y.dl⟩) Kd.rw]) (by (repeat (first | assumption | apply Ext.refl | apply Ext.app | (apply Ext.set <;> omega) | exact Ext.trans (by assumption) (by assumption) | (refine Ext.trans ?_ (by assumption)))))).push (bytes := 56) (vc := some 1) (q := hh.length + 1) (by simp; omega) (snoc_last _ (by simp)) rfl rfl (by omega) (by omega)
      simp only [Ver.enc] at hap
      rw [hap, WR_some]
      refine wpo_cut (fun τ' h' => h5 = h' ∧ τ' 0 = .slice p ys.length c ∧ τ' 1 = .int .i64 a ∧ τ' 2 = .int .i64 b ∧ τ' 3 = .slice pm ms.length cm ∧ τ' 9 = .slice p5 (zs.length + 1) c5 ∧ τ' 10 = .bool ((ys.take i).all (quietV a b)) ∧ τ' 11 = .int .i64 i) ?_ ?_
      · simp -dsimp (disch := first | with_reducible assumption | omega | (intro h_; cases h_; done) | (simp only [LN] <;> omega) | (simp only [LF]; done) | (repeat (first | with_reducible assumption | apply Ext.refl | apply Ext.app | (apply Ext.set <;> omega) | (refine Ext.trans ?_ (by assumption))))) only [AX, TY, gV, dstOf, p_makeFunc, p_mapUpdate, mapPut, entsOf, p_lookup, p_extract, p_nilCheck, oneV, p_load, p_store, p_binOp, p_unOp, p_indexAddr, p_index, p_box, p_build, evParts, builtinV, load1, ldc, splice, minds, disj, rcOf, isCall, touchV, idsOf, mapId, touchB, p_buildSlice, buildSliceV, reps, fillV, p_convert, p_slice, evO, p_makeSlice, sid_some, soff_some, Nat.reduceLT, Nat.reduceLeDiff, Nat.reduceEqDiff, Nat.reduceAdd, Nat.reduceMul, Int.reduceBEq, Int.reduceEq, Int.reduceNeg, Int.reduceLT, Int.reduceLE, Int.reduceAdd, Int.reduceSub, Int.reduceMul, Int.reduceToNat, Int.reduceGT, Nat.reduceBEq, Nat.reducePow, Nat.reduceGT, reduceCtorEq, ↓reduceIte, t0, t1, t2, t3, t9, t10, t11]
      clear t0 t1 t2 t3 t9 t10 t11
      rintro τ2 _ ⟨rfl, t0, t1, t2, t3, t9, t10, t11⟩
      have ex5 : Ext h1 h5 := Ext.below (h := hh ++ [O.cells [V.int IntKind.i64 y.a, V.int IntKind.i64 y.b, V.slice y.p y.vals.length y.c, V.int IntKind.i64 y.cr, V.int IntKind.i64 y.dl] Kd.rw] ++ [O.cells (Ver.enc ⟨y.a, y.b, y.p, y.c, y.vals, y.cr, y.dl⟩) Kd.rw]) (by (repeat (first | assumption | apply Ext.refl | apply Ext.app | (apply Ext.set <;> omega) | exact Ext.trans (by assumption) (by assumption) | (refine Ext.trans ?_ (by assumption))))) (Nat.le_refl _) hb5
      rw [thenQ_norm]
      refine key13 τ2 _ t0 t1 t2 t3 t9 t10 t11 ex5 ?_
      clear t0 t1 t2 t3 t9 t10 t11
      rintro τ3 _ ⟨rfl, t0, t1, t2, t3, t9, t10, t11⟩
      simp -dsimp (disch := first | with_reducible assumption | omega | (intro h_; cases h_; done) | (simp only [LN] <;> omega) | (simp only [LF]; done) | (repeat (first | with_reducible assumption | apply Ext.refl | apply Ext.app | (apply Ext.set <;> omega) | (refine Ext.trans ?_ (by assumption))))) only [AX, TY, gV, dstOf, p_makeFunc, p_mapUpdate, mapPut, entsOf, p_lookup, p_extract, p_nilCheck, oneV, p_load, p_store, p_binOp, p_unOp, p_indexAddr, p_index, p_box, p_build, evParts, builtinV, load1, ldc, splice, minds, disj, rcOf, isCall, touchV, idsOf, mapId, touchB, p_buildSlice, buildSliceV, reps, fillV, p_convert, p_slice, evO, p_makeSlice, sid_some, soff_some, Nat.reduceLT, Nat.reduceLeDiff, Nat.reduceEqDiff, Nat.reduceAdd, Nat.reduceMul, Int.reduceBEq, Int.reduceEq, Int.reduceNeg, Int.reduceLT, Int.reduceLE, Int.reduceAdd, Int.reduceSub, Int.reduceMul, Int.reduceToNat, Int.reduceGT, Nat.reduceBEq, Nat.reducePow, Nat.reduceGT, reduceCtorEq, ↓reduceIte, t0, t1, t2, t3, t9, t10, t11, wrap_in]
      refine ⟨m - 1, by omega, i + 1, zs ++ [⟨y.a, y.b, y.p, y.c, y.vals, y.cr, y.dl⟩], by omega, ?_⟩
      constructor <;> (try first | assumption | ((repeat (first | assumption | apply Ext.refl | apply Ext.app | (apply Ext.set <;> omega) | exact Ext.trans (by assumption) (by assumption) | (refine Ext.trans ?_ (by assumption)))); done) | (refine Sl.ext (by assumption) ?_; (repeat (first | assumption | apply Ext.refl | apply Ext.app | (apply Ext.set <;> omega) | exact Ext.trans (by assumption) (by assumption) | (refine Ext.trans ?_ (by assumption)))); done) | (simp -dsimp (disch := first | with_reducible assumption | omega | (intro h_; cases h_; done) | (simp only [LN] <;> omega) | (simp only [LF]; done) | (repeat (first | with_reducible assumption | apply Ext.refl | apply Ext.app | (apply Ext.set <;> omega) | (refine Ext.trans ?_ (by assumption))))) only [AX, TY, gV, dstOf, p_makeFunc, p_mapUpdate, mapPut, entsOf, p_lookup, p_extract, p_nilCheck, oneV, p_load, p_store, p_binOp, p_unOp, p_indexAddr, p_index, p_box, p_build, evParts, builtinV, load1, ldc, splice, minds, disj, rcOf, isCall, touchV, idsOf, mapId, touchB, p_buildSlice, buildSliceV, reps, fillV, p_convert, p_slice, evO, p_makeSlice, sid_some, soff_some, Nat.reduceLT, Nat.reduceLeDiff, Nat.reduceEqDiff, Nat.reduceAdd, Nat.reduceMul, Int.reduceBEq, Int.reduceEq, Int.reduceNeg, Int.reduceLT, Int.reduceLE, Int.reduceAdd, Int.reduceSub, Int.reduceMul, Int.reduceToNat, Int.reduceGT, Nat.reduceBEq, Nat.reducePow, Nat.reduceGT, reduceCtorEq, ↓reduceIte, t0, t1, t2, t3, t9, t10, t11, wrap_in, Int.natCast_add, Int.natCast_one, Int.natCast_zero]; try (first | assumption | with_reducible rfl)))
      · rw [List.take_succ_eq_append_getElem hi, List.all_append, hyi]; simp
      · exact ⟨p5, c5, oid5, by simp, gr5⟩
      · intro k y' z' hy' hz'
        rw [List.getElem?_append] at hz'
        split at hz'
        · exact hchg k y' z' hy' hz'
        · rename_i hk
          have hkz : k - zs.length = 0 := by
            have := (List.getElem?_eq_some_iff.1 hz').1
            simp at this; omega
          rw [hkz] at hz'
          simp only [List.getElem?_cons_zero, Option.some.injEq] at hz'
          subst hz'
          have hki : k = i := by omega
          subst hki
          rw [List.getElem?_eq_getElem hi, hyi] at hy'
          simp only [Option.some.injEq] at hy'
          subst hy'
          exact (by exact ⟨rfl, rfl, rfl, rfl, rfl, .inl rfl⟩)
      · intro z hz
        rcases List.mem_append.1 hz with hz | hz
        · exact hok z hz
        · simp only [List.mem_singleton] at hz
          subst hz
          exact hyk.ext e1
    have hw : IntKind.i64.wrap (b + 1) = b + 1 := by rw [IntKind.wrap_i64]; omega
    · simp -dsimp (disch := first | with_reducible assumption | omega | (intro h_; cases h_; done) | (simp only [LN] <;> omega) | (simp only [LF]; done) | (repeat (first | with_reducible assumption | apply Ext.refl | apply Ext.app | (apply Ext.set <;> omega) | (refine Ext.trans ?_ (by assumption))))) only [AX, TY, gV, dstOf, p_makeFunc, p_mapUpdate, mapPut, entsOf, p_lookup, p_extract, p_nilCheck, oneV, p_load, p_store, p_binOp, p_unOp, p_indexAddr, p_index, p_box, p_build, evParts, builtinV, load1, ldc, splice, minds, disj, rcOf, isCall, touchV, idsOf, mapId, touchB, p_buildSlice, buildSliceV, reps, fillV, p_convert, p_slice, evO, p_makeSlice, sid_some, soff_some, Nat.reduceLT, Nat.reduceLeDiff, Nat.reduceEqDiff, Nat.reduceAdd, Nat.reduceMul, Int.reduceBEq, Int.reduceEq, Int.reduceNeg, Int.reduceLT, Int.reduceLE, Int.reduceAdd, Int.reduceSub, Int.reduceMul, Int.reduceToNat, Int.reduceGT, Nat.reduceBEq, Nat.reducePow, Nat.reduceGT, reduceCtorEq, ↓reduceIte, t0, t1, t2, t3, t9, t10, t11, k1, hmb, k2, hw]
      obtain ⟨p5, c5, oid5, h5, hap, gr5, ho5, hl5, hk5, hb5⟩ := (gr.ext (hh := hh ++ [O.cells [V.int IntKind.i64 y.a, V.int IntKind.i64 y.b, V.slice y.p y.vals.length y.c, V.int IntKind.i64 y.cr, V.int IntKind.i64 (b + 1)] Kd.rw] ++ [O.cells (Ver.enc ⟨y.a, y.b, y.p, y.c, y.vals, y.cr, (b + 1)⟩) Kd.rw]) (by (repeat (first | assumption | apply Ext.refl | apply Ext.app | (apply Ext.set <;> omega) | exact Ext.trans (by assumption) (by assumption) | (refine Ext.trans ?_ (by assumption)))))).push (bytes := 56) (vc := some 1) (q := hh.length + 1) (by simp; omega) (snoc_last _ (by simp)) rfl rfl (by omega) (by omega)
      simp only [Ver.enc] at hap
      rw [hap, WR_some]
      refine wpo_cut (fun τ' h' => h5 = h' ∧ τ' 0 = .slice p ys.length c ∧ τ' 1 = .int .i64 a ∧ τ' 2 = .int .i64 b ∧ τ' 3 = .slice pm ms.length cm ∧ τ' 9 = .slice p5 (zs.length + 1) c5 ∧ τ' 10 = .bool ((ys.take i).all (quietV a b)) ∧ τ' 11 = .int .i64 i) ?_ ?_
      · simp -dsimp (disch := first | with_reducible assumption | omega | (intro h_; cases h_; done) | (simp only [LN] <;> omega) | (simp only [LF]; done) | (repeat (first | with_reducible assumption | apply Ext.refl | apply Ext.app | (apply Ext.set <;> omega) | (refine Ext.trans ?_ (by assumption))))) only [AX, TY, gV, dstOf, p_makeFunc, p_mapUpdate, mapPut, entsOf, p_lookup, p_extract, p_nilCheck, oneV, p_load, p_store, p_binOp, p_unOp, p_indexAddr, p_index, p_box, p_build, evParts, builtinV, load1, ldc, splice, minds, disj, rcOf, isCall, touchV, idsOf, mapId, touchB, p_buildSlice, buildSliceV, reps, fillV, p_convert, p_slice, evO, p_makeSlice, sid_some, soff_some, Nat.reduceLT, Nat.reduceLeDiff, Nat.reduceEqDiff, Nat.reduceAdd, Nat.reduceMul, Int.reduceBEq, Int.reduceEq, Int.reduceNeg, Int.reduceLT, Int.reduceLE, Int.reduceAdd, Int.reduceSub, Int.reduceMul, Int.reduceToNat, Int.reduceGT, Nat.reduceBEq, Nat.reducePow, Nat.reduceGT, reduceCtorEq, ↓reduceIte, t0, t1, t2, t3, t9, t10, t11]
      clear t0 t1 t2 t3 t9 t10 t11
      rintro τ2 _ ⟨rfl, t0, t1, t2, t3, t9, t10, t11⟩
      have ex5 : Ext h1 h5 := Ext.below (h := hh ++ [O.cells [V.int IntKind.i64 y.a, V.int IntKind.i64 y.b, V.slice y.p y.vals.length y.c, V.int IntKind.i64 y.cr, V.int IntKind.i64 (b + 1)] Kd.rw] ++ [O.cells (Ver.enc ⟨y.a, y.b, y.p, y.c, y.vals, y.cr, (b + 1)⟩) Kd.rw]) (by (repeat (first | assumption | apply Ext.refl | apply Ext.app | (apply Ext.set <;> omega) | exact Ext.trans (by assumption) (by assumption) | (refine Ext.trans ?_ (by assumption))))) (Nat.le_refl _) hb5
      rw [thenQ_norm]
      refine key13 τ2 _ t0 t1 t2 t3 t9 t10 t11 ex5 ?_
      clear t0 t1 t2 t3 t9 t10 t11
      rintro τ3 _ ⟨rfl, t0, t1, t2, t3, t9, t10, t11⟩
      simp -dsimp (disch := first | with_reducible assumption | omega | (intro h_; cases h_; done) | (simp only [LN] <;> omega) | (simp only [LF]; done) | (repeat (first | with_reducible assumption | apply Ext.refl | apply Ext.app | (apply Ext.set <;> omega) | (refine Ext.trans ?_ (by assumption))))) only [AX, TY, gV, dstOf, p_makeFunc, p_mapUpdate, mapPut, entsOf, p_lookup, p_extract, p_nilCheck, oneV, p_load, p_store, p_binOp, p_unOp, p_indexAddr, p_index, p_box, p_build, evParts, builtinV, load1, ldc, splice, minds, disj, rcOf, isCall, touchV, idsOf, mapId, touchB, p_buildSlice, buildSliceV, reps, fillV, p_convert, p_slice, evO, p_makeSlice, sid_some, soff_some, Nat.reduceLT, Nat.reduceLeDiff, Nat.reduceEqDiff, Nat.reduceAdd, Nat.reduceMul, Int.reduceBEq, Int.reduceEq, Int.reduceNeg, Int.reduceLT, Int.reduceLE, Int.reduceAdd, Int.reduceSub, Int.reduceMul, Int.reduceToNat, Int.reduceGT, Nat.reduceBEq, Nat.reducePow, Nat.reduceGT, reduceCtorEq, ↓reduceIte, t0, t1, t2, t3, t9, t10, t11, wrap_in]
      refine ⟨m - 1, by omega, i + 1, zs ++ [⟨y.a, y.b, y.p, y.c, y.vals, y.cr, (b + 1)⟩], by omega, ?_⟩
      constructor <;> (try first | assumption | ((repeat (first | assumption | apply Ext.refl | apply Ext.app | (apply Ext.set <;> omega) | exact Ext.trans (by assumption) (by assumption) | (refine Ext.trans ?_ (by assumption)))); done) | (refine Sl.ext (by assumption) ?_; (repeat (first | assumption | apply Ext.refl | apply Ext.app | (apply Ext.set <;> omega) | exact Ext.trans (by assumption) (by assumption) | (refine Ext.trans ?_ (by assumption)))); done) | (simp -dsimp (disch := first | with_reducible assumption | omega | (intro h_; cases h_; done) | (simp only [LN] <;> omega) | (simp only [LF]; done) | (repeat (first | with_reducible assumption | apply Ext.refl | apply Ext.app | (apply Ext.set <;> omega) | (refine Ext.trans ?_ (by assumption))))) only [AX, TY, gV, dstOf, p_makeFunc, p_mapUpdate, mapPut, entsOf, p_lookup, p_extract, p_nilCheck, oneV, p_load, p_store, p_binOp, p_unOp, p_indexAddr, p_index, p_box, p_build, evParts, builtinV, load1, ldc, splice, minds, disj, rcOf, isCall, touchV, idsOf, mapId, touchB, p_buildSlice, buildSliceV, reps, fillV, p_convert, p_slice, evO, p_makeSlice, sid_some, soff_some, Nat.reduceLT, Nat.reduceLeDiff, Nat.reduceEqDiff, Nat.reduceAdd, Nat.reduceMul, Int.reduceBEq, Int.reduceEq, Int.reduceNeg, Int.reduceLT, Int.reduceLE, Int.reduceAdd, Int.reduceSub, Int.reduceMul, Int.reduceToNat, Int.reduceGT, Nat.reduceBEq, Nat.reducePow, Nat.reduceGT, reduceCtorEq, ↓reduceIte, t0, t1, t2, t3, t9, t10, t11, wrap_in, Int.natCast_add, Int.natCast_one, Int.natCast_zero]; try (first | assumption | with_reducible rfl)))
      · rw [List.take_succ_eq_append_getElem hi, List.all_append, hyi]; simp
      · exact ⟨p5, c5, oid5, by simp, gr5⟩
      · intro k y' z' hy' hz'
        rw [List.getElem?_append] at hz'
        split at hz'
        · exact hchg k y' z' hy' hz'
        · rename_i hk
          have hkz : k - zs.length = 0 := by
            have := (List.getElem?_eq_some_iff.1 hz').1
            simp at this; omega
          rw [hkz] at hz'
          simp only [List.getElem?_cons_zero, Option.some.injEq] at hz'
          subst hz'
          have hki : k = i := by omega
          subst hki
          rw [List.getElem?_eq_getElem hi, hyi] at hy'
          simp only [Option.some.injEq] at hy'
          subst hy'
          exact (by exact ⟨rfl, rfl, rfl, rfl, rfl, .inr ⟨k2, rfl⟩⟩)
      · intro z hz
        rcases List.mem_append.1 hz with hz | hz
        · exact hok z hz
        · simp only [List.mem_singleton] at hz
          subst hz
          exact hyk.ext e1
  · have hi : i = ys.length := by have := h1'; omega
    have hall : (ys.take i).all (quietV a b) = ys.all (quietV a b) := by rw [List.take_of_length_le (by omega)]
    rw [hall] at t10
    have hB : ∀ y ∈ ys, y.vals.length ≤ 100000 := fun y hy => by have := hv10 y hy; omega
    have hzs : Vers hh po zs := ⟨gr.sl, fun z hz => (hok z hz).ext e⟩
    have hBz : ∀ z ∈ zs, z.vals.length ≤ 100000 := fun z hz => by
      obtain ⟨k, hk, rfl⟩ := List.getElem_of_mem hz
      have hky : k < ys.length := by omega
      have := hchg k ys[k] zs[k] (List.getElem?_eq_getElem hky) (List.getElem?_eq_getElem hk)
      rw [this.2.2.2.1]
      exact hB _ (List.getElem_mem hky)
    simp -dsimp (disch := first | with_reducible assumption | omega | (intro h_; cases h_; done) | (simp only [LN] <;> omega) | (simp only [LF]; done) | (repeat (first | with_reducible assumption | apply Ext.refl | apply Ext.app | (apply Ext.set <;> omega) | (refine Ext.trans ?_ (by assumption))))) only [AX, TY, gV, dstOf, p_makeFunc, p_mapUpdate, mapPut, entsOf, p_lookup, p_extract, p_nilCheck, oneV, p_load, p_store, p_binOp, p_unOp, p_indexAddr, p_index, p_box, p_build, evParts, builtinV, load1, ldc, splice, minds, disj, rcOf, isCall, touchV, idsOf, mapId, touchB, p_buildSlice, buildSliceV, reps, fillV, p_convert, p_slice, evO, p_makeSlice, sid_some, soff_some, Nat.reduceLT, Nat.reduceLeDiff, Nat.reduceEqDiff, Nat.reduceAdd, Nat.reduceMul, Int.reduceBEq, Int.reduceEq, Int.reduceNeg, Int.reduceLT, Int.reduceLE, Int.reduceAdd, Int.reduceSub, Int.reduceMul, Int.reduceToNat, Int.reduceGT, Nat.reduceBEq, Nat.reducePow, Nat.reduceGT, reduceCtorEq, ↓reduceIte, t0, t1, t2, t3, t9, t10, t11, h1']
    refine (live_ok (hs.ext (e1.trans e)) (by omega) hB a).mono ?_
    rintro _ h2 ⟨e2, px, cx, xs, rfl, hvx, hkx, hlx⟩
    simp -dsimp (disch := first | with_reducible assumption | omega | (intro h_; cases h_; done) | (simp only [LN] <;> omega) | (simp only [LF]; done) | (repeat (first | with_reducible assumption | apply Ext.refl | apply Ext.app | (apply Ext.set <;> omega) | (refine Ext.trans ?_ (by assumption))))) only [AX, TY, gV, dstOf, p_makeFunc, p_mapUpdate, mapPut, entsOf, p_lookup, p_extract, p_nilCheck, oneV, p_load, p_store, p_binOp, p_unOp, p_indexAddr, p_index, p_box, p_build, evParts, builtinV, load1, ldc, splice, minds, disj, rcOf, isCall, touchV, idsOf, mapId, touchB, p_buildSlice, buildSliceV, reps, fillV, p_convert, p_slice, evO, p_makeSlice, sid_some, soff_some, Nat.reduceLT, Nat.reduceLeDiff, Nat.reduceEqDiff, Nat.reduceAdd, Nat.reduceMul, Int.reduceBEq, Int.reduceEq, Int.reduceNeg, Int.reduceLT, Int.reduceLE, Int.reduceAdd, Int.reduceSub, Int.reduceMul, Int.reduceToNat, Int.reduceGT, Nat.reduceBEq, Nat.reducePow, Nat.reduceGT, reduceCtorEq, ↓reduceIte, t0, t1, t2, t3, t9, t10, t11]
    refine (live_ok (hzs.ext e2) (by omega) hBz a).mono ?_
    rintro _ h3 ⟨e3, pz, cz, ws, rfl, hvz, hkz, hlz⟩
    have hkk := chg_all (a := a) (b := b) (by omega) (by omega) (by omega) hchg
    rw [← hkx, ← hkz] at hkk
    have hlxz' : xs.length = ws.length := by have := congrArg List.length hkk; simpa using this
    have hlxz : (xs.length : Int) = (ws.length : Int) := by omega
    have hnx := hvx.sl.nil'
    have hnz := hvz.sl.nil'
    have hlx2 := hvx.sl.small
    simp -dsimp (disch := first | with_reducible assumption | omega | (intro h_; cases h_; done) | (simp only [LN] <;> omega) | (simp only [LF]; done) | (repeat (first | with_reducible assumption | apply Ext.refl | apply Ext.app | (apply Ext.set <;> omega) | (refine Ext.trans ?_ (by assumption))))) only [AX, TY, gV, dstOf, p_makeFunc, p_mapUpdate, mapPut, entsOf, p_lookup, p_extract, p_nilCheck, oneV, p_load, p_store, p_binOp, p_unOp, p_indexAddr, p_index, p_box, p_build, evParts, builtinV, load1, ldc, splice, minds, disj, rcOf, isCall, touchV, idsOf, mapId, touchB, p_buildSlice, buildSliceV, reps, fillV, p_convert, p_slice, evO, p_makeSlice, sid_some, soff_some, Nat.reduceLT, Nat.reduceLeDiff, Nat.reduceEqDiff, Nat.reduceAdd, Nat.reduceMul, Int.reduceBEq, Int.reduceEq, Int.reduceNeg, Int.reduceLT, Int.reduceLE, Int.reduceAdd, Int.reduceSub, Int.reduceMul, Int.reduceToNat, Int.reduceGT, Nat.reduceBEq, Nat.reducePow, Nat.reduceGT, reduceCtorEq, ↓reduceIte, t0, t1, t2, t3, t9, t10, t11, eq_true hlxz]
    have ee3 : Ext h h3 := (e1.trans e).trans (e2.trans e3)
    clear t1 t3 t9 t11
    refine W.loop (fun m τ hh' => h3 = hh' ∧ ∃ i : Nat, m + i = xs.length ∧ τ 0 = .slice p ys.length c ∧ τ 2 = .int .i64 b ∧ τ 10 = .bool (ys.all (quietV a b)) ∧ τ 13 = .slice px xs.length cx ∧ τ 14 = .slice pz ws.length cz ∧ τ 15 = .int .i64 i) ?_ (m := xs.length) ?_
    rotate_left
    · refine ⟨rfl, 0, by simp, ?_⟩
      simp -dsimp (disch := first | with_reducible assumption | omega | (intro h_; cases h_; done) | (simp only [LN] <;> omega) | (simp only [LF]; done) | (repeat (first | with_reducible assumption | apply Ext.refl | apply Ext.app | (apply Ext.set <;> omega) | (refine Ext.trans ?_ (by assumption))))) only [AX, TY, gV, dstOf, p_makeFunc, p_mapUpdate, mapPut, entsOf, p_lookup, p_extract, p_nilCheck, oneV, p_load, p_store, p_binOp, p_unOp, p_indexAddr, p_index, p_box, p_build, evParts, builtinV, load1, ldc, splice, minds, disj, rcOf, isCall, touchV, idsOf, mapId, touchB, p_buildSlice, buildSliceV, reps, fillV, p_convert, p_slice, evO, p_makeSlice, sid_some, soff_some, Nat.reduceLT, Nat.reduceLeDiff, Nat.reduceEqDiff, Nat.reduceAdd, Nat.reduceMul, Int.reduceBEq, Int.reduceEq, Int.reduceNeg, Int.reduceLT, Int.reduceLE, Int.reduceAdd, Int.reduceSub, Int.reduceMul, Int.reduceToNat, Int.reduceGT, Nat.reduceBEq, Nat.reducePow, Nat.reduceGT, reduceCtorEq, ↓reduceIte, t0, t2, t10]
    clear t0 t2 t10
    rintro m τ _ ⟨rfl, i, hmi, t0, t2, t10, t13, t14, t15⟩
    by_cases h4 : (i : Int) < (xs.length : Int)
    · have hix : i < xs.length := by omega
      have hiz : i < ws.length := by omega
      have hg : some ((xs[i].a, xs[i].b, xs[i].cr)) = some ((ws[i].a, ws[i].b, ws[i].cr)) := by
        have := congrArg (fun l => l[i]?) hkk
        simpa [hix, hiz, Ver.key] using this
      simp only [Option.some.injEq, Prod.mk.injEq] at hg
      obtain ⟨g1', g2', g3'⟩ := hg
      simp -dsimp (disch := first | with_reducible assumption | omega | (intro h_; cases h_; done) | (simp only [LN] <;> omega) | (simp only [LF]; done) | (repeat (first | with_reducible assumption | apply Ext.refl | apply Ext.app | (apply Ext.set <;> omega) | (refine Ext.trans ?_ (by assumption))))) only [AX, TY, gV, dstOf, p_makeFunc, p_mapUpdate, mapPut, entsOf, p_lookup, p_extract, p_nilCheck, oneV, p_load, p_store, p_binOp, p_unOp, p_indexAddr, p_index, p_box, p_build, evParts, builtinV, load1, ldc, splice, minds, disj, rcOf, isCall, touchV, idsOf, mapId, touchB, p_buildSlice, buildSliceV, reps, fillV, p_convert, p_slice, evO, p_makeSlice, sid_some, soff_some, Nat.reduceLT, Nat.reduceLeDiff, Nat.reduceEqDiff, Nat.reduceAdd, Nat.reduceMul, Int.reduceBEq, Int.reduceEq, Int.reduceNeg, Int.reduceLT, Int.reduceLE, Int.reduceAdd, Int.reduceSub, Int.reduceMul, Int.reduceToNat, Int.reduceGT, Nat.reduceBEq, Nat.reducePow, Nat.reduceGT, reduceCtorEq, ↓reduceIte, t0, t2, t10, t13, t14, t15, h4]
      refine W.drawn [(0, []), (1, [0]), (2, []), (3, []), (4, []), (5, [4, 3, 2, 1, 0]), (6, [5, 4, 3, 2, 1, 0]), (7, [4, 3, 2, 1, 0]), (8, [4, 3, 2, 1, 0]), (9, [4, 3, 2, 1, 0]), (10, []), (11, []), (12, []), (13, [12]), (14, []), (15, []), (16, []), (17, [16, 15, 14, 13, 12]), (18, [17, 16, 15, 14, 13, 12]), (19, [16, 15, 14, 13, 12]), (20, [16, 15, 14, 13, 12]), (21, [16, 15, 14, 13, 12]), (22, []), (23, [])] (by decide +kernel) ?_
      simp -dsimp (disch := first | with_reducible assumption | omega | (intro h_; cases h_; done) | (simp only [LN] <;> omega) | (simp only [LF]; done) | (repeat (first | with_reducible assumption | apply Ext.refl | apply Ext.app | (apply Ext.set <;> omega) | (refine Ext.trans ?_ (by assumption))))) only [AX, TY, gV, dstOf, p_makeFunc, p_mapUpdate, mapPut, entsOf, p_lookup, p_extract, p_nilCheck, oneV, p_load, p_store, p_binOp, p_unOp, p_indexAddr, p_index, p_box, p_build, evParts, builtinV, load1, ldc, splice, minds, disj, rcOf, isCall, touchV, idsOf, mapId, touchB, p_buildSlice, buildSliceV, reps, fillV, p_convert, p_slice, evO, p_makeSlice, sid_some, soff_some, Nat.reduceLT, Nat.reduceLeDiff, Nat.reduceEqDiff, Nat.reduceAdd, Nat.reduceMul, Int.reduceBEq, Int.reduceEq, Int.reduceNeg, Int.reduceLT, Int.reduceLE, Int.reduceAdd, Int.reduceSub, Int.reduceMul, Int.reduceToNat, Int.reduceGT, Nat.reduceBEq, Nat.reducePow, Nat.reduceGT, reduceCtorEq, ↓reduceIte, t0, t2, t10, t13, t14, t15, hvx.sl.load, hvz.sl.load, hvx.sl.load0, hvz.sl.load0, Ver.enc, eqt_23, g1', g2', g3', and_self]
      simp -dsimp (disch := first | with_reducible assumption | omega | (intro h_; cases h_; done) | (simp only [LN] <;> omega) | (simp only [LF]; done) | (repeat (first | with_reducible assumption | apply Ext.refl | apply Ext.app | (apply Ext.set <;> omega) | (refine Ext.trans ?_ (by assumption))))) only [AX, TY, gV, dstOf, p_makeFunc, p_mapUpdate, mapPut, entsOf, p_lookup, p_extract, p_nilCheck, oneV, p_load, p_store, p_binOp, p_unOp, p_indexAddr, p_index, p_box, p_build, evParts, builtinV, load1, ldc, splice, minds, disj, rcOf, isCall, touchV, idsOf, mapId, touchB, p_buildSlice, buildSliceV, reps, fillV, p_convert, p_slice, evO, p_makeSlice, sid_some, soff_some, Nat.reduceLT, Nat.reduceLeDiff, Nat.reduceEqDiff, Nat.reduceAdd, Nat.reduceMul, Int.reduceBEq, Int.reduceEq, Int.reduceNeg, Int.reduceLT, Int.reduceLE, Int.reduceAdd, Int.reduceSub, Int.reduceMul, Int.reduceToNat, Int.reduceGT, Nat.reduceBEq, Nat.reducePow, Nat.reduceGT, reduceCtorEq, ↓reduceIte, t0, t2, t10, t13, t14, t15, wrap_in]
      exact ⟨m - 1, by omega, i + 1, by omega, by simp⟩
    · cases hQ : ys.all (quietV a b)
      · rw [hQ] at t10
        simp -dsimp (disch := first | with_reducible assumption | omega | (intro h_; cases h_; done) | (simp only [LN] <;> omega) | (simp only [LF]; done) | (repeat (first | with_reducible assumption | apply Ext.refl | apply Ext.app | (apply Ext.set <;> omega) | (refine Ext.trans ?_ (by assumption))))) only [AX, TY, gV, dstOf, p_makeFunc, p_mapUpdate, mapPut, entsOf, p_lookup, p_extract, p_nilCheck, oneV, p_load, p_store, p_binOp, p_unOp, p_indexAddr, p_index, p_box, p_build, evParts, builtinV, load1, ldc, splice, minds, disj, rcOf, isCall, touchV, idsOf, mapId, touchB, p_buildSlice, buildSliceV, reps, fillV, p_convert, p_slice, evO, p_makeSlice, sid_some, soff_some, Nat.reduceLT, Nat.reduceLeDiff, Nat.reduceEqDiff, Nat.reduceAdd, Nat.reduceMul, Int.reduceBEq, Int.reduceEq, Int.reduceNeg, Int.reduceLT, Int.reduceLE, Int.reduceAdd, Int.reduceSub, Int.reduceMul, Int.reduceToNat, Int.reduceGT, Nat.reduceBEq, Nat.reducePow, Nat.reduceGT, reduceCtorEq, ↓reduceIte, t0, t2, t10, t13, t14, t15, h4]
      · rw [hQ] at t10
        simp -dsimp (disch := first | with_reducible assumption | omega | (intro h_; cases h_; done) | (simp only [LN] <;> omega) | (simp only [LF]; done) | (repeat (first | with_reducible assumption | apply Ext.refl | apply Ext.app | (apply Ext.set <;> omega) | (refine Ext.trans ?_ (by assumption))))) only [AX, TY, gV, dstOf, p_makeFunc, p_mapUpdate, mapPut, entsOf, p_lookup, p_extract, p_nilCheck, oneV, p_load, p_store, p_binOp, p_unOp, p_indexAddr, p_index, p_box, p_build, evParts, builtinV, load1, ldc, splice, minds, disj, rcOf, isCall, touchV, idsOf, mapId, touchB, p_buildSlice, buildSliceV, reps, fillV, p_convert, p_slice, evO, p_makeSlice, sid_some, soff_some, Nat.reduceLT, Nat.reduceLeDiff, Nat.reduceEqDiff, Nat.reduceAdd, Nat.reduceMul, Int.reduceBEq, Int.reduceEq, Int.reduceNeg, Int.reduceLT, Int.reduceLE, Int.reduceAdd, Int.reduceSub, Int.reduceMul, Int.reduceToNat, Int.reduceGT, Nat.reduceBEq, Nat.reducePow, Nat.reduceGT, reduceCtorEq, ↓reduceIte, t0, t2, t10, t13, t14, t15, h4]
        refine (live_ok (hs.ext ee3) (by omega) hB b).mono ?_
        rintro _ h5 ⟨e5, py, cy, us, rfl, hvy, hky, hly⟩
        simp -dsimp (disch := first | with_reducible assumption | omega | (intro h_; cases h_; done) | (simp only [LN] <;> omega) | (simp only [LF]; done) | (repeat (first | with_reducible assumption | apply Ext.refl | apply Ext.app | (apply Ext.set <;> omega) | (refine Ext.trans ?_ (by assumption))))) only [AX, TY, gV, dstOf, p_makeFunc, p_mapUpdate, mapPut, entsOf, p_lookup, p_extract, p_nilCheck, oneV, p_load, p_store, p_binOp, p_unOp, p_indexAddr, p_index, p_box, p_build, evParts, builtinV, load1, ldc, splice, minds, disj, rcOf, isCall, touchV, idsOf, mapId, touchB, p_buildSlice, buildSliceV, reps, fillV, p_convert, p_slice, evO, p_makeSlice, sid_some, soff_some, Nat.reduceLT, Nat.reduceLeDiff, Nat.reduceEqDiff, Nat.reduceAdd, Nat.reduceMul, Int.reduceBEq, Int.reduceEq, Int.reduceNeg, Int.reduceLT, Int.reduceLE, Int.reduceAdd, Int.reduceSub, Int.reduceMul, Int.reduceToNat, Int.reduceGT, Nat.reduceBEq, Nat.reducePow, Nat.reduceGT, reduceCtorEq, ↓reduceIte, t0, t2, t10, t13, t14, t15]
        refine (same_ok (hvx.ext (e3.trans e5)) hvy).mono ?_
        rintro _ h6 ⟨e6, rb, rfl, hrb⟩
        have : rb = true := hrb.2 (by
          rw [hkx, hky]
          congr 1
          refine List.filter_congr fun y hy => ?_
          exact quiet_sees (by omega) (List.all_eq_true.1 hQ y hy))
        subst this
        simp -dsimp (disch := first | with_reducible assumption | omega | (intro h_; cases h_; done) | (simp only [LN] <;> omega) | (simp only [LF]; done) | (repeat (first | with_reducible assumption | apply Ext.refl | apply Ext.app | (apply Ext.set <;> omega) | (refine Ext.trans ?_ (by assumption))))) only [AX, TY, gV, dstOf, p_makeFunc, p_mapUpdate, mapPut, entsOf, p_lookup, p_extract, p_nilCheck, oneV, p_load, p_store, p_binOp, p_unOp, p_indexAddr, p_index, p_box, p_build, evParts, builtinV, load1, ldc, splice, minds, disj, rcOf, isCall, touchV, idsOf, mapId, touchB, p_buildSlice, buildSliceV, reps, fillV, p_convert, p_slice, evO, p_makeSlice, sid_some, soff_some, Nat.reduceLT, Nat.reduceLeDiff, Nat.reduceEqDiff, Nat.reduceAdd, Nat.reduceMul, Int.reduceBEq, Int.reduceEq, Int.reduceNeg, Int.reduceLT, Int.reduceLE, Int.reduceAdd, Int.reduceSub, Int.reduceMul, Int.reduceToNat, Int.reduceGT, Nat.reduceBEq, Nat.reducePow, Nat.reduceGT, reduceCtorEq, ↓reduceIte]
end Go.Proofs.YtpmlphefdoaohaaA
