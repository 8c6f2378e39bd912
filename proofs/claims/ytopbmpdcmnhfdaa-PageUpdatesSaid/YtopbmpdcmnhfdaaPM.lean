/- Words of this session: chapter 14: the reference's Build. -/
import Derived.Test.YtopbmpdcmnhfdaaPL
namespace Go.Proofs.YtopbmpdcmnhfdaaA
open Go Go.Proofs Go.RowKit
set_option linter.unusedVariables false
set_option linter.unusedSimpArgs false
set_option maxRecDepth 10000
set_option maxHeartbeats 4000000
def RBuildR (h h' : Heap) (kd : Int) (cs : List (List Int)) (r : V) : Prop :=
  (totalS cs ≤ 1024 ∧ ∃ p c oid, r = V.tuple [.slice p 1024 c, .int .i64 0] ∧ Gr h.length h' p c oid 1 eb (layoutS kd cs)) ∨
  (¬ totalS cs ≤ 1024 ∧ r = V.tuple [.slice none 0 (some 0), .int .i64 6])
def TwoS (h hh : Heap) (τ : Tp) (A B : List Int) : Prop := ∃ pa ca oa pb cb ob, τ 6 = .slice pa A.length ca ∧ τ 7 = .slice pb B.length cb ∧ Gr h.length hh pa ca oa 1 eb A ∧ Gr h.length hh pb cb ob 1 eb B ∧ ∀ a, oa = some a → ob ≠ some a
structure LR1 (h : Heap) (p : Option (Nat × Nat)) (c : Option Nat) (n : Nat) (kd : Int) (cs : List (List Int)) (j : Nat) (τ : Tp) (hh : Heap) : Prop where
  t1 : τ 1 = .slice p n c
  t8 : τ 8 = .int .i64 (1020 - (sumLen (cs.take j) : Int))
  t9 : τ 9 = .int .i64 (j : Nat)
  two : TwoS h hh τ (headS kd cs ++ slotsTo cs j) (bodyTo cs j)
  ok : 0 < j → 3 + 2 * (n : Int) ≤ 1020 - (sumLen (cs.take j) : Int)
def padS (k : Nat) : List Int := List.replicate k 0
structure LR2 (h : Heap) (kd : Int) (cs : List (List Int)) (k : Nat) (τ : Tp) (hh : Heap) : Prop where
  t8 : τ 8 = .int .i64 (1020 - (sumLen cs : Int))
  two : TwoS h hh τ (headS kd cs ++ slotsTo cs cs.length ++ padS k) (bodyTo cs cs.length)
theorem q256 {t : Int} (h0 : 0 ≤ t) (h1 : t ≤ 1000000) : IntKind.i64.wrap (t.tdiv 256) = t / 256 := by
  rw [Int.tdiv_eq_ediv_of_nonneg h0, IntKind.wrap_i64]; omega
theorem r256 {t : Int} (h0 : 0 ≤ t) : t.tmod 256 = t % 256 := Int.tmod_eq_emod_of_nonneg h0
theorem rbuild_ok {h : Heap} {p : Option (Nat × Nat)} {c : Option Nat} {s : List Cl} (hs : Sl h p 1 Cl.enc s) (hy : ∀ y ∈ s, COK h y) {kd : Int} (hkd : 0 ≤ kd ∧ kd ≤ 255) (hsl : s.length ≤ 10000) (hsz : ∀ y ∈ s, y.bs.length ≤ 100000) :
    WR (callE Try.prog hk 14 [.int .i64 kd, .slice p s.length c] h) fun r h' => Ext h h' ∧ RBuildR h h' kd (s.map Cl.bs) r := by
  have hn := hs.nil'
  have hcl : (s.map Cl.bs).length = s.length := List.length_map ..
  have h1 : ¬ kd < 0 := by omega
  have h2 : ¬ 255 < kd := by omega
  have hwk : IntKind.u8.wrap kd = kd := by rw [w_u8]; omega
  have hq0 := q256 (t := (s.length : Int)) (by omega) (by omega)
  have hr0 := r256 (t := (s.length : Int)) (by omega)
  have hu1 : IntKind.u8.wrap ((s.length : Int) / 256) = (s.length : Int) / 256 % 256 := w_u8 _
  have hu2 : IntKind.u8.wrap ((s.length : Int) % 256) = (s.length : Int) % 256 := by rw [w_u8]; omega
  refine WR.call (hH := rfl) Try.func14 rfl (n := 76) rfl rfl (by simp) ?_
  simp -dsimp (disch := first | with_reducible assumption | omega | (intro h_; cases h_; done) | (simp only [LN] <;> omega) | (simp only [LF]; done) | (repeat (first | with_reducible assumption | apply Ext.refl | apply Ext.app | (apply Ext.set <;> omega) | (refine Ext.trans ?_ (by assumption))))) only [AX, TY, gV, dstOf, p_makeFunc, p_mapUpdate, mapPut, entsOf, p_lookup, p_extract, p_nilCheck, oneV, p_load, p_store, p_binOp, p_unOp, p_indexAddr, p_index, p_box, p_build, evParts, builtinV, load1, ldc, splice, minds, disj, rcOf, isCall, touchV, idsOf, mapId, touchB, p_buildSlice, buildSliceV, reps, fillV, p_convert, p_slice, evO, p_makeSlice, sid_some, soff_some, Nat.reduceLT, Nat.reduceLeDiff, Nat.reduceEqDiff, Nat.reduceAdd, Nat.reduceMul, Int.reduceBEq, Int.reduceEq, Int.reduceNeg, Int.reduceLT, Int.reduceLE, Int.reduceAdd, Int.reduceSub, Int.reduceMul, Int.reduceToNat, Int.reduceGT, Nat.reduceBEq, Nat.reducePow, Nat.reduceGT, reduceCtorEq, ↓reduceIte, h1, h2, hwk, hq0, hr0, hu1, hu2]
  generalize hcs : s.map Cl.bs = cs at *
  have hhead : [kd, (s.length : Int) / 256 % 256, (s.length : Int) % 256] = headS kd cs := by unfold headS; rw [hcl]
  have hheadc : [V.int .u8 kd, V.int .u8 ((s.length : Int) / 256 % 256), V.int .u8 ((s.length : Int) % 256)] = (headS kd cs ++ slotsTo cs 0).flatMap eb := by rw [← hhead]; rfl
  have hsum0 : sumLen (cs.take 0) = 0 := by simp [sumLen]
  refine W.loop (fun m τ hh => Ext h hh ∧ ∃ j, m + j = s.length ∧ LR1 h p c s.length kd cs j τ hh) ?_ (m := s.length) ?_
  rotate_left
  · refine ⟨(by (repeat (first | assumption | apply Ext.refl | apply Ext.app | (apply Ext.set <;> omega) | exact Ext.trans (by assumption) (by assumption) | (refine Ext.trans ?_ (by assumption))))), 0, by simp, ?_⟩
    constructor <;> (try first | assumption | ((repeat (first | assumption | apply Ext.refl | apply Ext.app | (apply Ext.set <;> omega) | exact Ext.trans (by assumption) (by assumption) | (refine Ext.trans ?_ (by assumption)))); done) | (refine Sl.ext (by assumption) ?_; (repeat (first | assumption | apply Ext.refl | apply Ext.app | (apply Ext.set <;> omega) | exact Ext.trans (by assumption) (by assumption) | (refine Ext.trans ?_ (by assumption)))); done) | (simp -dsimp (disch := first | with_reducible assumption | omega | (intro h_; cases h_; done) | (simp only [LN] <;> omega) | (simp only [LF]; done) | (repeat (first | with_reducible assumption | apply Ext.refl | apply Ext.app | (apply Ext.set <;> omega) | (refine Ext.trans ?_ (by assumption))))) only [AX, TY, gV, dstOf, p_makeFunc, p_mapUpdate, mapPut, entsOf, p_lookup, p_extract, p_nilCheck, oneV, p_load, p_store, p_binOp, p_unOp, p_indexAddr, p_index, p_box, p_build, evParts, builtinV, load1, ldc, splice, minds, disj, rcOf, isCall, touchV, idsOf, mapId, touchB, p_buildSlice, buildSliceV, reps, fillV, p_convert, p_slice, evO, p_makeSlice, sid_some, soff_some, Nat.reduceLT, Nat.reduceLeDiff, Nat.reduceEqDiff, Nat.reduceAdd, Nat.reduceMul, Int.reduceBEq, Int.reduceEq, Int.reduceNeg, Int.reduceLT, Int.reduceLE, Int.reduceAdd, Int.reduceSub, Int.reduceMul, Int.reduceToNat, Int.reduceGT, Nat.reduceBEq, Nat.reducePow, Nat.reduceGT, reduceCtorEq, ↓reduceIte, Int.natCast_add, Int.natCast_one, Int.natCast_zero]; try (first | assumption | with_reducible rfl)))
    all_goals first | rfl | (rw [hsum0]; rfl) | (intro h0; omega) | skip
    refine ⟨some (h.length, 0), some 3, some h.length, some (h.length + 1, 0), some 0, some (h.length + 1), rfl, rfl, Gr.built (C := _) (by rw [snoc_old _ (by simp)]; exact snoc_last _ rfl) hheadc (Nat.le_refl _) (eb_w _) (eb_l _) (by simp [headS, slotsTo]) (by simp [headS, slotsTo]), Gr.built (C := []) (snoc_last _ (by simp)) rfl (by omega) (by simp [bodyTo]) (by simp [bodyTo]) (by simp [bodyTo]) (n := 0) rfl, fun a ha hb => by cases ha; simp at hb⟩
  rintro m τ hh ⟨e, j, hm, t1, t8, t9, ⟨pa, ca, oa, pb, cb, ob, t6, t7, ga, gb, hab⟩, hok⟩
  have le0 := e.le
  have hA : (headS kd cs ++ slotsTo cs j).length = 3 + 2 * j := by rw [List.length_append, slotsTo_length]; simp [headS]
  have hB := bodyTo_length cs j (by omega)
  by_cases h3 : (j : Int) < (s.length : Int)
  · have hj : j < s.length := by omega
    have hst := sumLen_take_succ cs j (by omega)
    have hyb := getD_bs hj
    rw [hcs] at hyb
    rw [hyb] at hst
    have hyl := hsz _ (List.getElem_mem hj)
    have hyok := hy _ (List.getElem_mem hj)
    have hld := fun hh e => hs.load0 (hh := hh) e hj (m := 1) (Nat.le_refl 1)
    generalize hyy : s[j] = y at *
    simp only [Cl.enc] at hld
    have hj0 : j = 0 → sumLen (cs.take j) = 0 := fun e => by subst e; exact hsum0
    have hsm : sumLen (cs.take j) ≤ 1020 := by
      rcases Nat.eq_zero_or_pos j with e | e
      · have := hj0 e; omega
      · have := hok e; omega
    have hw1 : IntKind.i64.wrap (1020 - (sumLen (cs.take j) : Int) - (y.bs.length : Int)) = 1020 - (sumLen (cs.take (j + 1)) : Int) := by rw [IntKind.wrap_i64]; omega
    have hw2 : IntKind.i64.wrap (2 * (s.length : Int)) = 2 * (s.length : Int) := by rw [IntKind.wrap_i64]; omega
    have hw3 : IntKind.i64.wrap (3 + 2 * (s.length : Int)) = 3 + 2 * (s.length : Int) := by rw [IntKind.wrap_i64]; omega
    by_cases h4 : 1020 - (sumLen (cs.take (j + 1)) : Int) < 3 + 2 * (s.length : Int)
    · have hle2 := sumLen_take_le cs (j + 1)
      simp -dsimp (disch := first | with_reducible assumption | omega | (intro h_; cases h_; done) | (simp only [LN] <;> omega) | (simp only [LF]; done) | (repeat (first | with_reducible assumption | apply Ext.refl | apply Ext.app | (apply Ext.set <;> omega) | (refine Ext.trans ?_ (by assumption))))) only [AX, TY, gV, dstOf, p_makeFunc, p_mapUpdate, mapPut, entsOf, p_lookup, p_extract, p_nilCheck, oneV, p_load, p_store, p_binOp, p_unOp, p_indexAddr, p_index, p_box, p_build, evParts, builtinV, load1, ldc, splice, minds, disj, rcOf, isCall, touchV, idsOf, mapId, touchB, p_buildSlice, buildSliceV, reps, fillV, p_convert, p_slice, evO, p_makeSlice, sid_some, soff_some, Nat.reduceLT, Nat.reduceLeDiff, Nat.reduceEqDiff, Nat.reduceAdd, Nat.reduceMul, Int.reduceBEq, Int.reduceEq, Int.reduceNeg, Int.reduceLT, Int.reduceLE, Int.reduceAdd, Int.reduceSub, Int.reduceMul, Int.reduceToNat, Int.reduceGT, Nat.reduceBEq, Nat.reducePow, Nat.reduceGT, reduceCtorEq, ↓reduceIte, t1, t6, t7, t8, t9, h3, hld, hw1, hw2, hw3, eq_true h4]
      exact ⟨e, .inr ⟨by unfold totalS; omega, rfl⟩⟩
    have hslot : slotsTo cs (j + 1) = slotsTo cs j ++ two (1020 - (sumLen (cs.take (j + 1)) : Int)) := rfl
    have hbody : bodyTo cs (j + 1) = y.bs ++ bodyTo cs j := by rw [bodyTo, hyb]
    obtain ⟨t, ht⟩ : ∃ t : Int, 1020 - (sumLen (cs.take (j + 1)) : Int) = t := ⟨_, rfl⟩
    rw [ht] at hw1 hslot h4
    have hq1 := q256 (t := t) (by omega) (by omega)
    have hr1 := r256 (t := t) (by omega)
    have hv1 : IntKind.u8.wrap (t / 256) = t / 256 % 256 := w_u8 _
    have hv2 : IntKind.u8.wrap (t % 256) = t % 256 := by rw [w_u8]; omega
    have htwo : ([V.int .u8 (t / 256 % 256), V.int .u8 (t % 256)] : List V) = (two t).flatMap eb := rfl
    have htl : (two t).length = 2 := rfl
    have hA2 : headS kd cs ++ slotsTo cs (j + 1) = (headS kd cs ++ slotsTo cs j) ++ two t := by rw [hslot, List.append_assoc]
    generalize hAA : headS kd cs ++ slotsTo cs j = A at *
    generalize hBB : bodyTo cs j = B at *
    have e1 : Ext hh (hh ++ [O.cells [V.int .u8 (t / 256 % 256), V.int .u8 (t % 256)] Kd.rw]) := (by (repeat (first | assumption | apply Ext.refl | apply Ext.app | (apply Ext.set <;> omega) | exact Ext.trans (by assumption) (by assumption) | (refine Ext.trans ?_ (by assumption)))))
    have hblk : (hh ++ [O.cells [V.int .u8 (t / 256 % 256), V.int .u8 (t % 256)] Kd.rw])[hh.length]? = some (O.cells [V.int .u8 (t / 256 % 256), V.int .u8 (t % 256)] Kd.rw) := snoc_last _ rfl
    have hl1 : (hh ++ [O.cells [V.int .u8 (t / 256 % 256), V.int .u8 (t % 256)] Kd.rw]).length = hh.length + 1 := by simp
    obtain ⟨pa2, ca2, oa2, h2, hap1, ga2, hoa, hle1, hk1, hb1⟩ := (ga.ext e1).append (zs := two t) (n := 2) (bytes := 1) (x := .slice (some (hh.length, 0)) 2 (some 2)) (by omega) htl.symm (by
      show loadN _ hh.length 0 (2 * 1) = _
      rw [loadN_of hblk (by simp)]; rfl) (eb_w _) (eb_l _) (by rw [htl]; omega) (by rw [htl]; omega)
    generalize hA3 : A ++ two t = A2 at *
    generalize hg1 : hh ++ [O.cells [V.int .u8 (t / 256 % 256), V.int .u8 (t % 256)] Kd.rw] = g1 at *
    have gb1 : Gr h.length h2 pb cb ob 1 eb B := (gb.ext e1).keep fun id hi => hk1 id (fun q => hab id q hi) ((gb.ext e1).lt hi)
    have ex2 : Ext h h2 := (e.trans e1).below (Nat.le_refl _) hb1
    have le2 := ex2.le
    have e3 : Ext h2 (h2 ++ [O.cells [] Kd.rw]) := (by (repeat (first | assumption | apply Ext.refl | apply Ext.app | (apply Ext.set <;> omega) | exact Ext.trans (by assumption) (by assumption) | (refine Ext.trans ?_ (by assumption)))))
    have hempty : (h2 ++ [O.cells [] Kd.rw])[h2.length]? = some (O.cells [] Kd.rw) := snoc_last _ rfl
    obtain ⟨pn, cn, on, h4', hap2, gn, hon, hln, hkn⟩ := clone_app (bytes := 1) (b := h.length) (c := y.c) (Sl.ext hyok (ex2.trans e3)) hempty le2 (fun y _ => rfl) (by omega)
    have hl3 : (h2 ++ [O.cells [] Kd.rw]).length = h2.length + 1 := by simp
    have keepc : ∀ k, k < h2.length → h4'[k]? = h2[k]? := fun k hk => by rw [hkn k (by omega) (by omega), snoc_old _ hk]
    have e24 : Ext h2 h4' := Ext.of_keep keepc
    have ga4 := ga2.ext e24
    have gb4 := gb1.ext e24
    have hfb := gb4.sl.first cb (Nat.le_refl _) B.length
    rw [List.take_length] at hfb
    obtain ⟨pb2, cb2, ob2, h5, hap3, gb5, hob, hle5, hk5, hb5⟩ := gn.append (zs := B) (n := B.length) (bytes := 1) (x := .slice pb B.length cb) (by omega) rfl hfb (eb_w _) (eb_l _) (by omega) (by omega)
    have hlb2 : (y.bs ++ B).length = y.bs.length + B.length := List.length_append
    generalize hB3 : y.bs ++ B = B2 at *
    have hon2 : ∀ a, oa2 = some a → on ≠ some a := fun a ha hn => by
      have := ga2.lt ha
      rcases hon with q | q
      · rw [q] at hn; cases hn; omega
      · rw [q] at hn; cases hn; omega
    have ga5 : Gr h.length h5 pa2 ca2 oa2 1 eb A2 := ga4.keep fun id hi => hk5 id (hon2 id hi) (ga4.lt hi)
    have hab5 : ∀ a, oa2 = some a → ob2 ≠ some a := fun a ha hn => by
      rcases hob with q | q
      · rw [q] at hn; exact hon2 a ha hn
      · have := ga4.lt ha
        rw [q] at hn; cases hn; omega
    have ex5 : Ext h h5 := (ex2.trans e24).below (Nat.le_refl _) hb5
    simp -dsimp (disch := first | with_reducible assumption | omega | (intro h_; cases h_; done) | (simp only [LN] <;> omega) | (simp only [LF]; done) | (repeat (first | with_reducible assumption | apply Ext.refl | apply Ext.app | (apply Ext.set <;> omega) | (refine Ext.trans ?_ (by assumption))))) only [AX, TY, gV, dstOf, p_makeFunc, p_mapUpdate, mapPut, entsOf, p_lookup, p_extract, p_nilCheck, oneV, p_load, p_store, p_binOp, p_unOp, p_indexAddr, p_index, p_box, p_build, evParts, builtinV, load1, ldc, splice, minds, disj, rcOf, isCall, touchV, idsOf, mapId, touchB, p_buildSlice, buildSliceV, reps, fillV, p_convert, p_slice, evO, p_makeSlice, sid_some, soff_some, Nat.reduceLT, Nat.reduceLeDiff, Nat.reduceEqDiff, Nat.reduceAdd, Nat.reduceMul, Int.reduceBEq, Int.reduceEq, Int.reduceNeg, Int.reduceLT, Int.reduceLE, Int.reduceAdd, Int.reduceSub, Int.reduceMul, Int.reduceToNat, Int.reduceGT, Nat.reduceBEq, Nat.reducePow, Nat.reduceGT, reduceCtorEq, ↓reduceIte, t1, t6, t7, t8, t9, h3, hld, hw1, hw2, hw3, h4, hq1, hr1, hv1, hv2, hg1, hap1, hap2, hap3, wrap_in]
    refine ⟨m - 1, by omega, ex5, j + 1, by omega, ?_⟩
    constructor <;> (try first | assumption | ((repeat (first | assumption | apply Ext.refl | apply Ext.app | (apply Ext.set <;> omega) | exact Ext.trans (by assumption) (by assumption) | (refine Ext.trans ?_ (by assumption)))); done) | (refine Sl.ext (by assumption) ?_; (repeat (first | assumption | apply Ext.refl | apply Ext.app | (apply Ext.set <;> omega) | exact Ext.trans (by assumption) (by assumption) | (refine Ext.trans ?_ (by assumption)))); done) | (simp -dsimp (disch := first | with_reducible assumption | omega | (intro h_; cases h_; done) | (simp only [LN] <;> omega) | (simp only [LF]; done) | (repeat (first | with_reducible assumption | apply Ext.refl | apply Ext.app | (apply Ext.set <;> omega) | (refine Ext.trans ?_ (by assumption))))) only [AX, TY, gV, dstOf, p_makeFunc, p_mapUpdate, mapPut, entsOf, p_lookup, p_extract, p_nilCheck, oneV, p_load, p_store, p_binOp, p_unOp, p_indexAddr, p_index, p_box, p_build, evParts, builtinV, load1, ldc, splice, minds, disj, rcOf, isCall, touchV, idsOf, mapId, touchB, p_buildSlice, buildSliceV, reps, fillV, p_convert, p_slice, evO, p_makeSlice, sid_some, soff_some, Nat.reduceLT, Nat.reduceLeDiff, Nat.reduceEqDiff, Nat.reduceAdd, Nat.reduceMul, Int.reduceBEq, Int.reduceEq, Int.reduceNeg, Int.reduceLT, Int.reduceLE, Int.reduceAdd, Int.reduceSub, Int.reduceMul, Int.reduceToNat, Int.reduceGT, Nat.reduceBEq, Nat.reducePow, Nat.reduceGT, reduceCtorEq, ↓reduceIte, t1, t6, t7, t8, t9, hld, hap1, hap2, hap3, wrap_in, Int.natCast_add, Int.natCast_one, Int.natCast_zero]; try (first | assumption | with_reducible rfl)))
    all_goals first | rfl | (rw [ht]; done) | (intro h0; omega) | skip
    exact ⟨pa2, ca2, oa2, pb2, cb2, ob2, by rw [hA2]; rfl, by rw [hbody]; rfl, by rw [hA2]; exact ga5, by rw [hbody]; exact gb5, hab5⟩
  · have hjn : j = cs.length := by omega
    have htk : cs.take j = cs := List.take_of_length_le (by omega)
    rw [htk] at hok t8 hB
    have h0 : j = 0 → sumLen cs = 0 := fun q => by
      have : cs = [] := List.eq_nil_of_length_eq_zero (by omega)
      rw [this]; rfl
    have htot : totalS cs ≤ 1024 := by
      unfold totalS
      rcases Nat.eq_zero_or_pos j with q | q
      · have := h0 q; omega
      · have := hok q; omega
    have htot2 := htot
    unfold totalS at htot2
    simp -dsimp (disch := first | with_reducible assumption | omega | (intro h_; cases h_; done) | (simp only [LN] <;> omega) | (simp only [LF]; done) | (repeat (first | with_reducible assumption | apply Ext.refl | apply Ext.app | (apply Ext.set <;> omega) | (refine Ext.trans ?_ (by assumption))))) only [AX, TY, gV, dstOf, p_makeFunc, p_mapUpdate, mapPut, entsOf, p_lookup, p_extract, p_nilCheck, oneV, p_load, p_store, p_binOp, p_unOp, p_indexAddr, p_index, p_box, p_build, evParts, builtinV, load1, ldc, splice, minds, disj, rcOf, isCall, touchV, idsOf, mapId, touchB, p_buildSlice, buildSliceV, reps, fillV, p_convert, p_slice, evO, p_makeSlice, sid_some, soff_some, Nat.reduceLT, Nat.reduceLeDiff, Nat.reduceEqDiff, Nat.reduceAdd, Nat.reduceMul, Int.reduceBEq, Int.reduceEq, Int.reduceNeg, Int.reduceLT, Int.reduceLE, Int.reduceAdd, Int.reduceSub, Int.reduceMul, Int.reduceToNat, Int.reduceGT, Nat.reduceBEq, Nat.reducePow, Nat.reduceGT, reduceCtorEq, ↓reduceIte, t1, t6, t7, t8, t9, h3]
    refine W.loop (fun m τ hh => Ext h hh ∧ ∃ k, m + k = 1020 - sumLen cs - (3 + 2 * j) ∧ LR2 h kd cs k τ hh) ?_ (m := 1020 - sumLen cs - (3 + 2 * j)) ?_
    rotate_left
    · refine ⟨e, 0, by simp, ?_⟩
      constructor <;> (try first | assumption | ((repeat (first | assumption | apply Ext.refl | apply Ext.app | (apply Ext.set <;> omega) | exact Ext.trans (by assumption) (by assumption) | (refine Ext.trans ?_ (by assumption)))); done) | (refine Sl.ext (by assumption) ?_; (repeat (first | assumption | apply Ext.refl | apply Ext.app | (apply Ext.set <;> omega) | exact Ext.trans (by assumption) (by assumption) | (refine Ext.trans ?_ (by assumption)))); done) | (simp -dsimp (disch := first | with_reducible assumption | omega | (intro h_; cases h_; done) | (simp only [LN] <;> omega) | (simp only [LF]; done) | (repeat (first | with_reducible assumption | apply Ext.refl | apply Ext.app | (apply Ext.set <;> omega) | (refine Ext.trans ?_ (by assumption))))) only [AX, TY, gV, dstOf, p_makeFunc, p_mapUpdate, mapPut, entsOf, p_lookup, p_extract, p_nilCheck, oneV, p_load, p_store, p_binOp, p_unOp, p_indexAddr, p_index, p_box, p_build, evParts, builtinV, load1, ldc, splice, minds, disj, rcOf, isCall, touchV, idsOf, mapId, touchB, p_buildSlice, buildSliceV, reps, fillV, p_convert, p_slice, evO, p_makeSlice, sid_some, soff_some, Nat.reduceLT, Nat.reduceLeDiff, Nat.reduceEqDiff, Nat.reduceAdd, Nat.reduceMul, Int.reduceBEq, Int.reduceEq, Int.reduceNeg, Int.reduceLT, Int.reduceLE, Int.reduceAdd, Int.reduceSub, Int.reduceMul, Int.reduceToNat, Int.reduceGT, Nat.reduceBEq, Nat.reducePow, Nat.reduceGT, reduceCtorEq, ↓reduceIte, t1, t6, t7, t8, t9, Int.natCast_add, Int.natCast_one, Int.natCast_zero]; try (first | assumption | with_reducible rfl)))
      subst hjn
      have hrep : headS kd cs ++ slotsTo cs cs.length ++ padS 0 = headS kd cs ++ slotsTo cs cs.length := by simp [padS]
      refine ⟨pa, ca, oa, pb, cb, ob, by rw [hrep]; exact t6, t7, by rw [hrep]; exact ga, gb, hab⟩
    clear t1 t6 t7 t8 t9 ga gb hab hm e le0
    rintro m τ hh ⟨e, k, hm, t8, ⟨pa, ca, oa, pb, cb, ob, t6, t7, ga, gb, hab⟩⟩
    have le0 := e.le
    have hA3 : (headS kd cs ++ slotsTo cs cs.length ++ padS k).length = 3 + 2 * j + k := by rw [← hjn, List.length_append, hA]; unfold padS; rw [List.length_replicate]
    rw [hjn] at hB
    by_cases h5 : ((3 + 2 * j + k : Nat) : Int) < 1020 - (sumLen cs : Int)
    · have hA2 : headS kd cs ++ slotsTo cs cs.length ++ padS (k + 1) = (headS kd cs ++ slotsTo cs cs.length ++ padS k) ++ [0] := by
        unfold padS
        rw [List.replicate_succ', List.append_assoc, List.append_assoc, List.append_assoc]
      generalize hAA : headS kd cs ++ slotsTo cs cs.length ++ padS k = A at *
      generalize hBB : bodyTo cs cs.length = B at *
      rw [hA3] at t6
      have e1 : Ext hh (hh ++ [O.cells [V.int .u8 0] Kd.rw]) := (by (repeat (first | assumption | apply Ext.refl | apply Ext.app | (apply Ext.set <;> omega) | exact Ext.trans (by assumption) (by assumption) | (refine Ext.trans ?_ (by assumption)))))
      have hblk : (hh ++ [O.cells [V.int .u8 0] Kd.rw])[hh.length]? = some (O.cells [V.int .u8 0] Kd.rw) := snoc_last _ rfl
      have hl1 : (hh ++ [O.cells [V.int .u8 0] Kd.rw]).length = hh.length + 1 := by simp
      obtain ⟨pa2, ca2, oa2, h2, hap1, ga2, hoa, hle1, hk1, hb1⟩ := (ga.ext e1).push (y := (0 : Int)) (q := hh.length) (bytes := 1) (vc := some 1) (by omega) hblk rfl rfl (by omega) (by omega)
      have hA4 : (A ++ [(0 : Int)]).length = A.length + 1 := by simp
      rw [hA3] at hap1
      generalize hA3' : A ++ [(0 : Int)] = A2 at *
      generalize hg1 : hh ++ [O.cells [V.int .u8 0] Kd.rw] = g1 at *
      have gb1 : Gr h.length h2 pb cb ob 1 eb B := (gb.ext e1).keep fun id hi => hk1 id (fun q => hab id q hi) ((gb.ext e1).lt hi)
      have ex2 : Ext h h2 := (e.trans e1).below (Nat.le_refl _) hb1
      have hab2 : ∀ a, oa2 = some a → ob ≠ some a := fun a ha hn => by
        rcases hoa with q | q
        · rw [q] at ha; exact hab a ha hn
        · have := (gb.ext e1).lt hn
          rw [q] at ha; cases ha; omega
      simp -dsimp (disch := first | with_reducible assumption | omega | (intro h_; cases h_; done) | (simp only [LN] <;> omega) | (simp only [LF]; done) | (repeat (first | with_reducible assumption | apply Ext.refl | apply Ext.app | (apply Ext.set <;> omega) | (refine Ext.trans ?_ (by assumption))))) only [AX, TY, gV, dstOf, p_makeFunc, p_mapUpdate, mapPut, entsOf, p_lookup, p_extract, p_nilCheck, oneV, p_load, p_store, p_binOp, p_unOp, p_indexAddr, p_index, p_box, p_build, evParts, builtinV, load1, ldc, splice, minds, disj, rcOf, isCall, touchV, idsOf, mapId, touchB, p_buildSlice, buildSliceV, reps, fillV, p_convert, p_slice, evO, p_makeSlice, sid_some, soff_some, Nat.reduceLT, Nat.reduceLeDiff, Nat.reduceEqDiff, Nat.reduceAdd, Nat.reduceMul, Int.reduceBEq, Int.reduceEq, Int.reduceNeg, Int.reduceLT, Int.reduceLE, Int.reduceAdd, Int.reduceSub, Int.reduceMul, Int.reduceToNat, Int.reduceGT, Nat.reduceBEq, Nat.reducePow, Nat.reduceGT, reduceCtorEq, ↓reduceIte, t6, t7, t8, h5, hg1, hap1]
      refine ⟨m - 1, by omega, ex2, k + 1, by omega, ?_⟩
      constructor <;> (try first | assumption | ((repeat (first | assumption | apply Ext.refl | apply Ext.app | (apply Ext.set <;> omega) | exact Ext.trans (by assumption) (by assumption) | (refine Ext.trans ?_ (by assumption)))); done) | (refine Sl.ext (by assumption) ?_; (repeat (first | assumption | apply Ext.refl | apply Ext.app | (apply Ext.set <;> omega) | exact Ext.trans (by assumption) (by assumption) | (refine Ext.trans ?_ (by assumption)))); done) | (simp -dsimp (disch := first | with_reducible assumption | omega | (intro h_; cases h_; done) | (simp only [LN] <;> omega) | (simp only [LF]; done) | (repeat (first | with_reducible assumption | apply Ext.refl | apply Ext.app | (apply Ext.set <;> omega) | (refine Ext.trans ?_ (by assumption))))) only [AX, TY, gV, dstOf, p_makeFunc, p_mapUpdate, mapPut, entsOf, p_lookup, p_extract, p_nilCheck, oneV, p_load, p_store, p_binOp, p_unOp, p_indexAddr, p_index, p_box, p_build, evParts, builtinV, load1, ldc, splice, minds, disj, rcOf, isCall, touchV, idsOf, mapId, touchB, p_buildSlice, buildSliceV, reps, fillV, p_convert, p_slice, evO, p_makeSlice, sid_some, soff_some, Nat.reduceLT, Nat.reduceLeDiff, Nat.reduceEqDiff, Nat.reduceAdd, Nat.reduceMul, Int.reduceBEq, Int.reduceEq, Int.reduceNeg, Int.reduceLT, Int.reduceLE, Int.reduceAdd, Int.reduceSub, Int.reduceMul, Int.reduceToNat, Int.reduceGT, Nat.reduceBEq, Nat.reducePow, Nat.reduceGT, reduceCtorEq, ↓reduceIte, t6, t7, t8, hap1, Int.natCast_add, Int.natCast_one, Int.natCast_zero]; try (first | assumption | with_reducible rfl)))
      exact ⟨pa2, ca2, oa2, pb, cb, ob, by rw [hA2, hA4, hA3]; rfl, by rw [hBB]; exact t7, by rw [hA2]; exact ga2, by rw [hBB]; exact gb1, hab2⟩
    · have hk : 1020 - sumLen cs - 3 - 2 * cs.length = k := by omega
      have hlay : layoutS kd cs = (headS kd cs ++ slotsTo cs cs.length ++ padS k) ++ bodyTo cs cs.length ++ [0, 0, 0, 0] := by
        unfold layoutS pageTo
        rw [List.take_length, hk]; unfold padS; simp only [List.append_assoc]
      generalize hAA : headS kd cs ++ slotsTo cs cs.length ++ padS k = A at *
      generalize hBB : bodyTo cs cs.length = B at *
      have hfb := gb.sl.first cb (Nat.le_refl _) B.length
      rw [List.take_length] at hfb
      obtain ⟨pa2, ca2, oa2, h2, hap1, ga2, hoa, hle1, hk1, hb1⟩ := ga.append (zs := B) (n := B.length) (bytes := 1) (x := .slice pb B.length cb) (by omega) rfl hfb (eb_w _) (eb_l _) (by omega) (by omega)
      have hABl : (A ++ B).length = 1020 := by rw [List.length_append]; omega
      generalize hAB : A ++ B = AB at *
      have ex2 : Ext h h2 := e.below (Nat.le_refl _) hb1
      have le2 := ex2.le
      have e3 : Ext h2 (h2 ++ [O.cells [V.int .u8 0, V.int .u8 0, V.int .u8 0, V.int .u8 0] Kd.rw]) := (by (repeat (first | assumption | apply Ext.refl | apply Ext.app | (apply Ext.set <;> omega) | exact Ext.trans (by assumption) (by assumption) | (refine Ext.trans ?_ (by assumption)))))
      have hblk : (h2 ++ [O.cells [V.int .u8 0, V.int .u8 0, V.int .u8 0, V.int .u8 0] Kd.rw])[h2.length]? = some (O.cells [V.int .u8 0, V.int .u8 0, V.int .u8 0, V.int .u8 0] Kd.rw) := snoc_last _ rfl
      have hl1 : (h2 ++ [O.cells [V.int .u8 0, V.int .u8 0, V.int .u8 0, V.int .u8 0] Kd.rw]).length = h2.length + 1 := by simp
      obtain ⟨pa3, ca3, oa3, h3', hap2, ga3, hoa3, hle3, hk3, hb3⟩ := (ga2.ext e3).append (zs := [0, 0, 0, 0]) (n := 4) (bytes := 1) (x := .slice (some (h2.length, 0)) 4 (some 4)) (by omega) rfl (by
        show loadN _ h2.length 0 (4 * 1) = _
        rw [loadN_of hblk (by simp)]; rfl) (eb_w _) (eb_l _) (by rw [hABl]; decide) (by rw [hABl]; decide)
      have hFl : (AB ++ [0, 0, 0, 0]).length = 1024 := by rw [List.length_append, hABl]; rfl
      rw [hFl, hABl] at hap2
      rw [hABl] at hap1
      have ex3 : Ext h h3' := (ex2.trans e3).below (Nat.le_refl _) hb3
      generalize hg1 : h2 ++ [O.cells [V.int .u8 0, V.int .u8 0, V.int .u8 0, V.int .u8 0] Kd.rw] = g1 at *
      have h5' : ¬ (A.length : Int) < 1020 - (sumLen cs : Int) := by omega
      simp -dsimp (disch := first | with_reducible assumption | omega | (intro h_; cases h_; done) | (simp only [LN] <;> omega) | (simp only [LF]; done) | (repeat (first | with_reducible assumption | apply Ext.refl | apply Ext.app | (apply Ext.set <;> omega) | (refine Ext.trans ?_ (by assumption))))) only [AX, TY, gV, dstOf, p_makeFunc, p_mapUpdate, mapPut, entsOf, p_lookup, p_extract, p_nilCheck, oneV, p_load, p_store, p_binOp, p_unOp, p_indexAddr, p_index, p_box, p_build, evParts, builtinV, load1, ldc, splice, minds, disj, rcOf, isCall, touchV, idsOf, mapId, touchB, p_buildSlice, buildSliceV, reps, fillV, p_convert, p_slice, evO, p_makeSlice, sid_some, soff_some, Nat.reduceLT, Nat.reduceLeDiff, Nat.reduceEqDiff, Nat.reduceAdd, Nat.reduceMul, Int.reduceBEq, Int.reduceEq, Int.reduceNeg, Int.reduceLT, Int.reduceLE, Int.reduceAdd, Int.reduceSub, Int.reduceMul, Int.reduceToNat, Int.reduceGT, Nat.reduceBEq, Nat.reducePow, Nat.reduceGT, reduceCtorEq, ↓reduceIte, t6, t7, t8, h5', hap1, hg1, hap2]
      exact ⟨ex3, .inl ⟨htot, pa3, ca3, oa3, rfl, by rw [hlay]; exact ga3⟩⟩
end Go.Proofs.YtopbmpdcmnhfdaaA
