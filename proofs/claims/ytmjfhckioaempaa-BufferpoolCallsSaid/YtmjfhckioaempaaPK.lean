/- Words of this session: chapter 16: the reference's Apply. Words of this session: chapter 16: the reference's New, Sync, New of a pool; the model. Words of this session: chapter 16: a call's result does not depend on where things lie. -/
import Derived.Test.YtmjfhckioaempaaPF
namespace Go.Proofs.YtmjfhckioaempaaA
open Go Go.Proofs Go.RowKit
set_option linter.unusedVariables false
set_option linter.unusedSimpArgs false
set_option maxRecDepth 10000
set_option maxHeartbeats 4000000
theorem rApply_ok {h : Heap} {S : Bp} {N : Nat} {p : Option (Nat × Nat)} {c : Option Nat} {q : Option (Nat × Nat)} {d : Option Nat} {fp : Option (Nat × Nat)} {fc : Option Nat} (r : RBp h S p c q d fp fc) (v : PIn S N) {P : Nat → Prop} (bp : BpPtr S p q fp P) (hfew : S.D.pend.length ≤ 40) (cl : Cl) (hn : cl.kind = 6 → 0 ≤ cl.n ∧ cl.n ≤ 2000) :
    WR (callE Try.prog hk 25 [.agg (bpV S p c q d fp fc), .agg cl.enc] h) fun r h' => Ext h h' ∧ ∃ M' e dd, ResR (fun a => P a ∨ h.length ≤ a) h' r M' e dd ∧ CallR S cl M' e dd := by
  refine WR.call (hH := rfl) Try.func25 rfl (n := 78) rfl rfl (by simp) ?_
  obtain ⟨g, hg, g0, g1, g2, e1, hgl⟩ : ∃ g, h ++ [O.cells (bpV S p c q d fp fc) .rw] ++ [O.cells (Cl.enc cl) .rw] ++ [O.cells zP .rw] = g ∧ g[h.length]? = some (O.cells (bpV S p c q d fp fc) .rw) ∧ g[h.length + 1]? = some (O.cells (Cl.enc cl) .rw) ∧ g[h.length + 2]? = some (O.cells zP .rw) ∧ Ext h g ∧ g.length = h.length + 3 := ⟨_, rfl, by rw [snoc_old _ (by simp), snoc_old _ (by simp)]; exact snoc_last _ rfl, by rw [snoc_old _ (by simp)]; exact snoc_last _ (by simp), snoc_last _ (by simp), (by (repeat (first | assumption | apply Ext.refl | apply Ext.app | (apply Ext.set <;> omega) | exact Ext.trans (by assumption) (by assumption) | (refine Ext.trans ?_ (by assumption))))), by simp⟩
  have r1 := r.ext e1
  have bp1 := bp.and r.ptr
  have fin : ∀ {h2 : Heap} {w : V} {M' : Bp}, Ext g h2 → RBF (fun a => (P a ∧ a < h.length) ∨ g.length ≤ a) h2 w M' → ∀ A B : O, Ext h ((h2.set h.length A).set (h.length + 2) B) ∧ RBF (fun a => P a ∨ h.length ≤ a) ((h2.set h.length A).set (h.length + 2) B) w M' := by
    rintro h2 w M' e2 ⟨p2, c2, q2, d2, f2, k2, rfl, rb, pt⟩ A B
    have le2 := e2.le
    refine ⟨Ext.set (Ext.set (e1.trans e2) (Nat.le_refl _) _) (by omega) _, p2, c2, q2, d2, f2, k2, rfl, rb.keep pt fun a ha => by rw [set_other _ (by omega), set_other _ (by omega)], pt.imp fun a ha => ?_⟩
    rcases ha with ⟨ha, _⟩ | ha
    · exact .inl ha
    · exact .inr (by omega)
  have hc : Cl.enc cl = [.int .i64 cl.kind, .int .i64 cl.page, .int .i64 cl.n, .int .u8 cl.fill] := rfl
  simp only [bpV, hc, zP] at hg g0 g1 g2
  have hl0 := lt_of_some g0
  have hl1 := lt_of_some g1
  have hpi := rPin_ok r1 v bp1 cl.page
  have hun := rUnpin_ok r1 v bp1 cl.page
  have hfl := rFlush_ok r1 v bp1
  simp only [bpV] at hpi hun hfl
  by_cases c0 : cl.kind = 0
  · simp -dsimp (disch := first | with_reducible assumption | omega | (intro h_; cases h_; done) | (simp only [LN] <;> omega) | (simp only [LF]; done) | (repeat (first | with_reducible assumption | apply Ext.refl | apply Ext.app | (apply Ext.set <;> omega) | (refine Ext.trans ?_ (by assumption))))) only [AX, TY, AD, mapPut, entsOf, oneV, builtinV, idsOf, mapId, touchB, Nat.reduceLT, Nat.reduceLeDiff, Nat.reduceEqDiff, Nat.reduceAdd, Nat.reduceMul, Int.reduceBEq, Int.reduceEq, Int.reduceNeg, Int.reduceLT, Int.reduceLE, Int.reduceAdd, Int.reduceSub, Int.reduceMul, Int.reduceToNat, Int.reduceGT, Nat.reduceBEq, Nat.reducePow, Nat.reduceGT, reduceCtorEq, ↓reduceIte, bpV, hc, hg, loadN_fact g0, loadN_fact g1, eq_true c0]
    refine hpi.mono ?_
    rintro _ h2 ⟨e2, M', e, dd, ⟨_, p3, c3, rfl, ⟨p2, c2, q2, d2, f2, k2, rfl, rb, pt⟩, sl, sp⟩, pr⟩
    have g02 := e2 _ _ g0
    have g22 := e2 _ _ g2
    have hl02 := lt_of_some g02
    have hl22 := lt_of_some g22
    have gX : ∀ A : O, (h2.set h.length A)[h.length + 2]? = _ := fun A => (set_other A (by omega)).trans g22
    have gY : ∀ A : O, (h2.set h.length A)[h.length]? = _ := fun A => set_same _ hl02
    simp -dsimp (disch := first | with_reducible assumption | omega | (intro h_; cases h_; done) | (simp only [LN] <;> omega) | (simp only [LF]; done) | (repeat (first | with_reducible assumption | apply Ext.refl | apply Ext.app | (apply Ext.set <;> omega) | (refine Ext.trans ?_ (by assumption))))) only [AX, TY, AD, mapPut, entsOf, oneV, builtinV, idsOf, mapId, touchB, Nat.reduceLT, Nat.reduceLeDiff, Nat.reduceEqDiff, Nat.reduceAdd, Nat.reduceMul, Int.reduceBEq, Int.reduceEq, Int.reduceNeg, Int.reduceLT, Int.reduceLE, Int.reduceAdd, Int.reduceSub, Int.reduceMul, Int.reduceToNat, Int.reduceGT, Nat.reduceBEq, Nat.reducePow, Nat.reduceGT, reduceCtorEq, ↓reduceIte, storeN_fact g22 (by simp)]
    refine ⟨Ext.set (e1.trans e2) (by omega) _, M', e, dd, ⟨_, p3, c3, rfl, ⟨p2, c2, q2, d2, f2, k2, rfl, rb.keep pt fun a ha => set_other _ (by omega), pt.imp fun a ha => ?_⟩, sl.keep fun a o z => set_other _ (by have := sp a o z; omega), fun a o z => ?_⟩, by unfold CallR; rw [if_pos c0]; exact pr⟩
    · rcases ha with ⟨ha, _⟩ | ha
      · exact .inl ha
      · exact .inr (by omega)
    · rcases sp a o z with ⟨ha, _⟩ | ha
      · exact .inl ha
      · exact .inr (by omega)
  by_cases c1 : cl.kind = 1
  · simp -dsimp (disch := first | with_reducible assumption | omega | (intro h_; cases h_; done) | (simp only [LN] <;> omega) | (simp only [LF]; done) | (repeat (first | with_reducible assumption | apply Ext.refl | apply Ext.app | (apply Ext.set <;> omega) | (refine Ext.trans ?_ (by assumption))))) only [AX, TY, AD, mapPut, entsOf, oneV, builtinV, idsOf, mapId, touchB, Nat.reduceLT, Nat.reduceLeDiff, Nat.reduceEqDiff, Nat.reduceAdd, Nat.reduceMul, Int.reduceBEq, Int.reduceEq, Int.reduceNeg, Int.reduceLT, Int.reduceLE, Int.reduceAdd, Int.reduceSub, Int.reduceMul, Int.reduceToNat, Int.reduceGT, Nat.reduceBEq, Nat.reducePow, Nat.reduceGT, reduceCtorEq, ↓reduceIte, bpV, hc, hg, loadN_fact g0, loadN_fact g1, c0, eq_true c1]
    refine W.drawn [(0, []), (1, [0]), (2, [0]), (3, [2, 1, 0]), (4, [2, 1, 0]), (5, [2, 1, 0]), (6, []), (7, []), (8, []), (9, [8]), (10, [9]), (11, [])] (by decide +kernel) ?_
    simp -dsimp (disch := first | with_reducible assumption | omega | (intro h_; cases h_; done) | (simp only [LN] <;> omega) | (simp only [LF]; done) | (repeat (first | with_reducible assumption | apply Ext.refl | apply Ext.app | (apply Ext.set <;> omega) | (refine Ext.trans ?_ (by assumption))))) only [AX, TY, AD, mapPut, entsOf, oneV, builtinV, idsOf, mapId, touchB, Nat.reduceLT, Nat.reduceLeDiff, Nat.reduceEqDiff, Nat.reduceAdd, Nat.reduceMul, Int.reduceBEq, Int.reduceEq, Int.reduceNeg, Int.reduceLT, Int.reduceLE, Int.reduceAdd, Int.reduceSub, Int.reduceMul, Int.reduceToNat, Int.reduceGT, Nat.reduceBEq, Nat.reducePow, Nat.reduceGT, reduceCtorEq, ↓reduceIte, loadN_fact g0, loadN_fact g1]
    refine (data_c cl.fill 1024 (by decide)).mono ?_
    rintro _ ha ⟨ea, rfl, sla⟩
    have s0 := sameO_ext ea hl0
    have s1 := sameO_ext ea hl1
    have hup := rUpdate_ok (r1.ext ea) v bp1 cl.page (cb := some 1024) sla (by rw [dat_len]; decide)
    simp only [bpV, dat_len] at hup
    simp -dsimp (disch := first | with_reducible assumption | omega | (intro h_; cases h_; done) | (simp only [LN] <;> omega) | (simp only [LF]; done) | (repeat (first | with_reducible assumption | apply Ext.refl | apply Ext.app | (apply Ext.set <;> omega) | (refine Ext.trans ?_ (by assumption))))) only [AX, TY, AD, mapPut, entsOf, oneV, builtinV, idsOf, mapId, touchB, Nat.reduceLT, Nat.reduceLeDiff, Nat.reduceEqDiff, Nat.reduceAdd, Nat.reduceMul, Int.reduceBEq, Int.reduceEq, Int.reduceNeg, Int.reduceLT, Int.reduceLE, Int.reduceAdd, Int.reduceSub, Int.reduceMul, Int.reduceToNat, Int.reduceGT, Nat.reduceBEq, Nat.reducePow, Nat.reduceGT, reduceCtorEq, ↓reduceIte, s0, s1]
    refine hup.mono ?_
    rintro _ h2 ⟨e2', M', e, ⟨_, rfl, rbf⟩, ur⟩
    have e2 := ea.trans e2'
    have t0 := sameO_ext e2 hl0
    have t1 := sameO_ext e2 hl1
    have u0 := sameO_ext e2' (lt_of_some (ea _ _ g0))
    have u1 := sameO_ext e2' (lt_of_some (ea _ _ g1))
    have lea := ea.le
    obtain ⟨p2, cc2, q2, d2, f2, k2, rfl, rb, pt⟩ := rbf
    have g02 := e2 _ _ g0
    have g22 := e2 _ _ g2
    have hl02 := lt_of_some g02
    have hl22 := lt_of_some g22
    have gX : ∀ A : O, (h2.set h.length A)[h.length + 2]? = _ := fun A => (set_other A (by omega)).trans g22
    have gY : ∀ A : O, (h2.set h.length A)[h.length]? = _ := fun A => set_same _ hl02
    obtain ⟨h1, h2⟩ := fin e2 ⟨p2, cc2, q2, d2, f2, k2, rfl, rb, pt.imp fun a z => by rcases z with z | z; exact .inl z; exact .inr (by omega)⟩ _ _
    simp -dsimp (disch := first | with_reducible assumption | omega | (intro h_; cases h_; done) | (simp only [LN] <;> omega) | (simp only [LF]; done) | (repeat (first | with_reducible assumption | apply Ext.refl | apply Ext.app | (apply Ext.set <;> omega) | (refine Ext.trans ?_ (by assumption))))) only [AX, TY, AD, mapPut, entsOf, oneV, builtinV, idsOf, mapId, touchB, Nat.reduceLT, Nat.reduceLeDiff, Nat.reduceEqDiff, Nat.reduceAdd, Nat.reduceMul, Int.reduceBEq, Int.reduceEq, Int.reduceNeg, Int.reduceLT, Int.reduceLE, Int.reduceAdd, Int.reduceSub, Int.reduceMul, Int.reduceToNat, Int.reduceGT, Nat.reduceBEq, Nat.reducePow, Nat.reduceGT, reduceCtorEq, ↓reduceIte, s0, s1, t0, t1, u0, u1, storeN_fact g02 (by simp), loadN_fact (gY _), storeN_fact (gX _) (by simp)]
    exact ⟨h1, M', e, [], ⟨_, none, some 0, rfl, h2, .nil0 _ _ _, by simp⟩, by unfold CallR; rw [if_neg c0, if_pos c1]; exact ⟨rfl, ur⟩⟩
  by_cases c2 : cl.kind = 2
  · simp -dsimp (disch := first | with_reducible assumption | omega | (intro h_; cases h_; done) | (simp only [LN] <;> omega) | (simp only [LF]; done) | (repeat (first | with_reducible assumption | apply Ext.refl | apply Ext.app | (apply Ext.set <;> omega) | (refine Ext.trans ?_ (by assumption))))) only [AX, TY, AD, mapPut, entsOf, oneV, builtinV, idsOf, mapId, touchB, Nat.reduceLT, Nat.reduceLeDiff, Nat.reduceEqDiff, Nat.reduceAdd, Nat.reduceMul, Int.reduceBEq, Int.reduceEq, Int.reduceNeg, Int.reduceLT, Int.reduceLE, Int.reduceAdd, Int.reduceSub, Int.reduceMul, Int.reduceToNat, Int.reduceGT, Nat.reduceBEq, Nat.reducePow, Nat.reduceGT, reduceCtorEq, ↓reduceIte, bpV, hc, hg, loadN_fact g0, loadN_fact g1, c0, c1, eq_true c2]
    refine hun.mono ?_
    rintro _ h2 ⟨e2, M', e, ⟨_, rfl, rbf⟩, ur⟩
    obtain ⟨p2, cc2, q2, d2, f2, k2, rfl, rb, pt⟩ := rbf
    have g02 := e2 _ _ g0
    have g22 := e2 _ _ g2
    have hl02 := lt_of_some g02
    have hl22 := lt_of_some g22
    have gX : ∀ A : O, (h2.set h.length A)[h.length + 2]? = _ := fun A => (set_other A (by omega)).trans g22
    have gY : ∀ A : O, (h2.set h.length A)[h.length]? = _ := fun A => set_same _ hl02
    obtain ⟨h1, h2⟩ := fin e2 ⟨p2, cc2, q2, d2, f2, k2, rfl, rb, pt⟩ _ _
    simp -dsimp (disch := first | with_reducible assumption | omega | (intro h_; cases h_; done) | (simp only [LN] <;> omega) | (simp only [LF]; done) | (repeat (first | with_reducible assumption | apply Ext.refl | apply Ext.app | (apply Ext.set <;> omega) | (refine Ext.trans ?_ (by assumption))))) only [AX, TY, AD, mapPut, entsOf, oneV, builtinV, idsOf, mapId, touchB, Nat.reduceLT, Nat.reduceLeDiff, Nat.reduceEqDiff, Nat.reduceAdd, Nat.reduceMul, Int.reduceBEq, Int.reduceEq, Int.reduceNeg, Int.reduceLT, Int.reduceLE, Int.reduceAdd, Int.reduceSub, Int.reduceMul, Int.reduceToNat, Int.reduceGT, Nat.reduceBEq, Nat.reducePow, Nat.reduceGT, reduceCtorEq, ↓reduceIte, storeN_fact g02 (by simp), loadN_fact (gY _), storeN_fact (gX _) (by simp)]
    exact ⟨h1, M', e, [], ⟨_, none, some 0, rfl, h2, .nil0 _ _ _, by simp⟩, by unfold CallR; rw [if_neg c0, if_neg c1, if_pos c2]; exact ⟨rfl, ur⟩⟩
  by_cases c3 : cl.kind = 3
  · simp -dsimp (disch := first | with_reducible assumption | omega | (intro h_; cases h_; done) | (simp only [LN] <;> omega) | (simp only [LF]; done) | (repeat (first | with_reducible assumption | apply Ext.refl | apply Ext.app | (apply Ext.set <;> omega) | (refine Ext.trans ?_ (by assumption))))) only [AX, TY, AD, mapPut, entsOf, oneV, builtinV, idsOf, mapId, touchB, Nat.reduceLT, Nat.reduceLeDiff, Nat.reduceEqDiff, Nat.reduceAdd, Nat.reduceMul, Int.reduceBEq, Int.reduceEq, Int.reduceNeg, Int.reduceLT, Int.reduceLE, Int.reduceAdd, Int.reduceSub, Int.reduceMul, Int.reduceToNat, Int.reduceGT, Nat.reduceBEq, Nat.reducePow, Nat.reduceGT, reduceCtorEq, ↓reduceIte, bpV, hc, hg, loadN_fact g0, loadN_fact g1, c0, c1, c2, eq_true c3]
    refine hfl.mono ?_
    rintro _ h2 ⟨e2, M', e, ⟨_, rfl, rbf⟩, ur⟩
    obtain ⟨p2, cc2, q2, d2, f2, k2, rfl, rb, pt⟩ := rbf
    have g02 := e2 _ _ g0
    have g22 := e2 _ _ g2
    have hl02 := lt_of_some g02
    have hl22 := lt_of_some g22
    have gX : ∀ A : O, (h2.set h.length A)[h.length + 2]? = _ := fun A => (set_other A (by omega)).trans g22
    have gY : ∀ A : O, (h2.set h.length A)[h.length]? = _ := fun A => set_same _ hl02
    obtain ⟨h1, h2⟩ := fin e2 ⟨p2, cc2, q2, d2, f2, k2, rfl, rb, pt⟩ _ _
    simp -dsimp (disch := first | with_reducible assumption | omega | (intro h_; cases h_; done) | (simp only [LN] <;> omega) | (simp only [LF]; done) | (repeat (first | with_reducible assumption | apply Ext.refl | apply Ext.app | (apply Ext.set <;> omega) | (refine Ext.trans ?_ (by assumption))))) only [AX, TY, AD, mapPut, entsOf, oneV, builtinV, idsOf, mapId, touchB, Nat.reduceLT, Nat.reduceLeDiff, Nat.reduceEqDiff, Nat.reduceAdd, Nat.reduceMul, Int.reduceBEq, Int.reduceEq, Int.reduceNeg, Int.reduceLT, Int.reduceLE, Int.reduceAdd, Int.reduceSub, Int.reduceMul, Int.reduceToNat, Int.reduceGT, Nat.reduceBEq, Nat.reducePow, Nat.reduceGT, reduceCtorEq, ↓reduceIte, storeN_fact g02 (by simp), loadN_fact (gY _), storeN_fact (gX _) (by simp)]
    exact ⟨h1, M', e, [], ⟨_, none, some 0, rfl, h2, .nil0 _ _ _, by simp⟩, by unfold CallR; rw [if_neg c0, if_neg c1, if_neg c2, if_pos c3]; exact ⟨rfl, pagesL S true, (pagesL_lt S true).imp fun h => by omega, pagesL_perm v (fun f => by simp), ur⟩⟩
  by_cases c4 : cl.kind = 4
  · have hfa := rFail_ok r1.dk cl.n
    simp only [dkV] at hfa
    simp -dsimp (disch := first | with_reducible assumption | omega | (intro h_; cases h_; done) | (simp only [LN] <;> omega) | (simp only [LF]; done) | (repeat (first | with_reducible assumption | apply Ext.refl | apply Ext.app | (apply Ext.set <;> omega) | (refine Ext.trans ?_ (by assumption))))) only [AX, TY, AD, mapPut, entsOf, oneV, builtinV, idsOf, mapId, touchB, Nat.reduceLT, Nat.reduceLeDiff, Nat.reduceEqDiff, Nat.reduceAdd, Nat.reduceMul, Int.reduceBEq, Int.reduceEq, Int.reduceNeg, Int.reduceLT, Int.reduceLE, Int.reduceAdd, Int.reduceSub, Int.reduceMul, Int.reduceToNat, Int.reduceGT, Nat.reduceBEq, Nat.reducePow, Nat.reduceGT, reduceCtorEq, ↓reduceIte, bpV, hc, hg, loadN_fact g0, loadN_fact g1, c0, c1, c2, c3, eq_true c4]
    refine hfa.mono ?_
    rintro _ h2 ⟨e2, rfl⟩
    have rbf : RBF (fun a => (P a ∧ a < h.length) ∨ g.length ≤ a) h2 (.agg (bpV ⟨⟨S.D.dur, S.D.pend, max cl.n (-1), S.D.failed⟩, S.pages, S.frames, S.hand, S.reads⟩ p c q d fp fc)) ⟨⟨S.D.dur, S.D.pend, max cl.n (-1), S.D.failed⟩, S.pages, S.frames, S.hand, S.reads⟩ := ⟨p, c, q, d, fp, fc, rfl, ⟨((r1.ext e2).dk).flag _ _, (r1.ext e2).frs, (r1.ext e2).dat⟩, bp1.imp fun _ z => .inl z⟩
    simp only [bpV] at rbf
    have g02 := e2 _ _ g0
    have g22 := e2 _ _ g2
    have hl02 := lt_of_some g02
    have hl22 := lt_of_some g22
    have gX : ∀ A : O, (h2.set h.length A)[h.length + 2]? = _ := fun A => (set_other A (by omega)).trans g22
    have gY : ∀ A : O, (h2.set h.length A)[h.length]? = _ := fun A => set_same _ hl02
    obtain ⟨h1, h2⟩ := fin e2 rbf _ _
    simp -dsimp (disch := first | with_reducible assumption | omega | (intro h_; cases h_; done) | (simp only [LN] <;> omega) | (simp only [LF]; done) | (repeat (first | with_reducible assumption | apply Ext.refl | apply Ext.app | (apply Ext.set <;> omega) | (refine Ext.trans ?_ (by assumption))))) only [AX, TY, AD, mapPut, entsOf, oneV, builtinV, idsOf, mapId, touchB, Nat.reduceLT, Nat.reduceLeDiff, Nat.reduceEqDiff, Nat.reduceAdd, Nat.reduceMul, Int.reduceBEq, Int.reduceEq, Int.reduceNeg, Int.reduceLT, Int.reduceLE, Int.reduceAdd, Int.reduceSub, Int.reduceMul, Int.reduceToNat, Int.reduceGT, Nat.reduceBEq, Nat.reducePow, Nat.reduceGT, reduceCtorEq, ↓reduceIte, storeN_fact g02 (by simp), loadN_fact (gY _), storeN_fact (gX _) (by simp)]
    exact ⟨h1, _, 0, [], ⟨_, none, some 0, rfl, h2, .nil0 _ _ _, by simp⟩, by unfold CallR; rw [if_neg c0, if_neg c1, if_neg c2, if_neg c3, if_pos c4]; exact ⟨rfl, rfl, rfl⟩⟩
  by_cases c5 : cl.kind = 5
  · simp -dsimp (disch := first | with_reducible assumption | omega | (intro h_; cases h_; done) | (simp only [LN] <;> omega) | (simp only [LF]; done) | (repeat (first | with_reducible assumption | apply Ext.refl | apply Ext.app | (apply Ext.set <;> omega) | (refine Ext.trans ?_ (by assumption))))) only [AX, TY, AD, mapPut, entsOf, oneV, builtinV, idsOf, mapId, touchB, Nat.reduceLT, Nat.reduceLeDiff, Nat.reduceEqDiff, Nat.reduceAdd, Nat.reduceMul, Int.reduceBEq, Int.reduceEq, Int.reduceNeg, Int.reduceLT, Int.reduceLE, Int.reduceAdd, Int.reduceSub, Int.reduceMul, Int.reduceToNat, Int.reduceGT, Nat.reduceBEq, Nat.reducePow, Nat.reduceGT, reduceCtorEq, ↓reduceIte, bpV, hc, hg, loadN_fact g0, loadN_fact g1, c0, c1, c2, c3, c4, eq_true c5]
    refine W.drawn [(0, []), (1, []), (2, [1, 0]), (3, []), (4, []), (5, [])] (by decide +kernel) ?_
    simp -dsimp (disch := first | with_reducible assumption | omega | (intro h_; cases h_; done) | (simp only [LN] <;> omega) | (simp only [LF]; done) | (repeat (first | with_reducible assumption | apply Ext.refl | apply Ext.app | (apply Ext.set <;> omega) | (refine Ext.trans ?_ (by assumption))))) only [AX, TY, AD, mapPut, entsOf, oneV, builtinV, idsOf, mapId, touchB, Nat.reduceLT, Nat.reduceLeDiff, Nat.reduceEqDiff, Nat.reduceAdd, Nat.reduceMul, Int.reduceBEq, Int.reduceEq, Int.reduceNeg, Int.reduceLT, Int.reduceLE, Int.reduceAdd, Int.reduceSub, Int.reduceMul, Int.reduceToNat, Int.reduceGT, Nat.reduceBEq, Nat.reducePow, Nat.reduceGT, reduceCtorEq, ↓reduceIte, loadN_fact g0, loadN_fact g1]
    refine (all_ok 40 (by decide)).mono ?_
    rintro _ ha ⟨ea, ps, cs, rfl, sls⟩
    have s0 := sameO_ext ea hl0
    have s1 := sameO_ext ea hl1
    have hcr := rCrash_ok (r1.ext ea).dk (qc := cs) sls.1 hfew (fun w hw => by obtain ⟨k, _, h, _⟩ := v.pd w hw; omega) bp1.1
    simp only [dkV] at hcr
    simp -dsimp (disch := first | with_reducible assumption | omega | (intro h_; cases h_; done) | (simp only [LN] <;> omega) | (simp only [LF]; done) | (repeat (first | with_reducible assumption | apply Ext.refl | apply Ext.app | (apply Ext.set <;> omega) | (refine Ext.trans ?_ (by assumption))))) only [AX, TY, AD, mapPut, entsOf, oneV, builtinV, idsOf, mapId, touchB, Nat.reduceLT, Nat.reduceLeDiff, Nat.reduceEqDiff, Nat.reduceAdd, Nat.reduceMul, Int.reduceBEq, Int.reduceEq, Int.reduceNeg, Int.reduceLT, Int.reduceLE, Int.reduceAdd, Int.reduceSub, Int.reduceMul, Int.reduceToNat, Int.reduceGT, Nat.reduceBEq, Nat.reducePow, Nat.reduceGT, reduceCtorEq, ↓reduceIte, s0, s1]
    refine hcr.mono ?_
    rintro _ h2 ⟨e2', p2, cc2, rfl, dk2, pt2⟩
    have e2 := ea.trans e2'
    have t0 := sameO_ext e2 hl0
    have t1 := sameO_ext e2 hl1
    have u0 := sameO_ext e2' (lt_of_some (ea _ _ g0))
    have u1 := sameO_ext e2' (lt_of_some (ea _ _ g1))
    have lea := ea.le
    have rbf : RBF (fun a => (P a ∧ a < h.length) ∨ g.length ≤ a) h2 (.agg (bpV ⟨⟨cur S.D, [], -1, false⟩, S.pages, S.frames, S.hand, S.reads⟩ p2 cc2 none (some 0) fp fc)) ⟨⟨cur S.D, [], -1, false⟩, S.pages, S.frames, S.hand, S.reads⟩ := ⟨p2, cc2, none, some 0, fp, fc, rfl, ⟨dk2, (r1.ext e2).frs, (r1.ext e2).dat⟩, ⟨⟨fun a o z => by rcases pt2 a o z with z | z; exact .inl z; exact .inr (by omega), by simp, by simp⟩, (bp1.imp fun _ z => .inl z).2⟩⟩
    simp only [bpV] at rbf
    have g02 := e2 _ _ g0
    have g22 := e2 _ _ g2
    have hl02 := lt_of_some g02
    have hl22 := lt_of_some g22
    have gX : ∀ A : O, (h2.set h.length A)[h.length + 2]? = _ := fun A => (set_other A (by omega)).trans g22
    have gY : ∀ A : O, (h2.set h.length A)[h.length]? = _ := fun A => set_same _ hl02
    obtain ⟨h1, h2⟩ := fin e2 rbf _ _
    simp -dsimp (disch := first | with_reducible assumption | omega | (intro h_; cases h_; done) | (simp only [LN] <;> omega) | (simp only [LF]; done) | (repeat (first | with_reducible assumption | apply Ext.refl | apply Ext.app | (apply Ext.set <;> omega) | (refine Ext.trans ?_ (by assumption))))) only [AX, TY, AD, mapPut, entsOf, oneV, builtinV, idsOf, mapId, touchB, Nat.reduceLT, Nat.reduceLeDiff, Nat.reduceEqDiff, Nat.reduceAdd, Nat.reduceMul, Int.reduceBEq, Int.reduceEq, Int.reduceNeg, Int.reduceLT, Int.reduceLE, Int.reduceAdd, Int.reduceSub, Int.reduceMul, Int.reduceToNat, Int.reduceGT, Nat.reduceBEq, Nat.reducePow, Nat.reduceGT, reduceCtorEq, ↓reduceIte, s0, s1, t0, t1, u0, u1, storeN_fact g02 (by simp), loadN_fact (gY _), storeN_fact (gX _) (by simp)]
    exact ⟨h1, _, 0, [], ⟨_, none, some 0, rfl, h2, .nil0 _ _ _, by simp⟩, by unfold CallR; rw [if_neg c0, if_neg c1, if_neg c2, if_neg c3, if_neg c4, if_pos c5]; exact ⟨rfl, rfl, rfl⟩⟩
  by_cases c6 : cl.kind = 6
  · have hnn := hn c6
    obtain ⟨nn, hnn2⟩ := Int.eq_ofNat_of_zero_le hnn.1
    rw [hnn2] at hc
    rw [hnn2] at hg g1
    simp -dsimp (disch := first | with_reducible assumption | omega | (intro h_; cases h_; done) | (simp only [LN] <;> omega) | (simp only [LF]; done) | (repeat (first | with_reducible assumption | apply Ext.refl | apply Ext.app | (apply Ext.set <;> omega) | (refine Ext.trans ?_ (by assumption))))) only [AX, TY, AD, mapPut, entsOf, oneV, builtinV, idsOf, mapId, touchB, Nat.reduceLT, Nat.reduceLeDiff, Nat.reduceEqDiff, Nat.reduceAdd, Nat.reduceMul, Int.reduceBEq, Int.reduceEq, Int.reduceNeg, Int.reduceLT, Int.reduceLE, Int.reduceAdd, Int.reduceSub, Int.reduceMul, Int.reduceToNat, Int.reduceGT, Nat.reduceBEq, Nat.reducePow, Nat.reduceGT, reduceCtorEq, ↓reduceIte, bpV, hc, hg, loadN_fact g0, loadN_fact g1, c0, c1, c2, c3, c4, c5, eq_true c6]
    refine W.drawn [(0, []), (1, [0]), (2, [0]), (3, [2, 1, 0]), (4, [2, 1, 0]), (5, [4, 3, 2, 1, 0]), (6, [4, 3, 2, 1, 0]), (7, [2, 1, 0]), (8, []), (9, []), (10, []), (11, [10]), (12, [11]), (13, [])] (by decide +kernel) ?_
    simp -dsimp (disch := first | with_reducible assumption | omega | (intro h_; cases h_; done) | (simp only [LN] <;> omega) | (simp only [LF]; done) | (repeat (first | with_reducible assumption | apply Ext.refl | apply Ext.app | (apply Ext.set <;> omega) | (refine Ext.trans ?_ (by assumption))))) only [AX, TY, AD, mapPut, entsOf, oneV, builtinV, idsOf, mapId, touchB, Nat.reduceLT, Nat.reduceLeDiff, Nat.reduceEqDiff, Nat.reduceAdd, Nat.reduceMul, Int.reduceBEq, Int.reduceEq, Int.reduceNeg, Int.reduceLT, Int.reduceLE, Int.reduceAdd, Int.reduceSub, Int.reduceMul, Int.reduceToNat, Int.reduceGT, Nat.reduceBEq, Nat.reducePow, Nat.reduceGT, reduceCtorEq, ↓reduceIte, loadN_fact g0, loadN_fact g1]
    refine (data_c cl.fill nn (by omega)).mono ?_
    rintro _ ha ⟨ea, rfl, sla⟩
    have s0 := sameO_ext ea hl0
    have s1 := sameO_ext ea hl1
    have hup := rUpdate_ok (r1.ext ea) v bp1 cl.page (cb := some nn) sla (by rw [dat_len]; omega)
    simp only [bpV] at hup
    simp -dsimp (disch := first | with_reducible assumption | omega | (intro h_; cases h_; done) | (simp only [LN] <;> omega) | (simp only [LF]; done) | (repeat (first | with_reducible assumption | apply Ext.refl | apply Ext.app | (apply Ext.set <;> omega) | (refine Ext.trans ?_ (by assumption))))) only [AX, TY, AD, mapPut, entsOf, oneV, builtinV, idsOf, mapId, touchB, Nat.reduceLT, Nat.reduceLeDiff, Nat.reduceEqDiff, Nat.reduceAdd, Nat.reduceMul, Int.reduceBEq, Int.reduceEq, Int.reduceNeg, Int.reduceLT, Int.reduceLE, Int.reduceAdd, Int.reduceSub, Int.reduceMul, Int.reduceToNat, Int.reduceGT, Nat.reduceBEq, Nat.reducePow, Nat.reduceGT, reduceCtorEq, ↓reduceIte, s0, s1]
    refine hup.mono ?_
    rintro _ h2 ⟨e2', M', e, ⟨_, rfl, rbf⟩, ur⟩
    have e2 := ea.trans e2'
    have t0 := sameO_ext e2 hl0
    have t1 := sameO_ext e2 hl1
    have u0 := sameO_ext e2' (lt_of_some (ea _ _ g0))
    have u1 := sameO_ext e2' (lt_of_some (ea _ _ g1))
    have lea := ea.le
    obtain ⟨p2, cc2, q2, d2, f2, k2, rfl, rb, pt⟩ := rbf
    have g02 := e2 _ _ g0
    have g22 := e2 _ _ g2
    have hl02 := lt_of_some g02
    have hl22 := lt_of_some g22
    have gX : ∀ A : O, (h2.set h.length A)[h.length + 2]? = _ := fun A => (set_other A (by omega)).trans g22
    have gY : ∀ A : O, (h2.set h.length A)[h.length]? = _ := fun A => set_same _ hl02
    obtain ⟨h1, h2⟩ := fin e2 ⟨p2, cc2, q2, d2, f2, k2, rfl, rb, pt.imp fun a z => by rcases z with z | z; exact .inl z; exact .inr (by omega)⟩ _ _
    simp -dsimp (disch := first | with_reducible assumption | omega | (intro h_; cases h_; done) | (simp only [LN] <;> omega) | (simp only [LF]; done) | (repeat (first | with_reducible assumption | apply Ext.refl | apply Ext.app | (apply Ext.set <;> omega) | (refine Ext.trans ?_ (by assumption))))) only [AX, TY, AD, mapPut, entsOf, oneV, builtinV, idsOf, mapId, touchB, Nat.reduceLT, Nat.reduceLeDiff, Nat.reduceEqDiff, Nat.reduceAdd, Nat.reduceMul, Int.reduceBEq, Int.reduceEq, Int.reduceNeg, Int.reduceLT, Int.reduceLE, Int.reduceAdd, Int.reduceSub, Int.reduceMul, Int.reduceToNat, Int.reduceGT, Nat.reduceBEq, Nat.reducePow, Nat.reduceGT, reduceCtorEq, ↓reduceIte, s0, s1, t0, t1, u0, u1, storeN_fact g02 (by simp), loadN_fact (gY _), storeN_fact (gX _) (by simp)]
    have hnt : cl.n.toNat = nn := by omega
    exact ⟨h1, M', e, [], ⟨_, none, some 0, rfl, h2, .nil0 _ _ _, by simp⟩, by unfold CallR; rw [if_neg c0, if_neg c1, if_neg c2, if_neg c3, if_neg c4, if_neg c5, if_pos c6, hnt]; exact ⟨rfl, ur⟩⟩
  have rbf : RBF (fun a => (P a ∧ a < h.length) ∨ g.length ≤ a) g (.agg (bpV S p c q d fp fc)) S := ⟨p, c, q, d, fp, fc, rfl, r1, bp1.imp fun _ z => .inl z⟩
  have ht : (g.set h.length (O.cells (bpV S p c q d fp fc) .rw)) = g := by
    apply List.ext_getElem?
    intro j
    rw [List.getElem?_set]
    split
    · rename_i z; subst z
      exact g0.symm
    · rfl
  simp -dsimp (disch := first | with_reducible assumption | omega | (intro h_; cases h_; done) | (simp only [LN] <;> omega) | (simp only [LF]; done) | (repeat (first | with_reducible assumption | apply Ext.refl | apply Ext.app | (apply Ext.set <;> omega) | (refine Ext.trans ?_ (by assumption))))) only [AX, TY, AD, mapPut, entsOf, oneV, builtinV, idsOf, mapId, touchB, Nat.reduceLT, Nat.reduceLeDiff, Nat.reduceEqDiff, Nat.reduceAdd, Nat.reduceMul, Int.reduceBEq, Int.reduceEq, Int.reduceNeg, Int.reduceLT, Int.reduceLE, Int.reduceAdd, Int.reduceSub, Int.reduceMul, Int.reduceToNat, Int.reduceGT, Nat.reduceBEq, Nat.reducePow, Nat.reduceGT, reduceCtorEq, ↓reduceIte, bpV, hc, hg, loadN_fact g0, loadN_fact g1, c0, c1, c2, c3, c4, c5, c6, storeN_fact g2 (by simp)]
  obtain ⟨h1, h2⟩ := fin (.refl _) rbf (O.cells (bpV S p c q d fp fc) .rw) (O.cells (bpV S p c q d fp fc) .rw)
  rw [ht] at h1 h2
  simp only [bpV] at h1 h2
  exact ⟨h1, S, 0, [], ⟨_, none, some 0, rfl, h2, .nil0 _ _ _, by simp⟩, by unfold CallR; rw [if_neg c0, if_neg c1, if_neg c2, if_neg c3, if_neg c4, if_neg c5, if_neg c6]; exact ⟨rfl, rfl, rfl⟩⟩
end Go.Proofs.YtmjfhckioaempaaA
namespace Go.Proofs.YtmjfhckioaempaaA
open Go Go.Proofs Go.RowKit
set_option linter.unusedVariables false
set_option linter.unusedSimpArgs false
set_option maxRecDepth 10000
set_option maxHeartbeats 4000000
theorem rNew_ok {h : Heap} (n : Nat) (hn : n ≤ 4194304) :
    WR (callE Try.prog hk 47 [.int .i64 n] h) fun r h' => Ext h h' ∧ ∃ p c, r = .agg (dkV ⟨List.replicate n 0, [], -1, false⟩ p c none (some 0)) ∧ RDk h' ⟨List.replicate n 0, [], -1, false⟩ p c none (some 0) ∧ ∀ a o, p = some (a, o) → h.length ≤ a := by
  refine WR.call (hH := rfl) Try.func47 rfl (n := 6) rfl rfl (by simp) ?_
  simp -dsimp (disch := first | with_reducible assumption | omega | (intro h_; cases h_; done) | (simp only [LN] <;> omega) | (simp only [LF]; done) | (repeat (first | with_reducible assumption | apply Ext.refl | apply Ext.app | (apply Ext.set <;> omega) | (refine Ext.trans ?_ (by assumption))))) only [AX, TY, AD, mapPut, entsOf, oneV, builtinV, idsOf, mapId, touchB, Nat.reduceLT, Nat.reduceLeDiff, Nat.reduceEqDiff, Nat.reduceAdd, Nat.reduceMul, Int.reduceBEq, Int.reduceEq, Int.reduceNeg, Int.reduceLT, Int.reduceLE, Int.reduceAdd, Int.reduceSub, Int.reduceMul, Int.reduceToNat, Int.reduceGT, Nat.reduceBEq, Nat.reducePow, Nat.reduceGT, reduceCtorEq, ↓reduceIte]
  have e : Ext h (h ++ [O.cells [V.slice (some (h.length + 1, 0)) n (some n), V.slice none 0 (some 0), V.int .i64 (-1), V.bool false] .rw] ++ [O.cells (List.replicate n [V.int .u8 0]).flatten .rw]) := (by (repeat (first | assumption | apply Ext.refl | apply Ext.app | (apply Ext.set <;> omega) | exact Ext.trans (by assumption) (by assumption) | (refine Ext.trans ?_ (by assumption)))))
  refine ⟨e, some (h.length + 1, 0), some n, by simp only [dkV, List.length_replicate, List.length_nil], ⟨Rs.ofSome (.whole (snoc_last _ (by simp)) (fun y _ => rfl) ?_ (by rw [List.length_replicate]; omega)) (by simp), .nil0 _ _ _, by simp, by rw [List.length_replicate]; exact hn, by simp, by simp⟩, fun a o z => by cases z; omega⟩
  exact reps_eb n
theorem rSync_ok {h : Heap} {D : Dk} {p : Option (Nat × Nat)} {c : Option Nat} {q : Option (Nat × Nat)} {d : Option Nat} (r : RDk h D p c q d) (hf : D.failed = false) (hz : D.ctr ≠ 0) (hc : D.ctr ≤ 9223372036854775807) {P : Nat → Prop} (bp : DkPtr D p q P) :
    WR (callE Try.prog hk 49 [.agg (dkV D p c q d)] h) fun r h' => Ext h h' ∧ ∃ p' c', r = .tuple [.agg (dkV ⟨cur D, [], decr D.ctr, false⟩ p' c' none (some 0)), .int .i64 0] ∧ RDk h' ⟨cur D, [], decr D.ctr, false⟩ p' c' none (some 0) ∧ ∀ a o, p' = some (a, o) → P a ∨ h.length ≤ a := by
  have hcl : (cur D).length = D.dur.length := applyAll_len r.inr
  refine WR.call (hH := rfl) Try.func49 rfl (n := 21) rfl rfl (by simp) ?_
  obtain ⟨g, hg, g0, g1, e1, hgl⟩ : ∃ g, h ++ [O.cells (dkV D p c q d) .rw] ++ [O.cells [V.slice none 0 (some 0), V.slice none 0 (some 0), V.int .i64 0, V.bool false] .rw] = g ∧ g[h.length]? = some (O.cells (dkV D p c q d) .rw) ∧ g[h.length + 1]? = some (O.cells [V.slice none 0 (some 0), V.slice none 0 (some 0), V.int .i64 0, V.bool false] .rw) ∧ Ext h g ∧ g.length = h.length + 2 := ⟨_, rfl, by rw [snoc_old _ (by simp)]; exact snoc_last _ rfl, snoc_last _ (by simp), (by (repeat (first | assumption | apply Ext.refl | apply Ext.app | (apply Ext.set <;> omega) | exact Ext.trans (by assumption) (by assumption) | (refine Ext.trans ?_ (by assumption))))), by simp⟩
  have hbu := rburn_ok (h := g) (D := D) (p := p) (c := c) (q := q) (d := d) hc
  simp only [dkV, hf] at hg g0
  simp only [dkV] at hbu
  rw [hf] at hbu
  simp -dsimp (disch := first | with_reducible assumption | omega | (intro h_; cases h_; done) | (simp only [LN] <;> omega) | (simp only [LF]; done) | (repeat (first | with_reducible assumption | apply Ext.refl | apply Ext.app | (apply Ext.set <;> omega) | (refine Ext.trans ?_ (by assumption))))) only [AX, TY, AD, mapPut, entsOf, oneV, builtinV, idsOf, mapId, touchB, Nat.reduceLT, Nat.reduceLeDiff, Nat.reduceEqDiff, Nat.reduceAdd, Nat.reduceMul, Int.reduceBEq, Int.reduceEq, Int.reduceNeg, Int.reduceLT, Int.reduceLE, Int.reduceAdd, Int.reduceSub, Int.reduceMul, Int.reduceToNat, Int.reduceGT, Nat.reduceBEq, Nat.reducePow, Nat.reduceGT, reduceCtorEq, ↓reduceIte, dkV, hf, hg, loadN_fact g0]
  refine hbu.mono ?_
  rintro _ h2 ⟨e2, ⟨hz', rfl⟩ | ⟨_, rfl⟩⟩
  · exact absurd hz' hz
  have g02 := e2 _ _ g0
  have g12 := e2 _ _ g1
  have hl02 := lt_of_some g02
  have hl12 := lt_of_some g12
  have hne : ¬ h.length + 1 = h.length := by omega
  obtain ⟨h3, hh3, z3, k3, l3⟩ : ∃ h3, h2.set h.length (O.cells [V.slice p D.dur.length c, V.slice q D.pend.length d, V.int .i64 (decr D.ctr), V.bool false] .rw) = h3 ∧ h3[h.length]? = some (O.cells [V.slice p D.dur.length c, V.slice q D.pend.length d, V.int .i64 (decr D.ctr), V.bool false] .rw) ∧ (∀ a, a ≠ h.length → h3[a]? = h2[a]?) ∧ h3.length = h2.length := ⟨_, rfl, set_same _ hl02, fun a ha => set_other _ (by omega), by simp⟩
  have e3 : Ext h h3 := Ext.of_keep fun i hi => by rw [k3 i (by omega), (e1.trans e2).same hi]
  have hco := rcont_ok (h := h3) (D := ⟨D.dur, D.pend, decr D.ctr, false⟩) ((r.ext e3).flag _ _)
  simp only [dkV] at hco
  simp -dsimp (disch := first | with_reducible assumption | omega | (intro h_; cases h_; done) | (simp only [LN] <;> omega) | (simp only [LF]; done) | (repeat (first | with_reducible assumption | apply Ext.refl | apply Ext.app | (apply Ext.set <;> omega) | (refine Ext.trans ?_ (by assumption))))) only [AX, TY, AD, mapPut, entsOf, oneV, builtinV, idsOf, mapId, touchB, Nat.reduceLT, Nat.reduceLeDiff, Nat.reduceEqDiff, Nat.reduceAdd, Nat.reduceMul, Int.reduceBEq, Int.reduceEq, Int.reduceNeg, Int.reduceLT, Int.reduceLE, Int.reduceAdd, Int.reduceSub, Int.reduceMul, Int.reduceToNat, Int.reduceGT, Nat.reduceBEq, Nat.reducePow, Nat.reduceGT, reduceCtorEq, ↓reduceIte, storeN_fact g02 (by simp), hh3, loadN_fact z3]
  refine hco.mono ?_
  rintro _ h4 ⟨e4, p', c', rfl, rs, hpt⟩
  have z4 := e4 _ _ z3
  have g14 := e4 _ _ ((k3 _ hne).trans g12)
  have hl4 := lt_of_some z4
  have hl14 := lt_of_some g14
  obtain ⟨h5, hh5, z5, k5, l5⟩ : ∃ h5, h4.set h.length (O.cells [V.slice p' D.dur.length c', V.slice q D.pend.length d, V.int .i64 (decr D.ctr), V.bool false] .rw) = h5 ∧ h5[h.length]? = some (O.cells [V.slice p' D.dur.length c', V.slice q D.pend.length d, V.int .i64 (decr D.ctr), V.bool false] .rw) ∧ (∀ a, a ≠ h.length → h5[a]? = h4[a]?) ∧ h5.length = h4.length := ⟨_, rfl, set_same _ hl4, fun a ha => set_other _ (by omega), by simp⟩
  obtain ⟨h6, hh6, z6, k6, l6⟩ : ∃ h6, h5.set h.length (O.cells [V.slice p' D.dur.length c', V.slice none 0 (some 0), V.int .i64 (decr D.ctr), V.bool false] .rw) = h6 ∧ h6[h.length]? = some (O.cells [V.slice p' D.dur.length c', V.slice none 0 (some 0), V.int .i64 (decr D.ctr), V.bool false] .rw) ∧ (∀ a, a ≠ h.length → h6[a]? = h5[a]?) ∧ h6.length = h5.length := ⟨_, rfl, set_same _ (by omega), fun a ha => set_other _ (by omega), by simp⟩
  have g16 := ((k6 _ hne).trans (k5 _ hne)).trans g14
  have e6 : Ext h h6 := Ext.of_keep fun i hi => by rw [k6 i (by omega), k5 i (by omega), (e3.trans e4).same hi]
  have ex : ∀ A : O, Ext h (h6.set (h.length + 1) A) := fun A => Ext.set e6 (by omega) _
  have l34 := e4.le
  have hpp : ∀ a o, p' = some (a, o) → (P a ∧ a < h.length) ∨ h3.length ≤ a := fun a o z => by
    rcases hpt a o z with ⟨o2, w⟩ | w
    · exact .inl ⟨bp.1 a o2 w, Sl.lt r.dur.sl w⟩
    · exact .inr w
  have le2 := e2.le
  simp -dsimp (disch := first | with_reducible assumption | omega | (intro h_; cases h_; done) | (simp only [LN] <;> omega) | (simp only [LF]; done) | (repeat (first | with_reducible assumption | apply Ext.refl | apply Ext.app | (apply Ext.set <;> omega) | (refine Ext.trans ?_ (by assumption))))) only [AX, TY, AD, mapPut, entsOf, oneV, builtinV, idsOf, mapId, touchB, Nat.reduceLT, Nat.reduceLeDiff, Nat.reduceEqDiff, Nat.reduceAdd, Nat.reduceMul, Int.reduceBEq, Int.reduceEq, Int.reduceNeg, Int.reduceLT, Int.reduceLE, Int.reduceAdd, Int.reduceSub, Int.reduceMul, Int.reduceToNat, Int.reduceGT, Nat.reduceBEq, Nat.reducePow, Nat.reduceGT, reduceCtorEq, ↓reduceIte, storeN_fact z4 (by simp), hh5, storeN_fact z5 (by simp), hh6, loadN_fact z6, storeN_fact g16 (by simp)]
  refine ⟨ex _, p', c', by rw [dkV, hcl]; rfl, ⟨rs.keep fun a o z => ?_, .nil0 _ _ _, by simp, by rw [hcl]; exact r.small, by simp, by simp⟩, fun a o z => ?_⟩
  · have := hpp a o z
    rw [set_other _ (by omega), k6 a (by omega), k5 a (by omega)]
  · rcases hpp a o z with ⟨w, _⟩ | w
    · exact .inl w
    · exact .inr (by omega)
theorem rNewP_ok {h : Heap} {D : Dk} {p : Option (Nat × Nat)} {c : Option Nat} {q : Option (Nat × Nat)} {d : Option Nat} (r : RDk h D p c q d) (pages n : Nat) (hn : n ≤ 8) {P : Nat → Prop} (bp : DkPtr D p q P) :
    WR (callE Try.prog hk 50 [.agg (dkV D p c q d), .int .i64 pages, .int .i64 n] h) fun r h' => Ext h h' ∧ RBF (fun a => P a ∨ h.length ≤ a) h' r ⟨D, pages, List.replicate n emptyFr, 0, 0⟩ := by
  refine WR.call (hH := rfl) Try.func50 rfl (n := 24) rfl rfl (by simp) ?_
  obtain ⟨g, hg, g0, g1, g2, e1, hgl⟩ : ∃ g, h ++ [O.cells (dkV D p c q d) .rw] ++ [O.cells zP .rw] ++ [O.cells [.slice p D.dur.length c, .slice q D.pend.length d, .int .i64 D.ctr, .bool D.failed, .int .i64 pages, .slice none 0 (some 0), .int .i64 0, .int .i64 0] .rw] = g ∧ g[h.length]? = some (O.cells (dkV D p c q d) .rw) ∧ g[h.length + 1]? = some (O.cells zP .rw) ∧ g[h.length + 2]? = some (O.cells [.slice p D.dur.length c, .slice q D.pend.length d, .int .i64 D.ctr, .bool D.failed, .int .i64 pages, .slice none 0 (some 0), .int .i64 0, .int .i64 0] .rw) ∧ Ext h g ∧ g.length = h.length + 3 := ⟨_, rfl, by rw [snoc_old _ (by simp), snoc_old _ (by simp)]; exact snoc_last _ rfl, by rw [snoc_old _ (by simp)]; exact snoc_last _ (by simp), snoc_last _ (by simp), (by (repeat (first | assumption | apply Ext.refl | apply Ext.app | (apply Ext.set <;> omega) | exact Ext.trans (by assumption) (by assumption) | (refine Ext.trans ?_ (by assumption))))), by simp⟩
  simp only [dkV, zP] at hg g0 g1 g2
  have y0 : (h ++ [O.cells (dkV D p c q d) .rw] ++ [O.cells zP .rw])[h.length]? = some (O.cells (dkV D p c q d) .rw) := by rw [snoc_old _ (by simp)]; exact snoc_last _ rfl
  simp only [dkV, zP] at y0
  simp -dsimp (disch := first | with_reducible assumption | omega | (intro h_; cases h_; done) | (simp only [LN] <;> omega) | (simp only [LF]; done) | (repeat (first | with_reducible assumption | apply Ext.refl | apply Ext.app | (apply Ext.set <;> omega) | (refine Ext.trans ?_ (by assumption))))) only [AX, TY, AD, mapPut, entsOf, oneV, builtinV, idsOf, mapId, touchB, Nat.reduceLT, Nat.reduceLeDiff, Nat.reduceEqDiff, Nat.reduceAdd, Nat.reduceMul, Int.reduceBEq, Int.reduceEq, Int.reduceNeg, Int.reduceLT, Int.reduceLE, Int.reduceAdd, Int.reduceSub, Int.reduceMul, Int.reduceToNat, Int.reduceGT, Nat.reduceBEq, Nat.reducePow, Nat.reduceGT, reduceCtorEq, ↓reduceIte, dkV, loadN_fact y0, hg]
  refine W.loop (fun m τ hh => ∃ (i : Nat) (po : Option (Nat × Nat)) (co oo : Option Nat) (os : List Fr), m + i = n ∧ τ 2 = .int .i64 n ∧ τ 6 = .ptr (some (h.length + 1, 0)) ∧ τ 7 = .ptr (some (h.length + 2, 0)) ∧ τ 8 = .int .i64 i ∧ Ext h hh ∧ hh[h.length + 1]? = some (.cells zP .rw) ∧ hh[h.length + 2]? = some (.cells [V.slice p D.dur.length c, V.slice q D.pend.length d, V.int .i64 D.ctr, V.bool D.failed, V.int .i64 pages, V.slice po i co, V.int .i64 0, V.int .i64 0] .rw) ∧ Gr g.length hh po co oo 5 Fr.enc os ∧ os = List.replicate i emptyFr ∧ g.length ≤ hh.length) ?_ (m := n) ?_
  rotate_left
  · have hgr : Gr g.length g none (some 0) none 5 Fr.enc ([] : List Fr) := Gr.nil _ _ _ _
    refine ⟨0, none, some 0, none, [], ?_⟩
    simp -dsimp (disch := first | with_reducible assumption | omega | (intro h_; cases h_; done) | (simp only [LN] <;> omega) | (simp only [LF]; done) | (repeat (first | with_reducible assumption | apply Ext.refl | apply Ext.app | (apply Ext.set <;> omega) | (refine Ext.trans ?_ (by assumption))))) only [AX, TY, AD, mapPut, entsOf, oneV, builtinV, idsOf, mapId, touchB, Nat.reduceLT, Nat.reduceLeDiff, Nat.reduceEqDiff, Nat.reduceAdd, Nat.reduceMul, Int.reduceBEq, Int.reduceEq, Int.reduceNeg, Int.reduceLT, Int.reduceLE, Int.reduceAdd, Int.reduceSub, Int.reduceMul, Int.reduceToNat, Int.reduceGT, Nat.reduceBEq, Nat.reducePow, Nat.reduceGT, reduceCtorEq, ↓reduceIte]
    repeat' (first | assumption | refine And.intro ?_ ?_)
    all_goals first | rfl | omega | (simp; done) | (simp; omega; done) | skip
  rintro m τ hh ⟨i, po, co, oo, os, hm, t2, t6, t7, t8, e, gh1, gh2, gr, hos, hl⟩
  have hl1 := lt_of_some gh1
  have hl2 := lt_of_some gh2
  have hol : os.length = i := by rw [hos, List.length_replicate]
  simp only [zP] at gh1
  by_cases h1 : (i : Int) < (n : Int)
  rotate_left
  · have hi : i = n := by omega
    subst hi
    have ex : ∀ A : O, Ext h (hh.set (h.length + 1) A) := fun A => Ext.set e (by omega) _
    have oo' : ∀ j, oo = some j → g.length ≤ j := fun j hj => gr.base j hj
    simp -dsimp (disch := first | with_reducible assumption | omega | (intro h_; cases h_; done) | (simp only [LN] <;> omega) | (simp only [LF]; done) | (repeat (first | with_reducible assumption | apply Ext.refl | apply Ext.app | (apply Ext.set <;> omega) | (refine Ext.trans ?_ (by assumption))))) only [AX, TY, AD, mapPut, entsOf, oneV, builtinV, idsOf, mapId, touchB, Nat.reduceLT, Nat.reduceLeDiff, Nat.reduceEqDiff, Nat.reduceAdd, Nat.reduceMul, Int.reduceBEq, Int.reduceEq, Int.reduceNeg, Int.reduceLT, Int.reduceLE, Int.reduceAdd, Int.reduceSub, Int.reduceMul, Int.reduceToNat, Int.reduceGT, Nat.reduceBEq, Nat.reducePow, Nat.reduceGT, reduceCtorEq, ↓reduceIte, t2, t6, t7, t8, h1, loadN_fact gh2, storeN_fact gh1 (by simp)]
    subst hos
    refine ⟨ex _, p, c, q, d, po, co, by simp only [bpV, List.length_replicate]; rfl, ⟨r.ext (ex _), (gr.keep fun j hj => set_other _ (by have := oo' j hj; omega)).sl, fun f hf => ?_⟩, ⟨bp.imp fun _ z => .inl z, fun a o z => .inr (by have := oo' a (gr.at z); omega), fun f hf a o z => ?_⟩⟩
    · obtain ⟨_, rfl⟩ := List.mem_replicate.1 hf
      exact .nil0 _ _ _
    · obtain ⟨_, rfl⟩ := List.mem_replicate.1 hf
      cases z
  obtain ⟨h5, hh5, z5, k5, l5⟩ : ∃ h5, hh ++ [O.cells (Fr.enc emptyFr) .rw] = h5 ∧ h5[hh.length]? = some (O.cells (Fr.enc emptyFr) .rw) ∧ Ext hh h5 ∧ h5.length = hh.length + 1 := ⟨_, rfl, snoc_last _ rfl, (by (repeat (first | assumption | apply Ext.refl | apply Ext.app | (apply Ext.set <;> omega) | exact Ext.trans (by assumption) (by assumption) | (refine Ext.trans ?_ (by assumption))))), by simp⟩
  obtain ⟨p6, c6, o6, h6, hap, gr6, ho6, hl6, hk6, hb6⟩ := (gr.ext k5).push (bytes := 48) (vc := some 1) (by omega) z5 rfl rfl (by omega) (by omega)
  have hap' := hap
  simp only [hol] at hap'
  have gh26 := (hb6 (h.length + 2) (by omega)).trans (k5 _ _ gh2)
  have gh16 := (hb6 (h.length + 1) (by omega)).trans (k5 _ _ gh1)
  have hl26 := lt_of_some gh26
  have hl16 := lt_of_some gh16
  obtain ⟨h7, hh7, z7, k7, l7⟩ : ∃ h7, h6.set (h.length + 2) (O.cells [V.slice p D.dur.length c, V.slice q D.pend.length d, V.int .i64 D.ctr, V.bool D.failed, V.int .i64 pages, V.slice p6 (i + 1) c6, V.int .i64 0, V.int .i64 0] .rw) = h7 ∧ h7[h.length + 2]? = some (O.cells [V.slice p D.dur.length c, V.slice q D.pend.length d, V.int .i64 D.ctr, V.bool D.failed, V.int .i64 pages, V.slice p6 (i + 1) c6, V.int .i64 0, V.int .i64 0] .rw) ∧ (∀ a, a ≠ h.length + 2 → h7[a]? = h6[a]?) ∧ h7.length = h6.length := ⟨_, rfl, set_same _ hl26, fun a ha => set_other _ (by omega), by simp⟩
  have g17 := (k7 _ (show h.length + 1 ≠ h.length + 2 by omega)).trans gh16
  have gr7 := gr6.keep fun j hj => k7 j (by have := gr6.base j hj; omega)
  have e7 : Ext h h7 := Ext.of_keep fun j hj => by rw [k7 j (by omega), hb6 j (by omega), (e.trans k5).same hj]
  have hrep : os ++ [emptyFr] = List.replicate (i + 1) emptyFr := by rw [List.replicate_succ', hos]
  have hl7 : g.length ≤ h7.length := by omega
  simp only [Fr.enc, emptyFr, List.length_nil] at hh5 z5
  simp -dsimp (disch := first | with_reducible assumption | omega | (intro h_; cases h_; done) | (simp only [LN] <;> omega) | (simp only [LF]; done) | (repeat (first | with_reducible assumption | apply Ext.refl | apply Ext.app | (apply Ext.set <;> omega) | (refine Ext.trans ?_ (by assumption))))) only [AX, TY, AD, mapPut, entsOf, oneV, builtinV, idsOf, mapId, touchB, Nat.reduceLT, Nat.reduceLeDiff, Nat.reduceEqDiff, Nat.reduceAdd, Nat.reduceMul, Int.reduceBEq, Int.reduceEq, Int.reduceNeg, Int.reduceLT, Int.reduceLE, Int.reduceAdd, Int.reduceSub, Int.reduceMul, Int.reduceToNat, Int.reduceGT, Nat.reduceBEq, Nat.reducePow, Nat.reduceGT, reduceCtorEq, ↓reduceIte, t2, t6, t7, t8, h1, loadN_fact gh2, hh5, hap', storeN_fact gh26 (by simp), hh7, wrap_in]
  refine ⟨m - 1, by omega, i + 1, p6, c6, o6, os ++ [emptyFr], ?_⟩
  repeat' (first | assumption | refine And.intro ?_ ?_)
  all_goals first | rfl | omega | (simp; done) | (simp; omega; done) | skip
theorem model_ok {h : Heap} (pages frames : Nat) (h1 : 1 ≤ pages) (h6 : pages ≤ 6) (h8 : frames ≤ 8) :
    WR (callE Try.prog hk 24 [.int .i64 pages, .int .i64 frames] h) fun r h' => Ext h h' ∧ ∃ D, RBF (fun a => h.length ≤ a) h' r ⟨D, pages, List.replicate frames emptyFr, 0, 0⟩ ∧ D.pend = [] ∧ D.ctr = -1 ∧ D.failed = false ∧ D.dur.length = pages * 1024 ∧ ∀ k, k < pages → pg D.dur k = fillB k := by
  have hw0 : IntKind.i64.wrap ((pages : Int) * 1024) = ((pages * 1024 : Nat) : Int) := by rw [IntKind.wrap_i64]; omega
  refine WR.call (hH := rfl) Try.func24 rfl (n := 34) rfl rfl (by simp) ?_
  obtain ⟨g, hg, g0, e1, hgl⟩ : ∃ g, h ++ [O.cells zP .rw] = g ∧ g[h.length]? = some (O.cells zP .rw) ∧ Ext h g ∧ g.length = h.length + 1 := ⟨_, rfl, snoc_last _ rfl, (by (repeat (first | assumption | apply Ext.refl | apply Ext.app | (apply Ext.set <;> omega) | exact Ext.trans (by assumption) (by assumption) | (refine Ext.trans ?_ (by assumption))))), by simp⟩
  simp only [zP] at hg g0
  simp -dsimp (disch := first | with_reducible assumption | omega | (intro h_; cases h_; done) | (simp only [LN] <;> omega) | (simp only [LF]; done) | (repeat (first | with_reducible assumption | apply Ext.refl | apply Ext.app | (apply Ext.set <;> omega) | (refine Ext.trans ?_ (by assumption))))) only [AX, TY, AD, mapPut, entsOf, oneV, builtinV, idsOf, mapId, touchB, Nat.reduceLT, Nat.reduceLeDiff, Nat.reduceEqDiff, Nat.reduceAdd, Nat.reduceMul, Int.reduceBEq, Int.reduceEq, Int.reduceNeg, Int.reduceLT, Int.reduceLE, Int.reduceAdd, Int.reduceSub, Int.reduceMul, Int.reduceToNat, Int.reduceGT, Nat.reduceBEq, Nat.reducePow, Nat.reduceGT, reduceCtorEq, ↓reduceIte, hg, hw0]
  refine (rNew_ok (pages * 1024) (by omega)).mono ?_
  rintro _ h2 ⟨e2, p0, c0, rfl, dk0, hp0⟩
  obtain ⟨h3, hh3, z3, e3, l3⟩ : ∃ h3, h2 ++ [O.cells (dkV ⟨List.replicate (pages * 1024) 0, [], -1, false⟩ p0 c0 none (some 0)) .rw] = h3 ∧ h3[h2.length]? = some (O.cells (dkV ⟨List.replicate (pages * 1024) 0, [], -1, false⟩ p0 c0 none (some 0)) .rw) ∧ Ext h2 h3 ∧ h3.length = h2.length + 1 := ⟨_, rfl, snoc_last _ rfl, (by (repeat (first | assumption | apply Ext.refl | apply Ext.app | (apply Ext.set <;> omega) | exact Ext.trans (by assumption) (by assumption) | (refine Ext.trans ?_ (by assumption))))), by simp⟩
  have le2 := e2.le
  have hh3' := hh3
  simp only [dkV, List.length_nil] at hh3'
  simp -dsimp (disch := first | with_reducible assumption | omega | (intro h_; cases h_; done) | (simp only [LN] <;> omega) | (simp only [LF]; done) | (repeat (first | with_reducible assumption | apply Ext.refl | apply Ext.app | (apply Ext.set <;> omega) | (refine Ext.trans ?_ (by assumption))))) only [AX, TY, AD, mapPut, entsOf, oneV, builtinV, idsOf, mapId, touchB, Nat.reduceLT, Nat.reduceLeDiff, Nat.reduceEqDiff, Nat.reduceAdd, Nat.reduceMul, Int.reduceBEq, Int.reduceEq, Int.reduceNeg, Int.reduceLT, Int.reduceLE, Int.reduceAdd, Int.reduceSub, Int.reduceMul, Int.reduceToNat, Int.reduceGT, Nat.reduceBEq, Nat.reducePow, Nat.reduceGT, reduceCtorEq, ↓reduceIte, dkV, List.length_nil, hh3']
  refine W.loop (fun m τ hh => ∃ (k : Nat) (ws : List Pw) (p1 : Option (Nat × Nat)) (c1 : Option Nat) (q1 : Option (Nat × Nat)) (d1 : Option Nat), m + k = pages ∧ τ 0 = .int .i64 pages ∧ τ 1 = .int .i64 frames ∧ τ 4 = .ptr (some (h.length, 0)) ∧ τ 5 = .ptr (some (h2.length, 0)) ∧ τ 6 = .int .i64 k ∧ Ext h hh ∧ hh[h.length]? = some (O.cells zP .rw) ∧ hh[h2.length]? = some (O.cells (dkV ⟨List.replicate (pages * 1024) 0, ws, -1, false⟩ p1 c1 q1 d1) .rw) ∧ RDk hh ⟨List.replicate (pages * 1024) 0, ws, -1, false⟩ p1 c1 q1 d1 ∧ DkPtr ⟨List.replicate (pages * 1024) 0, ws, -1, false⟩ p1 q1 (fun a => h.length < a ∧ a ≠ h2.length) ∧ ws.length = k ∧ ∀ i (hi : i < ws.length), (ws[i]).off = i * 1024 ∧ (ws[i]).data = fillB i) ?_ (m := pages) ?_
  rotate_left
  · have dk3 := dk0.ext e3
    have eh3 := (e1.trans e2).trans e3
    have g03 := e3 _ _ (e2 _ _ g0)
    have dp3 : DkPtr ⟨List.replicate (pages * 1024) 0, [], -1, false⟩ p0 none (fun a => h.length < a ∧ a ≠ h2.length) := ⟨fun a o z => ⟨by have := hp0 a o z; omega, by have := dk0.ptr.1 a o z; omega⟩, by simp, by simp⟩
    refine ⟨0, [], p0, c0, none, some 0, ?_⟩
    simp -dsimp (disch := first | with_reducible assumption | omega | (intro h_; cases h_; done) | (simp only [LN] <;> omega) | (simp only [LF]; done) | (repeat (first | with_reducible assumption | apply Ext.refl | apply Ext.app | (apply Ext.set <;> omega) | (refine Ext.trans ?_ (by assumption))))) only [AX, TY, AD, mapPut, entsOf, oneV, builtinV, idsOf, mapId, touchB, Nat.reduceLT, Nat.reduceLeDiff, Nat.reduceEqDiff, Nat.reduceAdd, Nat.reduceMul, Int.reduceBEq, Int.reduceEq, Int.reduceNeg, Int.reduceLT, Int.reduceLE, Int.reduceAdd, Int.reduceSub, Int.reduceMul, Int.reduceToNat, Int.reduceGT, Nat.reduceBEq, Nat.reducePow, Nat.reduceGT, reduceCtorEq, ↓reduceIte]
    repeat' (first | assumption | refine And.intro ?_ ?_)
    all_goals first | rfl | omega | (simp; done) | (simp; omega; done) | skip
  rintro m τ hh ⟨k, ws, p1, c1, q1, d1, hm, t0, t1, t4, t5, t6, eh, gz, gd, dk, dpt, hwl, hws⟩
  have hlz := lt_of_some gz
  have hld := lt_of_some gd
  simp only [dkV, zP] at gz gd
  by_cases h3 : (k : Int) < (pages : Int)
  · have hoff : IntKind.i64.wrap ((k : Int) * 1024) = ((k * 1024 : Nat) : Int) := by rw [IntKind.wrap_i64]; omega
    simp -dsimp (disch := first | with_reducible assumption | omega | (intro h_; cases h_; done) | (simp only [LN] <;> omega) | (simp only [LF]; done) | (repeat (first | with_reducible assumption | apply Ext.refl | apply Ext.app | (apply Ext.set <;> omega) | (refine Ext.trans ?_ (by assumption))))) only [AX, TY, AD, mapPut, entsOf, oneV, builtinV, idsOf, mapId, touchB, Nat.reduceLT, Nat.reduceLeDiff, Nat.reduceEqDiff, Nat.reduceAdd, Nat.reduceMul, Int.reduceBEq, Int.reduceEq, Int.reduceNeg, Int.reduceLT, Int.reduceLE, Int.reduceAdd, Int.reduceSub, Int.reduceMul, Int.reduceToNat, Int.reduceGT, Nat.reduceBEq, Nat.reducePow, Nat.reduceGT, reduceCtorEq, ↓reduceIte, t0, t1, t4, t5, t6, h3]
    refine W.drawn [(0, []), (1, [0]), (2, [0]), (3, [2, 1, 0]), (4, [2, 1, 0]), (5, [2, 1, 0]), (6, []), (7, []), (8, []), (9, [8]), (10, [9])] (by decide +kernel) ?_
    simp -dsimp (disch := first | with_reducible assumption | omega | (intro h_; cases h_; done) | (simp only [LN] <;> omega) | (simp only [LF]; done) | (repeat (first | with_reducible assumption | apply Ext.refl | apply Ext.app | (apply Ext.set <;> omega) | (refine Ext.trans ?_ (by assumption))))) only [AX, TY, AD, mapPut, entsOf, oneV, builtinV, idsOf, mapId, touchB, Nat.reduceLT, Nat.reduceLeDiff, Nat.reduceEqDiff, Nat.reduceAdd, Nat.reduceMul, Int.reduceBEq, Int.reduceEq, Int.reduceNeg, Int.reduceLT, Int.reduceLE, Int.reduceAdd, Int.reduceSub, Int.reduceMul, Int.reduceToNat, Int.reduceGT, Nat.reduceBEq, Nat.reducePow, Nat.reduceGT, reduceCtorEq, ↓reduceIte, t0, t1, t4, t5, t6, loadN_fact gd, hoff]
    refine (data_c _ 1024 (by decide)).mono ?_
    rintro _ ha ⟨ea, rfl, sla⟩
    have s0 := sameO_ext ea hld
    have hpu := rPut_ok (dk.ext ea) (off := k * 1024) (cb := some 1024) sla (by rw [dat_len]; show _ ≤ (List.replicate (pages * 1024) (0 : Int)).length; rw [List.length_replicate]; omega) (by show ws.length < _; omega) (show (-1 : Int) ≤ 9223372036854775807 by decide)
    simp only [dkV] at hpu
    simp -dsimp (disch := first | with_reducible assumption | omega | (intro h_; cases h_; done) | (simp only [LN] <;> omega) | (simp only [LF]; done) | (repeat (first | with_reducible assumption | apply Ext.refl | apply Ext.app | (apply Ext.set <;> omega) | (refine Ext.trans ?_ (by assumption))))) only [AX, TY, AD, mapPut, entsOf, oneV, builtinV, idsOf, mapId, touchB, Nat.reduceLT, Nat.reduceLeDiff, Nat.reduceEqDiff, Nat.reduceAdd, Nat.reduceMul, Int.reduceBEq, Int.reduceEq, Int.reduceNeg, Int.reduceLT, Int.reduceLE, Int.reduceAdd, Int.reduceSub, Int.reduceMul, Int.reduceToNat, Int.reduceGT, Nat.reduceBEq, Nat.reducePow, Nat.reduceGT, reduceCtorEq, ↓reduceIte, t0, t1, t4, t5, t6, s0]
    refine hpu.mono ?_
    rintro _ h5 ⟨e5, D1, e9, _, rfl, ⟨p2, c2, q2, d2, rfl, dk5, dpt5⟩, wo⟩
    have dpt5 := dpt5 _ dpt
    unfold WrO at wo
    rw [if_neg (by simp), if_neg (show ¬ (-1 : Int) = 0 by decide)] at wo
    obtain ⟨rfl, w, hw1, hw2, rfl⟩ := wo
    have hws5 : ∀ i (hi : i < (ws ++ [w]).length), ((ws ++ [w])[i]).off = i * 1024 ∧ ((ws ++ [w])[i]).data = fillB i := fun i hi => by
      rw [List.length_append, List.length_singleton] at hi
      by_cases c : i < ws.length
      · rw [List.getElem_append_left c]; exact hws i c
      · have : i = ws.length := by omega
        subst this
        simp only [List.getElem_append_right (Nat.le_refl _), Nat.sub_self, List.getElem_singleton]
        exact ⟨by rw [hw1, hwl], by rw [hw2]; unfold fillB; rw [hwl]⟩
    have hwl5 : (ws ++ [w]).length = k + 1 := by rw [List.length_append, hwl]; rfl
    have gd5 := e5 _ _ (ea _ _ gd)
    have gz5 := e5 _ _ (ea _ _ gz)
    have hld5 := lt_of_some gd5
    have lea := ea.le
    have u0 := sameO_ext e5 (lt_of_some (ea _ _ gd))
    have u1 := sameO_ext (ea.trans e5) hld
    have hdec : decr (-1) = -1 := by decide
    simp only [hdec] at dk5 dpt5
    have hne2 : ¬ h2.length = h.length := by omega
    obtain ⟨h7, hh7, z7, k7, l7⟩ : ∃ h7, h5.set h2.length (O.cells (dkV ⟨List.replicate (pages * 1024) 0, ws ++ [w], -1, false⟩ p2 c2 q2 d2) .rw) = h7 ∧ h7[h2.length]? = some (O.cells (dkV ⟨List.replicate (pages * 1024) 0, ws ++ [w], -1, false⟩ p2 c2 q2 d2) .rw) ∧ (∀ a, a ≠ h2.length → h7[a]? = h5[a]?) ∧ h7.length = h5.length := ⟨_, rfl, set_same _ hld5, fun a ha => set_other _ (by omega), by simp⟩
    have gz7 := (k7 _ (show h.length ≠ h2.length by omega)).trans gz5
    have e7 : Ext h h7 := Ext.of_keep fun j hj => by rw [k7 j (by omega), ((eh.trans ea).trans e5).same hj]
    have dpt7 : DkPtr ⟨List.replicate (pages * 1024) 0, ws ++ [w], -1, false⟩ p2 q2 (fun a => h.length < a ∧ a ≠ h2.length) := dpt5.imp fun a z => by rcases z with z | z; exact z; exact ⟨by omega, by omega⟩
    have dk7 : RDk h7 ⟨List.replicate (pages * 1024) 0, ws ++ [w], -1, false⟩ p2 c2 q2 d2 := dk5.keep dpt7 fun a ha => k7 a ha.2
    have hh7' := hh7
    simp only [dkV, List.length_append, List.length_singleton] at hh7'
    simp -dsimp (disch := first | with_reducible assumption | omega | (intro h_; cases h_; done) | (simp only [LN] <;> omega) | (simp only [LF]; done) | (repeat (first | with_reducible assumption | apply Ext.refl | apply Ext.app | (apply Ext.set <;> omega) | (refine Ext.trans ?_ (by assumption))))) only [AX, TY, AD, mapPut, entsOf, oneV, builtinV, idsOf, mapId, touchB, Nat.reduceLT, Nat.reduceLeDiff, Nat.reduceEqDiff, Nat.reduceAdd, Nat.reduceMul, Int.reduceBEq, Int.reduceEq, Int.reduceNeg, Int.reduceLT, Int.reduceLE, Int.reduceAdd, Int.reduceSub, Int.reduceMul, Int.reduceToNat, Int.reduceGT, Nat.reduceBEq, Nat.reducePow, Nat.reduceGT, reduceCtorEq, ↓reduceIte, t0, t1, t4, t5, t6, s0, u0, u1, hdec, storeN_fact gd5 (by simp), hh7', wrap_in]
    refine ⟨m - 1, by omega, k + 1, ws ++ [w], p2, c2, q2, d2, ?_⟩
    repeat' (first | assumption | refine And.intro ?_ ?_)
    all_goals first | rfl | omega | (simp; done) | (simp; omega; done) | skip
  have hkp : k = pages := by omega
  have hsy := rSync_ok dk rfl (show (-1 : Int) ≠ 0 by decide) (show (-1 : Int) ≤ 9223372036854775807 by decide) dpt
  simp only [dkV] at hsy
  simp -dsimp (disch := first | with_reducible assumption | omega | (intro h_; cases h_; done) | (simp only [LN] <;> omega) | (simp only [LF]; done) | (repeat (first | with_reducible assumption | apply Ext.refl | apply Ext.app | (apply Ext.set <;> omega) | (refine Ext.trans ?_ (by assumption))))) only [AX, TY, AD, mapPut, entsOf, oneV, builtinV, idsOf, mapId, touchB, Nat.reduceLT, Nat.reduceLeDiff, Nat.reduceEqDiff, Nat.reduceAdd, Nat.reduceMul, Int.reduceBEq, Int.reduceEq, Int.reduceNeg, Int.reduceLT, Int.reduceLE, Int.reduceAdd, Int.reduceSub, Int.reduceMul, Int.reduceToNat, Int.reduceGT, Nat.reduceBEq, Nat.reducePow, Nat.reduceGT, reduceCtorEq, ↓reduceIte, t0, t1, t4, t5, t6, h3, loadN_fact gd]
  refine hsy.mono ?_
  rintro _ h5 ⟨e5, p2, c2, rfl, dk5, pt5⟩
  obtain ⟨hdl, hpgs⟩ := open_pages (l := List.replicate (pages * 1024) 0) (n := pages) (by rw [List.length_replicate]) (by omega) hws
  have hdec : decr (-1) = -1 := by decide
  simp only [hdec] at dk5
  have gd5 := e5 _ _ gd
  have gz5 := e5 _ _ gz
  have hld5 := lt_of_some gd5
  generalize hcu : cur ⟨List.replicate (pages * 1024) 0, ws, -1, false⟩ = du at dk5
  have hcu' : applyAll (List.replicate (pages * 1024) 0) ws = du := hcu
  rw [hcu'] at hdl hpgs
  obtain ⟨h7, hh7, z7, k7, l7⟩ : ∃ h7, h5.set h2.length (O.cells (dkV ⟨du, [], -1, false⟩ p2 c2 none (some 0)) .rw) = h7 ∧ h7[h2.length]? = some (O.cells (dkV ⟨du, [], -1, false⟩ p2 c2 none (some 0)) .rw) ∧ (∀ a, a ≠ h2.length → h7[a]? = h5[a]?) ∧ h7.length = h5.length := ⟨_, rfl, set_same _ hld5, fun a ha => set_other _ (by omega), by simp⟩
  have le5 := e5.le
  have pt5' : DkPtr ⟨du, [], -1, false⟩ p2 none (fun a => h.length < a ∧ a ≠ h2.length) := ⟨fun a o z => by rcases pt5 a o z with w | w; exact w; exact ⟨by omega, by omega⟩, by simp, by simp⟩
  have dk7 : RDk h7 ⟨du, [], -1, false⟩ p2 c2 none (some 0) := dk5.keep pt5' fun a ha => k7 a ha.2
  have gz7 := (k7 _ (show h.length ≠ h2.length by omega)).trans gz5
  have e7 : Ext h h7 := Ext.of_keep fun j hj => by rw [k7 j (by omega), (eh.trans e5).same hj]
  have hnp := rNewP_ok dk7 pages frames h8 pt5'
  have hh7' := hh7
  simp only [dkV, List.length_nil] at hh7' hnp z7
  simp -dsimp (disch := first | with_reducible assumption | omega | (intro h_; cases h_; done) | (simp only [LN] <;> omega) | (simp only [LF]; done) | (repeat (first | with_reducible assumption | apply Ext.refl | apply Ext.app | (apply Ext.set <;> omega) | (refine Ext.trans ?_ (by assumption))))) only [AX, TY, AD, mapPut, entsOf, oneV, builtinV, idsOf, mapId, touchB, Nat.reduceLT, Nat.reduceLeDiff, Nat.reduceEqDiff, Nat.reduceAdd, Nat.reduceMul, Int.reduceBEq, Int.reduceEq, Int.reduceNeg, Int.reduceLT, Int.reduceLE, Int.reduceAdd, Int.reduceSub, Int.reduceMul, Int.reduceToNat, Int.reduceGT, Nat.reduceBEq, Nat.reducePow, Nat.reduceGT, reduceCtorEq, ↓reduceIte, t0, t1, t4, t5, t6, hdec, hcu, List.length_nil, storeN_fact gd5 (by simp), hh7', loadN_fact z7]
  refine hnp.mono ?_
  rintro _ h8 ⟨e8, p9, c9, q9, d9, f9, k9, rfl, rb, pt⟩
  have gz8 := e8 _ _ gz7
  have hl8 := lt_of_some gz8
  have ex : ∀ A : O, Ext h (h8.set h.length A) := fun A => Ext.set (e7.trans e8) (Nat.le_refl _) _
  simp -dsimp (disch := first | with_reducible assumption | omega | (intro h_; cases h_; done) | (simp only [LN] <;> omega) | (simp only [LF]; done) | (repeat (first | with_reducible assumption | apply Ext.refl | apply Ext.app | (apply Ext.set <;> omega) | (refine Ext.trans ?_ (by assumption))))) only [AX, TY, AD, mapPut, entsOf, oneV, builtinV, idsOf, mapId, touchB, Nat.reduceLT, Nat.reduceLeDiff, Nat.reduceEqDiff, Nat.reduceAdd, Nat.reduceMul, Int.reduceBEq, Int.reduceEq, Int.reduceNeg, Int.reduceLT, Int.reduceLE, Int.reduceAdd, Int.reduceSub, Int.reduceMul, Int.reduceToNat, Int.reduceGT, Nat.reduceBEq, Nat.reducePow, Nat.reduceGT, reduceCtorEq, ↓reduceIte, t0, t1, t4, t5, t6, storeN_fact gz8 (by simp)]
  refine ⟨ex _, ⟨du, [], -1, false⟩, ⟨p9, c9, q9, d9, f9, k9, rfl, rb.keep pt fun a ha => set_other _ (by omega), pt.imp fun a ha => by omega⟩, rfl, rfl, rfl, hdl, hpgs⟩
end Go.Proofs.YtmjfhckioaempaaA
namespace Go.Proofs.YtmjfhckioaempaaA
open Go Go.Proofs Go.RowKit
set_option linter.unusedVariables false
set_option linter.unusedSimpArgs false
def erF (f : Fr) : Fr := ⟨f.page, none, none, f.data, f.pins, f.dirty, f.ref⟩
def erW (w : Pw) : Pw := ⟨w.off, none, none, w.data⟩
def erD (D : Dk) : Dk := ⟨D.dur, D.pend.map erW, D.ctr, D.failed⟩
def er (S : Bp) : Bp := ⟨erD S.D, S.pages, S.frames.map erF, S.hand, S.reads⟩
theorem er_mk {D E : Dk} {a b : Nat} {fs gs : List Fr} {x y : Nat} {r s : Int} (h1 : erD D = erD E) (h2 : a = b) (h3 : fs.map erF = gs.map erF) (h4 : x = y) (h5 : r = s) : er ⟨D, a, fs, x, r⟩ = er ⟨E, b, gs, y, s⟩ := by
  unfold er; rw [h1, h2, h3, h4, h5]
theorem er_parts {S M : Bp} (h : er S = er M) : erD S.D = erD M.D ∧ S.pages = M.pages ∧ S.frames.map erF = M.frames.map erF ∧ S.hand = M.hand ∧ S.reads = M.reads := by
  simpa only [er, Bp.mk.injEq] using h
theorem erD_parts {S M : Dk} (h : erD S = erD M) : S.dur = M.dur ∧ S.pend.map erW = M.pend.map erW ∧ S.ctr = M.ctr ∧ S.failed = M.failed := by
  simpa only [erD, Dk.mk.injEq] using h
theorem erD_mk {a b : List Int} {p q : List Pw} {c d : Int} {f g : Bool} (h1 : a = b) (h2 : p.map erW = q.map erW) (h3 : c = d) (h4 : f = g) : erD ⟨a, p, c, f⟩ = erD ⟨b, q, d, g⟩ := by
  unfold erD; simp only; rw [h1, h2, h3, h4]
theorem apply_er (l : List Int) (ws : List Pw) : applyAll l (ws.map erW) = applyAll l ws := by
  induction ws generalizing l with
  | nil => rfl
  | cons w ws ih => rw [List.map_cons, applyAll, applyAll, ih]; rfl
theorem apply_eq {S M : Dk} (h : erD S = erD M) : applyAll S.dur S.pend = applyAll M.dur M.pend := by
  obtain ⟨h1, h2, _, _⟩ := erD_parts h
  rw [← apply_er, h1, h2, apply_er]
theorem fr_at {fs gs : List Fr} (h : fs.map erF = gs.map erF) {i : Nat} (hi : i < fs.length) (hj : i < gs.length) : erF fs[i] = erF gs[i] := by
  have := congrArg (fun l => l[i]?) h
  simpa [hi, hj] using this
theorem fr_len {fs gs : List Fr} (h : fs.map erF = gs.map erF) : fs.length = gs.length := by
  have := congrArg List.length h
  simpa using this
theorem erF_parts {f g : Fr} (h : erF f = erF g) : f.page = g.page ∧ f.data = g.data ∧ f.pins = g.pins ∧ f.dirty = g.dirty ∧ f.ref = g.ref := by
  simpa only [erF, Fr.mk.injEq, true_and] using h
theorem erF_mk {f g : Fr} (h1 : f.page = g.page) (h2 : f.data = g.data) (h3 : f.pins = g.pins) (h4 : f.dirty = g.dirty) (h5 : f.ref = g.ref) : erF f = erF g := by
  unfold erF; rw [h1, h2, h3, h4, h5]
theorem set_er {fs gs : List Fr} (h : fs.map erF = gs.map erF) (i : Nat) {a b : Fr} (hab : erF a = erF b) : (fs.set i a).map erF = (gs.set i b).map erF := by
  rw [List.map_set, List.map_set, h, hab]
theorem find_er (p : Int) (fs : List Fr) : findF p (fs.map erF) = findF p fs := by
  unfold findF
  rw [List.findIdx?_map]
  rfl
theorem find_eq {fs gs : List Fr} (h : fs.map erF = gs.map erF) (p : Int) : findF p fs = findF p gs := by rw [← find_er, h, find_er]
theorem pin_er (p : Int) (fs : List Fr) : pinF p (fs.map erF) = pinF p fs := by
  unfold pinF
  rw [find_er]
  cases findF p fs with
  | none => rfl
  | some i =>
    simp only [List.getElem?_map, Option.map_map]
    rfl
theorem pin_eq {fs gs : List Fr} (h : fs.map erF = gs.map erF) (p : Int) : pinF p fs = pinF p gs := by rw [← pin_er, h, pin_er]
theorem pins_er (fs : List Fr) (j : Nat) : pinsAt (fs.map erF) j = pinsAt fs j := by
  unfold pinsAt
  simp only [List.getElem?_map, Option.map_map]
  rfl
theorem ref_er (fs : List Fr) (j : Nat) : refAt (fs.map erF) j = refAt fs j := by
  unfold refAt
  simp only [List.getElem?_map, Option.map_map]
  rfl
theorem stops_er (fs : List Fr) (hand t : Nat) : stops (fs.map erF) hand t = stops fs hand t := by
  unfold stops
  rw [List.length_map, pins_er, ref_er]
theorem vic_er {fs : List Fr} {hand t : Nat} {cl : List Int} (v : Vic fs hand t cl) : Vic (fs.map erF) hand t cl := by
  refine ⟨by rw [stops_er]; exact v.stop, fun t' h => by rw [stops_er]; exact v.first t' h, fun x => ?_⟩
  rw [v.cleared]
  simp only [List.length_map, pins_er]
theorem vic_one {fs : List Fr} {hand t t2 : Nat} {cl cl2 : List Int} (v : Vic fs hand t cl) (w : Vic fs hand t2 cl2) : t = t2 ∧ ∀ x, x ∈ cl ↔ x ∈ cl2 := by
  have ht : t = t2 := by
    rcases Nat.lt_trichotomy t t2 with q | q | q
    · exact absurd v.stop (w.first t q)
    · exact q
    · exact absurd w.stop (v.first t2 q)
  subst ht
  exact ⟨rfl, fun x => by rw [v.cleared, w.cleared]⟩
theorem clr_er (fs : List Fr) (cl : List Int) : (clrF fs cl).map erF = clrF (fs.map erF) cl := by
  apply List.ext_getElem (by simp [clrF_len])
  intro i h1 h2
  simp only [List.getElem_map]
  have hi : i < fs.length := by simpa [clrF_len] using h1
  rw [clrF_get hi, clrF_get (by simpa using hi)]
  simp only [List.getElem_map]
  split <;> rfl
theorem clr_mem {fs : List Fr} {cl cl2 : List Int} (h : ∀ x, x ∈ cl ↔ x ∈ cl2) : clrF fs cl = clrF fs cl2 := by
  apply List.ext_getElem (by simp [clrF_len])
  intro i h1 h2
  have hi : i < fs.length := by simpa [clrF_len] using h1
  rw [clrF_get hi, clrF_get hi]
  by_cases c : (i : Int) ∈ cl
  · rw [if_pos c, if_pos ((h _).1 c)]
  · rw [if_neg c, if_neg fun z => c ((h _).2 z)]
theorem empty_er (fs : List Fr) : (fs.map erF).findIdx? emptyQ = fs.findIdx? emptyQ := by
  rw [List.findIdx?_map]
  rfl
theorem wr_det {D E D1 E1 : Dk} {off : Nat} {data : List Int} {e e2 : Int} (h : erD D = erD E) (a : WrO D off data D1 e) (b : WrO E off data E1 e2) : erD D1 = erD E1 ∧ e = e2 := by
  obtain ⟨h1, h2, h3, h4⟩ := erD_parts h
  unfold WrO at a b
  rw [← h4] at b
  by_cases c : D.failed = true
  · rw [if_pos c] at a b
    obtain ⟨rfl, rfl⟩ := a
    obtain ⟨rfl, rfl⟩ := b
    exact ⟨h, rfl⟩
  rw [if_neg c] at a b
  rw [← h3] at b
  by_cases c : D.ctr = 0
  · rw [if_pos c] at a b
    obtain ⟨rfl, rfl⟩ := a
    obtain ⟨rfl, rfl⟩ := b
    exact ⟨erD_mk h1 h2 rfl rfl, rfl⟩
  rw [if_neg c] at a b
  obtain ⟨rfl, w, w1, w2, rfl⟩ := a
  obtain ⟨rfl, x, x1, x2, rfl⟩ := b
  refine ⟨erD_mk h1 ?_ rfl rfl, rfl⟩
  rw [List.map_append, List.map_append, h2]
  simp only [List.map_cons, List.map_nil, erW, w1, w2, x1, x2]
theorem wre_det {D E D1 E1 : Dk} {f g : Fr} {e e2 : Int} (h : erD D = erD E) (hfg : erF f = erF g) (a : WroE D f D1 e) (b : WroE E g E1 e2) : erD D1 = erD E1 ∧ e = e2 := by
  obtain ⟨f1, f2, f3, f4, f5⟩ := erF_parts hfg
  unfold WroE at a b
  rw [← f1, ← f4] at b
  split at a
  · rename_i c
    rw [if_pos c] at b
    obtain ⟨o1, p1, a⟩ := a
    obtain ⟨o2, p2, b⟩ := b
    have : o1 = o2 := by omega
    subst this
    rw [← f2] at b
    exact wr_det h a b
  · rename_i c
    rw [if_neg c] at b
    obtain ⟨rfl, rfl⟩ := a
    obtain ⟨rfl, rfl⟩ := b
    exact ⟨h, rfl⟩
theorem fl_det {S' M' : Bp} {e e2 : Int} : ∀ {zs : List Int} {S M : Bp}, er S = er M → FlR zs S S' e → FlR zs M M' e2 → er S' = er M' ∧ e = e2
  | [], S, M, h, a, b => by
    obtain ⟨rfl, rfl⟩ := a
    obtain ⟨rfl, rfl⟩ := b
    exact ⟨h, rfl⟩
  | z :: zs, S, M, h, a, b => by
    obtain ⟨h1, h2, h3, h4, h5⟩ := er_parts h
    obtain ⟨i, hi, off, D1, e1, a1, a2, a3, a4⟩ := a
    obtain ⟨j, hj, off2, E1, e3, b1, b2, b3, b4⟩ := b
    rw [find_eq h3, b1] at a1
    cases a1
    have ho : off = off2 := by omega
    subst ho
    have hf := fr_at h3 hi hj
    obtain ⟨f1, f2, f3, f4, f5⟩ := erF_parts hf
    rw [← f2] at b3
    obtain ⟨d1, rfl⟩ := wr_det h1 a3 b3
    rcases a4 with ⟨q, rfl, rfl⟩ | ⟨q, a4⟩
    · rcases b4 with ⟨_, rfl, rfl⟩ | ⟨q2, _⟩
      · exact ⟨er_mk d1 h2 h3 h4 h5, rfl⟩
      · exact absurd q2 q
    · rcases b4 with ⟨q2, _⟩ | ⟨_, b4⟩
      · exact absurd q q2
      · exact fl_det (er_mk d1 h2 (set_er h3 i (erF_mk (f := { S.frames[i] with dirty := false }) (g := { M.frames[i] with dirty := false }) f1 f2 f3 rfl f5)) h4 h5) a4 b4
theorem cho_det {S M : Bp} {j j2 hand hand2 : Nat} {cl cl2 : List Int} (h : er S = er M) (a : ChO S j hand cl) (b : ChO M j2 hand2 cl2) : j = j2 ∧ hand = hand2 ∧ (clrF S.frames cl).map erF = (clrF M.frames cl2).map erF := by
  obtain ⟨h1, h2, h3, h4, h5⟩ := er_parts h
  have he : S.frames.findIdx? emptyQ = M.frames.findIdx? emptyQ := by rw [← empty_er, h3, empty_er]
  rcases a with ⟨a1, a2, a3⟩ | ⟨a1, t, v, a3, a4⟩
  · rcases b with ⟨b1, b2, b3⟩ | ⟨b1, _⟩
    · rw [he, b1] at a1
      refine ⟨(Option.some.inj a1).symm, by rw [a2, b2, h4], ?_⟩
      rw [a3, b3, clr_er, clr_er, h3]
    · rw [he, b1] at a1; cases a1
  · rcases b with ⟨b1, _⟩ | ⟨b1, t2, w, b3, b4⟩
    · rw [← he, a1] at b1; cases b1
    · have w' := vic_er w
      rw [← h3, ← h4] at w'
      obtain ⟨rfl, hc⟩ := vic_one (vic_er v) w'
      have hl := fr_len h3
      rw [hl, h4] at a3 a4
      exact ⟨by rw [a3, b3], by rw [a4, b4], by rw [clr_er, clr_er, h3, clr_mem hc]⟩
theorem no_pin {T : Bp} {j hand : Nat} {cl : List Int} (hz : ∀ f ∈ T.frames, 0 ≤ f.pins) (ch : ChO T j hand cl) (hj : j < T.frames.length) (hn : T.frames.findIdx? emptyQ = none) (hall : ∀ f ∈ T.frames, f.pins ≠ 0) : False := by
  rcases ch with ⟨q, _⟩ | ⟨_, t, v, q, _⟩
  · rw [hn] at q; cases q
  · have := v.stop.1
    rw [← q] at this
    unfold pinsAt at this
    rw [List.getElem?_eq_getElem hj] at this
    have h0 := hz _ (List.getElem_mem hj)
    exact hall _ (List.getElem_mem hj) (by simp at this; omega)
theorem lo_det {S M S' M' : Bp} {n : Nat} {r r2 : V} {rs rs2 : Option (Option (Nat × Nat) × Option Nat × List Int)} (h : er S = er M) (hz : ∀ f ∈ S.frames, 0 ≤ f.pins) (a : LoO S n r S' rs) (b : LoO M n r2 M' rs2) :
    er S' = er M' ∧ ((rs = none ∧ rs2 = none ∧ r = r2) ∨ ∃ p c d p2 c2, rs = some (p, c, d) ∧ rs2 = some (p2, c2, d)) := by
  obtain ⟨h1, h2, h3, h4, h5⟩ := er_parts h
  have he : S.frames.findIdx? emptyQ = M.frames.findIdx? emptyQ := by rw [← empty_er, h3, empty_er]
  have e1 : ∀ fs : List Fr, (∀ f ∈ fs, f.pins ≠ 0) ↔ ∀ f ∈ fs.map erF, f.pins ≠ 0 := fun fs => by simp [erF]
  have e2 : ∀ fs : List Fr, (∀ f ∈ fs, 0 ≤ f.pins) ↔ ∀ f ∈ fs.map erF, 0 ≤ f.pins := fun fs => by simp [erF]
  have hp : (∀ f ∈ S.frames, f.pins ≠ 0) ↔ ∀ f ∈ M.frames, f.pins ≠ 0 := by rw [e1, e1 M.frames, h3]
  have hz2 : ∀ f ∈ M.frames, 0 ≤ f.pins := by rw [e2, ← h3, ← e2]; exact hz
  rcases a with ⟨a1, a2, rfl, rfl, rfl⟩ | ⟨j, hand, cl, D1, e, ch, hj, we, a⟩
  · rcases b with ⟨b1, b2, rfl, rfl, rfl⟩ | ⟨j2, hand2, cl2, E1, e2, ch2, hj2, we2, b⟩
    · exact ⟨h, .inl ⟨rfl, rfl, rfl⟩⟩
    · exact (no_pin hz2 ch2 hj2 (by rw [← he]; exact a1) (hp.1 a2)).elim
  · rcases b with ⟨b1, b2, rfl, rfl, rfl⟩ | ⟨j2, hand2, cl2, E1, e2, ch2, hj2, we2, b⟩
    · exact (no_pin hz ch hj (by rw [he]; exact b1) (hp.2 b2)).elim
    obtain ⟨rfl, rfl, hcl⟩ := cho_det h ch ch2
    have hf := fr_at h3 hj hj2
    obtain ⟨d1, rfl⟩ := wre_det h1 hf we we2
    obtain ⟨p1, p2, p3, p4⟩ := erD_parts d1
    rcases a with ⟨a1, rfl, rfl, rfl⟩ | ⟨a1, a2, rfl, rfl, rfl⟩ | ⟨a1, a2, p, c, d, a3, rfl, rfl, rfl⟩
    · rcases b with ⟨b1, rfl, rfl, rfl⟩ | ⟨b1, _⟩ | ⟨b1, _⟩
      · exact ⟨er_mk d1 h2 h3 h4 h5, .inl ⟨rfl, rfl, rfl⟩⟩
      · exact absurd b1 a1
      · exact absurd b1 a1
    · rcases b with ⟨b1, _⟩ | ⟨b1, b2, rfl, rfl, rfl⟩ | ⟨b1, b2, _⟩
      · exact absurd a1 b1
      · exact ⟨er_mk d1 h2 h3 h4 h5, .inl ⟨rfl, rfl, rfl⟩⟩
      · rw [p4, b2] at a2; cases a2
    · rcases b with ⟨b1, _⟩ | ⟨b1, b2, _⟩ | ⟨b1, b2, pp, cc, dd, b3, rfl, rfl, rfl⟩
      · exact absurd a1 b1
      · rw [p4, b2] at a2; cases a2
      · have hd : d = dd := by rw [a3, b3, apply_eq d1]
        subst hd
        exact ⟨er_mk d1 h2 (set_er hcl j rfl) rfl (by rw [h5]), .inr ⟨p, c, d, pp, cc, rfl, rfl⟩⟩
theorem pinr_det {S M S' M' : Bp} {page e e2 : Int} {dd dd2 : List Int} (h : er S = er M) (hz : ∀ f ∈ S.frames, 0 ≤ f.pins) (a : PinR S page S' e dd) (b : PinR M page M' e2 dd2) : er S' = er M' ∧ e = e2 ∧ dd = dd2 := by
  obtain ⟨h1, h2, h3, h4, h5⟩ := er_parts h
  have hfe := find_eq h3 page
  rcases a with ⟨a1, rfl, rfl, rfl⟩ | ⟨a1, a2, i, hi, a3, rfl, rfl, rfl⟩ | ⟨n, a1, a2, a3, r, rs, a4, a5⟩
  · rcases b with ⟨b1, rfl, rfl, rfl⟩ | ⟨b1, b2, _⟩ | ⟨m, b1, b2, _⟩
    · exact ⟨h, rfl, rfl⟩
    · exfalso; omega
    · exfalso; omega
  · rcases b with ⟨b1, _⟩ | ⟨b1, b2, j, hj, b3, rfl, rfl, rfl⟩ | ⟨m, b1, b2, b3, _⟩
    · exfalso; omega
    · rw [hfe, b3] at a3
      cases a3
      have hf := fr_at h3 hi hj
      obtain ⟨f1, f2, f3, f4, f5⟩ := erF_parts hf
      exact ⟨er_mk h1 h2 (set_er h3 i (erF_mk (f := { S.frames[i] with pins := (S.frames[i]).pins + 1, ref := true }) (g := { M.frames[i] with pins := (M.frames[i]).pins + 1, ref := true }) f1 f2 (by show (S.frames[i]).pins + 1 = (M.frames[i]).pins + 1; rw [f3]) f4 rfl)) h4 h5, rfl, f2⟩
    · rw [hfe, b3] at a3; cases a3
  · rcases b with ⟨b1, _⟩ | ⟨b1, b2, j, hj, b3, _⟩ | ⟨m, b1, b2, b3, r2, rs2, b4, b5⟩
    · exfalso; omega
    · rw [hfe, b3] at a3; cases a3
    · have : n = m := by omega
      subst this
      obtain ⟨q, w⟩ := lo_det h hz a4 b4
      refine ⟨q, ?_⟩
      rcases w with ⟨rfl, rfl, rfl⟩ | ⟨p, c, d, p2, c2, rfl, rfl⟩
      · rcases a5 with ⟨_, _, rfl, a5⟩ | ⟨_, _, a5, _⟩
        · rcases b5 with ⟨_, _, rfl, b5⟩ | ⟨_, _, b5, _⟩
          · rw [a5] at b5
            simp only [V.tuple.injEq, List.cons.injEq, V.int.injEq, true_and, and_true] at b5
            exact ⟨b5, rfl⟩
          · cases b5
        · cases a5
      · rcases a5 with ⟨a5, _⟩ | ⟨_, _, a5, rfl⟩
        · cases a5
        · rcases b5 with ⟨b5, _⟩ | ⟨_, _, b5, rfl⟩
          · cases b5
          · cases a5; cases b5; exact ⟨rfl, rfl⟩
theorem upr_det {S M S' M' : Bp} {page e e2 : Int} {data : List Int} (h : er S = er M) (a : UpR S page data S' e) (b : UpR M page data M' e2) : er S' = er M' ∧ e = e2 := by
  obtain ⟨h1, h2, h3, h4, h5⟩ := er_parts h
  have hfe := pin_eq h3 page
  rcases a with ⟨a1, rfl, rfl⟩ | ⟨a1, a2, rfl, rfl⟩ | ⟨i, hi, a1, a2, rfl, p, c, rfl⟩
  · rcases b with ⟨b1, rfl, rfl⟩ | ⟨b1, _⟩ | ⟨j, hj, b1, _⟩
    · exact ⟨h, rfl⟩
    · exact absurd b1 a1
    · exact absurd b1 a1
  · rcases b with ⟨b1, _⟩ | ⟨b1, b2, rfl, rfl⟩ | ⟨j, hj, b1, b2, _⟩
    · exact absurd a1 b1
    · exact ⟨h, rfl⟩
    · rw [hfe, b2] at a2; cases a2
  · rcases b with ⟨b1, _⟩ | ⟨b1, b2, _⟩ | ⟨j, hj, b1, b2, rfl, p2, c2, rfl⟩
    · exact absurd a1 b1
    · rw [hfe, b2] at a2; cases a2
    · rw [hfe, b2] at a2
      cases a2
      obtain ⟨f1, f2, f3, f4, f5⟩ := erF_parts (fr_at h3 hi hj)
      exact ⟨er_mk h1 h2 (set_er h3 i (erF_mk f1 rfl f3 rfl f5)) h4 h5, rfl⟩
theorem unr_det {S M S' M' : Bp} {page e e2 : Int} (h : er S = er M) (a : UnR S page S' e) (b : UnR M page M' e2) : er S' = er M' ∧ e = e2 := by
  obtain ⟨h1, h2, h3, h4, h5⟩ := er_parts h
  have hfe := pin_eq h3 page
  rcases a with ⟨a2, rfl, rfl⟩ | ⟨i, hi, a2, rfl, rfl⟩
  · rcases b with ⟨b2, rfl, rfl⟩ | ⟨j, hj, b2, _⟩
    · exact ⟨h, rfl⟩
    · rw [hfe, b2] at a2; cases a2
  · rcases b with ⟨b2, _⟩ | ⟨j, hj, b2, rfl, rfl⟩
    · rw [hfe, b2] at a2; cases a2
    · rw [hfe, b2] at a2
      cases a2
      obtain ⟨f1, f2, f3, f4, f5⟩ := erF_parts (fr_at h3 hi hj)
      exact ⟨er_mk h1 h2 (set_er h3 i (erF_mk (f := { S.frames[i] with pins := (S.frames[i]).pins - 1 }) (g := { M.frames[i] with pins := (M.frames[i]).pins - 1 }) f1 f2 (by show (S.frames[i]).pins - 1 = (M.frames[i]).pins - 1; rw [f3]) f4 f5)) h4 h5, rfl⟩
theorem lst_er {S M : Bp} (h : er S = er M) : lstP Fr.dirty S.frames = lstP Fr.dirty M.frames ∧ lstP (fun _ => true) S.frames = lstP (fun _ => true) M.frames := by
  have key : ∀ (q : Fr → Bool), (∀ f, q (erF f) = q f) → ∀ fs : List Fr, lstP q (fs.map erF) = lstP q fs := fun q hq fs => by
    unfold lstP
    rw [List.filter_map, List.map_map]
    have : (lstQ q ∘ erF) = lstQ q := funext fun f => by show (decide (0 ≤ f.page) && q (erF f)) = _; rw [hq]; rfl
    rw [this]; rfl
  obtain ⟨_, _, h3, _⟩ := er_parts h
  exact ⟨by rw [← key _ (fun _ => rfl), h3, key _ (fun _ => rfl)], by rw [← key _ (fun _ => rfl), h3, key _ (fun _ => rfl)]⟩
/-- A call comes to one thing only, wherever things lie. -/
theorem call_det {S M S' M' : Bp} {c : Cl} {e e2 : Int} {dd dd2 : List Int} (h : er S = er M) (hz : ∀ f ∈ S.frames, 0 ≤ f.pins) (a : CallR S c S' e dd) (b : CallR M c M' e2 dd2) : er S' = er M' ∧ e = e2 ∧ dd = dd2 := by
  obtain ⟨h1, h2, h3, h4, h5⟩ := er_parts h
  unfold CallR at a b
  by_cases c0 : c.kind = 0
  · rw [if_pos c0] at a b
    exact pinr_det h hz a b
  rw [if_neg c0] at a b
  obtain ⟨rfl, a⟩ := a
  obtain ⟨rfl, b⟩ := b
  suffices er S' = er M' ∧ e = e2 from ⟨this.1, this.2, rfl⟩
  by_cases c1 : c.kind = 1
  · rw [if_pos c1] at a b
    exact upr_det h a b
  rw [if_neg c1] at a b
  by_cases c2 : c.kind = 2
  · rw [if_pos c2] at a b
    exact unr_det h a b
  rw [if_neg c2] at a b
  by_cases c3 : c.kind = 3
  · rw [if_pos c3] at a b
    obtain ⟨zs, a1, a2, a3⟩ := a
    obtain ⟨ys, b1, b2, b3⟩ := b
    have : zs = ys := List.Perm.eq_of_pairwise (le := fun x y => x ≤ y) (fun a b _ _ h1 h2 => by omega) a1 b1 (by rw [(lst_er h).1] at a2; exact a2.trans b2.symm)
    subst this
    exact fl_det h a3 b3
  rw [if_neg c3] at a b
  obtain ⟨p1, p2, p3, p4⟩ := erD_parts h1
  by_cases c4 : c.kind = 4
  · rw [if_pos c4] at a b
    obtain ⟨rfl, rfl⟩ := a
    obtain ⟨rfl, rfl⟩ := b
    exact ⟨er_mk (erD_mk p1 p2 rfl p4) h2 h3 h4 h5, rfl⟩
  rw [if_neg c4] at a b
  by_cases c5 : c.kind = 5
  · rw [if_pos c5] at a b
    obtain ⟨rfl, rfl⟩ := a
    obtain ⟨rfl, rfl⟩ := b
    exact ⟨er_mk (erD_mk (apply_eq h1) rfl rfl rfl) h2 h3 h4 h5, rfl⟩
  rw [if_neg c5] at a b
  by_cases c6 : c.kind = 6
  · rw [if_pos c6] at a b
    exact upr_det h a b
  rw [if_neg c6] at a b
  obtain ⟨rfl, rfl⟩ := a
  obtain ⟨rfl, rfl⟩ := b
  exact ⟨h, rfl⟩
end Go.Proofs.YtmjfhckioaempaaA
