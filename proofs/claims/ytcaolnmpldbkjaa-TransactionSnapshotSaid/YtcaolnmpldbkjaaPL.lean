/- Words of this session: chapter 47: few; alike; the order of identifiers, as the reference tells it. Words of this session: chapter 47: the law of snapshots. -/
import Derived.Test.YtcaolnmpldbkjaaPE
namespace Go.Proofs.YtcaolnmpldbkjaaA
open Go Go.Proofs Go.RowKit
set_option linter.unusedVariables false
set_option linter.unusedSimpArgs false
set_option maxRecDepth 10000
set_option maxHeartbeats 4000000
theorem cmp02_ok {h : Heap} (x y : Rid) (hlt : x.a < y.a ∨ x.a = y.a ∧ x.b < y.b) : WR (callE Try.prog hk 10 [.agg x.enc, .agg y.enc] h) fun r h' => Ext h h' ∧ r = .int .i64 (-1) := by
  refine WR.call (hH := rfl) Try.func10 rfl (n := 27) rfl rfl (by simp) ?_
  obtain ⟨g, hg, g1, g2, ex, hl⟩ : ∃ g, h ++ [O.cells x.enc .rw] ++ [O.cells y.enc .rw] = g ∧ g[h.length]? = some (O.cells x.enc .rw) ∧ g[h.length + 1]? = some (O.cells y.enc .rw) ∧ Ext h g ∧ g.length = h.length + 2 := ⟨_, rfl, by simp, by simp, (by (repeat (first | assumption | apply Ext.refl | apply Ext.app | (apply Ext.set <;> omega) | exact Ext.trans (by assumption) (by assumption) | (refine Ext.trans ?_ (by assumption))))), by simp⟩
  have hne : ¬ (x.a = y.a ∧ x.b = y.b) := by omega
  simp only [Rid.enc] at hg g1 g2
  by_cases c : x.a < y.a
  · simp -dsimp (disch := first | with_reducible assumption | omega | (intro h_; cases h_; done) | (simp only [LN] <;> omega) | (simp only [LF]; done) | (repeat (first | with_reducible assumption | apply Ext.refl | apply Ext.app | (apply Ext.set <;> omega) | (refine Ext.trans ?_ (by assumption))))) only [AX, TY, AD, mapPut, entsOf, oneV, builtinV, idsOf, mapId, touchB, Nat.reduceLT, Nat.reduceLeDiff, Nat.reduceEqDiff, Nat.reduceAdd, Nat.reduceMul, Int.reduceBEq, Int.reduceEq, Int.reduceNeg, Int.reduceLT, Int.reduceLE, Int.reduceAdd, Int.reduceSub, Int.reduceMul, Int.reduceToNat, Int.reduceGT, Nat.reduceBEq, Nat.reducePow, Nat.reduceGT, reduceCtorEq, ↓reduceIte, Rid.enc, hg, loadN_fact g1, loadN_fact g2, eqt_31, hne, c]
    exact ex
  · have c1 : x.a = y.a := by omega
    have c2 : x.b < y.b := by omega
    have c3 : ¬ x.b = y.b := by omega
    simp -dsimp (disch := first | with_reducible assumption | omega | (intro h_; cases h_; done) | (simp only [LN] <;> omega) | (simp only [LF]; done) | (repeat (first | with_reducible assumption | apply Ext.refl | apply Ext.app | (apply Ext.set <;> omega) | (refine Ext.trans ?_ (by assumption))))) only [AX, TY, AD, mapPut, entsOf, oneV, builtinV, idsOf, mapId, touchB, Nat.reduceLT, Nat.reduceLeDiff, Nat.reduceEqDiff, Nat.reduceAdd, Nat.reduceMul, Int.reduceBEq, Int.reduceEq, Int.reduceNeg, Int.reduceLT, Int.reduceLE, Int.reduceAdd, Int.reduceSub, Int.reduceMul, Int.reduceToNat, Int.reduceGT, Nat.reduceBEq, Nat.reducePow, Nat.reduceGT, reduceCtorEq, ↓reduceIte, Rid.enc, hg, loadN_fact g1, loadN_fact g2, eqt_31, hne, c, eq_true c1, eq_true c2, c3]
    exact ex
theorem few47_ok {h : Heap} {p q r : Option (Nat × Nat)} {c d e : Option Nat} {ds : List Td} {os : List Oq} {ys : List Ver} (hs : Tds h p ds) (ho : Oqs h q os) (hv : Vers h r ys) :
    WR (callE Try.prog hk 5 [.slice p ds.length c, .slice q os.length d, .slice r ys.length e] h) fun r h' => Ext h h' ∧ ∃ b, r = .bool b ∧ (b = true → ds.length ≤ 4 ∧ os.length ≤ 16 ∧ ys.length ≤ 16 ∧ (∀ d ∈ ds, d.cols.length ≤ 8 ∧ d.keys.length ≤ 8) ∧ (∀ o ∈ os, o.v.vals.length ≤ 10) ∧ ∀ y ∈ ys, y.vals.length ≤ 10) := by
  have hn1 := hs.sl.nil'
  have hn2 := ho.sl.nil'
  have hl1 := hs.sl.small
  have hl2 := ho.sl.small
  refine WR.call (hH := rfl) Try.func5 rfl (n := 58) rfl rfl (by simp) ?_
  by_cases c1 : 4 < (ds.length : Int)
  · simp -dsimp (disch := first | with_reducible assumption | omega | (intro h_; cases h_; done) | (simp only [LN] <;> omega) | (simp only [LF]; done) | (repeat (first | with_reducible assumption | apply Ext.refl | apply Ext.app | (apply Ext.set <;> omega) | (refine Ext.trans ?_ (by assumption))))) only [AX, TY, AD, mapPut, entsOf, oneV, builtinV, idsOf, mapId, touchB, Nat.reduceLT, Nat.reduceLeDiff, Nat.reduceEqDiff, Nat.reduceAdd, Nat.reduceMul, Int.reduceBEq, Int.reduceEq, Int.reduceNeg, Int.reduceLT, Int.reduceLE, Int.reduceAdd, Int.reduceSub, Int.reduceMul, Int.reduceToNat, Int.reduceGT, Nat.reduceBEq, Nat.reducePow, Nat.reduceGT, reduceCtorEq, ↓reduceIte, c1]
    exact ⟨(by (repeat (first | assumption | apply Ext.refl | apply Ext.app | (apply Ext.set <;> omega) | exact Ext.trans (by assumption) (by assumption) | (refine Ext.trans ?_ (by assumption))))), false, rfl, by simp⟩
  by_cases c2 : 16 < (os.length : Int)
  · simp -dsimp (disch := first | with_reducible assumption | omega | (intro h_; cases h_; done) | (simp only [LN] <;> omega) | (simp only [LF]; done) | (repeat (first | with_reducible assumption | apply Ext.refl | apply Ext.app | (apply Ext.set <;> omega) | (refine Ext.trans ?_ (by assumption))))) only [AX, TY, AD, mapPut, entsOf, oneV, builtinV, idsOf, mapId, touchB, Nat.reduceLT, Nat.reduceLeDiff, Nat.reduceEqDiff, Nat.reduceAdd, Nat.reduceMul, Int.reduceBEq, Int.reduceEq, Int.reduceNeg, Int.reduceLT, Int.reduceLE, Int.reduceAdd, Int.reduceSub, Int.reduceMul, Int.reduceToNat, Int.reduceGT, Nat.reduceBEq, Nat.reducePow, Nat.reduceGT, reduceCtorEq, ↓reduceIte, c1, c2]
    exact ⟨(by (repeat (first | assumption | apply Ext.refl | apply Ext.app | (apply Ext.set <;> omega) | exact Ext.trans (by assumption) (by assumption) | (refine Ext.trans ?_ (by assumption))))), false, rfl, by simp⟩
  simp -dsimp (disch := first | with_reducible assumption | omega | (intro h_; cases h_; done) | (simp only [LN] <;> omega) | (simp only [LF]; done) | (repeat (first | with_reducible assumption | apply Ext.refl | apply Ext.app | (apply Ext.set <;> omega) | (refine Ext.trans ?_ (by assumption))))) only [AX, TY, AD, mapPut, entsOf, oneV, builtinV, idsOf, mapId, touchB, Nat.reduceLT, Nat.reduceLeDiff, Nat.reduceEqDiff, Nat.reduceAdd, Nat.reduceMul, Int.reduceBEq, Int.reduceEq, Int.reduceNeg, Int.reduceLT, Int.reduceLE, Int.reduceAdd, Int.reduceSub, Int.reduceMul, Int.reduceToNat, Int.reduceGT, Nat.reduceBEq, Nat.reducePow, Nat.reduceGT, reduceCtorEq, ↓reduceIte, c1, c2]
  refine (few_ok hv 16).mono ?_
  rintro _ _ ⟨rfl, b, rfl, hb⟩
  cases b
  · simp -dsimp (disch := first | with_reducible assumption | omega | (intro h_; cases h_; done) | (simp only [LN] <;> omega) | (simp only [LF]; done) | (repeat (first | with_reducible assumption | apply Ext.refl | apply Ext.app | (apply Ext.set <;> omega) | (refine Ext.trans ?_ (by assumption))))) only [AX, TY, AD, mapPut, entsOf, oneV, builtinV, idsOf, mapId, touchB, Nat.reduceLT, Nat.reduceLeDiff, Nat.reduceEqDiff, Nat.reduceAdd, Nat.reduceMul, Int.reduceBEq, Int.reduceEq, Int.reduceNeg, Int.reduceLT, Int.reduceLE, Int.reduceAdd, Int.reduceSub, Int.reduceMul, Int.reduceToNat, Int.reduceGT, Nat.reduceBEq, Nat.reducePow, Nat.reduceGT, reduceCtorEq, ↓reduceIte]
    exact ⟨(by (repeat (first | assumption | apply Ext.refl | apply Ext.app | (apply Ext.set <;> omega) | exact Ext.trans (by assumption) (by assumption) | (refine Ext.trans ?_ (by assumption))))), false, rfl, by simp⟩
  obtain ⟨hb1, hb2⟩ := hb rfl
  simp -dsimp (disch := first | with_reducible assumption | omega | (intro h_; cases h_; done) | (simp only [LN] <;> omega) | (simp only [LF]; done) | (repeat (first | with_reducible assumption | apply Ext.refl | apply Ext.app | (apply Ext.set <;> omega) | (refine Ext.trans ?_ (by assumption))))) only [AX, TY, AD, mapPut, entsOf, oneV, builtinV, idsOf, mapId, touchB, Nat.reduceLT, Nat.reduceLeDiff, Nat.reduceEqDiff, Nat.reduceAdd, Nat.reduceMul, Int.reduceBEq, Int.reduceEq, Int.reduceNeg, Int.reduceLT, Int.reduceLE, Int.reduceAdd, Int.reduceSub, Int.reduceMul, Int.reduceToNat, Int.reduceGT, Nat.reduceBEq, Nat.reducePow, Nat.reduceGT, reduceCtorEq, ↓reduceIte]
  refine W.loop (fun m τ hh => h = hh ∧ ∃ i : Nat, m + i = ds.length ∧ τ 0 = .slice p ds.length c ∧ τ 1 = .slice q os.length d ∧ τ 7 = .int .i64 i ∧ ∀ x ∈ ds.take i, x.cols.length ≤ 8 ∧ x.keys.length ≤ 8) ?_ (m := ds.length) ?_
  rotate_left
  · exact ⟨rfl, 0, by simp, rfl, rfl, rfl, by simp⟩
  rintro m τ _ ⟨rfl, i, hm, t0, t1, t7, hall⟩
  by_cases h1 : (i : Int) < (ds.length : Int)
  · have hi : i < ds.length := by omega
    have htk := List.take_succ_eq_append_getElem hi
    have hla2 := hs.sl.load (.refl _) hi (o := 2) (m := 1) (by decide)
    have hla3 := hs.sl.load (.refl _) hi (o := 3) (m := 1) (by decide)
    generalize hx : ds[i] = x at htk hla2 hla3
    have f2 : ((x.enc).drop 2).take 1 = [.slice x.cp x.cols.length x.cc] := rfl
    have f3 : ((x.enc).drop 3).take 1 = [.slice x.kp x.keys.length x.kc] := rfl
    rw [f2] at hla2
    rw [f3] at hla3
    by_cases h2 : 8 < (x.cols.length : Int)
    · simp -dsimp (disch := first | with_reducible assumption | omega | (intro h_; cases h_; done) | (simp only [LN] <;> omega) | (simp only [LF]; done) | (repeat (first | with_reducible assumption | apply Ext.refl | apply Ext.app | (apply Ext.set <;> omega) | (refine Ext.trans ?_ (by assumption))))) only [AX, TY, AD, mapPut, entsOf, oneV, builtinV, idsOf, mapId, touchB, Nat.reduceLT, Nat.reduceLeDiff, Nat.reduceEqDiff, Nat.reduceAdd, Nat.reduceMul, Int.reduceBEq, Int.reduceEq, Int.reduceNeg, Int.reduceLT, Int.reduceLE, Int.reduceAdd, Int.reduceSub, Int.reduceMul, Int.reduceToNat, Int.reduceGT, Nat.reduceBEq, Nat.reducePow, Nat.reduceGT, reduceCtorEq, ↓reduceIte, t0, t1, t7, h1, hla2, hla3, h2]
      exact ⟨(by (repeat (first | assumption | apply Ext.refl | apply Ext.app | (apply Ext.set <;> omega) | exact Ext.trans (by assumption) (by assumption) | (refine Ext.trans ?_ (by assumption))))), false, rfl, by simp⟩
    by_cases h3 : 8 < (x.keys.length : Int)
    · simp -dsimp (disch := first | with_reducible assumption | omega | (intro h_; cases h_; done) | (simp only [LN] <;> omega) | (simp only [LF]; done) | (repeat (first | with_reducible assumption | apply Ext.refl | apply Ext.app | (apply Ext.set <;> omega) | (refine Ext.trans ?_ (by assumption))))) only [AX, TY, AD, mapPut, entsOf, oneV, builtinV, idsOf, mapId, touchB, Nat.reduceLT, Nat.reduceLeDiff, Nat.reduceEqDiff, Nat.reduceAdd, Nat.reduceMul, Int.reduceBEq, Int.reduceEq, Int.reduceNeg, Int.reduceLT, Int.reduceLE, Int.reduceAdd, Int.reduceSub, Int.reduceMul, Int.reduceToNat, Int.reduceGT, Nat.reduceBEq, Nat.reducePow, Nat.reduceGT, reduceCtorEq, ↓reduceIte, t0, t1, t7, h1, hla2, hla3, h2, h3]
      exact ⟨(by (repeat (first | assumption | apply Ext.refl | apply Ext.app | (apply Ext.set <;> omega) | exact Ext.trans (by assumption) (by assumption) | (refine Ext.trans ?_ (by assumption))))), false, rfl, by simp⟩
    have hall' : ∀ y ∈ ds.take (i + 1), y.cols.length ≤ 8 ∧ y.keys.length ≤ 8 := fun y hy => by
      rw [htk] at hy
      rcases List.mem_append.1 hy with hy | hy
      · exact hall y hy
      · rw [List.mem_singleton] at hy; subst hy; omega
    simp -dsimp (disch := first | with_reducible assumption | omega | (intro h_; cases h_; done) | (simp only [LN] <;> omega) | (simp only [LF]; done) | (repeat (first | with_reducible assumption | apply Ext.refl | apply Ext.app | (apply Ext.set <;> omega) | (refine Ext.trans ?_ (by assumption))))) only [AX, TY, AD, mapPut, entsOf, oneV, builtinV, idsOf, mapId, touchB, Nat.reduceLT, Nat.reduceLeDiff, Nat.reduceEqDiff, Nat.reduceAdd, Nat.reduceMul, Int.reduceBEq, Int.reduceEq, Int.reduceNeg, Int.reduceLT, Int.reduceLE, Int.reduceAdd, Int.reduceSub, Int.reduceMul, Int.reduceToNat, Int.reduceGT, Nat.reduceBEq, Nat.reducePow, Nat.reduceGT, reduceCtorEq, ↓reduceIte, t0, t1, t7, h1, hla2, hla3, h2, h3, wrap_in]
    refine ⟨m - 1, by omega, i + 1, ?_⟩
    repeat' (first | assumption | refine And.intro ?_ ?_)
    all_goals first | rfl | omega | (simp; done) | (simp; omega; done) | skip
  rw [List.take_of_length_le (by omega)] at hall
  simp -dsimp (disch := first | with_reducible assumption | omega | (intro h_; cases h_; done) | (simp only [LN] <;> omega) | (simp only [LF]; done) | (repeat (first | with_reducible assumption | apply Ext.refl | apply Ext.app | (apply Ext.set <;> omega) | (refine Ext.trans ?_ (by assumption))))) only [AX, TY, AD, mapPut, entsOf, oneV, builtinV, idsOf, mapId, touchB, Nat.reduceLT, Nat.reduceLeDiff, Nat.reduceEqDiff, Nat.reduceAdd, Nat.reduceMul, Int.reduceBEq, Int.reduceEq, Int.reduceNeg, Int.reduceLT, Int.reduceLE, Int.reduceAdd, Int.reduceSub, Int.reduceMul, Int.reduceToNat, Int.reduceGT, Nat.reduceBEq, Nat.reducePow, Nat.reduceGT, reduceCtorEq, ↓reduceIte, t0, t1, t7, h1]
  refine W.loop (fun m τ hh => Ext h hh ∧ ∃ i : Nat, m + i = os.length ∧ τ 1 = .slice q os.length d ∧ τ 8 = .int .i64 i ∧ ∀ x ∈ os.take i, x.v.vals.length ≤ 10) ?_ (m := os.length) ?_
  rotate_left
  · refine ⟨(by (repeat (first | assumption | apply Ext.refl | apply Ext.app | (apply Ext.set <;> omega) | exact Ext.trans (by assumption) (by assumption) | (refine Ext.trans ?_ (by assumption))))), 0, by simp, ?_⟩
    simp -dsimp (disch := first | with_reducible assumption | omega | (intro h_; cases h_; done) | (simp only [LN] <;> omega) | (simp only [LF]; done) | (repeat (first | with_reducible assumption | apply Ext.refl | apply Ext.app | (apply Ext.set <;> omega) | (refine Ext.trans ?_ (by assumption))))) only [AX, TY, AD, mapPut, entsOf, oneV, builtinV, idsOf, mapId, touchB, Nat.reduceLT, Nat.reduceLeDiff, Nat.reduceEqDiff, Nat.reduceAdd, Nat.reduceMul, Int.reduceBEq, Int.reduceEq, Int.reduceNeg, Int.reduceLT, Int.reduceLE, Int.reduceAdd, Int.reduceSub, Int.reduceMul, Int.reduceToNat, Int.reduceGT, Nat.reduceBEq, Nat.reducePow, Nat.reduceGT, reduceCtorEq, ↓reduceIte, t0, t1, t7]
    repeat' (first | assumption | refine And.intro ?_ ?_)
    all_goals first | rfl | omega | (simp; done) | (simp; omega; done) | skip
  rintro m2 τ2 hh ⟨e2, j, hm2, u1, u8, hall2⟩
  by_cases h1 : (j : Int) < (os.length : Int)
  rotate_left
  · rw [List.take_of_length_le (by omega)] at hall2
    simp -dsimp (disch := first | with_reducible assumption | omega | (intro h_; cases h_; done) | (simp only [LN] <;> omega) | (simp only [LF]; done) | (repeat (first | with_reducible assumption | apply Ext.refl | apply Ext.app | (apply Ext.set <;> omega) | (refine Ext.trans ?_ (by assumption))))) only [AX, TY, AD, mapPut, entsOf, oneV, builtinV, idsOf, mapId, touchB, Nat.reduceLT, Nat.reduceLeDiff, Nat.reduceEqDiff, Nat.reduceAdd, Nat.reduceMul, Int.reduceBEq, Int.reduceEq, Int.reduceNeg, Int.reduceLT, Int.reduceLE, Int.reduceAdd, Int.reduceSub, Int.reduceMul, Int.reduceToNat, Int.reduceGT, Nat.reduceBEq, Nat.reducePow, Nat.reduceGT, reduceCtorEq, ↓reduceIte, u1, u8, h1]
    exact ⟨e2, true, rfl, fun _ => ⟨by omega, by omega, by omega, hall, hall2, hb2⟩⟩
  have hj : j < os.length := by omega
  have htk := List.take_succ_eq_append_getElem hj
  have hla := ho.sl.load e2 hj (o := 1) (m := 5) (by decide)
  have hvk := ho.ok _ (List.getElem_mem hj)
  generalize hx : os[j] = x at htk hla hvk
  have f2 : ((x.enc).drop 1).take 5 = x.v.enc := rfl
  rw [f2] at hla
  obtain ⟨g, hg, gx, ex, hgl⟩ : ∃ g, hh ++ [O.cells x.v.enc .rw] = g ∧ g[hh.length]? = some (O.cells x.v.enc .rw) ∧ Ext hh g ∧ g.length = hh.length + 1 := ⟨_, rfl, by simp, (by (repeat (first | assumption | apply Ext.refl | apply Ext.app | (apply Ext.set <;> omega) | exact Ext.trans (by assumption) (by assumption) | (refine Ext.trans ?_ (by assumption))))), by simp⟩
  have hfew := few_ok (h := g) (p := some (hh.length, 0)) (c := some 1) (ys := [x.v]) ⟨Sl.whole gx (fun y hy => by rw [List.mem_singleton] at hy; subst hy; rfl) (by simp) (by simp), fun y hy => by rw [List.mem_singleton] at hy; subst hy; exact Sl.ext hvk (e2.trans ex)⟩ 1
  simp only [Ver.enc] at hla hg gx
  simp only [List.length_cons, List.length_nil, Nat.zero_add] at hfew
  simp -dsimp (disch := first | with_reducible assumption | omega | (intro h_; cases h_; done) | (simp only [LN] <;> omega) | (simp only [LF]; done) | (repeat (first | with_reducible assumption | apply Ext.refl | apply Ext.app | (apply Ext.set <;> omega) | (refine Ext.trans ?_ (by assumption))))) only [AX, TY, AD, mapPut, entsOf, oneV, builtinV, idsOf, mapId, touchB, Nat.reduceLT, Nat.reduceLeDiff, Nat.reduceEqDiff, Nat.reduceAdd, Nat.reduceMul, Int.reduceBEq, Int.reduceEq, Int.reduceNeg, Int.reduceLT, Int.reduceLE, Int.reduceAdd, Int.reduceSub, Int.reduceMul, Int.reduceToNat, Int.reduceGT, Nat.reduceBEq, Nat.reducePow, Nat.reduceGT, reduceCtorEq, ↓reduceIte, u1, u8, h1, hla, hg]
  refine hfew.mono ?_
  rintro _ _ ⟨rfl, b, rfl, hb⟩
  cases b
  · simp -dsimp (disch := first | with_reducible assumption | omega | (intro h_; cases h_; done) | (simp only [LN] <;> omega) | (simp only [LF]; done) | (repeat (first | with_reducible assumption | apply Ext.refl | apply Ext.app | (apply Ext.set <;> omega) | (refine Ext.trans ?_ (by assumption))))) only [AX, TY, AD, mapPut, entsOf, oneV, builtinV, idsOf, mapId, touchB, Nat.reduceLT, Nat.reduceLeDiff, Nat.reduceEqDiff, Nat.reduceAdd, Nat.reduceMul, Int.reduceBEq, Int.reduceEq, Int.reduceNeg, Int.reduceLT, Int.reduceLE, Int.reduceAdd, Int.reduceSub, Int.reduceMul, Int.reduceToNat, Int.reduceGT, Nat.reduceBEq, Nat.reducePow, Nat.reduceGT, reduceCtorEq, ↓reduceIte]
    exact ⟨e2.trans ex, false, rfl, by simp⟩
  have hbb := (hb rfl).2 x.v (by simp)
  have hall' : ∀ y ∈ os.take (j + 1), y.v.vals.length ≤ 10 := fun y hy => by
    rw [htk] at hy
    rcases List.mem_append.1 hy with hy | hy
    · exact hall2 y hy
    · rw [List.mem_singleton] at hy; subst hy; exact hbb
  simp -dsimp (disch := first | with_reducible assumption | omega | (intro h_; cases h_; done) | (simp only [LN] <;> omega) | (simp only [LF]; done) | (repeat (first | with_reducible assumption | apply Ext.refl | apply Ext.app | (apply Ext.set <;> omega) | (refine Ext.trans ?_ (by assumption))))) only [AX, TY, AD, mapPut, entsOf, oneV, builtinV, idsOf, mapId, touchB, Nat.reduceLT, Nat.reduceLeDiff, Nat.reduceEqDiff, Nat.reduceAdd, Nat.reduceMul, Int.reduceBEq, Int.reduceEq, Int.reduceNeg, Int.reduceLT, Int.reduceLE, Int.reduceAdd, Int.reduceSub, Int.reduceMul, Int.reduceToNat, Int.reduceGT, Nat.reduceBEq, Nat.reducePow, Nat.reduceGT, reduceCtorEq, ↓reduceIte, u1, u8, wrap_in]
  refine ⟨m2 - 1, by omega, e2.trans ex, j + 1, ?_⟩
  repeat' (first | assumption | refine And.intro ?_ ?_)
  all_goals first | rfl | omega | (simp; done) | (simp; omega; done) | skip
/-- Two lists of the same rows, but for their ends. -/
theorem alike_ok {h : Heap} {p q : Option (Nat × Nat)} {c d : Option Nat} {xs ys : List Ver} (hx : Vers h p xs) (hy : Vers h q ys) (he : xs.map (fun z => z.key.nod) = ys.map fun z => z.key.nod) :
    WR (callE Try.prog hk 8 [.slice p xs.length c, .slice q ys.length d] h) fun r h' => Ext h h' ∧ r = .bool true := by
  have hl : xs.length = ys.length := by have := congrArg List.length he; simpa using this
  have hn1 := hx.sl.nil'
  have hn2 := hy.sl.nil'
  have hl1 := hx.sl.small
  have hl2 := hy.sl.small
  refine WR.call (hH := rfl) Try.func8 rfl (n := 33) rfl rfl (by simp) ?_
  rw [← hl] at hn2 hl2 ⊢
  simp -dsimp (disch := first | with_reducible assumption | omega | (intro h_; cases h_; done) | (simp only [LN] <;> omega) | (simp only [LF]; done) | (repeat (first | with_reducible assumption | apply Ext.refl | apply Ext.app | (apply Ext.set <;> omega) | (refine Ext.trans ?_ (by assumption))))) only [AX, TY, AD, mapPut, entsOf, oneV, builtinV, idsOf, mapId, touchB, Nat.reduceLT, Nat.reduceLeDiff, Nat.reduceEqDiff, Nat.reduceAdd, Nat.reduceMul, Int.reduceBEq, Int.reduceEq, Int.reduceNeg, Int.reduceLT, Int.reduceLE, Int.reduceAdd, Int.reduceSub, Int.reduceMul, Int.reduceToNat, Int.reduceGT, Nat.reduceBEq, Nat.reducePow, Nat.reduceGT, reduceCtorEq, ↓reduceIte]
  refine W.loop (fun m τ hh => Ext h hh ∧ ∃ i : Nat, m + i = xs.length ∧ τ 0 = .slice p xs.length c ∧ τ 1 = .slice q xs.length d ∧ τ 5 = .int .i64 i) ?_ (m := xs.length) ?_
  rotate_left
  · refine ⟨(by (repeat (first | assumption | apply Ext.refl | apply Ext.app | (apply Ext.set <;> omega) | exact Ext.trans (by assumption) (by assumption) | (refine Ext.trans ?_ (by assumption))))), 0, by simp, rfl, rfl, rfl⟩
  rintro m τ hh ⟨e, i, hm, t0, t1, t5⟩
  by_cases h1 : (i : Int) < (xs.length : Int)
  rotate_left
  · simp -dsimp (disch := first | with_reducible assumption | omega | (intro h_; cases h_; done) | (simp only [LN] <;> omega) | (simp only [LF]; done) | (repeat (first | with_reducible assumption | apply Ext.refl | apply Ext.app | (apply Ext.set <;> omega) | (refine Ext.trans ?_ (by assumption))))) only [AX, TY, AD, mapPut, entsOf, oneV, builtinV, idsOf, mapId, touchB, Nat.reduceLT, Nat.reduceLeDiff, Nat.reduceEqDiff, Nat.reduceAdd, Nat.reduceMul, Int.reduceBEq, Int.reduceEq, Int.reduceNeg, Int.reduceLT, Int.reduceLE, Int.reduceAdd, Int.reduceSub, Int.reduceMul, Int.reduceToNat, Int.reduceGT, Nat.reduceBEq, Nat.reducePow, Nat.reduceGT, reduceCtorEq, ↓reduceIte, t0, t1, t5, h1]
    exact e
  have hi : i < xs.length := by omega
  have hi2 : i < ys.length := by omega
  have hla := hx.sl.load0 e hi (m := 5) (by decide)
  have hlb := hy.sl.load0 e hi2 (m := 5) (by decide)
  have tk : ∀ x : Ver, x.enc.take 5 = x.enc := fun _ => rfl
  rw [tk] at hla hlb
  have hkx := hx.ok _ (List.getElem_mem hi)
  have hky := hy.ok _ (List.getElem_mem hi2)
  have hke : (xs[i]).key.nod = (ys[i]).key.nod := by
    have h1 : (xs.map fun z => z.key.nod)[i]? = (ys.map fun z => z.key.nod)[i]? := by rw [he]
    rw [List.getElem?_map, List.getElem?_map, List.getElem?_eq_getElem hi, List.getElem?_eq_getElem hi2] at h1
    exact Option.some.inj h1
  generalize hxx : xs[i] = x at hla hkx hke
  generalize hyy : ys[i] = y at hlb hky hke
  simp only [Ver.enc] at hla hlb
  simp -dsimp (disch := first | with_reducible assumption | omega | (intro h_; cases h_; done) | (simp only [LN] <;> omega) | (simp only [LF]; done) | (repeat (first | with_reducible assumption | apply Ext.refl | apply Ext.app | (apply Ext.set <;> omega) | (refine Ext.trans ?_ (by assumption))))) only [AX, TY, AD, mapPut, entsOf, oneV, builtinV, idsOf, mapId, touchB, Nat.reduceLT, Nat.reduceLeDiff, Nat.reduceEqDiff, Nat.reduceAdd, Nat.reduceMul, Int.reduceBEq, Int.reduceEq, Int.reduceNeg, Int.reduceLT, Int.reduceLE, Int.reduceAdd, Int.reduceSub, Int.reduceMul, Int.reduceToNat, Int.reduceGT, Nat.reduceBEq, Nat.reducePow, Nat.reduceGT, reduceCtorEq, ↓reduceIte, t0, t1, t5, h1, hla, hlb]
  refine W.drawn [(0, []), (1, [0]), (2, []), (3, []), (4, [3, 2, 1, 0]), (5, [4, 3, 2, 1, 0]), (6, [3, 2, 1, 0]), (7, [3, 2, 1, 0]), (8, [7, 6, 5, 4, 3, 2, 1, 0]), (9, [8, 7, 6, 5, 4, 3, 2, 1, 0]), (10, [7, 6, 5, 4]), (11, [])] (by decide +kernel) ?_
  obtain ⟨g, hg, g1, g2, ex, hgl⟩ : ∃ g, hh ++ [O.cells x.enc .rw] ++ [O.cells y.enc .rw] = g ∧ g[hh.length]? = some (O.cells x.enc .rw) ∧ g[hh.length + 1]? = some (O.cells y.enc .rw) ∧ Ext hh g ∧ g.length = hh.length + 2 := ⟨_, rfl, by simp, by simp, (by (repeat (first | assumption | apply Ext.refl | apply Ext.app | (apply Ext.set <;> omega) | exact Ext.trans (by assumption) (by assumption) | (refine Ext.trans ?_ (by assumption))))), by simp⟩
  simp only [Ver.enc] at hg g1 g2
  have le := e.le
  have nsq : ∀ (l : Option (Nat × Nat)) (zs : List Ver), Vers h l zs → i < zs.length → (hh.length == sid l) = false ∧ (hh.length + 1 == sid l) = false := fun l zs s z => by
    cases l with
    | none => have := s.sl.nil' rfl; omega
    | some a =>
      obtain ⟨a, b⟩ := a
      have : a < h.length := s.sl.lt rfl
      have e1 : hh.length ≠ a := by omega
      have e2 : hh.length + 1 ≠ a := by omega
      exact ⟨by simpa [sid] using e1, by simpa [sid] using e2⟩
  obtain ⟨n1, n2⟩ := nsq p xs hx hi
  obtain ⟨n3, n4⟩ := nsq q ys hy hi2
  obtain ⟨h2, hh2, a1, kp2, l2⟩ : ∃ h2, g.set hh.length (.cells (Ver.enc ⟨x.a, x.b, x.p, x.c, x.vals, x.cr, 0⟩) .rw) = h2 ∧ h2[hh.length]? = some (.cells (Ver.enc ⟨x.a, x.b, x.p, x.c, x.vals, x.cr, 0⟩) .rw) ∧ (∀ a, a ≠ hh.length → h2[a]? = g[a]?) ∧ h2.length = g.length := ⟨_, rfl, set_same _ (by omega), fun a ha => set_other _ ha, by simp⟩
  have a2 := (kp2 (hh.length + 1) (by omega)).trans g2
  obtain ⟨h3, hh3, b2, kp3, l3⟩ : ∃ h3, h2.set (hh.length + 1) (.cells (Ver.enc ⟨y.a, y.b, y.p, y.c, y.vals, y.cr, 0⟩) .rw) = h3 ∧ h3[hh.length + 1]? = some (.cells (Ver.enc ⟨y.a, y.b, y.p, y.c, y.vals, y.cr, 0⟩) .rw) ∧ (∀ a, a ≠ hh.length + 1 → h3[a]? = h2[a]?) ∧ h3.length = h2.length := ⟨_, rfl, set_same _ (by omega), fun a ha => set_other _ ha, by simp⟩
  have b1 := (kp3 hh.length (by omega)).trans a1
  have ex3 : Ext hh h3 := Ext.of_keep fun a ha => by rw [kp3 a (by omega), kp2 a (by omega)]; exact ex.same ha
  have hver := version_ok (x := ⟨x.a, x.b, x.p, x.c, x.vals, x.cr, 0⟩) (y := ⟨y.a, y.b, y.p, y.c, y.vals, y.cr, 0⟩) (Sl.ext hkx (e.trans ex3)) (Sl.ext hky (e.trans ex3))
  simp only [Ver.enc] at hh2 a1 hh3 b1 b2 hver
  simp -dsimp (disch := first | with_reducible assumption | omega | (intro h_; cases h_; done) | (simp only [LN] <;> omega) | (simp only [LF]; done) | (repeat (first | with_reducible assumption | apply Ext.refl | apply Ext.app | (apply Ext.set <;> omega) | (refine Ext.trans ?_ (by assumption))))) only [AX, TY, AD, mapPut, entsOf, oneV, builtinV, idsOf, mapId, touchB, Nat.reduceLT, Nat.reduceLeDiff, Nat.reduceEqDiff, Nat.reduceAdd, Nat.reduceMul, Int.reduceBEq, Int.reduceEq, Int.reduceNeg, Int.reduceLT, Int.reduceLE, Int.reduceAdd, Int.reduceSub, Int.reduceMul, Int.reduceToNat, Int.reduceGT, Nat.reduceBEq, Nat.reducePow, Nat.reduceGT, reduceCtorEq, ↓reduceIte, t0, t1, t5, h1, hla, hlb, hg, n1, n2, n3, n4, storeN_fact g1 (by simp), hh2, storeN_fact a2 (by simp), hh3, loadN_fact b1, loadN_fact b2]
  refine hver.mono ?_
  rintro _ h4 ⟨e4, b, rfl, hb⟩
  have hbt : b = true := hb.2 hke
  subst hbt
  simp -dsimp (disch := first | with_reducible assumption | omega | (intro h_; cases h_; done) | (simp only [LN] <;> omega) | (simp only [LF]; done) | (repeat (first | with_reducible assumption | apply Ext.refl | apply Ext.app | (apply Ext.set <;> omega) | (refine Ext.trans ?_ (by assumption))))) only [AX, TY, AD, mapPut, entsOf, oneV, builtinV, idsOf, mapId, touchB, Nat.reduceLT, Nat.reduceLeDiff, Nat.reduceEqDiff, Nat.reduceAdd, Nat.reduceMul, Int.reduceBEq, Int.reduceEq, Int.reduceNeg, Int.reduceLT, Int.reduceLE, Int.reduceAdd, Int.reduceSub, Int.reduceMul, Int.reduceToNat, Int.reduceGT, Nat.reduceBEq, Nat.reducePow, Nat.reduceGT, reduceCtorEq, ↓reduceIte, t0, t1, t5, wrap_in]
  refine ⟨m - 1, by omega, e.trans (ex3.trans e4), i + 1, ?_⟩
  repeat' (first | assumption | refine And.intro ?_ ?_)
  all_goals first | rfl | omega | (simp; done) | (simp; omega; done) | skip
end Go.Proofs.YtcaolnmpldbkjaaA
namespace Go.Proofs.YtcaolnmpldbkjaaA
open Go Go.Proofs Go.RowKit
set_option linter.unusedVariables false
set_option linter.unusedSimpArgs false
set_option maxRecDepth 10000
set_option maxHeartbeats 4000000
theorem snap_ok {h : Heap} {p q r : Option (Nat × Nat)} {c d ce : Option Nat} {ds : List Td} {os : List Oq} {ys : List Ver} (hs : Tds h p ds) (ho : Oqs h q os) (hv : Vers h r ys) (snap table : Int) :
    WR (callE Try.prog hk 3 [.int .i64 snap, .slice p ds.length c, .slice q os.length d, .slice r ys.length ce, .int .i64 table] h) fun r h' => r = .bool true := by
  have hn0 := hv.sl.nil'
  have hl0 := hv.sl.small
  refine WR.call (hH := rfl) Try.func3 rfl (n := 141) rfl rfl (by simp) ?_
  simp -dsimp (disch := first | with_reducible assumption | omega | (intro h_; cases h_; done) | (simp only [LN] <;> omega) | (simp only [LF]; done) | (repeat (first | with_reducible assumption | apply Ext.refl | apply Ext.app | (apply Ext.set <;> omega) | (refine Ext.trans ?_ (by assumption))))) only [AX, TY, AD, mapPut, entsOf, oneV, builtinV, idsOf, mapId, touchB, Nat.reduceLT, Nat.reduceLeDiff, Nat.reduceEqDiff, Nat.reduceAdd, Nat.reduceMul, Int.reduceBEq, Int.reduceEq, Int.reduceNeg, Int.reduceLT, Int.reduceLE, Int.reduceAdd, Int.reduceSub, Int.reduceMul, Int.reduceToNat, Int.reduceGT, Nat.reduceBEq, Nat.reducePow, Nat.reduceGT, reduceCtorEq, ↓reduceIte]
  refine awake_ok.mono ?_
  rintro _ _ ⟨rfl, rfl⟩
  simp -dsimp (disch := first | with_reducible assumption | omega | (intro h_; cases h_; done) | (simp only [LN] <;> omega) | (simp only [LF]; done) | (repeat (first | with_reducible assumption | apply Ext.refl | apply Ext.app | (apply Ext.set <;> omega) | (refine Ext.trans ?_ (by assumption))))) only [AX, TY, AD, mapPut, entsOf, oneV, builtinV, idsOf, mapId, touchB, Nat.reduceLT, Nat.reduceLeDiff, Nat.reduceEqDiff, Nat.reduceAdd, Nat.reduceMul, Int.reduceBEq, Int.reduceEq, Int.reduceNeg, Int.reduceLT, Int.reduceLE, Int.reduceAdd, Int.reduceSub, Int.reduceMul, Int.reduceToNat, Int.reduceGT, Nat.reduceBEq, Nat.reducePow, Nat.reduceGT, reduceCtorEq, ↓reduceIte]
  refine (few47_ok hs ho hv).mono ?_
  rintro _ h1 ⟨e1, b, rfl, hb⟩
  cases b
  · simp -dsimp (disch := first | with_reducible assumption | omega | (intro h_; cases h_; done) | (simp only [LN] <;> omega) | (simp only [LF]; done) | (repeat (first | with_reducible assumption | apply Ext.refl | apply Ext.app | (apply Ext.set <;> omega) | (refine Ext.trans ?_ (by assumption))))) only [AX, TY, AD, mapPut, entsOf, oneV, builtinV, idsOf, mapId, touchB, Nat.reduceLT, Nat.reduceLeDiff, Nat.reduceEqDiff, Nat.reduceAdd, Nat.reduceMul, Int.reduceBEq, Int.reduceEq, Int.reduceNeg, Int.reduceLT, Int.reduceLE, Int.reduceAdd, Int.reduceSub, Int.reduceMul, Int.reduceToNat, Int.reduceGT, Nat.reduceBEq, Nat.reducePow, Nat.reduceGT, reduceCtorEq, ↓reduceIte]
    refine awake_ok.mono ?_
    rintro _ _ ⟨rfl, rfl⟩
    simp -dsimp (disch := first | with_reducible assumption | omega | (intro h_; cases h_; done) | (simp only [LN] <;> omega) | (simp only [LF]; done) | (repeat (first | with_reducible assumption | apply Ext.refl | apply Ext.app | (apply Ext.set <;> omega) | (refine Ext.trans ?_ (by assumption))))) only [AX, TY, AD, mapPut, entsOf, oneV, builtinV, idsOf, mapId, touchB, Nat.reduceLT, Nat.reduceLeDiff, Nat.reduceEqDiff, Nat.reduceAdd, Nat.reduceMul, Int.reduceBEq, Int.reduceEq, Int.reduceNeg, Int.reduceLT, Int.reduceLE, Int.reduceAdd, Int.reduceSub, Int.reduceMul, Int.reduceToNat, Int.reduceGT, Nat.reduceBEq, Nat.reducePow, Nat.reduceGT, reduceCtorEq, ↓reduceIte]
  obtain ⟨f1, f2, f3, f4, f5, f6⟩ := hb rfl
  by_cases c1 : snap < 0
  · simp -dsimp (disch := first | with_reducible assumption | omega | (intro h_; cases h_; done) | (simp only [LN] <;> omega) | (simp only [LF]; done) | (repeat (first | with_reducible assumption | apply Ext.refl | apply Ext.app | (apply Ext.set <;> omega) | (refine Ext.trans ?_ (by assumption))))) only [AX, TY, AD, mapPut, entsOf, oneV, builtinV, idsOf, mapId, touchB, Nat.reduceLT, Nat.reduceLeDiff, Nat.reduceEqDiff, Nat.reduceAdd, Nat.reduceMul, Int.reduceBEq, Int.reduceEq, Int.reduceNeg, Int.reduceLT, Int.reduceLE, Int.reduceAdd, Int.reduceSub, Int.reduceMul, Int.reduceToNat, Int.reduceGT, Nat.reduceBEq, Nat.reducePow, Nat.reduceGT, reduceCtorEq, ↓reduceIte, c1]
    refine awake_ok.mono ?_
    rintro _ _ ⟨rfl, rfl⟩
    simp -dsimp (disch := first | with_reducible assumption | omega | (intro h_; cases h_; done) | (simp only [LN] <;> omega) | (simp only [LF]; done) | (repeat (first | with_reducible assumption | apply Ext.refl | apply Ext.app | (apply Ext.set <;> omega) | (refine Ext.trans ?_ (by assumption))))) only [AX, TY, AD, mapPut, entsOf, oneV, builtinV, idsOf, mapId, touchB, Nat.reduceLT, Nat.reduceLeDiff, Nat.reduceEqDiff, Nat.reduceAdd, Nat.reduceMul, Int.reduceBEq, Int.reduceEq, Int.reduceNeg, Int.reduceLT, Int.reduceLE, Int.reduceAdd, Int.reduceSub, Int.reduceMul, Int.reduceToNat, Int.reduceGT, Nat.reduceBEq, Nat.reducePow, Nat.reduceGT, reduceCtorEq, ↓reduceIte]
  by_cases c2 : 1099511627776 < snap
  · simp -dsimp (disch := first | with_reducible assumption | omega | (intro h_; cases h_; done) | (simp only [LN] <;> omega) | (simp only [LF]; done) | (repeat (first | with_reducible assumption | apply Ext.refl | apply Ext.app | (apply Ext.set <;> omega) | (refine Ext.trans ?_ (by assumption))))) only [AX, TY, AD, mapPut, entsOf, oneV, builtinV, idsOf, mapId, touchB, Nat.reduceLT, Nat.reduceLeDiff, Nat.reduceEqDiff, Nat.reduceAdd, Nat.reduceMul, Int.reduceBEq, Int.reduceEq, Int.reduceNeg, Int.reduceLT, Int.reduceLE, Int.reduceAdd, Int.reduceSub, Int.reduceMul, Int.reduceToNat, Int.reduceGT, Nat.reduceBEq, Nat.reducePow, Nat.reduceGT, reduceCtorEq, ↓reduceIte, c1, c2]
    refine awake_ok.mono ?_
    rintro _ _ ⟨rfl, rfl⟩
    simp -dsimp (disch := first | with_reducible assumption | omega | (intro h_; cases h_; done) | (simp only [LN] <;> omega) | (simp only [LF]; done) | (repeat (first | with_reducible assumption | apply Ext.refl | apply Ext.app | (apply Ext.set <;> omega) | (refine Ext.trans ?_ (by assumption))))) only [AX, TY, AD, mapPut, entsOf, oneV, builtinV, idsOf, mapId, touchB, Nat.reduceLT, Nat.reduceLeDiff, Nat.reduceEqDiff, Nat.reduceAdd, Nat.reduceMul, Int.reduceBEq, Int.reduceEq, Int.reduceNeg, Int.reduceLT, Int.reduceLE, Int.reduceAdd, Int.reduceSub, Int.reduceMul, Int.reduceToNat, Int.reduceGT, Nat.reduceBEq, Nat.reducePow, Nat.reduceGT, reduceCtorEq, ↓reduceIte]
  simp -dsimp (disch := first | with_reducible assumption | omega | (intro h_; cases h_; done) | (simp only [LN] <;> omega) | (simp only [LF]; done) | (repeat (first | with_reducible assumption | apply Ext.refl | apply Ext.app | (apply Ext.set <;> omega) | (refine Ext.trans ?_ (by assumption))))) only [AX, TY, AD, mapPut, entsOf, oneV, builtinV, idsOf, mapId, touchB, Nat.reduceLT, Nat.reduceLeDiff, Nat.reduceEqDiff, Nat.reduceAdd, Nat.reduceMul, Int.reduceBEq, Int.reduceEq, Int.reduceNeg, Int.reduceLT, Int.reduceLE, Int.reduceAdd, Int.reduceSub, Int.reduceMul, Int.reduceToNat, Int.reduceGT, Nat.reduceBEq, Nat.reducePow, Nat.reduceGT, reduceCtorEq, ↓reduceIte, c1, c2]
  refine (begun_ok ⟨hs.sl.ext e1, fun x hx => ⟨(hs.ok x hx).1.ext e1, (hs.ok x hx).2.ext e1⟩⟩ ⟨ho.sl.ext e1, fun x hx => (ho.ok x hx).ext e1⟩ (by omega) (fun x hx => by have := f4 x hx; omega) (by omega) (fun o ho => by have := f5 o ho; omega) snap).mono ?_
  rintro _ h2 ⟨ti, ds', ops, rfl, hcore, hst, t, e2⟩
  obtain ⟨hlog, hlen⟩ := hst.log ⟨by simp, by simp⟩ f5
  have hops : ops.length ≤ 16 := by simp at hlen; omega
  have e12 := e1.trans e2
  simp -dsimp (disch := first | with_reducible assumption | omega | (intro h_; cases h_; done) | (simp only [LN] <;> omega) | (simp only [LF]; done) | (repeat (first | with_reducible assumption | apply Ext.refl | apply Ext.app | (apply Ext.set <;> omega) | (refine Ext.trans ?_ (by assumption))))) only [AX, TY, AD, mapPut, entsOf, oneV, builtinV, idsOf, mapId, touchB, Nat.reduceLT, Nat.reduceLeDiff, Nat.reduceEqDiff, Nat.reduceAdd, Nat.reduceMul, Int.reduceBEq, Int.reduceEq, Int.reduceNeg, Int.reduceLT, Int.reduceLE, Int.reduceAdd, Int.reduceSub, Int.reduceMul, Int.reduceToNat, Int.reduceGT, Nat.reduceBEq, Nat.reducePow, Nat.reduceGT, reduceCtorEq, ↓reduceIte]
  refine (rows_ok t hops (fun o ho => by have := hlog.2 o ho; omega) (hv.ext e12) (by omega) (fun y hy => by have := f6 y hy; omega) table).mono ?_
  rintro _ h3 ⟨e3, p3, c3, rs, rfl, hv3, R3⟩
  have e13 := e12.trans e3
  simp -dsimp (disch := first | with_reducible assumption | omega | (intro h_; cases h_; done) | (simp only [LN] <;> omega) | (simp only [LF]; done) | (repeat (first | with_reducible assumption | apply Ext.refl | apply Ext.app | (apply Ext.set <;> omega) | (refine Ext.trans ?_ (by assumption))))) only [AX, TY, AD, mapPut, entsOf, oneV, builtinV, idsOf, mapId, touchB, Nat.reduceLT, Nat.reduceLeDiff, Nat.reduceEqDiff, Nat.reduceAdd, Nat.reduceMul, Int.reduceBEq, Int.reduceEq, Int.reduceNeg, Int.reduceLT, Int.reduceLE, Int.reduceAdd, Int.reduceSub, Int.reduceMul, Int.reduceToNat, Int.reduceGT, Nat.reduceBEq, Nat.reducePow, Nat.reduceGT, reduceCtorEq, ↓reduceIte]
  refine W.loop (fun m τ hh => ∃ (i : Nat) (zs : List Ver) (po : Option (Nat × Nat)) (co oid : Option Nat), m + i = ys.length ∧ τ 0 = .int .i64 snap ∧ τ 3 = .slice r ys.length ce ∧ τ 4 = .int .i64 table ∧ τ 11 = .ptr (some (ti, 0)) ∧ τ 12 = .slice p3 rs.length c3 ∧ τ 13 = .slice po zs.length co ∧ τ 49 = .slice r ys.length ce ∧ τ 50 = .int .i64 ys.length ∧ τ 51 = .int .i64 i ∧ Ext h3 hh ∧ Gr h3.length hh po co oid 5 Ver.enc zs ∧ (∀ y ∈ zs, VOK hh y ∧ ∀ a o, y.p = some (a, o) → a < h3.length) ∧ zs.map Ver.key = ((((ys.take i).map Ver.key).filter fun k => decide (k.cr ≤ snap)).map (Key.zero snap)) ∧ zs.length ≤ i) ?_ (m := ys.length) ?_
  rotate_left
  · refine ⟨0, [], some (h3.length, 0), some 0, some h3.length, by simp, ?_⟩
    have g0 : Gr h3.length (h3 ++ [O.cells [] .rw]) (some (h3.length, 0)) (some 0) (some h3.length) 5 Ver.enc [] := Gr.built (ys := ([] : List Ver)) (snoc_last _ rfl) rfl (Nat.le_refl _) (fun _ h => (by cases h)) (fun _ h => (by cases h)) (Nat.zero_le _) rfl
    have e0 : Ext h3 (h3 ++ [O.cells [] .rw]) := (by (repeat (first | assumption | apply Ext.refl | apply Ext.app | (apply Ext.set <;> omega) | exact Ext.trans (by assumption) (by assumption) | (refine Ext.trans ?_ (by assumption)))))
    simp -dsimp (disch := first | with_reducible assumption | omega | (intro h_; cases h_; done) | (simp only [LN] <;> omega) | (simp only [LF]; done) | (repeat (first | with_reducible assumption | apply Ext.refl | apply Ext.app | (apply Ext.set <;> omega) | (refine Ext.trans ?_ (by assumption))))) only [AX, TY, AD, mapPut, entsOf, oneV, builtinV, idsOf, mapId, touchB, Nat.reduceLT, Nat.reduceLeDiff, Nat.reduceEqDiff, Nat.reduceAdd, Nat.reduceMul, Int.reduceBEq, Int.reduceEq, Int.reduceNeg, Int.reduceLT, Int.reduceLE, Int.reduceAdd, Int.reduceSub, Int.reduceMul, Int.reduceToNat, Int.reduceGT, Nat.reduceBEq, Nat.reducePow, Nat.reduceGT, reduceCtorEq, ↓reduceIte]
    repeat' (first | assumption | refine And.intro ?_ ?_)
    all_goals first | rfl | omega | (simp; done) | (simp; omega; done) | skip
  rintro m τ hh ⟨i, zs, po, co, oid, hm, t0, t3, t4, t11, t12, t13, t49, t50, t51, e, gr, hz, hk, hle⟩
  have le := e.le
  by_cases d1 : (i : Int) < (ys.length : Int)
  rotate_left
  · rw [List.take_of_length_le (by omega)] at hk
    simp -dsimp (disch := first | with_reducible assumption | omega | (intro h_; cases h_; done) | (simp only [LN] <;> omega) | (simp only [LF]; done) | (repeat (first | with_reducible assumption | apply Ext.refl | apply Ext.app | (apply Ext.set <;> omega) | (refine Ext.trans ?_ (by assumption))))) only [AX, TY, AD, mapPut, entsOf, oneV, builtinV, idsOf, mapId, touchB, Nat.reduceLT, Nat.reduceLeDiff, Nat.reduceEqDiff, Nat.reduceAdd, Nat.reduceMul, Int.reduceBEq, Int.reduceEq, Int.reduceNeg, Int.reduceLT, Int.reduceLE, Int.reduceAdd, Int.reduceSub, Int.reduceMul, Int.reduceToNat, Int.reduceGT, Nat.reduceBEq, Nat.reducePow, Nat.reduceGT, reduceCtorEq, ↓reduceIte, t0, t3, t4, t11, t12, t13, t49, t50, t51, d1, wrap_in]
    refine (gr.wrB (by omega) (hh := hh ++ [O.cells (Ver.enc ⟨table, 1073741824, none, some 0, [], snap + 1, 0⟩) .rw]) (by (repeat (first | assumption | apply Ext.refl | apply Ext.app | (apply Ext.set <;> omega) | exact Ext.trans (by assumption) (by assumption) | (refine Ext.trans ?_ (by assumption))))) [⟨table, 1073741824, none, some 0, [], snap + 1, 0⟩] (snoc_last _ rfl) rfl (fun _ _ => rfl) (fun y hy => by rw [List.mem_singleton] at hy; subst hy; rfl) (by simp; omega) (by simp; omega)).mono ?_
    rintro v h4 ⟨p6, c6, o6, rfl, gr7, ho, hle7, hfr⟩
    generalize hls : zs ++ [(⟨table, 1073741824, none, some 0, [], snap + 1, 0⟩ : Ver)] = ls at gr7
    have hlsl : ls.length = zs.length + 1 := by rw [← hls]; simp
    have hlk : ls.map Ver.key = (((ys.map Ver.key).filter fun k => decide (k.cr ≤ snap)).map (Key.zero snap)) ++ [⟨table, 1073741824, [], snap + 1, 0⟩] := by
      rw [← hls, List.map_append, hk]; rfl
    have e4 : Ext h3 h4 := Ext.of_keep fun a ha => by
      rw [hfr a (fun q => by have := gr.base a q; omega) (by omega)]
      exact e.same ha
    have hv4 : Vers h4 p6 ls := ⟨gr7.sl, fun y hy => by
      rw [← hls] at hy
      rcases List.mem_append.1 hy with hy | hy
      · obtain ⟨u1, u2⟩ := hz y hy
        exact Sl.keep u1 fun a o z => hfr a (fun q => by have := gr.base a q; have := u2 a o z; omega) (by have := u2 a o z; omega)
      · rw [List.mem_singleton] at hy; subst hy
        exact .nil0 _ _ _⟩
    have hlv : ∀ y ∈ ls, y.vals.length ≤ 100000 := fun y hy => by
      have h1 : y.key ∈ ls.map Ver.key := List.mem_map_of_mem hy
      rw [hlk] at h1
      rcases List.mem_append.1 h1 with h1 | h1
      · obtain ⟨k, hk1, hk2⟩ := List.mem_map.1 h1
        obtain ⟨w, hw1, hw2⟩ := List.mem_map.1 (List.mem_filter.1 hk1).1
        have h3 := f6 w hw1
        have h4 : (Key.zero snap k).vals = k.vals := by unfold Key.zero; split <;> rfl
        have h5 : y.vals = w.vals := by
          have a1 : (Key.zero snap k).vals = y.vals := congrArg Key.vals hk2
          have a2 : w.vals = k.vals := congrArg Key.vals hw2
          rw [← a1, h4, a2]
        rw [h5]; omega
      · rw [List.mem_singleton] at h1
        have h5 : y.vals = [] := congrArg Key.vals h1
        rw [h5]; simp
    have hrows := rows_ok (c := c6) (t.ext (e3.trans e4)) hops (fun o ho => by have := hlog.2 o ho; omega) hv4 (by omega) hlv table
    simp -dsimp (disch := first | with_reducible assumption | omega | (intro h_; cases h_; done) | (simp only [LN] <;> omega) | (simp only [LF]; done) | (repeat (first | with_reducible assumption | apply Ext.refl | apply Ext.app | (apply Ext.set <;> omega) | (refine Ext.trans ?_ (by assumption))))) only [AX, TY, AD, mapPut, entsOf, oneV, builtinV, idsOf, mapId, touchB, Nat.reduceLT, Nat.reduceLeDiff, Nat.reduceEqDiff, Nat.reduceAdd, Nat.reduceMul, Int.reduceBEq, Int.reduceEq, Int.reduceNeg, Int.reduceLT, Int.reduceLE, Int.reduceAdd, Int.reduceSub, Int.reduceMul, Int.reduceToNat, Int.reduceGT, Nat.reduceBEq, Nat.reducePow, Nat.reduceGT, reduceCtorEq, ↓reduceIte, t0, t3, t4, t11, t12, t13, t49, t50, t51]
    refine hrows.mono ?_
    rintro _ h5 ⟨e5, p5, c5, ws, rfl, hv5, R5⟩
    have hsame := R3.same R5 hlog.own (by rw [hlk]; exact seen_later (by omega) rfl)
    have e45 := e4.trans e5
    simp -dsimp (disch := first | with_reducible assumption | omega | (intro h_; cases h_; done) | (simp only [LN] <;> omega) | (simp only [LF]; done) | (repeat (first | with_reducible assumption | apply Ext.refl | apply Ext.app | (apply Ext.set <;> omega) | (refine Ext.trans ?_ (by assumption))))) only [AX, TY, AD, mapPut, entsOf, oneV, builtinV, idsOf, mapId, touchB, Nat.reduceLT, Nat.reduceLeDiff, Nat.reduceEqDiff, Nat.reduceAdd, Nat.reduceMul, Int.reduceBEq, Int.reduceEq, Int.reduceNeg, Int.reduceLT, Int.reduceLE, Int.reduceAdd, Int.reduceSub, Int.reduceMul, Int.reduceToNat, Int.reduceGT, Nat.reduceBEq, Nat.reducePow, Nat.reduceGT, reduceCtorEq, ↓reduceIte, t0, t3, t4, t11, t12, t13, t49, t50, t51]
    refine (alike_ok (c := c3) (d := c5) (hv3.ext e45) hv5 hsame).mono ?_
    rintro _ h6 ⟨e6, rfl⟩
    have e36 := e45.trans e6
    simp -dsimp (disch := first | with_reducible assumption | omega | (intro h_; cases h_; done) | (simp only [LN] <;> omega) | (simp only [LF]; done) | (repeat (first | with_reducible assumption | apply Ext.refl | apply Ext.app | (apply Ext.set <;> omega) | (refine Ext.trans ?_ (by assumption))))) only [AX, TY, AD, mapPut, entsOf, oneV, builtinV, idsOf, mapId, touchB, Nat.reduceLT, Nat.reduceLeDiff, Nat.reduceEqDiff, Nat.reduceAdd, Nat.reduceMul, Int.reduceBEq, Int.reduceEq, Int.reduceNeg, Int.reduceLT, Int.reduceLE, Int.reduceAdd, Int.reduceSub, Int.reduceMul, Int.reduceToNat, Int.reduceGT, Nat.reduceBEq, Nat.reducePow, Nat.reduceGT, reduceCtorEq, ↓reduceIte, t0, t3, t4, t11, t12, t13, t49, t50, t51]
    refine (live_ok (c := ce) (hv.ext (e13.trans e36)) (by omega) (fun y hy => by have := f6 y hy; omega) snap).mono ?_
    rintro _ h7 ⟨e7, p7, c7, vs, rfl, hv7, hk7, hl7, _, _⟩
    have hn7 := hv7.sl.nil'
    have hs7 := hv7.sl.small
    have hn3 := hv3.sl.nil'
    have hs3 := hv3.sl.small
    have e37 := e36.trans e7
    simp -dsimp (disch := first | with_reducible assumption | omega | (intro h_; cases h_; done) | (simp only [LN] <;> omega) | (simp only [LF]; done) | (repeat (first | with_reducible assumption | apply Ext.refl | apply Ext.app | (apply Ext.set <;> omega) | (refine Ext.trans ?_ (by assumption))))) only [AX, TY, AD, mapPut, entsOf, oneV, builtinV, idsOf, mapId, touchB, Nat.reduceLT, Nat.reduceLeDiff, Nat.reduceEqDiff, Nat.reduceAdd, Nat.reduceMul, Int.reduceBEq, Int.reduceEq, Int.reduceNeg, Int.reduceLT, Int.reduceLE, Int.reduceAdd, Int.reduceSub, Int.reduceMul, Int.reduceToNat, Int.reduceGT, Nat.reduceBEq, Nat.reducePow, Nat.reduceGT, reduceCtorEq, ↓reduceIte, t0, t3, t4, t11, t12, t13, t49, t50, t51]
    refine W.loop (fun m τ hh => ∃ i : Nat, m + i = rs.length ∧ τ 4 = .int .i64 table ∧ τ 12 = .slice p3 rs.length c3 ∧ τ 16 = .slice p7 vs.length c7 ∧ τ 87 = .slice p3 rs.length c3 ∧ τ 88 = .int .i64 rs.length ∧ τ 89 = .int .i64 i ∧ Ext h7 hh) ?_ (m := rs.length) ?_
    rotate_left
    · refine ⟨0, by simp, ?_⟩
      have e0 := Ext.refl h7
      simp -dsimp (disch := first | with_reducible assumption | omega | (intro h_; cases h_; done) | (simp only [LN] <;> omega) | (simp only [LF]; done) | (repeat (first | with_reducible assumption | apply Ext.refl | apply Ext.app | (apply Ext.set <;> omega) | (refine Ext.trans ?_ (by assumption))))) only [AX, TY, AD, mapPut, entsOf, oneV, builtinV, idsOf, mapId, touchB, Nat.reduceLT, Nat.reduceLeDiff, Nat.reduceEqDiff, Nat.reduceAdd, Nat.reduceMul, Int.reduceBEq, Int.reduceEq, Int.reduceNeg, Int.reduceLT, Int.reduceLE, Int.reduceAdd, Int.reduceSub, Int.reduceMul, Int.reduceToNat, Int.reduceGT, Nat.reduceBEq, Nat.reducePow, Nat.reduceGT, reduceCtorEq, ↓reduceIte, t0, t3, t4, t11, t12, t13, t49, t50, t51]
      repeat' (first | assumption | refine And.intro ?_ ?_)
      all_goals first | rfl | omega | (simp; done) | (simp; omega; done) | skip
    rintro m2 τ2 hh2 ⟨j, hm2, u4, u12, u16, u87, u88, u89, e8⟩
    by_cases d2 : (j : Int) < (rs.length : Int)
    rotate_left
    · simp -dsimp (disch := first | with_reducible assumption | omega | (intro h_; cases h_; done) | (simp only [LN] <;> omega) | (simp only [LF]; done) | (repeat (first | with_reducible assumption | apply Ext.refl | apply Ext.app | (apply Ext.set <;> omega) | (refine Ext.trans ?_ (by assumption))))) only [AX, TY, AD, mapPut, entsOf, oneV, builtinV, idsOf, mapId, touchB, Nat.reduceLT, Nat.reduceLeDiff, Nat.reduceEqDiff, Nat.reduceAdd, Nat.reduceMul, Int.reduceBEq, Int.reduceEq, Int.reduceNeg, Int.reduceLT, Int.reduceLE, Int.reduceAdd, Int.reduceSub, Int.reduceMul, Int.reduceToNat, Int.reduceGT, Nat.reduceBEq, Nat.reducePow, Nat.reduceGT, reduceCtorEq, ↓reduceIte, u4, u12, u16, u87, u88, u89, d2]
    have hj : j < rs.length := by omega
    have hom := List.getElem_mem hj
    have hlb := hv3.sl.load0 (e37.trans e8) hj (m := 5) (by decide)
    have tk : ∀ x : Ver, x.enc.take 5 = x.enc := fun _ => rfl
    rw [tk] at hlb
    have hmem := R3.mem hom
    have hvx := (hv3.ok _ hom).ext (e37.trans e8)
    have hlc : j - 1 < rs.length := by omega
    have hst : ∀ (h0 : 0 < j), (rs[j - 1]'hlc).a < (rs[j]).a ∨ (rs[j - 1]'hlc).a = (rs[j]).a ∧ (rs[j - 1]'hlc).b < (rs[j]).b := fun h0 => by
      have := R3.strict
      rw [List.pairwise_iff_getElem] at this
      exact this (j - 1) j (by omega) hj (by omega)
    have ex0 : Ext hh2 (hh2 ++ [O.cells (Ver.enc rs[j]) .rw]) := (by (repeat (first | assumption | apply Ext.refl | apply Ext.app | (apply Ext.set <;> omega) | exact Ext.trans (by assumption) (by assumption) | (refine Ext.trans ?_ (by assumption)))))
    have hlc2 := hv3.sl.load0 ((e37.trans e8).trans ex0) hlc (m := 2) (by decide)
    generalize hx : rs[j] = x at hlb hmem hvx hst hlc2 ex0
    generalize hw : rs[j - 1] = w at hlc2 hst
    have f2 : (w.enc).take 2 = Rid.enc w.rid := rfl
    rw [f2] at hlc2
    obtain ⟨g, hg, gx, ex, hgl⟩ : ∃ g, hh2 ++ [O.cells x.enc .rw] = g ∧ g[hh2.length]? = some (O.cells x.enc .rw) ∧ Ext hh2 g ∧ g.length = hh2.length + 1 := ⟨_, rfl, by simp, (by (repeat (first | assumption | apply Ext.refl | apply Ext.app | (apply Ext.set <;> omega) | exact Ext.trans (by assumption) (by assumption) | (refine Ext.trans ?_ (by assumption))))), by simp⟩
    rw [hg] at hlc2
    simp only [Ver.enc] at hlb hg gx
    simp -dsimp (disch := first | with_reducible assumption | omega | (intro h_; cases h_; done) | (simp only [LN] <;> omega) | (simp only [LF]; done) | (repeat (first | with_reducible assumption | apply Ext.refl | apply Ext.app | (apply Ext.set <;> omega) | (refine Ext.trans ?_ (by assumption))))) only [AX, TY, AD, mapPut, entsOf, oneV, builtinV, idsOf, mapId, touchB, Nat.reduceLT, Nat.reduceLeDiff, Nat.reduceEqDiff, Nat.reduceAdd, Nat.reduceMul, Int.reduceBEq, Int.reduceEq, Int.reduceNeg, Int.reduceLT, Int.reduceLE, Int.reduceAdd, Int.reduceSub, Int.reduceMul, Int.reduceToNat, Int.reduceGT, Nat.reduceBEq, Nat.reducePow, Nat.reduceGT, reduceCtorEq, ↓reduceIte, u4, u12, u16, u87, u88, u89, d2, hlb, hg]
    refine W.drawn [(0, []), (1, []), (2, []), (3, []), (4, [3]), (5, [3]), (6, []), (7, []), (8, []), (9, [8, 7, 6, 5, 4, 3]), (10, [8, 7, 6, 5, 4, 3]), (11, []), (12, []), (13, []), (14, []), (15, []), (16, []), (17, []), (18, [17, 16, 15]), (19, []), (20, [])] (by decide +kernel) ?_
    have ht := hmem.1
    by_cases d3 : 0 < (j : Int)
    · have hj0 : 0 < j := by omega
      have hsub : (j : Int) - 1 = ((j - 1 : Nat) : Int) := by omega
      have hcmp := cmp02_ok (h := g) w.rid x.rid (hst hj0)
      simp only [Rid.enc, Ver.rid] at hlc2 hcmp
      simp -dsimp (disch := first | with_reducible assumption | omega | (intro h_; cases h_; done) | (simp only [LN] <;> omega) | (simp only [LF]; done) | (repeat (first | with_reducible assumption | apply Ext.refl | apply Ext.app | (apply Ext.set <;> omega) | (refine Ext.trans ?_ (by assumption))))) only [AX, TY, AD, mapPut, entsOf, oneV, builtinV, idsOf, mapId, touchB, Nat.reduceLT, Nat.reduceLeDiff, Nat.reduceEqDiff, Nat.reduceAdd, Nat.reduceMul, Int.reduceBEq, Int.reduceEq, Int.reduceNeg, Int.reduceLT, Int.reduceLE, Int.reduceAdd, Int.reduceSub, Int.reduceMul, Int.reduceToNat, Int.reduceGT, Nat.reduceBEq, Nat.reducePow, Nat.reduceGT, reduceCtorEq, ↓reduceIte, u4, u12, u16, u87, u88, u89, d3, hsub, loadN_fact gx, hlc2, wrap_in]
      refine hcmp.mono ?_
      rintro _ hc ⟨ec, rfl⟩
      have gxc := ec _ _ gx
      have so1 := sameO_ext ec (lt_of_some gx)
      have so2 : sameO g[sid p3]? hc[sid p3]? = true := hv3.sl.so hlc ((e37.trans e8).trans ex) ec
      simp -dsimp (disch := first | with_reducible assumption | omega | (intro h_; cases h_; done) | (simp only [LN] <;> omega) | (simp only [LF]; done) | (repeat (first | with_reducible assumption | apply Ext.refl | apply Ext.app | (apply Ext.set <;> omega) | (refine Ext.trans ?_ (by assumption))))) only [AX, TY, AD, mapPut, entsOf, oneV, builtinV, idsOf, mapId, touchB, Nat.reduceLT, Nat.reduceLeDiff, Nat.reduceEqDiff, Nat.reduceAdd, Nat.reduceMul, Int.reduceBEq, Int.reduceEq, Int.reduceNeg, Int.reduceLT, Int.reduceLE, Int.reduceAdd, Int.reduceSub, Int.reduceMul, Int.reduceToNat, Int.reduceGT, Nat.reduceBEq, Nat.reducePow, Nat.reduceGT, reduceCtorEq, ↓reduceIte, u4, u12, u16, u87, u88, u89, d3, hsub, loadN_fact gxc, eq_true ht, so1, so2]
      refine W.loop (fun m τ h9 => ∃ (k : Nat) (b : Bool), m + k = vs.length ∧ τ 4 = .int .i64 table ∧ τ 12 = .slice p3 rs.length c3 ∧ τ 16 = .slice p7 vs.length c7 ∧ τ 87 = .slice p3 rs.length c3 ∧ τ 88 = .int .i64 rs.length ∧ τ 89 = .int .i64 j ∧ τ 18 = .ptr (some (hh2.length, 0)) ∧ τ 19 = .bool b ∧ τ 115 = .slice p7 vs.length c7 ∧ τ 116 = .int .i64 vs.length ∧ τ 117 = .int .i64 k ∧ Ext g h9 ∧ (b = true ↔ ∃ v ∈ vs.take k, v.key = x.key)) ?_ (m := vs.length) ?_
      rotate_left
      · have i1 : false = true ↔ ∃ v ∈ vs.take 0, v.key = x.key := by simp
        have i2 : Ext g hc := ec
        refine ⟨0, false, by simp, ?_⟩
        simp -dsimp (disch := first | with_reducible assumption | omega | (intro h_; cases h_; done) | (simp only [LN] <;> omega) | (simp only [LF]; done) | (repeat (first | with_reducible assumption | apply Ext.refl | apply Ext.app | (apply Ext.set <;> omega) | (refine Ext.trans ?_ (by assumption))))) only [AX, TY, AD, mapPut, entsOf, oneV, builtinV, idsOf, mapId, touchB, Nat.reduceLT, Nat.reduceLeDiff, Nat.reduceEqDiff, Nat.reduceAdd, Nat.reduceMul, Int.reduceBEq, Int.reduceEq, Int.reduceNeg, Int.reduceLT, Int.reduceLE, Int.reduceAdd, Int.reduceSub, Int.reduceMul, Int.reduceToNat, Int.reduceGT, Nat.reduceBEq, Nat.reducePow, Nat.reduceGT, reduceCtorEq, ↓reduceIte, u4, u12, u16, u87, u88, u89]
        repeat' (first | assumption | refine And.intro ?_ ?_)
        all_goals first | rfl | omega | (simp; done) | (simp; omega; done) | skip
      rintro m3 τ3 h9 ⟨k, b, hm3, v4, v12, v16, v87, v88, v89, v18, v19, v115, v116, v117, e9, hbk⟩
      have gx9 := e9 _ _ gx
      have e79 := (e8.trans ex).trans e9
      by_cases d4 : (k : Int) < (vs.length : Int)
      rotate_left
      · rw [List.take_of_length_le (by omega)] at hbk
        have e89 := (e8.trans ex).trans e9
        have hfin : b = false → x.cr = 0 ∧ x.dl = 0 := fun hbf => by
          rcases hmem.2 with ⟨z1, z2⟩ | z
          · exfalso
            have : b = true := hbk.2 (by
              obtain ⟨y, hy, hy2⟩ := List.mem_map.1 z1
              have hsy : sees y.cr y.dl snap = true := by
                have a1 : y.cr = x.cr := congrArg Key.cr hy2
                have a2 : y.dl = x.dl := congrArg Key.dl hy2
                rw [a1, a2]; exact z2
              have : x.key ∈ vs.map Ver.key := by
                rw [hk7, ← hy2]
                exact List.mem_map_of_mem (List.mem_filter.2 ⟨hy, hsy⟩)
              exact List.mem_map.1 this)
            rw [hbf] at this; cases this
          · exact z
        cases b
        · obtain ⟨z1, z2⟩ := hfin rfl
          simp -dsimp (disch := first | with_reducible assumption | omega | (intro h_; cases h_; done) | (simp only [LN] <;> omega) | (simp only [LF]; done) | (repeat (first | with_reducible assumption | apply Ext.refl | apply Ext.app | (apply Ext.set <;> omega) | (refine Ext.trans ?_ (by assumption))))) only [AX, TY, AD, mapPut, entsOf, oneV, builtinV, idsOf, mapId, touchB, Nat.reduceLT, Nat.reduceLeDiff, Nat.reduceEqDiff, Nat.reduceAdd, Nat.reduceMul, Int.reduceBEq, Int.reduceEq, Int.reduceNeg, Int.reduceLT, Int.reduceLE, Int.reduceAdd, Int.reduceSub, Int.reduceMul, Int.reduceToNat, Int.reduceGT, Nat.reduceBEq, Nat.reducePow, Nat.reduceGT, reduceCtorEq, ↓reduceIte, v4, v12, v16, v87, v88, v89, v18, v19, v115, v116, v117, d4, loadN_fact gx9, eq_true z1, eq_true z2, wrap_in]
          refine ⟨m2 - 1, by omega, j + 1, ?_⟩
          repeat' (first | assumption | refine And.intro ?_ ?_)
          all_goals first | rfl | omega | (simp; done) | (simp; omega; done) | skip
        · simp -dsimp (disch := first | with_reducible assumption | omega | (intro h_; cases h_; done) | (simp only [LN] <;> omega) | (simp only [LF]; done) | (repeat (first | with_reducible assumption | apply Ext.refl | apply Ext.app | (apply Ext.set <;> omega) | (refine Ext.trans ?_ (by assumption))))) only [AX, TY, AD, mapPut, entsOf, oneV, builtinV, idsOf, mapId, touchB, Nat.reduceLT, Nat.reduceLeDiff, Nat.reduceEqDiff, Nat.reduceAdd, Nat.reduceMul, Int.reduceBEq, Int.reduceEq, Int.reduceNeg, Int.reduceLT, Int.reduceLE, Int.reduceAdd, Int.reduceSub, Int.reduceMul, Int.reduceToNat, Int.reduceGT, Nat.reduceBEq, Nat.reducePow, Nat.reduceGT, reduceCtorEq, ↓reduceIte, v4, v12, v16, v87, v88, v89, v18, v19, v115, v116, v117, d4, loadN_fact gx9, wrap_in]
          refine ⟨m2 - 1, by omega, j + 1, ?_⟩
          repeat' (first | assumption | refine And.intro ?_ ?_)
          all_goals first | rfl | omega | (simp; done) | (simp; omega; done) | skip
      have hk : k < vs.length := by omega
      have hom2 := List.getElem_mem hk
      have hla := hv7.sl.load0 e79 hk (m := 5) (by decide)
      have hvv := (hv7.ok _ hom2).ext e79
      have htk := List.take_succ_eq_append_getElem hk
      rw [tk] at hla
      generalize hvx' : vs[k] = y at hla hvv htk
      obtain ⟨g', hg', gy, ex', hgl'⟩ : ∃ g', h9 ++ [O.cells y.enc .rw] = g' ∧ g'[h9.length]? = some (O.cells y.enc .rw) ∧ Ext h9 g' ∧ g'.length = h9.length + 1 := ⟨_, rfl, by simp, (by (repeat (first | assumption | apply Ext.refl | apply Ext.app | (apply Ext.set <;> omega) | exact Ext.trans (by assumption) (by assumption) | (refine Ext.trans ?_ (by assumption))))), by simp⟩
      have gxx := ex' _ _ gx9
      have hver := version_ok (Sl.ext hvv ex') (Sl.ext hvx (((ex.trans e9).trans ex')))
      simp only [Ver.enc] at hla hg' gy hver
      cases b
      · simp -dsimp (disch := first | with_reducible assumption | omega | (intro h_; cases h_; done) | (simp only [LN] <;> omega) | (simp only [LF]; done) | (repeat (first | with_reducible assumption | apply Ext.refl | apply Ext.app | (apply Ext.set <;> omega) | (refine Ext.trans ?_ (by assumption))))) only [AX, TY, AD, mapPut, entsOf, oneV, builtinV, idsOf, mapId, touchB, Nat.reduceLT, Nat.reduceLeDiff, Nat.reduceEqDiff, Nat.reduceAdd, Nat.reduceMul, Int.reduceBEq, Int.reduceEq, Int.reduceNeg, Int.reduceLT, Int.reduceLE, Int.reduceAdd, Int.reduceSub, Int.reduceMul, Int.reduceToNat, Int.reduceGT, Nat.reduceBEq, Nat.reducePow, Nat.reduceGT, reduceCtorEq, ↓reduceIte, v4, v12, v16, v87, v88, v89, v18, v19, v115, v116, v117, d4, hla, hg', loadN_fact gy, loadN_fact gxx]
        refine hver.mono ?_
        rintro _ h10 ⟨e10, b, rfl, hb⟩
        have e910 := e9.trans (ex'.trans e10)
        have hb' : b = true ↔ ∃ v ∈ vs.take (k + 1), v.key = x.key := by
          rw [hb, htk]
          constructor
          · exact fun q => ⟨y, by simp, q⟩
          · rintro ⟨v, hv, q⟩
            rcases List.mem_append.1 hv with hv | hv
            · exact absurd (hbk.2 ⟨v, hv, q⟩) (by simp)
            · rw [List.mem_singleton] at hv; subst hv; exact q
        simp -dsimp (disch := first | with_reducible assumption | omega | (intro h_; cases h_; done) | (simp only [LN] <;> omega) | (simp only [LF]; done) | (repeat (first | with_reducible assumption | apply Ext.refl | apply Ext.app | (apply Ext.set <;> omega) | (refine Ext.trans ?_ (by assumption))))) only [AX, TY, AD, mapPut, entsOf, oneV, builtinV, idsOf, mapId, touchB, Nat.reduceLT, Nat.reduceLeDiff, Nat.reduceEqDiff, Nat.reduceAdd, Nat.reduceMul, Int.reduceBEq, Int.reduceEq, Int.reduceNeg, Int.reduceLT, Int.reduceLE, Int.reduceAdd, Int.reduceSub, Int.reduceMul, Int.reduceToNat, Int.reduceGT, Nat.reduceBEq, Nat.reducePow, Nat.reduceGT, reduceCtorEq, ↓reduceIte, v4, v12, v16, v87, v88, v89, v18, v19, v115, v116, v117, wrap_in]
        refine ⟨m3 - 1, by omega, k + 1, b, ?_⟩
        repeat' (first | assumption | refine And.intro ?_ ?_)
        all_goals first | rfl | omega | (simp; done) | (simp; omega; done) | skip
      · have e910 := e9.trans ex'
        have hb' : true = true ↔ ∃ v ∈ vs.take (k + 1), v.key = x.key := by
          simp only [true_iff]
          obtain ⟨v, hv, q⟩ := hbk.1 rfl
          exact ⟨v, by rw [htk]; exact List.mem_append_left _ hv, q⟩
        simp -dsimp (disch := first | with_reducible assumption | omega | (intro h_; cases h_; done) | (simp only [LN] <;> omega) | (simp only [LF]; done) | (repeat (first | with_reducible assumption | apply Ext.refl | apply Ext.app | (apply Ext.set <;> omega) | (refine Ext.trans ?_ (by assumption))))) only [AX, TY, AD, mapPut, entsOf, oneV, builtinV, idsOf, mapId, touchB, Nat.reduceLT, Nat.reduceLeDiff, Nat.reduceEqDiff, Nat.reduceAdd, Nat.reduceMul, Int.reduceBEq, Int.reduceEq, Int.reduceNeg, Int.reduceLT, Int.reduceLE, Int.reduceAdd, Int.reduceSub, Int.reduceMul, Int.reduceToNat, Int.reduceGT, Nat.reduceBEq, Nat.reducePow, Nat.reduceGT, reduceCtorEq, ↓reduceIte, v4, v12, v16, v87, v88, v89, v18, v19, v115, v116, v117, d4, hla, hg', loadN_fact gy, wrap_in]
        refine ⟨m3 - 1, by omega, k + 1, true, ?_⟩
        repeat' (first | assumption | refine And.intro ?_ ?_)
        all_goals first | rfl | omega | (simp; done) | (simp; omega; done) | skip
    · simp -dsimp (disch := first | with_reducible assumption | omega | (intro h_; cases h_; done) | (simp only [LN] <;> omega) | (simp only [LF]; done) | (repeat (first | with_reducible assumption | apply Ext.refl | apply Ext.app | (apply Ext.set <;> omega) | (refine Ext.trans ?_ (by assumption))))) only [AX, TY, AD, mapPut, entsOf, oneV, builtinV, idsOf, mapId, touchB, Nat.reduceLT, Nat.reduceLeDiff, Nat.reduceEqDiff, Nat.reduceAdd, Nat.reduceMul, Int.reduceBEq, Int.reduceEq, Int.reduceNeg, Int.reduceLT, Int.reduceLE, Int.reduceAdd, Int.reduceSub, Int.reduceMul, Int.reduceToNat, Int.reduceGT, Nat.reduceBEq, Nat.reducePow, Nat.reduceGT, reduceCtorEq, ↓reduceIte, u4, u12, u16, u87, u88, u89, d3, loadN_fact gx, eq_true ht]
      refine W.loop (fun m τ h9 => ∃ (k : Nat) (b : Bool), m + k = vs.length ∧ τ 4 = .int .i64 table ∧ τ 12 = .slice p3 rs.length c3 ∧ τ 16 = .slice p7 vs.length c7 ∧ τ 87 = .slice p3 rs.length c3 ∧ τ 88 = .int .i64 rs.length ∧ τ 89 = .int .i64 j ∧ τ 18 = .ptr (some (hh2.length, 0)) ∧ τ 19 = .bool b ∧ τ 115 = .slice p7 vs.length c7 ∧ τ 116 = .int .i64 vs.length ∧ τ 117 = .int .i64 k ∧ Ext g h9 ∧ (b = true ↔ ∃ v ∈ vs.take k, v.key = x.key)) ?_ (m := vs.length) ?_
      rotate_left
      · have i1 : false = true ↔ ∃ v ∈ vs.take 0, v.key = x.key := by simp
        have i2 : Ext g g := (Ext.refl _)
        refine ⟨0, false, by simp, ?_⟩
        simp -dsimp (disch := first | with_reducible assumption | omega | (intro h_; cases h_; done) | (simp only [LN] <;> omega) | (simp only [LF]; done) | (repeat (first | with_reducible assumption | apply Ext.refl | apply Ext.app | (apply Ext.set <;> omega) | (refine Ext.trans ?_ (by assumption))))) only [AX, TY, AD, mapPut, entsOf, oneV, builtinV, idsOf, mapId, touchB, Nat.reduceLT, Nat.reduceLeDiff, Nat.reduceEqDiff, Nat.reduceAdd, Nat.reduceMul, Int.reduceBEq, Int.reduceEq, Int.reduceNeg, Int.reduceLT, Int.reduceLE, Int.reduceAdd, Int.reduceSub, Int.reduceMul, Int.reduceToNat, Int.reduceGT, Nat.reduceBEq, Nat.reducePow, Nat.reduceGT, reduceCtorEq, ↓reduceIte, u4, u12, u16, u87, u88, u89]
        repeat' (first | assumption | refine And.intro ?_ ?_)
        all_goals first | rfl | omega | (simp; done) | (simp; omega; done) | skip
      rintro m3 τ3 h9 ⟨k, b, hm3, v4, v12, v16, v87, v88, v89, v18, v19, v115, v116, v117, e9, hbk⟩
      have gx9 := e9 _ _ gx
      have e79 := (e8.trans ex).trans e9
      by_cases d4 : (k : Int) < (vs.length : Int)
      rotate_left
      · rw [List.take_of_length_le (by omega)] at hbk
        have e89 := (e8.trans ex).trans e9
        have hfin : b = false → x.cr = 0 ∧ x.dl = 0 := fun hbf => by
          rcases hmem.2 with ⟨z1, z2⟩ | z
          · exfalso
            have : b = true := hbk.2 (by
              obtain ⟨y, hy, hy2⟩ := List.mem_map.1 z1
              have hsy : sees y.cr y.dl snap = true := by
                have a1 : y.cr = x.cr := congrArg Key.cr hy2
                have a2 : y.dl = x.dl := congrArg Key.dl hy2
                rw [a1, a2]; exact z2
              have : x.key ∈ vs.map Ver.key := by
                rw [hk7, ← hy2]
                exact List.mem_map_of_mem (List.mem_filter.2 ⟨hy, hsy⟩)
              exact List.mem_map.1 this)
            rw [hbf] at this; cases this
          · exact z
        cases b
        · obtain ⟨z1, z2⟩ := hfin rfl
          simp -dsimp (disch := first | with_reducible assumption | omega | (intro h_; cases h_; done) | (simp only [LN] <;> omega) | (simp only [LF]; done) | (repeat (first | with_reducible assumption | apply Ext.refl | apply Ext.app | (apply Ext.set <;> omega) | (refine Ext.trans ?_ (by assumption))))) only [AX, TY, AD, mapPut, entsOf, oneV, builtinV, idsOf, mapId, touchB, Nat.reduceLT, Nat.reduceLeDiff, Nat.reduceEqDiff, Nat.reduceAdd, Nat.reduceMul, Int.reduceBEq, Int.reduceEq, Int.reduceNeg, Int.reduceLT, Int.reduceLE, Int.reduceAdd, Int.reduceSub, Int.reduceMul, Int.reduceToNat, Int.reduceGT, Nat.reduceBEq, Nat.reducePow, Nat.reduceGT, reduceCtorEq, ↓reduceIte, v4, v12, v16, v87, v88, v89, v18, v19, v115, v116, v117, d4, loadN_fact gx9, eq_true z1, eq_true z2, wrap_in]
          refine ⟨m2 - 1, by omega, j + 1, ?_⟩
          repeat' (first | assumption | refine And.intro ?_ ?_)
          all_goals first | rfl | omega | (simp; done) | (simp; omega; done) | skip
        · simp -dsimp (disch := first | with_reducible assumption | omega | (intro h_; cases h_; done) | (simp only [LN] <;> omega) | (simp only [LF]; done) | (repeat (first | with_reducible assumption | apply Ext.refl | apply Ext.app | (apply Ext.set <;> omega) | (refine Ext.trans ?_ (by assumption))))) only [AX, TY, AD, mapPut, entsOf, oneV, builtinV, idsOf, mapId, touchB, Nat.reduceLT, Nat.reduceLeDiff, Nat.reduceEqDiff, Nat.reduceAdd, Nat.reduceMul, Int.reduceBEq, Int.reduceEq, Int.reduceNeg, Int.reduceLT, Int.reduceLE, Int.reduceAdd, Int.reduceSub, Int.reduceMul, Int.reduceToNat, Int.reduceGT, Nat.reduceBEq, Nat.reducePow, Nat.reduceGT, reduceCtorEq, ↓reduceIte, v4, v12, v16, v87, v88, v89, v18, v19, v115, v116, v117, d4, loadN_fact gx9, wrap_in]
          refine ⟨m2 - 1, by omega, j + 1, ?_⟩
          repeat' (first | assumption | refine And.intro ?_ ?_)
          all_goals first | rfl | omega | (simp; done) | (simp; omega; done) | skip
      have hk : k < vs.length := by omega
      have hom2 := List.getElem_mem hk
      have hla := hv7.sl.load0 e79 hk (m := 5) (by decide)
      have hvv := (hv7.ok _ hom2).ext e79
      have htk := List.take_succ_eq_append_getElem hk
      rw [tk] at hla
      generalize hvx' : vs[k] = y at hla hvv htk
      obtain ⟨g', hg', gy, ex', hgl'⟩ : ∃ g', h9 ++ [O.cells y.enc .rw] = g' ∧ g'[h9.length]? = some (O.cells y.enc .rw) ∧ Ext h9 g' ∧ g'.length = h9.length + 1 := ⟨_, rfl, by simp, (by (repeat (first | assumption | apply Ext.refl | apply Ext.app | (apply Ext.set <;> omega) | exact Ext.trans (by assumption) (by assumption) | (refine Ext.trans ?_ (by assumption))))), by simp⟩
      have gxx := ex' _ _ gx9
      have hver := version_ok (Sl.ext hvv ex') (Sl.ext hvx (((ex.trans e9).trans ex')))
      simp only [Ver.enc] at hla hg' gy hver
      cases b
      · simp -dsimp (disch := first | with_reducible assumption | omega | (intro h_; cases h_; done) | (simp only [LN] <;> omega) | (simp only [LF]; done) | (repeat (first | with_reducible assumption | apply Ext.refl | apply Ext.app | (apply Ext.set <;> omega) | (refine Ext.trans ?_ (by assumption))))) only [AX, TY, AD, mapPut, entsOf, oneV, builtinV, idsOf, mapId, touchB, Nat.reduceLT, Nat.reduceLeDiff, Nat.reduceEqDiff, Nat.reduceAdd, Nat.reduceMul, Int.reduceBEq, Int.reduceEq, Int.reduceNeg, Int.reduceLT, Int.reduceLE, Int.reduceAdd, Int.reduceSub, Int.reduceMul, Int.reduceToNat, Int.reduceGT, Nat.reduceBEq, Nat.reducePow, Nat.reduceGT, reduceCtorEq, ↓reduceIte, v4, v12, v16, v87, v88, v89, v18, v19, v115, v116, v117, d4, hla, hg', loadN_fact gy, loadN_fact gxx]
        refine hver.mono ?_
        rintro _ h10 ⟨e10, b, rfl, hb⟩
        have e910 := e9.trans (ex'.trans e10)
        have hb' : b = true ↔ ∃ v ∈ vs.take (k + 1), v.key = x.key := by
          rw [hb, htk]
          constructor
          · exact fun q => ⟨y, by simp, q⟩
          · rintro ⟨v, hv, q⟩
            rcases List.mem_append.1 hv with hv | hv
            · exact absurd (hbk.2 ⟨v, hv, q⟩) (by simp)
            · rw [List.mem_singleton] at hv; subst hv; exact q
        simp -dsimp (disch := first | with_reducible assumption | omega | (intro h_; cases h_; done) | (simp only [LN] <;> omega) | (simp only [LF]; done) | (repeat (first | with_reducible assumption | apply Ext.refl | apply Ext.app | (apply Ext.set <;> omega) | (refine Ext.trans ?_ (by assumption))))) only [AX, TY, AD, mapPut, entsOf, oneV, builtinV, idsOf, mapId, touchB, Nat.reduceLT, Nat.reduceLeDiff, Nat.reduceEqDiff, Nat.reduceAdd, Nat.reduceMul, Int.reduceBEq, Int.reduceEq, Int.reduceNeg, Int.reduceLT, Int.reduceLE, Int.reduceAdd, Int.reduceSub, Int.reduceMul, Int.reduceToNat, Int.reduceGT, Nat.reduceBEq, Nat.reducePow, Nat.reduceGT, reduceCtorEq, ↓reduceIte, v4, v12, v16, v87, v88, v89, v18, v19, v115, v116, v117, wrap_in]
        refine ⟨m3 - 1, by omega, k + 1, b, ?_⟩
        repeat' (first | assumption | refine And.intro ?_ ?_)
        all_goals first | rfl | omega | (simp; done) | (simp; omega; done) | skip
      · have e910 := e9.trans ex'
        have hb' : true = true ↔ ∃ v ∈ vs.take (k + 1), v.key = x.key := by
          simp only [true_iff]
          obtain ⟨v, hv, q⟩ := hbk.1 rfl
          exact ⟨v, by rw [htk]; exact List.mem_append_left _ hv, q⟩
        simp -dsimp (disch := first | with_reducible assumption | omega | (intro h_; cases h_; done) | (simp only [LN] <;> omega) | (simp only [LF]; done) | (repeat (first | with_reducible assumption | apply Ext.refl | apply Ext.app | (apply Ext.set <;> omega) | (refine Ext.trans ?_ (by assumption))))) only [AX, TY, AD, mapPut, entsOf, oneV, builtinV, idsOf, mapId, touchB, Nat.reduceLT, Nat.reduceLeDiff, Nat.reduceEqDiff, Nat.reduceAdd, Nat.reduceMul, Int.reduceBEq, Int.reduceEq, Int.reduceNeg, Int.reduceLT, Int.reduceLE, Int.reduceAdd, Int.reduceSub, Int.reduceMul, Int.reduceToNat, Int.reduceGT, Nat.reduceBEq, Nat.reducePow, Nat.reduceGT, reduceCtorEq, ↓reduceIte, v4, v12, v16, v87, v88, v89, v18, v19, v115, v116, v117, d4, hla, hg', loadN_fact gy, wrap_in]
        refine ⟨m3 - 1, by omega, k + 1, true, ?_⟩
        repeat' (first | assumption | refine And.intro ?_ ?_)
        all_goals first | rfl | omega | (simp; done) | (simp; omega; done) | skip
  have hi : i < ys.length := by omega
  have hom := List.getElem_mem hi
  have hla := hv.sl.load0 (e13.trans e) hi (m := 5) (by decide)
  have tk : ∀ x : Ver, x.enc.take 5 = x.enc := fun _ => rfl
  rw [tk] at hla
  have htk := List.take_succ_eq_append_getElem hi
  have hvx := (hv.ok _ hom).ext e13
  generalize hx : ys[i] = x at hla htk hvx
  obtain ⟨g, hg, gx, ex, hgl⟩ : ∃ g, hh ++ [O.cells x.enc .rw] = g ∧ g[hh.length]? = some (O.cells x.enc .rw) ∧ Ext hh g ∧ g.length = hh.length + 1 := ⟨_, rfl, by simp, (by (repeat (first | assumption | apply Ext.refl | apply Ext.app | (apply Ext.set <;> omega) | exact Ext.trans (by assumption) (by assumption) | (refine Ext.trans ?_ (by assumption))))), by simp⟩
  have gx' := gx
  simp only [Ver.enc] at hla hg gx
  by_cases q1 : x.cr ≤ snap
  rotate_left
  · have q1' : snap < x.cr := by omega
    have hk10 : zs.map Ver.key = ((((ys.take (i + 1)).map Ver.key).filter fun k => decide (k.cr ≤ snap)).map (Key.zero snap)) := by
      rw [htk, List.map_append, List.filter_append, List.map_append, hk, List.map_singleton, filter_one, if_neg (by rw [show decide (x.key.cr ≤ snap) = false from decide_eq_false q1]; exact Bool.false_ne_true), List.map_nil, List.append_nil]
    have gr2 := gr.ext ex
    have e2 := e.trans ex
    have hz2 : ∀ y ∈ zs, VOK g y ∧ ∀ a o, y.p = some (a, o) → a < h3.length := fun y hy => ⟨(hz y hy).1.ext ex, (hz y hy).2⟩
    simp -dsimp (disch := first | with_reducible assumption | omega | (intro h_; cases h_; done) | (simp only [LN] <;> omega) | (simp only [LF]; done) | (repeat (first | with_reducible assumption | apply Ext.refl | apply Ext.app | (apply Ext.set <;> omega) | (refine Ext.trans ?_ (by assumption))))) only [AX, TY, AD, mapPut, entsOf, oneV, builtinV, idsOf, mapId, touchB, Nat.reduceLT, Nat.reduceLeDiff, Nat.reduceEqDiff, Nat.reduceAdd, Nat.reduceMul, Int.reduceBEq, Int.reduceEq, Int.reduceNeg, Int.reduceLT, Int.reduceLE, Int.reduceAdd, Int.reduceSub, Int.reduceMul, Int.reduceToNat, Int.reduceGT, Nat.reduceBEq, Nat.reducePow, Nat.reduceGT, reduceCtorEq, ↓reduceIte, t0, t3, t4, t11, t12, t13, t49, t50, t51, d1, hla, hg, loadN_fact gx, q1', wrap_in]
    refine ⟨m - 1, by omega, i + 1, zs, po, co, oid, ?_⟩
    repeat' (first | assumption | refine And.intro ?_ ?_)
    all_goals first | rfl | omega | (simp; done) | (simp; omega; done) | skip
  have q1' : ¬ snap < x.cr := by omega
  by_cases q2 : snap < x.dl
  · obtain ⟨h5, hh5, gx5, kp5, l5⟩ : ∃ h5, g.set hh.length (.cells (Ver.enc ⟨x.a, x.b, x.p, x.c, x.vals, x.cr, 0⟩) .rw) = h5 ∧ h5[hh.length]? = some (.cells (Ver.enc ⟨x.a, x.b, x.p, x.c, x.vals, x.cr, 0⟩) .rw) ∧ (∀ a, a ≠ hh.length → h5[a]? = g[a]?) ∧ h5.length = g.length := ⟨_, rfl, set_same _ (by omega), fun a ha => set_other _ ha, by simp⟩
    have ex5 : Ext hh h5 := Ext.of_keep fun a ha => by rw [kp5 a (by omega)]; exact ex.same ha
    simp only [Ver.enc] at hh5 gx5
    simp -dsimp (disch := first | with_reducible assumption | omega | (intro h_; cases h_; done) | (simp only [LN] <;> omega) | (simp only [LF]; done) | (repeat (first | with_reducible assumption | apply Ext.refl | apply Ext.app | (apply Ext.set <;> omega) | (refine Ext.trans ?_ (by assumption))))) only [AX, TY, AD, mapPut, entsOf, oneV, builtinV, idsOf, mapId, touchB, Nat.reduceLT, Nat.reduceLeDiff, Nat.reduceEqDiff, Nat.reduceAdd, Nat.reduceMul, Int.reduceBEq, Int.reduceEq, Int.reduceNeg, Int.reduceLT, Int.reduceLE, Int.reduceAdd, Int.reduceSub, Int.reduceMul, Int.reduceToNat, Int.reduceGT, Nat.reduceBEq, Nat.reducePow, Nat.reduceGT, reduceCtorEq, ↓reduceIte, t0, t3, t4, t11, t12, t13, t49, t50, t51, d1, hla, hg, loadN_fact gx, q1', q2, storeN_fact gx (by simp), hh5, loadN_fact gx5]
    refine ((gr.ext ex5).wrB (by omega) (hh := h5 ++ [O.cells (Ver.enc (⟨x.a, x.b, x.p, x.c, x.vals, x.cr, 0⟩ : Ver)) .rw]) (by (repeat (first | assumption | apply Ext.refl | apply Ext.app | (apply Ext.set <;> omega) | exact Ext.trans (by assumption) (by assumption) | (refine Ext.trans ?_ (by assumption))))) [(⟨x.a, x.b, x.p, x.c, x.vals, x.cr, 0⟩ : Ver)] (snoc_last _ rfl) rfl (fun _ _ => rfl) (fun y hy => by rw [List.mem_singleton] at hy; subst hy; rfl) (by simp; omega) (by simp; omega)).mono ?_
    rintro r h10 ⟨p6, c6, o6, rfl, gr7, ho, hle7, hfr⟩
    have e10 : Ext h3 h10 := Ext.of_keep fun a ha => by
      rw [hfr a (fun q => by have := gr.base a q; omega) (by omega)]
      exact (e.trans ex5).same ha
    have hv10 : ∀ y ∈ zs ++ [(⟨x.a, x.b, x.p, x.c, x.vals, x.cr, 0⟩ : Ver)], VOK h10 y ∧ ∀ a o, y.p = some (a, o) → a < h3.length := fun y hy => by
      rcases List.mem_append.1 hy with hy | hy
      · obtain ⟨u1, u2⟩ := hz y hy
        exact ⟨Sl.keep (u1.ext ex5) fun a o z => hfr a (fun q => by have := gr.base a q; have := u2 a o z; omega) (by have := u2 a o z; omega), u2⟩
      · rw [List.mem_singleton] at hy; subst hy
        exact ⟨Sl.ext hvx e10, fun a o z => Sl.lt hvx z⟩
    have hk10 : (zs ++ [(⟨x.a, x.b, x.p, x.c, x.vals, x.cr, 0⟩ : Ver)]).map Ver.key = ((((ys.take (i + 1)).map Ver.key).filter fun k => decide (k.cr ≤ snap)).map (Key.zero snap)) := by
      rw [htk, List.map_append, List.map_append, List.filter_append, List.map_append, hk]
      congr 1
      simp only [List.map_cons, List.map_nil]
      rw [filter_one, if_pos (show decide (x.key.cr ≤ snap) = true from decide_eq_true q1)]
      simp only [List.map_cons, List.map_nil]
      congr 1
      simp [Ver.key, Key.zero, Key.nod, q2]
    have hl10 : (zs ++ [(⟨x.a, x.b, x.p, x.c, x.vals, x.cr, 0⟩ : Ver)]).length ≤ i + 1 := by simp; omega
    simp -dsimp (disch := first | with_reducible assumption | omega | (intro h_; cases h_; done) | (simp only [LN] <;> omega) | (simp only [LF]; done) | (repeat (first | with_reducible assumption | apply Ext.refl | apply Ext.app | (apply Ext.set <;> omega) | (refine Ext.trans ?_ (by assumption))))) only [AX, TY, AD, mapPut, entsOf, oneV, builtinV, idsOf, mapId, touchB, Nat.reduceLT, Nat.reduceLeDiff, Nat.reduceEqDiff, Nat.reduceAdd, Nat.reduceMul, Int.reduceBEq, Int.reduceEq, Int.reduceNeg, Int.reduceLT, Int.reduceLE, Int.reduceAdd, Int.reduceSub, Int.reduceMul, Int.reduceToNat, Int.reduceGT, Nat.reduceBEq, Nat.reducePow, Nat.reduceGT, reduceCtorEq, ↓reduceIte, t0, t3, t4, t11, t12, t13, t49, t50, t51, wrap_in]
    refine ⟨m - 1, by omega, i + 1, zs ++ [(⟨x.a, x.b, x.p, x.c, x.vals, x.cr, 0⟩ : Ver)], p6, c6, o6, ?_⟩
    repeat' (first | assumption | refine And.intro ?_ ?_)
    all_goals first | rfl | omega | (simp; done) | (simp; omega; done) | skip
  · simp -dsimp (disch := first | with_reducible assumption | omega | (intro h_; cases h_; done) | (simp only [LN] <;> omega) | (simp only [LF]; done) | (repeat (first | with_reducible assumption | apply Ext.refl | apply Ext.app | (apply Ext.set <;> omega) | (refine Ext.trans ?_ (by assumption))))) only [AX, TY, AD, mapPut, entsOf, oneV, builtinV, idsOf, mapId, touchB, Nat.reduceLT, Nat.reduceLeDiff, Nat.reduceEqDiff, Nat.reduceAdd, Nat.reduceMul, Int.reduceBEq, Int.reduceEq, Int.reduceNeg, Int.reduceLT, Int.reduceLE, Int.reduceAdd, Int.reduceSub, Int.reduceMul, Int.reduceToNat, Int.reduceGT, Nat.reduceBEq, Nat.reducePow, Nat.reduceGT, reduceCtorEq, ↓reduceIte, t0, t3, t4, t11, t12, t13, t49, t50, t51, d1, hla, hg, loadN_fact gx, q1', q2]
    refine ((gr.ext ex).wrB (by omega) (hh := g ++ [O.cells (Ver.enc x) .rw]) (by (repeat (first | assumption | apply Ext.refl | apply Ext.app | (apply Ext.set <;> omega) | exact Ext.trans (by assumption) (by assumption) | (refine Ext.trans ?_ (by assumption))))) [x] (snoc_last _ rfl) rfl (fun _ _ => rfl) (fun y hy => by rw [List.mem_singleton] at hy; subst hy; rfl) (by simp; omega) (by simp; omega)).mono ?_
    rintro r h10 ⟨p6, c6, o6, rfl, gr7, ho, hle7, hfr⟩
    have e10 : Ext h3 h10 := Ext.of_keep fun a ha => by
      rw [hfr a (fun q => by have := gr.base a q; omega) (by omega)]
      exact (e.trans ex).same ha
    have hv10 : ∀ y ∈ zs ++ [x], VOK h10 y ∧ ∀ a o, y.p = some (a, o) → a < h3.length := fun y hy => by
      rcases List.mem_append.1 hy with hy | hy
      · obtain ⟨u1, u2⟩ := hz y hy
        exact ⟨Sl.keep (u1.ext ex) fun a o z => hfr a (fun q => by have := gr.base a q; have := u2 a o z; omega) (by have := u2 a o z; omega), u2⟩
      · rw [List.mem_singleton] at hy; subst hy
        exact ⟨Sl.ext hvx e10, fun a o z => Sl.lt hvx z⟩
    have hk10 : (zs ++ [x]).map Ver.key = ((((ys.take (i + 1)).map Ver.key).filter fun k => decide (k.cr ≤ snap)).map (Key.zero snap)) := by
      rw [htk, List.map_append, List.map_append, List.filter_append, List.map_append, hk]
      congr 1
      simp only [List.map_cons, List.map_nil]
      rw [filter_one, if_pos (show decide (x.key.cr ≤ snap) = true from decide_eq_true q1)]
      simp only [List.map_cons, List.map_nil]
      congr 1
      simp [Ver.key, Key.zero, Key.nod, q2]
    have hl10 : (zs ++ [x]).length ≤ i + 1 := by simp; omega
    simp -dsimp (disch := first | with_reducible assumption | omega | (intro h_; cases h_; done) | (simp only [LN] <;> omega) | (simp only [LF]; done) | (repeat (first | with_reducible assumption | apply Ext.refl | apply Ext.app | (apply Ext.set <;> omega) | (refine Ext.trans ?_ (by assumption))))) only [AX, TY, AD, mapPut, entsOf, oneV, builtinV, idsOf, mapId, touchB, Nat.reduceLT, Nat.reduceLeDiff, Nat.reduceEqDiff, Nat.reduceAdd, Nat.reduceMul, Int.reduceBEq, Int.reduceEq, Int.reduceNeg, Int.reduceLT, Int.reduceLE, Int.reduceAdd, Int.reduceSub, Int.reduceMul, Int.reduceToNat, Int.reduceGT, Nat.reduceBEq, Nat.reducePow, Nat.reduceGT, reduceCtorEq, ↓reduceIte, t0, t3, t4, t11, t12, t13, t49, t50, t51, wrap_in]
    refine ⟨m - 1, by omega, i + 1, zs ++ [x], p6, c6, o6, ?_⟩
    repeat' (first | assumption | refine And.intro ?_ ?_)
    all_goals first | rfl | omega | (simp; done) | (simp; omega; done) | skip
end Go.Proofs.YtcaolnmpldbkjaaA
