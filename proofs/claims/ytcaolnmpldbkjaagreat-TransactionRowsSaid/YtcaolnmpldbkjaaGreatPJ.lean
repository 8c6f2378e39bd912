/- Words of this session: chapter 47: few; the reference's functions of identifiers and values, in memory. Words of this session: chapter 47: the reference's transaction, in memory. Words of this session: chapter 47: Insert and Delete of the reference. -/
import Derived.Test.YtcaolnmpldbkjaaGreatPE
namespace Go.Proofs.YtcaolnmpldbkjaaGreatA
open Go Go.Proofs Go.RowKit
set_option linter.unusedVariables false
set_option linter.unusedSimpArgs false
set_option maxRecDepth 10000
set_option maxHeartbeats 4000000
theorem few47_ok {h : Heap} {p q r : Option (Nat × Nat)} {c d e : Option Nat} {ds : List Td} {os : List Oq} {ys : List Ver} (hs : Tds h p ds) (ho : Oqs h q os) (hv : Vers h r ys) :
    WR (callE Tryz.prog hk 6 [.slice p ds.length c, .slice q os.length d, .slice r ys.length e] h) fun r h' => Ext h h' ∧ ∃ b, r = .bool b ∧ (b = true → ds.length ≤ 4 ∧ os.length ≤ 16 ∧ ys.length ≤ 16 ∧ (∀ d ∈ ds, d.cols.length ≤ 8 ∧ d.keys.length ≤ 8) ∧ (∀ o ∈ os, o.v.vals.length ≤ 10) ∧ ∀ y ∈ ys, y.vals.length ≤ 10) := by
  have hn1 := hs.sl.nil'
  have hn2 := ho.sl.nil'
  have hl1 := hs.sl.small
  have hl2 := ho.sl.small
  refine WR.call (hH := rfl) Tryz.func6 rfl (n := 58) rfl rfl (by simp) ?_
  by_cases c1 : 4 < (ds.length : Int)
  · simp -dsimp (disch := first | with_reducible assumption | omega | (intro h_; cases h_; done) | (simp only [LN] <;> omega) | (simp only [LF]; done) | (repeat (first | with_reducible assumption | apply Ext.refl | apply Ext.app | (apply Ext.set <;> omega) | (refine Ext.trans ?_ (by assumption))))) only [AX, TY, AD, mapPut, entsOf, oneV, builtinV, idsOf, mapId, touchB, Nat.reduceLT, Nat.reduceLeDiff, Nat.reduceEqDiff, Nat.reduceAdd, Nat.reduceMul, Int.reduceBEq, Int.reduceEq, Int.reduceNeg, Int.reduceLT, Int.reduceLE, Int.reduceAdd, Int.reduceSub, Int.reduceMul, Int.reduceToNat, Int.reduceGT, Nat.reduceBEq, Nat.reducePow, Nat.reduceGT, reduceCtorEq, ↓reduceIte, c1]
    exact ⟨(by (repeat (first | assumption | apply Ext.refl | apply Ext.app | (apply Ext.set <;> omega) | exact Ext.trans (by assumption) (by assumption) | (refine Ext.trans ?_ (by assumption))))), false, rfl, by simp⟩
  by_cases c2 : 16 < (os.length : Int)
  · simp -dsimp (disch := first | with_reducible assumption | omega | (intro h_; cases h_; done) | (simp only [LN] <;> omega) | (simp only [LF]; done) | (repeat (first | with_reducible assumption | apply Ext.refl | apply Ext.app | (apply Ext.set <;> omega) | (refine Ext.trans ?_ (by assumption))))) only [AX, TY, AD, mapPut, entsOf, oneV, builtinV, idsOf, mapId, touchB, Nat.reduceLT, Nat.reduceLeDiff, Nat.reduceEqDiff, Nat.reduceAdd, Nat.reduceMul, Int.reduceBEq, Int.reduceEq, Int.reduceNeg, Int.reduceLT, Int.reduceLE, Int.reduceAdd, Int.reduceSub, Int.reduceMul, Int.reduceToNat, Int.reduceGT, Nat.reduceBEq, Nat.reducePow, Nat.reduceGT, reduceCtorEq, ↓reduceIte, c1, c2]
    exact ⟨(by (repeat (first | assumption | apply Ext.refl | apply Ext.app | (apply Ext.set <;> omega) | exact Ext.trans (by assumption) (by assumption) | (refine Ext.trans ?_ (by assumption))))), false, rfl, by simp⟩
  simp -dsimp (disch := first | with_reducible assumption | omega | (intro h_; cases h_; done) | (simp only [LN] <;> omega) | (simp only [LF]; done) | (repeat (first | with_reducible assumption | apply Ext.refl | apply Ext.app | (apply Ext.set <;> omega) | (refine Ext.trans ?_ (by assumption))))) only [AX, TY, AD, mapPut, entsOf, oneV, builtinV, idsOf, mapId, touchB, Nat.reduceLT, Nat.reduceLeDiff, Nat.reduceEqDiff, Nat.reduceAdd, Nat.reduceMul, Int.reduceBEq, Int.reduceEq, Int.reduceNeg, Int.reduceLT, Int.reduceLE, Int.reduceAdd, Int.reduceSub, Int.reduceMul, Int.reduceToNat, Int.reduceGT, Nat.reduceBEq, Nat.reducePow, Nat.reduceGT, reduceCtorEq, ↓reduceIte, c1, c2]
  refine (few_ok hv 16).mono ?_
  rintro _ _ ⟨rfl, b, rfl, hb⟩
  cases b
  · simp -dsimp (disch := first | with_reducible assumption | omega | (intro h_; cases h_; done) | (simp only [LN] <;> omega) | (simp only [LF]; done) | (repeat (first | with_reducible assumption | apply Ext.refl | apply Ext.app | (apply Ext.set <;> omega) | (refine Ext.trans ?_ (by assumption))))) only [AX, TY, AD, mapPut, entsOf, oneV, builtinV, idsOf, mapId, touchB, Nat.reduceLT, Nat.reduceLeDiff, Nat.reduceEqDiff, Nat.reduceAdd, Nat.reduceMul, Int.reduceBEq, Int.reduceEq, Int.reduceNeg, Int.reduceLT, Int.reduceLE, Int.reduceAdd, Int.reduceSub, Int.reduceMul, Int.reduceToNat, Int.reduceGT, Nat.reduceBEq, Nat.reducePow, Nat.reduceGT, reduceCtorEq, ↓reduceIte]
    exact ⟨(by (repeat (first | assumption | apply Ext.refl | apply Ext.app | (apply Ext.set <;> omega) | exact Ext.trans (by assumption) (by assumption) | (refine Ext.trans ?_ (by assumption))))), false, rfl, by simp⟩
  obtain ⟨hb1, hb2⟩ := hb rfl
  simp -dsimp (disch := first | with_reducible assumption | omega | (intro h_; cases h_; done) | (simp only [LN] <;> omega) | (simp only [LF]; done) | (repeat (first | with_reducible assumption | apply Ext.refl | apply Ext.app | (apply Ext.set <;> omega) | (refine Ext.trans ?_ (by assumption))))) only [AX, TY, AD, mapPut, entsOf, oneV, builtinV, idsOf, mapId, touchB, Nat.reduceLT, Nat.reduceLeDiff, Nat.reduceEqDiff, Nat.reduceAdd, Nat.reduceMul, Int.reduceBEq, Int.reduceEq, Int.reduceNeg, Int.reduceLT, Int.reduceLE, Int.reduceAdd, Int.reduceSub, Int.reduceMul, Int.reduceToNat, Int.reduceGT, Nat.reduceBEq, Nat.reducePow, Nat.reduceGT, reduceCtorEq, ↓reduceIte]
  refine W.loop (fun m τ hh => h = hh ∧ ∃ i : Nat, m + i = ds.length ∧ τ 0 = .slice p ds.length c ∧ τ 1 = .slice q os.length d ∧ τ 7 = .int .i64 i ∧ ∀ x ∈ ds.take i, x.cols.length ≤ 8 ∧ x.keys.length ≤ 8) ?_ (m := ds.length) ?_
  rotate_left
  · exact ⟨rfl, 0, by simp, rfl, rfl, rfl, by simp⟩
  rintro m τ _ ⟨rfl, i, hm, t0, t1, t7, hall⟩
  by_cases h1 : (i : Int) < (ds.length : Int)
  · have hi : i < ds.length := by omega
    have htk := List.take_succ_eq_append_getElem hi
    have hla2 := hs.sl.load (.refl _) hi (o := 2) (m := 1) (by decide)
    have hla3 := hs.sl.load (.refl _) hi (o := 3) (m := 1) (by decide)
    generalize hx : ds[i] = x at htk hla2 hla3
    have f2 : ((x.enc).drop 2).take 1 = [.slice x.cp x.cols.length x.cc] := rfl
    have f3 : ((x.enc).drop 3).take 1 = [.slice x.kp x.keys.length x.kc] := rfl
    rw [f2] at hla2
    rw [f3] at hla3
    by_cases h2 : 8 < (x.cols.length : Int)
    · simp -dsimp (disch := first | with_reducible assumption | omega | (intro h_; cases h_; done) | (simp only [LN] <;> omega) | (simp only [LF]; done) | (repeat (first | with_reducible assumption | apply Ext.refl | apply Ext.app | (apply Ext.set <;> omega) | (refine Ext.trans ?_ (by assumption))))) only [AX, TY, AD, mapPut, entsOf, oneV, builtinV, idsOf, mapId, touchB, Nat.reduceLT, Nat.reduceLeDiff, Nat.reduceEqDiff, Nat.reduceAdd, Nat.reduceMul, Int.reduceBEq, Int.reduceEq, Int.reduceNeg, Int.reduceLT, Int.reduceLE, Int.reduceAdd, Int.reduceSub, Int.reduceMul, Int.reduceToNat, Int.reduceGT, Nat.reduceBEq, Nat.reducePow, Nat.reduceGT, reduceCtorEq, ↓reduceIte, t0, t1, t7, h1, hla2, hla3, h2]
      exact ⟨(by (repeat (first | assumption | apply Ext.refl | apply Ext.app | (apply Ext.set <;> omega) | exact Ext.trans (by assumption) (by assumption) | (refine Ext.trans ?_ (by assumption))))), false, rfl, by simp⟩
    by_cases h3 : 8 < (x.keys.length : Int)
    · simp -dsimp (disch := first | with_reducible assumption | omega | (intro h_; cases h_; done) | (simp only [LN] <;> omega) | (simp only [LF]; done) | (repeat (first | with_reducible assumption | apply Ext.refl | apply Ext.app | (apply Ext.set <;> omega) | (refine Ext.trans ?_ (by assumption))))) only [AX, TY, AD, mapPut, entsOf, oneV, builtinV, idsOf, mapId, touchB, Nat.reduceLT, Nat.reduceLeDiff, Nat.reduceEqDiff, Nat.reduceAdd, Nat.reduceMul, Int.reduceBEq, Int.reduceEq, Int.reduceNeg, Int.reduceLT, Int.reduceLE, Int.reduceAdd, Int.reduceSub, Int.reduceMul, Int.reduceToNat, Int.reduceGT, Nat.reduceBEq, Nat.reducePow, Nat.reduceGT, reduceCtorEq, ↓reduceIte, t0, t1, t7, h1, hla2, hla3, h2, h3]
      exact ⟨(by (repeat (first | assumption | apply Ext.refl | apply Ext.app | (apply Ext.set <;> omega) | exact Ext.trans (by assumption) (by assumption) | (refine Ext.trans ?_ (by assumption))))), false, rfl, by simp⟩
    have hall' : ∀ y ∈ ds.take (i + 1), y.cols.length ≤ 8 ∧ y.keys.length ≤ 8 := fun y hy => by
      rw [htk] at hy
      rcases List.mem_append.1 hy with hy | hy
      · exact hall y hy
      · rw [List.mem_singleton] at hy; subst hy; omega
    simp -dsimp (disch := first | with_reducible assumption | omega | (intro h_; cases h_; done) | (simp only [LN] <;> omega) | (simp only [LF]; done) | (repeat (first | with_reducible assumption | apply Ext.refl | apply Ext.app | (apply Ext.set <;> omega) | (refine Ext.trans ?_ (by assumption))))) only [AX, TY, AD, mapPut, entsOf, oneV, builtinV, idsOf, mapId, touchB, Nat.reduceLT, Nat.reduceLeDiff, Nat.reduceEqDiff, Nat.reduceAdd, Nat.reduceMul, Int.reduceBEq, Int.reduceEq, Int.reduceNeg, Int.reduceLT, Int.reduceLE, Int.reduceAdd, Int.reduceSub, Int.reduceMul, Int.reduceToNat, Int.reduceGT, Nat.reduceBEq, Nat.reducePow, Nat.reduceGT, reduceCtorEq, ↓reduceIte, t0, t1, t7, h1, hla2, hla3, h2, h3, wrap_in]
    refine ⟨m - 1, by omega, i + 1, ?_⟩
    repeat' (first | assumption | refine And.intro ?_ ?_)
    all_goals first | rfl | omega | (simp; done) | (simp; omega; done) | skip
  rw [List.take_of_length_le (by omega)] at hall
  simp -dsimp (disch := first | with_reducible assumption | omega | (intro h_; cases h_; done) | (simp only [LN] <;> omega) | (simp only [LF]; done) | (repeat (first | with_reducible assumption | apply Ext.refl | apply Ext.app | (apply Ext.set <;> omega) | (refine Ext.trans ?_ (by assumption))))) only [AX, TY, AD, mapPut, entsOf, oneV, builtinV, idsOf, mapId, touchB, Nat.reduceLT, Nat.reduceLeDiff, Nat.reduceEqDiff, Nat.reduceAdd, Nat.reduceMul, Int.reduceBEq, Int.reduceEq, Int.reduceNeg, Int.reduceLT, Int.reduceLE, Int.reduceAdd, Int.reduceSub, Int.reduceMul, Int.reduceToNat, Int.reduceGT, Nat.reduceBEq, Nat.reducePow, Nat.reduceGT, reduceCtorEq, ↓reduceIte, t0, t1, t7, h1]
  refine W.loop (fun m τ hh => Ext h hh ∧ ∃ i : Nat, m + i = os.length ∧ τ 1 = .slice q os.length d ∧ τ 8 = .int .i64 i ∧ ∀ x ∈ os.take i, x.v.vals.length ≤ 10) ?_ (m := os.length) ?_
  rotate_left
  · refine ⟨(by (repeat (first | assumption | apply Ext.refl | apply Ext.app | (apply Ext.set <;> omega) | exact Ext.trans (by assumption) (by assumption) | (refine Ext.trans ?_ (by assumption))))), 0, by simp, ?_⟩
    simp -dsimp (disch := first | with_reducible assumption | omega | (intro h_; cases h_; done) | (simp only [LN] <;> omega) | (simp only [LF]; done) | (repeat (first | with_reducible assumption | apply Ext.refl | apply Ext.app | (apply Ext.set <;> omega) | (refine Ext.trans ?_ (by assumption))))) only [AX, TY, AD, mapPut, entsOf, oneV, builtinV, idsOf, mapId, touchB, Nat.reduceLT, Nat.reduceLeDiff, Nat.reduceEqDiff, Nat.reduceAdd, Nat.reduceMul, Int.reduceBEq, Int.reduceEq, Int.reduceNeg, Int.reduceLT, Int.reduceLE, Int.reduceAdd, Int.reduceSub, Int.reduceMul, Int.reduceToNat, Int.reduceGT, Nat.reduceBEq, Nat.reducePow, Nat.reduceGT, reduceCtorEq, ↓reduceIte, t0, t1, t7]
    repeat' (first | assumption | refine And.intro ?_ ?_)
    all_goals first | rfl | omega | (simp; done) | (simp; omega; done) | skip
  rintro m2 τ2 hh ⟨e2, j, hm2, u1, u8, hall2⟩
  by_cases h1 : (j : Int) < (os.length : Int)
  rotate_left
  · rw [List.take_of_length_le (by omega)] at hall2
    simp -dsimp (disch := first | with_reducible assumption | omega | (intro h_; cases h_; done) | (simp only [LN] <;> omega) | (simp only [LF]; done) | (repeat (first | with_reducible assumption | apply Ext.refl | apply Ext.app | (apply Ext.set <;> omega) | (refine Ext.trans ?_ (by assumption))))) only [AX, TY, AD, mapPut, entsOf, oneV, builtinV, idsOf, mapId, touchB, Nat.reduceLT, Nat.reduceLeDiff, Nat.reduceEqDiff, Nat.reduceAdd, Nat.reduceMul, Int.reduceBEq, Int.reduceEq, Int.reduceNeg, Int.reduceLT, Int.reduceLE, Int.reduceAdd, Int.reduceSub, Int.reduceMul, Int.reduceToNat, Int.reduceGT, Nat.reduceBEq, Nat.reducePow, Nat.reduceGT, reduceCtorEq, ↓reduceIte, u1, u8, h1]
    exact ⟨e2, true, rfl, fun _ => ⟨by omega, by omega, by omega, hall, hall2, hb2⟩⟩
  have hj : j < os.length := by omega
  have htk := List.take_succ_eq_append_getElem hj
  have hla := ho.sl.load e2 hj (o := 1) (m := 5) (by decide)
  have hvk := ho.ok _ (List.getElem_mem hj)
  generalize hx : os[j] = x at htk hla hvk
  have f2 : ((x.enc).drop 1).take 5 = x.v.enc := rfl
  rw [f2] at hla
  obtain ⟨g, hg, gx, ex, hgl⟩ : ∃ g, hh ++ [O.cells x.v.enc .rw] = g ∧ g[hh.length]? = some (O.cells x.v.enc .rw) ∧ Ext hh g ∧ g.length = hh.length + 1 := ⟨_, rfl, by simp, (by (repeat (first | assumption | apply Ext.refl | apply Ext.app | (apply Ext.set <;> omega) | exact Ext.trans (by assumption) (by assumption) | (refine Ext.trans ?_ (by assumption))))), by simp⟩
  have hfew := few_ok (h := g) (p := some (hh.length, 0)) (c := some 1) (ys := [x.v]) ⟨Sl.whole gx (fun y hy => by rw [List.mem_singleton] at hy; subst hy; rfl) (by simp) (by simp), fun y hy => by rw [List.mem_singleton] at hy; subst hy; exact Sl.ext hvk (e2.trans ex)⟩ 1
  simp only [Ver.enc] at hla hg gx
  simp only [List.length_cons, List.length_nil, Nat.zero_add] at hfew
  simp -dsimp (disch := first | with_reducible assumption | omega | (intro h_; cases h_; done) | (simp only [LN] <;> omega) | (simp only [LF]; done) | (repeat (first | with_reducible assumption | apply Ext.refl | apply Ext.app | (apply Ext.set <;> omega) | (refine Ext.trans ?_ (by assumption))))) only [AX, TY, AD, mapPut, entsOf, oneV, builtinV, idsOf, mapId, touchB, Nat.reduceLT, Nat.reduceLeDiff, Nat.reduceEqDiff, Nat.reduceAdd, Nat.reduceMul, Int.reduceBEq, Int.reduceEq, Int.reduceNeg, Int.reduceLT, Int.reduceLE, Int.reduceAdd, Int.reduceSub, Int.reduceMul, Int.reduceToNat, Int.reduceGT, Nat.reduceBEq, Nat.reducePow, Nat.reduceGT, reduceCtorEq, ↓reduceIte, u1, u8, h1, hla, hg]
  refine hfew.mono ?_
  rintro _ _ ⟨rfl, b, rfl, hb⟩
  cases b
  · simp -dsimp (disch := first | with_reducible assumption | omega | (intro h_; cases h_; done) | (simp only [LN] <;> omega) | (simp only [LF]; done) | (repeat (first | with_reducible assumption | apply Ext.refl | apply Ext.app | (apply Ext.set <;> omega) | (refine Ext.trans ?_ (by assumption))))) only [AX, TY, AD, mapPut, entsOf, oneV, builtinV, idsOf, mapId, touchB, Nat.reduceLT, Nat.reduceLeDiff, Nat.reduceEqDiff, Nat.reduceAdd, Nat.reduceMul, Int.reduceBEq, Int.reduceEq, Int.reduceNeg, Int.reduceLT, Int.reduceLE, Int.reduceAdd, Int.reduceSub, Int.reduceMul, Int.reduceToNat, Int.reduceGT, Nat.reduceBEq, Nat.reducePow, Nat.reduceGT, reduceCtorEq, ↓reduceIte]
    exact ⟨e2.trans ex, false, rfl, by simp⟩
  have hbb := (hb rfl).2 x.v (by simp)
  have hall' : ∀ y ∈ os.take (j + 1), y.v.vals.length ≤ 10 := fun y hy => by
    rw [htk] at hy
    rcases List.mem_append.1 hy with hy | hy
    · exact hall2 y hy
    · rw [List.mem_singleton] at hy; subst hy; exact hbb
  simp -dsimp (disch := first | with_reducible assumption | omega | (intro h_; cases h_; done) | (simp only [LN] <;> omega) | (simp only [LF]; done) | (repeat (first | with_reducible assumption | apply Ext.refl | apply Ext.app | (apply Ext.set <;> omega) | (refine Ext.trans ?_ (by assumption))))) only [AX, TY, AD, mapPut, entsOf, oneV, builtinV, idsOf, mapId, touchB, Nat.reduceLT, Nat.reduceLeDiff, Nat.reduceEqDiff, Nat.reduceAdd, Nat.reduceMul, Int.reduceBEq, Int.reduceEq, Int.reduceNeg, Int.reduceLT, Int.reduceLE, Int.reduceAdd, Int.reduceSub, Int.reduceMul, Int.reduceToNat, Int.reduceGT, Nat.reduceBEq, Nat.reducePow, Nat.reduceGT, reduceCtorEq, ↓reduceIte, u1, u8, wrap_in]
  refine ⟨m2 - 1, by omega, e2.trans ex, j + 1, ?_⟩
  repeat' (first | assumption | refine And.intro ?_ ?_)
  all_goals first | rfl | omega | (simp; done) | (simp; omega; done) | skip
theorem same_ok {h : Heap} {p q : Option (Nat × Nat)} {c d : Option Nat} {xs ys : List Ver} (hx : Vers h p xs) (hy : Vers h q ys) : WR (callE Tryz.prog hk 9 [.slice p xs.length c, .slice q ys.length d] h) fun r h' => Ext h h' ∧ ∃ b, r = .bool b ∧ (b = true ↔ xs.map Ver.key = ys.map Ver.key) := by
  have hnx := hx.sl.nil'
  have hny := hy.sl.nil'
  have hlx := hx.sl.small
  have hly := hy.sl.small
  refine WR.call (hH := rfl) Tryz.func9 rfl (n := 27) rfl rfl (by simp) ?_
  by_cases h0 : (xs.length : Int) = (ys.length : Int)
  rotate_left
  · simp -dsimp (disch := first | with_reducible assumption | omega | (intro h_; cases h_; done) | (simp only [LN] <;> omega) | (simp only [LF]; done) | (repeat (first | with_reducible assumption | apply Ext.refl | apply Ext.app | (apply Ext.set <;> omega) | (refine Ext.trans ?_ (by assumption))))) only [AX, TY, AD, mapPut, entsOf, oneV, builtinV, idsOf, mapId, touchB, Nat.reduceLT, Nat.reduceLeDiff, Nat.reduceEqDiff, Nat.reduceAdd, Nat.reduceMul, Int.reduceBEq, Int.reduceEq, Int.reduceNeg, Int.reduceLT, Int.reduceLE, Int.reduceAdd, Int.reduceSub, Int.reduceMul, Int.reduceToNat, Int.reduceGT, Nat.reduceBEq, Nat.reducePow, Nat.reduceGT, reduceCtorEq, ↓reduceIte, h0]
    refine ⟨(by (repeat (first | assumption | apply Ext.refl | apply Ext.app | (apply Ext.set <;> omega) | exact Ext.trans (by assumption) (by assumption) | (refine Ext.trans ?_ (by assumption))))), false, rfl, ?_⟩
    simp only [Bool.false_eq_true, false_iff]
    intro e; have := congrArg List.length e; simp at this; omega
  simp -dsimp (disch := first | with_reducible assumption | omega | (intro h_; cases h_; done) | (simp only [LN] <;> omega) | (simp only [LF]; done) | (repeat (first | with_reducible assumption | apply Ext.refl | apply Ext.app | (apply Ext.set <;> omega) | (refine Ext.trans ?_ (by assumption))))) only [AX, TY, AD, mapPut, entsOf, oneV, builtinV, idsOf, mapId, touchB, Nat.reduceLT, Nat.reduceLeDiff, Nat.reduceEqDiff, Nat.reduceAdd, Nat.reduceMul, Int.reduceBEq, Int.reduceEq, Int.reduceNeg, Int.reduceLT, Int.reduceLE, Int.reduceAdd, Int.reduceSub, Int.reduceMul, Int.reduceToNat, Int.reduceGT, Nat.reduceBEq, Nat.reducePow, Nat.reduceGT, reduceCtorEq, ↓reduceIte, eq_true h0]
  refine W.loop (fun m τ hh => Ext h hh ∧ ∃ i : Nat, m + i = xs.length ∧ τ 0 = .slice p xs.length c ∧ τ 1 = .slice q ys.length d ∧ τ 5 = .int .i64 i ∧ (xs.map Ver.key).take i = (ys.map Ver.key).take i) ?_ (m := xs.length) ?_
  rotate_left
  · exact ⟨(by (repeat (first | assumption | apply Ext.refl | apply Ext.app | (apply Ext.set <;> omega) | exact Ext.trans (by assumption) (by assumption) | (refine Ext.trans ?_ (by assumption))))), 0, by simp, rfl, rfl, rfl, by simp⟩
  rintro m τ hh ⟨e, i, hm, t0, t1, t5, heq⟩
  by_cases h1 : (i : Int) < (xs.length : Int)
  · have hi : i < xs.length := by omega
    have hj : i < ys.length := by omega
    simp -dsimp (disch := first | with_reducible assumption | omega | (intro h_; cases h_; done) | (simp only [LN] <;> omega) | (simp only [LF]; done) | (repeat (first | with_reducible assumption | apply Ext.refl | apply Ext.app | (apply Ext.set <;> omega) | (refine Ext.trans ?_ (by assumption))))) only [AX, TY, AD, mapPut, entsOf, oneV, builtinV, idsOf, mapId, touchB, Nat.reduceLT, Nat.reduceLeDiff, Nat.reduceEqDiff, Nat.reduceAdd, Nat.reduceMul, Int.reduceBEq, Int.reduceEq, Int.reduceNeg, Int.reduceLT, Int.reduceLE, Int.reduceAdd, Int.reduceSub, Int.reduceMul, Int.reduceToNat, Int.reduceGT, Nat.reduceBEq, Nat.reducePow, Nat.reduceGT, reduceCtorEq, ↓reduceIte, t0, t1, t5, h1]
    refine W.drawn [(0, []), (1, [0]), (2, []), (3, []), (4, [3, 2, 1, 0]), (5, [4, 3, 2, 1, 0]), (6, [3, 2, 1, 0]), (7, [3, 2, 1, 0]), (8, []), (9, [])] (by decide +kernel) ?_
    simp -dsimp (disch := first | with_reducible assumption | omega | (intro h_; cases h_; done) | (simp only [LN] <;> omega) | (simp only [LF]; done) | (repeat (first | with_reducible assumption | apply Ext.refl | apply Ext.app | (apply Ext.set <;> omega) | (refine Ext.trans ?_ (by assumption))))) only [AX, TY, AD, mapPut, entsOf, oneV, builtinV, idsOf, mapId, touchB, Nat.reduceLT, Nat.reduceLeDiff, Nat.reduceEqDiff, Nat.reduceAdd, Nat.reduceMul, Int.reduceBEq, Int.reduceEq, Int.reduceNeg, Int.reduceLT, Int.reduceLE, Int.reduceAdd, Int.reduceSub, Int.reduceMul, Int.reduceToNat, Int.reduceGT, Nat.reduceBEq, Nat.reducePow, Nat.reduceGT, reduceCtorEq, ↓reduceIte, t0, t1, t5, hx.sl.load0, hy.sl.load0]
    rw [List.take_of_length_le (by rw [hx.sl.width _ (List.getElem_mem hi)]; omega), List.take_of_length_le (by rw [hy.sl.width _ (List.getElem_mem hj)]; omega)]
    refine (version_ok ((hx.ok _ (List.getElem_mem hi)).ext e) ((hy.ok _ (List.getElem_mem hj)).ext e)).mono ?_
    rintro _ h2 ⟨e2, b, rfl, hb⟩
    have hgx : (xs.map Ver.key)[i]? = some xs[i].key := by simp [hi]
    have hgy : (ys.map Ver.key)[i]? = some ys[i].key := by simp [hj]
    cases b
    · simp -dsimp (disch := first | with_reducible assumption | omega | (intro h_; cases h_; done) | (simp only [LN] <;> omega) | (simp only [LF]; done) | (repeat (first | with_reducible assumption | apply Ext.refl | apply Ext.app | (apply Ext.set <;> omega) | (refine Ext.trans ?_ (by assumption))))) only [AX, TY, AD, mapPut, entsOf, oneV, builtinV, idsOf, mapId, touchB, Nat.reduceLT, Nat.reduceLeDiff, Nat.reduceEqDiff, Nat.reduceAdd, Nat.reduceMul, Int.reduceBEq, Int.reduceEq, Int.reduceNeg, Int.reduceLT, Int.reduceLE, Int.reduceAdd, Int.reduceSub, Int.reduceMul, Int.reduceToNat, Int.reduceGT, Nat.reduceBEq, Nat.reducePow, Nat.reduceGT, reduceCtorEq, ↓reduceIte]
      refine ⟨e.trans e2, false, rfl, ?_⟩
      simp only [Bool.false_eq_true, false_iff] at hb ⊢
      intro e; rw [e, hgy] at hgx; simp only [Option.some.injEq] at hgx; exact hb hgx.symm
    · simp -dsimp (disch := first | with_reducible assumption | omega | (intro h_; cases h_; done) | (simp only [LN] <;> omega) | (simp only [LF]; done) | (repeat (first | with_reducible assumption | apply Ext.refl | apply Ext.app | (apply Ext.set <;> omega) | (refine Ext.trans ?_ (by assumption))))) only [AX, TY, AD, mapPut, entsOf, oneV, builtinV, idsOf, mapId, touchB, Nat.reduceLT, Nat.reduceLeDiff, Nat.reduceEqDiff, Nat.reduceAdd, Nat.reduceMul, Int.reduceBEq, Int.reduceEq, Int.reduceNeg, Int.reduceLT, Int.reduceLE, Int.reduceAdd, Int.reduceSub, Int.reduceMul, Int.reduceToNat, Int.reduceGT, Nat.reduceBEq, Nat.reducePow, Nat.reduceGT, reduceCtorEq, ↓reduceIte, t0, t1, t5, wrap_in]
      refine ⟨m - 1, by omega, e.trans e2, i + 1, by omega, by simp, ?_⟩
      rw [List.take_add_one, List.take_add_one, heq, hgx, hgy, hb.1 rfl]
  · simp -dsimp (disch := first | with_reducible assumption | omega | (intro h_; cases h_; done) | (simp only [LN] <;> omega) | (simp only [LF]; done) | (repeat (first | with_reducible assumption | apply Ext.refl | apply Ext.app | (apply Ext.set <;> omega) | (refine Ext.trans ?_ (by assumption))))) only [AX, TY, AD, mapPut, entsOf, oneV, builtinV, idsOf, mapId, touchB, Nat.reduceLT, Nat.reduceLeDiff, Nat.reduceEqDiff, Nat.reduceAdd, Nat.reduceMul, Int.reduceBEq, Int.reduceEq, Int.reduceNeg, Int.reduceLT, Int.reduceLE, Int.reduceAdd, Int.reduceSub, Int.reduceMul, Int.reduceToNat, Int.reduceGT, Nat.reduceBEq, Nat.reducePow, Nat.reduceGT, reduceCtorEq, ↓reduceIte, t0, t1, t5, h1]
    refine ⟨e, true, rfl, ?_⟩
    rw [List.take_of_length_le (by simp; omega), List.take_of_length_le (by simp; omega)] at heq
    simp [heq]

/-- The order of two identifiers, as the reference tells it. -/
def cmpS (x y : Rid) : Int := if x.a = y.a ∧ x.b = y.b then 0 else if x.a < y.a ∨ x.a = y.a ∧ x.b < y.b then -1 else 1
theorem cmpS_ok {h : Heap} (x y : Rid) : WR (callE Tryz.prog hk 69 [.agg x.enc, .agg y.enc] h) fun r h' => Ext h h' ∧ r = .int .i64 (cmpS x y) := by
  refine WR.call (hH := rfl) Tryz.func69 rfl (n := 27) rfl rfl (by simp) ?_
  obtain ⟨g, hg, g1, g2, ex, hl⟩ : ∃ g, h ++ [O.cells x.enc .rw] ++ [O.cells y.enc .rw] = g ∧ g[h.length]? = some (O.cells x.enc .rw) ∧ g[h.length + 1]? = some (O.cells y.enc .rw) ∧ Ext h g ∧ g.length = h.length + 2 := ⟨_, rfl, by simp, by simp, (by (repeat (first | assumption | apply Ext.refl | apply Ext.app | (apply Ext.set <;> omega) | exact Ext.trans (by assumption) (by assumption) | (refine Ext.trans ?_ (by assumption))))), by simp⟩
  simp only [Rid.enc] at hg g1 g2
  by_cases c0 : x.a = y.a ∧ x.b = y.b
  · have hc : cmpS x y = 0 := by unfold cmpS; rw [if_pos c0]
    obtain ⟨c1, c2⟩ := c0
    simp -dsimp (disch := first | with_reducible assumption | omega | (intro h_; cases h_; done) | (simp only [LN] <;> omega) | (simp only [LF]; done) | (repeat (first | with_reducible assumption | apply Ext.refl | apply Ext.app | (apply Ext.set <;> omega) | (refine Ext.trans ?_ (by assumption))))) only [AX, TY, AD, mapPut, entsOf, oneV, builtinV, idsOf, mapId, touchB, Nat.reduceLT, Nat.reduceLeDiff, Nat.reduceEqDiff, Nat.reduceAdd, Nat.reduceMul, Int.reduceBEq, Int.reduceEq, Int.reduceNeg, Int.reduceLT, Int.reduceLE, Int.reduceAdd, Int.reduceSub, Int.reduceMul, Int.reduceToNat, Int.reduceGT, Nat.reduceBEq, Nat.reducePow, Nat.reduceGT, reduceCtorEq, ↓reduceIte, Rid.enc, hg, loadN_fact g1, loadN_fact g2, eqt_33, eq_true c1, eq_true c2, hc]
    exact ex
  by_cases c : x.a < y.a
  · have hc : cmpS x y = -1 := by unfold cmpS; rw [if_neg c0, if_pos (.inl c)]
    simp -dsimp (disch := first | with_reducible assumption | omega | (intro h_; cases h_; done) | (simp only [LN] <;> omega) | (simp only [LF]; done) | (repeat (first | with_reducible assumption | apply Ext.refl | apply Ext.app | (apply Ext.set <;> omega) | (refine Ext.trans ?_ (by assumption))))) only [AX, TY, AD, mapPut, entsOf, oneV, builtinV, idsOf, mapId, touchB, Nat.reduceLT, Nat.reduceLeDiff, Nat.reduceEqDiff, Nat.reduceAdd, Nat.reduceMul, Int.reduceBEq, Int.reduceEq, Int.reduceNeg, Int.reduceLT, Int.reduceLE, Int.reduceAdd, Int.reduceSub, Int.reduceMul, Int.reduceToNat, Int.reduceGT, Nat.reduceBEq, Nat.reducePow, Nat.reduceGT, reduceCtorEq, ↓reduceIte, Rid.enc, hg, loadN_fact g1, loadN_fact g2, eqt_33, c0, c, hc]
    exact ex
  by_cases c1 : x.a = y.a
  · have c3 : ¬ x.b = y.b := fun e => c0 ⟨c1, e⟩
    by_cases c2 : x.b < y.b
    · have hc : cmpS x y = -1 := by unfold cmpS; rw [if_neg c0, if_pos (.inr ⟨c1, c2⟩)]
      simp -dsimp (disch := first | with_reducible assumption | omega | (intro h_; cases h_; done) | (simp only [LN] <;> omega) | (simp only [LF]; done) | (repeat (first | with_reducible assumption | apply Ext.refl | apply Ext.app | (apply Ext.set <;> omega) | (refine Ext.trans ?_ (by assumption))))) only [AX, TY, AD, mapPut, entsOf, oneV, builtinV, idsOf, mapId, touchB, Nat.reduceLT, Nat.reduceLeDiff, Nat.reduceEqDiff, Nat.reduceAdd, Nat.reduceMul, Int.reduceBEq, Int.reduceEq, Int.reduceNeg, Int.reduceLT, Int.reduceLE, Int.reduceAdd, Int.reduceSub, Int.reduceMul, Int.reduceToNat, Int.reduceGT, Nat.reduceBEq, Nat.reducePow, Nat.reduceGT, reduceCtorEq, ↓reduceIte, Rid.enc, hg, loadN_fact g1, loadN_fact g2, eqt_33, c0, c, eq_true c1, eq_true c2, c3, hc]
      exact ex
    · have hc : cmpS x y = 1 := by unfold cmpS; rw [if_neg c0, if_neg (by omega)]
      simp -dsimp (disch := first | with_reducible assumption | omega | (intro h_; cases h_; done) | (simp only [LN] <;> omega) | (simp only [LF]; done) | (repeat (first | with_reducible assumption | apply Ext.refl | apply Ext.app | (apply Ext.set <;> omega) | (refine Ext.trans ?_ (by assumption))))) only [AX, TY, AD, mapPut, entsOf, oneV, builtinV, idsOf, mapId, touchB, Nat.reduceLT, Nat.reduceLeDiff, Nat.reduceEqDiff, Nat.reduceAdd, Nat.reduceMul, Int.reduceBEq, Int.reduceEq, Int.reduceNeg, Int.reduceLT, Int.reduceLE, Int.reduceAdd, Int.reduceSub, Int.reduceMul, Int.reduceToNat, Int.reduceGT, Nat.reduceBEq, Nat.reducePow, Nat.reduceGT, reduceCtorEq, ↓reduceIte, Rid.enc, hg, loadN_fact g1, loadN_fact g2, eqt_33, c0, c, eq_true c1, c2, c3, hc]
      exact ex
  · have hc : cmpS x y = 1 := by unfold cmpS; rw [if_neg c0, if_neg (by omega)]
    simp -dsimp (disch := first | with_reducible assumption | omega | (intro h_; cases h_; done) | (simp only [LN] <;> omega) | (simp only [LF]; done) | (repeat (first | with_reducible assumption | apply Ext.refl | apply Ext.app | (apply Ext.set <;> omega) | (refine Ext.trans ?_ (by assumption))))) only [AX, TY, AD, mapPut, entsOf, oneV, builtinV, idsOf, mapId, touchB, Nat.reduceLT, Nat.reduceLeDiff, Nat.reduceEqDiff, Nat.reduceAdd, Nat.reduceMul, Int.reduceBEq, Int.reduceEq, Int.reduceNeg, Int.reduceLT, Int.reduceLE, Int.reduceAdd, Int.reduceSub, Int.reduceMul, Int.reduceToNat, Int.reduceGT, Nat.reduceBEq, Nat.reducePow, Nat.reduceGT, reduceCtorEq, ↓reduceIte, Rid.enc, hg, loadN_fact g1, loadN_fact g2, eqt_33, c0, c, c1, hc, false_and]
    exact ex
theorem valid02_ok {h : Heap} (a b : Int) : WR (callE Tryz.prog hk 58 [.agg [.int .i64 a, .int .i64 b]] h) fun r h' => Ext h h' ∧ r = .bool (decide (1 ≤ a) && decide (1 ≤ b)) := by
  refine WR.call (hH := rfl) Tryz.func58 rfl (n := 11) rfl rfl (by simp) ?_
  obtain ⟨g, hg, gx, ex⟩ : ∃ g, h ++ [O.cells [V.int .i64 a, V.int .i64 b] .rw] = g ∧ g[h.length]? = some (O.cells [V.int .i64 a, V.int .i64 b] .rw) ∧ Ext h g := ⟨_, rfl, by simp, (by (repeat (first | assumption | apply Ext.refl | apply Ext.app | (apply Ext.set <;> omega) | exact Ext.trans (by assumption) (by assumption) | (refine Ext.trans ?_ (by assumption)))))⟩
  cases h1 : decide (1 ≤ a)
  · simp -dsimp (disch := first | with_reducible assumption | omega | (intro h_; cases h_; done) | (simp only [LN] <;> omega) | (simp only [LF]; done) | (repeat (first | with_reducible assumption | apply Ext.refl | apply Ext.app | (apply Ext.set <;> omega) | (refine Ext.trans ?_ (by assumption))))) only [AX, TY, AD, mapPut, entsOf, oneV, builtinV, idsOf, mapId, touchB, Nat.reduceLT, Nat.reduceLeDiff, Nat.reduceEqDiff, Nat.reduceAdd, Nat.reduceMul, Int.reduceBEq, Int.reduceEq, Int.reduceNeg, Int.reduceLT, Int.reduceLE, Int.reduceAdd, Int.reduceSub, Int.reduceMul, Int.reduceToNat, Int.reduceGT, Nat.reduceBEq, Nat.reducePow, Nat.reduceGT, reduceCtorEq, ↓reduceIte, hg, loadN_fact gx, h1]
    exact ex
  · simp -dsimp (disch := first | with_reducible assumption | omega | (intro h_; cases h_; done) | (simp only [LN] <;> omega) | (simp only [LF]; done) | (repeat (first | with_reducible assumption | apply Ext.refl | apply Ext.app | (apply Ext.set <;> omega) | (refine Ext.trans ?_ (by assumption))))) only [AX, TY, AD, mapPut, entsOf, oneV, builtinV, idsOf, mapId, touchB, Nat.reduceLT, Nat.reduceLeDiff, Nat.reduceEqDiff, Nat.reduceAdd, Nat.reduceMul, Int.reduceBEq, Int.reduceEq, Int.reduceNeg, Int.reduceLT, Int.reduceLE, Int.reduceAdd, Int.reduceSub, Int.reduceMul, Int.reduceToNat, Int.reduceGT, Nat.reduceBEq, Nat.reducePow, Nat.reduceGT, reduceCtorEq, ↓reduceIte, hg, loadN_fact gx, h1]
    exact ex
theorem sees22_ok {h : Heap} (v : Ver) (s : Int) : WR (callE Tryz.prog hk 34 [.agg v.enc, .int .i64 s] h) fun r h' => Ext h h' ∧ r = .bool (sees v.cr v.dl s) := by
  refine WR.call (hH := rfl) Tryz.func34 rfl (n := 20) rfl rfl (by simp) ?_
  cases h1 : decide (v.cr ≤ s) <;> cases h2 : decide (v.dl = 0) <;> cases h3 : decide (v.dl > s) <;> (simp -dsimp (disch := first | with_reducible assumption | omega | (intro h_; cases h_; done) | (simp only [LN] <;> omega) | (simp only [LF]; done) | (repeat (first | with_reducible assumption | apply Ext.refl | apply Ext.app | (apply Ext.set <;> omega) | (refine Ext.trans ?_ (by assumption))))) only [AX, TY, AD, mapPut, entsOf, oneV, builtinV, idsOf, mapId, touchB, Nat.reduceLT, Nat.reduceLeDiff, Nat.reduceEqDiff, Nat.reduceAdd, Nat.reduceMul, Int.reduceBEq, Int.reduceEq, Int.reduceNeg, Int.reduceLT, Int.reduceLE, Int.reduceAdd, Int.reduceSub, Int.reduceMul, Int.reduceToNat, Int.reduceGT, Nat.reduceBEq, Nat.reducePow, Nat.reduceGT, reduceCtorEq, ↓reduceIte, Ver.enc, h1, h2, h3]; simp [sees, h1, h2, h3]; try (exact (by (repeat (first | assumption | apply Ext.refl | apply Ext.app | (apply Ext.set <;> omega) | exact Ext.trans (by assumption) (by assumption) | (refine Ext.trans ?_ (by assumption)))))))
theorem vvalid_ok {h : Heap} (v : Vl) : WR (callE Tryz.prog hk 87 [.agg v.enc] h) fun r h' => Ext h h' ∧ r = .bool (vOk v) := by
  refine WR.call (hH := rfl) Tryz.func87 rfl (n := 36) rfl rfl (by simp) ?_
  obtain ⟨g, hg, gx, ex⟩ : ∃ g, h ++ [O.cells v.enc .rw] = g ∧ g[h.length]? = some (O.cells v.enc .rw) ∧ Ext h g := ⟨_, rfl, by simp, (by (repeat (first | assumption | apply Ext.refl | apply Ext.app | (apply Ext.set <;> omega) | exact Ext.trans (by assumption) (by assumption) | (refine Ext.trans ?_ (by assumption)))))⟩
  simp only [Vl.enc] at hg gx
  unfold vOk
  by_cases c0 : v.kind = 0
  · cases q : decide (v.text = [])
    · simp -dsimp (disch := first | with_reducible assumption | omega | (intro h_; cases h_; done) | (simp only [LN] <;> omega) | (simp only [LF]; done) | (repeat (first | with_reducible assumption | apply Ext.refl | apply Ext.app | (apply Ext.set <;> omega) | (refine Ext.trans ?_ (by assumption))))) only [AX, TY, AD, mapPut, entsOf, oneV, builtinV, idsOf, mapId, touchB, Nat.reduceLT, Nat.reduceLeDiff, Nat.reduceEqDiff, Nat.reduceAdd, Nat.reduceMul, Int.reduceBEq, Int.reduceEq, Int.reduceNeg, Int.reduceLT, Int.reduceLE, Int.reduceAdd, Int.reduceSub, Int.reduceMul, Int.reduceToNat, Int.reduceGT, Nat.reduceBEq, Nat.reducePow, Nat.reduceGT, reduceCtorEq, ↓reduceIte, Vl.enc, hg, loadN_fact gx, eq_true c0, q]
      exact ex
    · simp -dsimp (disch := first | with_reducible assumption | omega | (intro h_; cases h_; done) | (simp only [LN] <;> omega) | (simp only [LF]; done) | (repeat (first | with_reducible assumption | apply Ext.refl | apply Ext.app | (apply Ext.set <;> omega) | (refine Ext.trans ?_ (by assumption))))) only [AX, TY, AD, mapPut, entsOf, oneV, builtinV, idsOf, mapId, touchB, Nat.reduceLT, Nat.reduceLeDiff, Nat.reduceEqDiff, Nat.reduceAdd, Nat.reduceMul, Int.reduceBEq, Int.reduceEq, Int.reduceNeg, Int.reduceLT, Int.reduceLE, Int.reduceAdd, Int.reduceSub, Int.reduceMul, Int.reduceToNat, Int.reduceGT, Nat.reduceBEq, Nat.reducePow, Nat.reduceGT, reduceCtorEq, ↓reduceIte, Vl.enc, hg, loadN_fact gx, eq_true c0, q]
      exact ex
  by_cases c1 : v.kind = 1
  · cases q : decide (v.int = 0)
    · simp -dsimp (disch := first | with_reducible assumption | omega | (intro h_; cases h_; done) | (simp only [LN] <;> omega) | (simp only [LF]; done) | (repeat (first | with_reducible assumption | apply Ext.refl | apply Ext.app | (apply Ext.set <;> omega) | (refine Ext.trans ?_ (by assumption))))) only [AX, TY, AD, mapPut, entsOf, oneV, builtinV, idsOf, mapId, touchB, Nat.reduceLT, Nat.reduceLeDiff, Nat.reduceEqDiff, Nat.reduceAdd, Nat.reduceMul, Int.reduceBEq, Int.reduceEq, Int.reduceNeg, Int.reduceLT, Int.reduceLE, Int.reduceAdd, Int.reduceSub, Int.reduceMul, Int.reduceToNat, Int.reduceGT, Nat.reduceBEq, Nat.reducePow, Nat.reduceGT, reduceCtorEq, ↓reduceIte, Vl.enc, hg, loadN_fact gx, c0, eq_true c1, q]
      first | exact ex | exact ⟨ex, by simp [c0, c1]⟩
    · cases q2 : decide ((v.text.length : Int) ≤ 255)
      · have q3 : decide (v.text.length ≤ 255) = false := by simp at q2 ⊢; omega
        simp -dsimp (disch := first | with_reducible assumption | omega | (intro h_; cases h_; done) | (simp only [LN] <;> omega) | (simp only [LF]; done) | (repeat (first | with_reducible assumption | apply Ext.refl | apply Ext.app | (apply Ext.set <;> omega) | (refine Ext.trans ?_ (by assumption))))) only [AX, TY, AD, mapPut, entsOf, oneV, builtinV, idsOf, mapId, touchB, Nat.reduceLT, Nat.reduceLeDiff, Nat.reduceEqDiff, Nat.reduceAdd, Nat.reduceMul, Int.reduceBEq, Int.reduceEq, Int.reduceNeg, Int.reduceLT, Int.reduceLE, Int.reduceAdd, Int.reduceSub, Int.reduceMul, Int.reduceToNat, Int.reduceGT, Nat.reduceBEq, Nat.reducePow, Nat.reduceGT, reduceCtorEq, ↓reduceIte, Vl.enc, hg, loadN_fact gx, c0, eq_true c1, q, q2]
        exact ⟨ex, by simp [c0, c1, q3]⟩
      · have q3 : decide (v.text.length ≤ 255) = true := by simp at q2 ⊢; omega
        simp -dsimp (disch := first | with_reducible assumption | omega | (intro h_; cases h_; done) | (simp only [LN] <;> omega) | (simp only [LF]; done) | (repeat (first | with_reducible assumption | apply Ext.refl | apply Ext.app | (apply Ext.set <;> omega) | (refine Ext.trans ?_ (by assumption))))) only [AX, TY, AD, mapPut, entsOf, oneV, builtinV, idsOf, mapId, touchB, Nat.reduceLT, Nat.reduceLeDiff, Nat.reduceEqDiff, Nat.reduceAdd, Nat.reduceMul, Int.reduceBEq, Int.reduceEq, Int.reduceNeg, Int.reduceLT, Int.reduceLE, Int.reduceAdd, Int.reduceSub, Int.reduceMul, Int.reduceToNat, Int.reduceGT, Nat.reduceBEq, Nat.reducePow, Nat.reduceGT, reduceCtorEq, ↓reduceIte, Vl.enc, hg, loadN_fact gx, c0, eq_true c1, q, q2]
        exact ⟨ex, by simp [c0, c1, q3]⟩
  by_cases c2 : v.kind = 2
  · cases q : decide (v.int = 0) <;> cases q1 : decide (v.int = 1) <;> cases q2 : decide (v.text = []) <;> (simp -dsimp (disch := first | with_reducible assumption | omega | (intro h_; cases h_; done) | (simp only [LN] <;> omega) | (simp only [LF]; done) | (repeat (first | with_reducible assumption | apply Ext.refl | apply Ext.app | (apply Ext.set <;> omega) | (refine Ext.trans ?_ (by assumption))))) only [AX, TY, AD, mapPut, entsOf, oneV, builtinV, idsOf, mapId, touchB, Nat.reduceLT, Nat.reduceLeDiff, Nat.reduceEqDiff, Nat.reduceAdd, Nat.reduceMul, Int.reduceBEq, Int.reduceEq, Int.reduceNeg, Int.reduceLT, Int.reduceLE, Int.reduceAdd, Int.reduceSub, Int.reduceMul, Int.reduceToNat, Int.reduceGT, Nat.reduceBEq, Nat.reducePow, Nat.reduceGT, reduceCtorEq, ↓reduceIte, Vl.enc, hg, loadN_fact gx, c0, c1, eq_true c2, q, q1, q2]; try exact ex) <;> exact ⟨ex, by simp [c0, c1, c2]⟩
  · simp -dsimp (disch := first | with_reducible assumption | omega | (intro h_; cases h_; done) | (simp only [LN] <;> omega) | (simp only [LF]; done) | (repeat (first | with_reducible assumption | apply Ext.refl | apply Ext.app | (apply Ext.set <;> omega) | (refine Ext.trans ?_ (by assumption))))) only [AX, TY, AD, mapPut, entsOf, oneV, builtinV, idsOf, mapId, touchB, Nat.reduceLT, Nat.reduceLeDiff, Nat.reduceEqDiff, Nat.reduceAdd, Nat.reduceMul, Int.reduceBEq, Int.reduceEq, Int.reduceNeg, Int.reduceLT, Int.reduceLE, Int.reduceAdd, Int.reduceSub, Int.reduceMul, Int.reduceToNat, Int.reduceGT, Nat.reduceBEq, Nat.reducePow, Nat.reduceGT, reduceCtorEq, ↓reduceIte, Vl.enc, hg, loadN_fact gx, c0, c1, c2]
    first | exact ex | exact ⟨ex, by simp [c0, c1, c2]⟩
theorem fits_ok {h : Heap} {p q : Option (Nat × Nat)} {c e : Option Nat} {d : Td} {vs : List Vl} (hc : Sl h p 2 Col.enc d.cols) (hv : Sl h q 3 Vl.enc vs) : WR (callE Tryz.prog hk 59 [.slice p d.cols.length c, .slice q vs.length e] h) fun r h' => Ext h h' ∧ r = .bool (fitsD d vs) := by
  have hn1 := hc.nil'
  have hn2 := hv.nil'
  have hl1 := hc.small
  have hl2 := hv.small
  refine WR.call (hH := rfl) Tryz.func59 rfl (n := 36) rfl rfl (by simp) ?_
  by_cases q4 : d.cols.length = vs.length
  rotate_left
  · have hf : fitsD d vs = false := by unfold fitsD; rw [decide_eq_false (fun z => q4 z.symm)]; rfl
    have q5 : ¬ (d.cols.length : Int) = (vs.length : Int) := by omega
    simp -dsimp (disch := first | with_reducible assumption | omega | (intro h_; cases h_; done) | (simp only [LN] <;> omega) | (simp only [LF]; done) | (repeat (first | with_reducible assumption | apply Ext.refl | apply Ext.app | (apply Ext.set <;> omega) | (refine Ext.trans ?_ (by assumption))))) only [AX, TY, AD, mapPut, entsOf, oneV, builtinV, idsOf, mapId, touchB, Nat.reduceLT, Nat.reduceLeDiff, Nat.reduceEqDiff, Nat.reduceAdd, Nat.reduceMul, Int.reduceBEq, Int.reduceEq, Int.reduceNeg, Int.reduceLT, Int.reduceLE, Int.reduceAdd, Int.reduceSub, Int.reduceMul, Int.reduceToNat, Int.reduceGT, Nat.reduceBEq, Nat.reducePow, Nat.reduceGT, reduceCtorEq, ↓reduceIte, q5, hf]
    exact (by (repeat (first | assumption | apply Ext.refl | apply Ext.app | (apply Ext.set <;> omega) | exact Ext.trans (by assumption) (by assumption) | (refine Ext.trans ?_ (by assumption)))))
  have q5 : (d.cols.length : Int) = (vs.length : Int) := by omega
  have hok2 : fitsD d vs = ((vs.zip d.cols).all fun x => vOk x.1 && decide (x.1.kind = x.2.type)) := by unfold fitsD; rw [decide_eq_true q4.symm]; rfl
  simp -dsimp (disch := first | with_reducible assumption | omega | (intro h_; cases h_; done) | (simp only [LN] <;> omega) | (simp only [LF]; done) | (repeat (first | with_reducible assumption | apply Ext.refl | apply Ext.app | (apply Ext.set <;> omega) | (refine Ext.trans ?_ (by assumption))))) only [AX, TY, AD, mapPut, entsOf, oneV, builtinV, idsOf, mapId, touchB, Nat.reduceLT, Nat.reduceLeDiff, Nat.reduceEqDiff, Nat.reduceAdd, Nat.reduceMul, Int.reduceBEq, Int.reduceEq, Int.reduceNeg, Int.reduceLT, Int.reduceLE, Int.reduceAdd, Int.reduceSub, Int.reduceMul, Int.reduceToNat, Int.reduceGT, Nat.reduceBEq, Nat.reducePow, Nat.reduceGT, reduceCtorEq, ↓reduceIte, eq_true q5]
  refine W.loop (fun m τ hh => Ext h hh ∧ ∃ i : Nat, m + i = d.cols.length ∧ τ 0 = .slice p d.cols.length c ∧ τ 1 = .slice q vs.length e ∧ τ 5 = .int .i64 i ∧ ∀ j (hj : j < vs.length) (hj2 : j < d.cols.length), j < i → (vOk vs[j] && decide ((vs[j]).kind = (d.cols[j]).type)) = true) ?_ (m := d.cols.length) ?_
  rotate_left
  · refine ⟨(by (repeat (first | assumption | apply Ext.refl | apply Ext.app | (apply Ext.set <;> omega) | exact Ext.trans (by assumption) (by assumption) | (refine Ext.trans ?_ (by assumption))))), 0, by simp, rfl, rfl, rfl, by simp⟩
  rintro m τ hh ⟨e5, i, hm, t0, t1, t5, hall⟩
  by_cases c1 : (i : Int) < (d.cols.length : Int)
  rotate_left
  · have hf : fitsD d vs = true := by
      rw [hok2, List.all_eq_true]
      intro x hx
      obtain ⟨j, hj, rfl⟩ := List.getElem_of_mem hx
      rw [List.getElem_zip]
      rw [List.length_zip] at hj
      exact hall j (by omega) (by omega) (by omega)
    simp -dsimp (disch := first | with_reducible assumption | omega | (intro h_; cases h_; done) | (simp only [LN] <;> omega) | (simp only [LF]; done) | (repeat (first | with_reducible assumption | apply Ext.refl | apply Ext.app | (apply Ext.set <;> omega) | (refine Ext.trans ?_ (by assumption))))) only [AX, TY, AD, mapPut, entsOf, oneV, builtinV, idsOf, mapId, touchB, Nat.reduceLT, Nat.reduceLeDiff, Nat.reduceEqDiff, Nat.reduceAdd, Nat.reduceMul, Int.reduceBEq, Int.reduceEq, Int.reduceNeg, Int.reduceLT, Int.reduceLE, Int.reduceAdd, Int.reduceSub, Int.reduceMul, Int.reduceToNat, Int.reduceGT, Nat.reduceBEq, Nat.reducePow, Nat.reduceGT, reduceCtorEq, ↓reduceIte, t0, t1, t5, c1, hf]
    exact e5
  have hi2 : i < d.cols.length := by omega
  have hi1 : i < vs.length := by omega
  have hla := Sl.load0 hv e5 hi1 (m := 3) (by decide)
  have tk : ∀ x : Vl, x.enc.take 3 = x.enc := fun _ => rfl
  rw [tk] at hla
  have hlk := Sl.load0 hv e5 hi1 (m := 1) (by decide)
  have hcol := hc.load e5 hi2 (o := 1) (m := 1) (by decide)
  have hbadd : (vOk vs[i] && decide ((vs[i]).kind = (d.cols[i]).type)) = false → fitsD d vs = false := fun hq => by
    rw [hok2, Bool.eq_false_iff]
    intro z
    have := List.all_eq_true.1 z (vs[i], d.cols[i]) (List.mem_of_getElem? (i := i) (by rw [List.getElem?_eq_getElem (by rw [List.length_zip]; omega), List.getElem_zip]))
    rw [hq] at this; cases this
  have hall' : (vOk vs[i] && decide ((vs[i]).kind = (d.cols[i]).type)) = true → ∀ j (hj : j < vs.length) (hj2 : j < d.cols.length), j < i + 1 → (vOk vs[j] && decide ((vs[j]).kind = (d.cols[j]).type)) = true := fun hq j hj hj2 hji => by
    by_cases c : j = i
    · subst c; exact hq
    · exact hall j hj hj2 (by omega)
  generalize hw : vs[i] = w at hla hlk hbadd hall'
  generalize hy : d.cols[i] = y at hcol hbadd hall'
  have hvw := vvalid_ok (h := hh) w
  simp only [Col.enc, List.drop_succ_cons, List.drop_zero, List.take] at hcol
  simp only [Vl.enc, List.take] at hla hlk hvw
  simp -dsimp (disch := first | with_reducible assumption | omega | (intro h_; cases h_; done) | (simp only [LN] <;> omega) | (simp only [LF]; done) | (repeat (first | with_reducible assumption | apply Ext.refl | apply Ext.app | (apply Ext.set <;> omega) | (refine Ext.trans ?_ (by assumption))))) only [AX, TY, AD, mapPut, entsOf, oneV, builtinV, idsOf, mapId, touchB, Nat.reduceLT, Nat.reduceLeDiff, Nat.reduceEqDiff, Nat.reduceAdd, Nat.reduceMul, Int.reduceBEq, Int.reduceEq, Int.reduceNeg, Int.reduceLT, Int.reduceLE, Int.reduceAdd, Int.reduceSub, Int.reduceMul, Int.reduceToNat, Int.reduceGT, Nat.reduceBEq, Nat.reducePow, Nat.reduceGT, reduceCtorEq, ↓reduceIte, t0, t1, t5, c1, hla]
  refine W.drawn [(0, []), (1, [0]), (2, []), (3, []), (4, []), (5, []), (6, []), (7, []), (8, [7]), (9, []), (10, []), (11, []), (12, [11, 10, 9, 8, 7]), (13, [12, 11, 10, 9, 8, 7]), (14, [11, 10, 9, 8, 7]), (15, [11, 10, 9, 8, 7]), (16, [11, 10, 9, 8, 7]), (17, []), (18, [])] (by decide +kernel) ?_
  simp -dsimp (disch := first | with_reducible assumption | omega | (intro h_; cases h_; done) | (simp only [LN] <;> omega) | (simp only [LF]; done) | (repeat (first | with_reducible assumption | apply Ext.refl | apply Ext.app | (apply Ext.set <;> omega) | (refine Ext.trans ?_ (by assumption))))) only [AX, TY, AD, mapPut, entsOf, oneV, builtinV, idsOf, mapId, touchB, Nat.reduceLT, Nat.reduceLeDiff, Nat.reduceEqDiff, Nat.reduceAdd, Nat.reduceMul, Int.reduceBEq, Int.reduceEq, Int.reduceNeg, Int.reduceLT, Int.reduceLE, Int.reduceAdd, Int.reduceSub, Int.reduceMul, Int.reduceToNat, Int.reduceGT, Nat.reduceBEq, Nat.reducePow, Nat.reduceGT, reduceCtorEq, ↓reduceIte, t0, t1, t5, c1, hla]
  refine hvw.mono ?_
  rintro _ h8 ⟨e8, rfl⟩
  have hlk8 := Sl.load0 hv (e5.trans e8) hi1 (m := 1) (by decide)
  have hcol8 := hc.load (e5.trans e8) hi2 (o := 1) (m := 1) (by decide)
  rw [hw] at hlk8
  rw [hy] at hcol8
  simp only [Col.enc, List.drop_succ_cons, List.drop_zero, List.take] at hcol8
  simp only [Vl.enc, List.take] at hlk8
  cases hvo : vOk w
  · have hf := hbadd (by rw [hvo]; rfl)
    simp -dsimp (disch := first | with_reducible assumption | omega | (intro h_; cases h_; done) | (simp only [LN] <;> omega) | (simp only [LF]; done) | (repeat (first | with_reducible assumption | apply Ext.refl | apply Ext.app | (apply Ext.set <;> omega) | (refine Ext.trans ?_ (by assumption))))) only [AX, TY, AD, mapPut, entsOf, oneV, builtinV, idsOf, mapId, touchB, Nat.reduceLT, Nat.reduceLeDiff, Nat.reduceEqDiff, Nat.reduceAdd, Nat.reduceMul, Int.reduceBEq, Int.reduceEq, Int.reduceNeg, Int.reduceLT, Int.reduceLE, Int.reduceAdd, Int.reduceSub, Int.reduceMul, Int.reduceToNat, Int.reduceGT, Nat.reduceBEq, Nat.reducePow, Nat.reduceGT, reduceCtorEq, ↓reduceIte, t0, t1, t5, hf]
    exact e5.trans e8
  by_cases hkd : w.kind = y.type
  · have hq := hall' (by rw [hvo, decide_eq_true hkd]; rfl)
    simp -dsimp (disch := first | with_reducible assumption | omega | (intro h_; cases h_; done) | (simp only [LN] <;> omega) | (simp only [LF]; done) | (repeat (first | with_reducible assumption | apply Ext.refl | apply Ext.app | (apply Ext.set <;> omega) | (refine Ext.trans ?_ (by assumption))))) only [AX, TY, AD, mapPut, entsOf, oneV, builtinV, idsOf, mapId, touchB, Nat.reduceLT, Nat.reduceLeDiff, Nat.reduceEqDiff, Nat.reduceAdd, Nat.reduceMul, Int.reduceBEq, Int.reduceEq, Int.reduceNeg, Int.reduceLT, Int.reduceLE, Int.reduceAdd, Int.reduceSub, Int.reduceMul, Int.reduceToNat, Int.reduceGT, Nat.reduceBEq, Nat.reducePow, Nat.reduceGT, reduceCtorEq, ↓reduceIte, t0, t1, t5, hlk8, hcol8, eq_true hkd, wrap_in]
    refine ⟨m - 1, by omega, e5.trans e8, i + 1, ?_⟩
    repeat' (first | assumption | refine And.intro ?_ ?_)
    all_goals first | rfl | omega | (simp; done) | (simp; omega; done) | skip
  · have hf := hbadd (by rw [hvo, decide_eq_false hkd]; rfl)
    simp -dsimp (disch := first | with_reducible assumption | omega | (intro h_; cases h_; done) | (simp only [LN] <;> omega) | (simp only [LF]; done) | (repeat (first | with_reducible assumption | apply Ext.refl | apply Ext.app | (apply Ext.set <;> omega) | (refine Ext.trans ?_ (by assumption))))) only [AX, TY, AD, mapPut, entsOf, oneV, builtinV, idsOf, mapId, touchB, Nat.reduceLT, Nat.reduceLeDiff, Nat.reduceEqDiff, Nat.reduceAdd, Nat.reduceMul, Int.reduceBEq, Int.reduceEq, Int.reduceNeg, Int.reduceLT, Int.reduceLE, Int.reduceAdd, Int.reduceSub, Int.reduceMul, Int.reduceToNat, Int.reduceGT, Nat.reduceBEq, Nat.reducePow, Nat.reduceGT, reduceCtorEq, ↓reduceIte, t0, t1, t5, hlk8, hcol8, hkd, hf]
    exact e5.trans e8
end Go.Proofs.YtcaolnmpldbkjaaGreatA
namespace Go.Proofs.YtcaolnmpldbkjaaGreatA
open Go Go.Proofs Go.RowKit
set_option linter.unusedVariables false
set_option linter.unusedSimpArgs false
set_option maxRecDepth 10000
set_option maxHeartbeats 4000000
/-- An operation of the reference's log. -/
structure Ro where
  ins : Bool
  v : Ver
def Ro.enc (o : Ro) : List V := [.bool o.ins, .int .i64 o.v.a, .int .i64 o.v.b, .slice o.v.p o.v.vals.length o.v.c, .int .i64 o.v.cr, .int .i64 o.v.dl]
structure RL (h : Heap) (p : Option (Nat × Nat)) (L : List Ro) : Prop where
  sl : Sl h p 6 Ro.enc L
  ok : ∀ o ∈ L, VOK h o.v
theorem RL.ext {h hh : Heap} {p : Option (Nat × Nat)} {L : List Ro} (s : RL h p L) (e : Ext h hh) : RL hh p L := ⟨s.sl.ext e, fun o ho => (s.ok o ho).ext e⟩
theorem Tds.ext {h hh : Heap} {p : Option (Nat × Nat)} {L : List Td} (s : Tds h p L) (e : Ext h hh) : Tds hh p L := ⟨s.sl.ext e, fun o ho => ⟨(s.ok o ho).1.ext e, (s.ok o ho).2.ext e⟩⟩
@[reducible] def rtx (snap : Int) (dp : Option (Nat × Nat)) (ds : List Td) (dc : Option Nat) (lp : Option (Nat × Nat)) (L : List Ro) (lc : Option Nat) : List V := [.int .i64 snap, .slice dp ds.length dc, .slice lp L.length lc]
theorem rdef_ok {h : Heap} {snap : Int} {dp lp : Option (Nat × Nat)} {dc lc : Option Nat} {ds : List Td} {L : List Ro} (hs : Tds h dp ds) (table : Int) :
    WR (callE Tryz.prog hk 57 [.agg (rtx snap dp ds dc lp L lc), .int .i64 table] h) fun r h' => Ext h h' ∧ DefR ds table r := by
  have hn := hs.sl.nil'
  have hl := hs.sl.small
  refine WR.call (hH := rfl) Tryz.func57 rfl (n := 28) rfl rfl (by simp) ?_
  obtain ⟨g, hg, gx, gz, ex, hgl⟩ : ∃ g, h ++ [O.cells (rtx snap dp ds dc lp L lc) .rw] ++ [O.cells tdZero .rw] = g ∧ g[h.length]? = some (O.cells (rtx snap dp ds dc lp L lc) .rw) ∧ g[h.length + 1]? = some (O.cells tdZero .rw) ∧ Ext h g ∧ g.length = h.length + 2 := ⟨_, rfl, by simp, by simp, (by (repeat (first | assumption | apply Ext.refl | apply Ext.app | (apply Ext.set <;> omega) | exact Ext.trans (by assumption) (by assumption) | (refine Ext.trans ?_ (by assumption))))), by simp⟩
  simp only [rtx, tdZero] at hg gx gz
  simp -dsimp (disch := first | with_reducible assumption | omega | (intro h_; cases h_; done) | (simp only [LN] <;> omega) | (simp only [LF]; done) | (repeat (first | with_reducible assumption | apply Ext.refl | apply Ext.app | (apply Ext.set <;> omega) | (refine Ext.trans ?_ (by assumption))))) only [AX, TY, AD, mapPut, entsOf, oneV, builtinV, idsOf, mapId, touchB, Nat.reduceLT, Nat.reduceLeDiff, Nat.reduceEqDiff, Nat.reduceAdd, Nat.reduceMul, Int.reduceBEq, Int.reduceEq, Int.reduceNeg, Int.reduceLT, Int.reduceLE, Int.reduceAdd, Int.reduceSub, Int.reduceMul, Int.reduceToNat, Int.reduceGT, Nat.reduceBEq, Nat.reducePow, Nat.reduceGT, reduceCtorEq, ↓reduceIte, hg, loadN_fact gx]
  refine W.loop (fun m τ hh => hh = g ∧ ∃ i : Nat, m + i = ds.length ∧ τ 2 = .ptr (some (h.length, 0)) ∧ τ 4 = .ptr (some (h.length + 1, 0)) ∧ τ 5 = .bool false ∧ τ 1 = .int .i64 table ∧ τ 6 = .int .i64 i ∧ ∀ j (hj : j < ds.length), j < i → decide ((ds[j]).id = table) = false) ?_ (m := ds.length) ?_
  rotate_left
  · refine ⟨rfl, 0, by simp, rfl, rfl, rfl, rfl, rfl, by simp⟩
  rintro m τ hh ⟨rfl, i, hm, t2, t4, t5, t1, t6, hno⟩
  unfold DefR
  by_cases h1 : (i : Int) < (ds.length : Int)
  rotate_left
  · have hf : ds.findIdx? (fun d => decide (d.id = table)) = none := findIdx_no fun j hj => hno j hj (by omega)
    rw [hf]
    have hstz := storeN_fact (vs := tdZero) gz (by simp [tdZero])
    simp only [tdZero] at hstz
    simp -dsimp (disch := first | with_reducible assumption | omega | (intro h_; cases h_; done) | (simp only [LN] <;> omega) | (simp only [LF]; done) | (repeat (first | with_reducible assumption | apply Ext.refl | apply Ext.app | (apply Ext.set <;> omega) | (refine Ext.trans ?_ (by assumption))))) only [AX, TY, AD, mapPut, entsOf, oneV, builtinV, idsOf, mapId, touchB, Nat.reduceLT, Nat.reduceLeDiff, Nat.reduceEqDiff, Nat.reduceAdd, Nat.reduceMul, Int.reduceBEq, Int.reduceEq, Int.reduceNeg, Int.reduceLT, Int.reduceLE, Int.reduceAdd, Int.reduceSub, Int.reduceMul, Int.reduceToNat, Int.reduceGT, Nat.reduceBEq, Nat.reducePow, Nat.reduceGT, reduceCtorEq, ↓reduceIte, t1, t2, t4, t5, t6, h1, loadN_fact gx, hstz]
    exact ⟨Ext.set ex (by omega) _, rfl⟩
  have hi : i < ds.length := by omega
  have hst := findIdx_step (q := fun d : Td => decide (d.id = table)) hi hno
  have hla1 := hs.sl.load0 ex hi (m := 1) (by decide)
  have hla5 := hs.sl.load0 ex hi (m := 5) (by decide)
  have tk1 : ∀ x : Td, x.enc.take 1 = [.int .i64 x.id] := fun _ => rfl
  have tk5 : ∀ x : Td, x.enc.take 5 = x.enc := fun _ => rfl
  rw [tk1] at hla1
  rw [tk5] at hla5
  by_cases h2 : (ds[i]).id = table
  · have hf := hst.1 (decide_eq_true h2)
    have hstz := storeN_fact (vs := (ds[i]).enc) gz (by simp [Td.enc])
    simp only [Td.enc] at hla5 hstz
    rw [hf]
    simp -dsimp (disch := first | with_reducible assumption | omega | (intro h_; cases h_; done) | (simp only [LN] <;> omega) | (simp only [LF]; done) | (repeat (first | with_reducible assumption | apply Ext.refl | apply Ext.app | (apply Ext.set <;> omega) | (refine Ext.trans ?_ (by assumption))))) only [AX, TY, AD, mapPut, entsOf, oneV, builtinV, idsOf, mapId, touchB, Nat.reduceLT, Nat.reduceLeDiff, Nat.reduceEqDiff, Nat.reduceAdd, Nat.reduceMul, Int.reduceBEq, Int.reduceEq, Int.reduceNeg, Int.reduceLT, Int.reduceLE, Int.reduceAdd, Int.reduceSub, Int.reduceMul, Int.reduceToNat, Int.reduceGT, Nat.reduceBEq, Nat.reducePow, Nat.reduceGT, reduceCtorEq, ↓reduceIte, t1, t2, t4, t5, t6, h1, loadN_fact gx, hla1, eq_true h2, hla5, hstz]
    refine ⟨Ext.set ex (by omega) _, hi, ?_⟩
    simp only [Td.enc]
  · have hno' := hst.2 (decide_eq_false h2)
    simp -dsimp (disch := first | with_reducible assumption | omega | (intro h_; cases h_; done) | (simp only [LN] <;> omega) | (simp only [LF]; done) | (repeat (first | with_reducible assumption | apply Ext.refl | apply Ext.app | (apply Ext.set <;> omega) | (refine Ext.trans ?_ (by assumption))))) only [AX, TY, AD, mapPut, entsOf, oneV, builtinV, idsOf, mapId, touchB, Nat.reduceLT, Nat.reduceLeDiff, Nat.reduceEqDiff, Nat.reduceAdd, Nat.reduceMul, Int.reduceBEq, Int.reduceEq, Int.reduceNeg, Int.reduceLT, Int.reduceLE, Int.reduceAdd, Int.reduceSub, Int.reduceMul, Int.reduceToNat, Int.reduceGT, Nat.reduceBEq, Nat.reducePow, Nat.reduceGT, reduceCtorEq, ↓reduceIte, t1, t2, t4, t5, t6, h1, loadN_fact gx, hla1, h2, wrap_in]
    refine ⟨m - 1, by omega, i + 1, ?_⟩
    repeat' (first | assumption | refine And.intro ?_ ?_)
    all_goals first | rfl | omega | (simp; done) | (simp; omega; done) | skip
theorem done_ok {h : Heap} {snap : Int} {dp lp : Option (Nat × Nat)} {dc lc : Option Nat} {ds : List Td} {L : List Ro} (hL : RL h lp L) (ins : Bool) (a b : Int) :
    WR (callE Tryz.prog hk 35 [.agg (rtx snap dp ds dc lp L lc), .bool ins, .agg [.int .i64 a, .int .i64 b]] h) fun r h' => Ext h h' ∧ r = .bool (L.any fun o => decide (o.v.a = a ∧ o.v.b = b) && decide (o.ins = ins)) := by
  have hn := hL.sl.nil'
  have hl := hL.sl.small
  refine WR.call (hH := rfl) Tryz.func35 rfl (n := 34) rfl rfl (by simp) ?_
  obtain ⟨g, hg, gx, gz, ex, hgl⟩ : ∃ g, h ++ [O.cells (rtx snap dp ds dc lp L lc) .rw] ++ [O.cells [V.int .i64 a, V.int .i64 b] .rw] = g ∧ g[h.length]? = some (O.cells (rtx snap dp ds dc lp L lc) .rw) ∧ g[h.length + 1]? = some (O.cells [V.int .i64 a, V.int .i64 b] .rw) ∧ Ext h g ∧ g.length = h.length + 2 := ⟨_, rfl, by simp, by simp, (by (repeat (first | assumption | apply Ext.refl | apply Ext.app | (apply Ext.set <;> omega) | exact Ext.trans (by assumption) (by assumption) | (refine Ext.trans ?_ (by assumption))))), by simp⟩
  simp only [rtx] at hg gx
  simp -dsimp (disch := first | with_reducible assumption | omega | (intro h_; cases h_; done) | (simp only [LN] <;> omega) | (simp only [LF]; done) | (repeat (first | with_reducible assumption | apply Ext.refl | apply Ext.app | (apply Ext.set <;> omega) | (refine Ext.trans ?_ (by assumption))))) only [AX, TY, AD, mapPut, entsOf, oneV, builtinV, idsOf, mapId, touchB, Nat.reduceLT, Nat.reduceLeDiff, Nat.reduceEqDiff, Nat.reduceAdd, Nat.reduceMul, Int.reduceBEq, Int.reduceEq, Int.reduceNeg, Int.reduceLT, Int.reduceLE, Int.reduceAdd, Int.reduceSub, Int.reduceMul, Int.reduceToNat, Int.reduceGT, Nat.reduceBEq, Nat.reducePow, Nat.reduceGT, reduceCtorEq, ↓reduceIte, hg, loadN_fact gx]
  refine W.loop (fun m τ hh => hh = g ∧ ∃ i : Nat, m + i = L.length ∧ τ 3 = .ptr (some (h.length, 0)) ∧ τ 5 = .ptr (some (h.length + 1, 0)) ∧ τ 1 = .bool ins ∧ τ 7 = .int .i64 i ∧ ∀ j (hj : j < L.length), j < i → (decide ((L[j]).v.a = a ∧ (L[j]).v.b = b) && decide ((L[j]).ins = ins)) = false) ?_ (m := L.length) ?_
  rotate_left
  · refine ⟨rfl, 0, by simp, rfl, rfl, rfl, rfl, by simp⟩
  rintro m τ hh ⟨rfl, i, hm, t3, t5, t1, t7, hno⟩
  by_cases h1 : (i : Int) < (L.length : Int)
  rotate_left
  · have hf : (L.any fun o => decide (o.v.a = a ∧ o.v.b = b) && decide (o.ins = ins)) = false := by
      rw [any_of_idx, findIdx_no fun j hj => hno j hj (by omega)]; rfl
    simp -dsimp (disch := first | with_reducible assumption | omega | (intro h_; cases h_; done) | (simp only [LN] <;> omega) | (simp only [LF]; done) | (repeat (first | with_reducible assumption | apply Ext.refl | apply Ext.app | (apply Ext.set <;> omega) | (refine Ext.trans ?_ (by assumption))))) only [AX, TY, AD, mapPut, entsOf, oneV, builtinV, idsOf, mapId, touchB, Nat.reduceLT, Nat.reduceLeDiff, Nat.reduceEqDiff, Nat.reduceAdd, Nat.reduceMul, Int.reduceBEq, Int.reduceEq, Int.reduceNeg, Int.reduceLT, Int.reduceLE, Int.reduceAdd, Int.reduceSub, Int.reduceMul, Int.reduceToNat, Int.reduceGT, Nat.reduceBEq, Nat.reducePow, Nat.reduceGT, reduceCtorEq, ↓reduceIte, t1, t3, t5, t7, h1, loadN_fact gx, hf]
    exact ex
  have hi : i < L.length := by omega
  have hst := findIdx_step (q := fun o : Ro => decide (o.v.a = a ∧ o.v.b = b) && decide (o.ins = ins)) hi hno
  have hla1 := hL.sl.load0 ex hi (m := 1) (by decide)
  have hla2 := hL.sl.load ex hi (o := 1) (m := 2) (by decide)
  have tk1 : ∀ x : Ro, x.enc.take 1 = [.bool x.ins] := fun _ => rfl
  have tk2 : ∀ x : Ro, (x.enc.drop 1).take 2 = [.int .i64 x.v.a, .int .i64 x.v.b] := fun _ => rfl
  rw [tk1] at hla1
  rw [tk2] at hla2
  have yes : ((decide ((L[i]).v.a = a ∧ (L[i]).v.b = b) && decide ((L[i]).ins = ins)) = true → (L.any fun o => decide (o.v.a = a ∧ o.v.b = b) && decide (o.ins = ins)) = true) := fun z => List.any_eq_true.2 ⟨_, List.getElem_mem hi, z⟩
  generalize hx : L[i] = x at hla1 hla2 hst yes
  simp -dsimp (disch := first | with_reducible assumption | omega | (intro h_; cases h_; done) | (simp only [LN] <;> omega) | (simp only [LF]; done) | (repeat (first | with_reducible assumption | apply Ext.refl | apply Ext.app | (apply Ext.set <;> omega) | (refine Ext.trans ?_ (by assumption))))) only [AX, TY, AD, mapPut, entsOf, oneV, builtinV, idsOf, mapId, touchB, Nat.reduceLT, Nat.reduceLeDiff, Nat.reduceEqDiff, Nat.reduceAdd, Nat.reduceMul, Int.reduceBEq, Int.reduceEq, Int.reduceNeg, Int.reduceLT, Int.reduceLE, Int.reduceAdd, Int.reduceSub, Int.reduceMul, Int.reduceToNat, Int.reduceGT, Nat.reduceBEq, Nat.reducePow, Nat.reduceGT, reduceCtorEq, ↓reduceIte, t1, t3, t5, t7, h1, loadN_fact gx]
  refine W.drawn [(0, []), (1, []), (2, [1, 0]), (3, []), (4, []), (5, []), (6, [5, 4, 3, 2, 1, 0]), (7, []), (8, []), (9, []), (10, []), (11, [10, 9]), (12, []), (13, []), (14, []), (15, []), (16, [15, 14, 13, 12, 11, 10, 9]), (17, []), (18, [])] (by decide +kernel) ?_
  cases c1 : decide (x.ins = ins)
  · have hno' := hst.2 (by rw [c1, Bool.and_false])
    simp -dsimp (disch := first | with_reducible assumption | omega | (intro h_; cases h_; done) | (simp only [LN] <;> omega) | (simp only [LF]; done) | (repeat (first | with_reducible assumption | apply Ext.refl | apply Ext.app | (apply Ext.set <;> omega) | (refine Ext.trans ?_ (by assumption))))) only [AX, TY, AD, mapPut, entsOf, oneV, builtinV, idsOf, mapId, touchB, Nat.reduceLT, Nat.reduceLeDiff, Nat.reduceEqDiff, Nat.reduceAdd, Nat.reduceMul, Int.reduceBEq, Int.reduceEq, Int.reduceNeg, Int.reduceLT, Int.reduceLE, Int.reduceAdd, Int.reduceSub, Int.reduceMul, Int.reduceToNat, Int.reduceGT, Nat.reduceBEq, Nat.reducePow, Nat.reduceGT, reduceCtorEq, ↓reduceIte, t1, t3, t5, t7, h1, loadN_fact gx, loadN_fact gz, hla1, hla2, c1, wrap_in]
    refine ⟨m - 1, by omega, i + 1, ?_⟩
    repeat' (first | assumption | refine And.intro ?_ ?_)
    all_goals first | rfl | omega | (simp; done) | (simp; omega; done) | skip
  by_cases c2 : x.v.a = a ∧ x.v.b = b
  · have hf := yes (by rw [c1, decide_eq_true c2]; rfl)
    simp -dsimp (disch := first | with_reducible assumption | omega | (intro h_; cases h_; done) | (simp only [LN] <;> omega) | (simp only [LF]; done) | (repeat (first | with_reducible assumption | apply Ext.refl | apply Ext.app | (apply Ext.set <;> omega) | (refine Ext.trans ?_ (by assumption))))) only [AX, TY, AD, mapPut, entsOf, oneV, builtinV, idsOf, mapId, touchB, Nat.reduceLT, Nat.reduceLeDiff, Nat.reduceEqDiff, Nat.reduceAdd, Nat.reduceMul, Int.reduceBEq, Int.reduceEq, Int.reduceNeg, Int.reduceLT, Int.reduceLE, Int.reduceAdd, Int.reduceSub, Int.reduceMul, Int.reduceToNat, Int.reduceGT, Nat.reduceBEq, Nat.reducePow, Nat.reduceGT, reduceCtorEq, ↓reduceIte, t1, t3, t5, t7, h1, loadN_fact gx, loadN_fact gz, hla1, hla2, c1, eqt_33, eq_true c2, hf]
    exact ex
  · have hno' := hst.2 (by rw [decide_eq_false c2, Bool.false_and])
    simp -dsimp (disch := first | with_reducible assumption | omega | (intro h_; cases h_; done) | (simp only [LN] <;> omega) | (simp only [LF]; done) | (repeat (first | with_reducible assumption | apply Ext.refl | apply Ext.app | (apply Ext.set <;> omega) | (refine Ext.trans ?_ (by assumption))))) only [AX, TY, AD, mapPut, entsOf, oneV, builtinV, idsOf, mapId, touchB, Nat.reduceLT, Nat.reduceLeDiff, Nat.reduceEqDiff, Nat.reduceAdd, Nat.reduceMul, Int.reduceBEq, Int.reduceEq, Int.reduceNeg, Int.reduceLT, Int.reduceLE, Int.reduceAdd, Int.reduceSub, Int.reduceMul, Int.reduceToNat, Int.reduceGT, Nat.reduceBEq, Nat.reducePow, Nat.reduceGT, reduceCtorEq, ↓reduceIte, t1, t3, t5, t7, h1, loadN_fact gx, loadN_fact gz, hla1, hla2, c1, eqt_33, c2, wrap_in]
    refine ⟨m - 1, by omega, i + 1, ?_⟩
    repeat' (first | assumption | refine And.intro ?_ ?_)
    all_goals first | rfl | omega | (simp; done) | (simp; omega; done) | skip
end Go.Proofs.YtcaolnmpldbkjaaGreatA
namespace Go.Proofs.YtcaolnmpldbkjaaGreatA
open Go Go.Proofs Go.RowKit
set_option linter.unusedVariables false
set_option linter.unusedSimpArgs false
set_option maxRecDepth 10000
set_option maxHeartbeats 4000000
theorem any_split (L : List Ro) (q : Ro → Bool) : ((L.any fun o => q o && decide (o.ins = true)) || (L.any fun o => q o && decide (o.ins = false))) = L.any q := by
  rw [Bool.eq_iff_iff, Bool.or_eq_true, List.any_eq_true, List.any_eq_true, List.any_eq_true]
  constructor
  · rintro (⟨o, h1, h2⟩ | ⟨o, h1, h2⟩)
    · exact ⟨o, h1, (Bool.and_eq_true _ _ ▸ h2).1⟩
    · exact ⟨o, h1, (Bool.and_eq_true _ _ ▸ h2).1⟩
  · rintro ⟨o, h1, h2⟩
    cases h3 : o.ins
    · exact .inr ⟨o, h1, by rw [h2, h3]; rfl⟩
    · exact .inl ⟨o, h1, by rw [h2, h3]; rfl⟩
/-- What the reference's call gives: the transaction with a log. -/
def RTx (h : Heap) (snap : Int) (dp : Option (Nat × Nat)) (ds : List Td) (dc : Option Nat) (lp0 : Option (Nat × Nat)) (L' : List Ro) (r : V) (h' : Heap) : Prop := Ext h h' ∧ ∃ lp lc e, r = .tuple [.agg (rtx snap dp ds dc lp L' lc), .int .i64 e] ∧ RL h' lp L' ∧ Rs h' lp lc 6 Ro.enc L' ∧ (lp = lp0 ∨ ∀ a o, lp = some (a, o) → h.length ≤ a)
theorem def_core {ds : List Td} {table : Int} {r : V} (hd : DefR ds table r) : ∃ d : Td, r = .tuple [.agg d.enc, .bool (ds.any fun d => decide (d.id = table))] ∧ ((ds.any fun d => decide (d.id = table)) = true → d ∈ ds ∧ ds.find? (fun d => decide (d.id = table)) = some d) ∧ ((ds.any fun d => decide (d.id = table)) = false → d.cols = [] ∧ d.cp = none ∧ ds.find? (fun d => decide (d.id = table)) = none) := by
  rw [any_of_idx, find_of_idx]
  unfold DefR at hd
  cases hi : ds.findIdx? (fun d => decide (d.id = table)) with
  | none =>
    rw [hi] at hd
    exact ⟨⟨0, [], none, some 0, [], none, some 0, [], none, 0, some 0⟩, hd, by simp, by simp⟩
  | some i =>
    rw [hi] at hd
    obtain ⟨h1, rfl⟩ := hd
    exact ⟨_, rfl, fun _ => ⟨List.getElem_mem h1, by simp [h1]⟩, by simp⟩
theorem rinsert_ok {h : Heap} {snap : Int} {dp lp : Option (Nat × Nat)} {dc lc : Option Nat} {ds : List Td} {L : List Ro} (hs : Tds h dp ds) (hL : RL h lp L) (hR : Rs h lp lc 6 Ro.enc L) (hB : L.length ≤ 1000) {v : Ver} (hv : VOK h v) :
    WR (callE Tryz.prog hk 22 [.agg (rtx snap dp ds dc lp L lc), .agg v.enc] h) fun r h' => RTx h snap dp ds dc lp (if okIns ds [] v && !(L.any fun o => decide (o.v.a = v.a ∧ o.v.b = v.b)) then L ++ [⟨true, v⟩] else L) r h' := by
  have hnL := hL.sl.nil'
  have hlL := hL.sl.small
  refine WR.call (hH := rfl) Tryz.func22 rfl (n := 64) rfl rfl (by simp) ?_
  obtain ⟨g, hg, gt, gv, gr, ex, hgl⟩ : ∃ g, h ++ [O.cells (rtx snap dp ds dc lp L lc) .rw] ++ [O.cells v.enc .rw] ++ [O.cells [.int .i64 0, .slice none 0 (some 0), .slice none 0 (some 0)] .rw] = g ∧ g[h.length]? = some (O.cells (rtx snap dp ds dc lp L lc) .rw) ∧ g[h.length + 1]? = some (O.cells v.enc .rw) ∧ g[h.length + 1 + 1]? = some (O.cells [.int .i64 0, .slice none 0 (some 0), .slice none 0 (some 0)] .rw) ∧ Ext h g ∧ g.length = h.length + 3 := ⟨_, rfl, by simp, by simp, snoc_last _ (by simp), (by (repeat (first | assumption | apply Ext.refl | apply Ext.app | (apply Ext.set <;> omega) | exact Ext.trans (by assumption) (by assumption) | (refine Ext.trans ?_ (by assumption))))), by simp⟩
  have hdef := rdef_ok (h := g) (snap := snap) (dc := dc) (lp := lp) (L := L) (lc := lc) (hs.ext ex) v.a
  simp only [rtx] at hg gt hdef
  simp only [Ver.enc] at hg gv
  simp -dsimp (disch := first | with_reducible assumption | omega | (intro h_; cases h_; done) | (simp only [LN] <;> omega) | (simp only [LF]; done) | (repeat (first | with_reducible assumption | apply Ext.refl | apply Ext.app | (apply Ext.set <;> omega) | (refine Ext.trans ?_ (by assumption))))) only [AX, TY, AD, mapPut, entsOf, oneV, builtinV, idsOf, mapId, touchB, Nat.reduceLT, Nat.reduceLeDiff, Nat.reduceEqDiff, Nat.reduceAdd, Nat.reduceMul, Int.reduceBEq, Int.reduceEq, Int.reduceNeg, Int.reduceLT, Int.reduceLE, Int.reduceAdd, Int.reduceSub, Int.reduceMul, Int.reduceToNat, Int.reduceGT, Nat.reduceBEq, Nat.reducePow, Nat.reduceGT, reduceCtorEq, ↓reduceIte, Ver.enc, hg, loadN_fact gt, loadN_fact gv]
  refine hdef.mono ?_
  rintro _ h1 ⟨e1, hd⟩
  obtain ⟨d, rfl, hd1, hd2⟩ := def_core hd
  have hok : okIns ds [] v = ((decide (1 ≤ v.a) && decide (1 ≤ v.b)) && decide (v.cr = 0) && decide (v.dl = 0) && ((ds.any fun d => decide (d.id = v.a)) && fitsD d v.vals)) := by
    unfold okIns
    cases hq : (ds.any fun d => decide (d.id = v.a))
    · rw [(hd2 hq).2.2]; simp
    · rw [(hd1 hq).2]; simp
  generalize hany : (ds.any fun d => decide (d.id = v.a)) = an at hok hd1 hd2
  obtain ⟨h2, hh2, gd, ex2, l2⟩ : ∃ h2, h1 ++ [O.cells d.enc .rw] = h2 ∧ h2[h1.length]? = some (O.cells d.enc .rw) ∧ Ext h1 h2 ∧ h2.length = h1.length + 1 := ⟨_, rfl, by simp, (by (repeat (first | assumption | apply Ext.refl | apply Ext.app | (apply Ext.set <;> omega) | exact Ext.trans (by assumption) (by assumption) | (refine Ext.trans ?_ (by assumption))))), by simp⟩
  have gt2 := ex2 _ _ (e1 _ _ gt)
  have gv2 := ex2 _ _ (e1 _ _ gv)
  have gr2 := ex2 _ _ (e1 _ _ gr)
  have e02 := (ex.trans e1).trans ex2
  have hval := valid02_ok (h := h2) v.a v.b
  simp only [Td.enc] at hh2 gd
  simp -dsimp (disch := first | with_reducible assumption | omega | (intro h_; cases h_; done) | (simp only [LN] <;> omega) | (simp only [LF]; done) | (repeat (first | with_reducible assumption | apply Ext.refl | apply Ext.app | (apply Ext.set <;> omega) | (refine Ext.trans ?_ (by assumption))))) only [AX, TY, AD, mapPut, entsOf, oneV, builtinV, idsOf, mapId, touchB, Nat.reduceLT, Nat.reduceLeDiff, Nat.reduceEqDiff, Nat.reduceAdd, Nat.reduceMul, Int.reduceBEq, Int.reduceEq, Int.reduceNeg, Int.reduceLT, Int.reduceLE, Int.reduceAdd, Int.reduceSub, Int.reduceMul, Int.reduceToNat, Int.reduceGT, Nat.reduceBEq, Nat.reducePow, Nat.reduceGT, reduceCtorEq, ↓reduceIte, Td.enc, hh2, loadN_fact gv2]
  refine hval.mono ?_
  rintro _ h3 ⟨e3, rfl⟩
  have gt3 := e3 _ _ gt2
  have gv3 := e3 _ _ gv2
  have gr3 := e3 _ _ gr2
  have gd3 := e3 _ _ gd
  have e03 := e02.trans e3
  have hno : okIns ds [] v = false → (if okIns ds [] v && !(L.any fun o => decide (o.v.a = v.a ∧ o.v.b = v.b)) then L ++ [⟨true, v⟩] else L) = L := fun z => by rw [z]; rfl
  cases q1 : (decide (1 ≤ v.a) && decide (1 ≤ v.b))
  · rw [hno (by rw [hok, q1]; rfl)]
    have st := storeN_fact (vs := rtx snap dp ds dc lp L lc) gr3 (by simp)
    obtain ⟨h7, hh7, gy, k7⟩ : ∃ h7, List.set h3 (h.length + 1 + 1) (.cells (rtx snap dp ds dc lp L lc) .rw) = h7 ∧ h7[(h.length + 1 + 1)]? = some (.cells (rtx snap dp ds dc lp L lc) .rw) ∧ Ext h h7 := ⟨_, rfl, set_same _ (lt_of_some gr3), Ext.set e03 (by omega) _⟩
    simp only [rtx] at st hh7 gy
    simp -dsimp (disch := first | with_reducible assumption | omega | (intro h_; cases h_; done) | (simp only [LN] <;> omega) | (simp only [LF]; done) | (repeat (first | with_reducible assumption | apply Ext.refl | apply Ext.app | (apply Ext.set <;> omega) | (refine Ext.trans ?_ (by assumption))))) only [AX, TY, AD, mapPut, entsOf, oneV, builtinV, idsOf, mapId, touchB, Nat.reduceLT, Nat.reduceLeDiff, Nat.reduceEqDiff, Nat.reduceAdd, Nat.reduceMul, Int.reduceBEq, Int.reduceEq, Int.reduceNeg, Int.reduceLT, Int.reduceLE, Int.reduceAdd, Int.reduceSub, Int.reduceMul, Int.reduceToNat, Int.reduceGT, Nat.reduceBEq, Nat.reducePow, Nat.reduceGT, reduceCtorEq, ↓reduceIte, loadN_fact gt3, st, hh7, loadN_fact gy, q1]
    exact ⟨k7, lp, lc, _, rfl, hL.ext k7, hR.ext k7, .inl rfl⟩
  by_cases q2 : v.cr = 0
  rotate_left
  · rw [hno (by rw [hok, q1, decide_eq_false q2]; rfl)]
    have st := storeN_fact (vs := rtx snap dp ds dc lp L lc) gr3 (by simp)
    obtain ⟨h7, hh7, gy, k7⟩ : ∃ h7, List.set h3 (h.length + 1 + 1) (.cells (rtx snap dp ds dc lp L lc) .rw) = h7 ∧ h7[(h.length + 1 + 1)]? = some (.cells (rtx snap dp ds dc lp L lc) .rw) ∧ Ext h h7 := ⟨_, rfl, set_same _ (lt_of_some gr3), Ext.set e03 (by omega) _⟩
    simp only [rtx] at st hh7 gy
    simp -dsimp (disch := first | with_reducible assumption | omega | (intro h_; cases h_; done) | (simp only [LN] <;> omega) | (simp only [LF]; done) | (repeat (first | with_reducible assumption | apply Ext.refl | apply Ext.app | (apply Ext.set <;> omega) | (refine Ext.trans ?_ (by assumption))))) only [AX, TY, AD, mapPut, entsOf, oneV, builtinV, idsOf, mapId, touchB, Nat.reduceLT, Nat.reduceLeDiff, Nat.reduceEqDiff, Nat.reduceAdd, Nat.reduceMul, Int.reduceBEq, Int.reduceEq, Int.reduceNeg, Int.reduceLT, Int.reduceLE, Int.reduceAdd, Int.reduceSub, Int.reduceMul, Int.reduceToNat, Int.reduceGT, Nat.reduceBEq, Nat.reducePow, Nat.reduceGT, reduceCtorEq, ↓reduceIte, loadN_fact gt3, st, hh7, loadN_fact gy, loadN_fact gv3, q2]
    exact ⟨k7, lp, lc, _, rfl, hL.ext k7, hR.ext k7, .inl rfl⟩
  by_cases q3 : v.dl = 0
  rotate_left
  · rw [hno (by rw [hok, q1, decide_eq_true q2, decide_eq_false q3]; rfl)]
    have st := storeN_fact (vs := rtx snap dp ds dc lp L lc) gr3 (by simp)
    obtain ⟨h7, hh7, gy, k7⟩ : ∃ h7, List.set h3 (h.length + 1 + 1) (.cells (rtx snap dp ds dc lp L lc) .rw) = h7 ∧ h7[(h.length + 1 + 1)]? = some (.cells (rtx snap dp ds dc lp L lc) .rw) ∧ Ext h h7 := ⟨_, rfl, set_same _ (lt_of_some gr3), Ext.set e03 (by omega) _⟩
    simp only [rtx] at st hh7 gy
    simp -dsimp (disch := first | with_reducible assumption | omega | (intro h_; cases h_; done) | (simp only [LN] <;> omega) | (simp only [LF]; done) | (repeat (first | with_reducible assumption | apply Ext.refl | apply Ext.app | (apply Ext.set <;> omega) | (refine Ext.trans ?_ (by assumption))))) only [AX, TY, AD, mapPut, entsOf, oneV, builtinV, idsOf, mapId, touchB, Nat.reduceLT, Nat.reduceLeDiff, Nat.reduceEqDiff, Nat.reduceAdd, Nat.reduceMul, Int.reduceBEq, Int.reduceEq, Int.reduceNeg, Int.reduceLT, Int.reduceLE, Int.reduceAdd, Int.reduceSub, Int.reduceMul, Int.reduceToNat, Int.reduceGT, Nat.reduceBEq, Nat.reducePow, Nat.reduceGT, reduceCtorEq, ↓reduceIte, loadN_fact gt3, st, hh7, loadN_fact gy, loadN_fact gv3, eq_true q2, q3]
    exact ⟨k7, lp, lc, _, rfl, hL.ext k7, hR.ext k7, .inl rfl⟩
  cases an
  · rw [hno (by rw [hok, q1, decide_eq_true q2, decide_eq_true q3]; rfl)]
    have st := storeN_fact (vs := rtx snap dp ds dc lp L lc) gr3 (by simp)
    obtain ⟨h7, hh7, gy, k7⟩ : ∃ h7, List.set h3 (h.length + 1 + 1) (.cells (rtx snap dp ds dc lp L lc) .rw) = h7 ∧ h7[(h.length + 1 + 1)]? = some (.cells (rtx snap dp ds dc lp L lc) .rw) ∧ Ext h h7 := ⟨_, rfl, set_same _ (lt_of_some gr3), Ext.set e03 (by omega) _⟩
    simp only [rtx] at st hh7 gy
    simp -dsimp (disch := first | with_reducible assumption | omega | (intro h_; cases h_; done) | (simp only [LN] <;> omega) | (simp only [LF]; done) | (repeat (first | with_reducible assumption | apply Ext.refl | apply Ext.app | (apply Ext.set <;> omega) | (refine Ext.trans ?_ (by assumption))))) only [AX, TY, AD, mapPut, entsOf, oneV, builtinV, idsOf, mapId, touchB, Nat.reduceLT, Nat.reduceLeDiff, Nat.reduceEqDiff, Nat.reduceAdd, Nat.reduceMul, Int.reduceBEq, Int.reduceEq, Int.reduceNeg, Int.reduceLT, Int.reduceLE, Int.reduceAdd, Int.reduceSub, Int.reduceMul, Int.reduceToNat, Int.reduceGT, Nat.reduceBEq, Nat.reducePow, Nat.reduceGT, reduceCtorEq, ↓reduceIte, loadN_fact gt3, st, hh7, loadN_fact gy, loadN_fact gv3, eq_true q2, eq_true q3]
    exact ⟨k7, lp, lc, _, rfl, hL.ext k7, hR.ext k7, .inl rfl⟩
  have hmem := (hd1 rfl).1
  have hfit := fits_ok (c := d.cc) (e := v.c) ((hs.ok _ hmem).1.ext e03) (Sl.ext hv e03)
  simp -dsimp (disch := first | with_reducible assumption | omega | (intro h_; cases h_; done) | (simp only [LN] <;> omega) | (simp only [LF]; done) | (repeat (first | with_reducible assumption | apply Ext.refl | apply Ext.app | (apply Ext.set <;> omega) | (refine Ext.trans ?_ (by assumption))))) only [AX, TY, AD, mapPut, entsOf, oneV, builtinV, idsOf, mapId, touchB, Nat.reduceLT, Nat.reduceLeDiff, Nat.reduceEqDiff, Nat.reduceAdd, Nat.reduceMul, Int.reduceBEq, Int.reduceEq, Int.reduceNeg, Int.reduceLT, Int.reduceLE, Int.reduceAdd, Int.reduceSub, Int.reduceMul, Int.reduceToNat, Int.reduceGT, Nat.reduceBEq, Nat.reducePow, Nat.reduceGT, reduceCtorEq, ↓reduceIte, loadN_fact gv3, eq_true q2, eq_true q3, loadN_fact gd3]
  refine hfit.mono ?_
  rintro _ h4 ⟨e4, rfl⟩
  have gt4 := e4 _ _ gt3
  have gv4 := e4 _ _ gv3
  have gr4 := e4 _ _ gr3
  have e04 := e03.trans e4
  cases hf : fitsD d v.vals
  · rw [hno (by rw [hok, hf, Bool.and_false, Bool.and_false])]
    have st := storeN_fact (vs := rtx snap dp ds dc lp L lc) gr4 (by simp)
    obtain ⟨h7, hh7, gy, k7⟩ : ∃ h7, List.set h4 (h.length + 1 + 1) (.cells (rtx snap dp ds dc lp L lc) .rw) = h7 ∧ h7[(h.length + 1 + 1)]? = some (.cells (rtx snap dp ds dc lp L lc) .rw) ∧ Ext h h7 := ⟨_, rfl, set_same _ (lt_of_some gr4), Ext.set e04 (by omega) _⟩
    simp only [rtx] at st hh7 gy
    simp -dsimp (disch := first | with_reducible assumption | omega | (intro h_; cases h_; done) | (simp only [LN] <;> omega) | (simp only [LF]; done) | (repeat (first | with_reducible assumption | apply Ext.refl | apply Ext.app | (apply Ext.set <;> omega) | (refine Ext.trans ?_ (by assumption))))) only [AX, TY, AD, mapPut, entsOf, oneV, builtinV, idsOf, mapId, touchB, Nat.reduceLT, Nat.reduceLeDiff, Nat.reduceEqDiff, Nat.reduceAdd, Nat.reduceMul, Int.reduceBEq, Int.reduceEq, Int.reduceNeg, Int.reduceLT, Int.reduceLE, Int.reduceAdd, Int.reduceSub, Int.reduceMul, Int.reduceToNat, Int.reduceGT, Nat.reduceBEq, Nat.reducePow, Nat.reduceGT, reduceCtorEq, ↓reduceIte, loadN_fact gt4, st, hh7, loadN_fact gy, hf]
    exact ⟨k7, lp, lc, _, rfl, hL.ext k7, hR.ext k7, .inl rfl⟩
  have hokt : okIns ds [] v = true := by rw [hok, q1, decide_eq_true q2, decide_eq_true q3, hf]; rfl
  have hdn := done_ok (snap := snap) (dp := dp) (dc := dc) (ds := ds) (lc := lc) (hL.ext e04) true v.a v.b
  simp only [rtx] at hdn
  simp -dsimp (disch := first | with_reducible assumption | omega | (intro h_; cases h_; done) | (simp only [LN] <;> omega) | (simp only [LF]; done) | (repeat (first | with_reducible assumption | apply Ext.refl | apply Ext.app | (apply Ext.set <;> omega) | (refine Ext.trans ?_ (by assumption))))) only [AX, TY, AD, mapPut, entsOf, oneV, builtinV, idsOf, mapId, touchB, Nat.reduceLT, Nat.reduceLeDiff, Nat.reduceEqDiff, Nat.reduceAdd, Nat.reduceMul, Int.reduceBEq, Int.reduceEq, Int.reduceNeg, Int.reduceLT, Int.reduceLE, Int.reduceAdd, Int.reduceSub, Int.reduceMul, Int.reduceToNat, Int.reduceGT, Nat.reduceBEq, Nat.reducePow, Nat.reduceGT, reduceCtorEq, ↓reduceIte, loadN_fact gt4, loadN_fact gv4]
  refine hdn.mono ?_
  rintro _ h5 ⟨e5, rfl⟩
  have gt5 := e5 _ _ gt4
  have gv5 := e5 _ _ gv4
  have gr5 := e5 _ _ gr4
  have e05 := e04.trans e5
  have hspl := any_split L fun o => decide (o.v.a = v.a ∧ o.v.b = v.b)
  cases hdt : (L.any fun o => decide (o.v.a = v.a ∧ o.v.b = v.b) && decide (o.ins = true))
  rotate_left
  · rw [hdt, Bool.true_or] at hspl
    rw [hokt, ← hspl]
    have st := storeN_fact (vs := rtx snap dp ds dc lp L lc) gr5 (by simp)
    obtain ⟨h7, hh7, gy, k7⟩ : ∃ h7, List.set h5 (h.length + 1 + 1) (.cells (rtx snap dp ds dc lp L lc) .rw) = h7 ∧ h7[(h.length + 1 + 1)]? = some (.cells (rtx snap dp ds dc lp L lc) .rw) ∧ Ext h h7 := ⟨_, rfl, set_same _ (lt_of_some gr5), Ext.set e05 (by omega) _⟩
    simp only [rtx] at st hh7 gy
    simp -dsimp (disch := first | with_reducible assumption | omega | (intro h_; cases h_; done) | (simp only [LN] <;> omega) | (simp only [LF]; done) | (repeat (first | with_reducible assumption | apply Ext.refl | apply Ext.app | (apply Ext.set <;> omega) | (refine Ext.trans ?_ (by assumption))))) only [AX, TY, AD, mapPut, entsOf, oneV, builtinV, idsOf, mapId, touchB, Nat.reduceLT, Nat.reduceLeDiff, Nat.reduceEqDiff, Nat.reduceAdd, Nat.reduceMul, Int.reduceBEq, Int.reduceEq, Int.reduceNeg, Int.reduceLT, Int.reduceLE, Int.reduceAdd, Int.reduceSub, Int.reduceMul, Int.reduceToNat, Int.reduceGT, Nat.reduceBEq, Nat.reducePow, Nat.reduceGT, reduceCtorEq, ↓reduceIte, loadN_fact gt5, st, hh7, loadN_fact gy, hdt]
    exact ⟨k7, lp, lc, _, rfl, hL.ext k7, hR.ext k7, .inl rfl⟩
  have hdn2 := done_ok (snap := snap) (dp := dp) (dc := dc) (ds := ds) (lc := lc) (hL.ext e05) false v.a v.b
  simp only [rtx] at hdn2
  simp -dsimp (disch := first | with_reducible assumption | omega | (intro h_; cases h_; done) | (simp only [LN] <;> omega) | (simp only [LF]; done) | (repeat (first | with_reducible assumption | apply Ext.refl | apply Ext.app | (apply Ext.set <;> omega) | (refine Ext.trans ?_ (by assumption))))) only [AX, TY, AD, mapPut, entsOf, oneV, builtinV, idsOf, mapId, touchB, Nat.reduceLT, Nat.reduceLeDiff, Nat.reduceEqDiff, Nat.reduceAdd, Nat.reduceMul, Int.reduceBEq, Int.reduceEq, Int.reduceNeg, Int.reduceLT, Int.reduceLE, Int.reduceAdd, Int.reduceSub, Int.reduceMul, Int.reduceToNat, Int.reduceGT, Nat.reduceBEq, Nat.reducePow, Nat.reduceGT, reduceCtorEq, ↓reduceIte, loadN_fact gt5, loadN_fact gv5]
  refine hdn2.mono ?_
  rintro _ h6 ⟨e6, rfl⟩
  have gt6 := e6 _ _ gt5
  have gv6 := e6 _ _ gv5
  have gr6 := e6 _ _ gr5
  have e06 := e05.trans e6
  cases hdf : (L.any fun o => decide (o.v.a = v.a ∧ o.v.b = v.b) && decide (o.ins = false))
  rotate_left
  · rw [hdt, hdf, Bool.false_or] at hspl
    rw [hokt, ← hspl]
    have st := storeN_fact (vs := rtx snap dp ds dc lp L lc) gr6 (by simp)
    obtain ⟨h7, hh7, gy, k7⟩ : ∃ h7, List.set h6 (h.length + 1 + 1) (.cells (rtx snap dp ds dc lp L lc) .rw) = h7 ∧ h7[(h.length + 1 + 1)]? = some (.cells (rtx snap dp ds dc lp L lc) .rw) ∧ Ext h h7 := ⟨_, rfl, set_same _ (lt_of_some gr6), Ext.set e06 (by omega) _⟩
    simp only [rtx] at st hh7 gy
    simp -dsimp (disch := first | with_reducible assumption | omega | (intro h_; cases h_; done) | (simp only [LN] <;> omega) | (simp only [LF]; done) | (repeat (first | with_reducible assumption | apply Ext.refl | apply Ext.app | (apply Ext.set <;> omega) | (refine Ext.trans ?_ (by assumption))))) only [AX, TY, AD, mapPut, entsOf, oneV, builtinV, idsOf, mapId, touchB, Nat.reduceLT, Nat.reduceLeDiff, Nat.reduceEqDiff, Nat.reduceAdd, Nat.reduceMul, Int.reduceBEq, Int.reduceEq, Int.reduceNeg, Int.reduceLT, Int.reduceLE, Int.reduceAdd, Int.reduceSub, Int.reduceMul, Int.reduceToNat, Int.reduceGT, Nat.reduceBEq, Nat.reducePow, Nat.reduceGT, reduceCtorEq, ↓reduceIte, loadN_fact gt6, st, hh7, loadN_fact gy, hdf]
    exact ⟨k7, lp, lc, _, rfl, hL.ext k7, hR.ext k7, .inl rfl⟩
  rw [hdt, hdf, Bool.false_or] at hspl
  rw [hokt, ← hspl]
  simp -dsimp (disch := first | with_reducible assumption | omega | (intro h_; cases h_; done) | (simp only [LN] <;> omega) | (simp only [LF]; done) | (repeat (first | with_reducible assumption | apply Ext.refl | apply Ext.app | (apply Ext.set <;> omega) | (refine Ext.trans ?_ (by assumption))))) only [AX, TY, AD, mapPut, entsOf, oneV, builtinV, idsOf, mapId, touchB, Nat.reduceLT, Nat.reduceLeDiff, Nat.reduceEqDiff, Nat.reduceAdd, Nat.reduceMul, Int.reduceBEq, Int.reduceEq, Int.reduceNeg, Int.reduceLT, Int.reduceLE, Int.reduceAdd, Int.reduceSub, Int.reduceMul, Int.reduceToNat, Int.reduceGT, Nat.reduceBEq, Nat.reducePow, Nat.reduceGT, reduceCtorEq, ↓reduceIte, loadN_fact gt6, loadN_fact gv6]
  refine W.drawn [(0, []), (1, [0]), (2, [0]), (3, []), (4, [3, 2, 1, 0]), (5, [3, 2, 1, 0]), (6, [3, 2, 1, 0]), (7, []), (8, []), (9, [])] (by decide +kernel) ?_
  obtain ⟨g7, hg7, g0, ex7, l7⟩ : ∃ g7, h6 ++ [O.cells [] .rw] = g7 ∧ g7[h6.length]? = some (O.cells [] .rw) ∧ Ext h6 g7 ∧ g7.length = h6.length + 1 := ⟨_, rfl, by simp, (by (repeat (first | assumption | apply Ext.refl | apply Ext.app | (apply Ext.set <;> omega) | exact Ext.trans (by assumption) (by assumption) | (refine Ext.trans ?_ (by assumption))))), by simp⟩
  have gt7 := ex7 _ _ gt6
  have g0' : Gr h6.length g7 (some (h6.length, 0)) (some 0) (some h6.length) 6 Ro.enc [] := Gr.built (ys := ([] : List Ro)) g0 rfl (Nat.le_refl _) (fun _ h => (by cases h)) (fun _ h => (by cases h)) (Nat.zero_le _) rfl
  have hLs := hL.sl.ext (e06.trans ex7)
  have ltT := lt_of_some gt6
  simp -dsimp (disch := first | with_reducible assumption | omega | (intro h_; cases h_; done) | (simp only [LN] <;> omega) | (simp only [LF]; done) | (repeat (first | with_reducible assumption | apply Ext.refl | apply Ext.app | (apply Ext.set <;> omega) | (refine Ext.trans ?_ (by assumption))))) only [AX, TY, AD, mapPut, entsOf, oneV, builtinV, idsOf, mapId, touchB, Nat.reduceLT, Nat.reduceLeDiff, Nat.reduceEqDiff, Nat.reduceAdd, Nat.reduceMul, Int.reduceBEq, Int.reduceEq, Int.reduceNeg, Int.reduceLT, Int.reduceLE, Int.reduceAdd, Int.reduceSub, Int.reduceMul, Int.reduceToNat, Int.reduceGT, Nat.reduceBEq, Nat.reducePow, Nat.reduceGT, reduceCtorEq, ↓reduceIte, loadN_fact gt6, loadN_fact gt7, hg7, ltT]
  refine (g0'.wrS (by omega) (Ext.refl _) (vc := lc) hLs (fun _ _ => rfl) (by simp; omega) (by simp; omega)).mono ?_
  rintro w h8 ⟨p8, c8, o8, rfl, gr8, ho8, hle8, hfr8⟩
  rw [List.nil_append] at gr8
  have fr8 : ∀ a, a < h6.length → h8[a]? = h6[a]? := fun a ha => by
    rw [hfr8 a (fun q => by cases q; omega) (by omega)]
    exact ex7.same ha
  have e8 : Ext h6 h8 := Ext.of_keep fr8
  have ltG := lt_of_some gr6
  have gt8 := e8 _ _ gt6
  have st8 : sameO g7[h.length]? h8[h.length]? = true := by rw [gt8, gt7]; exact sameO_refl _
  have l8 := e8.le
  simp -dsimp (disch := first | with_reducible assumption | omega | (intro h_; cases h_; done) | (simp only [LN] <;> omega) | (simp only [LF]; done) | (repeat (first | with_reducible assumption | apply Ext.refl | apply Ext.app | (apply Ext.set <;> omega) | (refine Ext.trans ?_ (by assumption))))) only [AX, TY, AD, mapPut, entsOf, oneV, builtinV, idsOf, mapId, touchB, Nat.reduceLT, Nat.reduceLeDiff, Nat.reduceEqDiff, Nat.reduceAdd, Nat.reduceMul, Int.reduceBEq, Int.reduceEq, Int.reduceNeg, Int.reduceLT, Int.reduceLE, Int.reduceAdd, Int.reduceSub, Int.reduceMul, Int.reduceToNat, Int.reduceGT, Nat.reduceBEq, Nat.reducePow, Nat.reduceGT, reduceCtorEq, ↓reduceIte, loadN_fact gt8, loadN_fact (e8 _ _ gv6), st8]
  refine (gr8.wrB (by omega) (hh := h8 ++ [O.cells (Ro.enc (⟨true, v⟩ : Ro)) .rw]) (by (repeat (first | assumption | apply Ext.refl | apply Ext.app | (apply Ext.set <;> omega) | exact Ext.trans (by assumption) (by assumption) | (refine Ext.trans ?_ (by assumption))))) [(⟨true, v⟩ : Ro)] (snoc_last _ rfl) rfl (fun _ _ => rfl) (fun y hy => by rw [List.mem_singleton] at hy; subst hy; rfl) (by simp; omega) (by simp; omega)).mono ?_
  rintro w h9 ⟨p9, c9, o9, rfl, gr9, ho9, hle9, hfr9⟩
  have b8 : ∀ k, o8 = some k → h6.length ≤ k := fun k q => gr8.base k q
  have fr9 : ∀ a, a < h6.length → h9[a]? = h6[a]? := fun a ha => by
    rw [hfr9 a (fun q => by have := b8 a q; omega) (by omega)]
    exact fr8 a ha
  have gt9 := (fr9 _ ltT).trans gt6
  have gr9' := (fr9 _ ltG).trans gr6
  have st9 : sameO h8[h.length]? h9[h.length]? = true := by rw [gt9, gt8]; exact sameO_refl _
  have ln : (L ++ [(⟨true, v⟩ : Ro)]).length = L.length + 1 := by simp
  obtain ⟨h10, hh10, gt10, kp10, l10⟩ : ∃ h10, h9.set h.length (.cells (rtx snap dp ds dc p9 (L ++ [(⟨true, v⟩ : Ro)]) c9) .rw) = h10 ∧ h10[h.length]? = some (.cells (rtx snap dp ds dc p9 (L ++ [(⟨true, v⟩ : Ro)]) c9) .rw) ∧ (∀ a, a ≠ h.length → h10[a]? = h9[a]?) ∧ h10.length = h9.length := ⟨_, rfl, set_same _ (by omega), fun a ha => set_other _ ha, by simp⟩
  have gr10 := (kp10 (h.length + 1 + 1) (by omega)).trans gr9'
  obtain ⟨h11, hh11, gt11, kp11, l11⟩ : ∃ h11, h10.set (h.length + 1 + 1) (.cells (rtx snap dp ds dc p9 (L ++ [(⟨true, v⟩ : Ro)]) c9) .rw) = h11 ∧ h11[(h.length + 1 + 1)]? = some (.cells (rtx snap dp ds dc p9 (L ++ [(⟨true, v⟩ : Ro)]) c9) .rw) ∧ (∀ a, a ≠ h.length + 1 + 1 → h11[a]? = h10[a]?) ∧ h11.length = h10.length := ⟨_, rfl, set_same _ (by omega), fun a ha => set_other _ ha, by simp⟩
  have e11 : Ext h h11 := Ext.of_keep fun a ha => by
    rw [kp11 a (by omega), kp10 a (by omega), fr9 a (by have := e06.le; omega)]
    exact e06.same ha
  have rl11 : RL h11 p9 (L ++ [(⟨true, v⟩ : Ro)]) := ⟨gr9.sl.keep fun a o z => by have := gr9.base a (gr9.at z); have := e06.le; rw [kp11 a (by omega), kp10 a (by omega)], fun o ho => by
    rcases List.mem_append.1 ho with ho | ho
    · exact (hL.ok o ho).ext e11
    · rw [List.mem_singleton] at ho; subst ho; exact Sl.ext hv e11⟩
  simp only [rtx, ln] at hh10 hh11 gt10 gt11
  simp -dsimp (disch := first | with_reducible assumption | omega | (intro h_; cases h_; done) | (simp only [LN] <;> omega) | (simp only [LF]; done) | (repeat (first | with_reducible assumption | apply Ext.refl | apply Ext.app | (apply Ext.set <;> omega) | (refine Ext.trans ?_ (by assumption))))) only [AX, TY, AD, mapPut, entsOf, oneV, builtinV, idsOf, mapId, touchB, Nat.reduceLT, Nat.reduceLeDiff, Nat.reduceEqDiff, Nat.reduceAdd, Nat.reduceMul, Int.reduceBEq, Int.reduceEq, Int.reduceNeg, Int.reduceLT, Int.reduceLE, Int.reduceAdd, Int.reduceSub, Int.reduceMul, Int.reduceToNat, Int.reduceGT, Nat.reduceBEq, Nat.reducePow, Nat.reduceGT, reduceCtorEq, ↓reduceIte, st9, storeN_fact gt9 (by simp), hh10, loadN_fact gt10, storeN_fact gr10 (by simp), hh11, loadN_fact gt11]
  refine ⟨e11, p9, c9, 0, ?_, rl11, (gr9.keep fun k q => by have := gr9.base k q; have := e06.le; rw [kp11 k (by omega), kp10 k (by omega)]).rs, .inr fun a o z => by have := gr9.base a (gr9.at z); have := e06.le; omega⟩
  simp only [rtx, ln]
theorem rdelete_ok {h : Heap} {snap : Int} {dp lp : Option (Nat × Nat)} {dc lc : Option Nat} {ds : List Td} {L : List Ro} (hs : Tds h dp ds) (hL : RL h lp L) (hR : Rs h lp lc 6 Ro.enc L) (hB : L.length ≤ 1000) (a b : Int) :
    WR (callE Tryz.prog hk 23 [.agg (rtx snap dp ds dc lp L lc), .agg [.int .i64 a, .int .i64 b]] h) fun r h' => RTx h snap dp ds dc lp (if (decide (1 ≤ a) && decide (1 ≤ b) && ds.any fun d => decide (d.id = a)) && !(L.any fun o => decide (o.v.a = a ∧ o.v.b = b) && decide (o.ins = false)) then L ++ [⟨false, ⟨a, b, none, some 0, [], 0, 0⟩⟩] else L) r h' := by
  have hnL := hL.sl.nil'
  have hlL := hL.sl.small
  refine WR.call (hH := rfl) Tryz.func23 rfl (n := 38) rfl rfl (by simp) ?_
  obtain ⟨g, hg, gt, gv, gr, ex, hgl⟩ : ∃ g, h ++ [O.cells (rtx snap dp ds dc lp L lc) .rw] ++ [O.cells [.int .i64 a, .int .i64 b] .rw] ++ [O.cells [.int .i64 0, .slice none 0 (some 0), .slice none 0 (some 0)] .rw] = g ∧ g[h.length]? = some (O.cells (rtx snap dp ds dc lp L lc) .rw) ∧ g[h.length + 1]? = some (O.cells [.int .i64 a, .int .i64 b] .rw) ∧ g[h.length + 1 + 1]? = some (O.cells [.int .i64 0, .slice none 0 (some 0), .slice none 0 (some 0)] .rw) ∧ Ext h g ∧ g.length = h.length + 3 := ⟨_, rfl, by simp, by simp, snoc_last _ (by simp), (by (repeat (first | assumption | apply Ext.refl | apply Ext.app | (apply Ext.set <;> omega) | exact Ext.trans (by assumption) (by assumption) | (refine Ext.trans ?_ (by assumption))))), by simp⟩
  have hdef := rdef_ok (h := g) (snap := snap) (dc := dc) (lp := lp) (L := L) (lc := lc) (hs.ext ex) a
  simp only [rtx] at hg gt hdef
  simp -dsimp (disch := first | with_reducible assumption | omega | (intro h_; cases h_; done) | (simp only [LN] <;> omega) | (simp only [LF]; done) | (repeat (first | with_reducible assumption | apply Ext.refl | apply Ext.app | (apply Ext.set <;> omega) | (refine Ext.trans ?_ (by assumption))))) only [AX, TY, AD, mapPut, entsOf, oneV, builtinV, idsOf, mapId, touchB, Nat.reduceLT, Nat.reduceLeDiff, Nat.reduceEqDiff, Nat.reduceAdd, Nat.reduceMul, Int.reduceBEq, Int.reduceEq, Int.reduceNeg, Int.reduceLT, Int.reduceLE, Int.reduceAdd, Int.reduceSub, Int.reduceMul, Int.reduceToNat, Int.reduceGT, Nat.reduceBEq, Nat.reducePow, Nat.reduceGT, reduceCtorEq, ↓reduceIte, hg, loadN_fact gt, loadN_fact gv]
  refine hdef.mono ?_
  rintro _ h1 ⟨e1, hd⟩
  obtain ⟨d, rfl, _, _⟩ := def_core hd
  generalize hany : (ds.any fun d => decide (d.id = a)) = an
  obtain ⟨h2, hh2, gd, ex2, l2⟩ : ∃ h2, h1 ++ [O.cells d.enc .rw] = h2 ∧ h2[h1.length]? = some (O.cells d.enc .rw) ∧ Ext h1 h2 ∧ h2.length = h1.length + 1 := ⟨_, rfl, by simp, (by (repeat (first | assumption | apply Ext.refl | apply Ext.app | (apply Ext.set <;> omega) | exact Ext.trans (by assumption) (by assumption) | (refine Ext.trans ?_ (by assumption))))), by simp⟩
  have gt2 := ex2 _ _ (e1 _ _ gt)
  have gv2 := ex2 _ _ (e1 _ _ gv)
  have gr2 := ex2 _ _ (e1 _ _ gr)
  have e02 := (ex.trans e1).trans ex2
  have hval := valid02_ok (h := h2) a b
  simp only [Td.enc] at hh2 gd
  cases an
  · rw [Bool.and_false, Bool.false_and, if_neg Bool.false_ne_true]
    simp -dsimp (disch := first | with_reducible assumption | omega | (intro h_; cases h_; done) | (simp only [LN] <;> omega) | (simp only [LF]; done) | (repeat (first | with_reducible assumption | apply Ext.refl | apply Ext.app | (apply Ext.set <;> omega) | (refine Ext.trans ?_ (by assumption))))) only [AX, TY, AD, mapPut, entsOf, oneV, builtinV, idsOf, mapId, touchB, Nat.reduceLT, Nat.reduceLeDiff, Nat.reduceEqDiff, Nat.reduceAdd, Nat.reduceMul, Int.reduceBEq, Int.reduceEq, Int.reduceNeg, Int.reduceLT, Int.reduceLE, Int.reduceAdd, Int.reduceSub, Int.reduceMul, Int.reduceToNat, Int.reduceGT, Nat.reduceBEq, Nat.reducePow, Nat.reduceGT, reduceCtorEq, ↓reduceIte, Td.enc, hh2]
    have st := storeN_fact (vs := rtx snap dp ds dc lp L lc) gr2 (by simp)
    obtain ⟨h7, hh7, gy, k7⟩ : ∃ h7, List.set h2 (h.length + 1 + 1) (.cells (rtx snap dp ds dc lp L lc) .rw) = h7 ∧ h7[(h.length + 1 + 1)]? = some (.cells (rtx snap dp ds dc lp L lc) .rw) ∧ Ext h h7 := ⟨_, rfl, set_same _ (lt_of_some gr2), Ext.set e02 (by omega) _⟩
    simp only [rtx] at st hh7 gy
    simp -dsimp (disch := first | with_reducible assumption | omega | (intro h_; cases h_; done) | (simp only [LN] <;> omega) | (simp only [LF]; done) | (repeat (first | with_reducible assumption | apply Ext.refl | apply Ext.app | (apply Ext.set <;> omega) | (refine Ext.trans ?_ (by assumption))))) only [AX, TY, AD, mapPut, entsOf, oneV, builtinV, idsOf, mapId, touchB, Nat.reduceLT, Nat.reduceLeDiff, Nat.reduceEqDiff, Nat.reduceAdd, Nat.reduceMul, Int.reduceBEq, Int.reduceEq, Int.reduceNeg, Int.reduceLT, Int.reduceLE, Int.reduceAdd, Int.reduceSub, Int.reduceMul, Int.reduceToNat, Int.reduceGT, Nat.reduceBEq, Nat.reducePow, Nat.reduceGT, reduceCtorEq, ↓reduceIte, loadN_fact gt2, st, hh7, loadN_fact gy, hh2]
    exact ⟨k7, lp, lc, _, rfl, hL.ext k7, hR.ext k7, .inl rfl⟩
  simp -dsimp (disch := first | with_reducible assumption | omega | (intro h_; cases h_; done) | (simp only [LN] <;> omega) | (simp only [LF]; done) | (repeat (first | with_reducible assumption | apply Ext.refl | apply Ext.app | (apply Ext.set <;> omega) | (refine Ext.trans ?_ (by assumption))))) only [AX, TY, AD, mapPut, entsOf, oneV, builtinV, idsOf, mapId, touchB, Nat.reduceLT, Nat.reduceLeDiff, Nat.reduceEqDiff, Nat.reduceAdd, Nat.reduceMul, Int.reduceBEq, Int.reduceEq, Int.reduceNeg, Int.reduceLT, Int.reduceLE, Int.reduceAdd, Int.reduceSub, Int.reduceMul, Int.reduceToNat, Int.reduceGT, Nat.reduceBEq, Nat.reducePow, Nat.reduceGT, reduceCtorEq, ↓reduceIte, Td.enc, hh2, loadN_fact gv2]
  refine hval.mono ?_
  rintro _ h3 ⟨e3, rfl⟩
  have gt3 := e3 _ _ gt2
  have gv3 := e3 _ _ gv2
  have gr3 := e3 _ _ gr2
  have e03 := e02.trans e3
  cases q1 : (decide (1 ≤ a) && decide (1 ≤ b))
  · rw [Bool.false_and, Bool.false_and, if_neg Bool.false_ne_true]
    have st := storeN_fact (vs := rtx snap dp ds dc lp L lc) gr3 (by simp)
    obtain ⟨h7, hh7, gy, k7⟩ : ∃ h7, List.set h3 (h.length + 1 + 1) (.cells (rtx snap dp ds dc lp L lc) .rw) = h7 ∧ h7[(h.length + 1 + 1)]? = some (.cells (rtx snap dp ds dc lp L lc) .rw) ∧ Ext h h7 := ⟨_, rfl, set_same _ (lt_of_some gr3), Ext.set e03 (by omega) _⟩
    simp only [rtx] at st hh7 gy
    simp -dsimp (disch := first | with_reducible assumption | omega | (intro h_; cases h_; done) | (simp only [LN] <;> omega) | (simp only [LF]; done) | (repeat (first | with_reducible assumption | apply Ext.refl | apply Ext.app | (apply Ext.set <;> omega) | (refine Ext.trans ?_ (by assumption))))) only [AX, TY, AD, mapPut, entsOf, oneV, builtinV, idsOf, mapId, touchB, Nat.reduceLT, Nat.reduceLeDiff, Nat.reduceEqDiff, Nat.reduceAdd, Nat.reduceMul, Int.reduceBEq, Int.reduceEq, Int.reduceNeg, Int.reduceLT, Int.reduceLE, Int.reduceAdd, Int.reduceSub, Int.reduceMul, Int.reduceToNat, Int.reduceGT, Nat.reduceBEq, Nat.reducePow, Nat.reduceGT, reduceCtorEq, ↓reduceIte, loadN_fact gt3, st, hh7, loadN_fact gy, q1]
    exact ⟨k7, lp, lc, _, rfl, hL.ext k7, hR.ext k7, .inl rfl⟩
  have hdn := done_ok (snap := snap) (dp := dp) (dc := dc) (ds := ds) (lc := lc) (hL.ext e03) false a b
  simp only [rtx] at hdn
  simp -dsimp (disch := first | with_reducible assumption | omega | (intro h_; cases h_; done) | (simp only [LN] <;> omega) | (simp only [LF]; done) | (repeat (first | with_reducible assumption | apply Ext.refl | apply Ext.app | (apply Ext.set <;> omega) | (refine Ext.trans ?_ (by assumption))))) only [AX, TY, AD, mapPut, entsOf, oneV, builtinV, idsOf, mapId, touchB, Nat.reduceLT, Nat.reduceLeDiff, Nat.reduceEqDiff, Nat.reduceAdd, Nat.reduceMul, Int.reduceBEq, Int.reduceEq, Int.reduceNeg, Int.reduceLT, Int.reduceLE, Int.reduceAdd, Int.reduceSub, Int.reduceMul, Int.reduceToNat, Int.reduceGT, Nat.reduceBEq, Nat.reducePow, Nat.reduceGT, reduceCtorEq, ↓reduceIte, loadN_fact gt3, loadN_fact gv3]
  refine hdn.mono ?_
  rintro _ h6 ⟨e6, rfl⟩
  have gt6 := e6 _ _ gt3
  have gv6 := e6 _ _ gv3
  have gr6 := e6 _ _ gr3
  have e06 := e03.trans e6
  cases hdf : (L.any fun o => decide (o.v.a = a ∧ o.v.b = b) && decide (o.ins = false))
  rotate_left
  · rw [Bool.not_true, Bool.and_false, if_neg Bool.false_ne_true]
    have st := storeN_fact (vs := rtx snap dp ds dc lp L lc) gr6 (by simp)
    obtain ⟨h7, hh7, gy, k7⟩ : ∃ h7, List.set h6 (h.length + 1 + 1) (.cells (rtx snap dp ds dc lp L lc) .rw) = h7 ∧ h7[(h.length + 1 + 1)]? = some (.cells (rtx snap dp ds dc lp L lc) .rw) ∧ Ext h h7 := ⟨_, rfl, set_same _ (lt_of_some gr6), Ext.set e06 (by omega) _⟩
    simp only [rtx] at st hh7 gy
    simp -dsimp (disch := first | with_reducible assumption | omega | (intro h_; cases h_; done) | (simp only [LN] <;> omega) | (simp only [LF]; done) | (repeat (first | with_reducible assumption | apply Ext.refl | apply Ext.app | (apply Ext.set <;> omega) | (refine Ext.trans ?_ (by assumption))))) only [AX, TY, AD, mapPut, entsOf, oneV, builtinV, idsOf, mapId, touchB, Nat.reduceLT, Nat.reduceLeDiff, Nat.reduceEqDiff, Nat.reduceAdd, Nat.reduceMul, Int.reduceBEq, Int.reduceEq, Int.reduceNeg, Int.reduceLT, Int.reduceLE, Int.reduceAdd, Int.reduceSub, Int.reduceMul, Int.reduceToNat, Int.reduceGT, Nat.reduceBEq, Nat.reducePow, Nat.reduceGT, reduceCtorEq, ↓reduceIte, loadN_fact gt6, st, hh7, loadN_fact gy, hdf]
    exact ⟨k7, lp, lc, _, rfl, hL.ext k7, hR.ext k7, .inl rfl⟩
  rw [if_pos (show (true && true && !false) = true from rfl)]
  simp -dsimp (disch := first | with_reducible assumption | omega | (intro h_; cases h_; done) | (simp only [LN] <;> omega) | (simp only [LF]; done) | (repeat (first | with_reducible assumption | apply Ext.refl | apply Ext.app | (apply Ext.set <;> omega) | (refine Ext.trans ?_ (by assumption))))) only [AX, TY, AD, mapPut, entsOf, oneV, builtinV, idsOf, mapId, touchB, Nat.reduceLT, Nat.reduceLeDiff, Nat.reduceEqDiff, Nat.reduceAdd, Nat.reduceMul, Int.reduceBEq, Int.reduceEq, Int.reduceNeg, Int.reduceLT, Int.reduceLE, Int.reduceAdd, Int.reduceSub, Int.reduceMul, Int.reduceToNat, Int.reduceGT, Nat.reduceBEq, Nat.reducePow, Nat.reduceGT, reduceCtorEq, ↓reduceIte, loadN_fact gt6, loadN_fact gv6]
  refine W.drawn [(0, []), (1, [0]), (2, [0]), (3, []), (4, [3, 2, 1, 0]), (5, [3, 2, 1, 0]), (6, [3, 2, 1, 0]), (7, [3, 2, 1, 0]), (8, []), (9, []), (10, [])] (by decide +kernel) ?_
  obtain ⟨g7, hg7, g0, ex7, l7⟩ : ∃ g7, h6 ++ [O.cells [] .rw] = g7 ∧ g7[h6.length]? = some (O.cells [] .rw) ∧ Ext h6 g7 ∧ g7.length = h6.length + 1 := ⟨_, rfl, by simp, (by (repeat (first | assumption | apply Ext.refl | apply Ext.app | (apply Ext.set <;> omega) | exact Ext.trans (by assumption) (by assumption) | (refine Ext.trans ?_ (by assumption))))), by simp⟩
  have gt7 := ex7 _ _ gt6
  have g0' : Gr h6.length g7 (some (h6.length, 0)) (some 0) (some h6.length) 6 Ro.enc [] := Gr.built (ys := ([] : List Ro)) g0 rfl (Nat.le_refl _) (fun _ h => (by cases h)) (fun _ h => (by cases h)) (Nat.zero_le _) rfl
  have hLs := hL.sl.ext (e06.trans ex7)
  have ltT := lt_of_some gt6
  simp -dsimp (disch := first | with_reducible assumption | omega | (intro h_; cases h_; done) | (simp only [LN] <;> omega) | (simp only [LF]; done) | (repeat (first | with_reducible assumption | apply Ext.refl | apply Ext.app | (apply Ext.set <;> omega) | (refine Ext.trans ?_ (by assumption))))) only [AX, TY, AD, mapPut, entsOf, oneV, builtinV, idsOf, mapId, touchB, Nat.reduceLT, Nat.reduceLeDiff, Nat.reduceEqDiff, Nat.reduceAdd, Nat.reduceMul, Int.reduceBEq, Int.reduceEq, Int.reduceNeg, Int.reduceLT, Int.reduceLE, Int.reduceAdd, Int.reduceSub, Int.reduceMul, Int.reduceToNat, Int.reduceGT, Nat.reduceBEq, Nat.reducePow, Nat.reduceGT, reduceCtorEq, ↓reduceIte, loadN_fact gt6, loadN_fact gt7, hg7, ltT]
  refine (g0'.wrS (by omega) (Ext.refl _) (vc := lc) hLs (fun _ _ => rfl) (by simp; omega) (by simp; omega)).mono ?_
  rintro w h8 ⟨p8, c8, o8, rfl, gr8, ho8, hle8, hfr8⟩
  rw [List.nil_append] at gr8
  have fr8 : ∀ a, a < h6.length → h8[a]? = h6[a]? := fun a ha => by
    rw [hfr8 a (fun q => by cases q; omega) (by omega)]
    exact ex7.same ha
  have e8 : Ext h6 h8 := Ext.of_keep fr8
  have ltG := lt_of_some gr6
  have gt8 := e8 _ _ gt6
  have st8 : sameO g7[h.length]? h8[h.length]? = true := by rw [gt8, gt7]; exact sameO_refl _
  have l8 := e8.le
  simp -dsimp (disch := first | with_reducible assumption | omega | (intro h_; cases h_; done) | (simp only [LN] <;> omega) | (simp only [LF]; done) | (repeat (first | with_reducible assumption | apply Ext.refl | apply Ext.app | (apply Ext.set <;> omega) | (refine Ext.trans ?_ (by assumption))))) only [AX, TY, AD, mapPut, entsOf, oneV, builtinV, idsOf, mapId, touchB, Nat.reduceLT, Nat.reduceLeDiff, Nat.reduceEqDiff, Nat.reduceAdd, Nat.reduceMul, Int.reduceBEq, Int.reduceEq, Int.reduceNeg, Int.reduceLT, Int.reduceLE, Int.reduceAdd, Int.reduceSub, Int.reduceMul, Int.reduceToNat, Int.reduceGT, Nat.reduceBEq, Nat.reducePow, Nat.reduceGT, reduceCtorEq, ↓reduceIte, loadN_fact gt8, loadN_fact (e8 _ _ gv6), st8]
  refine (gr8.wrB (by omega) (hh := h8 ++ [O.cells (Ro.enc (⟨false, ⟨a, b, none, some 0, [], 0, 0⟩⟩ : Ro)) .rw]) (by (repeat (first | assumption | apply Ext.refl | apply Ext.app | (apply Ext.set <;> omega) | exact Ext.trans (by assumption) (by assumption) | (refine Ext.trans ?_ (by assumption))))) [(⟨false, ⟨a, b, none, some 0, [], 0, 0⟩⟩ : Ro)] (snoc_last _ rfl) rfl (fun _ _ => rfl) (fun y hy => by rw [List.mem_singleton] at hy; subst hy; rfl) (by simp; omega) (by simp; omega)).mono ?_
  rintro w h9 ⟨p9, c9, o9, rfl, gr9, ho9, hle9, hfr9⟩
  have b8 : ∀ k, o8 = some k → h6.length ≤ k := fun k q => gr8.base k q
  have fr9 : ∀ a, a < h6.length → h9[a]? = h6[a]? := fun a ha => by
    rw [hfr9 a (fun q => by have := b8 a q; omega) (by omega)]
    exact fr8 a ha
  have gt9 := (fr9 _ ltT).trans gt6
  have gr9' := (fr9 _ ltG).trans gr6
  have st9 : sameO h8[h.length]? h9[h.length]? = true := by rw [gt9, gt8]; exact sameO_refl _
  have ln : (L ++ [(⟨false, ⟨a, b, none, some 0, [], 0, 0⟩⟩ : Ro)]).length = L.length + 1 := by simp
  obtain ⟨h10, hh10, gt10, kp10, l10⟩ : ∃ h10, h9.set h.length (.cells (rtx snap dp ds dc p9 (L ++ [(⟨false, ⟨a, b, none, some 0, [], 0, 0⟩⟩ : Ro)]) c9) .rw) = h10 ∧ h10[h.length]? = some (.cells (rtx snap dp ds dc p9 (L ++ [(⟨false, ⟨a, b, none, some 0, [], 0, 0⟩⟩ : Ro)]) c9) .rw) ∧ (∀ a, a ≠ h.length → h10[a]? = h9[a]?) ∧ h10.length = h9.length := ⟨_, rfl, set_same _ (by omega), fun a ha => set_other _ ha, by simp⟩
  have gr10 := (kp10 (h.length + 1 + 1) (by omega)).trans gr9'
  obtain ⟨h11, hh11, gt11, kp11, l11⟩ : ∃ h11, h10.set (h.length + 1 + 1) (.cells (rtx snap dp ds dc p9 (L ++ [(⟨false, ⟨a, b, none, some 0, [], 0, 0⟩⟩ : Ro)]) c9) .rw) = h11 ∧ h11[(h.length + 1 + 1)]? = some (.cells (rtx snap dp ds dc p9 (L ++ [(⟨false, ⟨a, b, none, some 0, [], 0, 0⟩⟩ : Ro)]) c9) .rw) ∧ (∀ a, a ≠ h.length + 1 + 1 → h11[a]? = h10[a]?) ∧ h11.length = h10.length := ⟨_, rfl, set_same _ (by omega), fun a ha => set_other _ ha, by simp⟩
  have e11 : Ext h h11 := Ext.of_keep fun a ha => by
    rw [kp11 a (by omega), kp10 a (by omega), fr9 a (by have := e06.le; omega)]
    exact e06.same ha
  have rl11 : RL h11 p9 (L ++ [(⟨false, ⟨a, b, none, some 0, [], 0, 0⟩⟩ : Ro)]) := ⟨gr9.sl.keep fun a o z => by have := gr9.base a (gr9.at z); have := e06.le; rw [kp11 a (by omega), kp10 a (by omega)], fun o ho => by
    rcases List.mem_append.1 ho with ho | ho
    · exact (hL.ok o ho).ext e11
    · rw [List.mem_singleton] at ho; subst ho; exact Sl.nil0 _ _ _⟩
  simp only [rtx, ln] at hh10 hh11 gt10 gt11
  simp -dsimp (disch := first | with_reducible assumption | omega | (intro h_; cases h_; done) | (simp only [LN] <;> omega) | (simp only [LF]; done) | (repeat (first | with_reducible assumption | apply Ext.refl | apply Ext.app | (apply Ext.set <;> omega) | (refine Ext.trans ?_ (by assumption))))) only [AX, TY, AD, mapPut, entsOf, oneV, builtinV, idsOf, mapId, touchB, Nat.reduceLT, Nat.reduceLeDiff, Nat.reduceEqDiff, Nat.reduceAdd, Nat.reduceMul, Int.reduceBEq, Int.reduceEq, Int.reduceNeg, Int.reduceLT, Int.reduceLE, Int.reduceAdd, Int.reduceSub, Int.reduceMul, Int.reduceToNat, Int.reduceGT, Nat.reduceBEq, Nat.reducePow, Nat.reduceGT, reduceCtorEq, ↓reduceIte, st9, storeN_fact gt9 (by simp), hh10, loadN_fact gt10, storeN_fact gr10 (by simp), hh11, loadN_fact gt11]
  refine ⟨e11, p9, c9, 0, ?_, rl11, (gr9.keep fun k q => by have := gr9.base k q; have := e06.le; rw [kp11 k (by omega), kp10 k (by omega)]).rs, .inr fun a o z => by have := gr9.base a (gr9.at z); have := e06.le; omega⟩
  simp only [rtx, ln]
end Go.Proofs.YtcaolnmpldbkjaaGreatA
