/- Words of this session: chapter 16: slices.Sort of few numbers. Words of this session: chapter 16: the lists of cached and of dirty pages; choosing a frame. Words of this session: chapter 16: the victim. -/
import Derived.Test.YtmjfhckioaempaaPG
namespace Go.Proofs.YtmjfhckioaempaaA
open Go Go.Proofs Go.RowKit
set_option linter.unusedVariables false
set_option linter.unusedSimpArgs false
set_option maxRecDepth 10000
set_option maxHeartbeats 2000000
theorem nan97_ok {h : Heap} (a : Int) : WR (callE Try.prog hk 97 [.int .i64 a] h) fun r h' => h = h' ∧ r = .bool false := by
  refine WR.call (hH := rfl) Try.func97 rfl (n := 6) rfl rfl (by simp) ?_
  simp -dsimp (disch := first | with_reducible assumption | omega | (intro h_; cases h_; done) | (simp only [LN] <;> omega) | (simp only [LF]; done) | (repeat (first | with_reducible assumption | apply Ext.refl | apply Ext.app | (apply Ext.set <;> omega) | (refine Ext.trans ?_ (by assumption))))) only [AX, TY, AD, mapPut, entsOf, oneV, builtinV, idsOf, mapId, touchB, Nat.reduceLT, Nat.reduceLeDiff, Nat.reduceEqDiff, Nat.reduceAdd, Nat.reduceMul, Int.reduceBEq, Int.reduceEq, Int.reduceNeg, Int.reduceLT, Int.reduceLE, Int.reduceAdd, Int.reduceSub, Int.reduceMul, Int.reduceToNat, Int.reduceGT, Nat.reduceBEq, Nat.reducePow, Nat.reduceGT, reduceCtorEq, ↓reduceIte]
theorem less86_ok {h : Heap} (a b : Int) : WR (callE Try.prog hk 86 [.int .i64 a, .int .i64 b] h) fun r h' => h = h' ∧ r = .bool (decide (a < b)) := by
  refine WR.call (hH := rfl) Try.func86 rfl (n := 17) rfl rfl (by simp) ?_
  simp -dsimp (disch := first | with_reducible assumption | omega | (intro h_; cases h_; done) | (simp only [LN] <;> omega) | (simp only [LF]; done) | (repeat (first | with_reducible assumption | apply Ext.refl | apply Ext.app | (apply Ext.set <;> omega) | (refine Ext.trans ?_ (by assumption))))) only [AX, TY, AD, mapPut, entsOf, oneV, builtinV, idsOf, mapId, touchB, Nat.reduceLT, Nat.reduceLeDiff, Nat.reduceEqDiff, Nat.reduceAdd, Nat.reduceMul, Int.reduceBEq, Int.reduceEq, Int.reduceNeg, Int.reduceLT, Int.reduceLE, Int.reduceAdd, Int.reduceSub, Int.reduceMul, Int.reduceToNat, Int.reduceGT, Nat.reduceBEq, Nat.reducePow, Nat.reduceGT, reduceCtorEq, ↓reduceIte]
  refine (nan97_ok a).mono ?_
  rintro _ _ ⟨rfl, rfl⟩
  simp -dsimp (disch := first | with_reducible assumption | omega | (intro h_; cases h_; done) | (simp only [LN] <;> omega) | (simp only [LF]; done) | (repeat (first | with_reducible assumption | apply Ext.refl | apply Ext.app | (apply Ext.set <;> omega) | (refine Ext.trans ?_ (by assumption))))) only [AX, TY, AD, mapPut, entsOf, oneV, builtinV, idsOf, mapId, touchB, Nat.reduceLT, Nat.reduceLeDiff, Nat.reduceEqDiff, Nat.reduceAdd, Nat.reduceMul, Int.reduceBEq, Int.reduceEq, Int.reduceNeg, Int.reduceLT, Int.reduceLE, Int.reduceAdd, Int.reduceSub, Int.reduceMul, Int.reduceToNat, Int.reduceGT, Nat.reduceBEq, Nat.reducePow, Nat.reduceGT, reduceCtorEq, ↓reduceIte]
theorem len64_ok {h : Heap} {n : Int} (h0 : 0 ≤ n) (h12 : n ≤ 12) : WR (callE Try.prog hk 90 [.int .u64 n] h) fun r h' => h = h' ∧ ∃ k, r = .int .i64 k := by
  have hc : n = 0 ∨ n = 1 ∨ n = 2 ∨ n = 3 ∨ n = 4 ∨ n = 5 ∨ n = 6 ∨ n = 7 ∨ n = 8 ∨ n = 9 ∨ n = 10 ∨ n = 11 ∨ n = 12 := by omega
  refine WR.call (hH := rfl) Try.func90 rfl (n := 25) rfl rfl (by simp) ?_
  rcases hc with rfl | rfl | rfl | rfl | rfl | rfl | rfl | rfl | rfl | rfl | rfl | rfl | rfl
  all_goals
    simp -dsimp (disch := first | with_reducible assumption | omega | (intro h_; cases h_; done) | (simp only [LN] <;> omega) | (simp only [LF]; done) | (repeat (first | with_reducible assumption | apply Ext.refl | apply Ext.app | (apply Ext.set <;> omega) | (refine Ext.trans ?_ (by assumption))))) only [AX, TY, AD, mapPut, entsOf, oneV, builtinV, idsOf, mapId, touchB, Nat.reduceLT, Nat.reduceLeDiff, Nat.reduceEqDiff, Nat.reduceAdd, Nat.reduceMul, Int.reduceBEq, Int.reduceEq, Int.reduceNeg, Int.reduceLT, Int.reduceLE, Int.reduceAdd, Int.reduceSub, Int.reduceMul, Int.reduceToNat, Int.reduceGT, Nat.reduceBEq, Nat.reducePow, Nat.reduceGT, reduceCtorEq, ↓reduceIte]
    refine WR.mono (K := fun r hh => h = hh ∧ ∃ k, r = .int .u8 k) ⟨_, _, rfl, rfl, _, rfl⟩ ?_
    rintro _ _ ⟨rfl, k, rfl⟩
    simp -dsimp (disch := first | with_reducible assumption | omega | (intro h_; cases h_; done) | (simp only [LN] <;> omega) | (simp only [LF]; done) | (repeat (first | with_reducible assumption | apply Ext.refl | apply Ext.app | (apply Ext.set <;> omega) | (refine Ext.trans ?_ (by assumption))))) only [AX, TY, AD, mapPut, entsOf, oneV, builtinV, idsOf, mapId, touchB, Nat.reduceLT, Nat.reduceLeDiff, Nat.reduceEqDiff, Nat.reduceAdd, Nat.reduceMul, Int.reduceBEq, Int.reduceEq, Int.reduceNeg, Int.reduceLT, Int.reduceLE, Int.reduceAdd, Int.reduceSub, Int.reduceMul, Int.reduceToNat, Int.reduceGT, Nat.reduceBEq, Nat.reducePow, Nat.reduceGT, reduceCtorEq, ↓reduceIte]
    exact ⟨_, rfl⟩
theorem wpc_no {P : Program} {H : Hooks} {n : Nat} {a b : Code} {Q : Post} {τ : Tp} {h : Heap} : wpc P H n (.cond (.const (.bool false)) a b) Q τ h = wpc P H n b Q τ h := by
  apply propext
  constructor
  · rintro ⟨v, h1, h2⟩
    cases h1
    rw [WC_false] at h2
    exact h2
  · intro q
    refine ⟨.bool false, rfl, ?_⟩
    rw [WC_false]; exact q
theorem len_ok {h : Heap} {n : Int} (h0 : 0 ≤ n) (h12 : n ≤ 12) : WR (callE Try.prog hk 75 [.int .u64 n] h) fun r h' => h = h' ∧ ∃ k, r = .int .i64 k := by
  refine WR.call (hH := rfl) Try.func75 rfl (n := 8) rfl rfl (by simp) ?_
  simp -dsimp (disch := first | with_reducible assumption | omega | (intro h_; cases h_; done) | (simp only [LN] <;> omega) | (simp only [LF]; done) | (repeat (first | with_reducible assumption | apply Ext.refl | apply Ext.app | (apply Ext.set <;> omega) | (refine Ext.trans ?_ (by assumption))))) only [AX, TY, AD, mapPut, entsOf, oneV, builtinV, idsOf, mapId, touchB, Nat.reduceLT, Nat.reduceLeDiff, Nat.reduceEqDiff, Nat.reduceAdd, Nat.reduceMul, Int.reduceBEq, Int.reduceEq, Int.reduceNeg, Int.reduceLT, Int.reduceLE, Int.reduceAdd, Int.reduceSub, Int.reduceMul, Int.reduceToNat, Int.reduceGT, Nat.reduceBEq, Nat.reducePow, Nat.reduceGT, reduceCtorEq, ↓reduceIte]
  rw [wpc_no]
  simp -dsimp (disch := first | with_reducible assumption | omega | (intro h_; cases h_; done) | (simp only [LN] <;> omega) | (simp only [LF]; done) | (repeat (first | with_reducible assumption | apply Ext.refl | apply Ext.app | (apply Ext.set <;> omega) | (refine Ext.trans ?_ (by assumption))))) only [AX, TY, AD, mapPut, entsOf, oneV, builtinV, idsOf, mapId, touchB, Nat.reduceLT, Nat.reduceLeDiff, Nat.reduceEqDiff, Nat.reduceAdd, Nat.reduceMul, Int.reduceBEq, Int.reduceEq, Int.reduceNeg, Int.reduceLT, Int.reduceLE, Int.reduceAdd, Int.reduceSub, Int.reduceMul, Int.reduceToNat, Int.reduceGT, Nat.reduceBEq, Nat.reducePow, Nat.reduceGT, reduceCtorEq, ↓reduceIte]
  refine (len64_ok h0 h12).mono ?_
  rintro _ _ ⟨rfl, k, rfl⟩
  simp -dsimp (disch := first | with_reducible assumption | omega | (intro h_; cases h_; done) | (simp only [LN] <;> omega) | (simp only [LF]; done) | (repeat (first | with_reducible assumption | apply Ext.refl | apply Ext.app | (apply Ext.set <;> omega) | (refine Ext.trans ?_ (by assumption))))) only [AX, TY, AD, mapPut, entsOf, oneV, builtinV, idsOf, mapId, touchB, Nat.reduceLT, Nat.reduceLeDiff, Nat.reduceEqDiff, Nat.reduceAdd, Nat.reduceMul, Int.reduceBEq, Int.reduceEq, Int.reduceNeg, Int.reduceLT, Int.reduceLE, Int.reduceAdd, Int.reduceSub, Int.reduceMul, Int.reduceToNat, Int.reduceGT, Nat.reduceBEq, Nat.reducePow, Nat.reduceGT, reduceCtorEq, ↓reduceIte]
  exact ⟨_, rfl⟩
/-- Ascending up to i. -/
def Asc (ys : List Int) (i : Nat) : Prop := ∀ a b, a < b → b < i → ys.getD a 0 ≤ ys.getD b 0
/-- Ascending up to i but for place j, whose number is at most those behind it. -/
structure Ins (ys : List Int) (i j : Nat) : Prop where
  rest : ∀ a b, a < b → b ≤ i → a ≠ j → b ≠ j → ys.getD a 0 ≤ ys.getD b 0
  behind : ∀ b, j < b → b ≤ i → ys.getD j 0 ≤ ys.getD b 0
def swp (ys : List Int) (j : Nat) : List Int := (ys.set j (ys.getD (j - 1) 0)).set (j - 1) (ys.getD j 0)
theorem swp_get {ys : List Int} {j : Nat} (hj : 1 ≤ j) (hl : j < ys.length) (k : Nat) : (swp ys j).getD k 0 = if k = j then ys.getD (j - 1) 0 else if k = j - 1 then ys.getD j 0 else ys.getD k 0 := by
  unfold swp
  simp only [List.getD_eq_getElem?_getD, List.getElem?_set, List.length_set]
  by_cases c1 : k = j
  · subst c1
    rw [if_neg (by omega), if_pos rfl, if_pos hl, if_pos rfl]; rfl
  · rw [if_neg c1]
    by_cases c2 : k = j - 1
    · subst c2
      rw [if_pos rfl, if_pos (by omega), if_pos rfl]; rfl
    · rw [if_neg c2, if_neg (Ne.symm c2), if_neg (Ne.symm c1)]
theorem Ins.swap {ys : List Int} {i j : Nat} (q : Ins ys i j) (hj : 1 ≤ j) (hji : j ≤ i) (hl : j < ys.length) (hlt : ys.getD j 0 < ys.getD (j - 1) 0) : Ins (swp ys j) i (j - 1) := by
  constructor
  · intro a b hab hb ha hb'
    rw [swp_get hj hl, swp_get hj hl]
    by_cases c1 : a = j
    · rw [if_pos c1, if_neg (by omega), if_neg hb']
      exact q.rest _ _ (by omega) hb (by omega) (by omega)
    · rw [if_neg c1, if_neg ha]
      by_cases c2 : b = j
      · rw [if_pos c2]
        exact q.rest _ _ (by omega) (by omega) c1 (by omega)
      · rw [if_neg c2, if_neg hb']
        exact q.rest _ _ hab hb c1 c2
  · intro b hb1 hb2
    rw [swp_get hj hl, swp_get hj hl, if_neg (by omega), if_pos rfl]
    by_cases c : b = j
    · rw [if_pos c]; omega
    · rw [if_neg c, if_neg (by omega)]
      exact q.behind _ (by omega) hb2
theorem Ins.done {ys : List Int} {i j : Nat} (q : Ins ys i j) (hd : j = 0 ∨ ys.getD (j - 1) 0 ≤ ys.getD j 0) : Asc ys (i + 1) := by
  intro a b hab hb
  by_cases c1 : a = j
  · subst c1; exact q.behind _ hab (by omega)
  · by_cases c2 : b = j
    · subst c2
      rcases hd with hd | hd
      · omega
      · by_cases c3 : a = b - 1
        · subst c3; exact hd
        · exact Int.le_trans (q.rest a (b - 1) (by omega) (by omega) c1 (by omega)) hd
    · exact q.rest _ _ hab (by omega) c1 c2
theorem Ins.start {ys : List Int} {i : Nat} (q : Asc ys i) : Ins ys i i := ⟨fun a b hab hb ha hb' => q a b hab (by omega), fun b h1 h2 => by omega⟩
theorem swp_perm {ys : List Int} {j : Nat} (hj : 1 ≤ j) (hl : j < ys.length) : (swp ys j).Perm ys := by
  have h1 : j - 1 < ys.length := by omega
  have := List.set_set_perm hl h1
  unfold swp
  rw [List.getD_eq_getElem?_getD, List.getD_eq_getElem?_getD, List.getElem?_eq_getElem hl, List.getElem?_eq_getElem h1]
  exact this
theorem Asc.pairwise {ys : List Int} (q : Asc ys ys.length) : ys.Pairwise (· ≤ ·) := by
  rw [List.pairwise_iff_getElem]
  intro i j hi hj hij
  have := q i j hij hj
  rwa [List.getD_eq_getElem?_getD, List.getD_eq_getElem?_getD, List.getElem?_eq_getElem hi, List.getElem?_eq_getElem hj] at this
def SrtO (b : Nat) (h : Heap) (p : Option (Nat × Nat)) (c oid : Option Nat) (ys : List Int) (h' : Heap) : Prop := ∃ zs : List Int, zs.Perm ys ∧ zs.Pairwise (· ≤ ·) ∧ Gr b h' p c oid 1 ei zs ∧ h'.length = h.length ∧ ∀ i, oid ≠ some i → h'[i]? = h[i]?
theorem insert80_ok {b : Nat} {h : Heap} {p : Option (Nat × Nat)} {c oid : Option Nat} {ys : List Int} (g : Gr b h p c oid 1 ei ys) : WR (callE Try.prog hk 80 [.slice p ys.length c, .int .i64 0, .int .i64 ys.length] h) fun r h' => SrtO b h p c oid ys h' := by
  have hl := g.sl.small
  refine WR.call (hH := rfl) Try.func80 rfl (n := 49) rfl rfl (by simp) ?_
  simp -dsimp (disch := first | with_reducible assumption | omega | (intro h_; cases h_; done) | (simp only [LN] <;> omega) | (simp only [LF]; done) | (repeat (first | with_reducible assumption | apply Ext.refl | apply Ext.app | (apply Ext.set <;> omega) | (refine Ext.trans ?_ (by assumption))))) only [AX, TY, AD, mapPut, entsOf, oneV, builtinV, idsOf, mapId, touchB, Nat.reduceLT, Nat.reduceLeDiff, Nat.reduceEqDiff, Nat.reduceAdd, Nat.reduceMul, Int.reduceBEq, Int.reduceEq, Int.reduceNeg, Int.reduceLT, Int.reduceLE, Int.reduceAdd, Int.reduceSub, Int.reduceMul, Int.reduceToNat, Int.reduceGT, Nat.reduceBEq, Nat.reducePow, Nat.reduceGT, reduceCtorEq, ↓reduceIte, wrap_in]
  refine W.loop (fun m τ hh => ∃ (i : Nat) (zs : List Int), 1 ≤ i ∧ m + i = ys.length + 1 ∧ τ 0 = .slice p ys.length c ∧ τ 1 = .int .i64 0 ∧ τ 2 = .int .i64 ys.length ∧ τ 6 = .int .i64 i ∧ zs.length = ys.length ∧ zs.Perm ys ∧ Asc zs i ∧ Gr b hh p c oid 1 ei zs ∧ hh.length = h.length ∧ ∀ i, oid ≠ some i → hh[i]? = h[i]?) ?_ (m := ys.length) ?_
  rotate_left
  · exact ⟨1, ys, Nat.le_refl _, rfl, rfl, rfl, rfl, rfl, rfl, .refl _, fun a b h1 h2 => by omega, g, rfl, fun _ _ => rfl⟩
  rintro m τ hh ⟨i, zs, hi1, hm, t0, t1, t2, t6, hzl, hperm, hasc, gr, hhl, hfr⟩
  by_cases h1 : (i : Int) < (ys.length : Int)
  rotate_left
  · simp -dsimp (disch := first | with_reducible assumption | omega | (intro h_; cases h_; done) | (simp only [LN] <;> omega) | (simp only [LF]; done) | (repeat (first | with_reducible assumption | apply Ext.refl | apply Ext.app | (apply Ext.set <;> omega) | (refine Ext.trans ?_ (by assumption))))) only [AX, TY, AD, mapPut, entsOf, oneV, builtinV, idsOf, mapId, touchB, Nat.reduceLT, Nat.reduceLeDiff, Nat.reduceEqDiff, Nat.reduceAdd, Nat.reduceMul, Int.reduceBEq, Int.reduceEq, Int.reduceNeg, Int.reduceLT, Int.reduceLE, Int.reduceAdd, Int.reduceSub, Int.reduceMul, Int.reduceToNat, Int.reduceGT, Nat.reduceBEq, Nat.reducePow, Nat.reduceGT, reduceCtorEq, ↓reduceIte, t0, t1, t2, t6, h1]
    exact ⟨zs, hperm, (show Asc zs zs.length from fun a b q1 q2 => hasc a b q1 (by omega)).pairwise, gr, hhl, hfr⟩
  simp -dsimp (disch := first | with_reducible assumption | omega | (intro h_; cases h_; done) | (simp only [LN] <;> omega) | (simp only [LF]; done) | (repeat (first | with_reducible assumption | apply Ext.refl | apply Ext.app | (apply Ext.set <;> omega) | (refine Ext.trans ?_ (by assumption))))) only [AX, TY, AD, mapPut, entsOf, oneV, builtinV, idsOf, mapId, touchB, Nat.reduceLT, Nat.reduceLeDiff, Nat.reduceEqDiff, Nat.reduceAdd, Nat.reduceMul, Int.reduceBEq, Int.reduceEq, Int.reduceNeg, Int.reduceLT, Int.reduceLE, Int.reduceAdd, Int.reduceSub, Int.reduceMul, Int.reduceToNat, Int.reduceGT, Nat.reduceBEq, Nat.reducePow, Nat.reduceGT, reduceCtorEq, ↓reduceIte, t0, t1, t2, t6, h1]
  refine W.loop (fun m2 τ hh => ∃ (j : Nat) (zs : List Int), m2 = j ∧ j ≤ i ∧ τ 0 = .slice p ys.length c ∧ τ 1 = .int .i64 0 ∧ τ 2 = .int .i64 ys.length ∧ τ 6 = .int .i64 i ∧ τ 7 = .int .i64 j ∧ zs.length = ys.length ∧ zs.Perm ys ∧ Ins zs i j ∧ Gr b hh p c oid 1 ei zs ∧ hh.length = h.length ∧ ∀ i, oid ≠ some i → hh[i]? = h[i]?) ?_ (m := i) ?_
  rotate_left
  · refine ⟨i, zs, rfl, Nat.le_refl _, ?_⟩
    simp -dsimp (disch := first | with_reducible assumption | omega | (intro h_; cases h_; done) | (simp only [LN] <;> omega) | (simp only [LF]; done) | (repeat (first | with_reducible assumption | apply Ext.refl | apply Ext.app | (apply Ext.set <;> omega) | (refine Ext.trans ?_ (by assumption))))) only [AX, TY, AD, mapPut, entsOf, oneV, builtinV, idsOf, mapId, touchB, Nat.reduceLT, Nat.reduceLeDiff, Nat.reduceEqDiff, Nat.reduceAdd, Nat.reduceMul, Int.reduceBEq, Int.reduceEq, Int.reduceNeg, Int.reduceLT, Int.reduceLE, Int.reduceAdd, Int.reduceSub, Int.reduceMul, Int.reduceToNat, Int.reduceGT, Nat.reduceBEq, Nat.reducePow, Nat.reduceGT, reduceCtorEq, ↓reduceIte, t0, t1, t2, t6]
    exact ⟨hzl, hperm, .start hasc, gr, hhl, hfr⟩
  clear t0 t1 t2 t6 hzl hperm hasc gr hhl hfr
  rintro m2 τ2 hh2 ⟨j, zs, rfl, hji, t0, t1, t2, t6, t7, hzl, hperm, hins, gr, hhl, hfr⟩
  by_cases hj0 : (0 : Int) < (m2 : Int)
  rotate_left
  · simp -dsimp (disch := first | with_reducible assumption | omega | (intro h_; cases h_; done) | (simp only [LN] <;> omega) | (simp only [LF]; done) | (repeat (first | with_reducible assumption | apply Ext.refl | apply Ext.app | (apply Ext.set <;> omega) | (refine Ext.trans ?_ (by assumption))))) only [AX, TY, AD, mapPut, entsOf, oneV, builtinV, idsOf, mapId, touchB, Nat.reduceLT, Nat.reduceLeDiff, Nat.reduceEqDiff, Nat.reduceAdd, Nat.reduceMul, Int.reduceBEq, Int.reduceEq, Int.reduceNeg, Int.reduceLT, Int.reduceLE, Int.reduceAdd, Int.reduceSub, Int.reduceMul, Int.reduceToNat, Int.reduceGT, Nat.reduceBEq, Nat.reducePow, Nat.reduceGT, reduceCtorEq, ↓reduceIte, t0, t1, t2, t6, t7]
    refine W.drawn [(0, []), (1, [0]), (2, []), (3, []), (4, []), (5, [4]), (6, []), (7, []), (8, [7, 6, 5, 4]), (9, [8, 7, 6, 5, 4]), (10, [8, 7, 6, 5, 4]), (11, [7, 6, 5, 4]), (12, [7, 6, 5, 4]), (13, []), (14, [])] (by decide +kernel) ?_
    simp -dsimp (disch := first | with_reducible assumption | omega | (intro h_; cases h_; done) | (simp only [LN] <;> omega) | (simp only [LF]; done) | (repeat (first | with_reducible assumption | apply Ext.refl | apply Ext.app | (apply Ext.set <;> omega) | (refine Ext.trans ?_ (by assumption))))) only [AX, TY, AD, mapPut, entsOf, oneV, builtinV, idsOf, mapId, touchB, Nat.reduceLT, Nat.reduceLeDiff, Nat.reduceEqDiff, Nat.reduceAdd, Nat.reduceMul, Int.reduceBEq, Int.reduceEq, Int.reduceNeg, Int.reduceLT, Int.reduceLE, Int.reduceAdd, Int.reduceSub, Int.reduceMul, Int.reduceToNat, Int.reduceGT, Nat.reduceBEq, Nat.reducePow, Nat.reduceGT, reduceCtorEq, ↓reduceIte, t0, t1, t2, t6, t7, hj0, wrap_in]
    exact ⟨m - 1, by omega, i + 1, zs, by omega, by omega, by simp, hzl, hperm, hins.done (.inl (by omega)), gr, hhl, hfr⟩
  have hjl : m2 < zs.length := by omega
  have hjl1 : m2 - 1 < zs.length := by omega
  have hla := gr.sl.load0 (.refl _) hjl (m := 1) (by decide)
  have hlb := gr.sl.load0 (.refl _) hjl1 (m := 1) (by decide)
  have hga : zs.getD m2 0 = zs[m2] := by rw [List.getD_eq_getElem?_getD, List.getElem?_eq_getElem hjl]; rfl
  have hgb : zs.getD (m2 - 1) 0 = zs[m2 - 1] := by rw [List.getD_eq_getElem?_getD, List.getElem?_eq_getElem hjl1]; rfl
  have hw : IntKind.i64.wrap ((m2 : Int) - 1) = ((m2 - 1 : Nat) : Int) := by rw [IntKind.wrap_i64]; omega
  have hn : p = none → ys.length = 0 := fun e => by rw [← hzl]; exact gr.sl.nil' e
  have hi1' : (m2 : Int) < (ys.length : Int) := by omega
  have hi2' : ((m2 - 1 : Nat) : Int) < (ys.length : Int) := by omega
  simp only [ei, List.take] at hla hlb
  by_cases hc : zs[m2] < zs[m2 - 1]
  rotate_left
  · simp -dsimp (disch := first | with_reducible assumption | omega | (intro h_; cases h_; done) | (simp only [LN] <;> omega) | (simp only [LF]; done) | (repeat (first | with_reducible assumption | apply Ext.refl | apply Ext.app | (apply Ext.set <;> omega) | (refine Ext.trans ?_ (by assumption))))) only [AX, TY, AD, mapPut, entsOf, oneV, builtinV, idsOf, mapId, touchB, Nat.reduceLT, Nat.reduceLeDiff, Nat.reduceEqDiff, Nat.reduceAdd, Nat.reduceMul, Int.reduceBEq, Int.reduceEq, Int.reduceNeg, Int.reduceLT, Int.reduceLE, Int.reduceAdd, Int.reduceSub, Int.reduceMul, Int.reduceToNat, Int.reduceGT, Nat.reduceBEq, Nat.reducePow, Nat.reduceGT, reduceCtorEq, ↓reduceIte, t0, t1, t2, t6, t7]
    refine W.drawn [(0, []), (1, [0]), (2, []), (3, []), (4, []), (5, [4]), (6, []), (7, []), (8, [7, 6, 5, 4]), (9, [8, 7, 6, 5, 4]), (10, [8, 7, 6, 5, 4]), (11, [7, 6, 5, 4]), (12, [7, 6, 5, 4]), (13, []), (14, [])] (by decide +kernel) ?_
    simp -dsimp (disch := first | with_reducible assumption | omega | (intro h_; cases h_; done) | (simp only [LN] <;> omega) | (simp only [LF]; done) | (repeat (first | with_reducible assumption | apply Ext.refl | apply Ext.app | (apply Ext.set <;> omega) | (refine Ext.trans ?_ (by assumption))))) only [AX, TY, AD, mapPut, entsOf, oneV, builtinV, idsOf, mapId, touchB, Nat.reduceLT, Nat.reduceLeDiff, Nat.reduceEqDiff, Nat.reduceAdd, Nat.reduceMul, Int.reduceBEq, Int.reduceEq, Int.reduceNeg, Int.reduceLT, Int.reduceLE, Int.reduceAdd, Int.reduceSub, Int.reduceMul, Int.reduceToNat, Int.reduceGT, Nat.reduceBEq, Nat.reducePow, Nat.reduceGT, reduceCtorEq, ↓reduceIte, t0, t1, t2, t6, t7, hj0, hw, hi1', hi2', hla, hlb]
    refine (less86_ok _ _).mono ?_
    rintro _ _ ⟨rfl, rfl⟩
    simp -dsimp (disch := first | with_reducible assumption | omega | (intro h_; cases h_; done) | (simp only [LN] <;> omega) | (simp only [LF]; done) | (repeat (first | with_reducible assumption | apply Ext.refl | apply Ext.app | (apply Ext.set <;> omega) | (refine Ext.trans ?_ (by assumption))))) only [AX, TY, AD, mapPut, entsOf, oneV, builtinV, idsOf, mapId, touchB, Nat.reduceLT, Nat.reduceLeDiff, Nat.reduceEqDiff, Nat.reduceAdd, Nat.reduceMul, Int.reduceBEq, Int.reduceEq, Int.reduceNeg, Int.reduceLT, Int.reduceLE, Int.reduceAdd, Int.reduceSub, Int.reduceMul, Int.reduceToNat, Int.reduceGT, Nat.reduceBEq, Nat.reducePow, Nat.reduceGT, reduceCtorEq, ↓reduceIte, t0, t1, t2, t6, t7, hc, wrap_in]
    exact ⟨m - 1, by omega, i + 1, zs, by omega, by omega, by simp, hzl, hperm, hins.done (.inr (by rw [hga, hgb]; omega)), gr, hhl, hfr⟩
  obtain ⟨h5, hst, g5, hl5, hk5, hb5⟩ := gr.store0 hjl (zs[m2 - 1]) rfl rfl
  have hjl1' : m2 - 1 < (zs.set m2 zs[m2 - 1]).length := by rw [List.length_set]; exact hjl1
  obtain ⟨h6, hst2, g6, hl6, hk6, hb6⟩ := g5.store0 hjl1' (zs[m2]) rfl rfl
  simp only [ei] at hst hst2
  have hsw : (zs.set m2 zs[m2 - 1]).set (m2 - 1) zs[m2] = swp zs m2 := by unfold swp; rw [hga, hgb]
  rw [hsw] at g6
  have hns := hins.swap (by omega) hji hjl (by rw [hga, hgb]; exact hc)
  have hpp := (swp_perm (ys := zs) (by omega) hjl).trans hperm
  have hll := hpp.length_eq
  simp -dsimp (disch := first | with_reducible assumption | omega | (intro h_; cases h_; done) | (simp only [LN] <;> omega) | (simp only [LF]; done) | (repeat (first | with_reducible assumption | apply Ext.refl | apply Ext.app | (apply Ext.set <;> omega) | (refine Ext.trans ?_ (by assumption))))) only [AX, TY, AD, mapPut, entsOf, oneV, builtinV, idsOf, mapId, touchB, Nat.reduceLT, Nat.reduceLeDiff, Nat.reduceEqDiff, Nat.reduceAdd, Nat.reduceMul, Int.reduceBEq, Int.reduceEq, Int.reduceNeg, Int.reduceLT, Int.reduceLE, Int.reduceAdd, Int.reduceSub, Int.reduceMul, Int.reduceToNat, Int.reduceGT, Nat.reduceBEq, Nat.reducePow, Nat.reduceGT, reduceCtorEq, ↓reduceIte, t0, t1, t2, t6, t7]
  refine W.drawn [(0, []), (1, [0]), (2, []), (3, []), (4, []), (5, [4]), (6, []), (7, []), (8, [7, 6, 5, 4]), (9, [8, 7, 6, 5, 4]), (10, [8, 7, 6, 5, 4]), (11, [7, 6, 5, 4]), (12, [7, 6, 5, 4]), (13, []), (14, [])] (by decide +kernel) ?_
  simp -dsimp (disch := first | with_reducible assumption | omega | (intro h_; cases h_; done) | (simp only [LN] <;> omega) | (simp only [LF]; done) | (repeat (first | with_reducible assumption | apply Ext.refl | apply Ext.app | (apply Ext.set <;> omega) | (refine Ext.trans ?_ (by assumption))))) only [AX, TY, AD, mapPut, entsOf, oneV, builtinV, idsOf, mapId, touchB, Nat.reduceLT, Nat.reduceLeDiff, Nat.reduceEqDiff, Nat.reduceAdd, Nat.reduceMul, Int.reduceBEq, Int.reduceEq, Int.reduceNeg, Int.reduceLT, Int.reduceLE, Int.reduceAdd, Int.reduceSub, Int.reduceMul, Int.reduceToNat, Int.reduceGT, Nat.reduceBEq, Nat.reducePow, Nat.reduceGT, reduceCtorEq, ↓reduceIte, t0, t1, t2, t6, t7, hj0, hw, hi1', hi2', hla, hlb]
  refine (less86_ok _ _).mono ?_
  rintro _ _ ⟨rfl, rfl⟩
  simp -dsimp (disch := first | with_reducible assumption | omega | (intro h_; cases h_; done) | (simp only [LN] <;> omega) | (simp only [LF]; done) | (repeat (first | with_reducible assumption | apply Ext.refl | apply Ext.app | (apply Ext.set <;> omega) | (refine Ext.trans ?_ (by assumption))))) only [AX, TY, AD, mapPut, entsOf, oneV, builtinV, idsOf, mapId, touchB, Nat.reduceLT, Nat.reduceLeDiff, Nat.reduceEqDiff, Nat.reduceAdd, Nat.reduceMul, Int.reduceBEq, Int.reduceEq, Int.reduceNeg, Int.reduceLT, Int.reduceLE, Int.reduceAdd, Int.reduceSub, Int.reduceMul, Int.reduceToNat, Int.reduceGT, Nat.reduceBEq, Nat.reducePow, Nat.reduceGT, reduceCtorEq, ↓reduceIte, t0, t1, t2, t6, t7, hc]
  refine W.drawn [(0, []), (1, [0]), (2, [1, 0]), (3, [2, 1, 0]), (4, [2, 1, 0]), (5, [4, 3, 2, 1, 0]), (6, [5, 4, 3, 2, 1, 0]), (7, [5, 4, 3, 2, 1, 0]), (8, [4, 3, 2, 1, 0]), (9, [4, 3, 2, 1, 0]), (10, [9, 8, 7, 6, 5, 4, 3, 2, 1, 0]), (11, [10, 9, 8, 7, 6, 5, 4, 3, 2, 1, 0]), (12, [9, 8, 7, 6, 5, 4, 3, 2, 1, 0]), (13, [9, 8, 7, 6, 5, 4, 3, 2, 1, 0]), (14, [4, 3, 2]), (15, [4, 3, 2]), (16, []), (17, [])] (by decide +kernel) ?_
  simp -dsimp (disch := first | with_reducible assumption | omega | (intro h_; cases h_; done) | (simp only [LN] <;> omega) | (simp only [LF]; done) | (repeat (first | with_reducible assumption | apply Ext.refl | apply Ext.app | (apply Ext.set <;> omega) | (refine Ext.trans ?_ (by assumption))))) only [AX, TY, AD, mapPut, entsOf, oneV, builtinV, idsOf, mapId, touchB, Nat.reduceLT, Nat.reduceLeDiff, Nat.reduceEqDiff, Nat.reduceAdd, Nat.reduceMul, Int.reduceBEq, Int.reduceEq, Int.reduceNeg, Int.reduceLT, Int.reduceLE, Int.reduceAdd, Int.reduceSub, Int.reduceMul, Int.reduceToNat, Int.reduceGT, Nat.reduceBEq, Nat.reducePow, Nat.reduceGT, reduceCtorEq, ↓reduceIte, t0, t1, t2, t6, t7, hw, hi1', hi2', hla, hlb, hst, hst2]
  have hhl6 : h6.length = h.length := by omega
  have hfr6 : ∀ i, oid ≠ some i → h6[i]? = h[i]? := fun t ht => by rw [hk6 t ht, hk5 t ht, hfr t ht]
  refine ⟨m2 - 1, by omega, m2 - 1, swp zs m2, ?_⟩
  repeat' (first | assumption | refine And.intro ?_ ?_)
  all_goals first | rfl | omega | (simp; done)
theorem pdq74_ok {b : Nat} {h : Heap} {p : Option (Nat × Nat)} {c oid : Option Nat} {ys : List Int} (g : Gr b h p c oid 1 ei ys) (h12 : ys.length ≤ 12) (k : Int) : WR (callE Try.prog hk 74 [.slice p ys.length c, .int .i64 0, .int .i64 ys.length, .int .i64 k] h) fun r h' => SrtO b h p c oid ys h' := by
  have hl12 : (ys.length : Int) ≤ 12 := by omega
  refine WR.call (hH := rfl) Try.func74 rfl (n := 134) rfl rfl (by simp) ?_
  simp -dsimp (disch := first | with_reducible assumption | omega | (intro h_; cases h_; done) | (simp only [LN] <;> omega) | (simp only [LF]; done) | (repeat (first | with_reducible assumption | apply Ext.refl | apply Ext.app | (apply Ext.set <;> omega) | (refine Ext.trans ?_ (by assumption))))) only [AX, TY, AD, mapPut, entsOf, oneV, builtinV, idsOf, mapId, touchB, Nat.reduceLT, Nat.reduceLeDiff, Nat.reduceEqDiff, Nat.reduceAdd, Nat.reduceMul, Int.reduceBEq, Int.reduceEq, Int.reduceNeg, Int.reduceLT, Int.reduceLE, Int.reduceAdd, Int.reduceSub, Int.reduceMul, Int.reduceToNat, Int.reduceGT, Nat.reduceBEq, Nat.reducePow, Nat.reduceGT, reduceCtorEq, ↓reduceIte]
  refine W.loop (fun m τ hh => h = hh ∧ τ 0 = .slice p ys.length c ∧ τ 1 = .int .i64 0 ∧ τ 2 = .int .i64 ys.length ∧ τ 3 = .int .i64 k) ?_ (m := 0) ?_
  rotate_left
  · exact ⟨rfl, rfl, rfl, rfl, rfl⟩
  rintro m τ _ ⟨rfl, t0, t1, t2, t3⟩
  simp -dsimp (disch := first | with_reducible assumption | omega | (intro h_; cases h_; done) | (simp only [LN] <;> omega) | (simp only [LF]; done) | (repeat (first | with_reducible assumption | apply Ext.refl | apply Ext.app | (apply Ext.set <;> omega) | (refine Ext.trans ?_ (by assumption))))) only [AX, TY, AD, mapPut, entsOf, oneV, builtinV, idsOf, mapId, touchB, Nat.reduceLT, Nat.reduceLeDiff, Nat.reduceEqDiff, Nat.reduceAdd, Nat.reduceMul, Int.reduceBEq, Int.reduceEq, Int.reduceNeg, Int.reduceLT, Int.reduceLE, Int.reduceAdd, Int.reduceSub, Int.reduceMul, Int.reduceToNat, Int.reduceGT, Nat.reduceBEq, Nat.reducePow, Nat.reduceGT, reduceCtorEq, ↓reduceIte, t0, t1, t2, t3, wrap_in, Int.sub_zero, eq_true hl12]
  refine (insert80_ok g).mono ?_
  rintro r h2 q
  simp -dsimp (disch := first | with_reducible assumption | omega | (intro h_; cases h_; done) | (simp only [LN] <;> omega) | (simp only [LF]; done) | (repeat (first | with_reducible assumption | apply Ext.refl | apply Ext.app | (apply Ext.set <;> omega) | (refine Ext.trans ?_ (by assumption))))) only [AX, TY, AD, mapPut, entsOf, oneV, builtinV, idsOf, mapId, touchB, Nat.reduceLT, Nat.reduceLeDiff, Nat.reduceEqDiff, Nat.reduceAdd, Nat.reduceMul, Int.reduceBEq, Int.reduceEq, Int.reduceNeg, Int.reduceLT, Int.reduceLE, Int.reduceAdd, Int.reduceSub, Int.reduceMul, Int.reduceToNat, Int.reduceGT, Nat.reduceBEq, Nat.reducePow, Nat.reduceGT, reduceCtorEq, ↓reduceIte, t0, t1, t2, t3]
  exact q
theorem sort63_ok {b : Nat} {h : Heap} {p : Option (Nat × Nat)} {c oid : Option Nat} {ys : List Int} (g : Gr b h p c oid 1 ei ys) (h12 : ys.length ≤ 12) : WR (callE Try.prog hk 63 [.slice p ys.length c] h) fun r h' => SrtO b h p c oid ys h' := by
  have hw : IntKind.u64.wrap (ys.length : Int) = (ys.length : Int) := by
    simp [IntKind.wrap, IntKind.bits, IntKind.signed]; omega
  refine WR.call (hH := rfl) Try.func63 rfl (n := 11) rfl rfl (by simp) ?_
  simp -dsimp (disch := first | with_reducible assumption | omega | (intro h_; cases h_; done) | (simp only [LN] <;> omega) | (simp only [LF]; done) | (repeat (first | with_reducible assumption | apply Ext.refl | apply Ext.app | (apply Ext.set <;> omega) | (refine Ext.trans ?_ (by assumption))))) only [AX, TY, AD, mapPut, entsOf, oneV, builtinV, idsOf, mapId, touchB, Nat.reduceLT, Nat.reduceLeDiff, Nat.reduceEqDiff, Nat.reduceAdd, Nat.reduceMul, Int.reduceBEq, Int.reduceEq, Int.reduceNeg, Int.reduceLT, Int.reduceLE, Int.reduceAdd, Int.reduceSub, Int.reduceMul, Int.reduceToNat, Int.reduceGT, Nat.reduceBEq, Nat.reducePow, Nat.reduceGT, reduceCtorEq, ↓reduceIte, hw]
  refine (len_ok (by omega) (by omega)).mono ?_
  rintro _ _ ⟨rfl, k, rfl⟩
  simp -dsimp (disch := first | with_reducible assumption | omega | (intro h_; cases h_; done) | (simp only [LN] <;> omega) | (simp only [LF]; done) | (repeat (first | with_reducible assumption | apply Ext.refl | apply Ext.app | (apply Ext.set <;> omega) | (refine Ext.trans ?_ (by assumption))))) only [AX, TY, AD, mapPut, entsOf, oneV, builtinV, idsOf, mapId, touchB, Nat.reduceLT, Nat.reduceLeDiff, Nat.reduceEqDiff, Nat.reduceAdd, Nat.reduceMul, Int.reduceBEq, Int.reduceEq, Int.reduceNeg, Int.reduceLT, Int.reduceLE, Int.reduceAdd, Int.reduceSub, Int.reduceMul, Int.reduceToNat, Int.reduceGT, Nat.reduceBEq, Nat.reducePow, Nat.reduceGT, reduceCtorEq, ↓reduceIte]
  refine (pdq74_ok g h12 k).mono ?_
  rintro r h2 q
  simp -dsimp (disch := first | with_reducible assumption | omega | (intro h_; cases h_; done) | (simp only [LN] <;> omega) | (simp only [LF]; done) | (repeat (first | with_reducible assumption | apply Ext.refl | apply Ext.app | (apply Ext.set <;> omega) | (refine Ext.trans ?_ (by assumption))))) only [AX, TY, AD, mapPut, entsOf, oneV, builtinV, idsOf, mapId, touchB, Nat.reduceLT, Nat.reduceLeDiff, Nat.reduceEqDiff, Nat.reduceAdd, Nat.reduceMul, Int.reduceBEq, Int.reduceEq, Int.reduceNeg, Int.reduceLT, Int.reduceLE, Int.reduceAdd, Int.reduceSub, Int.reduceMul, Int.reduceToNat, Int.reduceGT, Nat.reduceBEq, Nat.reducePow, Nat.reduceGT, reduceCtorEq, ↓reduceIte]
  exact q
end Go.Proofs.YtmjfhckioaempaaA
namespace Go.Proofs.YtmjfhckioaempaaA
open Go Go.Proofs Go.RowKit
set_option linter.unusedVariables false
set_option linter.unusedSimpArgs false
set_option maxRecDepth 10000
set_option maxHeartbeats 2000000
def lstQ (q : Fr → Bool) (f : Fr) : Bool := decide (0 ≤ f.page) && q f
def lstP (q : Fr → Bool) (fs : List Fr) : List Int := (fs.filter (lstQ q)).map Fr.page
theorem list_ok {b : Nat} {h : Heap} {I : Ids} {S : Bp} {oid : Option Nat} (d : PAt b h I S oid) (F : Nat) (q : Fr → Bool) (h12 : (lstP q S.frames).length ≤ 12) (hq : ∀ hh, ∀ f : Fr, WR (callE Try.prog hk F [.agg (Fr.enc f)] hh) fun r h' => Ext hh h' ∧ r = .bool (q f)) :
    WR (callE Try.prog hk 38 [.ptr (some (I.pi, 0)), .func F [] []] h) fun r h' => Ext h h' ∧ ∃ p' c' zs, r = .slice p' zs.length c' ∧ Sl h' p' 1 ei zs ∧ zs.Pairwise (· ≤ ·) ∧ zs.Perm (lstP q S.frames) ∧ ∀ a o, p' = some (a, o) → h.length ≤ a := by
  have gp := d.pool
  have n1 := d.n1
  refine WR.call (hH := rfl) Try.func38 rfl (n := 34) rfl rfl (by simp) ?_
  simp -dsimp (disch := first | with_reducible assumption | omega | (intro h_; cases h_; done) | (simp only [LN] <;> omega) | (simp only [LF]; done) | (repeat (first | with_reducible assumption | apply Ext.refl | apply Ext.app | (apply Ext.set <;> omega) | (refine Ext.trans ?_ (by assumption))))) only [AX, TY, AD, mapPut, entsOf, oneV, builtinV, idsOf, mapId, touchB, Nat.reduceLT, Nat.reduceLeDiff, Nat.reduceEqDiff, Nat.reduceAdd, Nat.reduceMul, Int.reduceBEq, Int.reduceEq, Int.reduceNeg, Int.reduceLT, Int.reduceLE, Int.reduceAdd, Int.reduceSub, Int.reduceMul, Int.reduceToNat, Int.reduceGT, Nat.reduceBEq, Nat.reducePow, Nat.reduceGT, reduceCtorEq, ↓reduceIte, loadN_fact gp]
  refine W.loop (fun m τ hh => Ext h hh ∧ ∃ (i : Nat) (po : Option (Nat × Nat)) (co o' : Option Nat) (os : List Int), m + i = S.frames.length ∧ τ 1 = .func F [] [] ∧ τ 5 = .slice po os.length co ∧ τ 11 = .slice (some (I.fr, 0)) S.frames.length (some S.frames.length) ∧ τ 12 = .int .i64 S.frames.length ∧ τ 13 = .int .i64 i ∧ Gr h.length hh po co o' 1 ei os ∧ os.length ≤ i ∧ os = lstP q (S.frames.take i)) ?_ (m := S.frames.length) ?_
  rotate_left
  · exact ⟨.refl _, 0, none, some 0, none, [], by simp, rfl, rfl, rfl, rfl, rfl, Gr.nil _ _ _ _, by simp, by simp [lstP]⟩
  rintro m τ hh ⟨e, i, po, co, o', os, hm, t1, t5, t11, t12, t13, gr, hol, hos⟩
  have le := e.le
  by_cases h1 : (i : Int) < (S.frames.length : Int)
  rotate_left
  · have hos' : os = lstP q S.frames := by rw [hos, List.take_of_length_le (by omega)]
    have h12' : os.length ≤ 12 := by rw [hos']; exact h12
    simp -dsimp (disch := first | with_reducible assumption | omega | (intro h_; cases h_; done) | (simp only [LN] <;> omega) | (simp only [LF]; done) | (repeat (first | with_reducible assumption | apply Ext.refl | apply Ext.app | (apply Ext.set <;> omega) | (refine Ext.trans ?_ (by assumption))))) only [AX, TY, AD, mapPut, entsOf, oneV, builtinV, idsOf, mapId, touchB, Nat.reduceLT, Nat.reduceLeDiff, Nat.reduceEqDiff, Nat.reduceAdd, Nat.reduceMul, Int.reduceBEq, Int.reduceEq, Int.reduceNeg, Int.reduceLT, Int.reduceLE, Int.reduceAdd, Int.reduceSub, Int.reduceMul, Int.reduceToNat, Int.reduceGT, Nat.reduceBEq, Nat.reducePow, Nat.reduceGT, reduceCtorEq, ↓reduceIte, t1, t5, t11, t12, t13, h1]
    refine (sort63_ok gr h12').mono ?_
    rintro r h2 ⟨zs, hp, hs, g2, hl2, hf2⟩
    have hlen := hp.length_eq
    simp -dsimp (disch := first | with_reducible assumption | omega | (intro h_; cases h_; done) | (simp only [LN] <;> omega) | (simp only [LF]; done) | (repeat (first | with_reducible assumption | apply Ext.refl | apply Ext.app | (apply Ext.set <;> omega) | (refine Ext.trans ?_ (by assumption))))) only [AX, TY, AD, mapPut, entsOf, oneV, builtinV, idsOf, mapId, touchB, Nat.reduceLT, Nat.reduceLeDiff, Nat.reduceEqDiff, Nat.reduceAdd, Nat.reduceMul, Int.reduceBEq, Int.reduceEq, Int.reduceNeg, Int.reduceLT, Int.reduceLE, Int.reduceAdd, Int.reduceSub, Int.reduceMul, Int.reduceToNat, Int.reduceGT, Nat.reduceBEq, Nat.reducePow, Nat.reduceGT, reduceCtorEq, ↓reduceIte, t1, t5, t11, t12, t13]
    refine ⟨e.below (Nat.le_refl _) fun j hj => hf2 j fun q => by have := gr.base j q; omega, po, co, zs, by rw [hlen], g2.sl, hs, by rw [← hos']; exact hp, fun a o z => g2.base a (g2.at z)⟩
  have hi : i < S.frames.length := by omega
  have hla := (d.sl.ext e).loadz0 (.refl _) hi (m := 5) (by decide)
  have htk : lstP q (S.frames.take (i + 1)) = lstP q (S.frames.take i) ++ (if lstQ q S.frames[i] = true then [(S.frames[i]).page] else []) := by
    unfold lstP
    rw [List.take_succ_eq_append_getElem hi, List.filter_append, List.map_append, List.filter_cons, List.filter_nil]
    split <;> rfl
  generalize S.frames[i] = f at hla htk
  simp only [Fr.enc, List.take] at hla
  obtain ⟨g, hg, gx, eg, hgl⟩ : ∃ g, hh ++ [O.cells (Fr.enc f) .rw] = g ∧ g[hh.length]? = some (O.cells (Fr.enc f) .rw) ∧ Ext hh g ∧ g.length = hh.length + 1 := ⟨_, rfl, snoc_last _ rfl, (by (repeat (first | assumption | apply Ext.refl | apply Ext.app | (apply Ext.set <;> omega) | exact Ext.trans (by assumption) (by assumption) | (refine Ext.trans ?_ (by assumption))))), by simp⟩
  simp only [Fr.enc] at hg gx
  have hqf := hq g f
  simp only [Fr.enc] at hqf
  by_cases hpg : 0 ≤ f.page
  rotate_left
  · have : lstQ q f = false := by unfold lstQ; simp [hpg]
    rw [this] at htk
    have hos' : os = lstP q (S.frames.take (i + 1)) := by rw [htk, hos]; simp
    have e' := e.trans eg
    have gr' := gr.ext eg
    simp -dsimp (disch := first | with_reducible assumption | omega | (intro h_; cases h_; done) | (simp only [LN] <;> omega) | (simp only [LF]; done) | (repeat (first | with_reducible assumption | apply Ext.refl | apply Ext.app | (apply Ext.set <;> omega) | (refine Ext.trans ?_ (by assumption))))) only [AX, TY, AD, mapPut, entsOf, oneV, builtinV, idsOf, mapId, touchB, Nat.reduceLT, Nat.reduceLeDiff, Nat.reduceEqDiff, Nat.reduceAdd, Nat.reduceMul, Int.reduceBEq, Int.reduceEq, Int.reduceNeg, Int.reduceLT, Int.reduceLE, Int.reduceAdd, Int.reduceSub, Int.reduceMul, Int.reduceToNat, Int.reduceGT, Nat.reduceBEq, Nat.reducePow, Nat.reduceGT, reduceCtorEq, ↓reduceIte, t1, t5, t11, t12, t13, h1, hla, hg, loadN_fact gx, hpg, wrap_in]
    refine ⟨m - 1, by omega, e', i + 1, po, co, o', os, ?_⟩
    repeat' (first | assumption | refine And.intro ?_ ?_)
    all_goals first | rfl | omega | (simp; done) | (simp; omega; done) | skip
  simp -dsimp (disch := first | with_reducible assumption | omega | (intro h_; cases h_; done) | (simp only [LN] <;> omega) | (simp only [LF]; done) | (repeat (first | with_reducible assumption | apply Ext.refl | apply Ext.app | (apply Ext.set <;> omega) | (refine Ext.trans ?_ (by assumption))))) only [AX, TY, AD, mapPut, entsOf, oneV, builtinV, idsOf, mapId, touchB, Nat.reduceLT, Nat.reduceLeDiff, Nat.reduceEqDiff, Nat.reduceAdd, Nat.reduceMul, Int.reduceBEq, Int.reduceEq, Int.reduceNeg, Int.reduceLT, Int.reduceLE, Int.reduceAdd, Int.reduceSub, Int.reduceMul, Int.reduceToNat, Int.reduceGT, Nat.reduceBEq, Nat.reducePow, Nat.reduceGT, reduceCtorEq, ↓reduceIte, t1, t5, t11, t12, t13, h1, hla, hg, loadN_fact gx, eq_true hpg]
  refine hqf.mono ?_
  rintro _ h2 ⟨e2, rfl⟩
  have gx2 := e2 _ _ gx
  have e12 := (e.trans eg).trans e2
  have le2 := e12.le
  cases hqv : q f
  · have : lstQ q f = false := by unfold lstQ; simp [hqv]
    rw [this] at htk
    have hos' : os = lstP q (S.frames.take (i + 1)) := by rw [htk, hos]; simp
    have gr' := gr.ext (eg.trans e2)
    simp -dsimp (disch := first | with_reducible assumption | omega | (intro h_; cases h_; done) | (simp only [LN] <;> omega) | (simp only [LF]; done) | (repeat (first | with_reducible assumption | apply Ext.refl | apply Ext.app | (apply Ext.set <;> omega) | (refine Ext.trans ?_ (by assumption))))) only [AX, TY, AD, mapPut, entsOf, oneV, builtinV, idsOf, mapId, touchB, Nat.reduceLT, Nat.reduceLeDiff, Nat.reduceEqDiff, Nat.reduceAdd, Nat.reduceMul, Int.reduceBEq, Int.reduceEq, Int.reduceNeg, Int.reduceLT, Int.reduceLE, Int.reduceAdd, Int.reduceSub, Int.reduceMul, Int.reduceToNat, Int.reduceGT, Nat.reduceBEq, Nat.reducePow, Nat.reduceGT, reduceCtorEq, ↓reduceIte, t1, t5, t11, t12, t13, wrap_in]
    refine ⟨m - 1, by omega, e12, i + 1, po, co, o', os, ?_⟩
    repeat' (first | assumption | refine And.intro ?_ ?_)
    all_goals first | rfl | omega | (simp; done) | (simp; omega; done) | skip
  · have : lstQ q f = true := by unfold lstQ; simp [hqv, hpg]
    rw [this] at htk
    have hos' : os ++ [f.page] = lstP q (S.frames.take (i + 1)) := by rw [htk, hos]; simp
    obtain ⟨p5, c5, o5, h5, hap, g5, ho5, hl5, hk5, hb5⟩ := ((gr.ext (eg.trans e2)).ext (hh := h2 ++ [O.cells (ei f.page) Kd.rw]) (by (repeat (first | assumption | apply Ext.refl | apply Ext.app | (apply Ext.set <;> omega) | exact Ext.trans (by assumption) (by assumption) | (refine Ext.trans ?_ (by assumption)))))).push (bytes := 8) (vc := some 1) (by simp; omega) (snoc_last _ rfl) rfl rfl (by omega) (by omega)
    simp only [ei] at hap
    have e5 : Ext h h5 := Ext.below (h := h2 ++ [O.cells (ei f.page) Kd.rw]) (by (repeat (first | assumption | apply Ext.refl | apply Ext.app | (apply Ext.set <;> omega) | exact Ext.trans (by assumption) (by assumption) | (refine Ext.trans ?_ (by assumption))))) (Nat.le_refl _) hb5
    simp -dsimp (disch := first | with_reducible assumption | omega | (intro h_; cases h_; done) | (simp only [LN] <;> omega) | (simp only [LF]; done) | (repeat (first | with_reducible assumption | apply Ext.refl | apply Ext.app | (apply Ext.set <;> omega) | (refine Ext.trans ?_ (by assumption))))) only [AX, TY, AD, mapPut, entsOf, oneV, builtinV, idsOf, mapId, touchB, Nat.reduceLT, Nat.reduceLeDiff, Nat.reduceEqDiff, Nat.reduceAdd, Nat.reduceMul, Int.reduceBEq, Int.reduceEq, Int.reduceNeg, Int.reduceLT, Int.reduceLE, Int.reduceAdd, Int.reduceSub, Int.reduceMul, Int.reduceToNat, Int.reduceGT, Nat.reduceBEq, Nat.reducePow, Nat.reduceGT, reduceCtorEq, ↓reduceIte, t1, t5, t11, t12, t13, loadN_fact gx2, hap, wrap_in]
    refine ⟨m - 1, by omega, e5, i + 1, p5, c5, o5, os ++ [f.page], ?_⟩
    repeat' (first | assumption | refine And.intro ?_ ?_)
    all_goals first | rfl | omega | (simp; done) | (simp; omega; done) | skip
theorem cached_ok {b : Nat} {h : Heap} {I : Ids} {S : Bp} {oid : Option Nat} (d : PAt b h I S oid) (h12 : (lstP (fun _ => true) S.frames).length ≤ 12) :
    WR (callE Try.prog hk 13 [.ptr (some (I.pi, 0))] h) fun r h' => Ext h h' ∧ ∃ p' c' zs, r = .slice p' zs.length c' ∧ Sl h' p' 1 ei zs ∧ zs.Pairwise (· ≤ ·) ∧ zs.Perm (lstP (fun _ => true) S.frames) ∧ ∀ a o, p' = some (a, o) → h.length ≤ a := by
  refine WR.call (hH := rfl) Try.func13 rfl (n := 5) rfl rfl (by simp) ?_
  simp -dsimp (disch := first | with_reducible assumption | omega | (intro h_; cases h_; done) | (simp only [LN] <;> omega) | (simp only [LF]; done) | (repeat (first | with_reducible assumption | apply Ext.refl | apply Ext.app | (apply Ext.set <;> omega) | (refine Ext.trans ?_ (by assumption))))) only [AX, TY, AD, mapPut, entsOf, oneV, builtinV, idsOf, mapId, touchB, Nat.reduceLT, Nat.reduceLeDiff, Nat.reduceEqDiff, Nat.reduceAdd, Nat.reduceMul, Int.reduceBEq, Int.reduceEq, Int.reduceNeg, Int.reduceLT, Int.reduceLE, Int.reduceAdd, Int.reduceSub, Int.reduceMul, Int.reduceToNat, Int.reduceGT, Nat.reduceBEq, Nat.reducePow, Nat.reduceGT, reduceCtorEq, ↓reduceIte]
  refine (list_ok d 39 (fun _ => true) h12 fun hh f => ?_).mono ?_
  · refine WR.call (hH := rfl) Try.func39 rfl (n := 3) rfl rfl (by simp) ?_
    simp -dsimp (disch := first | with_reducible assumption | omega | (intro h_; cases h_; done) | (simp only [LN] <;> omega) | (simp only [LF]; done) | (repeat (first | with_reducible assumption | apply Ext.refl | apply Ext.app | (apply Ext.set <;> omega) | (refine Ext.trans ?_ (by assumption))))) only [AX, TY, AD, mapPut, entsOf, oneV, builtinV, idsOf, mapId, touchB, Nat.reduceLT, Nat.reduceLeDiff, Nat.reduceEqDiff, Nat.reduceAdd, Nat.reduceMul, Int.reduceBEq, Int.reduceEq, Int.reduceNeg, Int.reduceLT, Int.reduceLE, Int.reduceAdd, Int.reduceSub, Int.reduceMul, Int.reduceToNat, Int.reduceGT, Nat.reduceBEq, Nat.reducePow, Nat.reduceGT, reduceCtorEq, ↓reduceIte, Fr.enc]
    exact (by (repeat (first | assumption | apply Ext.refl | apply Ext.app | (apply Ext.set <;> omega) | exact Ext.trans (by assumption) (by assumption) | (refine Ext.trans ?_ (by assumption)))))
  rintro r h2 ⟨e2, p', c', zs, rfl, q⟩
  simp -dsimp (disch := first | with_reducible assumption | omega | (intro h_; cases h_; done) | (simp only [LN] <;> omega) | (simp only [LF]; done) | (repeat (first | with_reducible assumption | apply Ext.refl | apply Ext.app | (apply Ext.set <;> omega) | (refine Ext.trans ?_ (by assumption))))) only [AX, TY, AD, mapPut, entsOf, oneV, builtinV, idsOf, mapId, touchB, Nat.reduceLT, Nat.reduceLeDiff, Nat.reduceEqDiff, Nat.reduceAdd, Nat.reduceMul, Int.reduceBEq, Int.reduceEq, Int.reduceNeg, Int.reduceLT, Int.reduceLE, Int.reduceAdd, Int.reduceSub, Int.reduceMul, Int.reduceToNat, Int.reduceGT, Nat.reduceBEq, Nat.reducePow, Nat.reduceGT, reduceCtorEq, ↓reduceIte]
  exact ⟨e2, p', c', zs, rfl, q⟩
theorem dirty_ok {b : Nat} {h : Heap} {I : Ids} {S : Bp} {oid : Option Nat} (d : PAt b h I S oid) (h12 : (lstP Fr.dirty S.frames).length ≤ 12) :
    WR (callE Try.prog hk 14 [.ptr (some (I.pi, 0))] h) fun r h' => Ext h h' ∧ ∃ p' c' zs, r = .slice p' zs.length c' ∧ Sl h' p' 1 ei zs ∧ zs.Pairwise (· ≤ ·) ∧ zs.Perm (lstP Fr.dirty S.frames) ∧ ∀ a o, p' = some (a, o) → h.length ≤ a := by
  refine WR.call (hH := rfl) Try.func14 rfl (n := 5) rfl rfl (by simp) ?_
  simp -dsimp (disch := first | with_reducible assumption | omega | (intro h_; cases h_; done) | (simp only [LN] <;> omega) | (simp only [LF]; done) | (repeat (first | with_reducible assumption | apply Ext.refl | apply Ext.app | (apply Ext.set <;> omega) | (refine Ext.trans ?_ (by assumption))))) only [AX, TY, AD, mapPut, entsOf, oneV, builtinV, idsOf, mapId, touchB, Nat.reduceLT, Nat.reduceLeDiff, Nat.reduceEqDiff, Nat.reduceAdd, Nat.reduceMul, Int.reduceBEq, Int.reduceEq, Int.reduceNeg, Int.reduceLT, Int.reduceLE, Int.reduceAdd, Int.reduceSub, Int.reduceMul, Int.reduceToNat, Int.reduceGT, Nat.reduceBEq, Nat.reducePow, Nat.reduceGT, reduceCtorEq, ↓reduceIte]
  refine (list_ok d 40 Fr.dirty h12 fun hh f => ?_).mono ?_
  · refine WR.call (hH := rfl) Try.func40 rfl (n := 5) rfl rfl (by simp) ?_
    simp -dsimp (disch := first | with_reducible assumption | omega | (intro h_; cases h_; done) | (simp only [LN] <;> omega) | (simp only [LF]; done) | (repeat (first | with_reducible assumption | apply Ext.refl | apply Ext.app | (apply Ext.set <;> omega) | (refine Ext.trans ?_ (by assumption))))) only [AX, TY, AD, mapPut, entsOf, oneV, builtinV, idsOf, mapId, touchB, Nat.reduceLT, Nat.reduceLeDiff, Nat.reduceEqDiff, Nat.reduceAdd, Nat.reduceMul, Int.reduceBEq, Int.reduceEq, Int.reduceNeg, Int.reduceLT, Int.reduceLE, Int.reduceAdd, Int.reduceSub, Int.reduceMul, Int.reduceToNat, Int.reduceGT, Nat.reduceBEq, Nat.reducePow, Nat.reduceGT, reduceCtorEq, ↓reduceIte, Fr.enc]
    exact (by (repeat (first | assumption | apply Ext.refl | apply Ext.app | (apply Ext.set <;> omega) | exact Ext.trans (by assumption) (by assumption) | (refine Ext.trans ?_ (by assumption)))))
  rintro r h2 ⟨e2, p', c', zs, rfl, q⟩
  simp -dsimp (disch := first | with_reducible assumption | omega | (intro h_; cases h_; done) | (simp only [LN] <;> omega) | (simp only [LF]; done) | (repeat (first | with_reducible assumption | apply Ext.refl | apply Ext.app | (apply Ext.set <;> omega) | (refine Ext.trans ?_ (by assumption))))) only [AX, TY, AD, mapPut, entsOf, oneV, builtinV, idsOf, mapId, touchB, Nat.reduceLT, Nat.reduceLeDiff, Nat.reduceEqDiff, Nat.reduceAdd, Nat.reduceMul, Int.reduceBEq, Int.reduceEq, Int.reduceNeg, Int.reduceLT, Int.reduceLE, Int.reduceAdd, Int.reduceSub, Int.reduceMul, Int.reduceToNat, Int.reduceGT, Nat.reduceBEq, Nat.reducePow, Nat.reduceGT, reduceCtorEq, ↓reduceIte]
  exact ⟨e2, p', c', zs, rfl, q⟩
def emptyQ (f : Fr) : Bool := decide (f.page < 0)
theorem empty_ok {b : Nat} {h : Heap} {I : Ids} {S : Bp} {oid : Option Nat} (d : PAt b h I S oid) :
    WR (callE Try.prog hk 72 [.ptr (some (I.pi, 0))] h) fun r h' => Ext h h' ∧ r = .tuple [.agg [.int .i64 (idxI (S.frames.findIdx? emptyQ)), .int .i64 S.hand, .slice none 0 (some 0)], .bool (S.frames.findIdx? emptyQ).isSome] := by
  have gp := d.pool
  have hpi := lt_of_some gp
  refine WR.call (hH := rfl) Try.func72 rfl (n := 18) rfl rfl (by simp) ?_
  obtain ⟨g, hg, g0, e1, hgl⟩ : ∃ g, h ++ [O.cells [V.int .i64 0, V.int .i64 0, V.slice none 0 (some 0)] .rw] = g ∧ g[h.length]? = some (O.cells [V.int .i64 0, V.int .i64 0, V.slice none 0 (some 0)] .rw) ∧ Ext h g ∧ g.length = h.length + 1 := ⟨_, rfl, snoc_last _ rfl, (by (repeat (first | assumption | apply Ext.refl | apply Ext.app | (apply Ext.set <;> omega) | exact Ext.trans (by assumption) (by assumption) | (refine Ext.trans ?_ (by assumption))))), by simp⟩
  have gp1 := e1 _ _ gp
  simp -dsimp (disch := first | with_reducible assumption | omega | (intro h_; cases h_; done) | (simp only [LN] <;> omega) | (simp only [LF]; done) | (repeat (first | with_reducible assumption | apply Ext.refl | apply Ext.app | (apply Ext.set <;> omega) | (refine Ext.trans ?_ (by assumption))))) only [AX, TY, AD, mapPut, entsOf, oneV, builtinV, idsOf, mapId, touchB, Nat.reduceLT, Nat.reduceLeDiff, Nat.reduceEqDiff, Nat.reduceAdd, Nat.reduceMul, Int.reduceBEq, Int.reduceEq, Int.reduceNeg, Int.reduceLT, Int.reduceLE, Int.reduceAdd, Int.reduceSub, Int.reduceMul, Int.reduceToNat, Int.reduceGT, Nat.reduceBEq, Nat.reducePow, Nat.reduceGT, reduceCtorEq, ↓reduceIte, hg, loadN_fact gp1]
  refine (indexFunc_ok (d.sl.ext e1) 76 [] emptyQ (fun hh e f => ?_)).mono ?_
  · refine WR.call (hH := rfl) Try.func76 rfl (n := 6) rfl rfl (by simp) ?_
    unfold emptyQ
    simp -dsimp (disch := first | with_reducible assumption | omega | (intro h_; cases h_; done) | (simp only [LN] <;> omega) | (simp only [LF]; done) | (repeat (first | with_reducible assumption | apply Ext.refl | apply Ext.app | (apply Ext.set <;> omega) | (refine Ext.trans ?_ (by assumption))))) only [AX, TY, AD, mapPut, entsOf, oneV, builtinV, idsOf, mapId, touchB, Nat.reduceLT, Nat.reduceLeDiff, Nat.reduceEqDiff, Nat.reduceAdd, Nat.reduceMul, Int.reduceBEq, Int.reduceEq, Int.reduceNeg, Int.reduceLT, Int.reduceLE, Int.reduceAdd, Int.reduceSub, Int.reduceMul, Int.reduceToNat, Int.reduceGT, Nat.reduceBEq, Nat.reducePow, Nat.reduceGT, reduceCtorEq, ↓reduceIte, Fr.enc]
    exact (by (repeat (first | assumption | apply Ext.refl | apply Ext.app | (apply Ext.set <;> omega) | exact Ext.trans (by assumption) (by assumption) | (refine Ext.trans ?_ (by assumption)))))
  rintro _ h2 ⟨e2, rfl⟩
  have gp2 := e2 _ _ gp1
  have g02 := e2 _ _ g0
  have hlt := lt_of_some g02
  have e12 : Ext h (h2.set h.length (O.cells [V.int .i64 (idxI (S.frames.findIdx? emptyQ)), V.int .i64 S.hand, V.slice none 0 (some 0)] .rw)) := Ext.set (e1.trans e2) (Nat.le_refl _) _
  cases hfi : S.frames.findIdx? emptyQ with
  | none =>
    rw [hfi] at e12
    simp only [idxI] at e12
    simp -dsimp (disch := first | with_reducible assumption | omega | (intro h_; cases h_; done) | (simp only [LN] <;> omega) | (simp only [LF]; done) | (repeat (first | with_reducible assumption | apply Ext.refl | apply Ext.app | (apply Ext.set <;> omega) | (refine Ext.trans ?_ (by assumption))))) only [AX, TY, AD, mapPut, entsOf, oneV, builtinV, idsOf, mapId, touchB, Nat.reduceLT, Nat.reduceLeDiff, Nat.reduceEqDiff, Nat.reduceAdd, Nat.reduceMul, Int.reduceBEq, Int.reduceEq, Int.reduceNeg, Int.reduceLT, Int.reduceLE, Int.reduceAdd, Int.reduceSub, Int.reduceMul, Int.reduceToNat, Int.reduceGT, Nat.reduceBEq, Nat.reducePow, Nat.reduceGT, reduceCtorEq, ↓reduceIte, loadN_fact gp2, storeN_fact g02 (by simp), idxI]
    exact ⟨e12, rfl⟩
  | some i =>
    rw [hfi] at e12
    simp only [idxI] at e12
    have hn : (0 : Int) ≤ (i : Int) := by omega
    simp -dsimp (disch := first | with_reducible assumption | omega | (intro h_; cases h_; done) | (simp only [LN] <;> omega) | (simp only [LF]; done) | (repeat (first | with_reducible assumption | apply Ext.refl | apply Ext.app | (apply Ext.set <;> omega) | (refine Ext.trans ?_ (by assumption))))) only [AX, TY, AD, mapPut, entsOf, oneV, builtinV, idsOf, mapId, touchB, Nat.reduceLT, Nat.reduceLeDiff, Nat.reduceEqDiff, Nat.reduceAdd, Nat.reduceMul, Int.reduceBEq, Int.reduceEq, Int.reduceNeg, Int.reduceLT, Int.reduceLE, Int.reduceAdd, Int.reduceSub, Int.reduceMul, Int.reduceToNat, Int.reduceGT, Nat.reduceBEq, Nat.reducePow, Nat.reduceGT, reduceCtorEq, ↓reduceIte, loadN_fact gp2, storeN_fact g02 (by simp), idxI, eq_true hn]
    exact ⟨e12, rfl⟩
end Go.Proofs.YtmjfhckioaempaaA
namespace Go.Proofs.YtmjfhckioaempaaA
open Go Go.Proofs Go.RowKit
set_option linter.unusedVariables false
set_option linter.unusedSimpArgs false
set_option maxRecDepth 10000
set_option maxHeartbeats 2000000
theorem index91_ok {h : Heap} {p : Option (Nat × Nat)} {c : Option Nat} {ys : List Int} (hs : Sl h p 1 ei ys) (x : Int) :
    WR (callE Try.prog hk 91 [.slice p ys.length c, .int .i64 x] h) fun r h' => h = h' ∧ ∃ i : Int, r = .int .i64 i ∧ (0 ≤ i ↔ x ∈ ys) := by
  have hn := hs.nil'
  have hl := hs.small
  refine WR.call (hH := rfl) Try.func91 rfl (n := 19) rfl rfl (by simp) ?_
  simp -dsimp (disch := first | with_reducible assumption | omega | (intro h_; cases h_; done) | (simp only [LN] <;> omega) | (simp only [LF]; done) | (repeat (first | with_reducible assumption | apply Ext.refl | apply Ext.app | (apply Ext.set <;> omega) | (refine Ext.trans ?_ (by assumption))))) only [AX, TY, AD, mapPut, entsOf, oneV, builtinV, idsOf, mapId, touchB, Nat.reduceLT, Nat.reduceLeDiff, Nat.reduceEqDiff, Nat.reduceAdd, Nat.reduceMul, Int.reduceBEq, Int.reduceEq, Int.reduceNeg, Int.reduceLT, Int.reduceLE, Int.reduceAdd, Int.reduceSub, Int.reduceMul, Int.reduceToNat, Int.reduceGT, Nat.reduceBEq, Nat.reducePow, Nat.reduceGT, reduceCtorEq, ↓reduceIte]
  refine W.loop (fun m τ hh => h = hh ∧ ∃ i : Nat, m + i = ys.length ∧ τ 0 = .slice p ys.length c ∧ τ 1 = .int .i64 x ∧ τ 7 = .int .i64 ys.length ∧ τ 8 = .int .i64 i ∧ x ∉ ys.take i) ?_ (m := ys.length) ?_
  rotate_left
  · exact ⟨rfl, 0, by simp, rfl, rfl, rfl, rfl, by simp⟩
  rintro m τ _ ⟨rfl, i, hm, t0, t1, t7, t8, hni⟩
  by_cases h1 : (i : Int) < (ys.length : Int)
  rotate_left
  · simp -dsimp (disch := first | with_reducible assumption | omega | (intro h_; cases h_; done) | (simp only [LN] <;> omega) | (simp only [LF]; done) | (repeat (first | with_reducible assumption | apply Ext.refl | apply Ext.app | (apply Ext.set <;> omega) | (refine Ext.trans ?_ (by assumption))))) only [AX, TY, AD, mapPut, entsOf, oneV, builtinV, idsOf, mapId, touchB, Nat.reduceLT, Nat.reduceLeDiff, Nat.reduceEqDiff, Nat.reduceAdd, Nat.reduceMul, Int.reduceBEq, Int.reduceEq, Int.reduceNeg, Int.reduceLT, Int.reduceLE, Int.reduceAdd, Int.reduceSub, Int.reduceMul, Int.reduceToNat, Int.reduceGT, Nat.reduceBEq, Nat.reducePow, Nat.reduceGT, reduceCtorEq, ↓reduceIte, t0, t1, t7, t8, h1]
    refine ⟨-1, rfl, ?_⟩
    rw [List.take_of_length_le (by omega)] at hni
    simp [hni]
  have hi : i < ys.length := by omega
  have hla := hs.load0 (.refl _) hi (m := 1) (by decide)
  simp only [ei, List.take] at hla
  by_cases he : x = ys[i]
  · simp -dsimp (disch := first | with_reducible assumption | omega | (intro h_; cases h_; done) | (simp only [LN] <;> omega) | (simp only [LF]; done) | (repeat (first | with_reducible assumption | apply Ext.refl | apply Ext.app | (apply Ext.set <;> omega) | (refine Ext.trans ?_ (by assumption))))) only [AX, TY, AD, mapPut, entsOf, oneV, builtinV, idsOf, mapId, touchB, Nat.reduceLT, Nat.reduceLeDiff, Nat.reduceEqDiff, Nat.reduceAdd, Nat.reduceMul, Int.reduceBEq, Int.reduceEq, Int.reduceNeg, Int.reduceLT, Int.reduceLE, Int.reduceAdd, Int.reduceSub, Int.reduceMul, Int.reduceToNat, Int.reduceGT, Nat.reduceBEq, Nat.reducePow, Nat.reduceGT, reduceCtorEq, ↓reduceIte, t0, t1, t7, t8, h1, hla, eq_true he]
    refine ⟨i, rfl, ?_⟩
    have : x ∈ ys := by rw [he]; exact List.getElem_mem hi
    simp [this]
  · simp -dsimp (disch := first | with_reducible assumption | omega | (intro h_; cases h_; done) | (simp only [LN] <;> omega) | (simp only [LF]; done) | (repeat (first | with_reducible assumption | apply Ext.refl | apply Ext.app | (apply Ext.set <;> omega) | (refine Ext.trans ?_ (by assumption))))) only [AX, TY, AD, mapPut, entsOf, oneV, builtinV, idsOf, mapId, touchB, Nat.reduceLT, Nat.reduceLeDiff, Nat.reduceEqDiff, Nat.reduceAdd, Nat.reduceMul, Int.reduceBEq, Int.reduceEq, Int.reduceNeg, Int.reduceLT, Int.reduceLE, Int.reduceAdd, Int.reduceSub, Int.reduceMul, Int.reduceToNat, Int.reduceGT, Nat.reduceBEq, Nat.reducePow, Nat.reduceGT, reduceCtorEq, ↓reduceIte, t0, t1, t7, t8, h1, hla, he, wrap_in]
    refine ⟨m - 1, by omega, i + 1, by omega, by simp, ?_⟩
    rw [List.take_succ_eq_append_getElem hi, List.mem_append, List.mem_singleton]
    rintro (q | q)
    · exact hni q
    · exact he q
theorem contains79_ok {h : Heap} {p : Option (Nat × Nat)} {c : Option Nat} {ys : List Int} (hs : Sl h p 1 ei ys) (x : Int) :
    WR (callE Try.prog hk 79 [.slice p ys.length c, .int .i64 x] h) fun r h' => h = h' ∧ r = .bool (decide (x ∈ ys)) := by
  refine WR.call (hH := rfl) Try.func79 rfl (n := 9) rfl rfl (by simp) ?_
  simp -dsimp (disch := first | with_reducible assumption | omega | (intro h_; cases h_; done) | (simp only [LN] <;> omega) | (simp only [LF]; done) | (repeat (first | with_reducible assumption | apply Ext.refl | apply Ext.app | (apply Ext.set <;> omega) | (refine Ext.trans ?_ (by assumption))))) only [AX, TY, AD, mapPut, entsOf, oneV, builtinV, idsOf, mapId, touchB, Nat.reduceLT, Nat.reduceLeDiff, Nat.reduceEqDiff, Nat.reduceAdd, Nat.reduceMul, Int.reduceBEq, Int.reduceEq, Int.reduceNeg, Int.reduceLT, Int.reduceLE, Int.reduceAdd, Int.reduceSub, Int.reduceMul, Int.reduceToNat, Int.reduceGT, Nat.reduceBEq, Nat.reducePow, Nat.reduceGT, reduceCtorEq, ↓reduceIte]
  refine (index91_ok hs x).mono ?_
  rintro _ _ ⟨rfl, i, rfl, hi⟩
  simp -dsimp (disch := first | with_reducible assumption | omega | (intro h_; cases h_; done) | (simp only [LN] <;> omega) | (simp only [LF]; done) | (repeat (first | with_reducible assumption | apply Ext.refl | apply Ext.app | (apply Ext.set <;> omega) | (refine Ext.trans ?_ (by assumption))))) only [AX, TY, AD, mapPut, entsOf, oneV, builtinV, idsOf, mapId, touchB, Nat.reduceLT, Nat.reduceLeDiff, Nat.reduceEqDiff, Nat.reduceAdd, Nat.reduceMul, Int.reduceBEq, Int.reduceEq, Int.reduceNeg, Int.reduceLT, Int.reduceLE, Int.reduceAdd, Int.reduceSub, Int.reduceMul, Int.reduceToNat, Int.reduceGT, Nat.reduceBEq, Nat.reducePow, Nat.reduceGT, reduceCtorEq, ↓reduceIte]
  congr 1
  exact decide_eq_decide.2 hi
/-- The place of the hand after t steps. -/
def hx (n hand t : Nat) : Nat := (hand + t) % n
theorem hx_lt {n hand t : Nat} (h : 0 < n) : hx n hand t < n := Nat.mod_lt _ h
theorem hx_zero {n hand : Nat} (h : hand < n) : hx n hand 0 = hand := Nat.mod_eq_of_lt h
theorem hx_succ (n hand t : Nat) : hx n hand (t + 1) = (hx n hand t + 1) % n := by unfold hx; rw [Nat.mod_add_mod, Nat.add_assoc]
theorem hx_back (n hand t : Nat) : hx n hand (t + n) = hx n hand t := by unfold hx; rw [← Nat.add_assoc, Nat.add_mod_right]
theorem hx_all {n hand : Nat} (h : hand < n) {j : Nat} (hj : j < n) : ∃ t, t < n ∧ hx n hand t = j := by
  unfold hx
  by_cases c : hand ≤ j
  · exact ⟨j - hand, by omega, by rw [show hand + (j - hand) = j by omega]; exact Nat.mod_eq_of_lt hj⟩
  · refine ⟨j + n - hand, by omega, ?_⟩
    rw [show hand + (j + n - hand) = j + n by omega, Nat.add_mod_right]; exact Nat.mod_eq_of_lt hj
def pinsAt (fs : List Fr) (j : Nat) : Int := (fs[j]?.map Fr.pins).getD 0
def refAt (fs : List Fr) (j : Nat) : Bool := (fs[j]?.map Fr.ref).getD false
/-- Whether the hand stops at step t. -/
def stops (fs : List Fr) (hand t : Nat) : Prop := ¬ 0 < pinsAt fs (hx fs.length hand t) ∧ (refAt fs (hx fs.length hand t) = false ∨ ∃ t', t' < t ∧ hx fs.length hand t' = hx fs.length hand t)
/-- The frame that the second chance gives. -/
structure Vic (fs : List Fr) (hand t : Nat) (cl : List Int) : Prop where
  stop : stops fs hand t
  first : ∀ t', t' < t → ¬ stops fs hand t'
  cleared : ∀ x : Int, x ∈ cl ↔ ∃ t', t' < t ∧ x = hx fs.length hand t' ∧ ¬ 0 < pinsAt fs (hx fs.length hand t')
theorem vic_few {fs : List Fr} {hand t : Nat} (hh : hand < fs.length) (hno : ∀ t', t' < t → ¬ stops fs hand t') {j : Nat} (hj : j < fs.length) (hp : ¬ 0 < pinsAt fs j) (ht : t ≤ 2 * fs.length) : t < 2 * fs.length := by
  obtain ⟨t0, h0, h1⟩ := hx_all hh hj
  rcases Nat.lt_or_ge t (2 * fs.length) with q | q
  · exact q
  · have := hno (t0 + fs.length) (by omega)
    refine absurd ⟨?_, .inr ⟨t0, by omega, (hx_back _ _ _).symm⟩⟩ this
    rw [hx_back, h1]; exact hp
def unpQ (f : Fr) : Bool := decide (f.pins = 0)
theorem containsF_ok {h : Heap} {fr : Nat} {c : Option Nat} {fs : List Fr} (hs : Sl h (some (fr, 0)) 5 Fr.enc fs) : WR (callE Try.prog hk 77 [.slice (some (fr, 0)) fs.length c, .func 78 [] []] h) fun r h' => Ext h h' ∧ r = .bool (fs.any unpQ) := by
  refine WR.call (hH := rfl) Try.func77 rfl (n := 9) rfl rfl (by simp) ?_
  simp -dsimp (disch := first | with_reducible assumption | omega | (intro h_; cases h_; done) | (simp only [LN] <;> omega) | (simp only [LF]; done) | (repeat (first | with_reducible assumption | apply Ext.refl | apply Ext.app | (apply Ext.set <;> omega) | (refine Ext.trans ?_ (by assumption))))) only [AX, TY, AD, mapPut, entsOf, oneV, builtinV, idsOf, mapId, touchB, Nat.reduceLT, Nat.reduceLeDiff, Nat.reduceEqDiff, Nat.reduceAdd, Nat.reduceMul, Int.reduceBEq, Int.reduceEq, Int.reduceNeg, Int.reduceLT, Int.reduceLE, Int.reduceAdd, Int.reduceSub, Int.reduceMul, Int.reduceToNat, Int.reduceGT, Nat.reduceBEq, Nat.reducePow, Nat.reduceGT, reduceCtorEq, ↓reduceIte]
  refine (indexFunc_ok hs 78 [] unpQ (fun hh e f => ?_)).mono ?_
  · unfold unpQ
    refine WR.call (hH := rfl) Try.func78 rfl (n := 6) rfl rfl (by simp) ?_
    simp -dsimp (disch := first | with_reducible assumption | omega | (intro h_; cases h_; done) | (simp only [LN] <;> omega) | (simp only [LF]; done) | (repeat (first | with_reducible assumption | apply Ext.refl | apply Ext.app | (apply Ext.set <;> omega) | (refine Ext.trans ?_ (by assumption))))) only [AX, TY, AD, mapPut, entsOf, oneV, builtinV, idsOf, mapId, touchB, Nat.reduceLT, Nat.reduceLeDiff, Nat.reduceEqDiff, Nat.reduceAdd, Nat.reduceMul, Int.reduceBEq, Int.reduceEq, Int.reduceNeg, Int.reduceLT, Int.reduceLE, Int.reduceAdd, Int.reduceSub, Int.reduceMul, Int.reduceToNat, Int.reduceGT, Nat.reduceBEq, Nat.reducePow, Nat.reduceGT, reduceCtorEq, ↓reduceIte, Fr.enc]
    exact (by (repeat (first | assumption | apply Ext.refl | apply Ext.app | (apply Ext.set <;> omega) | exact Ext.trans (by assumption) (by assumption) | (refine Ext.trans ?_ (by assumption)))))
  rintro _ h2 ⟨e2, rfl⟩
  have key : decide (0 ≤ idxI (fs.findIdx? unpQ)) = fs.any unpQ := by
    cases hfi : fs.findIdx? unpQ with
    | none =>
      have h1 := List.findIdx?_eq_none_iff.1 hfi
      have h2 : fs.any unpQ = false := by
        rw [List.any_eq_false]
        intro x hx; rw [h1 x hx]; simp
      rw [h2]; rfl
    | some i =>
      obtain ⟨hi, h1, _⟩ := List.findIdx?_eq_some_iff_getElem.1 hfi
      have h2 : fs.any unpQ = true := List.any_eq_true.2 ⟨_, List.getElem_mem hi, h1⟩
      rw [h2]
      exact decide_eq_true (show (0 : Int) ≤ (i : Int) by omega)
  rw [← key]
  simp -dsimp (disch := first | with_reducible assumption | omega | (intro h_; cases h_; done) | (simp only [LN] <;> omega) | (simp only [LF]; done) | (repeat (first | with_reducible assumption | apply Ext.refl | apply Ext.app | (apply Ext.set <;> omega) | (refine Ext.trans ?_ (by assumption))))) only [AX, TY, AD, mapPut, entsOf, oneV, builtinV, idsOf, mapId, touchB, Nat.reduceLT, Nat.reduceLeDiff, Nat.reduceEqDiff, Nat.reduceAdd, Nat.reduceMul, Int.reduceBEq, Int.reduceEq, Int.reduceNeg, Int.reduceLT, Int.reduceLE, Int.reduceAdd, Int.reduceSub, Int.reduceMul, Int.reduceToNat, Int.reduceGT, Nat.reduceBEq, Nat.reducePow, Nat.reduceGT, reduceCtorEq, ↓reduceIte]
  exact e2
structure LVi (b : Nat) (I : Ids) (S : Bp) (cb : Nat) (t : Nat) (cl : List Int) (h : Heap) (τ : Tp) (hh : Heap) : Prop where
  t0 : τ 0 = .ptr (some (I.pi, 0))
  t2 : τ 2 = .ptr (some (h.length, 0))
  t4 : τ 4 = .ptr (some (cb, 0))
  e : Ext h hh
  two : ∃ x, hh[h.length]? = some (.cells [.int .i64 0, .int .i64 0, .slice none 0 (some 0)] .rw) ∧ x = 0
  cbl : h.length < cb
  out : ∃ pc cc oc, hh[cb]? = some (.cells [.int .i64 (hx S.frames.length S.hand t), .int .i64 0, .slice pc cl.length cc] .rw) ∧ Gr (cb + 1) hh pc cc oc 1 ei cl
  few : cl.length ≤ t ∧ t ≤ 2 * S.frames.length
  no : ∀ t', t' < t → ¬ stops S.frames S.hand t'
  cleared : ∀ x : Int, x ∈ cl ↔ ∃ t', t' < t ∧ x = hx S.frames.length S.hand t' ∧ ¬ 0 < pinsAt S.frames (hx S.frames.length S.hand t')
theorem victim_ok {b : Nat} {h : Heap} {I : Ids} {S : Bp} {oid : Option Nat} (d : PAt b h I S oid) (hpos : ∀ f ∈ S.frames, 0 ≤ f.pins) :
    WR (callE Try.prog hk 73 [.ptr (some (I.pi, 0))] h) fun r h' => Ext h h' ∧ (((∀ f ∈ S.frames, f.pins ≠ 0) ∧ r = .tuple [.agg [.int .i64 0, .int .i64 0, .slice none 0 (some 0)], .bool false]) ∨ ∃ t cl pc cc, Vic S.frames S.hand t cl ∧ r = .tuple [.agg [.int .i64 (hx S.frames.length S.hand t), .int .i64 (hx S.frames.length S.hand (t + 1)), .slice pc cl.length cc], .bool true] ∧ Sl h' pc 1 ei cl ∧ cl.length ≤ 8192 ∧ ∀ a o, pc = some (a, o) → h.length < a) := by
  have gp := d.pool
  have n1 := d.n1
  have hpi := lt_of_some gp
  refine WR.call (hH := rfl) Try.func73 rfl (n := 67) rfl rfl (by simp) ?_
  obtain ⟨g, hg, g0, e1, hgl⟩ : ∃ g, h ++ [O.cells [V.int .i64 0, V.int .i64 0, V.slice none 0 (some 0)] .rw] = g ∧ g[h.length]? = some (O.cells [V.int .i64 0, V.int .i64 0, V.slice none 0 (some 0)] .rw) ∧ Ext h g ∧ g.length = h.length + 1 := ⟨_, rfl, snoc_last _ rfl, (by (repeat (first | assumption | apply Ext.refl | apply Ext.app | (apply Ext.set <;> omega) | exact Ext.trans (by assumption) (by assumption) | (refine Ext.trans ?_ (by assumption))))), by simp⟩
  have gp1 := e1 _ _ gp
  simp -dsimp (disch := first | with_reducible assumption | omega | (intro h_; cases h_; done) | (simp only [LN] <;> omega) | (simp only [LF]; done) | (repeat (first | with_reducible assumption | apply Ext.refl | apply Ext.app | (apply Ext.set <;> omega) | (refine Ext.trans ?_ (by assumption))))) only [AX, TY, AD, mapPut, entsOf, oneV, builtinV, idsOf, mapId, touchB, Nat.reduceLT, Nat.reduceLeDiff, Nat.reduceEqDiff, Nat.reduceAdd, Nat.reduceMul, Int.reduceBEq, Int.reduceEq, Int.reduceNeg, Int.reduceLT, Int.reduceLE, Int.reduceAdd, Int.reduceSub, Int.reduceMul, Int.reduceToNat, Int.reduceGT, Nat.reduceBEq, Nat.reducePow, Nat.reduceGT, reduceCtorEq, ↓reduceIte, hg, loadN_fact gp1]
  refine (containsF_ok (d.sl.ext e1)).mono ?_
  rintro _ h2 ⟨e2, rfl⟩
  have e12 := e1.trans e2
  have gp2 := e2 _ _ gp1
  have g02 := e2 _ _ g0
  have hl2 := lt_of_some g02
  cases hany : S.frames.any unpQ
  · have hno : ∀ f ∈ S.frames, f.pins ≠ 0 := fun f hf q => by
      have := List.any_eq_false.1 hany f hf
      unfold unpQ at this; simp [q] at this
    simp -dsimp (disch := first | with_reducible assumption | omega | (intro h_; cases h_; done) | (simp only [LN] <;> omega) | (simp only [LF]; done) | (repeat (first | with_reducible assumption | apply Ext.refl | apply Ext.app | (apply Ext.set <;> omega) | (refine Ext.trans ?_ (by assumption))))) only [AX, TY, AD, mapPut, entsOf, oneV, builtinV, idsOf, mapId, touchB, Nat.reduceLT, Nat.reduceLeDiff, Nat.reduceEqDiff, Nat.reduceAdd, Nat.reduceMul, Int.reduceBEq, Int.reduceEq, Int.reduceNeg, Int.reduceLT, Int.reduceLE, Int.reduceAdd, Int.reduceSub, Int.reduceMul, Int.reduceToNat, Int.reduceGT, Nat.reduceBEq, Nat.reducePow, Nat.reduceGT, reduceCtorEq, ↓reduceIte, storeN_fact g02 (by simp), set_self' g02, loadN_fact g02]
    exact ⟨(by (repeat (first | assumption | apply Ext.refl | apply Ext.app | (apply Ext.set <;> omega) | exact Ext.trans (by assumption) (by assumption) | (refine Ext.trans ?_ (by assumption))))), .inl hno⟩
  obtain ⟨f0, hf0, hq0⟩ := List.any_eq_true.1 hany
  obtain ⟨j0, hj0, rfl⟩ := List.getElem_of_mem hf0
  have hp0 : ¬ 0 < pinsAt S.frames j0 := by
    unfold pinsAt unpQ at *
    rw [List.getElem?_eq_getElem hj0]
    simp only [decide_eq_true_eq] at hq0
    simp [hq0]
  have hn0 : ¬ (S.frames.length : Int) = 0 := by omega
  have hhand := d.hand
  have e12' : Ext h (h2 ++ [O.cells [V.int .i64 S.hand, V.int .i64 0, V.slice none 0 (some 0)] .rw]) := (by (repeat (first | assumption | apply Ext.refl | apply Ext.app | (apply Ext.set <;> omega) | exact Ext.trans (by assumption) (by assumption) | (refine Ext.trans ?_ (by assumption)))))
  have l12 := e12.le
  simp -dsimp (disch := first | with_reducible assumption | omega | (intro h_; cases h_; done) | (simp only [LN] <;> omega) | (simp only [LF]; done) | (repeat (first | with_reducible assumption | apply Ext.refl | apply Ext.app | (apply Ext.set <;> omega) | (refine Ext.trans ?_ (by assumption))))) only [AX, TY, AD, mapPut, entsOf, oneV, builtinV, idsOf, mapId, touchB, Nat.reduceLT, Nat.reduceLeDiff, Nat.reduceEqDiff, Nat.reduceAdd, Nat.reduceMul, Int.reduceBEq, Int.reduceEq, Int.reduceNeg, Int.reduceLT, Int.reduceLE, Int.reduceAdd, Int.reduceSub, Int.reduceMul, Int.reduceToNat, Int.reduceGT, Nat.reduceBEq, Nat.reducePow, Nat.reduceGT, reduceCtorEq, ↓reduceIte, loadN_fact gp2]
  refine W.loop (fun m τ hh => ∃ t cl, m + t = 2 * S.frames.length ∧ LVi b I S h2.length t cl h τ hh) ?_ (m := 2 * S.frames.length) ?_
  rotate_left
  · refine ⟨0, [], by simp, ?_⟩
    constructor <;> (try first | assumption | ((repeat (first | assumption | apply Ext.refl | apply Ext.app | (apply Ext.set <;> omega) | exact Ext.trans (by assumption) (by assumption) | (refine Ext.trans ?_ (by assumption)))); done) | (refine Sl.ext (by assumption) ?_; (repeat (first | assumption | apply Ext.refl | apply Ext.app | (apply Ext.set <;> omega) | exact Ext.trans (by assumption) (by assumption) | (refine Ext.trans ?_ (by assumption)))); done) | (simp -dsimp (disch := first | with_reducible assumption | omega | (intro h_; cases h_; done) | (simp only [LN] <;> omega) | (simp only [LF]; done) | (repeat (first | with_reducible assumption | apply Ext.refl | apply Ext.app | (apply Ext.set <;> omega) | (refine Ext.trans ?_ (by assumption))))) only [AX, TY, AD, mapPut, entsOf, oneV, builtinV, idsOf, mapId, touchB, Nat.reduceLT, Nat.reduceLeDiff, Nat.reduceEqDiff, Nat.reduceAdd, Nat.reduceMul, Int.reduceBEq, Int.reduceEq, Int.reduceNeg, Int.reduceLT, Int.reduceLE, Int.reduceAdd, Int.reduceSub, Int.reduceMul, Int.reduceToNat, Int.reduceGT, Nat.reduceBEq, Nat.reducePow, Nat.reduceGT, reduceCtorEq, ↓reduceIte, Int.natCast_add, Int.natCast_one, Int.natCast_zero]; try (first | assumption | with_reducible rfl)))
    · exact ⟨0, g02, rfl⟩
    · exact ⟨none, some 0, none, by rw [hx_zero hhand], Gr.nil _ _ _ _⟩
    all_goals simp
  rintro m τ hh ⟨t, cl, hm, t0, t2, t4, e, ⟨_, two, rfl⟩, cbl, ⟨pc, cc, oc, hcb, gr⟩, few, no, cleared⟩
  have le := e.le
  have ht2 := vic_few hhand no hj0 hp0 few.2
  have hj : hx S.frames.length S.hand t < S.frames.length := hx_lt (by omega)
  have hsu := hx_succ S.frames.length S.hand t
  have hstp : stops S.frames S.hand t ↔ ¬ 0 < pinsAt S.frames (hx S.frames.length S.hand t) ∧ (refAt S.frames (hx S.frames.length S.hand t) = false ∨ ∃ t', t' < t ∧ hx S.frames.length S.hand t' = hx S.frames.length S.hand t) := Iff.rfl
  generalize hjj : hx S.frames.length S.hand t = j at *
  have hla := (d.sl.ext e).loadz0 (.refl _) hj (m := 5) (by decide)
  have hpa : pinsAt S.frames j = (S.frames[j]).pins := by unfold pinsAt; rw [List.getElem?_eq_getElem hj]; rfl
  have hra : refAt S.frames j = (S.frames[j]).ref := by unfold refAt; rw [List.getElem?_eq_getElem hj]; rfl
  have hrem : ((j : Int) + 1).tmod (S.frames.length : Int) = (((j + 1) % S.frames.length : Nat) : Int) := rfl
  have hji : (j : Int) < (S.frames.length : Int) := by omega
  generalize S.frames[j] = f at hla hpa hra
  simp only [Fr.enc, List.take] at hla
  have gph := e _ _ gp
  have hcl := lt_of_some hcb
  have htl := lt_of_some two
  obtain ⟨g, hg, gx, eg, hgl⟩ : ∃ g, hh ++ [O.cells (Fr.enc f) .rw] = g ∧ g[hh.length]? = some (O.cells (Fr.enc f) .rw) ∧ Ext hh g ∧ g.length = hh.length + 1 := ⟨_, rfl, snoc_last _ rfl, (by (repeat (first | assumption | apply Ext.refl | apply Ext.app | (apply Ext.set <;> omega) | exact Ext.trans (by assumption) (by assumption) | (refine Ext.trans ?_ (by assumption))))), by simp⟩
  simp only [Fr.enc] at hg gx
  have hcb1 := eg _ _ hcb
  have gp1 := eg _ _ gph
  have two1 := eg _ _ two
  simp -dsimp (disch := first | with_reducible assumption | omega | (intro h_; cases h_; done) | (simp only [LN] <;> omega) | (simp only [LF]; done) | (repeat (first | with_reducible assumption | apply Ext.refl | apply Ext.app | (apply Ext.set <;> omega) | (refine Ext.trans ?_ (by assumption))))) only [AX, TY, AD, mapPut, entsOf, oneV, builtinV, idsOf, mapId, touchB, Nat.reduceLT, Nat.reduceLeDiff, Nat.reduceEqDiff, Nat.reduceAdd, Nat.reduceMul, Int.reduceBEq, Int.reduceEq, Int.reduceNeg, Int.reduceLT, Int.reduceLE, Int.reduceAdd, Int.reduceSub, Int.reduceMul, Int.reduceToNat, Int.reduceGT, Nat.reduceBEq, Nat.reducePow, Nat.reduceGT, reduceCtorEq, ↓reduceIte, t0, t2, t4]
  refine W.drawn [(0, []), (1, []), (2, []), (3, []), (4, [3, 2, 1, 0]), (5, [3, 2, 1, 0]), (6, []), (7, []), (8, [7, 6, 5, 4, 3, 2, 1, 0]), (9, [])] (by decide +kernel) ?_
  simp -dsimp (disch := first | with_reducible assumption | omega | (intro h_; cases h_; done) | (simp only [LN] <;> omega) | (simp only [LF]; done) | (repeat (first | with_reducible assumption | apply Ext.refl | apply Ext.app | (apply Ext.set <;> omega) | (refine Ext.trans ?_ (by assumption))))) only [AX, TY, AD, mapPut, entsOf, oneV, builtinV, idsOf, mapId, touchB, Nat.reduceLT, Nat.reduceLeDiff, Nat.reduceEqDiff, Nat.reduceAdd, Nat.reduceMul, Int.reduceBEq, Int.reduceEq, Int.reduceNeg, Int.reduceLT, Int.reduceLE, Int.reduceAdd, Int.reduceSub, Int.reduceMul, Int.reduceToNat, Int.reduceGT, Nat.reduceBEq, Nat.reducePow, Nat.reduceGT, reduceCtorEq, ↓reduceIte, t0, t2, t4, loadN_fact hcb, loadN_fact gph, hji, hla, hg]
  by_cases hpin : 0 < f.pins
  · have hns : ∀ t', t' < t + 1 → ¬ stops S.frames S.hand t' := fun t' h1 => by
      by_cases c : t' = t
      · subst c; rw [hstp, hpa]; exact fun q => q.1 hpin
      · exact no t' (by omega)
    have hcl2 : ∀ x : Int, x ∈ cl ↔ ∃ t', t' < t + 1 ∧ x = hx S.frames.length S.hand t' ∧ ¬ 0 < pinsAt S.frames (hx S.frames.length S.hand t') := fun x => by
      rw [cleared]
      constructor
      · rintro ⟨t', h1, h2⟩; exact ⟨t', by omega, h2⟩
      · rintro ⟨t', h1, h2, h3⟩
        by_cases c : t' = t
        · subst c; rw [hjj, hpa] at h3; exact absurd hpin h3
        · exact ⟨t', by omega, h2, h3⟩
    simp -dsimp (disch := first | with_reducible assumption | omega | (intro h_; cases h_; done) | (simp only [LN] <;> omega) | (simp only [LF]; done) | (repeat (first | with_reducible assumption | apply Ext.refl | apply Ext.app | (apply Ext.set <;> omega) | (refine Ext.trans ?_ (by assumption))))) only [AX, TY, AD, mapPut, entsOf, oneV, builtinV, idsOf, mapId, touchB, Nat.reduceLT, Nat.reduceLeDiff, Nat.reduceEqDiff, Nat.reduceAdd, Nat.reduceMul, Int.reduceBEq, Int.reduceEq, Int.reduceNeg, Int.reduceLT, Int.reduceLE, Int.reduceAdd, Int.reduceSub, Int.reduceMul, Int.reduceToNat, Int.reduceGT, Nat.reduceBEq, Nat.reducePow, Nat.reduceGT, reduceCtorEq, ↓reduceIte, t0, t2, t4, loadN_fact gx, hpin]
    refine W.drawn [(0, []), (1, []), (2, []), (3, [2, 1, 0]), (4, [2, 1, 0]), (5, [2, 1, 0]), (6, [2, 1, 0]), (7, [2, 1, 0]), (8, []), (9, []), (10, [])] (by decide +kernel) ?_
    simp -dsimp (disch := first | with_reducible assumption | omega | (intro h_; cases h_; done) | (simp only [LN] <;> omega) | (simp only [LF]; done) | (repeat (first | with_reducible assumption | apply Ext.refl | apply Ext.app | (apply Ext.set <;> omega) | (refine Ext.trans ?_ (by assumption))))) only [AX, TY, AD, mapPut, entsOf, oneV, builtinV, idsOf, mapId, touchB, Nat.reduceLT, Nat.reduceLeDiff, Nat.reduceEqDiff, Nat.reduceAdd, Nat.reduceMul, Int.reduceBEq, Int.reduceEq, Int.reduceNeg, Int.reduceLT, Int.reduceLE, Int.reduceAdd, Int.reduceSub, Int.reduceMul, Int.reduceToNat, Int.reduceGT, Nat.reduceBEq, Nat.reducePow, Nat.reduceGT, reduceCtorEq, ↓reduceIte, t0, t2, t4, loadN_fact hcb1, loadN_fact gp1, storeN_fact hcb1 (by simp), hn0, hrem, wrap_in]
    refine ⟨m - 1, by omega, t + 1, cl, by omega, ?_⟩
    have e' : Ext h (g.set h2.length (O.cells [V.int .i64 (((j + 1) % S.frames.length : Nat) : Int), V.int .i64 0, V.slice pc cl.length cc] .rw)) := Ext.set (e.trans eg) (by omega) _
    constructor <;> (try first | assumption | ((repeat (first | assumption | apply Ext.refl | apply Ext.app | (apply Ext.set <;> omega) | exact Ext.trans (by assumption) (by assumption) | (refine Ext.trans ?_ (by assumption)))); done) | (refine Sl.ext (by assumption) ?_; (repeat (first | assumption | apply Ext.refl | apply Ext.app | (apply Ext.set <;> omega) | exact Ext.trans (by assumption) (by assumption) | (refine Ext.trans ?_ (by assumption)))); done) | (simp -dsimp (disch := first | with_reducible assumption | omega | (intro h_; cases h_; done) | (simp only [LN] <;> omega) | (simp only [LF]; done) | (repeat (first | with_reducible assumption | apply Ext.refl | apply Ext.app | (apply Ext.set <;> omega) | (refine Ext.trans ?_ (by assumption))))) only [AX, TY, AD, mapPut, entsOf, oneV, builtinV, idsOf, mapId, touchB, Nat.reduceLT, Nat.reduceLeDiff, Nat.reduceEqDiff, Nat.reduceAdd, Nat.reduceMul, Int.reduceBEq, Int.reduceEq, Int.reduceNeg, Int.reduceLT, Int.reduceLE, Int.reduceAdd, Int.reduceSub, Int.reduceMul, Int.reduceToNat, Int.reduceGT, Nat.reduceBEq, Nat.reducePow, Nat.reduceGT, reduceCtorEq, ↓reduceIte, t0, t2, t4, Int.natCast_add, Int.natCast_one, Int.natCast_zero]; try (first | assumption | with_reducible rfl)))
    · exact ⟨0, two1, rfl⟩
    · exact ⟨pc, cc, oc, by rw [hsu], (gr.ext eg).keep fun i hi => set_other _ fun q => by have := gr.base i hi; omega⟩
    · exact ⟨by omega, by omega⟩
  have hmem : (j : Int) ∈ cl ↔ ∃ t', t' < t ∧ hx S.frames.length S.hand t' = j := by
    rw [cleared]
    constructor
    · rintro ⟨t', h1, h2, _⟩; exact ⟨t', h1, by omega⟩
    · rintro ⟨t', h1, h2⟩; exact ⟨t', h1, by omega, by rw [h2, hpa]; exact hpin⟩
  have hcs := (gr.ext eg).sl
  by_cases hst : stops S.frames S.hand t
  · have hfin : Vic S.frames S.hand t cl := ⟨hst, no, cleared⟩
    rw [hstp] at hst
    have hw8 : cl.length ≤ 8192 ∧ ∀ a o, pc = some (a, o) → h.length < a := ⟨by omega, fun a o q => by have := gr.base a (gr.at q); omega⟩
    have sl9 : Sl ((g.set h.length (O.cells [V.int .i64 j, V.int .i64 (((j + 1) % S.frames.length : Nat) : Int), V.slice pc cl.length cc] .rw)).set h2.length (O.cells [V.int .i64 j, V.int .i64 (((j + 1) % S.frames.length : Nat) : Int), V.slice pc cl.length cc] .rw)) pc 1 ei cl := ((gr.ext eg).keep fun i hi => by
      have := gr.base i hi
      rw [set_other _ (by omega), set_other _ (by omega)]).sl
    have e' : Ext h ((g.set h.length (O.cells [V.int .i64 j, V.int .i64 (((j + 1) % S.frames.length : Nat) : Int), V.slice pc cl.length cc] .rw)).set h2.length (O.cells [V.int .i64 j, V.int .i64 (((j + 1) % S.frames.length : Nat) : Int), V.slice pc cl.length cc] .rw)) := Ext.set (Ext.set (e.trans eg) (Nat.le_refl _) _) (by omega) _
    cases hr : f.ref
    · rw [hr] at hg gx hra
      simp -dsimp (disch := first | with_reducible assumption | omega | (intro h_; cases h_; done) | (simp only [LN] <;> omega) | (simp only [LF]; done) | (repeat (first | with_reducible assumption | apply Ext.refl | apply Ext.app | (apply Ext.set <;> omega) | (refine Ext.trans ?_ (by assumption))))) only [AX, TY, AD, mapPut, entsOf, oneV, builtinV, idsOf, mapId, touchB, Nat.reduceLT, Nat.reduceLeDiff, Nat.reduceEqDiff, Nat.reduceAdd, Nat.reduceMul, Int.reduceBEq, Int.reduceEq, Int.reduceNeg, Int.reduceLT, Int.reduceLE, Int.reduceAdd, Int.reduceSub, Int.reduceMul, Int.reduceToNat, Int.reduceGT, Nat.reduceBEq, Nat.reducePow, Nat.reduceGT, reduceCtorEq, ↓reduceIte, t0, t2, t4, loadN_fact gx, hpin]
      refine W.drawn [(0, []), (1, []), (2, []), (3, [2, 1, 0]), (4, [2, 1, 0]), (5, [2, 1, 0]), (6, [2, 1, 0]), (7, [2, 1, 0]), (8, []), (9, []), (10, [])] (by decide +kernel) ?_
      simp -dsimp (disch := first | with_reducible assumption | omega | (intro h_; cases h_; done) | (simp only [LN] <;> omega) | (simp only [LF]; done) | (repeat (first | with_reducible assumption | apply Ext.refl | apply Ext.app | (apply Ext.set <;> omega) | (refine Ext.trans ?_ (by assumption))))) only [AX, TY, AD, mapPut, entsOf, oneV, builtinV, idsOf, mapId, touchB, Nat.reduceLT, Nat.reduceLeDiff, Nat.reduceEqDiff, Nat.reduceAdd, Nat.reduceMul, Int.reduceBEq, Int.reduceEq, Int.reduceNeg, Int.reduceLT, Int.reduceLE, Int.reduceAdd, Int.reduceSub, Int.reduceMul, Int.reduceToNat, Int.reduceGT, Nat.reduceBEq, Nat.reducePow, Nat.reduceGT, reduceCtorEq, ↓reduceIte, t0, t2, t4, loadN_fact hcb1, loadN_fact gp1, storeN_fact hcb1 (by simp), hn0, hrem, wrap_in, storeN_fact two1 (by simp)]
      exact ⟨e', .inr ⟨t, cl, pc, cc, hfin, by rw [hjj, hsu], sl9, hw8⟩⟩
    · rw [hr] at hg gx hra
      have hin : (j : Int) ∈ cl := hmem.2 (by
        rcases hst.2 with q | q
        · rw [hra] at q; cases q
        · exact q)
      simp -dsimp (disch := first | with_reducible assumption | omega | (intro h_; cases h_; done) | (simp only [LN] <;> omega) | (simp only [LF]; done) | (repeat (first | with_reducible assumption | apply Ext.refl | apply Ext.app | (apply Ext.set <;> omega) | (refine Ext.trans ?_ (by assumption))))) only [AX, TY, AD, mapPut, entsOf, oneV, builtinV, idsOf, mapId, touchB, Nat.reduceLT, Nat.reduceLeDiff, Nat.reduceEqDiff, Nat.reduceAdd, Nat.reduceMul, Int.reduceBEq, Int.reduceEq, Int.reduceNeg, Int.reduceLT, Int.reduceLE, Int.reduceAdd, Int.reduceSub, Int.reduceMul, Int.reduceToNat, Int.reduceGT, Nat.reduceBEq, Nat.reducePow, Nat.reduceGT, reduceCtorEq, ↓reduceIte, t0, t2, t4, loadN_fact gx, hpin, loadN_fact hcb1]
      refine (contains79_ok hcs j).mono ?_
      rintro _ _ ⟨rfl, rfl⟩
      rw [decide_eq_true hin]
      simp -dsimp (disch := first | with_reducible assumption | omega | (intro h_; cases h_; done) | (simp only [LN] <;> omega) | (simp only [LF]; done) | (repeat (first | with_reducible assumption | apply Ext.refl | apply Ext.app | (apply Ext.set <;> omega) | (refine Ext.trans ?_ (by assumption))))) only [AX, TY, AD, mapPut, entsOf, oneV, builtinV, idsOf, mapId, touchB, Nat.reduceLT, Nat.reduceLeDiff, Nat.reduceEqDiff, Nat.reduceAdd, Nat.reduceMul, Int.reduceBEq, Int.reduceEq, Int.reduceNeg, Int.reduceLT, Int.reduceLE, Int.reduceAdd, Int.reduceSub, Int.reduceMul, Int.reduceToNat, Int.reduceGT, Nat.reduceBEq, Nat.reducePow, Nat.reduceGT, reduceCtorEq, ↓reduceIte, t0, t2, t4]
      refine W.drawn [(0, []), (1, []), (2, []), (3, [2, 1, 0]), (4, [2, 1, 0]), (5, [2, 1, 0]), (6, [2, 1, 0]), (7, [2, 1, 0]), (8, []), (9, []), (10, [])] (by decide +kernel) ?_
      simp -dsimp (disch := first | with_reducible assumption | omega | (intro h_; cases h_; done) | (simp only [LN] <;> omega) | (simp only [LF]; done) | (repeat (first | with_reducible assumption | apply Ext.refl | apply Ext.app | (apply Ext.set <;> omega) | (refine Ext.trans ?_ (by assumption))))) only [AX, TY, AD, mapPut, entsOf, oneV, builtinV, idsOf, mapId, touchB, Nat.reduceLT, Nat.reduceLeDiff, Nat.reduceEqDiff, Nat.reduceAdd, Nat.reduceMul, Int.reduceBEq, Int.reduceEq, Int.reduceNeg, Int.reduceLT, Int.reduceLE, Int.reduceAdd, Int.reduceSub, Int.reduceMul, Int.reduceToNat, Int.reduceGT, Nat.reduceBEq, Nat.reducePow, Nat.reduceGT, reduceCtorEq, ↓reduceIte, t0, t2, t4, loadN_fact hcb1, loadN_fact gp1, storeN_fact hcb1 (by simp), hn0, hrem, wrap_in, storeN_fact two1 (by simp)]
      exact ⟨e', .inr ⟨t, cl, pc, cc, hfin, by rw [hjj, hsu], sl9, hw8⟩⟩
  · have hns : ∀ t', t' < t + 1 → ¬ stops S.frames S.hand t' := fun t' h1 => by
      by_cases c : t' = t
      · subst c; exact hst
      · exact no t' (by omega)
    rw [hstp, hpa] at hst
    have hr : f.ref = true := by
      cases hr : f.ref
      · exact absurd ⟨hpin, .inl (by rw [hra, hr])⟩ hst
      · rfl
    rw [hr] at hg gx hra
    have hin : (j : Int) ∉ cl := fun q => hst ⟨hpin, .inr (hmem.1 q)⟩
    have hcl2 : ∀ x : Int, x ∈ cl ++ [(j : Int)] ↔ ∃ t', t' < t + 1 ∧ x = hx S.frames.length S.hand t' ∧ ¬ 0 < pinsAt S.frames (hx S.frames.length S.hand t') := fun x => by
      rw [List.mem_append, List.mem_singleton, cleared]
      constructor
      · rintro (⟨t', h1, h2⟩ | rfl)
        · exact ⟨t', by omega, h2⟩
        · exact ⟨t, by omega, by rw [hjj], by rw [hjj, hpa]; exact hpin⟩
      · rintro ⟨t', h1, h2, h3⟩
        by_cases c : t' = t
        · subst c; rw [hjj] at h2; exact .inr h2
        · exact .inl ⟨t', by omega, h2, h3⟩
    have hcbne : ∀ i, oc = some i → i ≠ h2.length := fun i hi => by have := gr.base i hi; omega
    obtain ⟨p5, c5, o5, h5, hap, g5, ho5, hl5, hk5, hb5⟩ := ((gr.ext eg).ext (hh := g ++ [O.cells (ei j) Kd.rw]) (by (repeat (first | assumption | apply Ext.refl | apply Ext.app | (apply Ext.set <;> omega) | exact Ext.trans (by assumption) (by assumption) | (refine Ext.trans ?_ (by assumption)))))).push (bytes := 8) (vc := some 1) (by simp; omega) (snoc_last _ rfl) rfl rfl (by omega) (by omega)
    simp only [ei] at hap
    have hk5' : ∀ i, oc ≠ some i → i < g.length → h5[i]? = g[i]? := fun i h1 h2 => by rw [hk5 i h1 (by simp; omega), snoc_old _ h2]
    have hcb5 := (hk5' h2.length (fun q => hcbne _ q rfl) (by omega)).trans hcb1
    have gp5 := (hk5' I.pi (fun q => by have := gr.base _ q; omega) (by omega)).trans gp1
    have two5 := (hk5' h.length (fun q => by have := gr.base _ q; omega) (by omega)).trans two1
    have hcb5l := lt_of_some hcb5
    have e5 : Ext h h5 := Ext.below (h := g ++ [O.cells (ei j) Kd.rw]) (by (repeat (first | assumption | apply Ext.refl | apply Ext.app | (apply Ext.set <;> omega) | exact Ext.trans (by assumption) (by assumption) | (refine Ext.trans ?_ (by assumption))))) (Nat.le_refl _) fun i hi => hb5 i (by omega)
    simp -dsimp (disch := first | with_reducible assumption | omega | (intro h_; cases h_; done) | (simp only [LN] <;> omega) | (simp only [LF]; done) | (repeat (first | with_reducible assumption | apply Ext.refl | apply Ext.app | (apply Ext.set <;> omega) | (refine Ext.trans ?_ (by assumption))))) only [AX, TY, AD, mapPut, entsOf, oneV, builtinV, idsOf, mapId, touchB, Nat.reduceLT, Nat.reduceLeDiff, Nat.reduceEqDiff, Nat.reduceAdd, Nat.reduceMul, Int.reduceBEq, Int.reduceEq, Int.reduceNeg, Int.reduceLT, Int.reduceLE, Int.reduceAdd, Int.reduceSub, Int.reduceMul, Int.reduceToNat, Int.reduceGT, Nat.reduceBEq, Nat.reducePow, Nat.reduceGT, reduceCtorEq, ↓reduceIte, t0, t2, t4, loadN_fact gx, hpin, loadN_fact hcb1]
    refine (contains79_ok hcs j).mono ?_
    rintro _ _ ⟨rfl, rfl⟩
    rw [decide_eq_false hin]
    have hcb6 := set_same (h := h5) (i := h2.length) (O.cells [V.int .i64 j, V.int .i64 0, V.slice p5 (cl.length + 1) c5] .rw) hcb5l
    have gp6 := (set_other (h := h5) (i := h2.length) (j := I.pi) (O.cells [V.int .i64 j, V.int .i64 0, V.slice p5 (cl.length + 1) c5] .rw) (by omega)).trans gp5
    simp -dsimp (disch := first | with_reducible assumption | omega | (intro h_; cases h_; done) | (simp only [LN] <;> omega) | (simp only [LF]; done) | (repeat (first | with_reducible assumption | apply Ext.refl | apply Ext.app | (apply Ext.set <;> omega) | (refine Ext.trans ?_ (by assumption))))) only [AX, TY, AD, mapPut, entsOf, oneV, builtinV, idsOf, mapId, touchB, Nat.reduceLT, Nat.reduceLeDiff, Nat.reduceEqDiff, Nat.reduceAdd, Nat.reduceMul, Int.reduceBEq, Int.reduceEq, Int.reduceNeg, Int.reduceLT, Int.reduceLE, Int.reduceAdd, Int.reduceSub, Int.reduceMul, Int.reduceToNat, Int.reduceGT, Nat.reduceBEq, Nat.reducePow, Nat.reduceGT, reduceCtorEq, ↓reduceIte, t0, t2, t4, loadN_fact hcb1, hap, storeN_fact hcb5 (by simp)]
    refine W.drawn [(0, []), (1, []), (2, []), (3, [2, 1, 0]), (4, [2, 1, 0]), (5, [2, 1, 0]), (6, [2, 1, 0]), (7, [2, 1, 0]), (8, []), (9, []), (10, [])] (by decide +kernel) ?_
    simp -dsimp (disch := first | with_reducible assumption | omega | (intro h_; cases h_; done) | (simp only [LN] <;> omega) | (simp only [LF]; done) | (repeat (first | with_reducible assumption | apply Ext.refl | apply Ext.app | (apply Ext.set <;> omega) | (refine Ext.trans ?_ (by assumption))))) only [AX, TY, AD, mapPut, entsOf, oneV, builtinV, idsOf, mapId, touchB, Nat.reduceLT, Nat.reduceLeDiff, Nat.reduceEqDiff, Nat.reduceAdd, Nat.reduceMul, Int.reduceBEq, Int.reduceEq, Int.reduceNeg, Int.reduceLT, Int.reduceLE, Int.reduceAdd, Int.reduceSub, Int.reduceMul, Int.reduceToNat, Int.reduceGT, Nat.reduceBEq, Nat.reducePow, Nat.reduceGT, reduceCtorEq, ↓reduceIte, t0, t2, t4, loadN_fact hcb6, loadN_fact gp6, storeN_fact hcb6 (by simp), hn0, hrem, wrap_in]
    have e6 : Ext h (h5.set h2.length (O.cells [V.int .i64 (((j + 1) % S.frames.length : Nat) : Int), V.int .i64 0, V.slice p5 (cl.length + 1) c5] .rw)) := Ext.set e5 (by omega) _
    refine ⟨m - 1, by omega, t + 1, cl ++ [(j : Int)], by omega, ?_⟩
    constructor <;> (try first | assumption | ((repeat (first | assumption | apply Ext.refl | apply Ext.app | (apply Ext.set <;> omega) | exact Ext.trans (by assumption) (by assumption) | (refine Ext.trans ?_ (by assumption)))); done) | (refine Sl.ext (by assumption) ?_; (repeat (first | assumption | apply Ext.refl | apply Ext.app | (apply Ext.set <;> omega) | exact Ext.trans (by assumption) (by assumption) | (refine Ext.trans ?_ (by assumption)))); done) | (simp -dsimp (disch := first | with_reducible assumption | omega | (intro h_; cases h_; done) | (simp only [LN] <;> omega) | (simp only [LF]; done) | (repeat (first | with_reducible assumption | apply Ext.refl | apply Ext.app | (apply Ext.set <;> omega) | (refine Ext.trans ?_ (by assumption))))) only [AX, TY, AD, mapPut, entsOf, oneV, builtinV, idsOf, mapId, touchB, Nat.reduceLT, Nat.reduceLeDiff, Nat.reduceEqDiff, Nat.reduceAdd, Nat.reduceMul, Int.reduceBEq, Int.reduceEq, Int.reduceNeg, Int.reduceLT, Int.reduceLE, Int.reduceAdd, Int.reduceSub, Int.reduceMul, Int.reduceToNat, Int.reduceGT, Nat.reduceBEq, Nat.reducePow, Nat.reduceGT, reduceCtorEq, ↓reduceIte, t0, t2, t4, Int.natCast_add, Int.natCast_one, Int.natCast_zero]; try (first | assumption | with_reducible rfl)))
    · exact ⟨0, two5, rfl⟩
    · refine ⟨p5, c5, o5, ?_, g5.keep fun i hi => set_other _ fun q => ?_⟩
      · rw [hsu]
      · have := g5.base i hi; omega
    · exact ⟨by omega, by omega⟩
end Go.Proofs.YtmjfhckioaempaaA
