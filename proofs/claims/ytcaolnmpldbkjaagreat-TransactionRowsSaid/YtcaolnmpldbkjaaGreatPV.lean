/- Words of this session: chapter 47: sorting versions: merging by rotation; slices.SortStableFunc. Words of this session: chapter 47: slices.SortStableFunc of versions. -/
import Derived.Test.YtcaolnmpldbkjaaGreatPT
namespace Go.Proofs.YtcaolnmpldbkjaaGreatA
open Go Go.Proofs Go.RowKit
set_option linter.unusedVariables false
set_option linter.unusedSimpArgs false
set_option maxRecDepth 10000
set_option maxHeartbeats 4000000
theorem shr1 (t : TypeId) (x y : Operand) (n : Nat) : binV Tryz.prog .shr t x y (.int .u64 (n : Int)) (.int .u64 1) = some (.int .u64 ((n / 2 : Nat) : Int)) := by
  show shiftV .shr .u64 (n : Int) 1 = _
  unfold shiftV
  rw [if_neg (by omega)]
  simp only [show min (1 : Int).toNat IntKind.u64.bits = 1 from rfl]
  rw [Int.fdiv_eq_ediv_of_nonneg _ (by omega)]
  simp
theorem Rot.triv {α : Type} {ys : List α} {a m b : Nat} (h1 : a ≤ m) (h2 : m ≤ b) (h : a = m ∨ m = b) : Rot ys ys a m b := ⟨.refl _, fun k => by
  congr 1
  unfold rot
  repeat' split
  all_goals omega⟩
theorem rot_up {α : Type} {ys zs : List α} {a k : Nat} (hak : a ≤ k) (hl : k + 1 < zs.length) (r : Rot ys zs a (a + 1) (k + 1)) : Rot ys (sw zs k (k + 1)) a (a + 1) (k + 2) := by
  refine ⟨(sw_perm _ _ _).trans r.perm, fun n => ?_⟩
  rw [sw_get (by omega) hl]
  by_cases c1 : n = k + 1
  · rw [if_pos c1, r.at']
    congr 1
    unfold rot
    repeat' split
    all_goals omega
  · rw [if_neg c1]
    by_cases c2 : n = k
    · rw [if_pos c2, r.at']
      congr 1
      unfold rot
      repeat' split
      all_goals omega
    · rw [if_neg c2, r.at']
      congr 1
      unfold rot
      repeat' split
      all_goals omega
theorem rot_dn {α : Type} {ys zs : List α} {m k : Nat} (hk : k ≤ m) (h0 : 1 ≤ k) (hl : m < zs.length) (r : Rot ys zs k m (m + 1)) : Rot ys (sw zs k (k - 1)) (k - 1) m (m + 1) := by
  refine ⟨(sw_perm _ _ _).trans r.perm, fun n => ?_⟩
  rw [sw_get (by omega) (by omega)]
  by_cases c1 : n = k - 1
  · rw [if_pos c1, r.at']
    congr 1
    unfold rot
    repeat' split
    all_goals omega
  · rw [if_neg c1]
    by_cases c2 : n = k
    · rw [if_pos c2, r.at']
      congr 1
      unfold rot
      repeat' split
      all_goals omega
    · rw [if_neg c2, r.at']
      congr 1
      unfold rot
      repeat' split
      all_goals omega
section
variable {α : Type} {le : α → α → Prop} {ys zs : List α}
theorem asc_one1 (tr : ∀ x y z : α, le x y → le y z → le x z) {a i e : Nat} (h1 : a + 1 ≤ i) (h2 : i ≤ e) (he : e ≤ ys.length) (hy : AscI le ys (a + 1) e) (r : Rot ys zs a (a + 1) i)
    (g1 : i = a + 1 ∨ ∀ x y, ys[i - 1]? = some x → ys[a]? = some y → le x y) (g2 : i = e ∨ ∀ x y, ys[a]? = some x → ys[i]? = some y → le x y) : AscI le zs a e := by
  intro k n x y k1 kn ne hx hy'
  rw [r.at'] at hx hy'
  have get : ∀ k, k < ys.length → ∃ x, ys[k]? = some x := fun k hk => ⟨_, List.getElem?_eq_getElem hk⟩
  unfold rot at hx hy'
  rw [if_neg (by omega)] at hx hy'
  by_cases c1 : k < i - 1
  · rw [if_pos (by omega)] at hx
    by_cases c2 : n < i - 1
    · rw [if_pos (by omega)] at hy'
      exact hy _ _ x y (by omega) (by omega) (by omega) hx hy'
    · rw [if_neg (by omega)] at hy'
      by_cases c3 : n < i
      · rw [if_pos c3] at hy'
        rcases g1 with g | g
        · omega
        · obtain ⟨u, hu⟩ := get (i - 1) (by omega)
          have e1 : n - (i - (a + 1)) = a := by omega
          rw [e1] at hy'
          by_cases c4 : k + 1 = i - 1
          · rw [show k + (a + 1 - a) = i - 1 by omega] at hx
            exact g x y hx hy'
          · exact tr _ _ _ (hy (k + (a + 1 - a)) (i - 1) x u (by omega) (by omega) (by omega) hx hu) (g u y hu hy')
      · rw [if_neg c3] at hy'
        exact hy _ _ x y (by omega) (by omega) ne hx hy'
  · rw [if_neg (by omega)] at hx
    by_cases c2 : k < i
    · rw [if_pos c2, show k - (i - (a + 1)) = a by omega] at hx
      rw [if_neg (by omega), if_neg (by omega)] at hy'
      rcases g2 with g | g
      · omega
      · obtain ⟨u, hu⟩ := get i (by omega)
        by_cases c4 : n = i
        · rw [c4] at hy'; exact g x y hx hy'
        · exact tr _ _ _ (g x u hx hu) (hy i n u y (by omega) (by omega) ne hu hy')
    · rw [if_neg c2] at hx
      rw [if_neg (by omega), if_neg (by omega)] at hy'
      exact hy k n x y (by omega) kn ne hx hy'
theorem asc_one2 (tr : ∀ x y z : α, le x y → le y z → le x z) {a i m : Nat} (h1 : a ≤ i) (h2 : i ≤ m) (he : m + 1 ≤ ys.length) (hx0 : AscI le ys a m) (r : Rot ys zs i m (m + 1))
    (g1 : i = a ∨ ∀ x y, ys[i - 1]? = some x → ys[m]? = some y → le x y) (g2 : i = m ∨ ∀ x y, ys[m]? = some x → ys[i]? = some y → le x y) : AscI le zs a (m + 1) := by
  intro k n x y k1 kn ne hx hy'
  rw [r.at'] at hx hy'
  have get : ∀ k, k < ys.length → ∃ x, ys[k]? = some x := fun k hk => ⟨_, List.getElem?_eq_getElem hk⟩
  unfold rot at hx hy'
  by_cases c1 : k < i
  · rw [if_pos c1] at hx
    by_cases c2 : n < i
    · rw [if_pos c2] at hy'
      exact hx0 k n x y k1 kn (by omega) hx hy'
    · rw [if_neg c2] at hy'
      by_cases c3 : n = i
      · rw [if_pos (by omega), show n + (m - i) = m by omega] at hy'
        rcases g1 with g | g
        · omega
        · obtain ⟨u, hu⟩ := get (i - 1) (by omega)
          by_cases c4 : k = i - 1
          · rw [c4] at hx; exact g x y hx hy'
          · exact tr _ _ _ (hx0 k (i - 1) x u k1 (by omega) (by omega) hx hu) (g u y hu hy')
      · rw [if_neg (by omega), if_pos (by omega)] at hy'
        exact hx0 k _ x y k1 (by omega) (by omega) hx hy'
  · rw [if_neg c1] at hx
    rw [if_neg (by omega), if_neg (by omega), if_pos (by omega)] at hy'
    by_cases c3 : k = i
    · rw [if_pos (by omega), show k + (m - i) = m by omega] at hx
      rcases g2 with g | g
      · omega
      · obtain ⟨u, hu⟩ := get i (by omega)
        by_cases c4 : n - (m + 1 - m) = i
        · rw [c4] at hy'; exact g x y hx hy'
        · exact tr _ _ _ (g x u hx hu) (hx0 i _ u y (by omega) (by omega) (by omega) hu hy')
    · rw [if_neg (by omega), if_pos (by omega)] at hx
      exact hx0 _ _ x y (by omega) (by omega) (by omega) hx hy'
/-- The parts after the rotation. -/
theorem rot_parts {s m e : Nat} (h1 : s ≤ m) (h2 : m ≤ e) (r : Rot ys zs s m e) : (∀ a, AscI le ys a m → AscI le zs a s) ∧ (∀ e', e ≤ e' → AscI le ys m e' → AscI le zs s (s + (e - m))) ∧ (∀ a, a ≤ s → AscI le ys a m → AscI le zs (s + (e - m)) e) ∧ (∀ e', AscI le ys m e' → AscI le zs e e') := by
  refine ⟨fun a q i j x y g1 g2 g3 hx hy => ?_, fun e' he q i j x y g1 g2 g3 hx hy => ?_, fun a ha q i j x y g1 g2 g3 hx hy => ?_, fun e' q i j x y g1 g2 g3 hx hy => ?_⟩ <;> rw [r.at'] at hx hy <;> unfold rot at hx hy
  · rw [if_pos (by omega)] at hx hy
    exact q i j x y g1 g2 (by omega) hx hy
  · rw [if_neg (by omega), if_pos (by omega)] at hx hy
    exact q _ _ x y (by omega) (by omega) (by omega) hx hy
  · rw [if_neg (by omega), if_neg (by omega), if_pos (by omega)] at hx hy
    exact q _ _ x y (by omega) (by omega) (by omega) hx hy
  · rw [if_neg (by omega), if_neg (by omega), if_neg (by omega)] at hx hy
    exact q i j x y (by omega) g2 g3 hx hy
end
theorem sym_ok (N : Nat) : ∀ {b : Nat} {h : Heap} {p : Option (Nat × Nat)} {c oid : Option Nat} {ys : List Ver} (g : Gr b h p c oid 5 Ver.enc ys) (hB : ys.length ≤ 100000) {a m e : Nat} (hN : e - a ≤ N) (h1 : a < m) (h2 : m < e) (h3 : e ≤ ys.length) (hx : AscI leV ys a m) (hy : AscI leV ys m e),
    WR (callE Tryz.prog hk 91 [.slice p ys.length c, .int .i64 a, .int .i64 m, .int .i64 e, .func 33 [] []] h) fun r h' => ∃ zs, Ch ys zs a e ∧ AscI leV zs a e ∧ GK b h p c oid zs h' := by
  induction N with
  | zero => intro b h p c oid ys g hB a m e hN h1 h2; omega
  | succ N ih =>
  intro b h p c oid ys g hB a m e hN h1 h2 h3 hx hy
  have hl := g.sl.small
  have hn := g.sl.nil'
  have get : ∀ k (hk : k < ys.length), ys[k]? = some ys[k] := fun k hk => List.getElem?_eq_getElem hk
  have tk : ∀ v : Ver, v.enc.take 5 = v.enc := fun _ => rfl
  have hf1 : ∀ v : Ver, (V.agg v.enc).flat = v.enc := fun _ => rfl
  have hf2 : ∀ v : Ver, v.enc.length = 5 := fun _ => rfl
  have hw1 : IntKind.i64.wrap ((m : Int) - (a : Int)) = ((m - a : Nat) : Int) := by rw [IntKind.wrap_i64]; omega
  have hw2 : IntKind.i64.wrap ((e : Int) - (m : Int)) = ((e - m : Nat) : Int) := by rw [IntKind.wrap_i64]; omega
  refine WR.call (hH := rfl) Tryz.func91 rfl (n := 220) rfl rfl (by simp) ?_
  by_cases c1 : ((m - a : Nat) : Int) = 1
  · have hma : m = a + 1 := by omega
    simp -dsimp (disch := first | with_reducible assumption | omega | (intro h_; cases h_; done) | (simp only [LN] <;> omega) | (simp only [LF]; done) | (repeat (first | with_reducible assumption | apply Ext.refl | apply Ext.app | (apply Ext.set <;> omega) | (refine Ext.trans ?_ (by assumption))))) only [AX, TY, AD, mapPut, entsOf, oneV, builtinV, idsOf, mapId, touchB, Nat.reduceLT, Nat.reduceLeDiff, Nat.reduceEqDiff, Nat.reduceAdd, Nat.reduceMul, Int.reduceBEq, Int.reduceEq, Int.reduceNeg, Int.reduceLT, Int.reduceLE, Int.reduceAdd, Int.reduceSub, Int.reduceMul, Int.reduceToNat, Int.reduceGT, Nat.reduceBEq, Nat.reducePow, Nat.reduceGT, reduceCtorEq, ↓reduceIte, hw1, c1]
    refine W.loop (fun n τ hh => ∃ (i j : Nat), n = j - i ∧ m ≤ i ∧ i ≤ j ∧ j ≤ e ∧ τ 0 = .slice p ys.length c ∧ τ 1 = .int .i64 a ∧ τ 4 = .func 33 [] [] ∧ τ 10 = .int .i64 i ∧ τ 11 = .int .i64 j ∧ (i = m ∨ ∀ x y, ys[i - 1]? = some x → ys[a]? = some y → leV x y) ∧ (j = e ∨ ∀ x y, ys[a]? = some x → ys[j]? = some y → leV x y) ∧ GK b h p c oid ys hh) ?_ (m := e - m) ?_
    rotate_left
    · refine ⟨m, e, rfl, Nat.le_refl _, by omega, Nat.le_refl _, ?_⟩
      have h2 := GK.refl g
      have h4 : m = m ∨ ∀ x y, ys[m - 1]? = some x → ys[a]? = some y → leV x y := .inl rfl
      have h5 : e = e ∨ ∀ x y, ys[a]? = some x → ys[e]? = some y → leV x y := .inl rfl
      simp -dsimp (disch := first | with_reducible assumption | omega | (intro h_; cases h_; done) | (simp only [LN] <;> omega) | (simp only [LF]; done) | (repeat (first | with_reducible assumption | apply Ext.refl | apply Ext.app | (apply Ext.set <;> omega) | (refine Ext.trans ?_ (by assumption))))) only [AX, TY, AD, mapPut, entsOf, oneV, builtinV, idsOf, mapId, touchB, Nat.reduceLT, Nat.reduceLeDiff, Nat.reduceEqDiff, Nat.reduceAdd, Nat.reduceMul, Int.reduceBEq, Int.reduceEq, Int.reduceNeg, Int.reduceLT, Int.reduceLE, Int.reduceAdd, Int.reduceSub, Int.reduceMul, Int.reduceToNat, Int.reduceGT, Nat.reduceBEq, Nat.reducePow, Nat.reduceGT, reduceCtorEq, ↓reduceIte]
      repeat' (first | assumption | refine And.intro ?_ ?_)
      all_goals first | rfl | omega | (simp; done) | (simp; omega; done) | skip
    rintro n τ hh ⟨i, j, rfl, hi1, hij, hj1, t0, t1, t4, t10, t11, gi, gj, gk⟩
    by_cases c2 : (i : Int) < (j : Int)
    · have hmid : (i + j) / 2 < ys.length := by omega
      have hwm1 : IntKind.i64.wrap ((i : Int) + (j : Int)) = ((i + j : Nat) : Int) := by rw [IntKind.wrap_i64]; omega
      have hwm2 : IntKind.u64.wrap ((i + j : Nat) : Int) = ((i + j : Nat) : Int) := by simp [IntKind.wrap, IntKind.bits, IntKind.signed]; omega
      have hwm3 : IntKind.i64.wrap (((i + j) / 2 : Nat) : Int) = (((i + j) / 2 : Nat) : Int) := by rw [IntKind.wrap_i64]; omega
      have hshr := fun t x y => shr1 t x y (i + j)
      generalize hmd : (i + j) / 2 = mid at hmid hwm3
      rw [hmd] at hshr
      have hal : a < ys.length := by omega
      have hla := gk.gr.sl.load0 (.refl _) hmid (m := 5) (by decide)
      have hlb := gk.gr.sl.load0 (.refl _) hal (m := 5) (by decide)
      rw [tk] at hla hlb
      have hi1' : (mid : Int) < (ys.length : Int) := by omega
      have hi2' : (a : Int) < (ys.length : Int) := by omega
      have hby : ∀ hq, WR (callE Tryz.prog hk 33 [.agg (Ver.enc ys[mid]), .agg (Ver.enc ys[a])] hq) fun r h' => Ext hq h' ∧ r = .int .i64 (Ver.cmp ys[mid] ys[a]) := fun hq => byID_ok _ _
      simp -dsimp (disch := first | with_reducible assumption | omega | (intro h_; cases h_; done) | (simp only [LN] <;> omega) | (simp only [LF]; done) | (repeat (first | with_reducible assumption | apply Ext.refl | apply Ext.app | (apply Ext.set <;> omega) | (refine Ext.trans ?_ (by assumption))))) only [AX, TY, AD, mapPut, entsOf, oneV, builtinV, idsOf, mapId, touchB, Nat.reduceLT, Nat.reduceLeDiff, Nat.reduceEqDiff, Nat.reduceAdd, Nat.reduceMul, Int.reduceBEq, Int.reduceEq, Int.reduceNeg, Int.reduceLT, Int.reduceLE, Int.reduceAdd, Int.reduceSub, Int.reduceMul, Int.reduceToNat, Int.reduceGT, Nat.reduceBEq, Nat.reducePow, Nat.reduceGT, reduceCtorEq, ↓reduceIte, t0, t1, t4, t10, t11, c2, hwm1, hwm2, hwm3, hshr]
      refine W.drawn [(0, []), (1, [0]), (2, [1, 0]), (3, [0]), (4, [0]), (5, [4, 3, 2, 1, 0]), (6, [5, 4, 3, 2, 1, 0]), (7, [4, 3, 2, 1, 0]), (8, [4, 3, 2, 1, 0]), (9, []), (10, [])] (by decide +kernel) ?_
      simp -dsimp (disch := first | with_reducible assumption | omega | (intro h_; cases h_; done) | (simp only [LN] <;> omega) | (simp only [LF]; done) | (repeat (first | with_reducible assumption | apply Ext.refl | apply Ext.app | (apply Ext.set <;> omega) | (refine Ext.trans ?_ (by assumption))))) only [AX, TY, AD, mapPut, entsOf, oneV, builtinV, idsOf, mapId, touchB, Nat.reduceLT, Nat.reduceLeDiff, Nat.reduceEqDiff, Nat.reduceAdd, Nat.reduceMul, Int.reduceBEq, Int.reduceEq, Int.reduceNeg, Int.reduceLT, Int.reduceLE, Int.reduceAdd, Int.reduceSub, Int.reduceMul, Int.reduceToNat, Int.reduceGT, Nat.reduceBEq, Nat.reducePow, Nat.reduceGT, reduceCtorEq, ↓reduceIte, t0, t1, t4, t10, t11, hi1', hi2', hla, hlb]
      refine (hby _).mono ?_
      rintro _ h4 ⟨e4, rfl⟩
      have gk4 := gk.ext e4
      by_cases c3 : Ver.cmp ys[mid] ys[a] < 0
      · have hw4 : IntKind.i64.wrap ((mid : Int) + 1) = ((mid + 1 : Nat) : Int) := by rw [IntKind.wrap_i64]; omega
        have gi' : mid + 1 = m ∨ ∀ x y, ys[mid + 1 - 1]? = some x → ys[a]? = some y → leV x y := .inr fun x y q1 q2 => by
          rw [show mid + 1 - 1 = mid by omega, get _ hmid] at q1; rw [get _ hal] at q2; cases q1; cases q2; exact leV_of_lt c3
        simp -dsimp (disch := first | with_reducible assumption | omega | (intro h_; cases h_; done) | (simp only [LN] <;> omega) | (simp only [LF]; done) | (repeat (first | with_reducible assumption | apply Ext.refl | apply Ext.app | (apply Ext.set <;> omega) | (refine Ext.trans ?_ (by assumption))))) only [AX, TY, AD, mapPut, entsOf, oneV, builtinV, idsOf, mapId, touchB, Nat.reduceLT, Nat.reduceLeDiff, Nat.reduceEqDiff, Nat.reduceAdd, Nat.reduceMul, Int.reduceBEq, Int.reduceEq, Int.reduceNeg, Int.reduceLT, Int.reduceLE, Int.reduceAdd, Int.reduceSub, Int.reduceMul, Int.reduceToNat, Int.reduceGT, Nat.reduceBEq, Nat.reducePow, Nat.reduceGT, reduceCtorEq, ↓reduceIte, t0, t1, t4, t10, t11, c3, hw4]
        refine ⟨j - (mid + 1), by omega, mid + 1, j, ?_⟩
        repeat' (first | assumption | refine And.intro ?_ ?_)
        all_goals first | rfl | omega | (simp; done) | (simp; omega; done) | skip
      · have gj' : mid = e ∨ ∀ x y, ys[a]? = some x → ys[mid]? = some y → leV x y := .inr fun x y q1 q2 => by
          rw [get _ hal] at q1; rw [get _ hmid] at q2; cases q1; cases q2; exact leV_of_ge c3
        simp -dsimp (disch := first | with_reducible assumption | omega | (intro h_; cases h_; done) | (simp only [LN] <;> omega) | (simp only [LF]; done) | (repeat (first | with_reducible assumption | apply Ext.refl | apply Ext.app | (apply Ext.set <;> omega) | (refine Ext.trans ?_ (by assumption))))) only [AX, TY, AD, mapPut, entsOf, oneV, builtinV, idsOf, mapId, touchB, Nat.reduceLT, Nat.reduceLeDiff, Nat.reduceEqDiff, Nat.reduceAdd, Nat.reduceMul, Int.reduceBEq, Int.reduceEq, Int.reduceNeg, Int.reduceLT, Int.reduceLE, Int.reduceAdd, Int.reduceSub, Int.reduceMul, Int.reduceToNat, Int.reduceGT, Nat.reduceBEq, Nat.reducePow, Nat.reduceGT, reduceCtorEq, ↓reduceIte, t0, t1, t4, t10, t11, c3]
        refine ⟨mid - i, by omega, i, mid, ?_⟩
        repeat' (first | assumption | refine And.intro ?_ ?_)
        all_goals first | rfl | omega | (simp; done) | (simp; omega; done) | skip
    have hij' : i = j := by omega
    subst hij'
    have hw5 : IntKind.i64.wrap ((i : Int) - 1) = ((i - 1 : Nat) : Int) := by rw [IntKind.wrap_i64]; omega
    simp -dsimp (disch := first | with_reducible assumption | omega | (intro h_; cases h_; done) | (simp only [LN] <;> omega) | (simp only [LF]; done) | (repeat (first | with_reducible assumption | apply Ext.refl | apply Ext.app | (apply Ext.set <;> omega) | (refine Ext.trans ?_ (by assumption))))) only [AX, TY, AD, mapPut, entsOf, oneV, builtinV, idsOf, mapId, touchB, Nat.reduceLT, Nat.reduceLeDiff, Nat.reduceEqDiff, Nat.reduceAdd, Nat.reduceMul, Int.reduceBEq, Int.reduceEq, Int.reduceNeg, Int.reduceLT, Int.reduceLE, Int.reduceAdd, Int.reduceSub, Int.reduceMul, Int.reduceToNat, Int.reduceGT, Nat.reduceBEq, Nat.reducePow, Nat.reduceGT, reduceCtorEq, ↓reduceIte, t0, t1, t4, t10, t11, c2]
    refine W.loop (fun n τ hh => ∃ (k : Nat) (zs : List Ver), n = i - 1 - k ∧ a ≤ k ∧ k ≤ i - 1 ∧ τ 0 = .slice p ys.length c ∧ τ 10 = .int .i64 i ∧ τ 13 = .int .i64 k ∧ Rot ys zs a (a + 1) (k + 1) ∧ GK b h p c oid zs hh) ?_ (m := i - 1 - a) ?_
    rotate_left
    · refine ⟨a, ys, rfl, Nat.le_refl _, by omega, ?_⟩
      have h4 : Rot ys ys a (a + 1) (a + 1) := .triv (by omega) (by omega) (.inr rfl)
      simp -dsimp (disch := first | with_reducible assumption | omega | (intro h_; cases h_; done) | (simp only [LN] <;> omega) | (simp only [LF]; done) | (repeat (first | with_reducible assumption | apply Ext.refl | apply Ext.app | (apply Ext.set <;> omega) | (refine Ext.trans ?_ (by assumption))))) only [AX, TY, AD, mapPut, entsOf, oneV, builtinV, idsOf, mapId, touchB, Nat.reduceLT, Nat.reduceLeDiff, Nat.reduceEqDiff, Nat.reduceAdd, Nat.reduceMul, Int.reduceBEq, Int.reduceEq, Int.reduceNeg, Int.reduceLT, Int.reduceLE, Int.reduceAdd, Int.reduceSub, Int.reduceMul, Int.reduceToNat, Int.reduceGT, Nat.reduceBEq, Nat.reducePow, Nat.reduceGT, reduceCtorEq, ↓reduceIte, t0, t1, t4, t10, t11]
      repeat' (first | assumption | refine And.intro ?_ ?_)
      all_goals first | rfl | omega | (simp; done) | (simp; omega; done) | skip
    clear t0 t1 t4 t10 t11
    rintro n τ2 hh2 ⟨k, zs, rfl, hak, hki, t0, t10, t13, hr, gk2⟩
    have hzl := hr.perm.length_eq
    by_cases c4 : (k : Int) < ((i - 1 : Nat) : Int)
    · have hk1 : k < zs.length := by omega
      have hk2 : k + 1 < zs.length := by omega
      have hla := gk2.gr.sl.load0 (.refl _) hk1 (m := 5) (by decide)
      have hlb := gk2.gr.sl.load0 (.refl _) hk2 (m := 5) (by decide)
      rw [tk] at hla hlb
      obtain ⟨h5, h6, hst, hst2, gk6, hl5, hl6⟩ := gk2.swap hk1 hk2
      have hi1' : (k : Int) < (ys.length : Int) := by omega
      have hi2' : ((k + 1 : Nat) : Int) < (ys.length : Int) := by omega
      have hw6 : IntKind.i64.wrap ((k : Int) + 1) = ((k + 1 : Nat) : Int) := by rw [IntKind.wrap_i64]; omega
      have hr2 := rot_up hak hk2 hr
      simp -dsimp (disch := first | with_reducible assumption | omega | (intro h_; cases h_; done) | (simp only [LN] <;> omega) | (simp only [LF]; done) | (repeat (first | with_reducible assumption | apply Ext.refl | apply Ext.app | (apply Ext.set <;> omega) | (refine Ext.trans ?_ (by assumption))))) only [AX, TY, AD, mapPut, entsOf, oneV, builtinV, idsOf, mapId, touchB, Nat.reduceLT, Nat.reduceLeDiff, Nat.reduceEqDiff, Nat.reduceAdd, Nat.reduceMul, Int.reduceBEq, Int.reduceEq, Int.reduceNeg, Int.reduceLT, Int.reduceLE, Int.reduceAdd, Int.reduceSub, Int.reduceMul, Int.reduceToNat, Int.reduceGT, Nat.reduceBEq, Nat.reducePow, Nat.reduceGT, reduceCtorEq, ↓reduceIte, t0, t10, t13, hw5, c4]
      refine W.drawn [(0, []), (1, [0]), (2, [1, 0]), (3, [2, 1, 0]), (4, [2, 1, 0]), (5, [4, 3, 2, 1, 0]), (6, [5, 4, 3, 2, 1, 0]), (7, [5, 4, 3, 2, 1, 0]), (8, [4, 3, 2, 1, 0]), (9, [4, 3, 2, 1, 0]), (10, [9, 8, 7, 6, 5, 4, 3, 2, 1, 0]), (11, [10, 9, 8, 7, 6, 5, 4, 3, 2, 1, 0]), (12, [9, 8, 7, 6, 5, 4, 3, 2, 1, 0]), (13, [9, 8, 7, 6, 5, 4, 3, 2, 1, 0]), (14, [4, 3, 2]), (15, [4, 3, 2]), (16, []), (17, [])] (by decide +kernel) ?_
      simp -dsimp (disch := first | with_reducible assumption | omega | (intro h_; cases h_; done) | (simp only [LN] <;> omega) | (simp only [LF]; done) | (repeat (first | with_reducible assumption | apply Ext.refl | apply Ext.app | (apply Ext.set <;> omega) | (refine Ext.trans ?_ (by assumption))))) only [AX, TY, AD, mapPut, entsOf, oneV, builtinV, idsOf, mapId, touchB, Nat.reduceLT, Nat.reduceLeDiff, Nat.reduceEqDiff, Nat.reduceAdd, Nat.reduceMul, Int.reduceBEq, Int.reduceEq, Int.reduceNeg, Int.reduceLT, Int.reduceLE, Int.reduceAdd, Int.reduceSub, Int.reduceMul, Int.reduceToNat, Int.reduceGT, Nat.reduceBEq, Nat.reducePow, Nat.reduceGT, reduceCtorEq, ↓reduceIte, t0, t10, t13, hw6, hi1', hi2', hla, hlb, hst, hst2, hf1, hf2]
      refine ⟨i - 1 - (k + 1), by omega, k + 1, sw zs k (k + 1), ?_⟩
      repeat' (first | assumption | refine And.intro ?_ ?_)
      all_goals first | rfl | omega | (simp; done) | (simp; omega; done) | skip
    · simp -dsimp (disch := first | with_reducible assumption | omega | (intro h_; cases h_; done) | (simp only [LN] <;> omega) | (simp only [LF]; done) | (repeat (first | with_reducible assumption | apply Ext.refl | apply Ext.app | (apply Ext.set <;> omega) | (refine Ext.trans ?_ (by assumption))))) only [AX, TY, AD, mapPut, entsOf, oneV, builtinV, idsOf, mapId, touchB, Nat.reduceLT, Nat.reduceLeDiff, Nat.reduceEqDiff, Nat.reduceAdd, Nat.reduceMul, Int.reduceBEq, Int.reduceEq, Int.reduceNeg, Int.reduceLT, Int.reduceLE, Int.reduceAdd, Int.reduceSub, Int.reduceMul, Int.reduceToNat, Int.reduceGT, Nat.reduceBEq, Nat.reducePow, Nat.reduceGT, reduceCtorEq, ↓reduceIte, t0, t10, t13, hw5, c4]
      have hki' : k + 1 = i := by omega
      rw [hki'] at hr
      subst hma
      refine ⟨zs, ⟨hr.perm, fun n hn' => ?_⟩, asc_one1 leV_tr hi1 hj1 h3 hy hr gi gj, gk2⟩
      rw [hr.at']
      congr 1
      unfold rot
      repeat' split
      all_goals omega
  by_cases c5 : ((e - m : Nat) : Int) = 1
  · have hem : e = m + 1 := by omega
    simp -dsimp (disch := first | with_reducible assumption | omega | (intro h_; cases h_; done) | (simp only [LN] <;> omega) | (simp only [LF]; done) | (repeat (first | with_reducible assumption | apply Ext.refl | apply Ext.app | (apply Ext.set <;> omega) | (refine Ext.trans ?_ (by assumption))))) only [AX, TY, AD, mapPut, entsOf, oneV, builtinV, idsOf, mapId, touchB, Nat.reduceLT, Nat.reduceLeDiff, Nat.reduceEqDiff, Nat.reduceAdd, Nat.reduceMul, Int.reduceBEq, Int.reduceEq, Int.reduceNeg, Int.reduceLT, Int.reduceLE, Int.reduceAdd, Int.reduceSub, Int.reduceMul, Int.reduceToNat, Int.reduceGT, Nat.reduceBEq, Nat.reducePow, Nat.reduceGT, reduceCtorEq, ↓reduceIte, hw1, c1, hw2, c5]
    refine W.loop (fun n τ hh => ∃ (i j : Nat), n = j - i ∧ a ≤ i ∧ i ≤ j ∧ j ≤ m ∧ τ 0 = .slice p ys.length c ∧ τ 2 = .int .i64 m ∧ τ 4 = .func 33 [] [] ∧ τ 14 = .int .i64 i ∧ τ 15 = .int .i64 j ∧ (i = a ∨ ∀ x y, ys[i - 1]? = some x → ys[m]? = some y → leV x y) ∧ (j = m ∨ ∀ x y, ys[m]? = some x → ys[j]? = some y → leV x y) ∧ GK b h p c oid ys hh) ?_ (m := m - a) ?_
    rotate_left
    · refine ⟨a, m, rfl, Nat.le_refl _, by omega, Nat.le_refl _, ?_⟩
      have h2 := GK.refl g
      have h4 : a = a ∨ ∀ x y, ys[a - 1]? = some x → ys[m]? = some y → leV x y := .inl rfl
      have h5 : m = m ∨ ∀ x y, ys[m]? = some x → ys[m]? = some y → leV x y := .inl rfl
      simp -dsimp (disch := first | with_reducible assumption | omega | (intro h_; cases h_; done) | (simp only [LN] <;> omega) | (simp only [LF]; done) | (repeat (first | with_reducible assumption | apply Ext.refl | apply Ext.app | (apply Ext.set <;> omega) | (refine Ext.trans ?_ (by assumption))))) only [AX, TY, AD, mapPut, entsOf, oneV, builtinV, idsOf, mapId, touchB, Nat.reduceLT, Nat.reduceLeDiff, Nat.reduceEqDiff, Nat.reduceAdd, Nat.reduceMul, Int.reduceBEq, Int.reduceEq, Int.reduceNeg, Int.reduceLT, Int.reduceLE, Int.reduceAdd, Int.reduceSub, Int.reduceMul, Int.reduceToNat, Int.reduceGT, Nat.reduceBEq, Nat.reducePow, Nat.reduceGT, reduceCtorEq, ↓reduceIte]
      repeat' (first | assumption | refine And.intro ?_ ?_)
      all_goals first | rfl | omega | (simp; done) | (simp; omega; done) | skip
    rintro n τ hh ⟨i, j, rfl, hi1, hij, hj1, t0, t2, t4, t14, t15, gi, gj, gk⟩
    by_cases c2 : (i : Int) < (j : Int)
    · have hmid : (i + j) / 2 < ys.length := by omega
      have hwm1 : IntKind.i64.wrap ((i : Int) + (j : Int)) = ((i + j : Nat) : Int) := by rw [IntKind.wrap_i64]; omega
      have hwm2 : IntKind.u64.wrap ((i + j : Nat) : Int) = ((i + j : Nat) : Int) := by simp [IntKind.wrap, IntKind.bits, IntKind.signed]; omega
      have hwm3 : IntKind.i64.wrap (((i + j) / 2 : Nat) : Int) = (((i + j) / 2 : Nat) : Int) := by rw [IntKind.wrap_i64]; omega
      have hshr := fun t x y => shr1 t x y (i + j)
      generalize hmd : (i + j) / 2 = mid at hmid hwm3
      rw [hmd] at hshr
      have hal : m < ys.length := by omega
      have hla := gk.gr.sl.load0 (.refl _) hmid (m := 5) (by decide)
      have hlb := gk.gr.sl.load0 (.refl _) hal (m := 5) (by decide)
      rw [tk] at hla hlb
      have hi1' : (mid : Int) < (ys.length : Int) := by omega
      have hi2' : (m : Int) < (ys.length : Int) := by omega
      have hby : ∀ hq, WR (callE Tryz.prog hk 33 [.agg (Ver.enc ys[m]), .agg (Ver.enc ys[mid])] hq) fun r h' => Ext hq h' ∧ r = .int .i64 (Ver.cmp ys[m] ys[mid]) := fun hq => byID_ok _ _
      simp -dsimp (disch := first | with_reducible assumption | omega | (intro h_; cases h_; done) | (simp only [LN] <;> omega) | (simp only [LF]; done) | (repeat (first | with_reducible assumption | apply Ext.refl | apply Ext.app | (apply Ext.set <;> omega) | (refine Ext.trans ?_ (by assumption))))) only [AX, TY, AD, mapPut, entsOf, oneV, builtinV, idsOf, mapId, touchB, Nat.reduceLT, Nat.reduceLeDiff, Nat.reduceEqDiff, Nat.reduceAdd, Nat.reduceMul, Int.reduceBEq, Int.reduceEq, Int.reduceNeg, Int.reduceLT, Int.reduceLE, Int.reduceAdd, Int.reduceSub, Int.reduceMul, Int.reduceToNat, Int.reduceGT, Nat.reduceBEq, Nat.reducePow, Nat.reduceGT, reduceCtorEq, ↓reduceIte, t0, t2, t4, t14, t15, c2, hwm1, hwm2, hwm3, hshr]
      refine W.drawn [(0, []), (1, [0]), (2, [1, 0]), (3, [0]), (4, [0]), (5, [4, 3, 2, 1, 0]), (6, [5, 4, 3, 2, 1, 0]), (7, [4, 3, 2, 1, 0]), (8, [4, 3, 2, 1, 0]), (9, []), (10, []), (11, [])] (by decide +kernel) ?_
      simp -dsimp (disch := first | with_reducible assumption | omega | (intro h_; cases h_; done) | (simp only [LN] <;> omega) | (simp only [LF]; done) | (repeat (first | with_reducible assumption | apply Ext.refl | apply Ext.app | (apply Ext.set <;> omega) | (refine Ext.trans ?_ (by assumption))))) only [AX, TY, AD, mapPut, entsOf, oneV, builtinV, idsOf, mapId, touchB, Nat.reduceLT, Nat.reduceLeDiff, Nat.reduceEqDiff, Nat.reduceAdd, Nat.reduceMul, Int.reduceBEq, Int.reduceEq, Int.reduceNeg, Int.reduceLT, Int.reduceLE, Int.reduceAdd, Int.reduceSub, Int.reduceMul, Int.reduceToNat, Int.reduceGT, Nat.reduceBEq, Nat.reducePow, Nat.reduceGT, reduceCtorEq, ↓reduceIte, t0, t2, t4, t14, t15, hi1', hi2', hla, hlb]
      refine (hby _).mono ?_
      rintro _ h4 ⟨e4, rfl⟩
      have gk4 := gk.ext e4
      by_cases c3 : Ver.cmp ys[m] ys[mid] < 0
      · have gj' : mid = m ∨ ∀ x y, ys[m]? = some x → ys[mid]? = some y → leV x y := .inr fun x y q1 q2 => by
          rw [get _ hal] at q1; rw [get _ hmid] at q2; cases q1; cases q2; exact leV_of_lt c3
        simp -dsimp (disch := first | with_reducible assumption | omega | (intro h_; cases h_; done) | (simp only [LN] <;> omega) | (simp only [LF]; done) | (repeat (first | with_reducible assumption | apply Ext.refl | apply Ext.app | (apply Ext.set <;> omega) | (refine Ext.trans ?_ (by assumption))))) only [AX, TY, AD, mapPut, entsOf, oneV, builtinV, idsOf, mapId, touchB, Nat.reduceLT, Nat.reduceLeDiff, Nat.reduceEqDiff, Nat.reduceAdd, Nat.reduceMul, Int.reduceBEq, Int.reduceEq, Int.reduceNeg, Int.reduceLT, Int.reduceLE, Int.reduceAdd, Int.reduceSub, Int.reduceMul, Int.reduceToNat, Int.reduceGT, Nat.reduceBEq, Nat.reducePow, Nat.reduceGT, reduceCtorEq, ↓reduceIte, t0, t2, t4, t14, t15, c3]
        refine ⟨mid - i, by omega, i, mid, ?_⟩
        repeat' (first | assumption | refine And.intro ?_ ?_)
        all_goals first | rfl | omega | (simp; done) | (simp; omega; done) | skip
      · have hw4 : IntKind.i64.wrap ((mid : Int) + 1) = ((mid + 1 : Nat) : Int) := by rw [IntKind.wrap_i64]; omega
        have gi' : mid + 1 = a ∨ ∀ x y, ys[mid + 1 - 1]? = some x → ys[m]? = some y → leV x y := .inr fun x y q1 q2 => by
          rw [show mid + 1 - 1 = mid by omega, get _ hmid] at q1; rw [get _ hal] at q2; cases q1; cases q2; exact leV_of_ge c3
        simp -dsimp (disch := first | with_reducible assumption | omega | (intro h_; cases h_; done) | (simp only [LN] <;> omega) | (simp only [LF]; done) | (repeat (first | with_reducible assumption | apply Ext.refl | apply Ext.app | (apply Ext.set <;> omega) | (refine Ext.trans ?_ (by assumption))))) only [AX, TY, AD, mapPut, entsOf, oneV, builtinV, idsOf, mapId, touchB, Nat.reduceLT, Nat.reduceLeDiff, Nat.reduceEqDiff, Nat.reduceAdd, Nat.reduceMul, Int.reduceBEq, Int.reduceEq, Int.reduceNeg, Int.reduceLT, Int.reduceLE, Int.reduceAdd, Int.reduceSub, Int.reduceMul, Int.reduceToNat, Int.reduceGT, Nat.reduceBEq, Nat.reducePow, Nat.reduceGT, reduceCtorEq, ↓reduceIte, t0, t2, t4, t14, t15, c3, hw4]
        refine ⟨j - (mid + 1), by omega, mid + 1, j, ?_⟩
        repeat' (first | assumption | refine And.intro ?_ ?_)
        all_goals first | rfl | omega | (simp; done) | (simp; omega; done) | skip
    have hij' : i = j := by omega
    subst hij'
    simp -dsimp (disch := first | with_reducible assumption | omega | (intro h_; cases h_; done) | (simp only [LN] <;> omega) | (simp only [LF]; done) | (repeat (first | with_reducible assumption | apply Ext.refl | apply Ext.app | (apply Ext.set <;> omega) | (refine Ext.trans ?_ (by assumption))))) only [AX, TY, AD, mapPut, entsOf, oneV, builtinV, idsOf, mapId, touchB, Nat.reduceLT, Nat.reduceLeDiff, Nat.reduceEqDiff, Nat.reduceAdd, Nat.reduceMul, Int.reduceBEq, Int.reduceEq, Int.reduceNeg, Int.reduceLT, Int.reduceLE, Int.reduceAdd, Int.reduceSub, Int.reduceMul, Int.reduceToNat, Int.reduceGT, Nat.reduceBEq, Nat.reducePow, Nat.reduceGT, reduceCtorEq, ↓reduceIte, t0, t2, t4, t14, t15, c2]
    refine W.loop (fun n τ hh => ∃ (k : Nat) (zs : List Ver), n = k - i ∧ i ≤ k ∧ k ≤ m ∧ τ 0 = .slice p ys.length c ∧ τ 14 = .int .i64 i ∧ τ 17 = .int .i64 k ∧ Rot ys zs k m (m + 1) ∧ GK b h p c oid zs hh) ?_ (m := m - i) ?_
    rotate_left
    · refine ⟨m, ys, rfl, by omega, Nat.le_refl _, ?_⟩
      have h4 : Rot ys ys m m (m + 1) := .triv (by omega) (by omega) (.inl rfl)
      simp -dsimp (disch := first | with_reducible assumption | omega | (intro h_; cases h_; done) | (simp only [LN] <;> omega) | (simp only [LF]; done) | (repeat (first | with_reducible assumption | apply Ext.refl | apply Ext.app | (apply Ext.set <;> omega) | (refine Ext.trans ?_ (by assumption))))) only [AX, TY, AD, mapPut, entsOf, oneV, builtinV, idsOf, mapId, touchB, Nat.reduceLT, Nat.reduceLeDiff, Nat.reduceEqDiff, Nat.reduceAdd, Nat.reduceMul, Int.reduceBEq, Int.reduceEq, Int.reduceNeg, Int.reduceLT, Int.reduceLE, Int.reduceAdd, Int.reduceSub, Int.reduceMul, Int.reduceToNat, Int.reduceGT, Nat.reduceBEq, Nat.reducePow, Nat.reduceGT, reduceCtorEq, ↓reduceIte, t0, t2, t4, t14, t15]
      repeat' (first | assumption | refine And.intro ?_ ?_)
      all_goals first | rfl | omega | (simp; done) | (simp; omega; done) | skip
    clear t0 t2 t4 t14 t15
    rintro n τ2 hh2 ⟨k, zs, rfl, hik, hkm, t0, t14, t17, hr, gk2⟩
    have hzl := hr.perm.length_eq
    by_cases c4 : (i : Int) < (k : Int)
    · have hk1 : k < zs.length := by omega
      have hk2 : k - 1 < zs.length := by omega
      have hla := gk2.gr.sl.load0 (.refl _) hk1 (m := 5) (by decide)
      have hlb := gk2.gr.sl.load0 (.refl _) hk2 (m := 5) (by decide)
      rw [tk] at hla hlb
      obtain ⟨h5, h6, hst, hst2, gk6, hl5, hl6⟩ := gk2.swap hk1 hk2
      have hi1' : (k : Int) < (ys.length : Int) := by omega
      have hi2' : ((k - 1 : Nat) : Int) < (ys.length : Int) := by omega
      have hw6 : IntKind.i64.wrap ((k : Int) - 1) = ((k - 1 : Nat) : Int) := by rw [IntKind.wrap_i64]; omega
      have hr2 := rot_dn hkm (by omega) (by omega) hr
      simp -dsimp (disch := first | with_reducible assumption | omega | (intro h_; cases h_; done) | (simp only [LN] <;> omega) | (simp only [LF]; done) | (repeat (first | with_reducible assumption | apply Ext.refl | apply Ext.app | (apply Ext.set <;> omega) | (refine Ext.trans ?_ (by assumption))))) only [AX, TY, AD, mapPut, entsOf, oneV, builtinV, idsOf, mapId, touchB, Nat.reduceLT, Nat.reduceLeDiff, Nat.reduceEqDiff, Nat.reduceAdd, Nat.reduceMul, Int.reduceBEq, Int.reduceEq, Int.reduceNeg, Int.reduceLT, Int.reduceLE, Int.reduceAdd, Int.reduceSub, Int.reduceMul, Int.reduceToNat, Int.reduceGT, Nat.reduceBEq, Nat.reducePow, Nat.reduceGT, reduceCtorEq, ↓reduceIte, t0, t14, t17, c4]
      refine W.drawn [(0, []), (1, [0]), (2, [1, 0]), (3, [2, 1, 0]), (4, [2, 1, 0]), (5, [4, 3, 2, 1, 0]), (6, [5, 4, 3, 2, 1, 0]), (7, [5, 4, 3, 2, 1, 0]), (8, [4, 3, 2, 1, 0]), (9, [4, 3, 2, 1, 0]), (10, [9, 8, 7, 6, 5, 4, 3, 2, 1, 0]), (11, [10, 9, 8, 7, 6, 5, 4, 3, 2, 1, 0]), (12, [9, 8, 7, 6, 5, 4, 3, 2, 1, 0]), (13, [9, 8, 7, 6, 5, 4, 3, 2, 1, 0]), (14, [4, 3, 2]), (15, [4, 3, 2]), (16, []), (17, [])] (by decide +kernel) ?_
      simp -dsimp (disch := first | with_reducible assumption | omega | (intro h_; cases h_; done) | (simp only [LN] <;> omega) | (simp only [LF]; done) | (repeat (first | with_reducible assumption | apply Ext.refl | apply Ext.app | (apply Ext.set <;> omega) | (refine Ext.trans ?_ (by assumption))))) only [AX, TY, AD, mapPut, entsOf, oneV, builtinV, idsOf, mapId, touchB, Nat.reduceLT, Nat.reduceLeDiff, Nat.reduceEqDiff, Nat.reduceAdd, Nat.reduceMul, Int.reduceBEq, Int.reduceEq, Int.reduceNeg, Int.reduceLT, Int.reduceLE, Int.reduceAdd, Int.reduceSub, Int.reduceMul, Int.reduceToNat, Int.reduceGT, Nat.reduceBEq, Nat.reducePow, Nat.reduceGT, reduceCtorEq, ↓reduceIte, t0, t14, t17, hw6, hi1', hi2', hla, hlb, hst, hst2, hf1, hf2]
      refine ⟨k - 1 - i, by omega, k - 1, sw zs k (k - 1), ?_⟩
      repeat' (first | assumption | refine And.intro ?_ ?_)
      all_goals first | rfl | omega | (simp; done) | (simp; omega; done) | skip
    · simp -dsimp (disch := first | with_reducible assumption | omega | (intro h_; cases h_; done) | (simp only [LN] <;> omega) | (simp only [LF]; done) | (repeat (first | with_reducible assumption | apply Ext.refl | apply Ext.app | (apply Ext.set <;> omega) | (refine Ext.trans ?_ (by assumption))))) only [AX, TY, AD, mapPut, entsOf, oneV, builtinV, idsOf, mapId, touchB, Nat.reduceLT, Nat.reduceLeDiff, Nat.reduceEqDiff, Nat.reduceAdd, Nat.reduceMul, Int.reduceBEq, Int.reduceEq, Int.reduceNeg, Int.reduceLT, Int.reduceLE, Int.reduceAdd, Int.reduceSub, Int.reduceMul, Int.reduceToNat, Int.reduceGT, Nat.reduceBEq, Nat.reducePow, Nat.reduceGT, reduceCtorEq, ↓reduceIte, t0, t14, t17, c4]
      have hki' : k = i := by omega
      subst hki'
      subst hem
      refine ⟨zs, ⟨hr.perm, fun n hn' => ?_⟩, asc_one2 leV_tr hi1 hkm h3 hx hr gi gj, gk2⟩
      rw [hr.at']
      congr 1
      unfold rot
      repeat' split
      all_goals omega
  have hwA : IntKind.i64.wrap ((a : Int) + (e : Int)) = ((a + e : Nat) : Int) := by rw [IntKind.wrap_i64]; omega
  have hwm1 : IntKind.i64.wrap ((a : Int) + (e : Int)) = ((a + e : Nat) : Int) := by rw [IntKind.wrap_i64]; omega
  have hwm2 : IntKind.u64.wrap ((a + e : Nat) : Int) = ((a + e : Nat) : Int) := by simp [IntKind.wrap, IntKind.bits, IntKind.signed]; omega
  have hwm3 : IntKind.i64.wrap (((a + e) / 2 : Nat) : Int) = (((a + e) / 2 : Nat) : Int) := by rw [IntKind.wrap_i64]; omega
  have hshr := fun t x y => shr1 t x y (a + e)
  have hmidA : (a + e) / 2 < ys.length := by omega
  have hmidB : a < (a + e) / 2 := by omega
  have hmidC : (a + e) / 2 < e := by omega
  have hmidD : 2 * ((a + e) / 2) ≤ a + e ∧ a + e ≤ 2 * ((a + e) / 2) + 1 := by omega
  generalize hmd : (a + e) / 2 = mid at hmidA hmidB hmidC hmidD hwm3
  rw [hmd] at hshr
  have hwn : IntKind.i64.wrap ((mid : Int) + (m : Int)) = ((mid + m : Nat) : Int) := by rw [IntKind.wrap_i64]; omega
  have hwn1 : IntKind.i64.wrap (((mid + m : Nat) : Int) - 1) = ((mid + m - 1 : Nat) : Int) := by rw [IntKind.wrap_i64]; omega
  have hwn2 : IntKind.i64.wrap (((mid + m : Nat) : Int) - (e : Int)) = ((mid + m : Nat) : Int) - (e : Int) := by rw [IntKind.wrap_i64]; omega
  generalize hC27 : (Code.region 27 _ _).seq _ = C27
  generalize hC39 : (Code.region 39 _ _).seq _ = C39
  generalize hC41 : (Code.region 41 _ _).seq _ = C41
  generalize hC43 : (Code.region 43 _ _).seq _ = C43
  simp -dsimp (disch := first | with_reducible assumption | omega | (intro h_; cases h_; done) | (simp only [LN] <;> omega) | (simp only [LF]; done) | (repeat (first | with_reducible assumption | apply Ext.refl | apply Ext.app | (apply Ext.set <;> omega) | (refine Ext.trans ?_ (by assumption))))) only [AX, TY, AD, mapPut, entsOf, oneV, builtinV, idsOf, mapId, touchB, Nat.reduceLT, Nat.reduceLeDiff, Nat.reduceEqDiff, Nat.reduceAdd, Nat.reduceMul, Int.reduceBEq, Int.reduceEq, Int.reduceNeg, Int.reduceLT, Int.reduceLE, Int.reduceAdd, Int.reduceSub, Int.reduceMul, Int.reduceToNat, Int.reduceGT, Nat.reduceBEq, Nat.reducePow, Nat.reduceGT, reduceCtorEq, ↓reduceIte, hw1, c1, hw2, c5, hwm1, hwm2, hwm3, hshr, hwn]
  refine wpc_cutT (fun τ' h' => h = h' ∧ τ' 0 = .slice p ys.length c ∧ τ' 1 = .int .i64 a ∧ τ' 2 = .int .i64 m ∧ τ' 3 = .int .i64 e ∧ τ' 4 = .func 33 [] [] ∧ τ' 18 = .int .i64 mid ∧ τ' 19 = .int .i64 ((mid + m : Nat) : Int) ∧ ∃ s0 r0 : Nat, τ' 20 = .int .i64 s0 ∧ τ' 21 = .int .i64 r0 ∧ a ≤ s0 ∧ s0 ≤ r0 ∧ r0 ≤ m ∧ r0 ≤ mid ∧ mid + m - s0 ≤ e ∧ (s0 = a ∨ mid + m - s0 = e) ∧ (r0 = m ∨ mid + m - r0 = m)) ?_ ?_
  · subst hC27
    by_cases c6 : (mid : Int) < (m : Int)
    · have hs0 : ((mid + m : Nat) : Int) - (e : Int) = ((mid + m - e : Nat) : Int) := by omega
      have hwn3 : IntKind.i64.wrap (((mid + m : Nat) : Int) - (e : Int)) = ((mid + m - e : Nat) : Int) := hwn2.trans hs0
      simp -dsimp (disch := first | with_reducible assumption | omega | (intro h_; cases h_; done) | (simp only [LN] <;> omega) | (simp only [LF]; done) | (repeat (first | with_reducible assumption | apply Ext.refl | apply Ext.app | (apply Ext.set <;> omega) | (refine Ext.trans ?_ (by assumption))))) only [AX, TY, AD, mapPut, entsOf, oneV, builtinV, idsOf, mapId, touchB, Nat.reduceLT, Nat.reduceLeDiff, Nat.reduceEqDiff, Nat.reduceAdd, Nat.reduceMul, Int.reduceBEq, Int.reduceEq, Int.reduceNeg, Int.reduceLT, Int.reduceLE, Int.reduceAdd, Int.reduceSub, Int.reduceMul, Int.reduceToNat, Int.reduceGT, Nat.reduceBEq, Nat.reducePow, Nat.reduceGT, reduceCtorEq, ↓reduceIte, c6, hwn3]
      refine ⟨mid + m - e, mid, ?_⟩
      repeat' (first | assumption | refine And.intro ?_ ?_)
      all_goals first | rfl | omega | (simp; done) | (simp; omega; done) | skip
    · simp -dsimp (disch := first | with_reducible assumption | omega | (intro h_; cases h_; done) | (simp only [LN] <;> omega) | (simp only [LF]; done) | (repeat (first | with_reducible assumption | apply Ext.refl | apply Ext.app | (apply Ext.set <;> omega) | (refine Ext.trans ?_ (by assumption))))) only [AX, TY, AD, mapPut, entsOf, oneV, builtinV, idsOf, mapId, touchB, Nat.reduceLT, Nat.reduceLeDiff, Nat.reduceEqDiff, Nat.reduceAdd, Nat.reduceMul, Int.reduceBEq, Int.reduceEq, Int.reduceNeg, Int.reduceLT, Int.reduceLE, Int.reduceAdd, Int.reduceSub, Int.reduceMul, Int.reduceToNat, Int.reduceGT, Nat.reduceBEq, Nat.reducePow, Nat.reduceGT, reduceCtorEq, ↓reduceIte, c6]
      refine ⟨a, m, ?_⟩
      repeat' (first | assumption | refine And.intro ?_ ?_)
      all_goals first | rfl | omega | (simp; done) | (simp; omega; done) | skip
  rintro τ _ ⟨rfl, t0, t1, t2, t3, t4, t18, t19, s0, r0, t20, t21, f1, f2, f3, f4, f5, f6, f7⟩
  simp -dsimp (disch := first | with_reducible assumption | omega | (intro h_; cases h_; done) | (simp only [LN] <;> omega) | (simp only [LF]; done) | (repeat (first | with_reducible assumption | apply Ext.refl | apply Ext.app | (apply Ext.set <;> omega) | (refine Ext.trans ?_ (by assumption))))) only [AX, TY, AD, mapPut, entsOf, oneV, builtinV, idsOf, mapId, touchB, Nat.reduceLT, Nat.reduceLeDiff, Nat.reduceEqDiff, Nat.reduceAdd, Nat.reduceMul, Int.reduceBEq, Int.reduceEq, Int.reduceNeg, Int.reduceLT, Int.reduceLE, Int.reduceAdd, Int.reduceSub, Int.reduceMul, Int.reduceToNat, Int.reduceGT, Nat.reduceBEq, Nat.reducePow, Nat.reduceGT, reduceCtorEq, ↓reduceIte, t0, t1, t2, t3, t4, t18, t19, t20, t21, hwn1]
  refine W.loop (fun n τ hh => ∃ (i j : Nat), n = j - i ∧ s0 ≤ i ∧ i ≤ j ∧ j ≤ r0 ∧ τ 0 = .slice p ys.length c ∧ τ 1 = .int .i64 a ∧ τ 2 = .int .i64 m ∧ τ 3 = .int .i64 e ∧ τ 4 = .func 33 [] [] ∧ τ 18 = .int .i64 mid ∧ τ 19 = .int .i64 ((mid + m : Nat) : Int) ∧ τ 20 = .int .i64 i ∧ τ 21 = .int .i64 j ∧ τ 22 = .int .i64 ((mid + m - 1 : Nat) : Int) ∧ (i = s0 ∨ ∀ x y, ys[i - 1]? = some x → ys[mid + m - i]? = some y → leV x y) ∧ (j = r0 ∨ ∀ x y, ys[mid + m - 1 - j]? = some x → ys[j]? = some y → leV x y) ∧ GK b h p c oid ys hh) ?_ (m := r0 - s0) ?_
  rotate_left
  · refine ⟨s0, r0, rfl, Nat.le_refl _, by omega, Nat.le_refl _, ?_⟩
    have h2 := GK.refl g
    have h4 : s0 = s0 ∨ ∀ x y, ys[s0 - 1]? = some x → ys[mid + m - s0]? = some y → leV x y := .inl rfl
    have h5 : r0 = r0 ∨ ∀ x y, ys[mid + m - 1 - r0]? = some x → ys[r0]? = some y → leV x y := .inl rfl
    simp -dsimp (disch := first | with_reducible assumption | omega | (intro h_; cases h_; done) | (simp only [LN] <;> omega) | (simp only [LF]; done) | (repeat (first | with_reducible assumption | apply Ext.refl | apply Ext.app | (apply Ext.set <;> omega) | (refine Ext.trans ?_ (by assumption))))) only [AX, TY, AD, mapPut, entsOf, oneV, builtinV, idsOf, mapId, touchB, Nat.reduceLT, Nat.reduceLeDiff, Nat.reduceEqDiff, Nat.reduceAdd, Nat.reduceMul, Int.reduceBEq, Int.reduceEq, Int.reduceNeg, Int.reduceLT, Int.reduceLE, Int.reduceAdd, Int.reduceSub, Int.reduceMul, Int.reduceToNat, Int.reduceGT, Nat.reduceBEq, Nat.reducePow, Nat.reduceGT, reduceCtorEq, ↓reduceIte, t0, t1, t2, t3, t4, t18, t19, t20, t21, hwn1]
    repeat' (first | assumption | refine And.intro ?_ ?_)
    all_goals first | rfl | omega | (simp; done) | (simp; omega; done) | skip
  clear t0 t1 t2 t3 t4 t18 t19 t20 t21 hshr hwm1 hwm2 hwm3
  rintro n τ2 hh ⟨i, j, rfl, hi1, hij, hj1, t0, t1, t2, t3, t4, t18, t19, t20, t21, t22, gi, gj, gk⟩
  by_cases c2 : (i : Int) < (j : Int)
  · have hq1 : (i + j) / 2 < ys.length := by omega
    have hwm1 : IntKind.i64.wrap ((i : Int) + (j : Int)) = ((i + j : Nat) : Int) := by rw [IntKind.wrap_i64]; omega
    have hwm2 : IntKind.u64.wrap ((i + j : Nat) : Int) = ((i + j : Nat) : Int) := by simp [IntKind.wrap, IntKind.bits, IntKind.signed]; omega
    have hwm3 : IntKind.i64.wrap (((i + j) / 2 : Nat) : Int) = (((i + j) / 2 : Nat) : Int) := by rw [IntKind.wrap_i64]; omega
    have hshr := fun t x y => shr1 t x y (i + j)
    have hq3 : (i + j) / 2 < j ∧ i ≤ (i + j) / 2 := by omega
    generalize hqd : (i + j) / 2 = q at hq1 hq3 hwm3
    rw [hqd] at hshr
    have hpq : mid + m - 1 - q < ys.length := by omega
    have hla := gk.gr.sl.load0 (.refl _) hpq (m := 5) (by decide)
    have hlb := gk.gr.sl.load0 (.refl _) hq1 (m := 5) (by decide)
    rw [tk] at hla hlb
    have hi1' : ((mid + m - 1 - q : Nat) : Int) < (ys.length : Int) := by omega
    have hi2' : (q : Int) < (ys.length : Int) := by omega
    have hw7 : IntKind.i64.wrap (((mid + m - 1 : Nat) : Int) - (q : Int)) = ((mid + m - 1 - q : Nat) : Int) := by rw [IntKind.wrap_i64]; omega
    have hby : ∀ hq, WR (callE Tryz.prog hk 33 [.agg (Ver.enc ys[mid + m - 1 - q]), .agg (Ver.enc ys[q])] hq) fun r h' => Ext hq h' ∧ r = .int .i64 (Ver.cmp ys[mid + m - 1 - q] ys[q]) := fun hq => byID_ok _ _
    simp -dsimp (disch := first | with_reducible assumption | omega | (intro h_; cases h_; done) | (simp only [LN] <;> omega) | (simp only [LF]; done) | (repeat (first | with_reducible assumption | apply Ext.refl | apply Ext.app | (apply Ext.set <;> omega) | (refine Ext.trans ?_ (by assumption))))) only [AX, TY, AD, mapPut, entsOf, oneV, builtinV, idsOf, mapId, touchB, Nat.reduceLT, Nat.reduceLeDiff, Nat.reduceEqDiff, Nat.reduceAdd, Nat.reduceMul, Int.reduceBEq, Int.reduceEq, Int.reduceNeg, Int.reduceLT, Int.reduceLE, Int.reduceAdd, Int.reduceSub, Int.reduceMul, Int.reduceToNat, Int.reduceGT, Nat.reduceBEq, Nat.reducePow, Nat.reduceGT, reduceCtorEq, ↓reduceIte, t0, t1, t2, t3, t4, t18, t19, t20, t21, t22, c2, hwm1, hwm2, hwm3, hshr]
    refine W.drawn [(0, []), (1, [0]), (2, [1, 0]), (3, [2, 1, 0]), (4, [1, 0]), (5, [0]), (6, [0]), (7, [6, 5, 4, 3, 2, 1, 0]), (8, [7, 6, 5, 4, 3, 2, 1, 0]), (9, [6, 5, 4, 3, 2, 1, 0]), (10, [6, 5, 4, 3, 2, 1, 0]), (11, []), (12, []), (13, [])] (by decide +kernel) ?_
    simp -dsimp (disch := first | with_reducible assumption | omega | (intro h_; cases h_; done) | (simp only [LN] <;> omega) | (simp only [LF]; done) | (repeat (first | with_reducible assumption | apply Ext.refl | apply Ext.app | (apply Ext.set <;> omega) | (refine Ext.trans ?_ (by assumption))))) only [AX, TY, AD, mapPut, entsOf, oneV, builtinV, idsOf, mapId, touchB, Nat.reduceLT, Nat.reduceLeDiff, Nat.reduceEqDiff, Nat.reduceAdd, Nat.reduceMul, Int.reduceBEq, Int.reduceEq, Int.reduceNeg, Int.reduceLT, Int.reduceLE, Int.reduceAdd, Int.reduceSub, Int.reduceMul, Int.reduceToNat, Int.reduceGT, Nat.reduceBEq, Nat.reducePow, Nat.reduceGT, reduceCtorEq, ↓reduceIte, t0, t1, t2, t3, t4, t18, t19, t20, t21, t22, hw7, hi1', hi2', hla, hlb]
    refine (hby _).mono ?_
    rintro _ h4 ⟨e4, rfl⟩
    have gk4 := gk.ext e4
    by_cases c3 : Ver.cmp ys[mid + m - 1 - q] ys[q] < 0
    · have gj' : q = r0 ∨ ∀ x y, ys[mid + m - 1 - q]? = some x → ys[q]? = some y → leV x y := .inr fun x y q1 q2 => by
        rw [get _ hpq] at q1; rw [get _ hq1] at q2; cases q1; cases q2; exact leV_of_lt c3
      simp -dsimp (disch := first | with_reducible assumption | omega | (intro h_; cases h_; done) | (simp only [LN] <;> omega) | (simp only [LF]; done) | (repeat (first | with_reducible assumption | apply Ext.refl | apply Ext.app | (apply Ext.set <;> omega) | (refine Ext.trans ?_ (by assumption))))) only [AX, TY, AD, mapPut, entsOf, oneV, builtinV, idsOf, mapId, touchB, Nat.reduceLT, Nat.reduceLeDiff, Nat.reduceEqDiff, Nat.reduceAdd, Nat.reduceMul, Int.reduceBEq, Int.reduceEq, Int.reduceNeg, Int.reduceLT, Int.reduceLE, Int.reduceAdd, Int.reduceSub, Int.reduceMul, Int.reduceToNat, Int.reduceGT, Nat.reduceBEq, Nat.reducePow, Nat.reduceGT, reduceCtorEq, ↓reduceIte, t0, t1, t2, t3, t4, t18, t19, t20, t21, t22, c3]
      refine ⟨q - i, by omega, i, q, ?_⟩
      repeat' (first | assumption | refine And.intro ?_ ?_)
      all_goals first | rfl | omega | (simp; done) | (simp; omega; done) | skip
    · have hw4 : IntKind.i64.wrap ((q : Int) + 1) = ((q + 1 : Nat) : Int) := by rw [IntKind.wrap_i64]; omega
      have gi' : q + 1 = s0 ∨ ∀ x y, ys[q + 1 - 1]? = some x → ys[mid + m - (q + 1)]? = some y → leV x y := .inr fun x y q1 q2 => by
        rw [show q + 1 - 1 = q by omega, get _ hq1] at q1
        rw [show mid + m - (q + 1) = mid + m - 1 - q by omega, get _ hpq] at q2
        cases q1; cases q2; exact leV_of_ge c3
      simp -dsimp (disch := first | with_reducible assumption | omega | (intro h_; cases h_; done) | (simp only [LN] <;> omega) | (simp only [LF]; done) | (repeat (first | with_reducible assumption | apply Ext.refl | apply Ext.app | (apply Ext.set <;> omega) | (refine Ext.trans ?_ (by assumption))))) only [AX, TY, AD, mapPut, entsOf, oneV, builtinV, idsOf, mapId, touchB, Nat.reduceLT, Nat.reduceLeDiff, Nat.reduceEqDiff, Nat.reduceAdd, Nat.reduceMul, Int.reduceBEq, Int.reduceEq, Int.reduceNeg, Int.reduceLT, Int.reduceLE, Int.reduceAdd, Int.reduceSub, Int.reduceMul, Int.reduceToNat, Int.reduceGT, Nat.reduceBEq, Nat.reducePow, Nat.reduceGT, reduceCtorEq, ↓reduceIte, t0, t1, t2, t3, t4, t18, t19, t20, t21, t22, c3, hw4]
      refine ⟨j - (q + 1), by omega, q + 1, j, ?_⟩
      repeat' (first | assumption | refine And.intro ?_ ?_)
      all_goals first | rfl | omega | (simp; done) | (simp; omega; done) | skip
  have hij' : i = j := by omega
  subst hij'
  obtain ⟨e', he', he2⟩ : ∃ e' : Nat, mid + m - i = e' ∧ e' + i = mid + m := ⟨_, rfl, by omega⟩
  have hwe : IntKind.i64.wrap (((mid + m : Nat) : Int) - (i : Int)) = (e' : Int) := by rw [IntKind.wrap_i64]; omega
  have hme : m ≤ e' := by omega
  have hee : e' ≤ e := by omega
  have him : i ≤ m := by omega
  have hmid2 : mid = i + (e' - m) := by omega
  have G1 : i = a ∨ e' = e ∨ ∀ x y, ys[i - 1]? = some x → ys[e']? = some y → leV x y := by
    rcases gi with q | q
    · rcases f6 with z | z
      · exact .inl (by omega)
      · exact .inr (.inl (by omega))
    · rw [he'] at q; exact .inr (.inr q)
  have G2 : i = m ∨ e' = m ∨ ∀ x y, ys[e' - 1]? = some x → ys[i]? = some y → leV x y := by
    rcases gj with q | q
    · rcases f7 with z | z
      · exact .inl (by omega)
      · exact .inr (.inl (by omega))
    · rw [show mid + m - 1 - i = e' - 1 by omega] at q; exact .inr (.inr q)
  clear gi gj
  simp -dsimp (disch := first | with_reducible assumption | omega | (intro h_; cases h_; done) | (simp only [LN] <;> omega) | (simp only [LF]; done) | (repeat (first | with_reducible assumption | apply Ext.refl | apply Ext.app | (apply Ext.set <;> omega) | (refine Ext.trans ?_ (by assumption))))) only [AX, TY, AD, mapPut, entsOf, oneV, builtinV, idsOf, mapId, touchB, Nat.reduceLT, Nat.reduceLeDiff, Nat.reduceEqDiff, Nat.reduceAdd, Nat.reduceMul, Int.reduceBEq, Int.reduceEq, Int.reduceNeg, Int.reduceLT, Int.reduceLE, Int.reduceAdd, Int.reduceSub, Int.reduceMul, Int.reduceToNat, Int.reduceGT, Nat.reduceBEq, Nat.reducePow, Nat.reduceGT, reduceCtorEq, ↓reduceIte, t0, t1, t2, t3, t4, t18, t19, t20, t21, t22, c2, hwe]
  refine wpc_cutT (fun τ' h' => τ' 0 = .slice p ys.length c ∧ τ' 1 = .int .i64 a ∧ τ' 3 = .int .i64 e ∧ τ' 4 = .func 33 [] [] ∧ τ' 18 = .int .i64 mid ∧ τ' 20 = .int .i64 i ∧ τ' 24 = .int .i64 e' ∧ ∃ z1, Rot ys z1 i m e' ∧ GK b h p c oid z1 h') ?_ ?_
  · subst hC39
    by_cases d1 : (i : Int) < (m : Int)
    · by_cases d2 : (m : Int) < (e' : Int)
      · have hro := rot_ok gk.gr (by omega) (a := i) (m := m) (e := e') (by omega) (by omega) (by omega) (.func 33 [] [])
        simp -dsimp (disch := first | with_reducible assumption | omega | (intro h_; cases h_; done) | (simp only [LN] <;> omega) | (simp only [LF]; done) | (repeat (first | with_reducible assumption | apply Ext.refl | apply Ext.app | (apply Ext.set <;> omega) | (refine Ext.trans ?_ (by assumption))))) only [AX, TY, AD, mapPut, entsOf, oneV, builtinV, idsOf, mapId, touchB, Nat.reduceLT, Nat.reduceLeDiff, Nat.reduceEqDiff, Nat.reduceAdd, Nat.reduceMul, Int.reduceBEq, Int.reduceEq, Int.reduceNeg, Int.reduceLT, Int.reduceLE, Int.reduceAdd, Int.reduceSub, Int.reduceMul, Int.reduceToNat, Int.reduceGT, Nat.reduceBEq, Nat.reducePow, Nat.reduceGT, reduceCtorEq, ↓reduceIte, t0, t1, t2, t3, t4, t18, t19, t20, t21, t22, d1, d2]
        refine hro.mono ?_
        rintro r h6 ⟨z1, r1, gk6⟩
        have gk7 := gk.trans gk6
        simp -dsimp (disch := first | with_reducible assumption | omega | (intro h_; cases h_; done) | (simp only [LN] <;> omega) | (simp only [LF]; done) | (repeat (first | with_reducible assumption | apply Ext.refl | apply Ext.app | (apply Ext.set <;> omega) | (refine Ext.trans ?_ (by assumption))))) only [AX, TY, AD, mapPut, entsOf, oneV, builtinV, idsOf, mapId, touchB, Nat.reduceLT, Nat.reduceLeDiff, Nat.reduceEqDiff, Nat.reduceAdd, Nat.reduceMul, Int.reduceBEq, Int.reduceEq, Int.reduceNeg, Int.reduceLT, Int.reduceLE, Int.reduceAdd, Int.reduceSub, Int.reduceMul, Int.reduceToNat, Int.reduceGT, Nat.reduceBEq, Nat.reducePow, Nat.reduceGT, reduceCtorEq, ↓reduceIte, t0, t1, t2, t3, t4, t18, t19, t20, t21, t22]
        refine ⟨z1, ?_⟩
        repeat' (first | assumption | refine And.intro ?_ ?_)
        all_goals first | rfl | omega | (simp; done) | (simp; omega; done) | skip
      · have r1 : Rot ys ys i m e' := .triv him hme (.inr (by omega))
        simp -dsimp (disch := first | with_reducible assumption | omega | (intro h_; cases h_; done) | (simp only [LN] <;> omega) | (simp only [LF]; done) | (repeat (first | with_reducible assumption | apply Ext.refl | apply Ext.app | (apply Ext.set <;> omega) | (refine Ext.trans ?_ (by assumption))))) only [AX, TY, AD, mapPut, entsOf, oneV, builtinV, idsOf, mapId, touchB, Nat.reduceLT, Nat.reduceLeDiff, Nat.reduceEqDiff, Nat.reduceAdd, Nat.reduceMul, Int.reduceBEq, Int.reduceEq, Int.reduceNeg, Int.reduceLT, Int.reduceLE, Int.reduceAdd, Int.reduceSub, Int.reduceMul, Int.reduceToNat, Int.reduceGT, Nat.reduceBEq, Nat.reducePow, Nat.reduceGT, reduceCtorEq, ↓reduceIte, t0, t1, t2, t3, t4, t18, t19, t20, t21, t22, d1, d2]
        refine ⟨ys, ?_⟩
        repeat' (first | assumption | refine And.intro ?_ ?_)
        all_goals first | rfl | omega | (simp; done) | (simp; omega; done) | skip
    · have r1 : Rot ys ys i m e' := .triv him hme (.inl (by omega))
      simp -dsimp (disch := first | with_reducible assumption | omega | (intro h_; cases h_; done) | (simp only [LN] <;> omega) | (simp only [LF]; done) | (repeat (first | with_reducible assumption | apply Ext.refl | apply Ext.app | (apply Ext.set <;> omega) | (refine Ext.trans ?_ (by assumption))))) only [AX, TY, AD, mapPut, entsOf, oneV, builtinV, idsOf, mapId, touchB, Nat.reduceLT, Nat.reduceLeDiff, Nat.reduceEqDiff, Nat.reduceAdd, Nat.reduceMul, Int.reduceBEq, Int.reduceEq, Int.reduceNeg, Int.reduceLT, Int.reduceLE, Int.reduceAdd, Int.reduceSub, Int.reduceMul, Int.reduceToNat, Int.reduceGT, Nat.reduceBEq, Nat.reducePow, Nat.reduceGT, reduceCtorEq, ↓reduceIte, t0, t1, t2, t3, t4, t18, t19, t20, t21, t22, d1]
      refine ⟨ys, ?_⟩
      repeat' (first | assumption | refine And.intro ?_ ?_)
      all_goals first | rfl | omega | (simp; done) | (simp; omega; done) | skip
  clear t0 t1 t2 t3 t4 t18 t19 t20 t21 t22 gk
  rintro τ3 hh3 ⟨t0, t1, t3, t4, t18, t20, t24, z1, r1, gk⟩
  have hzl := r1.perm.length_eq
  obtain ⟨P1, P2, P3, P4⟩ := rot_parts (le := leV) him hme r1
  have p1 := P1 a hx
  have p2 := P2 e hee hy
  have p3 := P3 a (by omega) hx
  have p4 := P4 e hy
  rw [← hmid2] at p2 p3
  simp -dsimp (disch := first | with_reducible assumption | omega | (intro h_; cases h_; done) | (simp only [LN] <;> omega) | (simp only [LF]; done) | (repeat (first | with_reducible assumption | apply Ext.refl | apply Ext.app | (apply Ext.set <;> omega) | (refine Ext.trans ?_ (by assumption))))) only [AX, TY, AD, mapPut, entsOf, oneV, builtinV, idsOf, mapId, touchB, Nat.reduceLT, Nat.reduceLeDiff, Nat.reduceEqDiff, Nat.reduceAdd, Nat.reduceMul, Int.reduceBEq, Int.reduceEq, Int.reduceNeg, Int.reduceLT, Int.reduceLE, Int.reduceAdd, Int.reduceSub, Int.reduceMul, Int.reduceToNat, Int.reduceGT, Nat.reduceBEq, Nat.reducePow, Nat.reduceGT, reduceCtorEq, ↓reduceIte, t0, t1, t3, t4, t18, t20, t24]
  refine wpc_cutT (fun τ' h' => τ' 0 = .slice p ys.length c ∧ τ' 3 = .int .i64 e ∧ τ' 4 = .func 33 [] [] ∧ τ' 18 = .int .i64 mid ∧ τ' 24 = .int .i64 e' ∧ ∃ z2, Ch z1 z2 a mid ∧ AscI leV z2 a mid ∧ GK b h p c oid z2 h') ?_ ?_
  · subst hC41
    by_cases d1 : (a : Int) < (i : Int)
    · by_cases d2 : (i : Int) < (mid : Int)
      · have hro := ih gk.gr (by omega) (a := a) (m := i) (e := mid) (by omega) (by omega) (by omega) (by omega) p1 p2
        rw [hzl] at hro
        simp -dsimp (disch := first | with_reducible assumption | omega | (intro h_; cases h_; done) | (simp only [LN] <;> omega) | (simp only [LF]; done) | (repeat (first | with_reducible assumption | apply Ext.refl | apply Ext.app | (apply Ext.set <;> omega) | (refine Ext.trans ?_ (by assumption))))) only [AX, TY, AD, mapPut, entsOf, oneV, builtinV, idsOf, mapId, touchB, Nat.reduceLT, Nat.reduceLeDiff, Nat.reduceEqDiff, Nat.reduceAdd, Nat.reduceMul, Int.reduceBEq, Int.reduceEq, Int.reduceNeg, Int.reduceLT, Int.reduceLE, Int.reduceAdd, Int.reduceSub, Int.reduceMul, Int.reduceToNat, Int.reduceGT, Nat.reduceBEq, Nat.reducePow, Nat.reduceGT, reduceCtorEq, ↓reduceIte, t0, t1, t3, t4, t18, t20, t24, d1, d2]
        refine hro.mono ?_
        rintro r h6 ⟨z2, q1, q2, gk6⟩
        have gk7 := gk.trans gk6
        simp -dsimp (disch := first | with_reducible assumption | omega | (intro h_; cases h_; done) | (simp only [LN] <;> omega) | (simp only [LF]; done) | (repeat (first | with_reducible assumption | apply Ext.refl | apply Ext.app | (apply Ext.set <;> omega) | (refine Ext.trans ?_ (by assumption))))) only [AX, TY, AD, mapPut, entsOf, oneV, builtinV, idsOf, mapId, touchB, Nat.reduceLT, Nat.reduceLeDiff, Nat.reduceEqDiff, Nat.reduceAdd, Nat.reduceMul, Int.reduceBEq, Int.reduceEq, Int.reduceNeg, Int.reduceLT, Int.reduceLE, Int.reduceAdd, Int.reduceSub, Int.reduceMul, Int.reduceToNat, Int.reduceGT, Nat.reduceBEq, Nat.reducePow, Nat.reduceGT, reduceCtorEq, ↓reduceIte, t0, t1, t3, t4, t18, t20, t24]
        refine ⟨z2, ?_⟩
        repeat' (first | assumption | refine And.intro ?_ ?_)
        all_goals first | rfl | omega | (simp; done) | (simp; omega; done) | skip
      · have q1 := Ch.refl z1 a mid
        have q2 : AscI leV z1 a mid := by rw [show mid = i by omega]; exact p1
        simp -dsimp (disch := first | with_reducible assumption | omega | (intro h_; cases h_; done) | (simp only [LN] <;> omega) | (simp only [LF]; done) | (repeat (first | with_reducible assumption | apply Ext.refl | apply Ext.app | (apply Ext.set <;> omega) | (refine Ext.trans ?_ (by assumption))))) only [AX, TY, AD, mapPut, entsOf, oneV, builtinV, idsOf, mapId, touchB, Nat.reduceLT, Nat.reduceLeDiff, Nat.reduceEqDiff, Nat.reduceAdd, Nat.reduceMul, Int.reduceBEq, Int.reduceEq, Int.reduceNeg, Int.reduceLT, Int.reduceLE, Int.reduceAdd, Int.reduceSub, Int.reduceMul, Int.reduceToNat, Int.reduceGT, Nat.reduceBEq, Nat.reducePow, Nat.reduceGT, reduceCtorEq, ↓reduceIte, t0, t1, t3, t4, t18, t20, t24, d1, d2]
        refine ⟨z1, ?_⟩
        repeat' (first | assumption | refine And.intro ?_ ?_)
        all_goals first | rfl | omega | (simp; done) | (simp; omega; done) | skip
    · have q1 := Ch.refl z1 a mid
      have q2 : AscI leV z1 a mid := by rw [show a = i by omega]; exact p2
      simp -dsimp (disch := first | with_reducible assumption | omega | (intro h_; cases h_; done) | (simp only [LN] <;> omega) | (simp only [LF]; done) | (repeat (first | with_reducible assumption | apply Ext.refl | apply Ext.app | (apply Ext.set <;> omega) | (refine Ext.trans ?_ (by assumption))))) only [AX, TY, AD, mapPut, entsOf, oneV, builtinV, idsOf, mapId, touchB, Nat.reduceLT, Nat.reduceLeDiff, Nat.reduceEqDiff, Nat.reduceAdd, Nat.reduceMul, Int.reduceBEq, Int.reduceEq, Int.reduceNeg, Int.reduceLT, Int.reduceLE, Int.reduceAdd, Int.reduceSub, Int.reduceMul, Int.reduceToNat, Int.reduceGT, Nat.reduceBEq, Nat.reducePow, Nat.reduceGT, reduceCtorEq, ↓reduceIte, t0, t1, t3, t4, t18, t20, t24, d1]
      refine ⟨z1, ?_⟩
      repeat' (first | assumption | refine And.intro ?_ ?_)
      all_goals first | rfl | omega | (simp; done) | (simp; omega; done) | skip
  clear t0 t1 t3 t4 t18 t20 t24
  rintro τ4 hh4 ⟨t0, t3, t4, t18, t24, z2, q1, q2, gk2⟩
  have hzl2 := q1.len
  have p3' := p3.out q1 (.inr (Nat.le_refl _))
  have p4' := p4.out q1 (.inr (by omega))
  subst hC43
  have fin : ∀ z3, Ch z2 z3 mid e → AscI leV z3 mid e → Ch ys z3 a e ∧ AscI leV z3 a e := fun z3 u1 u2 =>
    ⟨((r1.ch him hme).wide (by omega) hee).trans ((q1.wide (Nat.le_refl _) (by omega)).trans (u1.wide (by omega) (Nat.le_refl _))), asc_join (by omega) him hme hee h3 hmid2 leV_tr hx hy G1 G2 r1 q1 q2 u1 u2⟩
  by_cases d1 : (mid : Int) < (e' : Int)
  · by_cases d2 : (e' : Int) < (e : Int)
    · have hro := ih gk2.gr (by omega) (a := mid) (m := e') (e := e) (by omega) (by omega) (by omega) (by omega) p3' p4'
      rw [hzl2, hzl] at hro
      simp -dsimp (disch := first | with_reducible assumption | omega | (intro h_; cases h_; done) | (simp only [LN] <;> omega) | (simp only [LF]; done) | (repeat (first | with_reducible assumption | apply Ext.refl | apply Ext.app | (apply Ext.set <;> omega) | (refine Ext.trans ?_ (by assumption))))) only [AX, TY, AD, mapPut, entsOf, oneV, builtinV, idsOf, mapId, touchB, Nat.reduceLT, Nat.reduceLeDiff, Nat.reduceEqDiff, Nat.reduceAdd, Nat.reduceMul, Int.reduceBEq, Int.reduceEq, Int.reduceNeg, Int.reduceLT, Int.reduceLE, Int.reduceAdd, Int.reduceSub, Int.reduceMul, Int.reduceToNat, Int.reduceGT, Nat.reduceBEq, Nat.reducePow, Nat.reduceGT, reduceCtorEq, ↓reduceIte, t0, t3, t4, t18, t24, d1, d2]
      refine hro.mono ?_
      rintro r h6 ⟨z3, u1, u2, gk6⟩
      simp -dsimp (disch := first | with_reducible assumption | omega | (intro h_; cases h_; done) | (simp only [LN] <;> omega) | (simp only [LF]; done) | (repeat (first | with_reducible assumption | apply Ext.refl | apply Ext.app | (apply Ext.set <;> omega) | (refine Ext.trans ?_ (by assumption))))) only [AX, TY, AD, mapPut, entsOf, oneV, builtinV, idsOf, mapId, touchB, Nat.reduceLT, Nat.reduceLeDiff, Nat.reduceEqDiff, Nat.reduceAdd, Nat.reduceMul, Int.reduceBEq, Int.reduceEq, Int.reduceNeg, Int.reduceLT, Int.reduceLE, Int.reduceAdd, Int.reduceSub, Int.reduceMul, Int.reduceToNat, Int.reduceGT, Nat.reduceBEq, Nat.reducePow, Nat.reduceGT, reduceCtorEq, ↓reduceIte, t0, t3, t4, t18, t24]
      exact ⟨z3, (fin z3 u1 u2).1, (fin z3 u1 u2).2, gk2.trans gk6⟩
    · have u2 : AscI leV z2 mid e := by rw [show e = e' by omega]; exact p3'
      simp -dsimp (disch := first | with_reducible assumption | omega | (intro h_; cases h_; done) | (simp only [LN] <;> omega) | (simp only [LF]; done) | (repeat (first | with_reducible assumption | apply Ext.refl | apply Ext.app | (apply Ext.set <;> omega) | (refine Ext.trans ?_ (by assumption))))) only [AX, TY, AD, mapPut, entsOf, oneV, builtinV, idsOf, mapId, touchB, Nat.reduceLT, Nat.reduceLeDiff, Nat.reduceEqDiff, Nat.reduceAdd, Nat.reduceMul, Int.reduceBEq, Int.reduceEq, Int.reduceNeg, Int.reduceLT, Int.reduceLE, Int.reduceAdd, Int.reduceSub, Int.reduceMul, Int.reduceToNat, Int.reduceGT, Nat.reduceBEq, Nat.reducePow, Nat.reduceGT, reduceCtorEq, ↓reduceIte, t0, t3, t4, t18, t24, d1, d2]
      exact ⟨z2, (fin z2 (.refl _ _ _) u2).1, (fin z2 (.refl _ _ _) u2).2, gk2⟩
  · have u2 : AscI leV z2 mid e := by rw [show mid = e' by omega]; exact p4'
    simp -dsimp (disch := first | with_reducible assumption | omega | (intro h_; cases h_; done) | (simp only [LN] <;> omega) | (simp only [LF]; done) | (repeat (first | with_reducible assumption | apply Ext.refl | apply Ext.app | (apply Ext.set <;> omega) | (refine Ext.trans ?_ (by assumption))))) only [AX, TY, AD, mapPut, entsOf, oneV, builtinV, idsOf, mapId, touchB, Nat.reduceLT, Nat.reduceLeDiff, Nat.reduceEqDiff, Nat.reduceAdd, Nat.reduceMul, Int.reduceBEq, Int.reduceEq, Int.reduceNeg, Int.reduceLT, Int.reduceLE, Int.reduceAdd, Int.reduceSub, Int.reduceMul, Int.reduceToNat, Int.reduceGT, Nat.reduceBEq, Nat.reducePow, Nat.reduceGT, reduceCtorEq, ↓reduceIte, t0, t3, t4, t18, t24, d1]
    exact ⟨z2, (fin z2 (.refl _ _ _) u2).1, (fin z2 (.refl _ _ _) u2).2, gk2⟩

end Go.Proofs.YtcaolnmpldbkjaaGreatA
namespace Go.Proofs.YtcaolnmpldbkjaaGreatA
open Go Go.Proofs Go.RowKit
set_option linter.unusedVariables false
set_option linter.unusedSimpArgs false
set_option maxRecDepth 10000
set_option maxHeartbeats 4000000
/-- What a sort of versions leaves. -/
def SrtV (b : Nat) (h : Heap) (p : Option (Nat × Nat)) (c oid : Option Nat) (ys : List Ver) (h' : Heap) : Prop := ∃ zs, zs.Perm ys ∧ zs.Pairwise leV ∧ GK b h p c oid zs h'
theorem stable_ok {b : Nat} {h : Heap} {p : Option (Nat × Nat)} {c oid : Option Nat} {ys : List Ver} (g : Gr b h p c oid 5 Ver.enc ys) (hB : ys.length < 40) :
    WR (callE Tryz.prog hk 68 [.slice p ys.length c, .int .i64 ys.length, .func 33 [] []] h) fun r h' => SrtV b h p c oid ys h' := by
  have h40 : ¬ (40 : Int) ≤ (ys.length : Int) := by omega
  have h41 : ¬ (40 : Int) < (ys.length : Int) := by omega
  refine WR.call (hH := rfl) Tryz.func68 rfl (n := 63) rfl rfl (by simp) ?_
  by_cases c1 : (20 : Int) ≤ (ys.length : Int)
  · have i1 := ins_ok g (by omega) (a := 0) (e := 20) (by omega) (by omega)
    simp only [Int.cast_ofNat_Int] at i1
    simp -dsimp (disch := first | with_reducible assumption | omega | (intro h_; cases h_; done) | (simp only [LN] <;> omega) | (simp only [LF]; done) | (repeat (first | with_reducible assumption | apply Ext.refl | apply Ext.app | (apply Ext.set <;> omega) | (refine Ext.trans ?_ (by assumption))))) only [AX, TY, AD, mapPut, entsOf, oneV, builtinV, idsOf, mapId, touchB, Nat.reduceLT, Nat.reduceLeDiff, Nat.reduceEqDiff, Nat.reduceAdd, Nat.reduceMul, Int.reduceBEq, Int.reduceEq, Int.reduceNeg, Int.reduceLT, Int.reduceLE, Int.reduceAdd, Int.reduceSub, Int.reduceMul, Int.reduceToNat, Int.reduceGT, Nat.reduceBEq, Nat.reducePow, Nat.reduceGT, reduceCtorEq, ↓reduceIte]
    refine W.once ?_
    simp -dsimp (disch := first | with_reducible assumption | omega | (intro h_; cases h_; done) | (simp only [LN] <;> omega) | (simp only [LF]; done) | (repeat (first | with_reducible assumption | apply Ext.refl | apply Ext.app | (apply Ext.set <;> omega) | (refine Ext.trans ?_ (by assumption))))) only [AX, TY, AD, mapPut, entsOf, oneV, builtinV, idsOf, mapId, touchB, Nat.reduceLT, Nat.reduceLeDiff, Nat.reduceEqDiff, Nat.reduceAdd, Nat.reduceMul, Int.reduceBEq, Int.reduceEq, Int.reduceNeg, Int.reduceLT, Int.reduceLE, Int.reduceAdd, Int.reduceSub, Int.reduceMul, Int.reduceToNat, Int.reduceGT, Nat.reduceBEq, Nat.reducePow, Nat.reduceGT, reduceCtorEq, ↓reduceIte, c1]
    refine i1.mono ?_
    rintro r h1 ⟨z1, q1, a1, k1⟩
    have l1 := q1.len
    have i2 := ins_ok k1.gr (by omega) (a := 20) (e := ys.length) (by omega) (by omega)
    rw [l1] at i2
    simp only [Int.cast_ofNat_Int] at i2
    simp -dsimp (disch := first | with_reducible assumption | omega | (intro h_; cases h_; done) | (simp only [LN] <;> omega) | (simp only [LF]; done) | (repeat (first | with_reducible assumption | apply Ext.refl | apply Ext.app | (apply Ext.set <;> omega) | (refine Ext.trans ?_ (by assumption))))) only [AX, TY, AD, mapPut, entsOf, oneV, builtinV, idsOf, mapId, touchB, Nat.reduceLT, Nat.reduceLeDiff, Nat.reduceEqDiff, Nat.reduceAdd, Nat.reduceMul, Int.reduceBEq, Int.reduceEq, Int.reduceNeg, Int.reduceLT, Int.reduceLE, Int.reduceAdd, Int.reduceSub, Int.reduceMul, Int.reduceToNat, Int.reduceGT, Nat.reduceBEq, Nat.reducePow, Nat.reduceGT, reduceCtorEq, ↓reduceIte, wrap_in]
    refine W.once ?_
    simp -dsimp (disch := first | with_reducible assumption | omega | (intro h_; cases h_; done) | (simp only [LN] <;> omega) | (simp only [LF]; done) | (repeat (first | with_reducible assumption | apply Ext.refl | apply Ext.app | (apply Ext.set <;> omega) | (refine Ext.trans ?_ (by assumption))))) only [AX, TY, AD, mapPut, entsOf, oneV, builtinV, idsOf, mapId, touchB, Nat.reduceLT, Nat.reduceLeDiff, Nat.reduceEqDiff, Nat.reduceAdd, Nat.reduceMul, Int.reduceBEq, Int.reduceEq, Int.reduceNeg, Int.reduceLT, Int.reduceLE, Int.reduceAdd, Int.reduceSub, Int.reduceMul, Int.reduceToNat, Int.reduceGT, Nat.reduceBEq, Nat.reducePow, Nat.reduceGT, reduceCtorEq, ↓reduceIte, h40]
    refine i2.mono ?_
    rintro r h2 ⟨z2, q2, a2, k2⟩
    have l2 := q2.len
    have a1' := a1.out q2 (.inl (Nat.le_refl _))
    have k3 := k1.trans k2
    have pm := q2.perm.trans q1.perm
    simp -dsimp (disch := first | with_reducible assumption | omega | (intro h_; cases h_; done) | (simp only [LN] <;> omega) | (simp only [LF]; done) | (repeat (first | with_reducible assumption | apply Ext.refl | apply Ext.app | (apply Ext.set <;> omega) | (refine Ext.trans ?_ (by assumption))))) only [AX, TY, AD, mapPut, entsOf, oneV, builtinV, idsOf, mapId, touchB, Nat.reduceLT, Nat.reduceLeDiff, Nat.reduceEqDiff, Nat.reduceAdd, Nat.reduceMul, Int.reduceBEq, Int.reduceEq, Int.reduceNeg, Int.reduceLT, Int.reduceLE, Int.reduceAdd, Int.reduceSub, Int.reduceMul, Int.reduceToNat, Int.reduceGT, Nat.reduceBEq, Nat.reducePow, Nat.reduceGT, reduceCtorEq, ↓reduceIte]
    refine W.once ?_
    by_cases c2 : (20 : Int) < (ys.length : Int)
    · have i3 := sym_ok ys.length k3.gr (by omega) (a := 0) (m := 20) (e := ys.length) (by omega) (by omega) (by omega) (by omega) a1' a2
      rw [l2, l1] at i3
      simp only [Int.cast_ofNat_Int] at i3
      simp -dsimp (disch := first | with_reducible assumption | omega | (intro h_; cases h_; done) | (simp only [LN] <;> omega) | (simp only [LF]; done) | (repeat (first | with_reducible assumption | apply Ext.refl | apply Ext.app | (apply Ext.set <;> omega) | (refine Ext.trans ?_ (by assumption))))) only [AX, TY, AD, mapPut, entsOf, oneV, builtinV, idsOf, mapId, touchB, Nat.reduceLT, Nat.reduceLeDiff, Nat.reduceEqDiff, Nat.reduceAdd, Nat.reduceMul, Int.reduceBEq, Int.reduceEq, Int.reduceNeg, Int.reduceLT, Int.reduceLE, Int.reduceAdd, Int.reduceSub, Int.reduceMul, Int.reduceToNat, Int.reduceGT, Nat.reduceBEq, Nat.reducePow, Nat.reduceGT, reduceCtorEq, ↓reduceIte, c2, wrap_in]
      refine W.once ?_
      simp -dsimp (disch := first | with_reducible assumption | omega | (intro h_; cases h_; done) | (simp only [LN] <;> omega) | (simp only [LF]; done) | (repeat (first | with_reducible assumption | apply Ext.refl | apply Ext.app | (apply Ext.set <;> omega) | (refine Ext.trans ?_ (by assumption))))) only [AX, TY, AD, mapPut, entsOf, oneV, builtinV, idsOf, mapId, touchB, Nat.reduceLT, Nat.reduceLeDiff, Nat.reduceEqDiff, Nat.reduceAdd, Nat.reduceMul, Int.reduceBEq, Int.reduceEq, Int.reduceNeg, Int.reduceLT, Int.reduceLE, Int.reduceAdd, Int.reduceSub, Int.reduceMul, Int.reduceToNat, Int.reduceGT, Nat.reduceBEq, Nat.reducePow, Nat.reduceGT, reduceCtorEq, ↓reduceIte, h40, wrap_in, c2]
      refine i3.mono ?_
      rintro r h4 ⟨z4, q4, a4, k4⟩
      simp -dsimp (disch := first | with_reducible assumption | omega | (intro h_; cases h_; done) | (simp only [LN] <;> omega) | (simp only [LF]; done) | (repeat (first | with_reducible assumption | apply Ext.refl | apply Ext.app | (apply Ext.set <;> omega) | (refine Ext.trans ?_ (by assumption))))) only [AX, TY, AD, mapPut, entsOf, oneV, builtinV, idsOf, mapId, touchB, Nat.reduceLT, Nat.reduceLeDiff, Nat.reduceEqDiff, Nat.reduceAdd, Nat.reduceMul, Int.reduceBEq, Int.reduceEq, Int.reduceNeg, Int.reduceLT, Int.reduceLE, Int.reduceAdd, Int.reduceSub, Int.reduceMul, Int.reduceToNat, Int.reduceGT, Nat.reduceBEq, Nat.reducePow, Nat.reduceGT, reduceCtorEq, ↓reduceIte, wrap_in]
      refine W.once ?_
      simp -dsimp (disch := first | with_reducible assumption | omega | (intro h_; cases h_; done) | (simp only [LN] <;> omega) | (simp only [LF]; done) | (repeat (first | with_reducible assumption | apply Ext.refl | apply Ext.app | (apply Ext.set <;> omega) | (refine Ext.trans ?_ (by assumption))))) only [AX, TY, AD, mapPut, entsOf, oneV, builtinV, idsOf, mapId, touchB, Nat.reduceLT, Nat.reduceLeDiff, Nat.reduceEqDiff, Nat.reduceAdd, Nat.reduceMul, Int.reduceBEq, Int.reduceEq, Int.reduceNeg, Int.reduceLT, Int.reduceLE, Int.reduceAdd, Int.reduceSub, Int.reduceMul, Int.reduceToNat, Int.reduceGT, Nat.reduceBEq, Nat.reducePow, Nat.reduceGT, reduceCtorEq, ↓reduceIte, h41]
      have pm4 := q4.perm.trans pm
      refine ⟨z4, pm4, AscI.pairwise (by rw [pm4.length_eq]; exact a4), k3.trans k4⟩
    · have hn : ys.length = 20 := by omega
      simp -dsimp (disch := first | with_reducible assumption | omega | (intro h_; cases h_; done) | (simp only [LN] <;> omega) | (simp only [LF]; done) | (repeat (first | with_reducible assumption | apply Ext.refl | apply Ext.app | (apply Ext.set <;> omega) | (refine Ext.trans ?_ (by assumption))))) only [AX, TY, AD, mapPut, entsOf, oneV, builtinV, idsOf, mapId, touchB, Nat.reduceLT, Nat.reduceLeDiff, Nat.reduceEqDiff, Nat.reduceAdd, Nat.reduceMul, Int.reduceBEq, Int.reduceEq, Int.reduceNeg, Int.reduceLT, Int.reduceLE, Int.reduceAdd, Int.reduceSub, Int.reduceMul, Int.reduceToNat, Int.reduceGT, Nat.reduceBEq, Nat.reducePow, Nat.reduceGT, reduceCtorEq, ↓reduceIte, c2]
      refine ⟨z2, pm, AscI.pairwise (by rw [pm.length_eq, hn]; exact a1'), k3⟩
  · have i1 := ins_ok g (by omega) (a := 0) (e := ys.length) (by omega) (by omega)
    simp only [Int.cast_ofNat_Int] at i1
    have c2 : ¬ (20 : Int) < (ys.length : Int) := by omega
    simp -dsimp (disch := first | with_reducible assumption | omega | (intro h_; cases h_; done) | (simp only [LN] <;> omega) | (simp only [LF]; done) | (repeat (first | with_reducible assumption | apply Ext.refl | apply Ext.app | (apply Ext.set <;> omega) | (refine Ext.trans ?_ (by assumption))))) only [AX, TY, AD, mapPut, entsOf, oneV, builtinV, idsOf, mapId, touchB, Nat.reduceLT, Nat.reduceLeDiff, Nat.reduceEqDiff, Nat.reduceAdd, Nat.reduceMul, Int.reduceBEq, Int.reduceEq, Int.reduceNeg, Int.reduceLT, Int.reduceLE, Int.reduceAdd, Int.reduceSub, Int.reduceMul, Int.reduceToNat, Int.reduceGT, Nat.reduceBEq, Nat.reducePow, Nat.reduceGT, reduceCtorEq, ↓reduceIte]
    refine W.once ?_
    simp -dsimp (disch := first | with_reducible assumption | omega | (intro h_; cases h_; done) | (simp only [LN] <;> omega) | (simp only [LF]; done) | (repeat (first | with_reducible assumption | apply Ext.refl | apply Ext.app | (apply Ext.set <;> omega) | (refine Ext.trans ?_ (by assumption))))) only [AX, TY, AD, mapPut, entsOf, oneV, builtinV, idsOf, mapId, touchB, Nat.reduceLT, Nat.reduceLeDiff, Nat.reduceEqDiff, Nat.reduceAdd, Nat.reduceMul, Int.reduceBEq, Int.reduceEq, Int.reduceNeg, Int.reduceLT, Int.reduceLE, Int.reduceAdd, Int.reduceSub, Int.reduceMul, Int.reduceToNat, Int.reduceGT, Nat.reduceBEq, Nat.reducePow, Nat.reduceGT, reduceCtorEq, ↓reduceIte, c1]
    refine i1.mono ?_
    rintro r h1 ⟨z1, q1, a1, k1⟩
    simp -dsimp (disch := first | with_reducible assumption | omega | (intro h_; cases h_; done) | (simp only [LN] <;> omega) | (simp only [LF]; done) | (repeat (first | with_reducible assumption | apply Ext.refl | apply Ext.app | (apply Ext.set <;> omega) | (refine Ext.trans ?_ (by assumption))))) only [AX, TY, AD, mapPut, entsOf, oneV, builtinV, idsOf, mapId, touchB, Nat.reduceLT, Nat.reduceLeDiff, Nat.reduceEqDiff, Nat.reduceAdd, Nat.reduceMul, Int.reduceBEq, Int.reduceEq, Int.reduceNeg, Int.reduceLT, Int.reduceLE, Int.reduceAdd, Int.reduceSub, Int.reduceMul, Int.reduceToNat, Int.reduceGT, Nat.reduceBEq, Nat.reducePow, Nat.reduceGT, reduceCtorEq, ↓reduceIte]
    refine W.once ?_
    simp -dsimp (disch := first | with_reducible assumption | omega | (intro h_; cases h_; done) | (simp only [LN] <;> omega) | (simp only [LF]; done) | (repeat (first | with_reducible assumption | apply Ext.refl | apply Ext.app | (apply Ext.set <;> omega) | (refine Ext.trans ?_ (by assumption))))) only [AX, TY, AD, mapPut, entsOf, oneV, builtinV, idsOf, mapId, touchB, Nat.reduceLT, Nat.reduceLeDiff, Nat.reduceEqDiff, Nat.reduceAdd, Nat.reduceMul, Int.reduceBEq, Int.reduceEq, Int.reduceNeg, Int.reduceLT, Int.reduceLE, Int.reduceAdd, Int.reduceSub, Int.reduceMul, Int.reduceToNat, Int.reduceGT, Nat.reduceBEq, Nat.reducePow, Nat.reduceGT, reduceCtorEq, ↓reduceIte, c2]
    exact ⟨z1, q1.perm, AscI.pairwise (by rw [q1.perm.length_eq]; exact a1), k1⟩
theorem srtV_ok {b : Nat} {h : Heap} {p : Option (Nat × Nat)} {c oid : Option Nat} {ys : List Ver} (g : Gr b h p c oid 5 Ver.enc ys) (hB : ys.length < 40) :
    WR (callE Tryz.prog hk 32 [.slice p ys.length c, .func 33 [] []] h) fun r h' => SrtV b h p c oid ys h' := by
  refine WR.call (hH := rfl) Tryz.func32 rfl (n := 9) rfl rfl (by simp) ?_
  simp -dsimp (disch := first | with_reducible assumption | omega | (intro h_; cases h_; done) | (simp only [LN] <;> omega) | (simp only [LF]; done) | (repeat (first | with_reducible assumption | apply Ext.refl | apply Ext.app | (apply Ext.set <;> omega) | (refine Ext.trans ?_ (by assumption))))) only [AX, TY, AD, mapPut, entsOf, oneV, builtinV, idsOf, mapId, touchB, Nat.reduceLT, Nat.reduceLeDiff, Nat.reduceEqDiff, Nat.reduceAdd, Nat.reduceMul, Int.reduceBEq, Int.reduceEq, Int.reduceNeg, Int.reduceLT, Int.reduceLE, Int.reduceAdd, Int.reduceSub, Int.reduceMul, Int.reduceToNat, Int.reduceGT, Nat.reduceBEq, Nat.reducePow, Nat.reduceGT, reduceCtorEq, ↓reduceIte]
  refine (stable_ok g hB).mono ?_
  rintro r h1 q
  simp -dsimp (disch := first | with_reducible assumption | omega | (intro h_; cases h_; done) | (simp only [LN] <;> omega) | (simp only [LF]; done) | (repeat (first | with_reducible assumption | apply Ext.refl | apply Ext.app | (apply Ext.set <;> omega) | (refine Ext.trans ?_ (by assumption))))) only [AX, TY, AD, mapPut, entsOf, oneV, builtinV, idsOf, mapId, touchB, Nat.reduceLT, Nat.reduceLeDiff, Nat.reduceEqDiff, Nat.reduceAdd, Nat.reduceMul, Int.reduceBEq, Int.reduceEq, Int.reduceNeg, Int.reduceLT, Int.reduceLE, Int.reduceAdd, Int.reduceSub, Int.reduceMul, Int.reduceToNat, Int.reduceGT, Nat.reduceBEq, Nat.reducePow, Nat.reduceGT, reduceCtorEq, ↓reduceIte]
  exact q
end Go.Proofs.YtcaolnmpldbkjaaGreatA
