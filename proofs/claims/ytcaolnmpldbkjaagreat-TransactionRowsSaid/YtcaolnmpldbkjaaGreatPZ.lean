/- Words of this session: chapter 47: Insert, Delete, RollbackTo. Words of this session: chapter 47: Begin; a sequence of operations. -/
import Derived.Test.YtcaolnmpldbkjaaGreatPX
namespace Go.Proofs.YtcaolnmpldbkjaaGreatA
open Go Go.Proofs Go.RowKit
set_option linter.unusedVariables false
set_option linter.unusedSimpArgs false
set_option maxRecDepth 10000
set_option maxHeartbeats 4000000
theorem valid_ok {h : Heap} (v : Vl) : WR (callE Tryz.prog hk 49 [.agg v.enc] h) fun r h' => Ext h h' ∧ r = .bool (vOk v) := by
  refine WR.call (hH := rfl) Tryz.func49 rfl (n := 36) rfl rfl (by simp) ?_
  obtain ⟨g, hg, gx, ex⟩ : ∃ g, h ++ [O.cells v.enc .rw] = g ∧ g[h.length]? = some (O.cells v.enc .rw) ∧ Ext h g := ⟨_, rfl, by simp, (by (repeat (first | assumption | apply Ext.refl | apply Ext.app | (apply Ext.set <;> omega) | exact Ext.trans (by assumption) (by assumption) | (refine Ext.trans ?_ (by assumption)))))⟩
  simp only [Vl.enc] at hg gx
  unfold vOk
  by_cases c0 : v.kind = 0
  · cases q : decide (v.text = [])
    · simp -dsimp (disch := first | with_reducible assumption | omega | (intro h_; cases h_; done) | (simp only [LN] <;> omega) | (simp only [LF]; done) | (repeat (first | with_reducible assumption | apply Ext.refl | apply Ext.app | (apply Ext.set <;> omega) | (refine Ext.trans ?_ (by assumption))))) only [AX, TY, AD, mapPut, entsOf, oneV, builtinV, idsOf, mapId, touchB, Nat.reduceLT, Nat.reduceLeDiff, Nat.reduceEqDiff, Nat.reduceAdd, Nat.reduceMul, Int.reduceBEq, Int.reduceEq, Int.reduceNeg, Int.reduceLT, Int.reduceLE, Int.reduceAdd, Int.reduceSub, Int.reduceMul, Int.reduceToNat, Int.reduceGT, Nat.reduceBEq, Nat.reducePow, Nat.reduceGT, reduceCtorEq, ↓reduceIte, Vl.enc, hg, loadN_fact gx, eq_true c0, q]
      exact ex
    · simp -dsimp (disch := first | with_reducible assumption | omega | (intro h_; cases h_; done) | (simp only [LN] <;> omega) | (simp only [LF]; done) | (repeat (first | with_reducible assumption | apply Ext.refl | apply Ext.app | (apply Ext.set <;> omega) | (refine Ext.trans ?_ (by assumption))))) only [AX, TY, AD, mapPut, entsOf, oneV, builtinV, idsOf, mapId, touchB, Nat.reduceLT, Nat.reduceLeDiff, Nat.reduceEqDiff, Nat.reduceAdd, Nat.reduceMul, Int.reduceBEq, Int.reduceEq, Int.reduceNeg, Int.reduceLT, Int.reduceLE, Int.reduceAdd, Int.reduceSub, Int.reduceMul, Int.reduceToNat, Int.reduceGT, Nat.reduceBEq, Nat.reducePow, Nat.reduceGT, reduceCtorEq, ↓reduceIte, Vl.enc, hg, loadN_fact gx, eq_true c0, q]
      exact ex
  by_cases c1 : v.kind = 1
  · cases q : decide (v.int = 0)
    · simp -dsimp (disch := first | with_reducible assumption | omega | (intro h_; cases h_; done) | (simp only [LN] <;> omega) | (simp only [LF]; done) | (repeat (first | with_reducible assumption | apply Ext.refl | apply Ext.app | (apply Ext.set <;> omega) | (refine Ext.trans ?_ (by assumption))))) only [AX, TY, AD, mapPut, entsOf, oneV, builtinV, idsOf, mapId, touchB, Nat.reduceLT, Nat.reduceLeDiff, Nat.reduceEqDiff, Nat.reduceAdd, Nat.reduceMul, Int.reduceBEq, Int.reduceEq, Int.reduceNeg, Int.reduceLT, Int.reduceLE, Int.reduceAdd, Int.reduceSub, Int.reduceMul, Int.reduceToNat, Int.reduceGT, Nat.reduceBEq, Nat.reducePow, Nat.reduceGT, reduceCtorEq, ↓reduceIte, Vl.enc, hg, loadN_fact gx, c0, eq_true c1, q]
      first | exact ex | exact ⟨ex, by simp [c0, c1]⟩
    · cases q2 : decide ((v.text.length : Int) ≤ 255)
      · have q3 : decide (v.text.length ≤ 255) = false := by simp at q2 ⊢; omega
        simp -dsimp (disch := first | with_reducible assumption | omega | (intro h_; cases h_; done) | (simp only [LN] <;> omega) | (simp only [LF]; done) | (repeat (first | with_reducible assumption | apply Ext.refl | apply Ext.app | (apply Ext.set <;> omega) | (refine Ext.trans ?_ (by assumption))))) only [AX, TY, AD, mapPut, entsOf, oneV, builtinV, idsOf, mapId, touchB, Nat.reduceLT, Nat.reduceLeDiff, Nat.reduceEqDiff, Nat.reduceAdd, Nat.reduceMul, Int.reduceBEq, Int.reduceEq, Int.reduceNeg, Int.reduceLT, Int.reduceLE, Int.reduceAdd, Int.reduceSub, Int.reduceMul, Int.reduceToNat, Int.reduceGT, Nat.reduceBEq, Nat.reducePow, Nat.reduceGT, reduceCtorEq, ↓reduceIte, Vl.enc, hg, loadN_fact gx, c0, eq_true c1, q, q2]
        exact ⟨ex, by simp [c0, c1, q3]⟩
      · have q3 : decide (v.text.length ≤ 255) = true := by simp at q2 ⊢; omega
        simp -dsimp (disch := first | with_reducible assumption | omega | (intro h_; cases h_; done) | (simp only [LN] <;> omega) | (simp only [LF]; done) | (repeat (first | with_reducible assumption | apply Ext.refl | apply Ext.app | (apply Ext.set <;> omega) | (refine Ext.trans ?_ (by assumption))))) only [AX, TY, AD, mapPut, entsOf, oneV, builtinV, idsOf, mapId, touchB, Nat.reduceLT, Nat.reduceLeDiff, Nat.reduceEqDiff, Nat.reduceAdd, Nat.reduceMul, Int.reduceBEq, Int.reduceEq, Int.reduceNeg, Int.reduceLT, Int.reduceLE, Int.reduceAdd, Int.reduceSub, Int.reduceMul, Int.reduceToNat, Int.reduceGT, Nat.reduceBEq, Nat.reducePow, Nat.reduceGT, reduceCtorEq, ↓reduceIte, Vl.enc, hg, loadN_fact gx, c0, eq_true c1, q, q2]
        exact ⟨ex, by simp [c0, c1, q3]⟩
  by_cases c2 : v.kind = 2
  · cases q : decide (v.int = 0) <;> cases q1 : decide (v.int = 1) <;> cases q2 : decide (v.text = []) <;> (simp -dsimp (disch := first | with_reducible assumption | omega | (intro h_; cases h_; done) | (simp only [LN] <;> omega) | (simp only [LF]; done) | (repeat (first | with_reducible assumption | apply Ext.refl | apply Ext.app | (apply Ext.set <;> omega) | (refine Ext.trans ?_ (by assumption))))) only [AX, TY, AD, mapPut, entsOf, oneV, builtinV, idsOf, mapId, touchB, Nat.reduceLT, Nat.reduceLeDiff, Nat.reduceEqDiff, Nat.reduceAdd, Nat.reduceMul, Int.reduceBEq, Int.reduceEq, Int.reduceNeg, Int.reduceLT, Int.reduceLE, Int.reduceAdd, Int.reduceSub, Int.reduceMul, Int.reduceToNat, Int.reduceGT, Nat.reduceBEq, Nat.reducePow, Nat.reduceGT, reduceCtorEq, ↓reduceIte, Vl.enc, hg, loadN_fact gx, c0, c1, eq_true c2, q, q1, q2]; try exact ex) <;> exact ⟨ex, by simp [c0, c1, c2]⟩
  · simp -dsimp (disch := first | with_reducible assumption | omega | (intro h_; cases h_; done) | (simp only [LN] <;> omega) | (simp only [LF]; done) | (repeat (first | with_reducible assumption | apply Ext.refl | apply Ext.app | (apply Ext.set <;> omega) | (refine Ext.trans ?_ (by assumption))))) only [AX, TY, AD, mapPut, entsOf, oneV, builtinV, idsOf, mapId, touchB, Nat.reduceLT, Nat.reduceLeDiff, Nat.reduceEqDiff, Nat.reduceAdd, Nat.reduceMul, Int.reduceBEq, Int.reduceEq, Int.reduceNeg, Int.reduceLT, Int.reduceLE, Int.reduceAdd, Int.reduceSub, Int.reduceMul, Int.reduceToNat, Int.reduceGT, Nat.reduceBEq, Nat.reducePow, Nat.reduceGT, reduceCtorEq, ↓reduceIte, Vl.enc, hg, loadN_fact gx, c0, c1, c2]
    first | exact ex | exact ⟨ex, by simp [c0, c1, c2]⟩
/-- A row fits a table. -/
def fitsD (d : Td) (vs : List Vl) : Bool := decide (vs.length = d.cols.length) && (vs.zip d.cols).all fun x => vOk x.1 && decide (x.1.kind = x.2.type)
def okIns (ds : List Td) (ops : List Lo) (v : Ver) : Bool :=
  decide (1 ≤ v.a) && decide (1 ≤ v.b) && decide (v.cr = 0) && decide (v.dl = 0) && (match ds.find? (fun d => decide (d.id = v.a)) with
    | some d => fitsD d v.vals
    | none => false)
def known (ops : List Lo) (a b : Int) : Bool := ops.any fun o => decide (o.a = a ∧ o.b = b)
def gone (ops : List Lo) (a b : Int) : Bool := ops.any fun o => decide (o.a = a ∧ o.b = b) && o.del
/-- What a call of a transaction leaves: its log is what it was, or the new one. -/
def StepT (b : Nat) (h : Heap) (ti : Nat) (snap : Int) (ds : List Td) (ol : Option Nat) (ops' : List Lo) (h' : Heap) : Prop := ∃ ol', TxA b h' ti snap ds ops' ol' ∧ (∀ i, i < b → h'[i]? = h[i]?) ∧ h.length ≤ h'.length
theorem StepT.ext {b : Nat} {h h' : Heap} {ti : Nat} {snap : Int} {ds : List Td} {ops : List Lo} {ol : Option Nat} (t : TxA b h ti snap ds ops ol) (hb : b ≤ h.length) (e : Ext h h') : StepT b h ti snap ds ol ops h' :=
  ⟨ol, t.ext e, fun i hi => e.same (by omega), e.le⟩
def InsT (ds : List Td) (ops : List Lo) (v : Ver) (r : V) (ops' : List Lo) : Prop :=
  (okIns ds ops v = false ∧ r = .int .i64 1 ∧ ops' = ops) ∨ (okIns ds ops v = true ∧ known ops v.a v.b = true ∧ r = .int .i64 5 ∧ ops' = ops) ∨ (okIns ds ops v = true ∧ known ops v.a v.b = false ∧ r = .int .i64 0 ∧ ∃ p c, ops' = ops ++ [⟨false, v.a, v.b, p, c, v.vals⟩])
theorem find_of_idx {α : Type} {q : α → Bool} : ∀ {ys : List α}, ys.find? q = (ys.findIdx? q).bind fun i => ys[i]?
  | [] => rfl
  | y :: ys => by
    rw [List.find?_cons, List.findIdx?_cons]
    cases hq : q y with
    | true => rfl
    | false =>
      simp only [Bool.false_eq_true, if_false]
      rw [find_of_idx (ys := ys)]
      cases ys.findIdx? q <;> rfl
theorem insert_ok {b : Nat} {h : Heap} {ti : Nat} {snap : Int} {ds : List Td} {ops : List Lo} {ol : Option Nat} (t : TxA b h ti snap ds ops ol) (hb : b ≤ h.length) (hB : ops.length ≤ 1000) {v : Ver} (hv : VOK h v) (hvl : v.vals.length ≤ 1000) (hvp : ∀ a x, v.p = some (a, x) → a < b) :
    WR (callE Tryz.prog hk 18 [.ptr (some (ti, 0)), .agg v.enc] h) fun r h' => ∃ ops', InsT ds ops v r ops' ∧ StepT b h ti snap ds ol ops' h' := by
  have tr := t.r
  have hlt := t.lt.1
  refine WR.call (hH := rfl) Tryz.func18 rfl (n := 86) rfl rfl (by simp) ?_
  obtain ⟨g, hg, gx, ex, hgl⟩ : ∃ g, h ++ [O.cells v.enc .rw] = g ∧ g[h.length]? = some (O.cells v.enc .rw) ∧ Ext h g ∧ g.length = h.length + 1 := ⟨_, rfl, by simp, (by (repeat (first | assumption | apply Ext.refl | apply Ext.app | (apply Ext.set <;> omega) | exact Ext.trans (by assumption) (by assumption) | (refine Ext.trans ?_ (by assumption))))), by simp⟩
  have hdef := def_ok (tr.ext ex) v.a
  simp only [Ver.enc] at hg gx
  simp -dsimp (disch := first | with_reducible assumption | omega | (intro h_; cases h_; done) | (simp only [LN] <;> omega) | (simp only [LF]; done) | (repeat (first | with_reducible assumption | apply Ext.refl | apply Ext.app | (apply Ext.set <;> omega) | (refine Ext.trans ?_ (by assumption))))) only [AX, TY, AD, mapPut, entsOf, oneV, builtinV, idsOf, mapId, touchB, Nat.reduceLT, Nat.reduceLeDiff, Nat.reduceEqDiff, Nat.reduceAdd, Nat.reduceMul, Int.reduceBEq, Int.reduceEq, Int.reduceNeg, Int.reduceLT, Int.reduceLE, Int.reduceAdd, Int.reduceSub, Int.reduceMul, Int.reduceToNat, Int.reduceGT, Nat.reduceBEq, Nat.reducePow, Nat.reduceGT, reduceCtorEq, ↓reduceIte, Ver.enc, hg, loadN_fact gx]
  refine hdef.mono ?_
  rintro r h2 ⟨e2, hdr⟩
  have gx2 := e2 _ _ gx
  have ex2 := ex.trans e2
  have lg := e2.le
  unfold DefR at hdr
  have hfi := find_of_idx (q := fun d : Td => decide (d.id = v.a)) (ys := ds)
  have bad : okIns ds ops v = false → ∀ {h' : Heap}, Ext h h' → ∃ ops', InsT ds ops v (.int .i64 1) ops' ∧ StepT b h ti snap ds ol ops' h' := fun hq h' e => ⟨ops, .inl ⟨hq, rfl, rfl⟩, .ext t hb e⟩
  cases hf : ds.findIdx? (fun d => decide (d.id = v.a)) with
  | none =>
    rw [hf] at hdr hfi
    subst hdr
    have hbad : okIns ds ops v = false := by unfold okIns; rw [hfi]; simp
    have ex3 : Ext h2 (h2 ++ [O.cells tdZero .rw]) := (by (repeat (first | assumption | apply Ext.refl | apply Ext.app | (apply Ext.set <;> omega) | exact Ext.trans (by assumption) (by assumption) | (refine Ext.trans ?_ (by assumption)))))
    have gx3 := ex3 _ _ gx2
    have hrv := rvalid_ok (h := h2 ++ [O.cells tdZero .rw]) v.a v.b
    simp only [tdZero] at gx3 hrv
    simp -dsimp (disch := first | with_reducible assumption | omega | (intro h_; cases h_; done) | (simp only [LN] <;> omega) | (simp only [LF]; done) | (repeat (first | with_reducible assumption | apply Ext.refl | apply Ext.app | (apply Ext.set <;> omega) | (refine Ext.trans ?_ (by assumption))))) only [AX, TY, AD, mapPut, entsOf, oneV, builtinV, idsOf, mapId, touchB, Nat.reduceLT, Nat.reduceLeDiff, Nat.reduceEqDiff, Nat.reduceAdd, Nat.reduceMul, Int.reduceBEq, Int.reduceEq, Int.reduceNeg, Int.reduceLT, Int.reduceLE, Int.reduceAdd, Int.reduceSub, Int.reduceMul, Int.reduceToNat, Int.reduceGT, Nat.reduceBEq, Nat.reducePow, Nat.reduceGT, reduceCtorEq, ↓reduceIte, tdZero, loadN_fact gx3]
    refine hrv.mono ?_
    rintro _ h4 ⟨e4, rfl⟩
    have gx4 := e4 _ _ gx3
    have hbb := bad hbad ((ex2.trans ex3).trans e4)
    cases q1 : (decide (1 ≤ v.a) && decide (1 ≤ v.b))
    · simp -dsimp (disch := first | with_reducible assumption | omega | (intro h_; cases h_; done) | (simp only [LN] <;> omega) | (simp only [LF]; done) | (repeat (first | with_reducible assumption | apply Ext.refl | apply Ext.app | (apply Ext.set <;> omega) | (refine Ext.trans ?_ (by assumption))))) only [AX, TY, AD, mapPut, entsOf, oneV, builtinV, idsOf, mapId, touchB, Nat.reduceLT, Nat.reduceLeDiff, Nat.reduceEqDiff, Nat.reduceAdd, Nat.reduceMul, Int.reduceBEq, Int.reduceEq, Int.reduceNeg, Int.reduceLT, Int.reduceLE, Int.reduceAdd, Int.reduceSub, Int.reduceMul, Int.reduceToNat, Int.reduceGT, Nat.reduceBEq, Nat.reducePow, Nat.reduceGT, reduceCtorEq, ↓reduceIte]
      exact hbb
    by_cases q2 : v.cr = 0
    rotate_left
    · simp -dsimp (disch := first | with_reducible assumption | omega | (intro h_; cases h_; done) | (simp only [LN] <;> omega) | (simp only [LF]; done) | (repeat (first | with_reducible assumption | apply Ext.refl | apply Ext.app | (apply Ext.set <;> omega) | (refine Ext.trans ?_ (by assumption))))) only [AX, TY, AD, mapPut, entsOf, oneV, builtinV, idsOf, mapId, touchB, Nat.reduceLT, Nat.reduceLeDiff, Nat.reduceEqDiff, Nat.reduceAdd, Nat.reduceMul, Int.reduceBEq, Int.reduceEq, Int.reduceNeg, Int.reduceLT, Int.reduceLE, Int.reduceAdd, Int.reduceSub, Int.reduceMul, Int.reduceToNat, Int.reduceGT, Nat.reduceBEq, Nat.reducePow, Nat.reduceGT, reduceCtorEq, ↓reduceIte, loadN_fact gx4, q2]
      exact hbb
    by_cases q3 : v.dl = 0
    rotate_left
    · simp -dsimp (disch := first | with_reducible assumption | omega | (intro h_; cases h_; done) | (simp only [LN] <;> omega) | (simp only [LF]; done) | (repeat (first | with_reducible assumption | apply Ext.refl | apply Ext.app | (apply Ext.set <;> omega) | (refine Ext.trans ?_ (by assumption))))) only [AX, TY, AD, mapPut, entsOf, oneV, builtinV, idsOf, mapId, touchB, Nat.reduceLT, Nat.reduceLeDiff, Nat.reduceEqDiff, Nat.reduceAdd, Nat.reduceMul, Int.reduceBEq, Int.reduceEq, Int.reduceNeg, Int.reduceLT, Int.reduceLE, Int.reduceAdd, Int.reduceSub, Int.reduceMul, Int.reduceToNat, Int.reduceGT, Nat.reduceBEq, Nat.reducePow, Nat.reduceGT, reduceCtorEq, ↓reduceIte, loadN_fact gx4, eq_true q2, q3]
      exact hbb
    simp -dsimp (disch := first | with_reducible assumption | omega | (intro h_; cases h_; done) | (simp only [LN] <;> omega) | (simp only [LF]; done) | (repeat (first | with_reducible assumption | apply Ext.refl | apply Ext.app | (apply Ext.set <;> omega) | (refine Ext.trans ?_ (by assumption))))) only [AX, TY, AD, mapPut, entsOf, oneV, builtinV, idsOf, mapId, touchB, Nat.reduceLT, Nat.reduceLeDiff, Nat.reduceEqDiff, Nat.reduceAdd, Nat.reduceMul, Int.reduceBEq, Int.reduceEq, Int.reduceNeg, Int.reduceLT, Int.reduceLE, Int.reduceAdd, Int.reduceSub, Int.reduceMul, Int.reduceToNat, Int.reduceGT, Nat.reduceBEq, Nat.reducePow, Nat.reduceGT, reduceCtorEq, ↓reduceIte, loadN_fact gx4, eq_true q2, eq_true q3]
    exact hbb
  | some i =>
    rw [hf] at hdr hfi
    obtain ⟨hi, rfl⟩ := hdr
    simp only [Option.bind_some, List.getElem?_eq_getElem hi] at hfi
    have hdm := List.getElem_mem hi
    generalize hd : ds[i] = d at hdm hfi
    obtain ⟨⟨td1, td2⟩, td3, td4⟩ := t.dok d hdm
    obtain ⟨g3, hg3, gy3, ex3, hgl3⟩ : ∃ g3, h2 ++ [O.cells d.enc .rw] = g3 ∧ g3[h2.length]? = some (O.cells d.enc .rw) ∧ Ext h2 g3 ∧ g3.length = h2.length + 1 := ⟨_, rfl, by simp, (by (repeat (first | assumption | apply Ext.refl | apply Ext.app | (apply Ext.set <;> omega) | exact Ext.trans (by assumption) (by assumption) | (refine Ext.trans ?_ (by assumption))))), by simp⟩
    have gx3 := ex3 _ _ gx2
    simp only [Td.enc] at hg3 gy3
    have hrv := rvalid_ok (h := g3) v.a v.b
    simp -dsimp (disch := first | with_reducible assumption | omega | (intro h_; cases h_; done) | (simp only [LN] <;> omega) | (simp only [LF]; done) | (repeat (first | with_reducible assumption | apply Ext.refl | apply Ext.app | (apply Ext.set <;> omega) | (refine Ext.trans ?_ (by assumption))))) only [AX, TY, AD, mapPut, entsOf, oneV, builtinV, idsOf, mapId, touchB, Nat.reduceLT, Nat.reduceLeDiff, Nat.reduceEqDiff, Nat.reduceAdd, Nat.reduceMul, Int.reduceBEq, Int.reduceEq, Int.reduceNeg, Int.reduceLT, Int.reduceLE, Int.reduceAdd, Int.reduceSub, Int.reduceMul, Int.reduceToNat, Int.reduceGT, Nat.reduceBEq, Nat.reducePow, Nat.reduceGT, reduceCtorEq, ↓reduceIte, Td.enc, hg3, loadN_fact gx3]
    refine hrv.mono ?_
    rintro _ h4 ⟨e4, rfl⟩
    have gx4 := e4 _ _ gx3
    have gy4 := e4 _ _ gy3
    have ex4 := (ex2.trans ex3).trans e4
    have hok0 : okIns ds ops v = (decide (1 ≤ v.a) && decide (1 ≤ v.b) && decide (v.cr = 0) && decide (v.dl = 0) && fitsD d v.vals) := by unfold okIns; rw [hfi]
    cases q1 : (decide (1 ≤ v.a) && decide (1 ≤ v.b))
    · have hbb := bad (by rw [hok0, q1]; rfl) ex4
      simp -dsimp (disch := first | with_reducible assumption | omega | (intro h_; cases h_; done) | (simp only [LN] <;> omega) | (simp only [LF]; done) | (repeat (first | with_reducible assumption | apply Ext.refl | apply Ext.app | (apply Ext.set <;> omega) | (refine Ext.trans ?_ (by assumption))))) only [AX, TY, AD, mapPut, entsOf, oneV, builtinV, idsOf, mapId, touchB, Nat.reduceLT, Nat.reduceLeDiff, Nat.reduceEqDiff, Nat.reduceAdd, Nat.reduceMul, Int.reduceBEq, Int.reduceEq, Int.reduceNeg, Int.reduceLT, Int.reduceLE, Int.reduceAdd, Int.reduceSub, Int.reduceMul, Int.reduceToNat, Int.reduceGT, Nat.reduceBEq, Nat.reducePow, Nat.reduceGT, reduceCtorEq, ↓reduceIte]
      exact hbb
    by_cases q2 : v.cr = 0
    rotate_left
    · have hbb := bad (by rw [hok0, q1, decide_eq_false q2]; rfl) ex4
      simp -dsimp (disch := first | with_reducible assumption | omega | (intro h_; cases h_; done) | (simp only [LN] <;> omega) | (simp only [LF]; done) | (repeat (first | with_reducible assumption | apply Ext.refl | apply Ext.app | (apply Ext.set <;> omega) | (refine Ext.trans ?_ (by assumption))))) only [AX, TY, AD, mapPut, entsOf, oneV, builtinV, idsOf, mapId, touchB, Nat.reduceLT, Nat.reduceLeDiff, Nat.reduceEqDiff, Nat.reduceAdd, Nat.reduceMul, Int.reduceBEq, Int.reduceEq, Int.reduceNeg, Int.reduceLT, Int.reduceLE, Int.reduceAdd, Int.reduceSub, Int.reduceMul, Int.reduceToNat, Int.reduceGT, Nat.reduceBEq, Nat.reducePow, Nat.reduceGT, reduceCtorEq, ↓reduceIte, loadN_fact gx4, q2]
      exact hbb
    by_cases q3 : v.dl = 0
    rotate_left
    · have hbb := bad (by rw [hok0, q1, decide_eq_true q2, decide_eq_false q3]; rfl) ex4
      simp -dsimp (disch := first | with_reducible assumption | omega | (intro h_; cases h_; done) | (simp only [LN] <;> omega) | (simp only [LF]; done) | (repeat (first | with_reducible assumption | apply Ext.refl | apply Ext.app | (apply Ext.set <;> omega) | (refine Ext.trans ?_ (by assumption))))) only [AX, TY, AD, mapPut, entsOf, oneV, builtinV, idsOf, mapId, touchB, Nat.reduceLT, Nat.reduceLeDiff, Nat.reduceEqDiff, Nat.reduceAdd, Nat.reduceMul, Int.reduceBEq, Int.reduceEq, Int.reduceNeg, Int.reduceLT, Int.reduceLE, Int.reduceAdd, Int.reduceSub, Int.reduceMul, Int.reduceToNat, Int.reduceGT, Nat.reduceBEq, Nat.reducePow, Nat.reduceGT, reduceCtorEq, ↓reduceIte, loadN_fact gx4, eq_true q2, q3]
      exact hbb
    have hok1 : okIns ds ops v = fitsD d v.vals := by rw [hok0, q1, decide_eq_true q2, decide_eq_true q3]; simp
    by_cases q4 : v.vals.length = d.cols.length
    rotate_left
    · have hbb := bad (by rw [hok1]; unfold fitsD; simp [q4]) ex4
      have q4' : ¬ (v.vals.length : Int) = (d.cols.length : Int) := by omega
      simp -dsimp (disch := first | with_reducible assumption | omega | (intro h_; cases h_; done) | (simp only [LN] <;> omega) | (simp only [LF]; done) | (repeat (first | with_reducible assumption | apply Ext.refl | apply Ext.app | (apply Ext.set <;> omega) | (refine Ext.trans ?_ (by assumption))))) only [AX, TY, AD, mapPut, entsOf, oneV, builtinV, idsOf, mapId, touchB, Nat.reduceLT, Nat.reduceLeDiff, Nat.reduceEqDiff, Nat.reduceAdd, Nat.reduceMul, Int.reduceBEq, Int.reduceEq, Int.reduceNeg, Int.reduceLT, Int.reduceLE, Int.reduceAdd, Int.reduceSub, Int.reduceMul, Int.reduceToNat, Int.reduceGT, Nat.reduceBEq, Nat.reducePow, Nat.reduceGT, reduceCtorEq, ↓reduceIte, loadN_fact gx4, loadN_fact gy4, eq_true q2, eq_true q3, q4']
      exact hbb
    have hok2 : okIns ds ops v = (v.vals.zip d.cols).all fun x => vOk x.1 && decide (x.1.kind = x.2.type) := by rw [hok1]; unfold fitsD; simp [q4]
    have q4' : (v.vals.length : Int) = (d.cols.length : Int) := by omega
    have hnv := hv.nil'
    have hnc := td1.nil'
    have hsv := hv.small
    have l3 := ex3.le
    have l4 := e4.le
    simp -dsimp (disch := first | with_reducible assumption | omega | (intro h_; cases h_; done) | (simp only [LN] <;> omega) | (simp only [LF]; done) | (repeat (first | with_reducible assumption | apply Ext.refl | apply Ext.app | (apply Ext.set <;> omega) | (refine Ext.trans ?_ (by assumption))))) only [AX, TY, AD, mapPut, entsOf, oneV, builtinV, idsOf, mapId, touchB, Nat.reduceLT, Nat.reduceLeDiff, Nat.reduceEqDiff, Nat.reduceAdd, Nat.reduceMul, Int.reduceBEq, Int.reduceEq, Int.reduceNeg, Int.reduceLT, Int.reduceLE, Int.reduceAdd, Int.reduceSub, Int.reduceMul, Int.reduceToNat, Int.reduceGT, Nat.reduceBEq, Nat.reducePow, Nat.reduceGT, reduceCtorEq, ↓reduceIte, loadN_fact gx4, loadN_fact gy4, eq_true q2, eq_true q3, eq_true q4']
    refine W.loop (fun m τ hh => Ext h4 hh ∧ ∃ i : Nat, m + i = v.vals.length ∧ τ 0 = .ptr (some (ti, 0)) ∧ τ 3 = .ptr (some (h.length, 0)) ∧ τ 5 = .ptr (some (h2.length, 0)) ∧ τ 45 = .slice v.p v.vals.length v.c ∧ τ 46 = .int .i64 v.vals.length ∧ τ 47 = .int .i64 i ∧ ∀ j (hj : j < v.vals.length) (hj2 : j < d.cols.length), j < i → (vOk v.vals[j] && decide ((v.vals[j]).kind = (d.cols[j]).type)) = true) ?_ (m := v.vals.length) ?_
    rotate_left
    · refine ⟨.refl _, 0, by simp, ?_⟩
      simp -dsimp (disch := first | with_reducible assumption | omega | (intro h_; cases h_; done) | (simp only [LN] <;> omega) | (simp only [LF]; done) | (repeat (first | with_reducible assumption | apply Ext.refl | apply Ext.app | (apply Ext.set <;> omega) | (refine Ext.trans ?_ (by assumption))))) only [AX, TY, AD, mapPut, entsOf, oneV, builtinV, idsOf, mapId, touchB, Nat.reduceLT, Nat.reduceLeDiff, Nat.reduceEqDiff, Nat.reduceAdd, Nat.reduceMul, Int.reduceBEq, Int.reduceEq, Int.reduceNeg, Int.reduceLT, Int.reduceLE, Int.reduceAdd, Int.reduceSub, Int.reduceMul, Int.reduceToNat, Int.reduceGT, Nat.reduceBEq, Nat.reducePow, Nat.reduceGT, reduceCtorEq, ↓reduceIte]
      repeat' (first | assumption | refine And.intro ?_ ?_)
      all_goals first | rfl | omega | (simp; done) | (simp; omega; done) | skip
    rintro m τ hh ⟨e5, i, hm, t0, t3, t5, t45, t46, t47, hall⟩
    have e05 := ex4.trans e5
    have gx5 := e5 _ _ gx4
    have gy5 := e5 _ _ gy4
    by_cases c1 : (i : Int) < (v.vals.length : Int)
    · have hi1 : i < v.vals.length := by omega
      have hi2 : i < d.cols.length := by omega
      have hla := Sl.load0 hv e05 hi1 (m := 3) (by decide)
      have tk : ∀ x : Vl, x.enc.take 3 = x.enc := fun _ => rfl
      rw [tk] at hla
      generalize hw : v.vals[i] = w at hla
      obtain ⟨g6, hg6, gz6, ex6⟩ : ∃ g6, hh ++ [O.cells w.enc .rw] = g6 ∧ g6[hh.length]? = some (O.cells w.enc .rw) ∧ Ext hh g6 := ⟨_, rfl, by simp, (by (repeat (first | assumption | apply Ext.refl | apply Ext.app | (apply Ext.set <;> omega) | exact Ext.trans (by assumption) (by assumption) | (refine Ext.trans ?_ (by assumption)))))⟩
      have gy6 := ex6 _ _ gy5
      have lz6 := lt_of_some gz6
      have ly6 := lt_of_some gy6
      have hvw := valid_ok (h := g6) w
      simp only [Vl.enc] at hla hg6 gz6 hvw
      simp -dsimp (disch := first | with_reducible assumption | omega | (intro h_; cases h_; done) | (simp only [LN] <;> omega) | (simp only [LF]; done) | (repeat (first | with_reducible assumption | apply Ext.refl | apply Ext.app | (apply Ext.set <;> omega) | (refine Ext.trans ?_ (by assumption))))) only [AX, TY, AD, mapPut, entsOf, oneV, builtinV, idsOf, mapId, touchB, Nat.reduceLT, Nat.reduceLeDiff, Nat.reduceEqDiff, Nat.reduceAdd, Nat.reduceMul, Int.reduceBEq, Int.reduceEq, Int.reduceNeg, Int.reduceLT, Int.reduceLE, Int.reduceAdd, Int.reduceSub, Int.reduceMul, Int.reduceToNat, Int.reduceGT, Nat.reduceBEq, Nat.reducePow, Nat.reduceGT, reduceCtorEq, ↓reduceIte, t0, t3, t5, t45, t46, t47, c1, hla, hg6]
      refine W.drawn [(0, []), (1, []), (2, []), (3, []), (4, []), (5, []), (6, [5, 4]), (7, [5, 4]), (8, [7, 6, 5, 4]), (9, [5, 4]), (10, [5, 4]), (11, [5, 4]), (12, []), (13, [])] (by decide +kernel) ?_
      simp -dsimp (disch := first | with_reducible assumption | omega | (intro h_; cases h_; done) | (simp only [LN] <;> omega) | (simp only [LF]; done) | (repeat (first | with_reducible assumption | apply Ext.refl | apply Ext.app | (apply Ext.set <;> omega) | (refine Ext.trans ?_ (by assumption))))) only [AX, TY, AD, mapPut, entsOf, oneV, builtinV, idsOf, mapId, touchB, Nat.reduceLT, Nat.reduceLeDiff, Nat.reduceEqDiff, Nat.reduceAdd, Nat.reduceMul, Int.reduceBEq, Int.reduceEq, Int.reduceNeg, Int.reduceLT, Int.reduceLE, Int.reduceAdd, Int.reduceSub, Int.reduceMul, Int.reduceToNat, Int.reduceGT, Nat.reduceBEq, Nat.reducePow, Nat.reduceGT, reduceCtorEq, ↓reduceIte, t0, t3, t5, t45, t46, t47, loadN_fact gz6]
      refine hvw.mono ?_
      rintro _ h8 ⟨e8, rfl⟩
      have gz8 := e8 _ _ gz6
      have gy8 := e8 _ _ gy6
      have s0 := sameO_ext e8 lz6
      have e08 := (e05.trans ex6).trans e8
      cases hvo : vOk w
      · have hbb := bad (by
          rw [hok2]
          cases hq : (v.vals.zip d.cols).all fun x => vOk x.1 && decide (x.1.kind = x.2.type) with
          | false => rfl
          | true =>
            have := List.all_eq_true.1 hq (v.vals[i], d.cols[i]) (List.mem_of_getElem? (i := i) (by rw [List.getElem?_eq_getElem (by rw [List.length_zip]; omega), List.getElem_zip]))
            simp [hw, hvo] at this) e08
        simp -dsimp (disch := first | with_reducible assumption | omega | (intro h_; cases h_; done) | (simp only [LN] <;> omega) | (simp only [LF]; done) | (repeat (first | with_reducible assumption | apply Ext.refl | apply Ext.app | (apply Ext.set <;> omega) | (refine Ext.trans ?_ (by assumption))))) only [AX, TY, AD, mapPut, entsOf, oneV, builtinV, idsOf, mapId, touchB, Nat.reduceLT, Nat.reduceLeDiff, Nat.reduceEqDiff, Nat.reduceAdd, Nat.reduceMul, Int.reduceBEq, Int.reduceEq, Int.reduceNeg, Int.reduceLT, Int.reduceLE, Int.reduceAdd, Int.reduceSub, Int.reduceMul, Int.reduceToNat, Int.reduceGT, Nat.reduceBEq, Nat.reducePow, Nat.reduceGT, reduceCtorEq, ↓reduceIte, t0, t3, t5, t45, t46, t47, s0]
        exact hbb
      have hcol := (td1.ext (((ex2.trans ex3).trans e4).trans ((e5.trans ex6).trans e8))).load (.refl _) hi2 (o := 1) (m := 1) (by decide)
      have hci : (i : Int) < (d.cols.length : Int) := by omega
      simp only [Col.enc, List.drop_succ_cons, List.drop_zero, List.take] at hcol
      have s1 : sameO h8[sid d.cp]? h8[sid d.cp]? = true := sameO_refl _
      by_cases hkd : w.kind = (d.cols[i]).type
      · have hall' : ∀ j (hj : j < v.vals.length) (hj2 : j < d.cols.length), j < i + 1 → (vOk v.vals[j] && decide ((v.vals[j]).kind = (d.cols[j]).type)) = true := fun j hj hj2 hji => by
          by_cases c : j = i
          · subst c; rw [hw, hvo, decide_eq_true hkd]; rfl
          · exact hall j hj hj2 (by omega)
        have e58 := (e5.trans ex6).trans e8
        simp -dsimp (disch := first | with_reducible assumption | omega | (intro h_; cases h_; done) | (simp only [LN] <;> omega) | (simp only [LF]; done) | (repeat (first | with_reducible assumption | apply Ext.refl | apply Ext.app | (apply Ext.set <;> omega) | (refine Ext.trans ?_ (by assumption))))) only [AX, TY, AD, mapPut, entsOf, oneV, builtinV, idsOf, mapId, touchB, Nat.reduceLT, Nat.reduceLeDiff, Nat.reduceEqDiff, Nat.reduceAdd, Nat.reduceMul, Int.reduceBEq, Int.reduceEq, Int.reduceNeg, Int.reduceLT, Int.reduceLE, Int.reduceAdd, Int.reduceSub, Int.reduceMul, Int.reduceToNat, Int.reduceGT, Nat.reduceBEq, Nat.reducePow, Nat.reduceGT, reduceCtorEq, ↓reduceIte, t0, t3, t5, t45, t46, t47, s0, loadN_fact gz8, loadN_fact gy8, hci, hcol, eq_true hkd, wrap_in]
        refine ⟨m - 1, by omega, e58, i + 1, ?_⟩
        repeat' (first | assumption | refine And.intro ?_ ?_)
        all_goals first | rfl | omega | (simp; done) | (simp; omega; done) | skip
      · have hbb := bad (by
          rw [hok2]
          cases hq : (v.vals.zip d.cols).all fun x => vOk x.1 && decide (x.1.kind = x.2.type) with
          | false => rfl
          | true =>
            have := List.all_eq_true.1 hq (v.vals[i], d.cols[i]) (List.mem_of_getElem? (i := i) (by rw [List.getElem?_eq_getElem (by rw [List.length_zip]; omega), List.getElem_zip]))
            simp [hw, hvo, hkd] at this) e08
        simp -dsimp (disch := first | with_reducible assumption | omega | (intro h_; cases h_; done) | (simp only [LN] <;> omega) | (simp only [LF]; done) | (repeat (first | with_reducible assumption | apply Ext.refl | apply Ext.app | (apply Ext.set <;> omega) | (refine Ext.trans ?_ (by assumption))))) only [AX, TY, AD, mapPut, entsOf, oneV, builtinV, idsOf, mapId, touchB, Nat.reduceLT, Nat.reduceLeDiff, Nat.reduceEqDiff, Nat.reduceAdd, Nat.reduceMul, Int.reduceBEq, Int.reduceEq, Int.reduceNeg, Int.reduceLT, Int.reduceLE, Int.reduceAdd, Int.reduceSub, Int.reduceMul, Int.reduceToNat, Int.reduceGT, Nat.reduceBEq, Nat.reducePow, Nat.reduceGT, reduceCtorEq, ↓reduceIte, t0, t3, t5, t45, t46, t47, s0, loadN_fact gz8, loadN_fact gy8, hci, hcol, hkd]
        exact hbb
    have hfit : okIns ds ops v = true := by
      rw [hok2, List.all_eq_true]
      intro x hx
      obtain ⟨j, hj, rfl⟩ := List.getElem_of_mem hx
      rw [List.getElem_zip]
      rw [List.length_zip] at hj
      exact hall j (by omega) (by omega) (by omega)
    simp -dsimp (disch := first | with_reducible assumption | omega | (intro h_; cases h_; done) | (simp only [LN] <;> omega) | (simp only [LF]; done) | (repeat (first | with_reducible assumption | apply Ext.refl | apply Ext.app | (apply Ext.set <;> omega) | (refine Ext.trans ?_ (by assumption))))) only [AX, TY, AD, mapPut, entsOf, oneV, builtinV, idsOf, mapId, touchB, Nat.reduceLT, Nat.reduceLeDiff, Nat.reduceEqDiff, Nat.reduceAdd, Nat.reduceMul, Int.reduceBEq, Int.reduceEq, Int.reduceNeg, Int.reduceLT, Int.reduceLE, Int.reduceAdd, Int.reduceSub, Int.reduceMul, Int.reduceToNat, Int.reduceGT, Nat.reduceBEq, Nat.reducePow, Nat.reduceGT, reduceCtorEq, ↓reduceIte, t0, t3, t5, t45, t46, t47, c1, loadN_fact gx5]
    have hhas := has_ok (tr.ext e05) v.a v.b any_is
    refine hhas.mono ?_
    rintro _ h7 ⟨e7, rfl⟩
    have hkn : (ops.any fun o => decide (o.a = v.a ∧ o.b = v.b) && true) = known ops v.a v.b := by unfold known; simp only [Bool.and_true]
    rw [hkn]
    cases hk : known ops v.a v.b
    rotate_left
    · simp -dsimp (disch := first | with_reducible assumption | omega | (intro h_; cases h_; done) | (simp only [LN] <;> omega) | (simp only [LF]; done) | (repeat (first | with_reducible assumption | apply Ext.refl | apply Ext.app | (apply Ext.set <;> omega) | (refine Ext.trans ?_ (by assumption))))) only [AX, TY, AD, mapPut, entsOf, oneV, builtinV, idsOf, mapId, touchB, Nat.reduceLT, Nat.reduceLeDiff, Nat.reduceEqDiff, Nat.reduceAdd, Nat.reduceMul, Int.reduceBEq, Int.reduceEq, Int.reduceNeg, Int.reduceLT, Int.reduceLE, Int.reduceAdd, Int.reduceSub, Int.reduceMul, Int.reduceToNat, Int.reduceGT, Nat.reduceBEq, Nat.reducePow, Nat.reduceGT, reduceCtorEq, ↓reduceIte]
      exact ⟨ops, .inr (.inl ⟨hfit, hk, rfl, rfl⟩), .ext t hb (e05.trans e7)⟩
    have e07 := e05.trans e7
    have gx7 := e7 _ _ gx5
    have t7 := t.ext e07
    obtain ⟨⟨dp, dc, lp, lc, hti, hds, hds', hlg⟩, _, _, htb, hto⟩ := t7
    have hv7 : Sl h7 v.p 3 Vl.enc v.vals := Sl.ext hv e07
    have lti := lt_of_some hti
    have lx7 := lt_of_some gx7
    simp -dsimp (disch := first | with_reducible assumption | omega | (intro h_; cases h_; done) | (simp only [LN] <;> omega) | (simp only [LF]; done) | (repeat (first | with_reducible assumption | apply Ext.refl | apply Ext.app | (apply Ext.set <;> omega) | (refine Ext.trans ?_ (by assumption))))) only [AX, TY, AD, mapPut, entsOf, oneV, builtinV, idsOf, mapId, touchB, Nat.reduceLT, Nat.reduceLeDiff, Nat.reduceEqDiff, Nat.reduceAdd, Nat.reduceMul, Int.reduceBEq, Int.reduceEq, Int.reduceNeg, Int.reduceLT, Int.reduceLE, Int.reduceAdd, Int.reduceSub, Int.reduceMul, Int.reduceToNat, Int.reduceGT, Nat.reduceBEq, Nat.reducePow, Nat.reduceGT, reduceCtorEq, ↓reduceIte]
    refine W.drawn [(0, []), (1, [0]), (2, [0]), (3, [0]), (4, [0]), (5, [4, 3, 2, 1, 0]), (6, [4, 3, 2, 1, 0]), (7, [6, 5, 4, 3, 2, 1, 0]), (8, [6, 5, 4, 3, 2, 1, 0]), (9, [6, 5, 4, 3, 2, 1, 0]), (10, [4, 3, 2, 1, 0]), (11, [4, 3, 2, 1, 0]), (12, [0]), (13, []), (14, []), (15, [])] (by decide +kernel) ?_
    simp -dsimp (disch := first | with_reducible assumption | omega | (intro h_; cases h_; done) | (simp only [LN] <;> omega) | (simp only [LF]; done) | (repeat (first | with_reducible assumption | apply Ext.refl | apply Ext.app | (apply Ext.set <;> omega) | (refine Ext.trans ?_ (by assumption))))) only [AX, TY, AD, mapPut, entsOf, oneV, builtinV, idsOf, mapId, touchB, Nat.reduceLT, Nat.reduceLeDiff, Nat.reduceEqDiff, Nat.reduceAdd, Nat.reduceMul, Int.reduceBEq, Int.reduceEq, Int.reduceNeg, Int.reduceLT, Int.reduceLE, Int.reduceAdd, Int.reduceSub, Int.reduceMul, Int.reduceToNat, Int.reduceGT, Nat.reduceBEq, Nat.reducePow, Nat.reduceGT, reduceCtorEq, ↓reduceIte, t0, t3, loadN_fact gx7, loadN_fact hti]
    refine (clone26_ok hv7 (c := v.c) (by omega)).mono ?_
    rintro _ h8 ⟨e8, p', c', oid', rfl, gr'⟩
    have s0 := sameO_ext e8 lti
    have s1 := sameO_ext e8 lx7
    have t8 := t.ext (e07.trans e8)
    have hti8 := e8 _ _ hti
    have le07 := e07.le
    have l8 := e8.le
    have hol : ∀ k, ol = some k → k < h7.length := fun k e => hlg.lt e
    have hp' : ∀ a x, p' = some (a, x) → a ≠ ti ∧ ol ≠ some a := fun a x e => by
      have := gr'.base a (gr'.at e)
      exact ⟨by omega, fun q => by have := hol a q; omega⟩
    have gr8 := hlg.ext e8
    simp -dsimp (disch := first | with_reducible assumption | omega | (intro h_; cases h_; done) | (simp only [LN] <;> omega) | (simp only [LF]; done) | (repeat (first | with_reducible assumption | apply Ext.refl | apply Ext.app | (apply Ext.set <;> omega) | (refine Ext.trans ?_ (by assumption))))) only [AX, TY, AD, mapPut, entsOf, oneV, builtinV, idsOf, mapId, touchB, Nat.reduceLT, Nat.reduceLeDiff, Nat.reduceEqDiff, Nat.reduceAdd, Nat.reduceMul, Int.reduceBEq, Int.reduceEq, Int.reduceNeg, Int.reduceLT, Int.reduceLE, Int.reduceAdd, Int.reduceSub, Int.reduceMul, Int.reduceToNat, Int.reduceGT, Nat.reduceBEq, Nat.reducePow, Nat.reduceGT, reduceCtorEq, ↓reduceIte, s0, s1]
    refine (gr8.wrB (by omega) (hh := h8 ++ [O.cells [V.bool false, V.int .i64 v.a, V.int .i64 v.b, V.slice p' v.vals.length c'] .rw]) (by (repeat (first | assumption | apply Ext.refl | apply Ext.app | (apply Ext.set <;> omega) | exact Ext.trans (by assumption) (by assumption) | (refine Ext.trans ?_ (by assumption))))) [⟨false, v.a, v.b, p', c', v.vals⟩] (snoc_last _ rfl) rfl (fun _ _ => rfl) (fun y hy => by rw [List.mem_singleton] at hy; subst hy; rfl) (by simp; omega) (by simp; omega)).mono ?_
    rintro r h10 ap
    have hle10 : h8.length ≤ h10.length := by obtain ⟨_, _, _, _, _, _, q, _⟩ := ap; exact q
    obtain ⟨dp2, dc2, p2, c2, ol2, rfl, e1, ⟨lp2, lc2, hti2⟩, fin⟩ := t8.log (op := ⟨false, v.a, v.b, p', c', v.vals⟩) gr'.sl hp' ap
    have hti10 := e1.trans hti2
    have s2 : sameO h8[ti]? h10[ti]? = true := by rw [e1]; exact sameO_refl _
    have s3 : sameO h7[ti]? h10[ti]? = true := by rw [e1]; exact s0
    simp -dsimp (disch := first | with_reducible assumption | omega | (intro h_; cases h_; done) | (simp only [LN] <;> omega) | (simp only [LF]; done) | (repeat (first | with_reducible assumption | apply Ext.refl | apply Ext.app | (apply Ext.set <;> omega) | (refine Ext.trans ?_ (by assumption))))) only [AX, TY, AD, mapPut, entsOf, oneV, builtinV, idsOf, mapId, touchB, Nat.reduceLT, Nat.reduceLeDiff, Nat.reduceEqDiff, Nat.reduceAdd, Nat.reduceMul, Int.reduceBEq, Int.reduceEq, Int.reduceNeg, Int.reduceLT, Int.reduceLE, Int.reduceAdd, Int.reduceSub, Int.reduceMul, Int.reduceToNat, Int.reduceGT, Nat.reduceBEq, Nat.reducePow, Nat.reduceGT, reduceCtorEq, ↓reduceIte, s0, s1, s2, s3, storeN_fact hti10 (by simp)]
    have fin' := fin _ rfl
    simp only [List.length_append, List.length_cons, List.length_nil, Nat.zero_add] at fin'
    obtain ⟨f1, f2, f3⟩ := fin'
    exact ⟨_, .inr (.inr ⟨hfit, hk, rfl, p', c', rfl⟩), ol2, f1, fun i hi => (f2 i hi).trans ((e07.trans e8).same (by omega)), by omega⟩
def DelT (ds : List Td) (ops : List Lo) (a b : Int) (r : V) (ops' : List Lo) : Prop :=
  ((decide (1 ≤ a) && decide (1 ≤ b) && ds.any fun d => decide (d.id = a)) = false ∧ r = .int .i64 1 ∧ ops' = ops) ∨ ((decide (1 ≤ a) && decide (1 ≤ b) && ds.any fun d => decide (d.id = a)) = true ∧ gone ops a b = true ∧ r = .int .i64 9 ∧ ops' = ops) ∨
  ((decide (1 ≤ a) && decide (1 ≤ b) && ds.any fun d => decide (d.id = a)) = true ∧ gone ops a b = false ∧ r = .int .i64 0 ∧ ops' = ops ++ [⟨true, a, b, none, some 0, []⟩])
theorem any_of_idx {α : Type} {q : α → Bool} {ys : List α} : ys.any q = (ys.findIdx? q).isSome := by
  rw [Bool.eq_iff_iff, List.any_eq_true, Option.isSome_iff_exists]
  constructor
  · rintro ⟨x, hx, hq⟩
    cases hf : ys.findIdx? q with
    | none => rw [List.findIdx?_eq_none_iff] at hf; have := hf x hx; simp [hq] at this
    | some i => exact ⟨i, rfl⟩
  · rintro ⟨i, hi⟩
    obtain ⟨h1, h2, _⟩ := List.findIdx?_eq_some_iff_getElem.1 hi
    exact ⟨_, List.getElem_mem h1, h2⟩
theorem delete_ok {b : Nat} {h : Heap} {ti : Nat} {snap : Int} {ds : List Td} {ops : List Lo} {ol : Option Nat} (t : TxA b h ti snap ds ops ol) (hb : b ≤ h.length) (hB : ops.length ≤ 1000) (x y : Int) :
    WR (callE Tryz.prog hk 17 [.ptr (some (ti, 0)), .agg [.int .i64 x, .int .i64 y]] h) fun r h' => ∃ ops', DelT ds ops x y r ops' ∧ StepT b h ti snap ds ol ops' h' := by
  have tr := t.r
  have hlt := t.lt.1
  refine WR.call (hH := rfl) Tryz.func17 rfl (n := 35) rfl rfl (by simp) ?_
  obtain ⟨g, hg, gx, ex, hgl⟩ : ∃ g, h ++ [O.cells [V.int .i64 x, V.int .i64 y] .rw] = g ∧ g[h.length]? = some (O.cells [V.int .i64 x, V.int .i64 y] .rw) ∧ Ext h g ∧ g.length = h.length + 1 := ⟨_, rfl, by simp, (by (repeat (first | assumption | apply Ext.refl | apply Ext.app | (apply Ext.set <;> omega) | exact Ext.trans (by assumption) (by assumption) | (refine Ext.trans ?_ (by assumption))))), by simp⟩
  have hdef := def_ok (tr.ext ex) x
  simp -dsimp (disch := first | with_reducible assumption | omega | (intro h_; cases h_; done) | (simp only [LN] <;> omega) | (simp only [LF]; done) | (repeat (first | with_reducible assumption | apply Ext.refl | apply Ext.app | (apply Ext.set <;> omega) | (refine Ext.trans ?_ (by assumption))))) only [AX, TY, AD, mapPut, entsOf, oneV, builtinV, idsOf, mapId, touchB, Nat.reduceLT, Nat.reduceLeDiff, Nat.reduceEqDiff, Nat.reduceAdd, Nat.reduceMul, Int.reduceBEq, Int.reduceEq, Int.reduceNeg, Int.reduceLT, Int.reduceLE, Int.reduceAdd, Int.reduceSub, Int.reduceMul, Int.reduceToNat, Int.reduceGT, Nat.reduceBEq, Nat.reducePow, Nat.reduceGT, reduceCtorEq, ↓reduceIte, hg, loadN_fact gx]
  refine hdef.mono ?_
  rintro r h2 ⟨e2, hdr⟩
  have gx2 := e2 _ _ gx
  have ex2 := ex.trans e2
  have lg := e2.le
  unfold DefR at hdr
  have hany := any_of_idx (q := fun d : Td => decide (d.id = x)) (ys := ds)
  -- the definition, if there is one, is not looked at
  have key : ∃ (d : Td) (ok : Bool), r = .tuple [.agg d.enc, .bool ok] ∧ ok = (ds.findIdx? fun d => decide (d.id = x)).isSome := by
    cases hf : ds.findIdx? (fun d => decide (d.id = x)) with
    | none => rw [hf] at hdr; exact ⟨⟨0, [], none, some 0, [], none, some 0, [], none, 0, some 0⟩, false, hdr, rfl⟩
    | some i => rw [hf] at hdr; obtain ⟨hi, rfl⟩ := hdr; exact ⟨_, _, rfl, rfl⟩
  obtain ⟨d, ok, rfl, hok⟩ := key
  rw [← hok] at hany
  clear hdr
  have bad : (decide (1 ≤ x) && decide (1 ≤ y) && ds.any fun d => decide (d.id = x)) = false → ∀ {h' : Heap}, Ext h h' → ∃ ops', DelT ds ops x y (.int .i64 1) ops' ∧ StepT b h ti snap ds ol ops' h' := fun hq h' e => ⟨ops, .inl ⟨hq, rfl, rfl⟩, .ext t hb e⟩
  have ex3 : Ext h2 (h2 ++ [O.cells d.enc .rw]) := (by (repeat (first | assumption | apply Ext.refl | apply Ext.app | (apply Ext.set <;> omega) | exact Ext.trans (by assumption) (by assumption) | (refine Ext.trans ?_ (by assumption)))))
  have gx3 := ex3 _ _ gx2
  have hrv := rvalid_ok (h := h2 ++ [O.cells d.enc .rw]) x y
  simp only [Td.enc] at gx3 hrv ex3
  simp -dsimp (disch := first | with_reducible assumption | omega | (intro h_; cases h_; done) | (simp only [LN] <;> omega) | (simp only [LF]; done) | (repeat (first | with_reducible assumption | apply Ext.refl | apply Ext.app | (apply Ext.set <;> omega) | (refine Ext.trans ?_ (by assumption))))) only [AX, TY, AD, mapPut, entsOf, oneV, builtinV, idsOf, mapId, touchB, Nat.reduceLT, Nat.reduceLeDiff, Nat.reduceEqDiff, Nat.reduceAdd, Nat.reduceMul, Int.reduceBEq, Int.reduceEq, Int.reduceNeg, Int.reduceLT, Int.reduceLE, Int.reduceAdd, Int.reduceSub, Int.reduceMul, Int.reduceToNat, Int.reduceGT, Nat.reduceBEq, Nat.reducePow, Nat.reduceGT, reduceCtorEq, ↓reduceIte, Td.enc, loadN_fact gx3]
  refine hrv.mono ?_
  rintro _ h4 ⟨e4, rfl⟩
  have gx4 := e4 _ _ gx3
  have ex4 := (ex2.trans ex3).trans e4
  cases q1 : (decide (1 ≤ x) && decide (1 ≤ y))
  · have hbb := bad (by rw [q1]; rfl) ex4
    simp -dsimp (disch := first | with_reducible assumption | omega | (intro h_; cases h_; done) | (simp only [LN] <;> omega) | (simp only [LF]; done) | (repeat (first | with_reducible assumption | apply Ext.refl | apply Ext.app | (apply Ext.set <;> omega) | (refine Ext.trans ?_ (by assumption))))) only [AX, TY, AD, mapPut, entsOf, oneV, builtinV, idsOf, mapId, touchB, Nat.reduceLT, Nat.reduceLeDiff, Nat.reduceEqDiff, Nat.reduceAdd, Nat.reduceMul, Int.reduceBEq, Int.reduceEq, Int.reduceNeg, Int.reduceLT, Int.reduceLE, Int.reduceAdd, Int.reduceSub, Int.reduceMul, Int.reduceToNat, Int.reduceGT, Nat.reduceBEq, Nat.reducePow, Nat.reduceGT, reduceCtorEq, ↓reduceIte]
    exact hbb
  cases ok
  · have hbb := bad (by rw [q1, hany]; rfl) ex4
    simp -dsimp (disch := first | with_reducible assumption | omega | (intro h_; cases h_; done) | (simp only [LN] <;> omega) | (simp only [LF]; done) | (repeat (first | with_reducible assumption | apply Ext.refl | apply Ext.app | (apply Ext.set <;> omega) | (refine Ext.trans ?_ (by assumption))))) only [AX, TY, AD, mapPut, entsOf, oneV, builtinV, idsOf, mapId, touchB, Nat.reduceLT, Nat.reduceLeDiff, Nat.reduceEqDiff, Nat.reduceAdd, Nat.reduceMul, Int.reduceBEq, Int.reduceEq, Int.reduceNeg, Int.reduceLT, Int.reduceLE, Int.reduceAdd, Int.reduceSub, Int.reduceMul, Int.reduceToNat, Int.reduceGT, Nat.reduceBEq, Nat.reducePow, Nat.reduceGT, reduceCtorEq, ↓reduceIte]
    exact hbb
  have hacc : (decide (1 ≤ x) && decide (1 ≤ y) && ds.any fun d => decide (d.id = x)) = true := by rw [q1, hany]; rfl
  have hhas := has_ok (tr.ext ex4) x y del_is
  simp -dsimp (disch := first | with_reducible assumption | omega | (intro h_; cases h_; done) | (simp only [LN] <;> omega) | (simp only [LF]; done) | (repeat (first | with_reducible assumption | apply Ext.refl | apply Ext.app | (apply Ext.set <;> omega) | (refine Ext.trans ?_ (by assumption))))) only [AX, TY, AD, mapPut, entsOf, oneV, builtinV, idsOf, mapId, touchB, Nat.reduceLT, Nat.reduceLeDiff, Nat.reduceEqDiff, Nat.reduceAdd, Nat.reduceMul, Int.reduceBEq, Int.reduceEq, Int.reduceNeg, Int.reduceLT, Int.reduceLE, Int.reduceAdd, Int.reduceSub, Int.reduceMul, Int.reduceToNat, Int.reduceGT, Nat.reduceBEq, Nat.reducePow, Nat.reduceGT, reduceCtorEq, ↓reduceIte, loadN_fact gx4]
  refine hhas.mono ?_
  rintro _ h7 ⟨e7, rfl⟩
  have hkn : (ops.any fun o => decide (o.a = x ∧ o.b = y) && o.del) = gone ops x y := rfl
  rw [hkn]
  have e07 := ex4.trans e7
  have gx7 := e7 _ _ gx4
  cases hk : gone ops x y
  rotate_left
  · simp -dsimp (disch := first | with_reducible assumption | omega | (intro h_; cases h_; done) | (simp only [LN] <;> omega) | (simp only [LF]; done) | (repeat (first | with_reducible assumption | apply Ext.refl | apply Ext.app | (apply Ext.set <;> omega) | (refine Ext.trans ?_ (by assumption))))) only [AX, TY, AD, mapPut, entsOf, oneV, builtinV, idsOf, mapId, touchB, Nat.reduceLT, Nat.reduceLeDiff, Nat.reduceEqDiff, Nat.reduceAdd, Nat.reduceMul, Int.reduceBEq, Int.reduceEq, Int.reduceNeg, Int.reduceLT, Int.reduceLE, Int.reduceAdd, Int.reduceSub, Int.reduceMul, Int.reduceToNat, Int.reduceGT, Nat.reduceBEq, Nat.reducePow, Nat.reduceGT, reduceCtorEq, ↓reduceIte]
    exact ⟨ops, .inr (.inl ⟨hacc, hk, rfl, rfl⟩), .ext t hb e07⟩
  have t7 := t.ext e07
  obtain ⟨⟨dp, dc, lp, lc, hti, hds, hds', hlg⟩, _, _, htb, hto⟩ := id t7
  have lti := lt_of_some hti
  have le07 := e07.le
  simp -dsimp (disch := first | with_reducible assumption | omega | (intro h_; cases h_; done) | (simp only [LN] <;> omega) | (simp only [LF]; done) | (repeat (first | with_reducible assumption | apply Ext.refl | apply Ext.app | (apply Ext.set <;> omega) | (refine Ext.trans ?_ (by assumption))))) only [AX, TY, AD, mapPut, entsOf, oneV, builtinV, idsOf, mapId, touchB, Nat.reduceLT, Nat.reduceLeDiff, Nat.reduceEqDiff, Nat.reduceAdd, Nat.reduceMul, Int.reduceBEq, Int.reduceEq, Int.reduceNeg, Int.reduceLT, Int.reduceLE, Int.reduceAdd, Int.reduceSub, Int.reduceMul, Int.reduceToNat, Int.reduceGT, Nat.reduceBEq, Nat.reducePow, Nat.reduceGT, reduceCtorEq, ↓reduceIte]
  refine W.drawn [(0, []), (1, [0]), (2, [0]), (3, [0]), (4, [0]), (5, [4, 3, 2, 1, 0]), (6, [4, 3, 2, 1, 0]), (7, [4, 3, 2, 1, 0]), (8, [0]), (9, []), (10, []), (11, [])] (by decide +kernel) ?_
  simp -dsimp (disch := first | with_reducible assumption | omega | (intro h_; cases h_; done) | (simp only [LN] <;> omega) | (simp only [LF]; done) | (repeat (first | with_reducible assumption | apply Ext.refl | apply Ext.app | (apply Ext.set <;> omega) | (refine Ext.trans ?_ (by assumption))))) only [AX, TY, AD, mapPut, entsOf, oneV, builtinV, idsOf, mapId, touchB, Nat.reduceLT, Nat.reduceLeDiff, Nat.reduceEqDiff, Nat.reduceAdd, Nat.reduceMul, Int.reduceBEq, Int.reduceEq, Int.reduceNeg, Int.reduceLT, Int.reduceLE, Int.reduceAdd, Int.reduceSub, Int.reduceMul, Int.reduceToNat, Int.reduceGT, Nat.reduceBEq, Nat.reducePow, Nat.reduceGT, reduceCtorEq, ↓reduceIte, loadN_fact gx7, loadN_fact hti]
  refine (hlg.wrB (by omega) (hh := h7 ++ [O.cells [V.bool true, V.int .i64 x, V.int .i64 y, V.slice none 0 (some 0)] .rw]) (by (repeat (first | assumption | apply Ext.refl | apply Ext.app | (apply Ext.set <;> omega) | exact Ext.trans (by assumption) (by assumption) | (refine Ext.trans ?_ (by assumption))))) [⟨true, x, y, none, some 0, []⟩] (snoc_last _ rfl) rfl (fun _ _ => rfl) (fun y hy => by rw [List.mem_singleton] at hy; subst hy; rfl) (by simp; omega) (by simp; omega)).mono ?_
  rintro r h10 ap
  have hle10 : h7.length ≤ h10.length := by obtain ⟨_, _, _, _, _, _, q, _⟩ := ap; exact q
  obtain ⟨dp2, dc2, p2, c2, ol2, rfl, e1, ⟨lp2, lc2, hti2⟩, fin⟩ := t7.log (op := ⟨true, x, y, none, some 0, []⟩) (.nil0 _ _ _) (fun a x e => by cases e) ap
  have hti10 := e1.trans hti2
  have s2 : sameO h7[ti]? h10[ti]? = true := by rw [e1]; exact sameO_refl _
  simp -dsimp (disch := first | with_reducible assumption | omega | (intro h_; cases h_; done) | (simp only [LN] <;> omega) | (simp only [LF]; done) | (repeat (first | with_reducible assumption | apply Ext.refl | apply Ext.app | (apply Ext.set <;> omega) | (refine Ext.trans ?_ (by assumption))))) only [AX, TY, AD, mapPut, entsOf, oneV, builtinV, idsOf, mapId, touchB, Nat.reduceLT, Nat.reduceLeDiff, Nat.reduceEqDiff, Nat.reduceAdd, Nat.reduceMul, Int.reduceBEq, Int.reduceEq, Int.reduceNeg, Int.reduceLT, Int.reduceLE, Int.reduceAdd, Int.reduceSub, Int.reduceMul, Int.reduceToNat, Int.reduceGT, Nat.reduceBEq, Nat.reducePow, Nat.reduceGT, reduceCtorEq, ↓reduceIte, s2, storeN_fact hti10 (by simp)]
  have fin' := fin _ rfl
  simp only [List.length_append, List.length_cons, List.length_nil, Nat.zero_add] at fin'
  obtain ⟨f1, f2, f3⟩ := fin'
  exact ⟨_, .inr (.inr ⟨hacc, hk, rfl, rfl⟩), ol2, f1, fun i hi => (f2 i hi).trans (e07.same (by omega)), by omega⟩

theorem Gr.cutTo {α : Type} {b : Nat} {h : Heap} {p : Option (Nat × Nat)} {c oid : Option Nat} {sz : Nat} {enc : α → List V} {ys : List α} (g : Gr b h p c oid sz enc ys) {n : Nat} (hn : n ≤ ys.length) : Gr b h p (some n) oid sz enc (ys.take n) := by
  have hl : (ys.take n).length = n := by rw [List.length_take]; omega
  have sl := g.sl.part (a := 0) (Nat.zero_le n) hn
  rw [advV_zero, List.drop_zero] at sl
  refine ⟨sl, ?_, g.base, fun y hy => g.leaf y (List.mem_of_mem_take hy)⟩
  rcases g.kind with ⟨rfl, rfl, rfl⟩ | ⟨id, off, C, k, rfl, rfl, e3, e4⟩
  · have := g.sl.nil rfl
    subst this
    have : n = 0 := by simpa using hn
    subst this
    exact .inl ⟨rfl, rfl, rfl⟩
  · refine .inr ⟨id, off, C, k, rfl, rfl, e3, .inl ⟨by rw [hl], ?_⟩⟩
    rcases e4 with ⟨_, q⟩ | ⟨_, rfl, _⟩
    · exact q
    · simp
def RbT (ops : List Lo) (n : Int) (r : V) (ops' : List Lo) : Prop := ((n < 0 ∨ (ops.length : Int) < n) ∧ r = .int .i64 2 ∧ ops' = ops) ∨ (0 ≤ n ∧ n ≤ ops.length ∧ r = .int .i64 0 ∧ ops' = ops.take n.toNat)
theorem clip_ok {h : Heap} {p : Option (Nat × Nat)} {c : Option Nat} {n : Nat} (hc : ∀ m, c = some m → n ≤ m) (hf : c = none → fitsV h 4 p = true) : WR (callE Tryz.prog hk 70 [.slice p n c] h) fun r h' => h = h' ∧ r = .slice p n (some n) := by
  refine WR.call (hH := rfl) Tryz.func70 rfl (n := 9) rfl rfl (by simp) ?_
  have hs : sliceV h 4 p n c none (some (.int .i64 (n : Int))) (some (.int .i64 (n : Int))) = some (.slice p n (some n)) := by
    unfold sliceV
    cases c with
    | none => simp [boundV, hf rfl, advV_zero]
    | some m =>
      have := hc m rfl
      have h2 : (n : Int) ≤ (m : Int) := by omega
      simp [boundV, advV_zero, this, h2]
  simp -dsimp (disch := first | with_reducible assumption | omega | (intro h_; cases h_; done) | (simp only [LN] <;> omega) | (simp only [LF]; done) | (repeat (first | with_reducible assumption | apply Ext.refl | apply Ext.app | (apply Ext.set <;> omega) | (refine Ext.trans ?_ (by assumption))))) only [AX, TY, AD, mapPut, entsOf, oneV, builtinV, idsOf, mapId, touchB, Nat.reduceLT, Nat.reduceLeDiff, Nat.reduceEqDiff, Nat.reduceAdd, Nat.reduceMul, Int.reduceBEq, Int.reduceEq, Int.reduceNeg, Int.reduceLT, Int.reduceLE, Int.reduceAdd, Int.reduceSub, Int.reduceMul, Int.reduceToNat, Int.reduceGT, Nat.reduceBEq, Nat.reducePow, Nat.reduceGT, reduceCtorEq, ↓reduceIte, hs]
theorem rollback_ok {b : Nat} {h : Heap} {ti : Nat} {snap : Int} {ds : List Td} {ops : List Lo} {ol : Option Nat} (t : TxA b h ti snap ds ops ol) (hb : b ≤ h.length) (n : Int) :
    WR (callE Tryz.prog hk 40 [.ptr (some (ti, 0)), .int .i64 n] h) fun r h' => ∃ ops', RbT ops n r ops' ∧ StepT b h ti snap ds ol ops' h' := by
  have tl := t.lt
  obtain ⟨⟨dp, dc, lp, lc, hti, hds, hds', hlg⟩, h4, h5, htb, hto⟩ := id t
  refine WR.call (hH := rfl) Tryz.func40 rfl (n := 26) rfl rfl (by simp) ?_
  by_cases c1 : n < 0
  · simp -dsimp (disch := first | with_reducible assumption | omega | (intro h_; cases h_; done) | (simp only [LN] <;> omega) | (simp only [LF]; done) | (repeat (first | with_reducible assumption | apply Ext.refl | apply Ext.app | (apply Ext.set <;> omega) | (refine Ext.trans ?_ (by assumption))))) only [AX, TY, AD, mapPut, entsOf, oneV, builtinV, idsOf, mapId, touchB, Nat.reduceLT, Nat.reduceLeDiff, Nat.reduceEqDiff, Nat.reduceAdd, Nat.reduceMul, Int.reduceBEq, Int.reduceEq, Int.reduceNeg, Int.reduceLT, Int.reduceLE, Int.reduceAdd, Int.reduceSub, Int.reduceMul, Int.reduceToNat, Int.reduceGT, Nat.reduceBEq, Nat.reducePow, Nat.reduceGT, reduceCtorEq, ↓reduceIte, c1]
    exact ⟨ops, .inl ⟨.inl c1, rfl, rfl⟩, .ext t hb (.refl _)⟩
  by_cases c2 : (ops.length : Int) < n
  · simp -dsimp (disch := first | with_reducible assumption | omega | (intro h_; cases h_; done) | (simp only [LN] <;> omega) | (simp only [LF]; done) | (repeat (first | with_reducible assumption | apply Ext.refl | apply Ext.app | (apply Ext.set <;> omega) | (refine Ext.trans ?_ (by assumption))))) only [AX, TY, AD, mapPut, entsOf, oneV, builtinV, idsOf, mapId, touchB, Nat.reduceLT, Nat.reduceLeDiff, Nat.reduceEqDiff, Nat.reduceAdd, Nat.reduceMul, Int.reduceBEq, Int.reduceEq, Int.reduceNeg, Int.reduceLT, Int.reduceLE, Int.reduceAdd, Int.reduceSub, Int.reduceMul, Int.reduceToNat, Int.reduceGT, Nat.reduceBEq, Nat.reducePow, Nat.reduceGT, reduceCtorEq, ↓reduceIte, c1, c2, loadN_fact hti]
    exact ⟨ops, .inl ⟨.inr c2, rfl, rfl⟩, .ext t hb (.refl _)⟩
  obtain ⟨n, rfl⟩ := Int.eq_ofNat_of_zero_le (show 0 ≤ n by omega)
  have hn : n ≤ ops.length := by omega
  have hs := sliceV_hi (h := h) (sz := 4) (p := lp) (len := ops.length) (c := lc) (k := .i64) (b := (n : Int)) (by omega) (by omega) hlg.room hlg.fit
  rw [Int.toNat_natCast] at hs
  have hcl := clip_ok (h := h) (p := lp) (c := lc) (n := n) (fun m e => by have := hlg.room m e; omega) hlg.fit
  simp -dsimp (disch := first | with_reducible assumption | omega | (intro h_; cases h_; done) | (simp only [LN] <;> omega) | (simp only [LF]; done) | (repeat (first | with_reducible assumption | apply Ext.refl | apply Ext.app | (apply Ext.set <;> omega) | (refine Ext.trans ?_ (by assumption))))) only [AX, TY, AD, mapPut, entsOf, oneV, builtinV, idsOf, mapId, touchB, Nat.reduceLT, Nat.reduceLeDiff, Nat.reduceEqDiff, Nat.reduceAdd, Nat.reduceMul, Int.reduceBEq, Int.reduceEq, Int.reduceNeg, Int.reduceLT, Int.reduceLE, Int.reduceAdd, Int.reduceSub, Int.reduceMul, Int.reduceToNat, Int.reduceGT, Nat.reduceBEq, Nat.reducePow, Nat.reduceGT, reduceCtorEq, ↓reduceIte, c1, c2, loadN_fact hti, hs]
  refine hcl.mono ?_
  rintro _ _ ⟨rfl, rfl⟩
  simp -dsimp (disch := first | with_reducible assumption | omega | (intro h_; cases h_; done) | (simp only [LN] <;> omega) | (simp only [LF]; done) | (repeat (first | with_reducible assumption | apply Ext.refl | apply Ext.app | (apply Ext.set <;> omega) | (refine Ext.trans ?_ (by assumption))))) only [AX, TY, AD, mapPut, entsOf, oneV, builtinV, idsOf, mapId, touchB, Nat.reduceLT, Nat.reduceLeDiff, Nat.reduceEqDiff, Nat.reduceAdd, Nat.reduceMul, Int.reduceBEq, Int.reduceEq, Int.reduceNeg, Int.reduceLT, Int.reduceLE, Int.reduceAdd, Int.reduceSub, Int.reduceMul, Int.reduceToNat, Int.reduceGT, Nat.reduceBEq, Nat.reducePow, Nat.reduceGT, reduceCtorEq, ↓reduceIte, storeN_fact hti (by simp)]
  have hlt := tl.1
  have keep : ∀ a, a ≠ ti → (h.set ti (.cells [.int .i64 snap, .slice dp ds.length dc, .slice lp n (some n)] .rw))[a]? = h[a]? := fun a h1 => set_other _ h1
  have hln : (ops.take n).length = n := by rw [List.length_take]; omega
  refine ⟨ops.take n, .inr ⟨by omega, by omega, rfl, by rw [Int.toNat_natCast]⟩, ol, ⟨⟨dp, dc, lp, some n, by rw [hln]; exact set_same _ hlt, hds.keep fun a o z => keep a (hds' a o z).1, hds', (hlg.cutTo hn).keep fun i hi => keep i fun e => hto (by rw [hi, e])⟩, fun d hd => ?_, fun o ho => ?_, htb, hto⟩, fun i hi => keep i (by omega), by rw [List.length_set]; exact Nat.le_refl _⟩
  · obtain ⟨⟨u1, u2⟩, u3, u4⟩ := h4 d hd
    exact ⟨⟨u1.keep fun a o z => keep a (u3 a o z).1, u2.keep fun a o z => keep a (u4 a o z).1⟩, u3, u4⟩
  · obtain ⟨u1, u2⟩ := h5 o (List.mem_of_mem_take ho)
    exact ⟨u1.keep fun a o z => keep a (u2 a o z).1, u2⟩
end Go.Proofs.YtcaolnmpldbkjaaGreatA
namespace Go.Proofs.YtcaolnmpldbkjaaGreatA
open Go Go.Proofs Go.RowKit
set_option linter.unusedVariables false
set_option linter.unusedSimpArgs false
set_option maxRecDepth 10000
set_option maxHeartbeats 4000000
/-- An operation of the law. -/
structure Oq where
  kind : Int
  v : Ver
  n : Int
def Oq.enc (o : Oq) : List V := [.int .u8 o.kind, .int .i64 o.v.a, .int .i64 o.v.b, .slice o.v.p o.v.vals.length o.v.c, .int .i64 o.v.cr, .int .i64 o.v.dl, .int .i64 o.n]
/-- What an operation does to the log. -/
def StepQ (ds : List Td) (ops : List Lo) (o : Oq) (ops' : List Lo) : Prop :=
  if o.kind = 0 ∨ o.kind = 1 ∨ o.kind = 2 then ∃ r, InsT ds ops o.v r ops' else if o.kind = 3 ∨ o.kind = 4 then ∃ r, DelT ds ops o.v.a o.v.b r ops' else if o.kind = 5 then ∃ r, RbT ops o.n r ops' else ops' = ops
theorem StepQ.ins {ds : List Td} {ops ops' : List Lo} {o : Oq} {r : V} (h : o.kind = 0 ∨ o.kind = 1 ∨ o.kind = 2) (q : InsT ds ops o.v r ops') : StepQ ds ops o ops' := by unfold StepQ; rw [if_pos h]; exact ⟨_, q⟩
theorem StepQ.del {ds : List Td} {ops ops' : List Lo} {o : Oq} {r : V} (h : o.kind = 3 ∨ o.kind = 4) (q : DelT ds ops o.v.a o.v.b r ops') : StepQ ds ops o ops' := by unfold StepQ; rw [if_neg (by omega), if_pos h]; exact ⟨_, q⟩
theorem StepQ.rb {ds : List Td} {ops ops' : List Lo} {o : Oq} {r : V} (h : o.kind = 5) (q : RbT ops o.n r ops') : StepQ ds ops o ops' := by unfold StepQ; rw [if_neg (by omega), if_neg (by omega), if_pos h]; exact ⟨_, q⟩
theorem step_ok {b : Nat} {h : Heap} {ti : Nat} {snap : Int} {ds : List Td} {ops : List Lo} {ol : Option Nat} (t : TxA b h ti snap ds ops ol) (hb : b ≤ h.length) (hB : ops.length ≤ 1000) (o : Oq) (hv : VOK h o.v) (hvl : o.v.vals.length ≤ 1000) (hvp : ∀ a x, o.v.p = some (a, x) → a < b) :
    WR (callE Tryz.prog hk 13 [.ptr (some (ti, 0)), .agg o.enc] h) fun r h' => ∃ ops', StepQ ds ops o ops' ∧ StepT b h ti snap ds ol ops' h' := by
  refine WR.call (hH := rfl) Tryz.func13 rfl (n := 29) rfl rfl (by simp) ?_
  obtain ⟨g, hg, gx, ex, hgl⟩ : ∃ g, h ++ [O.cells o.enc .rw] = g ∧ g[h.length]? = some (O.cells o.enc .rw) ∧ Ext h g ∧ g.length = h.length + 1 := ⟨_, rfl, by simp, (by (repeat (first | assumption | apply Ext.refl | apply Ext.app | (apply Ext.set <;> omega) | exact Ext.trans (by assumption) (by assumption) | (refine Ext.trans ?_ (by assumption))))), by simp⟩
  have tg := t.ext ex
  have back : ∀ {ops' h'}, StepT b g ti snap ds ol ops' h' → StepT b h ti snap ds ol ops' h' := fun {ops' h'} ⟨ol', q1, q2, q3⟩ => ⟨ol', q1, fun i hi => (q2 i hi).trans (ex.same (by omega)), by omega⟩
  have hins := insert_ok tg (by omega) hB (v := o.v) (hv.ext ex) hvl hvp
  have hdel := delete_ok tg (by omega) hB o.v.a o.v.b
  have hrb := rollback_ok tg (by omega) o.n
  simp only [Oq.enc] at hg gx
  simp only [Ver.enc] at hins
  by_cases c0 : o.kind = 0
  · simp -dsimp (disch := first | with_reducible assumption | omega | (intro h_; cases h_; done) | (simp only [LN] <;> omega) | (simp only [LF]; done) | (repeat (first | with_reducible assumption | apply Ext.refl | apply Ext.app | (apply Ext.set <;> omega) | (refine Ext.trans ?_ (by assumption))))) only [AX, TY, AD, mapPut, entsOf, oneV, builtinV, idsOf, mapId, touchB, Nat.reduceLT, Nat.reduceLeDiff, Nat.reduceEqDiff, Nat.reduceAdd, Nat.reduceMul, Int.reduceBEq, Int.reduceEq, Int.reduceNeg, Int.reduceLT, Int.reduceLE, Int.reduceAdd, Int.reduceSub, Int.reduceMul, Int.reduceToNat, Int.reduceGT, Nat.reduceBEq, Nat.reducePow, Nat.reduceGT, reduceCtorEq, ↓reduceIte, Oq.enc, hg, loadN_fact gx, eq_true c0]
    refine hins.mono ?_
    rintro r h2 ⟨ops', q1, q2⟩
    simp -dsimp (disch := first | with_reducible assumption | omega | (intro h_; cases h_; done) | (simp only [LN] <;> omega) | (simp only [LF]; done) | (repeat (first | with_reducible assumption | apply Ext.refl | apply Ext.app | (apply Ext.set <;> omega) | (refine Ext.trans ?_ (by assumption))))) only [AX, TY, AD, mapPut, entsOf, oneV, builtinV, idsOf, mapId, touchB, Nat.reduceLT, Nat.reduceLeDiff, Nat.reduceEqDiff, Nat.reduceAdd, Nat.reduceMul, Int.reduceBEq, Int.reduceEq, Int.reduceNeg, Int.reduceLT, Int.reduceLE, Int.reduceAdd, Int.reduceSub, Int.reduceMul, Int.reduceToNat, Int.reduceGT, Nat.reduceBEq, Nat.reducePow, Nat.reduceGT, reduceCtorEq, ↓reduceIte]
    exact ⟨ops', .ins (.inl c0) q1, back q2⟩
  by_cases c1 : o.kind = 1
  · simp -dsimp (disch := first | with_reducible assumption | omega | (intro h_; cases h_; done) | (simp only [LN] <;> omega) | (simp only [LF]; done) | (repeat (first | with_reducible assumption | apply Ext.refl | apply Ext.app | (apply Ext.set <;> omega) | (refine Ext.trans ?_ (by assumption))))) only [AX, TY, AD, mapPut, entsOf, oneV, builtinV, idsOf, mapId, touchB, Nat.reduceLT, Nat.reduceLeDiff, Nat.reduceEqDiff, Nat.reduceAdd, Nat.reduceMul, Int.reduceBEq, Int.reduceEq, Int.reduceNeg, Int.reduceLT, Int.reduceLE, Int.reduceAdd, Int.reduceSub, Int.reduceMul, Int.reduceToNat, Int.reduceGT, Nat.reduceBEq, Nat.reducePow, Nat.reduceGT, reduceCtorEq, ↓reduceIte, Oq.enc, hg, loadN_fact gx, c0, eq_true c1]
    refine hins.mono ?_
    rintro r h2 ⟨ops', q1, q2⟩
    simp -dsimp (disch := first | with_reducible assumption | omega | (intro h_; cases h_; done) | (simp only [LN] <;> omega) | (simp only [LF]; done) | (repeat (first | with_reducible assumption | apply Ext.refl | apply Ext.app | (apply Ext.set <;> omega) | (refine Ext.trans ?_ (by assumption))))) only [AX, TY, AD, mapPut, entsOf, oneV, builtinV, idsOf, mapId, touchB, Nat.reduceLT, Nat.reduceLeDiff, Nat.reduceEqDiff, Nat.reduceAdd, Nat.reduceMul, Int.reduceBEq, Int.reduceEq, Int.reduceNeg, Int.reduceLT, Int.reduceLE, Int.reduceAdd, Int.reduceSub, Int.reduceMul, Int.reduceToNat, Int.reduceGT, Nat.reduceBEq, Nat.reducePow, Nat.reduceGT, reduceCtorEq, ↓reduceIte]
    exact ⟨ops', .ins (.inr (.inl c1)) q1, back q2⟩
  by_cases c2 : o.kind = 2
  · simp -dsimp (disch := first | with_reducible assumption | omega | (intro h_; cases h_; done) | (simp only [LN] <;> omega) | (simp only [LF]; done) | (repeat (first | with_reducible assumption | apply Ext.refl | apply Ext.app | (apply Ext.set <;> omega) | (refine Ext.trans ?_ (by assumption))))) only [AX, TY, AD, mapPut, entsOf, oneV, builtinV, idsOf, mapId, touchB, Nat.reduceLT, Nat.reduceLeDiff, Nat.reduceEqDiff, Nat.reduceAdd, Nat.reduceMul, Int.reduceBEq, Int.reduceEq, Int.reduceNeg, Int.reduceLT, Int.reduceLE, Int.reduceAdd, Int.reduceSub, Int.reduceMul, Int.reduceToNat, Int.reduceGT, Nat.reduceBEq, Nat.reducePow, Nat.reduceGT, reduceCtorEq, ↓reduceIte, Oq.enc, hg, loadN_fact gx, c0, c1, eq_true c2]
    refine hins.mono ?_
    rintro r h2 ⟨ops', q1, q2⟩
    simp -dsimp (disch := first | with_reducible assumption | omega | (intro h_; cases h_; done) | (simp only [LN] <;> omega) | (simp only [LF]; done) | (repeat (first | with_reducible assumption | apply Ext.refl | apply Ext.app | (apply Ext.set <;> omega) | (refine Ext.trans ?_ (by assumption))))) only [AX, TY, AD, mapPut, entsOf, oneV, builtinV, idsOf, mapId, touchB, Nat.reduceLT, Nat.reduceLeDiff, Nat.reduceEqDiff, Nat.reduceAdd, Nat.reduceMul, Int.reduceBEq, Int.reduceEq, Int.reduceNeg, Int.reduceLT, Int.reduceLE, Int.reduceAdd, Int.reduceSub, Int.reduceMul, Int.reduceToNat, Int.reduceGT, Nat.reduceBEq, Nat.reducePow, Nat.reduceGT, reduceCtorEq, ↓reduceIte]
    exact ⟨ops', .ins (.inr (.inr c2)) q1, back q2⟩
  by_cases c3 : o.kind = 3
  · simp -dsimp (disch := first | with_reducible assumption | omega | (intro h_; cases h_; done) | (simp only [LN] <;> omega) | (simp only [LF]; done) | (repeat (first | with_reducible assumption | apply Ext.refl | apply Ext.app | (apply Ext.set <;> omega) | (refine Ext.trans ?_ (by assumption))))) only [AX, TY, AD, mapPut, entsOf, oneV, builtinV, idsOf, mapId, touchB, Nat.reduceLT, Nat.reduceLeDiff, Nat.reduceEqDiff, Nat.reduceAdd, Nat.reduceMul, Int.reduceBEq, Int.reduceEq, Int.reduceNeg, Int.reduceLT, Int.reduceLE, Int.reduceAdd, Int.reduceSub, Int.reduceMul, Int.reduceToNat, Int.reduceGT, Nat.reduceBEq, Nat.reducePow, Nat.reduceGT, reduceCtorEq, ↓reduceIte, Oq.enc, hg, loadN_fact gx, c0, c1, c2, eq_true c3]
    refine hdel.mono ?_
    rintro r h2 ⟨ops', q1, q2⟩
    simp -dsimp (disch := first | with_reducible assumption | omega | (intro h_; cases h_; done) | (simp only [LN] <;> omega) | (simp only [LF]; done) | (repeat (first | with_reducible assumption | apply Ext.refl | apply Ext.app | (apply Ext.set <;> omega) | (refine Ext.trans ?_ (by assumption))))) only [AX, TY, AD, mapPut, entsOf, oneV, builtinV, idsOf, mapId, touchB, Nat.reduceLT, Nat.reduceLeDiff, Nat.reduceEqDiff, Nat.reduceAdd, Nat.reduceMul, Int.reduceBEq, Int.reduceEq, Int.reduceNeg, Int.reduceLT, Int.reduceLE, Int.reduceAdd, Int.reduceSub, Int.reduceMul, Int.reduceToNat, Int.reduceGT, Nat.reduceBEq, Nat.reducePow, Nat.reduceGT, reduceCtorEq, ↓reduceIte]
    exact ⟨ops', .del (.inl c3) q1, back q2⟩
  by_cases c4 : o.kind = 4
  · simp -dsimp (disch := first | with_reducible assumption | omega | (intro h_; cases h_; done) | (simp only [LN] <;> omega) | (simp only [LF]; done) | (repeat (first | with_reducible assumption | apply Ext.refl | apply Ext.app | (apply Ext.set <;> omega) | (refine Ext.trans ?_ (by assumption))))) only [AX, TY, AD, mapPut, entsOf, oneV, builtinV, idsOf, mapId, touchB, Nat.reduceLT, Nat.reduceLeDiff, Nat.reduceEqDiff, Nat.reduceAdd, Nat.reduceMul, Int.reduceBEq, Int.reduceEq, Int.reduceNeg, Int.reduceLT, Int.reduceLE, Int.reduceAdd, Int.reduceSub, Int.reduceMul, Int.reduceToNat, Int.reduceGT, Nat.reduceBEq, Nat.reducePow, Nat.reduceGT, reduceCtorEq, ↓reduceIte, Oq.enc, hg, loadN_fact gx, c0, c1, c2, c3, eq_true c4]
    refine hdel.mono ?_
    rintro r h2 ⟨ops', q1, q2⟩
    simp -dsimp (disch := first | with_reducible assumption | omega | (intro h_; cases h_; done) | (simp only [LN] <;> omega) | (simp only [LF]; done) | (repeat (first | with_reducible assumption | apply Ext.refl | apply Ext.app | (apply Ext.set <;> omega) | (refine Ext.trans ?_ (by assumption))))) only [AX, TY, AD, mapPut, entsOf, oneV, builtinV, idsOf, mapId, touchB, Nat.reduceLT, Nat.reduceLeDiff, Nat.reduceEqDiff, Nat.reduceAdd, Nat.reduceMul, Int.reduceBEq, Int.reduceEq, Int.reduceNeg, Int.reduceLT, Int.reduceLE, Int.reduceAdd, Int.reduceSub, Int.reduceMul, Int.reduceToNat, Int.reduceGT, Nat.reduceBEq, Nat.reducePow, Nat.reduceGT, reduceCtorEq, ↓reduceIte]
    exact ⟨ops', .del (.inr c4) q1, back q2⟩
  by_cases c5 : o.kind = 5
  · simp -dsimp (disch := first | with_reducible assumption | omega | (intro h_; cases h_; done) | (simp only [LN] <;> omega) | (simp only [LF]; done) | (repeat (first | with_reducible assumption | apply Ext.refl | apply Ext.app | (apply Ext.set <;> omega) | (refine Ext.trans ?_ (by assumption))))) only [AX, TY, AD, mapPut, entsOf, oneV, builtinV, idsOf, mapId, touchB, Nat.reduceLT, Nat.reduceLeDiff, Nat.reduceEqDiff, Nat.reduceAdd, Nat.reduceMul, Int.reduceBEq, Int.reduceEq, Int.reduceNeg, Int.reduceLT, Int.reduceLE, Int.reduceAdd, Int.reduceSub, Int.reduceMul, Int.reduceToNat, Int.reduceGT, Nat.reduceBEq, Nat.reducePow, Nat.reduceGT, reduceCtorEq, ↓reduceIte, Oq.enc, hg, loadN_fact gx, c0, c1, c2, c3, c4, eq_true c5]
    refine hrb.mono ?_
    rintro r h2 ⟨ops', q1, q2⟩
    simp -dsimp (disch := first | with_reducible assumption | omega | (intro h_; cases h_; done) | (simp only [LN] <;> omega) | (simp only [LF]; done) | (repeat (first | with_reducible assumption | apply Ext.refl | apply Ext.app | (apply Ext.set <;> omega) | (refine Ext.trans ?_ (by assumption))))) only [AX, TY, AD, mapPut, entsOf, oneV, builtinV, idsOf, mapId, touchB, Nat.reduceLT, Nat.reduceLeDiff, Nat.reduceEqDiff, Nat.reduceAdd, Nat.reduceMul, Int.reduceBEq, Int.reduceEq, Int.reduceNeg, Int.reduceLT, Int.reduceLE, Int.reduceAdd, Int.reduceSub, Int.reduceMul, Int.reduceToNat, Int.reduceGT, Nat.reduceBEq, Nat.reducePow, Nat.reduceGT, reduceCtorEq, ↓reduceIte]
    exact ⟨ops', .rb c5 q1, back q2⟩
  simp -dsimp (disch := first | with_reducible assumption | omega | (intro h_; cases h_; done) | (simp only [LN] <;> omega) | (simp only [LF]; done) | (repeat (first | with_reducible assumption | apply Ext.refl | apply Ext.app | (apply Ext.set <;> omega) | (refine Ext.trans ?_ (by assumption))))) only [AX, TY, AD, mapPut, entsOf, oneV, builtinV, idsOf, mapId, touchB, Nat.reduceLT, Nat.reduceLeDiff, Nat.reduceEqDiff, Nat.reduceAdd, Nat.reduceMul, Int.reduceBEq, Int.reduceEq, Int.reduceNeg, Int.reduceLT, Int.reduceLE, Int.reduceAdd, Int.reduceSub, Int.reduceMul, Int.reduceToNat, Int.reduceGT, Nat.reduceBEq, Nat.reducePow, Nat.reduceGT, reduceCtorEq, ↓reduceIte, Oq.enc, hg, loadN_fact gx, c0, c1, c2, c3, c4, c5]
  exact ⟨ops, by unfold StepQ; rw [if_neg (by omega), if_neg (by omega), if_neg c5], .ext t hb ex⟩
/-- The heart of a definition. -/
def Td.core (d : Td) : Int × List Col × List Int := (d.id, d.cols, d.keys)
/-- Definitions in memory. -/
structure Tds (h : Heap) (p : Option (Nat × Nat)) (ds : List Td) : Prop where
  sl : Sl h p 5 Td.enc ds
  ok : ∀ d ∈ ds, TdOK h d
theorem begin_ok {h : Heap} {p : Option (Nat × Nat)} {c : Option Nat} {ds : List Td} (hs : Tds h p ds) (hB : ds.length ≤ 1000) (hB2 : ∀ d ∈ ds, d.cols.length ≤ 1000 ∧ d.keys.length ≤ 1000) (snap : Int) :
    WR (callE Tryz.prog hk 12 [.int .i64 snap, .slice p ds.length c] h) fun r h' => ∃ ti ds', r = .ptr (some (ti, 0)) ∧ ds'.map Td.core = ds.map Td.core ∧ TxA h.length h' ti snap ds' [] none ∧ Ext h h' := by
  have hn := hs.sl.nil'
  have hl := hs.sl.small
  refine WR.call (hH := rfl) Tryz.func12 rfl (n := 37) rfl rfl (by simp) ?_
  simp -dsimp (disch := first | with_reducible assumption | omega | (intro h_; cases h_; done) | (simp only [LN] <;> omega) | (simp only [LF]; done) | (repeat (first | with_reducible assumption | apply Ext.refl | apply Ext.app | (apply Ext.set <;> omega) | (refine Ext.trans ?_ (by assumption))))) only [AX, TY, AD, mapPut, entsOf, oneV, builtinV, idsOf, mapId, touchB, Nat.reduceLT, Nat.reduceLeDiff, Nat.reduceEqDiff, Nat.reduceAdd, Nat.reduceMul, Int.reduceBEq, Int.reduceEq, Int.reduceNeg, Int.reduceLT, Int.reduceLE, Int.reduceAdd, Int.reduceSub, Int.reduceMul, Int.reduceToNat, Int.reduceGT, Nat.reduceBEq, Nat.reducePow, Nat.reduceGT, reduceCtorEq, ↓reduceIte]
  refine W.loop (fun m τ hh => ∃ (i : Nat) (zs : List Td) (dp : Option (Nat × Nat)) (dc od : Option Nat), m + i = ds.length ∧ τ 5 = .ptr (some (h.length, 0)) ∧ τ 11 = .slice p ds.length c ∧ τ 12 = .int .i64 ds.length ∧ τ 13 = .int .i64 i ∧ Ext h hh ∧ zs.length = i ∧ zs.map Td.core = (ds.take i).map Td.core ∧ hh[h.length]? = some (.cells [.int .i64 snap, .slice dp zs.length dc, .slice none 0 (some 0)] .rw) ∧ Gr (h.length + 1) hh dp dc od 5 Td.enc zs ∧
      ∀ d ∈ zs, TdOK hh d ∧ (∀ a o, d.cp = some (a, o) → h.length < a ∧ od ≠ some a) ∧ ∀ a o, d.kp = some (a, o) → h.length < a ∧ od ≠ some a) ?_ (m := ds.length) ?_
  rotate_left
  · refine ⟨0, [], none, some 0, none, by simp, ?_⟩
    have g0 := Gr.nil (α := Td) (h.length + 1) (h ++ [O.cells [V.int .i64 snap, V.slice none 0 (some 0), V.slice none 0 (some 0)] .rw]) 5 Td.enc
    have e0 : Ext h (h ++ [O.cells [V.int .i64 snap, V.slice none 0 (some 0), V.slice none 0 (some 0)] .rw]) := (by (repeat (first | assumption | apply Ext.refl | apply Ext.app | (apply Ext.set <;> omega) | exact Ext.trans (by assumption) (by assumption) | (refine Ext.trans ?_ (by assumption)))))
    simp -dsimp (disch := first | with_reducible assumption | omega | (intro h_; cases h_; done) | (simp only [LN] <;> omega) | (simp only [LF]; done) | (repeat (first | with_reducible assumption | apply Ext.refl | apply Ext.app | (apply Ext.set <;> omega) | (refine Ext.trans ?_ (by assumption))))) only [AX, TY, AD, mapPut, entsOf, oneV, builtinV, idsOf, mapId, touchB, Nat.reduceLT, Nat.reduceLeDiff, Nat.reduceEqDiff, Nat.reduceAdd, Nat.reduceMul, Int.reduceBEq, Int.reduceEq, Int.reduceNeg, Int.reduceLT, Int.reduceLE, Int.reduceAdd, Int.reduceSub, Int.reduceMul, Int.reduceToNat, Int.reduceGT, Nat.reduceBEq, Nat.reducePow, Nat.reduceGT, reduceCtorEq, ↓reduceIte]
    repeat' (first | assumption | refine And.intro ?_ ?_)
    all_goals first | rfl | omega | (simp; done) | (simp; omega; done) | skip
  rintro m τ hh ⟨i, zs, dp, dc, od, hm, t5, t11, t12, t13, e, hzl, hzc, gt, gr, hz⟩
  have lt := lt_of_some gt
  by_cases c1 : (i : Int) < (ds.length : Int)
  rotate_left
  · simp -dsimp (disch := first | with_reducible assumption | omega | (intro h_; cases h_; done) | (simp only [LN] <;> omega) | (simp only [LF]; done) | (repeat (first | with_reducible assumption | apply Ext.refl | apply Ext.app | (apply Ext.set <;> omega) | (refine Ext.trans ?_ (by assumption))))) only [AX, TY, AD, mapPut, entsOf, oneV, builtinV, idsOf, mapId, touchB, Nat.reduceLT, Nat.reduceLeDiff, Nat.reduceEqDiff, Nat.reduceAdd, Nat.reduceMul, Int.reduceBEq, Int.reduceEq, Int.reduceNeg, Int.reduceLT, Int.reduceLE, Int.reduceAdd, Int.reduceSub, Int.reduceMul, Int.reduceToNat, Int.reduceGT, Nat.reduceBEq, Nat.reducePow, Nat.reduceGT, reduceCtorEq, ↓reduceIte, t5, t11, t12, t13, c1]
    refine ⟨h.length, zs, rfl, by rw [hzc, List.take_of_length_le (by omega)], ⟨⟨dp, dc, none, some 0, gt, gr.sl, fun a o z => ⟨by have := gr.base a (gr.at z); omega, by simp⟩, .nil _ _ _ _⟩, fun d hd => ⟨(hz d hd).1, fun a o z => ⟨by have := ((hz d hd).2.1 a o z).1; omega, by simp⟩, fun a o z => ⟨by have := ((hz d hd).2.2 a o z).1; omega, by simp⟩⟩, by simp, Nat.le_refl _, by simp⟩, e⟩
  have hi : i < ds.length := by omega
  have hdm := List.getElem_mem hi
  have hla := hs.sl.load0 e hi (m := 5) (by decide)
  have tk : ∀ x : Td, x.enc.take 5 = x.enc := fun _ => rfl
  rw [tk] at hla
  have htk := List.take_succ_eq_append_getElem hi
  obtain ⟨td1, td2⟩ := hs.ok _ hdm
  obtain ⟨hb1, hb2⟩ := hB2 _ hdm
  generalize hd : ds[i] = d at hla htk td1 td2 hb1 hb2
  obtain ⟨g, hg, gx, ex, hgl⟩ : ∃ g, hh ++ [O.cells d.enc .rw] = g ∧ g[hh.length]? = some (O.cells d.enc .rw) ∧ Ext hh g ∧ g.length = hh.length + 1 := ⟨_, rfl, by simp, (by (repeat (first | assumption | apply Ext.refl | apply Ext.app | (apply Ext.set <;> omega) | exact Ext.trans (by assumption) (by assumption) | (refine Ext.trans ?_ (by assumption))))), by simp⟩
  simp only [Td.enc] at hla hg gx
  simp -dsimp (disch := first | with_reducible assumption | omega | (intro h_; cases h_; done) | (simp only [LN] <;> omega) | (simp only [LF]; done) | (repeat (first | with_reducible assumption | apply Ext.refl | apply Ext.app | (apply Ext.set <;> omega) | (refine Ext.trans ?_ (by assumption))))) only [AX, TY, AD, mapPut, entsOf, oneV, builtinV, idsOf, mapId, touchB, Nat.reduceLT, Nat.reduceLeDiff, Nat.reduceEqDiff, Nat.reduceAdd, Nat.reduceMul, Int.reduceBEq, Int.reduceEq, Int.reduceNeg, Int.reduceLT, Int.reduceLE, Int.reduceAdd, Int.reduceSub, Int.reduceMul, Int.reduceToNat, Int.reduceGT, Nat.reduceBEq, Nat.reducePow, Nat.reduceGT, reduceCtorEq, ↓reduceIte, t5, t11, t12, t13, c1, hla, hg]
  refine W.drawn [(0, []), (1, []), (3, [1, 0]), (4, [1, 0]), (2, [4, 3]), (6, []), (5, [6]), (7, []), (8, []), (9, [])] (by decide +kernel) ?_
  simp -dsimp (disch := first | with_reducible assumption | omega | (intro h_; cases h_; done) | (simp only [LN] <;> omega) | (simp only [LF]; done) | (repeat (first | with_reducible assumption | apply Ext.refl | apply Ext.app | (apply Ext.set <;> omega) | (refine Ext.trans ?_ (by assumption))))) only [AX, TY, AD, mapPut, entsOf, oneV, builtinV, idsOf, mapId, touchB, Nat.reduceLT, Nat.reduceLeDiff, Nat.reduceEqDiff, Nat.reduceAdd, Nat.reduceMul, Int.reduceBEq, Int.reduceEq, Int.reduceNeg, Int.reduceLT, Int.reduceLE, Int.reduceAdd, Int.reduceSub, Int.reduceMul, Int.reduceToNat, Int.reduceGT, Nat.reduceBEq, Nat.reducePow, Nat.reduceGT, reduceCtorEq, ↓reduceIte, t5, t11, t12, t13, loadN_fact gx]
  have lgx := lt_of_some gx
  have le1 := e.le
  refine (clone38_ok (td1.ext (e.trans ex)) (c := d.cc) (by omega)).mono ?_
  rintro _ h2 ⟨e2, p2, c2, o2, rfl, gr2⟩
  have gx2 := e2 _ _ gx
  have s0 := sameO_ext e2 lgx
  have l2 := e2.le
  simp -dsimp (disch := first | with_reducible assumption | omega | (intro h_; cases h_; done) | (simp only [LN] <;> omega) | (simp only [LF]; done) | (repeat (first | with_reducible assumption | apply Ext.refl | apply Ext.app | (apply Ext.set <;> omega) | (refine Ext.trans ?_ (by assumption))))) only [AX, TY, AD, mapPut, entsOf, oneV, builtinV, idsOf, mapId, touchB, Nat.reduceLT, Nat.reduceLeDiff, Nat.reduceEqDiff, Nat.reduceAdd, Nat.reduceMul, Int.reduceBEq, Int.reduceEq, Int.reduceNeg, Int.reduceLT, Int.reduceLE, Int.reduceAdd, Int.reduceSub, Int.reduceMul, Int.reduceToNat, Int.reduceGT, Nat.reduceBEq, Nat.reducePow, Nat.reduceGT, reduceCtorEq, ↓reduceIte, t5, t11, t12, t13, s0, loadN_fact gx2]
  refine (clone39_ok (td2.ext ((e.trans ex).trans e2)) (c := d.kc) (by omega)).mono ?_
  rintro _ h3 ⟨e3, p3, c3, o3, rfl, gr3⟩
  have gx3 := e3 _ _ gx2
  have s1 := sameO_ext e3 (lt_of_some gx2)
  have s2 := sameO_ext (e2.trans e3) lgx
  have l3 := e3.le
  have lx3 := lt_of_some gx3
  obtain ⟨h4, hh4, gx4, ex4, hl4, kp4⟩ : ∃ h4, h3.set hh.length (.cells (Td.enc ⟨d.id, d.name, p2, c2, d.cols, p3, c3, d.keys, d.ip, d.il, d.ic⟩) .rw) = h4 ∧ h4[hh.length]? = some (.cells (Td.enc ⟨d.id, d.name, p2, c2, d.cols, p3, c3, d.keys, d.ip, d.il, d.ic⟩) .rw) ∧ Ext hh h4 ∧ h4.length = h3.length ∧ ∀ a, a ≠ hh.length → h4[a]? = h3[a]? := ⟨_, rfl, set_same _ lx3, Ext.set ((ex.trans e2).trans e3) (Nat.le_refl _) _, by simp, fun a ha => set_other _ ha⟩
  have gt4 := ex4 _ _ gt
  have q2 : Sl h4 p2 2 Col.enc d.cols := (gr2.sl.ext e3).keep fun a o z => kp4 a (by have := gr2.base a (gr2.at z); omega)
  have q3 : Sl h4 p3 1 ei d.keys := gr3.sl.keep fun a o z => kp4 a (by have := gr3.base a (gr3.at z); omega)
  simp only [Td.enc] at hh4 gx4
  have gr4 := gr.ext ex4
  have hol : ∀ k, od = some k → h.length + 1 ≤ k ∧ k < hh.length := fun k q => ⟨gr.base k q, gr.lt q⟩
  simp -dsimp (disch := first | with_reducible assumption | omega | (intro h_; cases h_; done) | (simp only [LN] <;> omega) | (simp only [LF]; done) | (repeat (first | with_reducible assumption | apply Ext.refl | apply Ext.app | (apply Ext.set <;> omega) | (refine Ext.trans ?_ (by assumption))))) only [AX, TY, AD, mapPut, entsOf, oneV, builtinV, idsOf, mapId, touchB, Nat.reduceLT, Nat.reduceLeDiff, Nat.reduceEqDiff, Nat.reduceAdd, Nat.reduceMul, Int.reduceBEq, Int.reduceEq, Int.reduceNeg, Int.reduceLT, Int.reduceLE, Int.reduceAdd, Int.reduceSub, Int.reduceMul, Int.reduceToNat, Int.reduceGT, Nat.reduceBEq, Nat.reducePow, Nat.reduceGT, reduceCtorEq, ↓reduceIte, t5, t11, t12, t13, s0, s1, s2, storeN_fact gx3 (by simp), set_same, hh4]
  refine W.drawn [(0, []), (1, [0]), (2, [0]), (3, [0]), (4, [0]), (5, [4, 3, 2, 1, 0]), (6, [4, 3, 2, 1, 0]), (7, [0]), (8, []), (9, []), (10, [])] (by decide +kernel) ?_
  simp -dsimp (disch := first | with_reducible assumption | omega | (intro h_; cases h_; done) | (simp only [LN] <;> omega) | (simp only [LF]; done) | (repeat (first | with_reducible assumption | apply Ext.refl | apply Ext.app | (apply Ext.set <;> omega) | (refine Ext.trans ?_ (by assumption))))) only [AX, TY, AD, mapPut, entsOf, oneV, builtinV, idsOf, mapId, touchB, Nat.reduceLT, Nat.reduceLeDiff, Nat.reduceEqDiff, Nat.reduceAdd, Nat.reduceMul, Int.reduceBEq, Int.reduceEq, Int.reduceNeg, Int.reduceLT, Int.reduceLE, Int.reduceAdd, Int.reduceSub, Int.reduceMul, Int.reduceToNat, Int.reduceGT, Nat.reduceBEq, Nat.reducePow, Nat.reduceGT, reduceCtorEq, ↓reduceIte, t5, t11, t12, t13, loadN_fact gt4, loadN_fact gx4]
  refine (gr4.wrB (by omega) (hh := h4 ++ [O.cells (Td.enc ⟨d.id, d.name, p2, c2, d.cols, p3, c3, d.keys, d.ip, d.il, d.ic⟩) .rw]) (by (repeat (first | assumption | apply Ext.refl | apply Ext.app | (apply Ext.set <;> omega) | exact Ext.trans (by assumption) (by assumption) | (refine Ext.trans ?_ (by assumption))))) [⟨d.id, d.name, p2, c2, d.cols, p3, c3, d.keys, d.ip, d.il, d.ic⟩] (snoc_last _ rfl) rfl (fun _ _ => rfl) (fun y hy => by rw [List.mem_singleton] at hy; subst hy; rfl) (by simp; omega) (by simp; omega)).mono ?_
  rintro r h10 ⟨p5, c5, o5, rfl, gr5, ho, hle, hfr⟩
  have ltH : h.length < h4.length := lt_of_some gt4
  have ltX : hh.length < h4.length := lt_of_some gx4
  have e10 : h10[h.length]? = h4[h.length]? := hfr _ (fun q => by have := hol _ q; omega) ltH
  have e11 : h10[hh.length]? = h4[hh.length]? := hfr _ (fun q => by have := hol _ q; omega) ltX
  have s3 : sameO h4[h.length]? h10[h.length]? = true := by rw [e10]; exact sameO_refl _
  have s4 : sameO h4[hh.length]? h10[hh.length]? = true := by rw [e11]; exact sameO_refl _
  have gt10 := e10.trans gt4
  obtain ⟨h11, hh11, gt11, kp11, hl11⟩ : ∃ h11, h10.set h.length (.cells [.int .i64 snap, .slice p5 (zs.length + 1) c5, .slice none 0 (some 0)] .rw) = h11 ∧ h11[h.length]? = some (.cells [.int .i64 snap, .slice p5 (zs.length + 1) c5, .slice none 0 (some 0)] .rw) ∧ (∀ a, a ≠ h.length → h11[a]? = h10[a]?) ∧ h11.length = h10.length := ⟨_, rfl, set_same _ (by omega), fun a ha => set_other _ ha, by simp⟩
  have hol5 : ∀ k, o5 = some k → h.length + 1 ≤ k := fun k q => gr5.base k q
  have gr11 : Gr (h.length + 1) h11 p5 c5 o5 5 Td.enc (zs ++ [⟨d.id, d.name, p2, c2, d.cols, p3, c3, d.keys, d.ip, d.il, d.ic⟩]) := gr5.keep fun k q => kp11 k (by have := hol5 k q; omega)
  have keep : ∀ a, a < h4.length → a ≠ h.length → od ≠ some a → h11[a]? = h4[a]? := fun a h1 h2 h3 => by rw [kp11 a h2, hfr a h3 h1]
  have e11' : Ext h h11 := Ext.of_keep fun a ha => by
    rw [keep a (by omega) (by omega) (fun q => by have := hol a q; omega)]
    exact (e.trans ex4).same ha
  have no5 : ∀ a, a < h4.length → od ≠ some a → o5 ≠ some a := fun a ha hn q => by
    rcases ho with z | ⟨k, z, z2⟩
    · rw [z] at q; exact hn q
    · rw [z] at q; cases q; omega
  have hz11 : ∀ x ∈ zs ++ [(⟨d.id, d.name, p2, c2, d.cols, p3, c3, d.keys, d.ip, d.il, d.ic⟩ : Td)], TdOK h11 x ∧ (∀ a o, x.cp = some (a, o) → h.length < a ∧ o5 ≠ some a) ∧ ∀ a o, x.kp = some (a, o) → h.length < a ∧ o5 ≠ some a := fun x hx => by
    rcases List.mem_append.1 hx with hx | hx
    · obtain ⟨⟨u1, u2⟩, u3, u4⟩ := hz x hx
      have u1' := u1.ext ex4
      have u2' := u2.ext ex4
      exact ⟨⟨u1'.keep fun a o z => keep a (u1'.lt z) (by have := (u3 a o z).1; omega) (u3 a o z).2, u2'.keep fun a o z => keep a (u2'.lt z) (by have := (u4 a o z).1; omega) (u4 a o z).2⟩, fun a o z => ⟨(u3 a o z).1, no5 a (u1'.lt z) (u3 a o z).2⟩, fun a o z => ⟨(u4 a o z).1, no5 a (u2'.lt z) (u4 a o z).2⟩⟩
    · rw [List.mem_singleton] at hx; subst hx
      have n2 : ∀ a o, p2 = some (a, o) → h.length < a ∧ od ≠ some a := fun a o z => by
        have := gr2.base a (gr2.at z)
        exact ⟨by omega, fun q => by have := hol a q; omega⟩
      have n3 : ∀ a o, p3 = some (a, o) → h.length < a ∧ od ≠ some a := fun a o z => by
        have := gr3.base a (gr3.at z)
        exact ⟨by omega, fun q => by have := hol a q; omega⟩
      exact ⟨⟨q2.keep fun a o z => keep a (q2.lt z) (by have := (n2 a o z).1; omega) (n2 a o z).2, q3.keep fun a o z => keep a (q3.lt z) (by have := (n3 a o z).1; omega) (n3 a o z).2⟩, fun a o z => ⟨(n2 a o z).1, no5 a (q2.lt z) (n2 a o z).2⟩, fun a o z => ⟨(n3 a o z).1, no5 a (q3.lt z) (n3 a o z).2⟩⟩
  have hzc' : (zs ++ [(⟨d.id, d.name, p2, c2, d.cols, p3, c3, d.keys, d.ip, d.il, d.ic⟩ : Td)]).map Td.core = (ds.take (i + 1)).map Td.core := by
    rw [htk, List.map_append, List.map_append, hzc]; rfl
  have hln : (zs ++ [(⟨d.id, d.name, p2, c2, d.cols, p3, c3, d.keys, d.ip, d.il, d.ic⟩ : Td)]).length = zs.length + 1 := by simp
  rw [← hln] at gt11
  simp -dsimp (disch := first | with_reducible assumption | omega | (intro h_; cases h_; done) | (simp only [LN] <;> omega) | (simp only [LF]; done) | (repeat (first | with_reducible assumption | apply Ext.refl | apply Ext.app | (apply Ext.set <;> omega) | (refine Ext.trans ?_ (by assumption))))) only [AX, TY, AD, mapPut, entsOf, oneV, builtinV, idsOf, mapId, touchB, Nat.reduceLT, Nat.reduceLeDiff, Nat.reduceEqDiff, Nat.reduceAdd, Nat.reduceMul, Int.reduceBEq, Int.reduceEq, Int.reduceNeg, Int.reduceLT, Int.reduceLE, Int.reduceAdd, Int.reduceSub, Int.reduceMul, Int.reduceToNat, Int.reduceGT, Nat.reduceBEq, Nat.reducePow, Nat.reduceGT, reduceCtorEq, ↓reduceIte, t5, t11, t12, t13, s3, s4, storeN_fact gt10 (by simp), hh11, wrap_in]
  refine ⟨m - 1, by omega, i + 1, zs ++ [⟨d.id, d.name, p2, c2, d.cols, p3, c3, d.keys, d.ip, d.il, d.ic⟩], p5, c5, o5, ?_⟩
  repeat' (first | assumption | refine And.intro ?_ ?_)
  all_goals first | rfl | omega | (simp; done) | (simp; omega; done) | skip
/-- A list of operations, one after the other. -/
def StepsQ (ds : List Td) : List Lo → List Oq → List Lo → Prop
  | ops, [], ops' => ops' = ops
  | ops, o :: os, ops' => ∃ mid, StepQ ds ops o mid ∧ StepsQ ds mid os ops'
theorem StepsQ.snoc {ds : List Td} {o : Oq} {c : List Lo} : ∀ {os : List Oq} {a b : List Lo}, StepsQ ds a os b → StepQ ds b o c → StepsQ ds a (os ++ [o]) c
  | [], a, b, h, q => by cases h; exact ⟨c, q, rfl⟩
  | x :: os, a, b, ⟨mid, h1, h2⟩, q => ⟨mid, h1, StepsQ.snoc h2 q⟩
theorem StepQ.len {ds : List Td} {ops ops' : List Lo} {o : Oq} (q : StepQ ds ops o ops') : ops'.length ≤ ops.length + 1 := by
  unfold StepQ at q
  split at q
  · obtain ⟨r, ⟨_, _, rfl⟩ | ⟨_, _, _, rfl⟩ | ⟨_, _, _, p, c, rfl⟩⟩ := q
    · omega
    · omega
    · simp
  · split at q
    · obtain ⟨r, ⟨_, _, rfl⟩ | ⟨_, _, _, rfl⟩ | ⟨_, _, _, rfl⟩⟩ := q
      · omega
      · omega
      · simp
    · split at q
      · obtain ⟨r, ⟨_, _, rfl⟩ | ⟨_, _, _, rfl⟩⟩ := q
        · omega
        · rw [List.length_take]; omega
      · subst q; omega
/-- Operations in memory. -/
structure Oqs (h : Heap) (p : Option (Nat × Nat)) (os : List Oq) : Prop where
  sl : Sl h p 7 Oq.enc os
  ok : ∀ o ∈ os, VOK h o.v
theorem begun_ok {h : Heap} {p q : Option (Nat × Nat)} {c d : Option Nat} {ds : List Td} {os : List Oq} (hs : Tds h p ds) (ho : Oqs h q os) (hB : ds.length ≤ 1000) (hB2 : ∀ d ∈ ds, d.cols.length ≤ 1000 ∧ d.keys.length ≤ 1000) (hB3 : os.length ≤ 100) (hB4 : ∀ o ∈ os, o.v.vals.length ≤ 1000) (snap : Int) :
    WR (callE Tryz.prog hk 7 [.int .i64 snap, .slice p ds.length c, .slice q os.length d] h) fun r h' => ∃ ti ds' ops, r = .ptr (some (ti, 0)) ∧ ds'.map Td.core = ds.map Td.core ∧ StepsQ ds' [] os ops ∧ TxR h' ti snap ds' ops ∧ Ext h h' := by
  have hn := ho.sl.nil'
  have hl := ho.sl.small
  refine WR.call (hH := rfl) Tryz.func7 rfl (n := 24) rfl rfl (by simp) ?_
  simp -dsimp (disch := first | with_reducible assumption | omega | (intro h_; cases h_; done) | (simp only [LN] <;> omega) | (simp only [LF]; done) | (repeat (first | with_reducible assumption | apply Ext.refl | apply Ext.app | (apply Ext.set <;> omega) | (refine Ext.trans ?_ (by assumption))))) only [AX, TY, AD, mapPut, entsOf, oneV, builtinV, idsOf, mapId, touchB, Nat.reduceLT, Nat.reduceLeDiff, Nat.reduceEqDiff, Nat.reduceAdd, Nat.reduceMul, Int.reduceBEq, Int.reduceEq, Int.reduceNeg, Int.reduceLT, Int.reduceLE, Int.reduceAdd, Int.reduceSub, Int.reduceMul, Int.reduceToNat, Int.reduceGT, Nat.reduceBEq, Nat.reducePow, Nat.reduceGT, reduceCtorEq, ↓reduceIte]
  refine (begin_ok hs hB hB2 snap).mono ?_
  rintro _ h1 ⟨ti, ds', rfl, hcore, t1, e1⟩
  simp -dsimp (disch := first | with_reducible assumption | omega | (intro h_; cases h_; done) | (simp only [LN] <;> omega) | (simp only [LF]; done) | (repeat (first | with_reducible assumption | apply Ext.refl | apply Ext.app | (apply Ext.set <;> omega) | (refine Ext.trans ?_ (by assumption))))) only [AX, TY, AD, mapPut, entsOf, oneV, builtinV, idsOf, mapId, touchB, Nat.reduceLT, Nat.reduceLeDiff, Nat.reduceEqDiff, Nat.reduceAdd, Nat.reduceMul, Int.reduceBEq, Int.reduceEq, Int.reduceNeg, Int.reduceLT, Int.reduceLE, Int.reduceAdd, Int.reduceSub, Int.reduceMul, Int.reduceToNat, Int.reduceGT, Nat.reduceBEq, Nat.reducePow, Nat.reduceGT, reduceCtorEq, ↓reduceIte]
  refine W.loop (fun m τ hh => ∃ (i : Nat) (ops : List Lo) (ol : Option Nat), m + i = os.length ∧ τ 7 = .ptr (some (ti, 0)) ∧ τ 13 = .slice q os.length d ∧ τ 14 = .int .i64 os.length ∧ τ 15 = .int .i64 i ∧ StepsQ ds' [] (os.take i) ops ∧ TxA h.length hh ti snap ds' ops ol ∧ ops.length ≤ i ∧ Ext h hh) ?_ (m := os.length) ?_
  rotate_left
  · refine ⟨0, [], none, by simp, ?_⟩
    have h0 : StepsQ ds' [] (os.take 0) [] := rfl
    simp -dsimp (disch := first | with_reducible assumption | omega | (intro h_; cases h_; done) | (simp only [LN] <;> omega) | (simp only [LF]; done) | (repeat (first | with_reducible assumption | apply Ext.refl | apply Ext.app | (apply Ext.set <;> omega) | (refine Ext.trans ?_ (by assumption))))) only [AX, TY, AD, mapPut, entsOf, oneV, builtinV, idsOf, mapId, touchB, Nat.reduceLT, Nat.reduceLeDiff, Nat.reduceEqDiff, Nat.reduceAdd, Nat.reduceMul, Int.reduceBEq, Int.reduceEq, Int.reduceNeg, Int.reduceLT, Int.reduceLE, Int.reduceAdd, Int.reduceSub, Int.reduceMul, Int.reduceToNat, Int.reduceGT, Nat.reduceBEq, Nat.reducePow, Nat.reduceGT, reduceCtorEq, ↓reduceIte]
    repeat' (first | assumption | refine And.intro ?_ ?_)
    all_goals first | rfl | omega | (simp; done) | (simp; omega; done) | skip
  rintro m τ hh ⟨i, ops, ol, hm, t7, t13, t14, t15, hst, t, hol, e⟩
  by_cases c1 : (i : Int) < (os.length : Int)
  rotate_left
  · simp -dsimp (disch := first | with_reducible assumption | omega | (intro h_; cases h_; done) | (simp only [LN] <;> omega) | (simp only [LF]; done) | (repeat (first | with_reducible assumption | apply Ext.refl | apply Ext.app | (apply Ext.set <;> omega) | (refine Ext.trans ?_ (by assumption))))) only [AX, TY, AD, mapPut, entsOf, oneV, builtinV, idsOf, mapId, touchB, Nat.reduceLT, Nat.reduceLeDiff, Nat.reduceEqDiff, Nat.reduceAdd, Nat.reduceMul, Int.reduceBEq, Int.reduceEq, Int.reduceNeg, Int.reduceLT, Int.reduceLE, Int.reduceAdd, Int.reduceSub, Int.reduceMul, Int.reduceToNat, Int.reduceGT, Nat.reduceBEq, Nat.reducePow, Nat.reduceGT, reduceCtorEq, ↓reduceIte, t7, t13, t14, t15, c1]
    rw [List.take_of_length_le (by omega)] at hst
    exact ⟨ti, ds', ops, rfl, hcore, hst, t.r, e⟩
  have hi : i < os.length := by omega
  have hom := List.getElem_mem hi
  have hla := ho.sl.load0 e hi (m := 7) (by decide)
  have tk : ∀ x : Oq, x.enc.take 7 = x.enc := fun _ => rfl
  rw [tk] at hla
  have htk := List.take_succ_eq_append_getElem hi
  have hvk := ho.ok _ hom
  have hv4 := hB4 _ hom
  generalize hx : os[i] = x at hla htk hvk hv4
  obtain ⟨g, hg, gx, ex, hgl⟩ : ∃ g, hh ++ [O.cells x.enc .rw] = g ∧ g[hh.length]? = some (O.cells x.enc .rw) ∧ Ext hh g ∧ g.length = hh.length + 1 := ⟨_, rfl, by simp, (by (repeat (first | assumption | apply Ext.refl | apply Ext.app | (apply Ext.set <;> omega) | exact Ext.trans (by assumption) (by assumption) | (refine Ext.trans ?_ (by assumption))))), by simp⟩
  have le := e.le
  have hstep := step_ok (t.ext ex) (by omega) (by omega) x (hvk.ext (e.trans ex)) hv4 fun a o z => Sl.lt hvk z
  simp only [Oq.enc] at hla hg gx hstep
  simp -dsimp (disch := first | with_reducible assumption | omega | (intro h_; cases h_; done) | (simp only [LN] <;> omega) | (simp only [LF]; done) | (repeat (first | with_reducible assumption | apply Ext.refl | apply Ext.app | (apply Ext.set <;> omega) | (refine Ext.trans ?_ (by assumption))))) only [AX, TY, AD, mapPut, entsOf, oneV, builtinV, idsOf, mapId, touchB, Nat.reduceLT, Nat.reduceLeDiff, Nat.reduceEqDiff, Nat.reduceAdd, Nat.reduceMul, Int.reduceBEq, Int.reduceEq, Int.reduceNeg, Int.reduceLT, Int.reduceLE, Int.reduceAdd, Int.reduceSub, Int.reduceMul, Int.reduceToNat, Int.reduceGT, Nat.reduceBEq, Nat.reducePow, Nat.reduceGT, reduceCtorEq, ↓reduceIte, t7, t13, t14, t15, c1, hla, hg, loadN_fact gx]
  refine hstep.mono ?_
  rintro r h4 ⟨ops', q1, ol', t4, k4, l4⟩
  have hst' := hst.snoc q1
  rw [← htk] at hst'
  have hlen' := q1.len
  have hol' : ops'.length ≤ i + 1 := by omega
  have e4 : Ext h h4 := Ext.of_keep fun a ha => (k4 a ha).trans ((e.trans ex).same ha)
  simp -dsimp (disch := first | with_reducible assumption | omega | (intro h_; cases h_; done) | (simp only [LN] <;> omega) | (simp only [LF]; done) | (repeat (first | with_reducible assumption | apply Ext.refl | apply Ext.app | (apply Ext.set <;> omega) | (refine Ext.trans ?_ (by assumption))))) only [AX, TY, AD, mapPut, entsOf, oneV, builtinV, idsOf, mapId, touchB, Nat.reduceLT, Nat.reduceLeDiff, Nat.reduceEqDiff, Nat.reduceAdd, Nat.reduceMul, Int.reduceBEq, Int.reduceEq, Int.reduceNeg, Int.reduceLT, Int.reduceLE, Int.reduceAdd, Int.reduceSub, Int.reduceMul, Int.reduceToNat, Int.reduceGT, Nat.reduceBEq, Nat.reducePow, Nat.reduceGT, reduceCtorEq, ↓reduceIte, t7, t13, t14, t15, wrap_in]
  refine ⟨m - 1, by omega, i + 1, ops', ol', ?_⟩
  repeat' (first | assumption | refine And.intro ?_ ?_)
  all_goals first | rfl | omega | (simp; done) | (simp; omega; done) | skip
end Go.Proofs.YtcaolnmpldbkjaaGreatA
