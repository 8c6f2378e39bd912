/- Words of this session: chapter 47: a transaction in memory; its tables; has. Words of this session: chapter 47: has; what is inserted, deleted, rolled back. -/
import Derived.Test.YtcaolnmpldbkjaaGreatPV
namespace Go.Proofs.YtcaolnmpldbkjaaGreatA
open Go Go.Proofs Go.RowKit
set_option linter.unusedVariables false
set_option linter.unusedSimpArgs false
set_option maxRecDepth 10000
set_option maxHeartbeats 2000000
/-- The definition of a table. -/
structure Td where
  id : Int
  name : List Int
  cp : Option (Nat × Nat)
  cc : Option Nat
  cols : List Col
  kp : Option (Nat × Nat)
  kc : Option Nat
  keys : List Int
  ip : Option (Nat × Nat)
  il : Nat
  ic : Option Nat
def Td.enc (d : Td) : List V := [.int .i64 d.id, .str d.name, .slice d.cp d.cols.length d.cc, .slice d.kp d.keys.length d.kc, .slice d.ip d.il d.ic]
def TdOK (h : Heap) (d : Td) : Prop := Sl h d.cp 2 Col.enc d.cols ∧ Sl h d.kp 1 ei d.keys
/-- An operation of the log. -/
structure Lo where
  del : Bool
  a : Int
  b : Int
  p : Option (Nat × Nat)
  c : Option Nat
  vals : List Vl
def Lo.enc (o : Lo) : List V := [.bool o.del, .int .i64 o.a, .int .i64 o.b, .slice o.p o.vals.length o.c]
/-- A transaction, to be read. -/
structure TxR (h : Heap) (ti : Nat) (snap : Int) (ds : List Td) (ops : List Lo) : Prop where
  blk : ∃ dp dc lp lc, h[ti]? = some (.cells [.int .i64 snap, .slice dp ds.length dc, .slice lp ops.length lc] .rw) ∧ Sl h dp 5 Td.enc ds ∧ Sl h lp 4 Lo.enc ops
  dok : ∀ d ∈ ds, TdOK h d
  lok : ∀ o ∈ ops, Sl h o.p 3 Vl.enc o.vals
theorem TxR.ext {h hh : Heap} {ti : Nat} {snap : Int} {ds : List Td} {ops : List Lo} (t : TxR h ti snap ds ops) (e : Ext h hh) : TxR hh ti snap ds ops := by
  obtain ⟨⟨dp, dc, lp, lc, h1, h2, h3⟩, h4, h5⟩ := t
  exact ⟨⟨dp, dc, lp, lc, e _ _ h1, h2.ext e, h3.ext e⟩, fun d hd => ⟨(h4 d hd).1.ext e, (h4 d hd).2.ext e⟩, fun o ho => (h5 o ho).ext e⟩
def idxI (o : Option Nat) : Int := match o with
  | some i => i
  | none => -1
theorem findIdx_step {α : Type} {q : α → Bool} {ys : List α} {i : Nat} (hi : i < ys.length) (hn : ∀ j (hj : j < ys.length), j < i → q ys[j] = false) : (q ys[i] = true → ys.findIdx? q = some i) ∧ (q ys[i] = false → ∀ j (hj : j < ys.length), j < i + 1 → q ys[j] = false) := by
  refine ⟨fun h => ?_, fun h j hj hji => ?_⟩
  · rw [List.findIdx?_eq_some_iff_getElem]
    exact ⟨hi, h, fun j hji => by simp [hn j (by omega) hji]⟩
  · by_cases c : j = i
    · subst c; exact h
    · exact hn j hj (by omega)
theorem findIdx_no {α : Type} {q : α → Bool} {ys : List α} (hn : ∀ j (hj : j < ys.length), q ys[j] = false) : ys.findIdx? q = none := by
  rw [List.findIdx?_eq_none_iff]
  intro x hx
  obtain ⟨j, hj, rfl⟩ := List.getElem_of_mem hx
  exact hn j hj
theorem idxTd_ok {h : Heap} {p : Option (Nat × Nat)} {c : Option Nat} {ys : List Td} (hs : Sl h p 5 Td.enc ys) (F : Nat) (cap : List V) (q : Td → Bool) (hq : ∀ hh, Ext h hh → ∀ v ∈ ys, WR (callE Tryz.prog hk F (.agg (Td.enc v) :: cap) hh) fun r h' => Ext hh h' ∧ r = .bool (q v)) :
    WR (callE Tryz.prog hk 61 [.slice p ys.length c, .func F [] cap] h) fun r h' => Ext h h' ∧ r = .int .i64 (idxI (ys.findIdx? q)) := by
  have hn := hs.nil'
  have hl := hs.small
  refine WR.call (hH := rfl) Tryz.func61 rfl (n := 19) rfl rfl (by simp) ?_
  simp -dsimp (disch := first | with_reducible assumption | omega | (intro h_; cases h_; done) | (simp only [LN] <;> omega) | (simp only [LF]; done) | (repeat (first | with_reducible assumption | apply Ext.refl | apply Ext.app | (apply Ext.set <;> omega) | (refine Ext.trans ?_ (by assumption))))) only [AX, TY, AD, mapPut, entsOf, oneV, builtinV, idsOf, mapId, touchB, Nat.reduceLT, Nat.reduceLeDiff, Nat.reduceEqDiff, Nat.reduceAdd, Nat.reduceMul, Int.reduceBEq, Int.reduceEq, Int.reduceNeg, Int.reduceLT, Int.reduceLE, Int.reduceAdd, Int.reduceSub, Int.reduceMul, Int.reduceToNat, Int.reduceGT, Nat.reduceBEq, Nat.reducePow, Nat.reduceGT, reduceCtorEq, ↓reduceIte]
  refine W.loop (fun m τ hh => Ext h hh ∧ ∃ i : Nat, m + i = ys.length ∧ τ 0 = .slice p ys.length c ∧ τ 1 = .func F [] cap ∧ τ 7 = .int .i64 ys.length ∧ τ 8 = .int .i64 i ∧ ∀ j (hj : j < ys.length), j < i → q ys[j] = false) ?_ (m := ys.length) ?_
  rotate_left
  · refine ⟨.refl _, 0, by simp, ?_⟩
    simp -dsimp (disch := first | with_reducible assumption | omega | (intro h_; cases h_; done) | (simp only [LN] <;> omega) | (simp only [LF]; done) | (repeat (first | with_reducible assumption | apply Ext.refl | apply Ext.app | (apply Ext.set <;> omega) | (refine Ext.trans ?_ (by assumption))))) only [AX, TY, AD, mapPut, entsOf, oneV, builtinV, idsOf, mapId, touchB, Nat.reduceLT, Nat.reduceLeDiff, Nat.reduceEqDiff, Nat.reduceAdd, Nat.reduceMul, Int.reduceBEq, Int.reduceEq, Int.reduceNeg, Int.reduceLT, Int.reduceLE, Int.reduceAdd, Int.reduceSub, Int.reduceMul, Int.reduceToNat, Int.reduceGT, Nat.reduceBEq, Nat.reducePow, Nat.reduceGT, reduceCtorEq, ↓reduceIte]
    repeat' (first | assumption | refine And.intro ?_ ?_)
    all_goals first | rfl | omega | (simp; done) | (simp; omega; done) | skip
  rintro m τ hh ⟨e, i, hm, t0, t1, t7, t8, hno⟩
  by_cases h1 : (i : Int) < (ys.length : Int)
  rotate_left
  · simp -dsimp (disch := first | with_reducible assumption | omega | (intro h_; cases h_; done) | (simp only [LN] <;> omega) | (simp only [LF]; done) | (repeat (first | with_reducible assumption | apply Ext.refl | apply Ext.app | (apply Ext.set <;> omega) | (refine Ext.trans ?_ (by assumption))))) only [AX, TY, AD, mapPut, entsOf, oneV, builtinV, idsOf, mapId, touchB, Nat.reduceLT, Nat.reduceLeDiff, Nat.reduceEqDiff, Nat.reduceAdd, Nat.reduceMul, Int.reduceBEq, Int.reduceEq, Int.reduceNeg, Int.reduceLT, Int.reduceLE, Int.reduceAdd, Int.reduceSub, Int.reduceMul, Int.reduceToNat, Int.reduceGT, Nat.reduceBEq, Nat.reducePow, Nat.reduceGT, reduceCtorEq, ↓reduceIte, t0, t1, t7, t8, h1]
    refine ⟨e, ?_⟩
    rw [findIdx_no fun j hj => hno j hj (by omega)]; rfl
  have hi : i < ys.length := by omega
  have hst := findIdx_step hi hno
  have hla := hs.load0 e hi (m := 5) (by decide)
  have tk : ∀ v : Td, (Td.enc v).take 5 = Td.enc v := fun _ => rfl
  rw [tk] at hla
  have hqq := hq hh e _ (List.getElem_mem hi)
  simp -dsimp (disch := first | with_reducible assumption | omega | (intro h_; cases h_; done) | (simp only [LN] <;> omega) | (simp only [LF]; done) | (repeat (first | with_reducible assumption | apply Ext.refl | apply Ext.app | (apply Ext.set <;> omega) | (refine Ext.trans ?_ (by assumption))))) only [AX, TY, AD, mapPut, entsOf, oneV, builtinV, idsOf, mapId, touchB, Nat.reduceLT, Nat.reduceLeDiff, Nat.reduceEqDiff, Nat.reduceAdd, Nat.reduceMul, Int.reduceBEq, Int.reduceEq, Int.reduceNeg, Int.reduceLT, Int.reduceLE, Int.reduceAdd, Int.reduceSub, Int.reduceMul, Int.reduceToNat, Int.reduceGT, Nat.reduceBEq, Nat.reducePow, Nat.reduceGT, reduceCtorEq, ↓reduceIte, t0, t1, t7, t8, h1, hla]
  refine hqq.mono ?_
  rintro _ h2 ⟨e2, rfl⟩
  cases hb : q ys[i]
  · simp -dsimp (disch := first | with_reducible assumption | omega | (intro h_; cases h_; done) | (simp only [LN] <;> omega) | (simp only [LF]; done) | (repeat (first | with_reducible assumption | apply Ext.refl | apply Ext.app | (apply Ext.set <;> omega) | (refine Ext.trans ?_ (by assumption))))) only [AX, TY, AD, mapPut, entsOf, oneV, builtinV, idsOf, mapId, touchB, Nat.reduceLT, Nat.reduceLeDiff, Nat.reduceEqDiff, Nat.reduceAdd, Nat.reduceMul, Int.reduceBEq, Int.reduceEq, Int.reduceNeg, Int.reduceLT, Int.reduceLE, Int.reduceAdd, Int.reduceSub, Int.reduceMul, Int.reduceToNat, Int.reduceGT, Nat.reduceBEq, Nat.reducePow, Nat.reduceGT, reduceCtorEq, ↓reduceIte, t0, t1, t7, t8, hb, wrap_in]
    have := hst.2 hb
    refine ⟨m - 1, by omega, e.trans e2, i + 1, ?_⟩
    repeat' (first | assumption | refine And.intro ?_ ?_)
    all_goals first | rfl | omega | (simp; done) | (simp; omega; done) | skip
  · simp -dsimp (disch := first | with_reducible assumption | omega | (intro h_; cases h_; done) | (simp only [LN] <;> omega) | (simp only [LF]; done) | (repeat (first | with_reducible assumption | apply Ext.refl | apply Ext.app | (apply Ext.set <;> omega) | (refine Ext.trans ?_ (by assumption))))) only [AX, TY, AD, mapPut, entsOf, oneV, builtinV, idsOf, mapId, touchB, Nat.reduceLT, Nat.reduceLeDiff, Nat.reduceEqDiff, Nat.reduceAdd, Nat.reduceMul, Int.reduceBEq, Int.reduceEq, Int.reduceNeg, Int.reduceLT, Int.reduceLE, Int.reduceAdd, Int.reduceSub, Int.reduceMul, Int.reduceToNat, Int.reduceGT, Nat.reduceBEq, Nat.reducePow, Nat.reduceGT, reduceCtorEq, ↓reduceIte, t0, t1, t7, t8, hb]
    refine ⟨e.trans e2, ?_⟩
    rw [hst.1 hb]; rfl
theorem idxLo_ok {h : Heap} {p : Option (Nat × Nat)} {c : Option Nat} {ys : List Lo} (hs : Sl h p 4 Lo.enc ys) (F : Nat) (cap : List V) (q : Lo → Bool) (hq : ∀ hh, Ext h hh → ∀ v ∈ ys, WR (callE Tryz.prog hk F (.agg (Lo.enc v) :: cap) hh) fun r h' => Ext hh h' ∧ r = .bool (q v)) :
    WR (callE Tryz.prog hk 89 [.slice p ys.length c, .func F [] cap] h) fun r h' => Ext h h' ∧ r = .int .i64 (idxI (ys.findIdx? q)) := by
  have hn := hs.nil'
  have hl := hs.small
  refine WR.call (hH := rfl) Tryz.func89 rfl (n := 19) rfl rfl (by simp) ?_
  simp -dsimp (disch := first | with_reducible assumption | omega | (intro h_; cases h_; done) | (simp only [LN] <;> omega) | (simp only [LF]; done) | (repeat (first | with_reducible assumption | apply Ext.refl | apply Ext.app | (apply Ext.set <;> omega) | (refine Ext.trans ?_ (by assumption))))) only [AX, TY, AD, mapPut, entsOf, oneV, builtinV, idsOf, mapId, touchB, Nat.reduceLT, Nat.reduceLeDiff, Nat.reduceEqDiff, Nat.reduceAdd, Nat.reduceMul, Int.reduceBEq, Int.reduceEq, Int.reduceNeg, Int.reduceLT, Int.reduceLE, Int.reduceAdd, Int.reduceSub, Int.reduceMul, Int.reduceToNat, Int.reduceGT, Nat.reduceBEq, Nat.reducePow, Nat.reduceGT, reduceCtorEq, ↓reduceIte]
  refine W.loop (fun m τ hh => Ext h hh ∧ ∃ i : Nat, m + i = ys.length ∧ τ 0 = .slice p ys.length c ∧ τ 1 = .func F [] cap ∧ τ 7 = .int .i64 ys.length ∧ τ 8 = .int .i64 i ∧ ∀ j (hj : j < ys.length), j < i → q ys[j] = false) ?_ (m := ys.length) ?_
  rotate_left
  · refine ⟨.refl _, 0, by simp, ?_⟩
    simp -dsimp (disch := first | with_reducible assumption | omega | (intro h_; cases h_; done) | (simp only [LN] <;> omega) | (simp only [LF]; done) | (repeat (first | with_reducible assumption | apply Ext.refl | apply Ext.app | (apply Ext.set <;> omega) | (refine Ext.trans ?_ (by assumption))))) only [AX, TY, AD, mapPut, entsOf, oneV, builtinV, idsOf, mapId, touchB, Nat.reduceLT, Nat.reduceLeDiff, Nat.reduceEqDiff, Nat.reduceAdd, Nat.reduceMul, Int.reduceBEq, Int.reduceEq, Int.reduceNeg, Int.reduceLT, Int.reduceLE, Int.reduceAdd, Int.reduceSub, Int.reduceMul, Int.reduceToNat, Int.reduceGT, Nat.reduceBEq, Nat.reducePow, Nat.reduceGT, reduceCtorEq, ↓reduceIte]
    repeat' (first | assumption | refine And.intro ?_ ?_)
    all_goals first | rfl | omega | (simp; done) | (simp; omega; done) | skip
  rintro m τ hh ⟨e, i, hm, t0, t1, t7, t8, hno⟩
  by_cases h1 : (i : Int) < (ys.length : Int)
  rotate_left
  · simp -dsimp (disch := first | with_reducible assumption | omega | (intro h_; cases h_; done) | (simp only [LN] <;> omega) | (simp only [LF]; done) | (repeat (first | with_reducible assumption | apply Ext.refl | apply Ext.app | (apply Ext.set <;> omega) | (refine Ext.trans ?_ (by assumption))))) only [AX, TY, AD, mapPut, entsOf, oneV, builtinV, idsOf, mapId, touchB, Nat.reduceLT, Nat.reduceLeDiff, Nat.reduceEqDiff, Nat.reduceAdd, Nat.reduceMul, Int.reduceBEq, Int.reduceEq, Int.reduceNeg, Int.reduceLT, Int.reduceLE, Int.reduceAdd, Int.reduceSub, Int.reduceMul, Int.reduceToNat, Int.reduceGT, Nat.reduceBEq, Nat.reducePow, Nat.reduceGT, reduceCtorEq, ↓reduceIte, t0, t1, t7, t8, h1]
    refine ⟨e, ?_⟩
    rw [findIdx_no fun j hj => hno j hj (by omega)]; rfl
  have hi : i < ys.length := by omega
  have hst := findIdx_step hi hno
  have hla := hs.load0 e hi (m := 4) (by decide)
  have tk : ∀ v : Lo, (Lo.enc v).take 4 = Lo.enc v := fun _ => rfl
  rw [tk] at hla
  have hqq := hq hh e _ (List.getElem_mem hi)
  simp -dsimp (disch := first | with_reducible assumption | omega | (intro h_; cases h_; done) | (simp only [LN] <;> omega) | (simp only [LF]; done) | (repeat (first | with_reducible assumption | apply Ext.refl | apply Ext.app | (apply Ext.set <;> omega) | (refine Ext.trans ?_ (by assumption))))) only [AX, TY, AD, mapPut, entsOf, oneV, builtinV, idsOf, mapId, touchB, Nat.reduceLT, Nat.reduceLeDiff, Nat.reduceEqDiff, Nat.reduceAdd, Nat.reduceMul, Int.reduceBEq, Int.reduceEq, Int.reduceNeg, Int.reduceLT, Int.reduceLE, Int.reduceAdd, Int.reduceSub, Int.reduceMul, Int.reduceToNat, Int.reduceGT, Nat.reduceBEq, Nat.reducePow, Nat.reduceGT, reduceCtorEq, ↓reduceIte, t0, t1, t7, t8, h1, hla]
  refine hqq.mono ?_
  rintro _ h2 ⟨e2, rfl⟩
  cases hb : q ys[i]
  · simp -dsimp (disch := first | with_reducible assumption | omega | (intro h_; cases h_; done) | (simp only [LN] <;> omega) | (simp only [LF]; done) | (repeat (first | with_reducible assumption | apply Ext.refl | apply Ext.app | (apply Ext.set <;> omega) | (refine Ext.trans ?_ (by assumption))))) only [AX, TY, AD, mapPut, entsOf, oneV, builtinV, idsOf, mapId, touchB, Nat.reduceLT, Nat.reduceLeDiff, Nat.reduceEqDiff, Nat.reduceAdd, Nat.reduceMul, Int.reduceBEq, Int.reduceEq, Int.reduceNeg, Int.reduceLT, Int.reduceLE, Int.reduceAdd, Int.reduceSub, Int.reduceMul, Int.reduceToNat, Int.reduceGT, Nat.reduceBEq, Nat.reducePow, Nat.reduceGT, reduceCtorEq, ↓reduceIte, t0, t1, t7, t8, hb, wrap_in]
    have := hst.2 hb
    refine ⟨m - 1, by omega, e.trans e2, i + 1, ?_⟩
    repeat' (first | assumption | refine And.intro ?_ ?_)
    all_goals first | rfl | omega | (simp; done) | (simp; omega; done) | skip
  · simp -dsimp (disch := first | with_reducible assumption | omega | (intro h_; cases h_; done) | (simp only [LN] <;> omega) | (simp only [LF]; done) | (repeat (first | with_reducible assumption | apply Ext.refl | apply Ext.app | (apply Ext.set <;> omega) | (refine Ext.trans ?_ (by assumption))))) only [AX, TY, AD, mapPut, entsOf, oneV, builtinV, idsOf, mapId, touchB, Nat.reduceLT, Nat.reduceLeDiff, Nat.reduceEqDiff, Nat.reduceAdd, Nat.reduceMul, Int.reduceBEq, Int.reduceEq, Int.reduceNeg, Int.reduceLT, Int.reduceLE, Int.reduceAdd, Int.reduceSub, Int.reduceMul, Int.reduceToNat, Int.reduceGT, Nat.reduceBEq, Nat.reducePow, Nat.reduceGT, reduceCtorEq, ↓reduceIte, t0, t1, t7, t8, hb]
    refine ⟨e.trans e2, ?_⟩
    rw [hst.1 hb]; rfl
theorem cntLo_ok {h : Heap} {p : Option (Nat × Nat)} {c : Option Nat} {ys : List Lo} (hs : Sl h p 4 Lo.enc ys) (F : Nat) (cap : List V) (q : Lo → Bool) (hq : ∀ hh, Ext h hh → ∀ v ∈ ys, WR (callE Tryz.prog hk F (.agg (Lo.enc v) :: cap) hh) fun r h' => Ext hh h' ∧ r = .bool (q v)) :
    WR (callE Tryz.prog hk 66 [.slice p ys.length c, .func F [] cap] h) fun r h' => Ext h h' ∧ r = .bool (ys.any q) := by
  refine WR.call (hH := rfl) Tryz.func66 rfl (n := 9) rfl rfl (by simp) ?_
  simp -dsimp (disch := first | with_reducible assumption | omega | (intro h_; cases h_; done) | (simp only [LN] <;> omega) | (simp only [LF]; done) | (repeat (first | with_reducible assumption | apply Ext.refl | apply Ext.app | (apply Ext.set <;> omega) | (refine Ext.trans ?_ (by assumption))))) only [AX, TY, AD, mapPut, entsOf, oneV, builtinV, idsOf, mapId, touchB, Nat.reduceLT, Nat.reduceLeDiff, Nat.reduceEqDiff, Nat.reduceAdd, Nat.reduceMul, Int.reduceBEq, Int.reduceEq, Int.reduceNeg, Int.reduceLT, Int.reduceLE, Int.reduceAdd, Int.reduceSub, Int.reduceMul, Int.reduceToNat, Int.reduceGT, Nat.reduceBEq, Nat.reducePow, Nat.reduceGT, reduceCtorEq, ↓reduceIte]
  refine (idxLo_ok hs F cap q hq).mono ?_
  rintro _ h2 ⟨e2, rfl⟩
  simp -dsimp (disch := first | with_reducible assumption | omega | (intro h_; cases h_; done) | (simp only [LN] <;> omega) | (simp only [LF]; done) | (repeat (first | with_reducible assumption | apply Ext.refl | apply Ext.app | (apply Ext.set <;> omega) | (refine Ext.trans ?_ (by assumption))))) only [AX, TY, AD, mapPut, entsOf, oneV, builtinV, idsOf, mapId, touchB, Nat.reduceLT, Nat.reduceLeDiff, Nat.reduceEqDiff, Nat.reduceAdd, Nat.reduceMul, Int.reduceBEq, Int.reduceEq, Int.reduceNeg, Int.reduceLT, Int.reduceLE, Int.reduceAdd, Int.reduceSub, Int.reduceMul, Int.reduceToNat, Int.reduceGT, Nat.reduceBEq, Nat.reducePow, Nat.reduceGT, reduceCtorEq, ↓reduceIte]
  refine ⟨e2, ?_⟩
  cases hf : ys.findIdx? q with
  | none =>
    rw [List.findIdx?_eq_none_iff] at hf
    have : ys.any q = false := by
      rw [List.any_eq_false]
      intro x hx; simp [hf x hx]
    rw [this]; rfl
  | some i =>
    obtain ⟨hi, h1, _⟩ := List.findIdx?_eq_some_iff_getElem.1 hf
    have : ys.any q = true := List.any_eq_true.2 ⟨_, List.getElem_mem hi, h1⟩
    rw [this]
    simp [idxI]
theorem def1_ok {h : Heap} {k : Nat} {table : Int} (g : h[k]? = some (.cells [.int .i64 table] .rw)) (d : Td) : WR (callE Tryz.prog hk 62 [.agg d.enc, .ptr (some (k, 0))] h) fun r h' => Ext h h' ∧ r = .bool (decide (d.id = table)) := by
  refine WR.call (hH := rfl) Tryz.func62 rfl (n := 8) rfl rfl (by simp) ?_
  obtain ⟨g2, hg, gx, ex⟩ : ∃ g2, h ++ [O.cells d.enc .rw] = g2 ∧ g2[h.length]? = some (O.cells d.enc .rw) ∧ Ext h g2 := ⟨_, rfl, by simp, (by (repeat (first | assumption | apply Ext.refl | apply Ext.app | (apply Ext.set <;> omega) | exact Ext.trans (by assumption) (by assumption) | (refine Ext.trans ?_ (by assumption)))))⟩
  have gk := ex _ _ g
  simp only [Td.enc] at hg gx
  simp -dsimp (disch := first | with_reducible assumption | omega | (intro h_; cases h_; done) | (simp only [LN] <;> omega) | (simp only [LF]; done) | (repeat (first | with_reducible assumption | apply Ext.refl | apply Ext.app | (apply Ext.set <;> omega) | (refine Ext.trans ?_ (by assumption))))) only [AX, TY, AD, mapPut, entsOf, oneV, builtinV, idsOf, mapId, touchB, Nat.reduceLT, Nat.reduceLeDiff, Nat.reduceEqDiff, Nat.reduceAdd, Nat.reduceMul, Int.reduceBEq, Int.reduceEq, Int.reduceNeg, Int.reduceLT, Int.reduceLE, Int.reduceAdd, Int.reduceSub, Int.reduceMul, Int.reduceToNat, Int.reduceGT, Nat.reduceBEq, Nat.reducePow, Nat.reduceGT, reduceCtorEq, ↓reduceIte, Td.enc, hg, loadN_fact gx, loadN_fact gk]
  exact ex
def tdZero : List V := [.int .i64 0, .str [], .slice none 0 (some 0), .slice none 0 (some 0), .slice none 0 (some 0)]
def DefR (ds : List Td) (table : Int) (r : V) : Prop := match ds.findIdx? (fun d => decide (d.id = table)) with
  | some i => ∃ hi : i < ds.length, r = .tuple [.agg (ds[i]).enc, .bool true]
  | none => r = .tuple [.agg tdZero, .bool false]
theorem def_ok {h : Heap} {ti : Nat} {snap : Int} {ds : List Td} {ops : List Lo} (t : TxR h ti snap ds ops) (table : Int) : WR (callE Tryz.prog hk 27 [.ptr (some (ti, 0)), .int .i64 table] h) fun r h' => Ext h h' ∧ DefR ds table r := by
  obtain ⟨⟨dp, dc, lp, lc, h1, h2, h3⟩, h4, h5⟩ := t
  have hlt := lt_of_some h1
  have hn := h2.nil'
  have hsm := h2.small
  refine WR.call (hH := rfl) Tryz.func27 rfl (n := 23) rfl rfl (by simp) ?_
  obtain ⟨g, hg, g1, g2, ex, hl⟩ : ∃ g, h ++ [O.cells [V.int .i64 table] .rw] ++ [O.cells tdZero .rw] = g ∧ g[h.length]? = some (O.cells [V.int .i64 table] .rw) ∧ g[h.length + 1]? = some (O.cells tdZero .rw) ∧ Ext h g ∧ g.length = h.length + 2 := ⟨_, rfl, by simp, by simp, (by (repeat (first | assumption | apply Ext.refl | apply Ext.app | (apply Ext.set <;> omega) | exact Ext.trans (by assumption) (by assumption) | (refine Ext.trans ?_ (by assumption))))), by simp⟩
  have h1g := ex _ _ h1
  simp only [tdZero] at hg g2
  have hix := idxTd_ok (c := dc) (h2.ext ex) 62 [.ptr (some (h.length, 0))] (fun d => decide (d.id = table)) fun hh e d _ => def1_ok (e _ _ g1) d
  simp -dsimp (disch := first | with_reducible assumption | omega | (intro h_; cases h_; done) | (simp only [LN] <;> omega) | (simp only [LF]; done) | (repeat (first | with_reducible assumption | apply Ext.refl | apply Ext.app | (apply Ext.set <;> omega) | (refine Ext.trans ?_ (by assumption))))) only [AX, TY, AD, mapPut, entsOf, oneV, builtinV, idsOf, mapId, touchB, Nat.reduceLT, Nat.reduceLeDiff, Nat.reduceEqDiff, Nat.reduceAdd, Nat.reduceMul, Int.reduceBEq, Int.reduceEq, Int.reduceNeg, Int.reduceLT, Int.reduceLE, Int.reduceAdd, Int.reduceSub, Int.reduceMul, Int.reduceToNat, Int.reduceGT, Nat.reduceBEq, Nat.reducePow, Nat.reduceGT, reduceCtorEq, ↓reduceIte, hg, loadN_fact h1g]
  refine hix.mono ?_
  rintro _ h6 ⟨e6, rfl⟩
  have h16 := e6 _ _ h1g
  have g26 := e6 _ _ g2
  have lg2 := lt_of_some g26
  unfold DefR
  cases hf : ds.findIdx? (fun d => decide (d.id = table)) with
  | none =>
    simp -dsimp (disch := first | with_reducible assumption | omega | (intro h_; cases h_; done) | (simp only [LN] <;> omega) | (simp only [LF]; done) | (repeat (first | with_reducible assumption | apply Ext.refl | apply Ext.app | (apply Ext.set <;> omega) | (refine Ext.trans ?_ (by assumption))))) only [AX, TY, AD, mapPut, entsOf, oneV, builtinV, idsOf, mapId, touchB, Nat.reduceLT, Nat.reduceLeDiff, Nat.reduceEqDiff, Nat.reduceAdd, Nat.reduceMul, Int.reduceBEq, Int.reduceEq, Int.reduceNeg, Int.reduceLT, Int.reduceLE, Int.reduceAdd, Int.reduceSub, Int.reduceMul, Int.reduceToNat, Int.reduceGT, Nat.reduceBEq, Nat.reducePow, Nat.reduceGT, reduceCtorEq, ↓reduceIte, idxI, storeN_fact g26 (by simp)]
    refine ⟨?_, rfl⟩
    refine Ext.set (ex.trans e6) (by omega) _
  | some i =>
    obtain ⟨hi, q1, _⟩ := List.findIdx?_eq_some_iff_getElem.1 hf
    have hn0 : ¬ (i : Int) < 0 := by omega
    have hn1 : (0 : Int) ≤ (i : Int) := by omega
    have hi2 : (i : Int) < (ds.length : Int) := by omega
    have hla := h2.load0 (ex.trans e6) hi (m := 5) (by decide)
    have tk : ∀ v : Td, (v.enc).take 5 = v.enc := fun _ => rfl
    have hf1 : ∀ v : Td, (V.agg v.enc).flat = v.enc := fun _ => rfl
    have hf2 : ∀ v : Td, v.enc.length = 5 := fun _ => rfl
    have hst := storeN_fact (vs := (ds[i]).enc) g26 (by simp [Td.enc])
    rw [tk] at hla
    simp only [Td.enc] at hla hst
    simp -dsimp (disch := first | with_reducible assumption | omega | (intro h_; cases h_; done) | (simp only [LN] <;> omega) | (simp only [LF]; done) | (repeat (first | with_reducible assumption | apply Ext.refl | apply Ext.app | (apply Ext.set <;> omega) | (refine Ext.trans ?_ (by assumption))))) only [AX, TY, AD, mapPut, entsOf, oneV, builtinV, idsOf, mapId, touchB, Nat.reduceLT, Nat.reduceLeDiff, Nat.reduceEqDiff, Nat.reduceAdd, Nat.reduceMul, Int.reduceBEq, Int.reduceEq, Int.reduceNeg, Int.reduceLT, Int.reduceLE, Int.reduceAdd, Int.reduceSub, Int.reduceMul, Int.reduceToNat, Int.reduceGT, Nat.reduceBEq, Nat.reducePow, Nat.reduceGT, reduceCtorEq, ↓reduceIte, idxI, hn0, eq_true hn1, hi2, loadN_fact h16, hla, hst]
    refine ⟨?_, hi, ?_⟩
    · exact Ext.set (ex.trans e6) (by omega) _
    · simp only [Td.enc]
end Go.Proofs.YtcaolnmpldbkjaaGreatA
namespace Go.Proofs.YtcaolnmpldbkjaaGreatA
open Go Go.Proofs Go.RowKit
set_option linter.unusedVariables false
set_option linter.unusedSimpArgs false
set_option maxRecDepth 10000
set_option maxHeartbeats 2000000
/-- A function that tells operations apart. -/
def IsF (G : Nat) (q : Lo → Bool) : Prop := ∀ (hh : Heap) (o : Lo), WR (callE Tryz.prog hk G [.agg (Lo.enc o)] hh) fun r h' => Ext hh h' ∧ r = .bool (q o)
theorem any_is : IsF 50 fun _ => true := fun hh o => by
  refine WR.call (hH := rfl) Tryz.func50 rfl (n := 3) rfl rfl (by simp) ?_
  simp -dsimp (disch := first | with_reducible assumption | omega | (intro h_; cases h_; done) | (simp only [LN] <;> omega) | (simp only [LF]; done) | (repeat (first | with_reducible assumption | apply Ext.refl | apply Ext.app | (apply Ext.set <;> omega) | (refine Ext.trans ?_ (by assumption))))) only [AX, TY, AD, mapPut, entsOf, oneV, builtinV, idsOf, mapId, touchB, Nat.reduceLT, Nat.reduceLeDiff, Nat.reduceEqDiff, Nat.reduceAdd, Nat.reduceMul, Int.reduceBEq, Int.reduceEq, Int.reduceNeg, Int.reduceLT, Int.reduceLE, Int.reduceAdd, Int.reduceSub, Int.reduceMul, Int.reduceToNat, Int.reduceGT, Nat.reduceBEq, Nat.reducePow, Nat.reduceGT, reduceCtorEq, ↓reduceIte, Lo.enc]
  exact (by (repeat (first | assumption | apply Ext.refl | apply Ext.app | (apply Ext.set <;> omega) | exact Ext.trans (by assumption) (by assumption) | (refine Ext.trans ?_ (by assumption)))))
theorem del_is : IsF 30 Lo.del := fun hh o => by
  refine WR.call (hH := rfl) Tryz.func30 rfl (n := 5) rfl rfl (by simp) ?_
  obtain ⟨g2, hg, gx, ex⟩ : ∃ g2, hh ++ [O.cells o.enc .rw] = g2 ∧ g2[hh.length]? = some (O.cells o.enc .rw) ∧ Ext hh g2 := ⟨_, rfl, by simp, (by (repeat (first | assumption | apply Ext.refl | apply Ext.app | (apply Ext.set <;> omega) | exact Ext.trans (by assumption) (by assumption) | (refine Ext.trans ?_ (by assumption)))))⟩
  simp only [Lo.enc] at hg gx
  simp -dsimp (disch := first | with_reducible assumption | omega | (intro h_; cases h_; done) | (simp only [LN] <;> omega) | (simp only [LF]; done) | (repeat (first | with_reducible assumption | apply Ext.refl | apply Ext.app | (apply Ext.set <;> omega) | (refine Ext.trans ?_ (by assumption))))) only [AX, TY, AD, mapPut, entsOf, oneV, builtinV, idsOf, mapId, touchB, Nat.reduceLT, Nat.reduceLeDiff, Nat.reduceEqDiff, Nat.reduceAdd, Nat.reduceMul, Int.reduceBEq, Int.reduceEq, Int.reduceNeg, Int.reduceLT, Int.reduceLE, Int.reduceAdd, Int.reduceSub, Int.reduceMul, Int.reduceToNat, Int.reduceGT, Nat.reduceBEq, Nat.reducePow, Nat.reduceGT, reduceCtorEq, ↓reduceIte, Lo.enc, hg, loadN_fact gx]
  exact ex
theorem has1_ok {h : Heap} {k1 k2 G : Nat} {a b : Int} {q : Lo → Bool} (g1 : h[k1]? = some (.cells [.int .i64 a, .int .i64 b] .rw)) (g2 : h[k2]? = some (.cells [.func G [] []] .rw)) (hG : IsF G q) (o : Lo) :
    WR (callE Tryz.prog hk 67 [.agg o.enc, .ptr (some (k1, 0)), .ptr (some (k2, 0))] h) fun r h' => Ext h h' ∧ r = .bool (decide (o.a = a ∧ o.b = b) && q o) := by
  refine WR.call (hH := rfl) Tryz.func67 rfl (n := 14) rfl rfl (by simp) ?_
  obtain ⟨g, hg, gx, ex⟩ : ∃ g, h ++ [O.cells o.enc .rw] = g ∧ g[h.length]? = some (O.cells o.enc .rw) ∧ Ext h g := ⟨_, rfl, by simp, (by (repeat (first | assumption | apply Ext.refl | apply Ext.app | (apply Ext.set <;> omega) | exact Ext.trans (by assumption) (by assumption) | (refine Ext.trans ?_ (by assumption)))))⟩
  have g1' := ex _ _ g1
  have g2' := ex _ _ g2
  have hGo := hG g o
  simp only [Lo.enc] at hg gx hGo
  by_cases c : o.a = a ∧ o.b = b
  · simp -dsimp (disch := first | with_reducible assumption | omega | (intro h_; cases h_; done) | (simp only [LN] <;> omega) | (simp only [LF]; done) | (repeat (first | with_reducible assumption | apply Ext.refl | apply Ext.app | (apply Ext.set <;> omega) | (refine Ext.trans ?_ (by assumption))))) only [AX, TY, AD, mapPut, entsOf, oneV, builtinV, idsOf, mapId, touchB, Nat.reduceLT, Nat.reduceLeDiff, Nat.reduceEqDiff, Nat.reduceAdd, Nat.reduceMul, Int.reduceBEq, Int.reduceEq, Int.reduceNeg, Int.reduceLT, Int.reduceLE, Int.reduceAdd, Int.reduceSub, Int.reduceMul, Int.reduceToNat, Int.reduceGT, Nat.reduceBEq, Nat.reducePow, Nat.reduceGT, reduceCtorEq, ↓reduceIte, Lo.enc, hg, loadN_fact gx, loadN_fact g1', loadN_fact g2', eqt_33, eq_true c]
    refine hGo.mono ?_
    rintro _ h3 ⟨e3, rfl⟩
    simp -dsimp (disch := first | with_reducible assumption | omega | (intro h_; cases h_; done) | (simp only [LN] <;> omega) | (simp only [LF]; done) | (repeat (first | with_reducible assumption | apply Ext.refl | apply Ext.app | (apply Ext.set <;> omega) | (refine Ext.trans ?_ (by assumption))))) only [AX, TY, AD, mapPut, entsOf, oneV, builtinV, idsOf, mapId, touchB, Nat.reduceLT, Nat.reduceLeDiff, Nat.reduceEqDiff, Nat.reduceAdd, Nat.reduceMul, Int.reduceBEq, Int.reduceEq, Int.reduceNeg, Int.reduceLT, Int.reduceLE, Int.reduceAdd, Int.reduceSub, Int.reduceMul, Int.reduceToNat, Int.reduceGT, Nat.reduceBEq, Nat.reducePow, Nat.reduceGT, reduceCtorEq, ↓reduceIte]
    exact ⟨ex.trans e3, by rw [decide_eq_true c, Bool.true_and]⟩
  · simp -dsimp (disch := first | with_reducible assumption | omega | (intro h_; cases h_; done) | (simp only [LN] <;> omega) | (simp only [LF]; done) | (repeat (first | with_reducible assumption | apply Ext.refl | apply Ext.app | (apply Ext.set <;> omega) | (refine Ext.trans ?_ (by assumption))))) only [AX, TY, AD, mapPut, entsOf, oneV, builtinV, idsOf, mapId, touchB, Nat.reduceLT, Nat.reduceLeDiff, Nat.reduceEqDiff, Nat.reduceAdd, Nat.reduceMul, Int.reduceBEq, Int.reduceEq, Int.reduceNeg, Int.reduceLT, Int.reduceLE, Int.reduceAdd, Int.reduceSub, Int.reduceMul, Int.reduceToNat, Int.reduceGT, Nat.reduceBEq, Nat.reducePow, Nat.reduceGT, reduceCtorEq, ↓reduceIte, Lo.enc, hg, loadN_fact gx, loadN_fact g1', loadN_fact g2', eqt_33, c]
    exact ex
theorem has_ok {h : Heap} {ti : Nat} {snap : Int} {ds : List Td} {ops : List Lo} (t : TxR h ti snap ds ops) (a b : Int) {G : Nat} {q : Lo → Bool} (hG : IsF G q) :
    WR (callE Tryz.prog hk 29 [.ptr (some (ti, 0)), .agg [.int .i64 a, .int .i64 b], .func G [] []] h) fun r h' => Ext h h' ∧ r = .bool (ops.any fun o => decide (o.a = a ∧ o.b = b) && q o) := by
  obtain ⟨⟨dp, dc, lp, lc, h1, h2, h3⟩, h4, h5⟩ := t
  have hn := h3.nil'
  have hsm := h3.small
  refine WR.call (hH := rfl) Tryz.func29 rfl (n := 13) rfl rfl (by simp) ?_
  obtain ⟨g, hg, g1, g2, ex, hl⟩ : ∃ g, h ++ [O.cells [V.int .i64 a, V.int .i64 b] .rw] ++ [O.cells [V.func G [] []] .rw] = g ∧ g[h.length]? = some (O.cells [V.int .i64 a, V.int .i64 b] .rw) ∧ g[h.length + 1]? = some (O.cells [V.func G [] []] .rw) ∧ Ext h g ∧ g.length = h.length + 2 := ⟨_, rfl, by simp, by simp, (by (repeat (first | assumption | apply Ext.refl | apply Ext.app | (apply Ext.set <;> omega) | exact Ext.trans (by assumption) (by assumption) | (refine Ext.trans ?_ (by assumption))))), by simp⟩
  have h1g := ex _ _ h1
  have hix := cntLo_ok (c := lc) (h3.ext ex) 67 [.ptr (some (h.length, 0)), .ptr (some (h.length + 1, 0))] (fun o => decide (o.a = a ∧ o.b = b) && q o) fun hh e o _ => has1_ok (e _ _ g1) (e _ _ g2) hG o
  simp -dsimp (disch := first | with_reducible assumption | omega | (intro h_; cases h_; done) | (simp only [LN] <;> omega) | (simp only [LF]; done) | (repeat (first | with_reducible assumption | apply Ext.refl | apply Ext.app | (apply Ext.set <;> omega) | (refine Ext.trans ?_ (by assumption))))) only [AX, TY, AD, mapPut, entsOf, oneV, builtinV, idsOf, mapId, touchB, Nat.reduceLT, Nat.reduceLeDiff, Nat.reduceEqDiff, Nat.reduceAdd, Nat.reduceMul, Int.reduceBEq, Int.reduceEq, Int.reduceNeg, Int.reduceLT, Int.reduceLE, Int.reduceAdd, Int.reduceSub, Int.reduceMul, Int.reduceToNat, Int.reduceGT, Nat.reduceBEq, Nat.reducePow, Nat.reduceGT, reduceCtorEq, ↓reduceIte, hg, loadN_fact h1g]
  refine hix.mono ?_
  rintro _ h6 ⟨e6, rfl⟩
  simp -dsimp (disch := first | with_reducible assumption | omega | (intro h_; cases h_; done) | (simp only [LN] <;> omega) | (simp only [LF]; done) | (repeat (first | with_reducible assumption | apply Ext.refl | apply Ext.app | (apply Ext.set <;> omega) | (refine Ext.trans ?_ (by assumption))))) only [AX, TY, AD, mapPut, entsOf, oneV, builtinV, idsOf, mapId, touchB, Nat.reduceLT, Nat.reduceLeDiff, Nat.reduceEqDiff, Nat.reduceAdd, Nat.reduceMul, Int.reduceBEq, Int.reduceEq, Int.reduceNeg, Int.reduceLT, Int.reduceLE, Int.reduceAdd, Int.reduceSub, Int.reduceMul, Int.reduceToNat, Int.reduceGT, Nat.reduceBEq, Nat.reducePow, Nat.reduceGT, reduceCtorEq, ↓reduceIte]
  exact ex.trans e6
theorem rvalid_ok {h : Heap} (a b : Int) : WR (callE Tryz.prog hk 48 [.agg [.int .i64 a, .int .i64 b]] h) fun r h' => Ext h h' ∧ r = .bool (decide (1 ≤ a) && decide (1 ≤ b)) := by
  refine WR.call (hH := rfl) Tryz.func48 rfl (n := 11) rfl rfl (by simp) ?_
  obtain ⟨g, hg, gx, ex⟩ : ∃ g, h ++ [O.cells [V.int .i64 a, V.int .i64 b] .rw] = g ∧ g[h.length]? = some (O.cells [V.int .i64 a, V.int .i64 b] .rw) ∧ Ext h g := ⟨_, rfl, by simp, (by (repeat (first | assumption | apply Ext.refl | apply Ext.app | (apply Ext.set <;> omega) | exact Ext.trans (by assumption) (by assumption) | (refine Ext.trans ?_ (by assumption)))))⟩
  cases h1 : decide (1 ≤ a)
  · simp -dsimp (disch := first | with_reducible assumption | omega | (intro h_; cases h_; done) | (simp only [LN] <;> omega) | (simp only [LF]; done) | (repeat (first | with_reducible assumption | apply Ext.refl | apply Ext.app | (apply Ext.set <;> omega) | (refine Ext.trans ?_ (by assumption))))) only [AX, TY, AD, mapPut, entsOf, oneV, builtinV, idsOf, mapId, touchB, Nat.reduceLT, Nat.reduceLeDiff, Nat.reduceEqDiff, Nat.reduceAdd, Nat.reduceMul, Int.reduceBEq, Int.reduceEq, Int.reduceNeg, Int.reduceLT, Int.reduceLE, Int.reduceAdd, Int.reduceSub, Int.reduceMul, Int.reduceToNat, Int.reduceGT, Nat.reduceBEq, Nat.reducePow, Nat.reduceGT, reduceCtorEq, ↓reduceIte, hg, loadN_fact gx, h1]
    exact ex
  · simp -dsimp (disch := first | with_reducible assumption | omega | (intro h_; cases h_; done) | (simp only [LN] <;> omega) | (simp only [LF]; done) | (repeat (first | with_reducible assumption | apply Ext.refl | apply Ext.app | (apply Ext.set <;> omega) | (refine Ext.trans ?_ (by assumption))))) only [AX, TY, AD, mapPut, entsOf, oneV, builtinV, idsOf, mapId, touchB, Nat.reduceLT, Nat.reduceLeDiff, Nat.reduceEqDiff, Nat.reduceAdd, Nat.reduceMul, Int.reduceBEq, Int.reduceEq, Int.reduceNeg, Int.reduceLT, Int.reduceLE, Int.reduceAdd, Int.reduceSub, Int.reduceMul, Int.reduceToNat, Int.reduceGT, Nat.reduceBEq, Nat.reducePow, Nat.reduceGT, reduceCtorEq, ↓reduceIte, hg, loadN_fact gx, h1]
    exact ex
/-- A value is valid. -/
def vOk (v : Vl) : Bool := if v.kind = 0 then decide (v.text = []) else if v.kind = 1 then decide (v.int = 0) && decide (v.text.length ≤ 255) else if v.kind = 2 then (decide (v.int = 0) || decide (v.int = 1)) && decide (v.text = []) else false
/-- A transaction that is changed: its log is its own. -/
structure TxA (b : Nat) (h : Heap) (ti : Nat) (snap : Int) (ds : List Td) (ops : List Lo) (ol : Option Nat) : Prop where
  blk : ∃ dp dc lp lc, h[ti]? = some (.cells [.int .i64 snap, .slice dp ds.length dc, .slice lp ops.length lc] .rw) ∧ Sl h dp 5 Td.enc ds ∧ (∀ a o, dp = some (a, o) → a ≠ ti ∧ ol ≠ some a) ∧ Gr b h lp lc ol 4 Lo.enc ops
  dok : ∀ d ∈ ds, TdOK h d ∧ (∀ a o, d.cp = some (a, o) → a ≠ ti ∧ ol ≠ some a) ∧ ∀ a o, d.kp = some (a, o) → a ≠ ti ∧ ol ≠ some a
  lok : ∀ o ∈ ops, Sl h o.p 3 Vl.enc o.vals ∧ ∀ a x, o.p = some (a, x) → a ≠ ti ∧ ol ≠ some a
  base : b ≤ ti ∧ ol ≠ some ti
theorem TxA.r {b : Nat} {h : Heap} {ti : Nat} {snap : Int} {ds : List Td} {ops : List Lo} {ol : Option Nat} (t : TxA b h ti snap ds ops ol) : TxR h ti snap ds ops := by
  obtain ⟨⟨dp, dc, lp, lc, h1, h2, _, h3⟩, h4, h5, _⟩ := t
  exact ⟨⟨dp, dc, lp, lc, h1, h2, h3.sl⟩, fun d hd => (h4 d hd).1, fun o ho => (h5 o ho).1⟩
theorem TxA.ext {b : Nat} {h hh : Heap} {ti : Nat} {snap : Int} {ds : List Td} {ops : List Lo} {ol : Option Nat} (t : TxA b h ti snap ds ops ol) (e : Ext h hh) : TxA b hh ti snap ds ops ol := by
  obtain ⟨⟨dp, dc, lp, lc, h1, h2, h2', h3⟩, h4, h5, h6⟩ := t
  exact ⟨⟨dp, dc, lp, lc, e _ _ h1, h2.ext e, h2', h3.ext e⟩, fun d hd => ⟨⟨(h4 d hd).1.1.ext e, (h4 d hd).1.2.ext e⟩, (h4 d hd).2⟩, fun o ho => ⟨(h5 o ho).1.ext e, (h5 o ho).2⟩, h6⟩
theorem TxA.lt {b : Nat} {h : Heap} {ti : Nat} {snap : Int} {ds : List Td} {ops : List Lo} {ol : Option Nat} (t : TxA b h ti snap ds ops ol) : ti < h.length ∧ ∀ k, ol = some k → k < h.length := by
  obtain ⟨⟨dp, dc, lp, lc, h1, h2, h2', h3⟩, h4, h5, h6⟩ := t
  exact ⟨lt_of_some h1, fun k e => h3.lt e⟩
/-- The log is given anew: an append to it, and the transaction's block is written. -/
theorem TxA.log {b : Nat} {h h2 : Heap} {ti : Nat} {snap : Int} {ds : List Td} {ops : List Lo} {ol : Option Nat} (t : TxA b h ti snap ds ops ol) {op : Lo} (hv : Sl h op.p 3 Vl.enc op.vals) (hp : ∀ a x, op.p = some (a, x) → a ≠ ti ∧ ol ≠ some a) {r : V} (ap : App b h ol 4 Lo.enc (ops ++ [op]) r h2) :
    ∃ dp dc p' c' ol', r = .slice p' (ops ++ [op]).length c' ∧ h2[ti]? = h[ti]? ∧ (∃ lp lc, h[ti]? = some (.cells [.int .i64 snap, .slice dp ds.length dc, .slice lp ops.length lc] .rw)) ∧ ∀ h3, h3 = h2.set ti (.cells [.int .i64 snap, .slice dp ds.length dc, .slice p' (ops ++ [op]).length c'] .rw) → TxA b h3 ti snap ds (ops ++ [op]) ol' ∧ (∀ i, i < b → h3[i]? = h[i]?) ∧ h.length ≤ h3.length := by
  have tl := t.lt
  obtain ⟨⟨dp, dc, lp, lc, h1, hd, hd', hl⟩, h4, h5, h6, h7⟩ := t
  obtain ⟨p', c', ol', rfl, gr, ho, hle, hfr⟩ := ap
  have hlt := lt_of_some h1
  have e1 : h2[ti]? = h[ti]? := hfr ti h7 hlt
  have hn' : ol' ≠ some ti := by
    rcases ho with q | ⟨k, q, q2⟩
    · rw [q]; exact h7
    · rw [q]; intro z; cases z; omega
  refine ⟨dp, dc, p', c', ol', rfl, e1, ⟨lp, lc, h1⟩, ?_⟩
  rintro h3 rfl
  have hlt2 : ti < h2.length := by omega
  -- a block that is neither
  have keep : ∀ a, a < h.length → a ≠ ti → ol ≠ some a → (h2.set ti (.cells [.int .i64 snap, .slice dp ds.length dc, .slice p' (ops ++ [op]).length c'] .rw))[a]? = h[a]? := fun a ha h1 h2 => by rw [set_other _ h1, hfr a h2 ha]
  have no : ∀ a, a < h.length → ol ≠ some a → ol' ≠ some a := fun a ha hn => by
    rcases ho with q | ⟨k, q, q2⟩
    · rw [q]; exact hn
    · rw [q]; intro z; cases z; omega
  refine ⟨⟨⟨dp, dc, p', c', set_same _ hlt2, hd.keep fun a o z => keep a (hd.lt z) (hd' a o z).1 (hd' a o z).2, fun a o z => ⟨(hd' a o z).1, no a (hd.lt z) (hd' a o z).2⟩, gr.keep fun i hi => set_other _ fun e => hn' (by rw [hi, e])⟩, fun d hdm => ?_, fun o hom => ?_, h6, hn'⟩, fun i hi => ?_, by rw [List.length_set]; exact hle⟩
  · obtain ⟨⟨u1, u2⟩, u3, u4⟩ := h4 d hdm
    exact ⟨⟨u1.keep fun a o z => keep a (u1.lt z) (u3 a o z).1 (u3 a o z).2, u2.keep fun a o z => keep a (u2.lt z) (u4 a o z).1 (u4 a o z).2⟩, fun a o z => ⟨(u3 a o z).1, no a (u1.lt z) (u3 a o z).2⟩, fun a o z => ⟨(u4 a o z).1, no a (u2.lt z) (u4 a o z).2⟩⟩
  · rcases List.mem_append.1 hom with hom | hom
    · obtain ⟨u1, u2⟩ := h5 o hom
      exact ⟨u1.keep fun a o z => keep a (u1.lt z) (u2 a o z).1 (u2 a o z).2, fun a o z => ⟨(u2 a o z).1, no a (u1.lt z) (u2 a o z).2⟩⟩
    · rw [List.mem_singleton] at hom; subst hom
      exact ⟨hv.keep fun a o z => keep a (hv.lt z) (hp a o z).1 (hp a o z).2, fun a o z => ⟨(hp a o z).1, no a (hv.lt z) (hp a o z).2⟩⟩
  · have hi2 : i < h.length := by omega
    refine keep i hi2 (by omega) fun q => ?_
    have := hl.base i q
    omega
end Go.Proofs.YtcaolnmpldbkjaaGreatA
