/- Words of this session: chapter 47: the own rows; the rows of a table. Words of this session: chapter 47: what Rows gives, in plain Lean. -/
import Derived.Test.YtcaolnmpldbkjaaGreatPZ
namespace Go.Proofs.YtcaolnmpldbkjaaGreatA
open Go Go.Proofs Go.RowKit
set_option linter.unusedVariables false
set_option linter.unusedSimpArgs false
set_option maxRecDepth 10000
set_option maxHeartbeats 4000000
theorem filter_one {α : Type} (q : α → Bool) (x : α) : [x].filter q = if q x then [x] else [] := by rw [List.filter_cons]; rfl
def Lo.key (o : Lo) : Key := ⟨o.a, o.b, o.vals, 0, 0⟩
/-- The own rows, as they stand in the log. -/
def ownK (ops : List Lo) : List Key := (ops.filter fun o => !o.del && !gone ops o.a o.b).map Lo.key
/-- A row is put at the end of a list of versions of the call's own. -/
theorem own_ok {h : Heap} {ti : Nat} {snap : Int} {ds : List Td} {ops : List Lo} (t : TxR h ti snap ds ops) (hB : ops.length < 40) (hB2 : ∀ o ∈ ops, o.vals.length ≤ 100000) :
    WR (callE Tryz.prog hk 31 [.ptr (some (ti, 0))] h) fun r h' => Ext h h' ∧ ∃ p c zs, r = .slice p zs.length c ∧ Vers h' p zs ∧ (zs.map Ver.key).Perm (ownK ops) ∧ zs.Pairwise leV ∧ (∀ y ∈ zs, ∀ a o, y.p = some (a, o) → h.length ≤ a) ∧ (∀ a o, p = some (a, o) → h.length ≤ a) ∧ zs.length ≤ ops.length := by
  obtain ⟨⟨dp, dc, lp, lc, hti, hds, hls⟩, hdo, hlo⟩ := id t
  have hn := hls.nil'
  have hsm := hls.small
  refine WR.call (hH := rfl) Tryz.func31 rfl (n := 38) rfl rfl (by simp) ?_
  simp -dsimp (disch := first | with_reducible assumption | omega | (intro h_; cases h_; done) | (simp only [LN] <;> omega) | (simp only [LF]; done) | (repeat (first | with_reducible assumption | apply Ext.refl | apply Ext.app | (apply Ext.set <;> omega) | (refine Ext.trans ?_ (by assumption))))) only [AX, TY, AD, mapPut, entsOf, oneV, builtinV, idsOf, mapId, touchB, Nat.reduceLT, Nat.reduceLeDiff, Nat.reduceEqDiff, Nat.reduceAdd, Nat.reduceMul, Int.reduceBEq, Int.reduceEq, Int.reduceNeg, Int.reduceLT, Int.reduceLE, Int.reduceAdd, Int.reduceSub, Int.reduceMul, Int.reduceToNat, Int.reduceGT, Nat.reduceBEq, Nat.reducePow, Nat.reduceGT, reduceCtorEq, ↓reduceIte, loadN_fact hti]
  refine W.loop (fun m τ hh => ∃ (i : Nat) (zs : List Ver) (po : Option (Nat × Nat)) (co oid : Option Nat), m + i = ops.length ∧ τ 0 = .ptr (some (ti, 0)) ∧ τ 3 = .slice po zs.length co ∧ τ 9 = .slice lp ops.length lc ∧ τ 10 = .int .i64 ops.length ∧ τ 11 = .int .i64 i ∧ Ext h hh ∧ Gr h.length hh po co oid 5 Ver.enc zs ∧ (∀ y ∈ zs, VOK hh y ∧ ∀ a o, y.p = some (a, o) → h.length ≤ a ∧ oid ≠ some a) ∧ zs.map Ver.key = ((ops.take i).filter fun o => !o.del && !gone ops o.a o.b).map Lo.key ∧ zs.length ≤ i) ?_ (m := ops.length) ?_
  rotate_left
  · refine ⟨0, [], none, some 0, none, by simp, ?_⟩
    have g0 := Gr.nil (α := Ver) h.length h 5 Ver.enc
    have e0 := Ext.refl h
    simp -dsimp (disch := first | with_reducible assumption | omega | (intro h_; cases h_; done) | (simp only [LN] <;> omega) | (simp only [LF]; done) | (repeat (first | with_reducible assumption | apply Ext.refl | apply Ext.app | (apply Ext.set <;> omega) | (refine Ext.trans ?_ (by assumption))))) only [AX, TY, AD, mapPut, entsOf, oneV, builtinV, idsOf, mapId, touchB, Nat.reduceLT, Nat.reduceLeDiff, Nat.reduceEqDiff, Nat.reduceAdd, Nat.reduceMul, Int.reduceBEq, Int.reduceEq, Int.reduceNeg, Int.reduceLT, Int.reduceLE, Int.reduceAdd, Int.reduceSub, Int.reduceMul, Int.reduceToNat, Int.reduceGT, Nat.reduceBEq, Nat.reducePow, Nat.reduceGT, reduceCtorEq, ↓reduceIte]
    repeat' (first | assumption | refine And.intro ?_ ?_)
    all_goals first | rfl | omega | (simp; done) | (simp; omega; done) | skip
  rintro m τ hh ⟨i, zs, po, co, oid, hm, t0, t3, t9, t10, t11, e, gr, hv, hk, hle⟩
  have le0 := e.le
  by_cases c1 : (i : Int) < (ops.length : Int)
  rotate_left
  · have hso := srtV_ok gr (by omega)
    simp -dsimp (disch := first | with_reducible assumption | omega | (intro h_; cases h_; done) | (simp only [LN] <;> omega) | (simp only [LF]; done) | (repeat (first | with_reducible assumption | apply Ext.refl | apply Ext.app | (apply Ext.set <;> omega) | (refine Ext.trans ?_ (by assumption))))) only [AX, TY, AD, mapPut, entsOf, oneV, builtinV, idsOf, mapId, touchB, Nat.reduceLT, Nat.reduceLeDiff, Nat.reduceEqDiff, Nat.reduceAdd, Nat.reduceMul, Int.reduceBEq, Int.reduceEq, Int.reduceNeg, Int.reduceLT, Int.reduceLE, Int.reduceAdd, Int.reduceSub, Int.reduceMul, Int.reduceToNat, Int.reduceGT, Nat.reduceBEq, Nat.reducePow, Nat.reduceGT, reduceCtorEq, ↓reduceIte, t0, t3, t9, t10, t11, c1]
    refine hso.mono ?_
    rintro r h2 ⟨ws, hp, hs, gk⟩
    have hwl := hp.length_eq
    simp -dsimp (disch := first | with_reducible assumption | omega | (intro h_; cases h_; done) | (simp only [LN] <;> omega) | (simp only [LF]; done) | (repeat (first | with_reducible assumption | apply Ext.refl | apply Ext.app | (apply Ext.set <;> omega) | (refine Ext.trans ?_ (by assumption))))) only [AX, TY, AD, mapPut, entsOf, oneV, builtinV, idsOf, mapId, touchB, Nat.reduceLT, Nat.reduceLeDiff, Nat.reduceEqDiff, Nat.reduceAdd, Nat.reduceMul, Int.reduceBEq, Int.reduceEq, Int.reduceNeg, Int.reduceLT, Int.reduceLE, Int.reduceAdd, Int.reduceSub, Int.reduceMul, Int.reduceToNat, Int.reduceGT, Nat.reduceBEq, Nat.reducePow, Nat.reduceGT, reduceCtorEq, ↓reduceIte, t3]
    rw [List.take_of_length_le (by omega)] at hk
    refine ⟨Ext.of_keep fun a ha => (gk.fr a (by omega) (fun q => by have := gr.base a q; omega)).trans (e.same ha), po, co, ws, by rw [hwl], ⟨gk.gr.sl, fun y hy => ?_⟩, ?_, hs, fun y hy a o z => ((hv y (hp.mem_iff.1 hy)).2 a o z).1, fun a o z => gr.base a (gr.at z), by omega⟩
    · obtain ⟨u1, u2⟩ := hv y (hp.mem_iff.1 hy)
      exact Sl.keep u1 fun a o z => gk.fr a (Sl.lt u1 z) (u2 a o z).2
    · unfold ownK; rw [← hk]; exact hp.map _
  have hi : i < ops.length := by omega
  have hom := List.getElem_mem hi
  have hla := hls.load0 e hi (m := 4) (by decide)
  have tk : ∀ x : Lo, x.enc.take 4 = x.enc := fun _ => rfl
  rw [tk] at hla
  have htk := List.take_succ_eq_append_getElem hi
  have hvo := hlo _ hom
  have hvl := hB2 _ hom
  generalize hx : ops[i] = x at hla htk hvo hvl
  obtain ⟨g, hg, gx, ex, hgl⟩ : ∃ g, hh ++ [O.cells x.enc .rw] = g ∧ g[hh.length]? = some (O.cells x.enc .rw) ∧ Ext hh g ∧ g.length = hh.length + 1 := ⟨_, rfl, by simp, (by (repeat (first | assumption | apply Ext.refl | apply Ext.app | (apply Ext.set <;> omega) | exact Ext.trans (by assumption) (by assumption) | (refine Ext.trans ?_ (by assumption))))), by simp⟩
  have hhas := has_ok ((t.ext e).ext ex) x.a x.b del_is
  have hgo : (ops.any fun o => decide (o.a = x.a ∧ o.b = x.b) && o.del) = gone ops x.a x.b := rfl
  rw [hgo] at hhas
  have hskip : (!x.del && !gone ops x.a x.b) = false → zs.map Ver.key = ((ops.take (i + 1)).filter fun o => !o.del && !gone ops o.a o.b).map Lo.key := fun q => by
    rw [htk, List.filter_append, List.map_append, hk, filter_one, q]; simp
  simp only [Lo.enc] at hla hg gx
  cases hd : x.del
  rotate_left
  · have hsk := hskip (by rw [hd]; rfl)
    have gr2 := gr.ext ex
    have hv2 : ∀ y ∈ zs, VOK g y ∧ ∀ a o, y.p = some (a, o) → h.length ≤ a ∧ oid ≠ some a := fun y hy => ⟨(hv y hy).1.ext ex, (hv y hy).2⟩
    have e2 := e.trans ex
    rw [hd] at hla hg gx
    simp -dsimp (disch := first | with_reducible assumption | omega | (intro h_; cases h_; done) | (simp only [LN] <;> omega) | (simp only [LF]; done) | (repeat (first | with_reducible assumption | apply Ext.refl | apply Ext.app | (apply Ext.set <;> omega) | (refine Ext.trans ?_ (by assumption))))) only [AX, TY, AD, mapPut, entsOf, oneV, builtinV, idsOf, mapId, touchB, Nat.reduceLT, Nat.reduceLeDiff, Nat.reduceEqDiff, Nat.reduceAdd, Nat.reduceMul, Int.reduceBEq, Int.reduceEq, Int.reduceNeg, Int.reduceLT, Int.reduceLE, Int.reduceAdd, Int.reduceSub, Int.reduceMul, Int.reduceToNat, Int.reduceGT, Nat.reduceBEq, Nat.reducePow, Nat.reduceGT, reduceCtorEq, ↓reduceIte, t0, t3, t9, t10, t11, c1, hla, hg, loadN_fact gx, wrap_in]
    refine ⟨m - 1, by omega, i + 1, zs, po, co, oid, ?_⟩
    repeat' (first | assumption | refine And.intro ?_ ?_)
    all_goals first | rfl | omega | (simp; done) | (simp; omega; done) | skip
  rw [hd] at hla hg gx
  simp -dsimp (disch := first | with_reducible assumption | omega | (intro h_; cases h_; done) | (simp only [LN] <;> omega) | (simp only [LF]; done) | (repeat (first | with_reducible assumption | apply Ext.refl | apply Ext.app | (apply Ext.set <;> omega) | (refine Ext.trans ?_ (by assumption))))) only [AX, TY, AD, mapPut, entsOf, oneV, builtinV, idsOf, mapId, touchB, Nat.reduceLT, Nat.reduceLeDiff, Nat.reduceEqDiff, Nat.reduceAdd, Nat.reduceMul, Int.reduceBEq, Int.reduceEq, Int.reduceNeg, Int.reduceLT, Int.reduceLE, Int.reduceAdd, Int.reduceSub, Int.reduceMul, Int.reduceToNat, Int.reduceGT, Nat.reduceBEq, Nat.reducePow, Nat.reduceGT, reduceCtorEq, ↓reduceIte, t0, t3, t9, t10, t11, c1, hla, hg, loadN_fact gx]
  refine hhas.mono ?_
  rintro _ h4 ⟨e4, rfl⟩
  have gx4 := e4 _ _ gx
  have e04 := (e.trans ex).trans e4
  have l4 := e4.le
  cases hgn : gone ops x.a x.b
  rotate_left
  · have hsk := hskip (by rw [hgn, Bool.not_true, Bool.and_false])
    have gr2 := gr.ext (ex.trans e4)
    have hv2 : ∀ y ∈ zs, VOK h4 y ∧ ∀ a o, y.p = some (a, o) → h.length ≤ a ∧ oid ≠ some a := fun y hy => ⟨(hv y hy).1.ext (ex.trans e4), (hv y hy).2⟩
    simp -dsimp (disch := first | with_reducible assumption | omega | (intro h_; cases h_; done) | (simp only [LN] <;> omega) | (simp only [LF]; done) | (repeat (first | with_reducible assumption | apply Ext.refl | apply Ext.app | (apply Ext.set <;> omega) | (refine Ext.trans ?_ (by assumption))))) only [AX, TY, AD, mapPut, entsOf, oneV, builtinV, idsOf, mapId, touchB, Nat.reduceLT, Nat.reduceLeDiff, Nat.reduceEqDiff, Nat.reduceAdd, Nat.reduceMul, Int.reduceBEq, Int.reduceEq, Int.reduceNeg, Int.reduceLT, Int.reduceLE, Int.reduceAdd, Int.reduceSub, Int.reduceMul, Int.reduceToNat, Int.reduceGT, Nat.reduceBEq, Nat.reducePow, Nat.reduceGT, reduceCtorEq, ↓reduceIte, t0, t3, t9, t10, t11, wrap_in]
    refine ⟨m - 1, by omega, i + 1, zs, po, co, oid, ?_⟩
    repeat' (first | assumption | refine And.intro ?_ ?_)
    all_goals first | rfl | omega | (simp; done) | (simp; omega; done) | skip
  simp -dsimp (disch := first | with_reducible assumption | omega | (intro h_; cases h_; done) | (simp only [LN] <;> omega) | (simp only [LF]; done) | (repeat (first | with_reducible assumption | apply Ext.refl | apply Ext.app | (apply Ext.set <;> omega) | (refine Ext.trans ?_ (by assumption))))) only [AX, TY, AD, mapPut, entsOf, oneV, builtinV, idsOf, mapId, touchB, Nat.reduceLT, Nat.reduceLeDiff, Nat.reduceEqDiff, Nat.reduceAdd, Nat.reduceMul, Int.reduceBEq, Int.reduceEq, Int.reduceNeg, Int.reduceLT, Int.reduceLE, Int.reduceAdd, Int.reduceSub, Int.reduceMul, Int.reduceToNat, Int.reduceGT, Nat.reduceBEq, Nat.reducePow, Nat.reduceGT, reduceCtorEq, ↓reduceIte, t0, t3, t9, t10, t11]
  refine W.drawn [(0, []), (1, [0]), (2, [0]), (3, [2, 1, 0]), (4, [2, 1, 0]), (5, [2, 1, 0]), (6, [0]), (7, [0]), (8, []), (9, [])] (by decide +kernel) ?_
  simp -dsimp (disch := first | with_reducible assumption | omega | (intro h_; cases h_; done) | (simp only [LN] <;> omega) | (simp only [LF]; done) | (repeat (first | with_reducible assumption | apply Ext.refl | apply Ext.app | (apply Ext.set <;> omega) | (refine Ext.trans ?_ (by assumption))))) only [AX, TY, AD, mapPut, entsOf, oneV, builtinV, idsOf, mapId, touchB, Nat.reduceLT, Nat.reduceLeDiff, Nat.reduceEqDiff, Nat.reduceAdd, Nat.reduceMul, Int.reduceBEq, Int.reduceEq, Int.reduceNeg, Int.reduceLT, Int.reduceLE, Int.reduceAdd, Int.reduceSub, Int.reduceMul, Int.reduceToNat, Int.reduceGT, Nat.reduceBEq, Nat.reducePow, Nat.reduceGT, reduceCtorEq, ↓reduceIte, t0, t3, t9, t10, t11, loadN_fact gx4]
  refine (clone26_ok (hvo.ext e04) (c := x.c) (by omega)).mono ?_
  rintro _ h5 ⟨e5, p5, c5, o5, rfl, gr5⟩
  have s0 := sameO_ext e5 (lt_of_some gx4)
  have l5 := e5.le
  have gr6 := gr.ext ((ex.trans e4).trans e5)
  have hol : ∀ k, oid = some k → h.length ≤ k ∧ k < hh.length := fun k q => ⟨gr.base k q, gr.lt q⟩
  simp -dsimp (disch := first | with_reducible assumption | omega | (intro h_; cases h_; done) | (simp only [LN] <;> omega) | (simp only [LF]; done) | (repeat (first | with_reducible assumption | apply Ext.refl | apply Ext.app | (apply Ext.set <;> omega) | (refine Ext.trans ?_ (by assumption))))) only [AX, TY, AD, mapPut, entsOf, oneV, builtinV, idsOf, mapId, touchB, Nat.reduceLT, Nat.reduceLeDiff, Nat.reduceEqDiff, Nat.reduceAdd, Nat.reduceMul, Int.reduceBEq, Int.reduceEq, Int.reduceNeg, Int.reduceLT, Int.reduceLE, Int.reduceAdd, Int.reduceSub, Int.reduceMul, Int.reduceToNat, Int.reduceGT, Nat.reduceBEq, Nat.reducePow, Nat.reduceGT, reduceCtorEq, ↓reduceIte, t0, t3, t9, t10, t11, s0]
  refine (gr6.wrB (by omega) (hh := h5 ++ [O.cells (Ver.enc ⟨x.a, x.b, p5, c5, x.vals, 0, 0⟩) .rw]) (by (repeat (first | assumption | apply Ext.refl | apply Ext.app | (apply Ext.set <;> omega) | exact Ext.trans (by assumption) (by assumption) | (refine Ext.trans ?_ (by assumption))))) [⟨x.a, x.b, p5, c5, x.vals, 0, 0⟩] (snoc_last _ rfl) rfl (fun _ _ => rfl) (fun y hy => by rw [List.mem_singleton] at hy; subst hy; rfl) (by simp; omega) (by simp; omega)).mono ?_
  rintro r h10 ⟨p6, c6, o6, rfl, gr7, ho, hle7, hfr⟩
  have hn5 : ∀ a o, p5 = some (a, o) → oid ≠ some a := fun a o z q => by
    have := gr5.base a (gr5.at z)
    have := hol a q; omega
  have no6 : ∀ a, a < h5.length → oid ≠ some a → o6 ≠ some a := fun a ha hn q => by
    rcases ho with z | ⟨k, z, z2⟩
    · rw [z] at q; exact hn q
    · rw [z] at q; cases q; omega
  have e10 : Ext h h10 := Ext.of_keep fun a ha => by
    rw [hfr a (fun q => by have := hol a q; omega) (by have := e04.le; omega)]
    exact (e04.trans e5).same ha
  have hv10 : ∀ y ∈ zs ++ [(⟨x.a, x.b, p5, c5, x.vals, 0, 0⟩ : Ver)], VOK h10 y ∧ ∀ a o, y.p = some (a, o) → h.length ≤ a ∧ o6 ≠ some a := fun y hy => by
    rcases List.mem_append.1 hy with hy | hy
    · obtain ⟨u1, u2⟩ := hv y hy
      have u1' := u1.ext ((ex.trans e4).trans e5)
      exact ⟨Sl.keep u1' fun a o z => hfr a (u2 a o z).2 (Sl.lt u1' z), fun a o z => ⟨(u2 a o z).1, no6 a (Sl.lt u1' z) (u2 a o z).2⟩⟩
    · rw [List.mem_singleton] at hy; subst hy
      exact ⟨Sl.keep gr5.sl fun a o z => hfr a (hn5 a o z) (gr5.sl.lt z), fun a o z => ⟨by have := gr5.base a (gr5.at z); have := e04.le; omega, no6 a (gr5.sl.lt z) (hn5 a o z)⟩⟩
  have hk10 : (zs ++ [(⟨x.a, x.b, p5, c5, x.vals, 0, 0⟩ : Ver)]).map Ver.key = ((ops.take (i + 1)).filter fun o => !o.del && !gone ops o.a o.b).map Lo.key := by
    rw [htk, List.filter_append, List.map_append, List.map_append, hk, filter_one, hd, hgn]; rfl
  simp -dsimp (disch := first | with_reducible assumption | omega | (intro h_; cases h_; done) | (simp only [LN] <;> omega) | (simp only [LF]; done) | (repeat (first | with_reducible assumption | apply Ext.refl | apply Ext.app | (apply Ext.set <;> omega) | (refine Ext.trans ?_ (by assumption))))) only [AX, TY, AD, mapPut, entsOf, oneV, builtinV, idsOf, mapId, touchB, Nat.reduceLT, Nat.reduceLeDiff, Nat.reduceEqDiff, Nat.reduceAdd, Nat.reduceMul, Int.reduceBEq, Int.reduceEq, Int.reduceNeg, Int.reduceLT, Int.reduceLE, Int.reduceAdd, Int.reduceSub, Int.reduceMul, Int.reduceToNat, Int.reduceGT, Nat.reduceBEq, Nat.reducePow, Nat.reduceGT, reduceCtorEq, ↓reduceIte, t0, t3, t9, t10, t11, wrap_in]
  refine ⟨m - 1, by omega, i + 1, zs ++ [⟨x.a, x.b, p5, c5, x.vals, 0, 0⟩], p6, c6, o6, ?_⟩
  repeat' (first | assumption | refine And.intro ?_ ?_)
  all_goals first | rfl | omega | (simp; done) | (simp; omega; done) | skip

/-! ### rows are added -/
def Key.rid (k : Key) : Rid := ⟨k.a, k.b⟩
instance : DecidableEq Rid := fun x y => if h : x.a = y.a ∧ x.b = y.b then .isTrue (by obtain ⟨_, _⟩ := x; obtain ⟨_, _⟩ := y; simp only at h; rw [h.1, h.2]) else .isFalse fun e => h (by rw [e]; exact ⟨rfl, rfl⟩)
def pents (ms : List (Rid × Nat)) : List (V × V × Nat) := ms.map fun m => (.agg m.1.enc, .bool true, m.2)
theorem keySame_p (x y : Rid) : keySame (.agg x.enc) (.agg y.enc) = some (x.a == y.a && x.b == y.b) := by
  unfold keySame Rid.enc
  exact if_pos ⟨rfl, rfl⟩
theorem findV_p {x : Rid} : ∀ {ms : List (Rid × Nat)} {i : Nat}, (x ∉ ms.map Prod.fst → findV (.agg x.enc) (pents ms) i = some none) ∧ (x ∈ ms.map Prod.fst → ∃ j b, findV (.agg x.enc) (pents ms) i = some (some (j, .bool true, b)))
  | [], i => ⟨fun _ => rfl, fun h => by simp at h⟩
  | m :: ms, i => by
    have hs : findV (.agg x.enc) (pents (m :: ms)) i = match keySame (.agg x.enc) (.agg m.1.enc) with
      | some true => some (some (i, .bool true, m.2))
      | some false => findV (.agg x.enc) (pents ms) (i + 1)
      | none => none := rfl
    rw [hs, keySame_p]
    have ih := findV_p (x := x) (ms := ms) (i := i + 1)
    by_cases c : x = m.1
    · subst c
      simp
    · have hne : (x.a == m.1.a && x.b == m.1.b) = false := by
        obtain ⟨xa, xb⟩ := x
        obtain ⟨⟨ma, mb⟩, mn⟩ := m
        simp at c ⊢
        exact c
      rw [hne]
      constructor
      · intro h; exact ih.1 fun q => h (by simp at q ⊢; exact .inr q)
      · intro h
        refine ih.2 ?_
        rw [List.map_cons, List.mem_cons] at h
        exact h.resolve_left c
theorem mapGet_p {x : Rid} {ms : List (Rid × Nat)} : mapGet (.agg x.enc) (.bool false) false (some (pents ms)) = some (.bool (decide (x ∈ ms.map Prod.fst))) := by
  unfold mapGet
  by_cases c : x ∈ ms.map Prod.fst
  · obtain ⟨j, b, h⟩ := (findV_p (i := 0)).2 c
    simp only [h, decide_eq_true c]; rfl
  · simp only [(findV_p (i := 0)).1 c, decide_eq_false c]; rfl
theorem mapPut_p {x : Rid} {ms : List (Rid × Nat)} {cl id : Nat} {h : Heap} (hb : h[id]? = some (.map (pents ms) cl)) (c : x ∉ ms.map Prod.fst) : mapPut (.agg x.enc) (.bool true) id h h[id]? = some (h.set id (.map (pents (ms ++ [(x, cl)])) (cl + 1))) := by
  rw [hb]
  unfold mapPut
  simp only [(findV_p (i := 0)).1 c]
  simp only [pents, List.map_append, List.map_cons, List.map_nil]
/-- A row is added unless its identifier is there, or it is another table's. -/
def addK (table : Int) (acc : List Key) (k : Key) : List Key := if k.a = table ∧ k.rid ∉ acc.map Key.rid then acc ++ [k] else acc
/-- The rows that are gathered, in memory. -/
structure AddAt (b : Nat) (hh : Heap) (k4 k8 mb k7 : Nat) (oid : Option Nat) (table : Int) (zs : List Ver) : Prop where
  c4 : hh[k4]? = some (.cells [.int .i64 table] .rw)
  c8 : hh[k8]? = some (.cells [.map (some mb)] .rw)
  cm : ∃ ms cl, hh[mb]? = some (.map (pents ms) cl) ∧ ms.map Prod.fst = zs.map Ver.rid
  c7 : ∃ p c, hh[k7]? = some (.cells [.slice p zs.length c] .rw) ∧ Gr b hh p c oid 5 Ver.enc zs
  val : ∀ y ∈ zs, VOK hh y ∧ ∀ a o, y.p = some (a, o) → a ≠ k7 ∧ a ≠ mb ∧ oid ≠ some a
  no : oid ≠ some k4 ∧ oid ≠ some k8 ∧ oid ≠ some mb ∧ oid ≠ some k7
  ne : k4 ≠ mb ∧ k4 ≠ k7 ∧ k8 ≠ mb ∧ k8 ≠ k7 ∧ mb ≠ k7 ∧ b ≤ mb ∧ b ≤ k7
theorem AddAt.ext {b : Nat} {hh h2 : Heap} {k4 k8 mb k7 : Nat} {oid : Option Nat} {table : Int} {zs : List Ver} (t : AddAt b hh k4 k8 mb k7 oid table zs) (e : Ext hh h2) : AddAt b h2 k4 k8 mb k7 oid table zs := by
  obtain ⟨c4, c8, ⟨ms, cl, cm, cm2⟩, ⟨p, c, c7, gr⟩, hv, n1, ne⟩ := t
  exact ⟨e _ _ c4, e _ _ c8, ⟨ms, cl, e _ _ cm, cm2⟩, ⟨p, c, e _ _ c7, gr.ext e⟩, fun y hy => ⟨(hv y hy).1.ext e, (hv y hy).2⟩, n1, ne⟩
/-- Blocks that are none of the gathering's stand. -/
def AddK (hh h' : Heap) (mb k7 : Nat) (oid oid' : Option Nat) : Prop := hh.length ≤ h'.length ∧ (oid' = oid ∨ ∃ k, oid' = some k ∧ hh.length ≤ k) ∧ ∀ i, i < hh.length → i ≠ mb → i ≠ k7 → oid ≠ some i → h'[i]? = hh[i]?
theorem AddK.ext {hh h' : Heap} {mb k7 : Nat} {oid : Option Nat} (e : Ext hh h') : AddK hh h' mb k7 oid oid := ⟨e.le, .inl rfl, fun i hi _ _ _ => e.same hi⟩
theorem rid_key (l : List Ver) : l.map Ver.rid = (l.map Ver.key).map Key.rid := by rw [List.map_map]; rfl
theorem add_ok {b : Nat} {hh : Heap} {k4 k8 mb k7 : Nat} {oid : Option Nat} {table : Int} {zs : List Ver} (t : AddAt b hh k4 k8 mb k7 oid table zs) (hb : b ≤ hh.length) (hB : zs.length ≤ 1000) (v : Ver) (hv : VOK hh v) (hvl : v.vals.length ≤ 100000) (hvn : ∀ a o, v.p = some (a, o) → a ≠ k7 ∧ a ≠ mb) :
    WR (callE Tryz.prog hk 25 [.agg v.enc, .ptr (some (k4, 0)), .ptr (some (k8, 0)), .ptr (some (k7, 0))] hh) fun r h' => ∃ zs' oid', AddAt b h' k4 k8 mb k7 oid' table zs' ∧ zs'.map Ver.key = addK table (zs.map Ver.key) v.key ∧ zs'.length ≤ zs.length + 1 ∧ AddK hh h' mb k7 oid oid' := by
  obtain ⟨c4, c8, ⟨ms, cl, cm, cm2⟩, ⟨p, c, c7, gr⟩, hz, ⟨n4, n8, nm, n7⟩, ne1, ne2, ne3, ne4, ne5, ne6, ne7⟩ := id t
  refine WR.call (hH := rfl) Tryz.func25 rfl (n := 28) rfl rfl (by simp) ?_
  obtain ⟨g, hg, gx, ex, hgl⟩ : ∃ g, hh ++ [O.cells v.enc .rw] = g ∧ g[hh.length]? = some (O.cells v.enc .rw) ∧ Ext hh g ∧ g.length = hh.length + 1 := ⟨_, rfl, by simp, (by (repeat (first | assumption | apply Ext.refl | apply Ext.app | (apply Ext.set <;> omega) | exact Ext.trans (by assumption) (by assumption) | (refine Ext.trans ?_ (by assumption))))), by simp⟩
  have c4g := ex _ _ c4
  have c8g := ex _ _ c8
  have cmg := ex _ _ cm
  have c7g := ex _ _ c7
  simp only [Ver.enc] at hg gx
  by_cases q1 : v.a = table
  rotate_left
  · simp -dsimp (disch := first | with_reducible assumption | omega | (intro h_; cases h_; done) | (simp only [LN] <;> omega) | (simp only [LF]; done) | (repeat (first | with_reducible assumption | apply Ext.refl | apply Ext.app | (apply Ext.set <;> omega) | (refine Ext.trans ?_ (by assumption))))) only [AX, TY, AD, mapPut, entsOf, oneV, builtinV, idsOf, mapId, touchB, Nat.reduceLT, Nat.reduceLeDiff, Nat.reduceEqDiff, Nat.reduceAdd, Nat.reduceMul, Int.reduceBEq, Int.reduceEq, Int.reduceNeg, Int.reduceLT, Int.reduceLE, Int.reduceAdd, Int.reduceSub, Int.reduceMul, Int.reduceToNat, Int.reduceGT, Nat.reduceBEq, Nat.reducePow, Nat.reduceGT, reduceCtorEq, ↓reduceIte, Ver.enc, hg, loadN_fact gx, loadN_fact c4g, q1]
    refine ⟨zs, oid, t.ext ex, ?_, by omega, .ext ex⟩
    unfold addK
    rw [if_neg (fun z => q1 z.1)]
  have hget := mapGet_p (x := v.rid) (ms := ms)
  have hrid : v.rid.enc = [.int .i64 v.a, .int .i64 v.b] := rfl
  rw [hrid, cm2] at hget
  by_cases q2 : v.rid ∈ zs.map Ver.rid
  · rw [decide_eq_true q2] at hget
    simp -dsimp (disch := first | with_reducible assumption | omega | (intro h_; cases h_; done) | (simp only [LN] <;> omega) | (simp only [LF]; done) | (repeat (first | with_reducible assumption | apply Ext.refl | apply Ext.app | (apply Ext.set <;> omega) | (refine Ext.trans ?_ (by assumption))))) only [AX, TY, AD, mapPut, entsOf, oneV, builtinV, idsOf, mapId, touchB, Nat.reduceLT, Nat.reduceLeDiff, Nat.reduceEqDiff, Nat.reduceAdd, Nat.reduceMul, Int.reduceBEq, Int.reduceEq, Int.reduceNeg, Int.reduceLT, Int.reduceLE, Int.reduceAdd, Int.reduceSub, Int.reduceMul, Int.reduceToNat, Int.reduceGT, Nat.reduceBEq, Nat.reducePow, Nat.reduceGT, reduceCtorEq, ↓reduceIte, Ver.enc, hg, loadN_fact gx, loadN_fact c4g, loadN_fact c8g, eq_true q1, cmg, hget]
    refine ⟨zs, oid, t.ext ex, ?_, by omega, .ext ex⟩
    unfold addK
    rw [if_neg (fun z => z.2 (by rw [← rid_key]; exact q2))]
  rw [decide_eq_false q2] at hget
  have hput := mapPut_p (x := v.rid) cmg (by rw [cm2]; exact q2)
  rw [hrid] at hput
  have lmg := lt_of_some cmg
  have lm := lt_of_some cm
  have l7 := lt_of_some c7
  -- the map's block is written
  obtain ⟨h2, hh2, m2, k2, l2⟩ : ∃ h2, g.set mb (.map (pents (ms ++ [(v.rid, cl)])) (cl + 1)) = h2 ∧ h2[mb]? = some (.map (pents (ms ++ [(v.rid, cl)])) (cl + 1)) ∧ (∀ a, a ≠ mb → h2[a]? = g[a]?) ∧ h2.length = g.length := ⟨_, rfl, set_same _ lmg, fun a ha => set_other _ ha, by simp⟩
  have gx2 := (k2 _ (show hh.length ≠ mb by omega)).trans gx
  have c72 := (k2 _ (Ne.symm ne5)).trans c7g
  have hv2 : Sl h2 v.p 3 Vl.enc v.vals := Sl.keep (hv.ext ex) fun a o z => k2 a (hvn a o z).2
  simp -dsimp (disch := first | with_reducible assumption | omega | (intro h_; cases h_; done) | (simp only [LN] <;> omega) | (simp only [LF]; done) | (repeat (first | with_reducible assumption | apply Ext.refl | apply Ext.app | (apply Ext.set <;> omega) | (refine Ext.trans ?_ (by assumption))))) only [AX, TY, AD, mapPut, entsOf, oneV, builtinV, idsOf, mapId, touchB, Nat.reduceLT, Nat.reduceLeDiff, Nat.reduceEqDiff, Nat.reduceAdd, Nat.reduceMul, Int.reduceBEq, Int.reduceEq, Int.reduceNeg, Int.reduceLT, Int.reduceLE, Int.reduceAdd, Int.reduceSub, Int.reduceMul, Int.reduceToNat, Int.reduceGT, Nat.reduceBEq, Nat.reducePow, Nat.reduceGT, reduceCtorEq, ↓reduceIte, Ver.enc, hg, loadN_fact gx, loadN_fact c4g, loadN_fact c8g, eq_true q1, cmg, hget, -mapPut, ↓hput, hh2, loadN_fact gx2]
  refine (clone26_ok hv2 (c := v.c) (by omega)).mono ?_
  rintro _ h3 ⟨e3, p3, c3, o3, rfl, gr3⟩
  have gx3 := e3 _ _ gx2
  have c73 := e3 _ _ c72
  have m3 := e3 _ _ m2
  have l3 := e3.le
  -- the copy of the row gets its values
  obtain ⟨h4, hh4, gx4, k4', l4⟩ : ∃ h4, h3.set hh.length (.cells (Ver.enc ⟨v.a, v.b, p3, c3, v.vals, v.cr, v.dl⟩) .rw) = h4 ∧ h4[hh.length]? = some (.cells (Ver.enc ⟨v.a, v.b, p3, c3, v.vals, v.cr, v.dl⟩) .rw) ∧ (∀ a, a ≠ hh.length → h4[a]? = h3[a]?) ∧ h4.length = h3.length := ⟨_, rfl, set_same _ (by omega), fun a ha => set_other _ ha, by simp⟩
  have c74 := (k4' _ (show k7 ≠ hh.length by omega)).trans c73
  have keep4 : ∀ a, a < hh.length → a ≠ mb → h4[a]? = hh[a]? := fun a h1 h2' => by
    rw [k4' a (by omega), e3.same (by omega), k2 a h2', ex.same h1]
  have gr4 : Gr b h4 p c oid 5 Ver.enc zs := gr.keep fun a q => keep4 a (gr.lt q) (fun z => nm (by rw [← z, q]))
  have v4 : Sl h4 p3 3 Vl.enc v.vals := gr3.sl.keep fun a o z => k4' a (by have := gr3.base a (gr3.at z); omega)
  simp only [Ver.enc] at hh4 gx4
  simp -dsimp (disch := first | with_reducible assumption | omega | (intro h_; cases h_; done) | (simp only [LN] <;> omega) | (simp only [LF]; done) | (repeat (first | with_reducible assumption | apply Ext.refl | apply Ext.app | (apply Ext.set <;> omega) | (refine Ext.trans ?_ (by assumption))))) only [AX, TY, AD, mapPut, entsOf, oneV, builtinV, idsOf, mapId, touchB, Nat.reduceLT, Nat.reduceLeDiff, Nat.reduceEqDiff, Nat.reduceAdd, Nat.reduceMul, Int.reduceBEq, Int.reduceEq, Int.reduceNeg, Int.reduceLT, Int.reduceLE, Int.reduceAdd, Int.reduceSub, Int.reduceMul, Int.reduceToNat, Int.reduceGT, Nat.reduceBEq, Nat.reducePow, Nat.reduceGT, reduceCtorEq, ↓reduceIte, storeN_fact gx3 (by simp), set_same, hh4, loadN_fact gx4, loadN_fact c74]
  have lg4 := lt_of_some gx4
  refine (gr4.wrB (by omega) (hh := h4 ++ [O.cells (Ver.enc ⟨v.a, v.b, p3, c3, v.vals, v.cr, v.dl⟩) .rw]) (by (repeat (first | assumption | apply Ext.refl | apply Ext.app | (apply Ext.set <;> omega) | exact Ext.trans (by assumption) (by assumption) | (refine Ext.trans ?_ (by assumption))))) [⟨v.a, v.b, p3, c3, v.vals, v.cr, v.dl⟩] (snoc_last _ rfl) rfl (fun _ _ => rfl) (fun y hy => by rw [List.mem_singleton] at hy; subst hy; rfl) (by simp; omega) (by simp; omega)).mono ?_
  rintro r h10 ⟨p6, c6, o6, rfl, gr7, ho, hle7, hfr⟩
  have hol : ∀ k, oid = some k → k < hh.length := fun k q => gr.lt q
  have c710 : h10[k7]? = some (.cells [.slice p zs.length c] .rw) := (hfr k7 n7 (by omega)).trans c74
  obtain ⟨h11, hh11, c711, kp11, hl11⟩ : ∃ h11, h10.set k7 (.cells [.slice p6 (zs.length + 1) c6] .rw) = h11 ∧ h11[k7]? = some (.cells [.slice p6 (zs.length + 1) c6] .rw) ∧ (∀ a, a ≠ k7 → h11[a]? = h10[a]?) ∧ h11.length = h10.length := ⟨_, rfl, set_same _ (by omega), fun a ha => set_other _ ha, by simp⟩
  have keep : ∀ a, a < h4.length → a ≠ k7 → oid ≠ some a → h11[a]? = h4[a]? := fun a h1 h2 h3 => by rw [kp11 a h2, hfr a h3 h1]
  have keep0 : ∀ a, a < hh.length → a ≠ mb → a ≠ k7 → oid ≠ some a → h11[a]? = hh[a]? := fun a h1 h2 h3 h5 => by rw [keep a (by omega) h3 h5, keep4 a h1 h2]
  have no6 : ∀ a, a < h4.length → oid ≠ some a → o6 ≠ some a := fun a ha hn q => by
    rcases ho with z | ⟨k, z, z2⟩
    · rw [z] at q; exact hn q
    · rw [z] at q; cases q; omega
  have l4c := lt_of_some c4
  have l8c := lt_of_some c8
  have n3 : ∀ a o, p3 = some (a, o) → a ≠ k7 ∧ a ≠ mb ∧ oid ≠ some a := fun a o z => by
    have := gr3.base a (gr3.at z)
    exact ⟨by omega, by omega, fun q => by have := hol a q; omega⟩
  have hln : (zs ++ [(⟨v.a, v.b, p3, c3, v.vals, v.cr, v.dl⟩ : Ver)]).length = zs.length + 1 := by simp
  have m11 : h11[mb]? = some (.map (pents (ms ++ [(v.rid, cl)])) (cl + 1)) := by
    rw [keep mb (by omega) ne5 nm, k4' mb (by omega)]; exact m3
  simp -dsimp (disch := first | with_reducible assumption | omega | (intro h_; cases h_; done) | (simp only [LN] <;> omega) | (simp only [LF]; done) | (repeat (first | with_reducible assumption | apply Ext.refl | apply Ext.app | (apply Ext.set <;> omega) | (refine Ext.trans ?_ (by assumption))))) only [AX, TY, AD, mapPut, entsOf, oneV, builtinV, idsOf, mapId, touchB, Nat.reduceLT, Nat.reduceLeDiff, Nat.reduceEqDiff, Nat.reduceAdd, Nat.reduceMul, Int.reduceBEq, Int.reduceEq, Int.reduceNeg, Int.reduceLT, Int.reduceLE, Int.reduceAdd, Int.reduceSub, Int.reduceMul, Int.reduceToNat, Int.reduceGT, Nat.reduceBEq, Nat.reducePow, Nat.reduceGT, reduceCtorEq, ↓reduceIte, storeN_fact c710 (by simp), hh11]
  refine ⟨zs ++ [⟨v.a, v.b, p3, c3, v.vals, v.cr, v.dl⟩], o6, ⟨(keep0 _ l4c ne1 ne2 n4).trans c4, (keep0 _ l8c ne3 ne4 n8).trans c8, ⟨_, _, m11, by rw [List.map_append, List.map_append, cm2]; rfl⟩, ⟨p6, c6, by rw [hln]; exact c711, gr7.keep fun k q => kp11 k fun z => ?_⟩, fun y hy => ?_, ⟨no6 _ (by omega) n4, no6 _ (by omega) n8, no6 _ (by omega) nm, no6 _ (by omega) n7⟩, ne1, ne2, ne3, ne4, ne5, ne6, ne7⟩, ?_, by rw [hln]; exact Nat.le_refl _, ⟨by omega, ?_, keep0⟩⟩
  · exact no6 k7 (by omega) n7 (by rw [q, z])
  · rcases List.mem_append.1 hy with hy | hy
    · obtain ⟨u1, u2⟩ := hz y hy
      exact ⟨Sl.keep u1 fun a o z => keep0 a (Sl.lt u1 z) (u2 a o z).2.1 (u2 a o z).1 (u2 a o z).2.2, fun a o z => ⟨(u2 a o z).1, (u2 a o z).2.1, no6 a (by have := Sl.lt u1 z; omega) (u2 a o z).2.2⟩⟩
    · rw [List.mem_singleton] at hy; subst hy
      exact ⟨Sl.keep v4 fun a o z => keep a (Sl.lt v4 z) (n3 a o z).1 (n3 a o z).2.2, fun a o z => ⟨(n3 a o z).1, (n3 a o z).2.1, no6 a (Sl.lt v4 z) (n3 a o z).2.2⟩⟩
  · rw [List.map_append]
    unfold addK
    rw [if_pos ⟨q1, by rw [← rid_key]; exact q2⟩]; rfl
  · rcases ho with z | ⟨k, z, z2⟩
    · exact .inl z
    · exact .inr ⟨k, z, by omega⟩
end Go.Proofs.YtcaolnmpldbkjaaGreatA
namespace Go.Proofs.YtcaolnmpldbkjaaGreatA
open Go Go.Proofs Go.RowKit
set_option linter.unusedVariables false
set_option linter.unusedSimpArgs false
theorem addK_z {f : Key → Key} (hf : ∀ k, (f k).a = k.a ∧ (f k).rid = k.rid) (table : Int) (acc : List Key) (k : Key) : addK table (acc.map f) (f k) = (addK table acc k).map f := by
  have h2 : (acc.map f).map Key.rid = acc.map Key.rid := by rw [List.map_map]; exact List.map_congr_left fun x _ => (hf x).2
  unfold addK
  rw [h2, (hf k).1, (hf k).2]
  by_cases c : k.a = table ∧ k.rid ∉ acc.map Key.rid
  · rw [if_pos c, if_pos c, List.map_append]; rfl
  · rw [if_neg c, if_neg c]
theorem foldl_z {f : Key → Key} (hf : ∀ k, (f k).a = k.a ∧ (f k).rid = k.rid) (table : Int) : ∀ (l acc : List Key), (l.map f).foldl (addK table) (acc.map f) = (l.foldl (addK table) acc).map f
  | [], acc => rfl
  | k :: l, acc => by rw [List.map_cons, List.foldl_cons, List.foldl_cons, addK_z hf, foldl_z hf]
theorem nodup_snoc {α : Type} {l : List α} {x : α} (h : l.Nodup) (hx : x ∉ l) : (l ++ [x]).Nodup := by
  rw [List.nodup_append]
  refine ⟨h, by simp, fun a ha b hb => ?_⟩
  rw [List.mem_singleton] at hb; subst hb
  exact fun e => hx (e ▸ ha)
theorem foldl_nodup (table : Int) : ∀ (l acc : List Key), (acc.map Key.rid).Nodup → ((l.foldl (addK table) acc).map Key.rid).Nodup
  | [], acc, h => h
  | k :: l, acc, h => by
    rw [List.foldl_cons]
    refine foldl_nodup table l _ ?_
    unfold addK
    split
    · rename_i c
      rw [List.map_append]
      exact nodup_snoc h c.2
    · exact h
theorem foldl_mem {table : Int} {x : Key} : ∀ {l acc : List Key}, x ∈ l.foldl (addK table) acc → x ∈ acc ∨ x ∈ l ∧ x.a = table
  | [], acc, h => .inl h
  | k :: l, acc, h => by
    rw [List.foldl_cons] at h
    rcases foldl_mem h with q | ⟨q, q2⟩
    · unfold addK at q
      split at q
      · rename_i c
        rcases List.mem_append.1 q with q | q
        · exact .inl q
        · rw [List.mem_singleton] at q; subst q
          exact .inr ⟨List.mem_cons_self, c.1⟩
      · exact .inl q
    · exact .inr ⟨List.mem_cons_of_mem _ q, q2⟩
theorem foldl_distinct (table : Int) : ∀ (l acc : List Key), (l.map Key.rid).Nodup → l.foldl (addK table) acc = acc ++ l.filter fun k => decide (k.a = table) && decide (k.rid ∉ acc.map Key.rid)
  | [], acc, _ => by simp
  | k :: l, acc, h => by
    rw [List.map_cons, List.nodup_cons] at h
    rw [List.foldl_cons, foldl_distinct table l _ h.2, List.filter_cons]
    unfold addK
    by_cases c : k.a = table ∧ k.rid ∉ acc.map Key.rid
    · rw [if_pos c, if_pos (by simp only [Bool.and_eq_true, decide_eq_true_eq]; exact c), List.append_assoc]
      congr 1
      rw [List.singleton_append]
      congr 1
      refine List.filter_congr fun x hx => ?_
      have hne : x.rid ≠ k.rid := fun e => h.1 (e ▸ List.mem_map_of_mem hx)
      congr 1
      rw [decide_eq_decide, List.map_append, List.mem_append]
      constructor
      · exact fun q q2 => q (.inl q2)
      · intro q q2
        rcases q2 with q2 | q2
        · exact q q2
        · rw [List.map_singleton, List.mem_singleton] at q2; exact hne q2
    · rw [if_neg c, if_neg (by simp only [Bool.and_eq_true, decide_eq_true_eq]; exact c)]
theorem nodup_inj {α β : Type} {f : α → β} : ∀ {l : List α} {x y : α}, (l.map f).Nodup → x ∈ l → y ∈ l → f x = f y → x = y
  | [], _, _, _, hx, _, _ => by cases hx
  | a :: l, x, y, h, hx, hy, e => by
    rw [List.map_cons, List.nodup_cons] at h
    rcases List.mem_cons.1 hx with rfl | hx2 <;> rcases List.mem_cons.1 hy with rfl | hy2
    · rfl
    · exact absurd (e ▸ List.mem_map_of_mem hy2) h.1
    · exact absurd (e ▸ List.mem_map_of_mem hx2) h.1
    · exact nodup_inj h.2 hx2 hy2 e
/-- A row without its end. -/
def Key.nod (k : Key) : Key := ⟨k.a, k.b, k.vals, k.cr, 0⟩
theorem nod_ok (k : Key) : k.nod.a = k.a ∧ k.nod.rid = k.rid := ⟨rfl, rfl⟩
/-- A row whose end lies after a snapshot has none. -/
def Key.zero (s : Int) (k : Key) : Key := if s < k.dl then k.nod else k
theorem zero_ok (s : Int) (k : Key) : (k.zero s).a = k.a ∧ (k.zero s).rid = k.rid := by unfold Key.zero; split <;> exact ⟨rfl, rfl⟩
theorem nod_zero (s : Int) (k : Key) : (k.zero s).nod = k.nod := by unfold Key.zero; split <;> rfl
def Key.le (k l : Key) : Prop := k.a < l.a ∨ k.a = l.a ∧ k.b ≤ l.b
/-- The committed rows that a transaction sees. -/
def seenK (ds : List Td) (ops : List Lo) (snap : Int) (table : Int) (ks : List Key) : List Key := (ks.filter fun k => sees k.cr k.dl snap).filter fun k => !(ds.any fun d => decide (d.id = table)) || !gone ops k.a k.b
/-- What Rows gives. -/
def RowsR (ds : List Td) (ops : List Lo) (snap table : Int) (ys zs : List Ver) : Prop := ∃ O, O.Perm (ownK ops) ∧ (zs.map Ver.key).Perm ((seenK ds ops snap table (ys.map Ver.key) ++ O).foldl (addK table) []) ∧ zs.Pairwise leV
theorem RowsR.nodup {ds : List Td} {ops : List Lo} {snap table : Int} {ys zs : List Ver} (r : RowsR ds ops snap table ys zs) : ((zs.map Ver.key).map Key.rid).Nodup := by
  obtain ⟨O, _, h2, _⟩ := r
  exact ((h2.map Key.rid).nodup_iff).2 (foldl_nodup table _ _ List.nodup_nil)
theorem RowsR.mem {ds : List Td} {ops : List Lo} {snap table : Int} {ys zs : List Ver} (r : RowsR ds ops snap table ys zs) {z : Ver} (hz : z ∈ zs) : z.a = table ∧ ((z.key ∈ ys.map Ver.key ∧ sees z.cr z.dl snap = true) ∨ (z.cr = 0 ∧ z.dl = 0)) := by
  obtain ⟨O, h1, h2, _⟩ := r
  have h3 := h2.mem_iff.1 (List.mem_map_of_mem hz)
  rcases foldl_mem h3 with q | ⟨q, q2⟩
  · cases q
  refine ⟨q2, ?_⟩
  rcases List.mem_append.1 q with q | q
  · have := List.mem_filter.1 (List.mem_filter.1 q).1
    exact .inl this
  · have q3 := h1.mem_iff.1 q
    unfold ownK at q3
    obtain ⟨o, _, ho⟩ := List.mem_map.1 q3
    refine .inr ?_
    have e1 : (Lo.key o).cr = z.cr := by rw [ho]; rfl
    have e2 : (Lo.key o).dl = z.dl := by rw [ho]; rfl
    exact ⟨e1.symm, e2.symm⟩
theorem RowsR.strict {ds : List Td} {ops : List Lo} {snap table : Int} {ys zs : List Ver} (r : RowsR ds ops snap table ys zs) : zs.Pairwise fun x y => x.a < y.a ∨ x.a = y.a ∧ x.b < y.b := by
  have h1 := r.nodup
  obtain ⟨O, _, _, h2⟩ := r
  rw [List.map_map, List.Nodup, List.pairwise_map] at h1
  refine (h1.and h2).imp fun {x y} ⟨p, q⟩ => ?_
  rw [leV_iff] at q
  rcases q with q | ⟨q, q2⟩
  · exact .inl q
  · refine .inr ⟨q, ?_⟩
    have : x.b ≠ y.b := fun e => p (by show (⟨x.a, x.b⟩ : Rid) = ⟨y.a, y.b⟩; rw [q, e])
    omega
theorem RowsR.same {ds : List Td} {ops : List Lo} {snap table : Int} {ys ls zs ws : List Ver} (r : RowsR ds ops snap table ys zs) (r2 : RowsR ds ops snap table ls ws) (hown : ((ownK ops).map Key.rid).Nodup)
    (hseen : seenK ds ops snap table (ls.map Ver.key) = (seenK ds ops snap table (ys.map Ver.key)).map (Key.zero snap)) : zs.map (fun z => z.key.nod) = ws.map fun z => z.key.nod := by
  have n1 := r.nodup
  have n2 := r2.nodup
  obtain ⟨O1, p1, q1, s1⟩ := r
  obtain ⟨O2, p2, q2, s2⟩ := r2
  have m1 : ∀ l : List Ver, l.map (fun z => z.key.nod) = (l.map Ver.key).map Key.nod := fun l => by rw [List.map_map]; rfl
  have hA := foldl_z (f := Key.zero snap) (zero_ok snap) table (seenK ds ops snap table (ys.map Ver.key)) []
  rw [List.map_nil] at hA
  rw [List.foldl_append, foldl_distinct table O1 _ (((p1.map Key.rid).nodup_iff).2 hown)] at q1
  rw [List.foldl_append, foldl_distinct table O2 _ (((p2.map Key.rid).nodup_iff).2 hown), hseen, hA] at q2
  generalize (seenK ds ops snap table (ys.map Ver.key)).foldl (addK table) [] = A at q1 q2
  have hAr : (A.map (Key.zero snap)).map Key.rid = A.map Key.rid := by rw [List.map_map]; exact List.map_congr_left fun x _ => (zero_ok snap x).2
  rw [hAr] at q2
  have q12 := (p1.trans p2.symm).filter fun k => decide (k.a = table) && decide (k.rid ∉ A.map Key.rid)
  have hAn : (A.map (Key.zero snap)).map Key.nod = A.map Key.nod := by rw [List.map_map]; exact List.map_congr_left fun x _ => nod_zero snap x
  have perm : (zs.map fun z => z.key.nod).Perm (ws.map fun z => z.key.nod) := by
    rw [m1, m1]
    refine (q1.map Key.nod).trans (List.Perm.trans ?_ (q2.map Key.nod).symm)
    rw [List.map_append, List.map_append, hAn]
    exact (q12.map Key.nod).append_left _
  have pw : ∀ {l : List Ver}, l.Pairwise leV → (l.map fun z => z.key.nod).Pairwise Key.le := fun {l} hl => by
    rw [List.pairwise_map]
    exact hl.imp fun {x y} h => leV_iff.1 h
  refine perm.eq_of_pairwise (le := Key.le) (fun a b ha hb h1 h2 => ?_) (pw s1) (pw s2)
  have hr : a.rid = b.rid := by
    unfold Key.le at h1 h2
    have e1 : a.a = b.a := by omega
    have e2 : a.b = b.b := by omega
    unfold Key.rid; rw [e1, e2]
  have hn : ((zs.map fun z => z.key.nod).map Key.rid).Nodup := by
    rw [m1, List.map_map]
    exact n1
  exact nodup_inj hn ha (perm.mem_iff.2 hb) hr
/-! ### what the log holds -/
def LogOK (ops : List Lo) : Prop := ((ops.filter fun o => !o.del).map fun o => (⟨o.a, o.b⟩ : Rid)).Nodup ∧ ∀ o ∈ ops, o.vals.length ≤ 10
theorem LogOK.own {ops : List Lo} (h : LogOK ops) : ((ownK ops).map Key.rid).Nodup := by
  unfold ownK
  rw [List.map_map]
  refine List.Nodup.sublist ?_ h.1
  refine List.Sublist.map _ ?_
  have : (ops.filter fun o => !o.del && !gone ops o.a o.b) = (ops.filter fun o => !o.del).filter fun o => !gone ops o.a o.b := by
    rw [List.filter_filter]
    exact List.filter_congr fun x _ => Bool.and_comm _ _
  rw [this]
  exact List.filter_sublist
theorem StepQ.log {ds : List Td} {ops ops' : List Lo} {o : Oq} (q : StepQ ds ops o ops') (h : LogOK ops) (ho : o.v.vals.length ≤ 10) : LogOK ops' := by
  unfold StepQ at q
  split at q
  · obtain ⟨r, ⟨_, _, rfl⟩ | ⟨_, _, _, rfl⟩ | ⟨_, hk, _, p, c, rfl⟩⟩ := q
    · exact h
    · exact h
    · constructor
      · rw [List.filter_append, List.map_append]
        refine nodup_snoc h.1 fun hm => ?_
        obtain ⟨x, hx, e⟩ := List.mem_map.1 hm
        unfold known at hk
        rw [List.any_eq_false] at hk
        refine hk x (List.mem_filter.1 hx).1 ?_
        simp only [Rid.mk.injEq] at e
        simp [e.1, e.2]
      · intro x hx
        rcases List.mem_append.1 hx with hx | hx
        · exact h.2 x hx
        · rw [List.mem_singleton] at hx; subst hx; exact ho
  · split at q
    · obtain ⟨r, ⟨_, _, rfl⟩ | ⟨_, _, _, rfl⟩ | ⟨_, _, _, rfl⟩⟩ := q
      · exact h
      · exact h
      · constructor
        · rw [List.filter_append]
          have : ([(⟨true, o.v.a, o.v.b, none, some 0, []⟩ : Lo)].filter fun o => !o.del) = [] := rfl
          rw [this, List.append_nil]; exact h.1
        · intro x hx
          rcases List.mem_append.1 hx with hx | hx
          · exact h.2 x hx
          · rw [List.mem_singleton] at hx; subst hx; simp
    · split at q
      · obtain ⟨r, ⟨_, _, rfl⟩ | ⟨_, _, _, rfl⟩⟩ := q
        · exact h
        · exact ⟨List.Nodup.sublist (List.Sublist.map _ (List.Sublist.filter _ (List.take_sublist _ _))) h.1, fun x hx => h.2 x (List.mem_of_mem_take hx)⟩
      · subst q; exact h
theorem StepsQ.log {ds : List Td} : ∀ {os : List Oq} {a b : List Lo}, StepsQ ds a os b → LogOK a → (∀ o ∈ os, o.v.vals.length ≤ 10) → LogOK b ∧ b.length ≤ a.length + os.length
  | [], a, b, h, q, _ => by cases h; exact ⟨q, by simp⟩
  | x :: os, a, b, ⟨mid, h1, h2⟩, q, hx => by
    have := h1.len
    obtain ⟨r1, r2⟩ := StepsQ.log h2 (h1.log q (hx _ List.mem_cons_self)) fun o ho => hx o (List.mem_cons_of_mem _ ho)
    exact ⟨r1, by rw [List.length_cons]; omega⟩
/-- What a later list of versions is to a snapshot. -/
theorem seen_later {ds : List Td} {ops : List Lo} {snap table : Int} (hs : 0 ≤ snap) {ks : List Key} {x : Key} (hx : x.cr = snap + 1) : seenK ds ops snap table ((ks.filter fun k => decide (k.cr ≤ snap)).map (Key.zero snap) ++ [x]) = (seenK ds ops snap table ks).map (Key.zero snap) := by
  unfold seenK
  have hx2 : sees x.cr x.dl snap = false := by unfold sees; rw [hx, decide_eq_false (by omega)]; rfl
  have hz : ∀ k : Key, k.cr ≤ snap → sees (k.zero snap).cr (k.zero snap).dl snap = sees k.cr k.dl snap := fun k hk => by
    unfold Key.zero sees
    split
    · rename_i c
      have : k.dl > snap := c
      simp [Key.nod, this]
      try rfl
    · rfl
  have hc : ∀ k : Key, (k.zero snap).cr = k.cr := fun k => by unfold Key.zero; split <;> rfl
  have ha : ∀ k : Key, (k.zero snap).a = k.a ∧ (k.zero snap).b = k.b := fun k => by unfold Key.zero; split <;> exact ⟨rfl, rfl⟩
  rw [List.filter_append, show ([x].filter fun k => sees k.cr k.dl snap) = [] by rw [List.filter_cons, hx2]; rfl, List.append_nil, List.filter_map, List.filter_map]
  congr 1
  rw [List.filter_filter, List.filter_filter, List.filter_filter]
  refine List.filter_congr fun k _ => ?_
  simp only [Function.comp]
  rw [(ha k).1, (ha k).2]
  by_cases c : k.cr ≤ snap
  · rw [hz k c, decide_eq_true c, Bool.and_true]
  · have h0 : sees k.cr k.dl snap = false := by unfold sees; rw [decide_eq_false c]; rfl
    rw [decide_eq_false c, h0, Bool.and_false, Bool.and_false]
end Go.Proofs.YtcaolnmpldbkjaaGreatA
