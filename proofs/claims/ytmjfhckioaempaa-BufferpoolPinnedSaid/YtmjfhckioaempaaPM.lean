/- Words of this session: chapter 16: loading a page. Words of this session: chapter 16: Pin, Flush; New. Words of this session: chapter 16: Flush; New. -/
import Derived.Test.YtmjfhckioaempaaPJ
namespace Go.Proofs.YtmjfhckioaempaaA
open Go Go.Proofs Go.RowKit
set_option linter.unusedVariables false
set_option linter.unusedSimpArgs false
set_option maxRecDepth 10000
set_option maxHeartbeats 2000000
/-- The frame into which a page is loaded, the hand afterwards, the flags cleared. -/
def ChO (S : Bp) (j hand : Nat) (cl : List Int) : Prop :=
  (S.frames.findIdx? emptyQ = some j ∧ hand = S.hand ∧ cl = []) ∨ (S.frames.findIdx? emptyQ = none ∧ ∃ t, Vic S.frames S.hand t cl ∧ j = hx S.frames.length S.hand t ∧ hand = hx S.frames.length S.hand (t + 1))
theorem ChO.lt {S : Bp} {j hand : Nat} {cl : List Int} (q : ChO S j hand cl) (h : S.hand < S.frames.length) : j < S.frames.length ∧ hand < S.frames.length ∧ ∀ x ∈ cl, ∃ k : Nat, x = k ∧ k < S.frames.length := by
  rcases q with ⟨h1, rfl, rfl⟩ | ⟨_, t, v, rfl, rfl⟩
  · obtain ⟨hi, _⟩ := List.findIdx?_eq_some_iff_getElem.1 h1
    exact ⟨hi, h, by simp⟩
  · refine ⟨hx_lt (by omega), hx_lt (by omega), fun x hx' => ?_⟩
    obtain ⟨t', _, h2, _⟩ := (v.cleared x).1 hx'
    exact ⟨_, h2, hx_lt (by omega)⟩
def clrF (fs : List Fr) (cl : List Int) : List Fr := fs.mapIdx fun i f => if (i : Int) ∈ cl then { f with ref := false } else f
theorem clrF_len (fs : List Fr) (cl : List Int) : (clrF fs cl).length = fs.length := by simp [clrF]
theorem clrF_get {fs : List Fr} {cl : List Int} {i : Nat} (hi : i < fs.length) : (clrF fs cl)[i]'(by rw [clrF_len]; exact hi) = if (i : Int) ∈ cl then { fs[i] with ref := false } else fs[i] := by simp [clrF]
theorem clrF_nil (fs : List Fr) : clrF fs [] = fs := by
  apply List.ext_getElem (clrF_len _ _)
  intro i h1 h2
  rw [clrF_get h2, if_neg (by simp)]
theorem clrF_snoc {fs : List Fr} {cl : List Int} {k : Nat} (hk : k < fs.length) : (clrF fs cl).set k { (clrF fs cl)[k]'(by rw [clrF_len]; exact hk) with ref := false } = clrF fs (cl ++ [(k : Int)]) := by
  apply List.ext_getElem (by simp [clrF_len])
  intro i h1 h2
  have hi : i < fs.length := by rw [clrF_len] at h2; exact h2
  rw [clrF_get hi]
  by_cases c : k = i
  · subst c
    rw [List.getElem_set_self, clrF_get hi, if_pos (show (k : Int) ∈ cl ++ [(k : Int)] by simp)]
    split <;> rfl
  · rw [List.getElem_set_ne c, clrF_get hi]
    by_cases q : (i : Int) ∈ cl
    · rw [if_pos q, if_pos (by simp [q])]
    · rw [if_neg q, if_neg (by simp [q]; omega)]
theorem clrF_mem {fs : List Fr} {cl : List Int} {f : Fr} (h : f ∈ clrF fs cl) : ∃ g ∈ fs, f = g ∨ f = { g with ref := false } := by
  obtain ⟨i, hi, rfl⟩ := List.getElem_of_mem h
  have hi' : i < fs.length := by rw [clrF_len] at hi; exact hi
  refine ⟨fs[i], List.getElem_mem hi', ?_⟩
  rw [clrF_get hi']
  split
  · exact .inr rfl
  · exact .inl rfl
structure LCh (I : Ids) (S : Bp) (page : Int) (h : Heap) (ok : Bool) (τ : Tp) (hh : Heap) : Prop where
  t0 : τ 0 = .ptr (some (I.pi, 0))
  t1 : τ 1 = .int .i64 page
  t6 : τ 6 = .ptr (some (h.length, 0))
  t7 : τ 7 = .bool ok
  e : Ext h hh
  no : ok = false → S.frames.findIdx? emptyQ = none ∧ ∀ f ∈ S.frames, f.pins ≠ 0
  yes : ok = true → ∃ j hand cl pc cc, ChO S j hand cl ∧ hh[h.length]? = some (.cells [.int .i64 j, .int .i64 hand, .slice pc cl.length cc] .rw) ∧ Sl hh pc 1 ei cl ∧ (∀ a o, pc = some (a, o) → h.length < a) ∧ cl.length ≤ 8192
def WroE (D : Dk) (old : Fr) (D1 : Dk) (e : Int) : Prop :=
  if 0 ≤ old.page ∧ old.dirty = true then ∃ off : Nat, (off : Int) = old.page * 1024 ∧ WrO D off old.data D1 e else D1 = D ∧ e = 0
/-- What loading a page comes to. -/
def LoO (S : Bp) (page : Nat) (r : V) (S' : Bp) (rs : Option (Option (Nat × Nat) × Option Nat × List Int)) : Prop :=
  (S.frames.findIdx? emptyQ = none ∧ (∀ f ∈ S.frames, f.pins ≠ 0) ∧ S' = S ∧ rs = none ∧ r = .tuple [.slice none 0 (some 0), .int .i64 9]) ∨
  ∃ j hand cl D1 e, ChO S j hand cl ∧ ∃ hj : j < S.frames.length, WroE S.D S.frames[j] D1 e ∧
    ((e ≠ 0 ∧ S' = ⟨D1, S.pages, S.frames, S.hand, S.reads⟩ ∧ rs = none ∧ r = .tuple [.slice none 0 (some 0), .int .i64 e]) ∨
     (e = 0 ∧ D1.failed = true ∧ S' = ⟨D1, S.pages, S.frames, S.hand, S.reads⟩ ∧ rs = none ∧ r = .tuple [.slice none 0 (some 0), .int .i64 11]) ∨
     (e = 0 ∧ D1.failed = false ∧ ∃ p c data, data = ((applyAll D1.dur D1.pend).drop (page * 1024)).take 1024 ∧ rs = some (p, c, data) ∧ r = .tuple [.slice p 1024 c, .int .i64 0] ∧ S' = ⟨D1, S.pages, (clrF S.frames cl).set j ⟨page, p, c, data, 1, false, true⟩, hand, S.reads + 1⟩))
theorem PAt.disk {b : Nat} {h h' : Heap} {I : Ids} {S : Bp} {oid oid' : Option Nat} {D1 : Dk} (d : PAt b h I S oid) (dk : DAt b h' I.di I.du D1 oid' (fun i => i = I.pi ∨ i = I.fr)) (k : Kp h h' (ownD I.di I.du oid) (ownD I.di I.du oid')) : PAt b h' I ⟨D1, S.pages, S.frames, S.hand, S.reads⟩ oid' ∧ Kp h h' (ownP I oid) (ownP I oid') := by
  have n1 := (d.dk.mlt I.pi (.inl rfl)).2
  have n2 := (d.dk.mlt I.fr (.inr rfl)).2
  refine ⟨⟨dk, k.get d.pool n1, k.get d.frs n2, fun f hf => ?_, d.ne, d.n1, d.hand⟩, ⟨k.le, fun i hi hn => k.fr i hi fun q => hn (.inr (.inr q)), fun i hi q => ?_⟩⟩
  · have hd := d.dat f hf
    refine ⟨k.rs hd.1 fun a o e q => hd.2 a o e (.inr (.inr q)), fun a o e q => ?_⟩
    have ha := Sl.lt hd.1.sl e
    rcases q with q | q | q
    · exact hd.2 a o e (.inl q)
    · exact hd.2 a o e (.inr (.inl q))
    · exact hd.2 a o e (.inr (.inr (k.ow a ha q)))
  · rcases q with q | q | q
    · exact .inl q
    · exact .inr (.inl q)
    · exact .inr (.inr (k.ow i hi q))
/-- What is asked of a pool that pages are loaded into. -/
structure Okp (S : Bp) : Prop where
  dur : S.D.dur.length = S.pages * 1024
  pages : S.pages ≤ 4096
  pins : ∀ f ∈ S.frames, 0 ≤ f.pins ∧ f.pins ≤ 1000000
  page : ∀ f ∈ S.frames, 0 ≤ f.page → f.page < S.pages ∧ f.data.length = 1024
  few : S.D.pend.length < 50000
  ctr : S.D.ctr ≤ 9223372036854775807
  reads : 0 ≤ S.reads ∧ S.reads ≤ 1000000
theorem load_ok {b : Nat} {h : Heap} {I : Ids} {S : Bp} {oid : Option Nat} (d : PAt b h I S oid) (ok : Okp S) (page : Nat) (hpage : page < S.pages) :
    WR (callE Try.prog hk 62 [.ptr (some (I.pi, 0)), .int .i64 page] h) fun r h' => ∃ S' oid' rs, LoO S page r S' rs ∧ PAt b h' I S' oid' ∧ Kp h h' (ownP I oid) (ownP I oid') ∧ ∀ p c data, rs = some (p, c, data) → ∃ o', Gr h.length h' p c o' 1 eb data := by
  have gp := d.pool
  have n1 := d.n1
  have hhand := d.hand
  have hpi := lt_of_some gp
  have hpos : ∀ f ∈ S.frames, 0 ≤ f.pins := fun f hf => (ok.pins f hf).1
  refine WR.call (hH := rfl) Try.func62 rfl (n := 116) rfl rfl (by simp) ?_
  generalize hS0 : Code.block 0 _ = B0
  obtain ⟨g, hg, g0, g1, e1, hgl⟩ : ∃ g, h ++ [O.cells [V.int .i64 0, V.int .i64 0, V.slice none 0 (some 0)] .rw] ++ [O.cells [V.func 72 [V.ptr (some (I.pi, 0))] [], V.func 73 [V.ptr (some (I.pi, 0))] []] .rw] = g ∧ g[h.length]? = some (O.cells [V.int .i64 0, V.int .i64 0, V.slice none 0 (some 0)] .rw) ∧ g[h.length + 1]? = some (O.cells [V.func 72 [V.ptr (some (I.pi, 0))] [], V.func 73 [V.ptr (some (I.pi, 0))] []] .rw) ∧ Ext h g ∧ g.length = h.length + 2 := ⟨_, rfl, by rw [snoc_old _ (by simp)]; exact snoc_last _ rfl, snoc_last _ (by simp), (by (repeat (first | assumption | apply Ext.refl | apply Ext.app | (apply Ext.set <;> omega) | exact Ext.trans (by assumption) (by assumption) | (refine Ext.trans ?_ (by assumption))))), by simp⟩
  simp -dsimp (disch := first | with_reducible assumption | omega | (intro h_; cases h_; done) | (simp only [LN] <;> omega) | (simp only [LF]; done) | (repeat (first | with_reducible assumption | apply Ext.refl | apply Ext.app | (apply Ext.set <;> omega) | (refine Ext.trans ?_ (by assumption))))) only [AX, TY, AD, mapPut, entsOf, oneV, builtinV, idsOf, mapId, touchB, Nat.reduceLT, Nat.reduceLeDiff, Nat.reduceEqDiff, Nat.reduceAdd, Nat.reduceMul, Int.reduceBEq, Int.reduceEq, Int.reduceNeg, Int.reduceLT, Int.reduceLE, Int.reduceAdd, Int.reduceSub, Int.reduceMul, Int.reduceToNat, Int.reduceGT, Nat.reduceBEq, Nat.reducePow, Nat.reduceGT, reduceCtorEq, ↓reduceIte, hg]
  refine wpc_cutT (fun τ' h' => ∃ ok, LCh I S page h ok τ' h') ?_ ?_
  · subst hS0
    simp -dsimp (disch := first | with_reducible assumption | omega | (intro h_; cases h_; done) | (simp only [LN] <;> omega) | (simp only [LF]; done) | (repeat (first | with_reducible assumption | apply Ext.refl | apply Ext.app | (apply Ext.set <;> omega) | (refine Ext.trans ?_ (by assumption))))) only [AX, TY, AD, mapPut, entsOf, oneV, builtinV, idsOf, mapId, touchB, Nat.reduceLT, Nat.reduceLeDiff, Nat.reduceEqDiff, Nat.reduceAdd, Nat.reduceMul, Int.reduceBEq, Int.reduceEq, Int.reduceNeg, Int.reduceLT, Int.reduceLE, Int.reduceAdd, Int.reduceSub, Int.reduceMul, Int.reduceToNat, Int.reduceGT, Nat.reduceBEq, Nat.reducePow, Nat.reduceGT, reduceCtorEq, ↓reduceIte]
    refine W.loop (fun m τ hh => ∃ i : Nat, m + i = 2 ∧ τ 0 = .ptr (some (I.pi, 0)) ∧ τ 1 = .int .i64 page ∧ τ 6 = .ptr (some (h.length, 0)) ∧ τ 7 = .bool false ∧ τ 20 = .slice (some (h.length + 1, 0)) 2 (some 2) ∧ τ 21 = .int .i64 2 ∧ τ 22 = .int .i64 i ∧ Ext h hh ∧ (∃ x y, hh[h.length]? = some (.cells [.int .i64 x, .int .i64 y, .slice none 0 (some 0)] .rw)) ∧ hh[h.length + 1]? = some (.cells [V.func 72 [V.ptr (some (I.pi, 0))] [], V.func 73 [V.ptr (some (I.pi, 0))] []] .rw) ∧ (1 ≤ i → S.frames.findIdx? emptyQ = none) ∧ (2 ≤ i → ∀ f ∈ S.frames, f.pins ≠ 0)) ?_ (m := 2) ?_
    rotate_left
    · refine ⟨0, rfl, ?_⟩
      have hz : ∃ x y, g[h.length]? = some (O.cells [.int .i64 x, .int .i64 y, .slice none 0 (some 0)] .rw) := ⟨0, 0, g0⟩
      simp -dsimp (disch := first | with_reducible assumption | omega | (intro h_; cases h_; done) | (simp only [LN] <;> omega) | (simp only [LF]; done) | (repeat (first | with_reducible assumption | apply Ext.refl | apply Ext.app | (apply Ext.set <;> omega) | (refine Ext.trans ?_ (by assumption))))) only [AX, TY, AD, mapPut, entsOf, oneV, builtinV, idsOf, mapId, touchB, Nat.reduceLT, Nat.reduceLeDiff, Nat.reduceEqDiff, Nat.reduceAdd, Nat.reduceMul, Int.reduceBEq, Int.reduceEq, Int.reduceNeg, Int.reduceLT, Int.reduceLE, Int.reduceAdd, Int.reduceSub, Int.reduceMul, Int.reduceToNat, Int.reduceGT, Nat.reduceBEq, Nat.reducePow, Nat.reduceGT, reduceCtorEq, ↓reduceIte, hgl]
      repeat' (first | assumption | refine And.intro ?_ ?_)
      all_goals first | rfl | omega | (simp; done) | (simp; omega; done) | skip
    rintro m τ hh ⟨i, hm, t0, t1, t6, t7, t20, t21, t22, e, ⟨x, y, hc⟩, hfn, hi1, hi2⟩
    have hcl := lt_of_some hc
    by_cases c2 : i = 2
    · subst c2
      simp -dsimp (disch := first | with_reducible assumption | omega | (intro h_; cases h_; done) | (simp only [LN] <;> omega) | (simp only [LF]; done) | (repeat (first | with_reducible assumption | apply Ext.refl | apply Ext.app | (apply Ext.set <;> omega) | (refine Ext.trans ?_ (by assumption))))) only [AX, TY, AD, mapPut, entsOf, oneV, builtinV, idsOf, mapId, touchB, Nat.reduceLT, Nat.reduceLeDiff, Nat.reduceEqDiff, Nat.reduceAdd, Nat.reduceMul, Int.reduceBEq, Int.reduceEq, Int.reduceNeg, Int.reduceLT, Int.reduceLE, Int.reduceAdd, Int.reduceSub, Int.reduceMul, Int.reduceToNat, Int.reduceGT, Nat.reduceBEq, Nat.reducePow, Nat.reduceGT, reduceCtorEq, ↓reduceIte, t0, t1, t6, t7, t20, t21, t22]
      refine ⟨false, ?_⟩
      constructor <;> (try first | assumption | ((repeat (first | assumption | apply Ext.refl | apply Ext.app | (apply Ext.set <;> omega) | exact Ext.trans (by assumption) (by assumption) | (refine Ext.trans ?_ (by assumption)))); done) | (refine Sl.ext (by assumption) ?_; (repeat (first | assumption | apply Ext.refl | apply Ext.app | (apply Ext.set <;> omega) | exact Ext.trans (by assumption) (by assumption) | (refine Ext.trans ?_ (by assumption)))); done) | (simp -dsimp (disch := first | with_reducible assumption | omega | (intro h_; cases h_; done) | (simp only [LN] <;> omega) | (simp only [LF]; done) | (repeat (first | with_reducible assumption | apply Ext.refl | apply Ext.app | (apply Ext.set <;> omega) | (refine Ext.trans ?_ (by assumption))))) only [AX, TY, AD, mapPut, entsOf, oneV, builtinV, idsOf, mapId, touchB, Nat.reduceLT, Nat.reduceLeDiff, Nat.reduceEqDiff, Nat.reduceAdd, Nat.reduceMul, Int.reduceBEq, Int.reduceEq, Int.reduceNeg, Int.reduceLT, Int.reduceLE, Int.reduceAdd, Int.reduceSub, Int.reduceMul, Int.reduceToNat, Int.reduceGT, Nat.reduceBEq, Nat.reducePow, Nat.reduceGT, reduceCtorEq, ↓reduceIte, t0, t1, t6, t7, Int.natCast_add, Int.natCast_one, Int.natCast_zero]; try (first | assumption | with_reducible rfl)))
      · exact ⟨hi1 (by omega), hi2 (by omega)⟩
    by_cases c0 : i = 0
    · subst c0
      simp -dsimp (disch := first | with_reducible assumption | omega | (intro h_; cases h_; done) | (simp only [LN] <;> omega) | (simp only [LF]; done) | (repeat (first | with_reducible assumption | apply Ext.refl | apply Ext.app | (apply Ext.set <;> omega) | (refine Ext.trans ?_ (by assumption))))) only [AX, TY, AD, mapPut, entsOf, oneV, builtinV, idsOf, mapId, touchB, Nat.reduceLT, Nat.reduceLeDiff, Nat.reduceEqDiff, Nat.reduceAdd, Nat.reduceMul, Int.reduceBEq, Int.reduceEq, Int.reduceNeg, Int.reduceLT, Int.reduceLE, Int.reduceAdd, Int.reduceSub, Int.reduceMul, Int.reduceToNat, Int.reduceGT, Nat.reduceBEq, Nat.reducePow, Nat.reduceGT, reduceCtorEq, ↓reduceIte, t0, t1, t6, t7, t20, t21, t22, loadN_fact hfn]
      refine (empty_ok (d.ext e)).mono ?_
      rintro _ h2 ⟨e2, rfl⟩
      have hc2 := e2 _ _ hc
      have hfn2 := e2 _ _ hfn
      have hc2l := lt_of_some hc2
      cases hfi : S.frames.findIdx? emptyQ with
      | none =>
        have e3 : Ext h (h2.set h.length (O.cells [V.int .i64 (-1), V.int .i64 S.hand, V.slice none 0 (some 0)] .rw)) := Ext.set (e.trans e2) (Nat.le_refl _) _
        simp -dsimp (disch := first | with_reducible assumption | omega | (intro h_; cases h_; done) | (simp only [LN] <;> omega) | (simp only [LF]; done) | (repeat (first | with_reducible assumption | apply Ext.refl | apply Ext.app | (apply Ext.set <;> omega) | (refine Ext.trans ?_ (by assumption))))) only [AX, TY, AD, mapPut, entsOf, oneV, builtinV, idsOf, mapId, touchB, Nat.reduceLT, Nat.reduceLeDiff, Nat.reduceEqDiff, Nat.reduceAdd, Nat.reduceMul, Int.reduceBEq, Int.reduceEq, Int.reduceNeg, Int.reduceLT, Int.reduceLE, Int.reduceAdd, Int.reduceSub, Int.reduceMul, Int.reduceToNat, Int.reduceGT, Nat.reduceBEq, Nat.reducePow, Nat.reduceGT, reduceCtorEq, ↓reduceIte, t0, t1, t6, t7, t20, t21, t22, idxI, Option.isSome_none, storeN_fact hc2 (by simp)]
        have hfn3 := (set_other (h := h2) (i := h.length) (j := h.length + 1) (O.cells [V.int .i64 (-1), V.int .i64 S.hand, V.slice none 0 (some 0)] .rw) (by omega)).trans hfn2
        refine ⟨m - 1, by omega, 1, by omega, ?_⟩
        simp -dsimp (disch := first | with_reducible assumption | omega | (intro h_; cases h_; done) | (simp only [LN] <;> omega) | (simp only [LF]; done) | (repeat (first | with_reducible assumption | apply Ext.refl | apply Ext.app | (apply Ext.set <;> omega) | (refine Ext.trans ?_ (by assumption))))) only [AX, TY, AD, mapPut, entsOf, oneV, builtinV, idsOf, mapId, touchB, Nat.reduceLT, Nat.reduceLeDiff, Nat.reduceEqDiff, Nat.reduceAdd, Nat.reduceMul, Int.reduceBEq, Int.reduceEq, Int.reduceNeg, Int.reduceLT, Int.reduceLE, Int.reduceAdd, Int.reduceSub, Int.reduceMul, Int.reduceToNat, Int.reduceGT, Nat.reduceBEq, Nat.reducePow, Nat.reduceGT, reduceCtorEq, ↓reduceIte]
        repeat' (first | assumption | refine And.intro ?_ ?_)
        all_goals first | rfl | omega | (simp; done) | (simp; omega; done) | skip
      | some j =>
        have e3 : Ext h (h2.set h.length (O.cells [V.int .i64 j, V.int .i64 S.hand, V.slice none 0 (some 0)] .rw)) := Ext.set (e.trans e2) (Nat.le_refl _) _
        simp -dsimp (disch := first | with_reducible assumption | omega | (intro h_; cases h_; done) | (simp only [LN] <;> omega) | (simp only [LF]; done) | (repeat (first | with_reducible assumption | apply Ext.refl | apply Ext.app | (apply Ext.set <;> omega) | (refine Ext.trans ?_ (by assumption))))) only [AX, TY, AD, mapPut, entsOf, oneV, builtinV, idsOf, mapId, touchB, Nat.reduceLT, Nat.reduceLeDiff, Nat.reduceEqDiff, Nat.reduceAdd, Nat.reduceMul, Int.reduceBEq, Int.reduceEq, Int.reduceNeg, Int.reduceLT, Int.reduceLE, Int.reduceAdd, Int.reduceSub, Int.reduceMul, Int.reduceToNat, Int.reduceGT, Nat.reduceBEq, Nat.reducePow, Nat.reduceGT, reduceCtorEq, ↓reduceIte, t0, t1, t6, t7, t20, t21, t22, idxI, Option.isSome_some, storeN_fact hc2 (by simp)]
        refine ⟨true, ?_⟩
        constructor <;> (try first | assumption | ((repeat (first | assumption | apply Ext.refl | apply Ext.app | (apply Ext.set <;> omega) | exact Ext.trans (by assumption) (by assumption) | (refine Ext.trans ?_ (by assumption)))); done) | (refine Sl.ext (by assumption) ?_; (repeat (first | assumption | apply Ext.refl | apply Ext.app | (apply Ext.set <;> omega) | exact Ext.trans (by assumption) (by assumption) | (refine Ext.trans ?_ (by assumption)))); done) | (simp -dsimp (disch := first | with_reducible assumption | omega | (intro h_; cases h_; done) | (simp only [LN] <;> omega) | (simp only [LF]; done) | (repeat (first | with_reducible assumption | apply Ext.refl | apply Ext.app | (apply Ext.set <;> omega) | (refine Ext.trans ?_ (by assumption))))) only [AX, TY, AD, mapPut, entsOf, oneV, builtinV, idsOf, mapId, touchB, Nat.reduceLT, Nat.reduceLeDiff, Nat.reduceEqDiff, Nat.reduceAdd, Nat.reduceMul, Int.reduceBEq, Int.reduceEq, Int.reduceNeg, Int.reduceLT, Int.reduceLE, Int.reduceAdd, Int.reduceSub, Int.reduceMul, Int.reduceToNat, Int.reduceGT, Nat.reduceBEq, Nat.reducePow, Nat.reduceGT, reduceCtorEq, ↓reduceIte, t0, t1, t6, t7, Int.natCast_add, Int.natCast_one, Int.natCast_zero]; try (first | assumption | with_reducible rfl)))
        exact ⟨j, S.hand, [], none, some 0, .inl ⟨hfi, rfl, rfl⟩, rfl, .nil0 _ _ _, by simp, by simp⟩
    · have c1 : i = 1 := by omega
      subst c1
      simp -dsimp (disch := first | with_reducible assumption | omega | (intro h_; cases h_; done) | (simp only [LN] <;> omega) | (simp only [LF]; done) | (repeat (first | with_reducible assumption | apply Ext.refl | apply Ext.app | (apply Ext.set <;> omega) | (refine Ext.trans ?_ (by assumption))))) only [AX, TY, AD, mapPut, entsOf, oneV, builtinV, idsOf, mapId, touchB, Nat.reduceLT, Nat.reduceLeDiff, Nat.reduceEqDiff, Nat.reduceAdd, Nat.reduceMul, Int.reduceBEq, Int.reduceEq, Int.reduceNeg, Int.reduceLT, Int.reduceLE, Int.reduceAdd, Int.reduceSub, Int.reduceMul, Int.reduceToNat, Int.reduceGT, Nat.reduceBEq, Nat.reducePow, Nat.reduceGT, reduceCtorEq, ↓reduceIte, t0, t1, t6, t7, t20, t21, t22, loadN_fact hfn]
      refine (victim_ok (d.ext e) hpos).mono ?_
      rintro _ h2 ⟨e2, q⟩
      have hc2 := e2 _ _ hc
      have hfn2 := e2 _ _ hfn
      have hc2l := lt_of_some hc2
      rcases q with ⟨hno, rfl⟩ | ⟨t, cl, pc, cc, v, rfl, sl, h8, hfr⟩
      · have e3 : Ext h (h2.set h.length (O.cells [V.int .i64 0, V.int .i64 0, V.slice none 0 (some 0)] .rw)) := Ext.set (e.trans e2) (Nat.le_refl _) _
        simp -dsimp (disch := first | with_reducible assumption | omega | (intro h_; cases h_; done) | (simp only [LN] <;> omega) | (simp only [LF]; done) | (repeat (first | with_reducible assumption | apply Ext.refl | apply Ext.app | (apply Ext.set <;> omega) | (refine Ext.trans ?_ (by assumption))))) only [AX, TY, AD, mapPut, entsOf, oneV, builtinV, idsOf, mapId, touchB, Nat.reduceLT, Nat.reduceLeDiff, Nat.reduceEqDiff, Nat.reduceAdd, Nat.reduceMul, Int.reduceBEq, Int.reduceEq, Int.reduceNeg, Int.reduceLT, Int.reduceLE, Int.reduceAdd, Int.reduceSub, Int.reduceMul, Int.reduceToNat, Int.reduceGT, Nat.reduceBEq, Nat.reducePow, Nat.reduceGT, reduceCtorEq, ↓reduceIte, t0, t1, t6, t7, t20, t21, t22, storeN_fact hc2 (by simp)]
        refine ⟨m - 1, by omega, 2, by omega, ?_⟩
        have hfn3 := (set_other (h := h2) (i := h.length) (j := h.length + 1) (O.cells [V.int .i64 0, V.int .i64 0, V.slice none 0 (some 0)] .rw) (by omega)).trans hfn2
        have hfi := hi1 (by omega)
        have hno' : ∀ f ∈ S.frames, ¬ f.pins = 0 := hno
        simp -dsimp (disch := first | with_reducible assumption | omega | (intro h_; cases h_; done) | (simp only [LN] <;> omega) | (simp only [LF]; done) | (repeat (first | with_reducible assumption | apply Ext.refl | apply Ext.app | (apply Ext.set <;> omega) | (refine Ext.trans ?_ (by assumption))))) only [AX, TY, AD, mapPut, entsOf, oneV, builtinV, idsOf, mapId, touchB, Nat.reduceLT, Nat.reduceLeDiff, Nat.reduceEqDiff, Nat.reduceAdd, Nat.reduceMul, Int.reduceBEq, Int.reduceEq, Int.reduceNeg, Int.reduceLT, Int.reduceLE, Int.reduceAdd, Int.reduceSub, Int.reduceMul, Int.reduceToNat, Int.reduceGT, Nat.reduceBEq, Nat.reducePow, Nat.reduceGT, reduceCtorEq, ↓reduceIte]
        repeat' (first | assumption | refine And.intro ?_ ?_)
        all_goals first | rfl | omega | (simp; done) | (simp; omega; done) | skip
      · have e3 : Ext h (h2.set h.length (O.cells [V.int .i64 (hx S.frames.length S.hand t), V.int .i64 (hx S.frames.length S.hand (t + 1)), V.slice pc cl.length cc] .rw)) := Ext.set (e.trans e2) (Nat.le_refl _) _
        have hfi := hi1 (by omega)
        simp -dsimp (disch := first | with_reducible assumption | omega | (intro h_; cases h_; done) | (simp only [LN] <;> omega) | (simp only [LF]; done) | (repeat (first | with_reducible assumption | apply Ext.refl | apply Ext.app | (apply Ext.set <;> omega) | (refine Ext.trans ?_ (by assumption))))) only [AX, TY, AD, mapPut, entsOf, oneV, builtinV, idsOf, mapId, touchB, Nat.reduceLT, Nat.reduceLeDiff, Nat.reduceEqDiff, Nat.reduceAdd, Nat.reduceMul, Int.reduceBEq, Int.reduceEq, Int.reduceNeg, Int.reduceLT, Int.reduceLE, Int.reduceAdd, Int.reduceSub, Int.reduceMul, Int.reduceToNat, Int.reduceGT, Nat.reduceBEq, Nat.reducePow, Nat.reduceGT, reduceCtorEq, ↓reduceIte, t0, t1, t6, t7, t20, t21, t22, storeN_fact hc2 (by simp)]
        refine ⟨true, ?_⟩
        constructor <;> (try first | assumption | ((repeat (first | assumption | apply Ext.refl | apply Ext.app | (apply Ext.set <;> omega) | exact Ext.trans (by assumption) (by assumption) | (refine Ext.trans ?_ (by assumption)))); done) | (refine Sl.ext (by assumption) ?_; (repeat (first | assumption | apply Ext.refl | apply Ext.app | (apply Ext.set <;> omega) | exact Ext.trans (by assumption) (by assumption) | (refine Ext.trans ?_ (by assumption)))); done) | (simp -dsimp (disch := first | with_reducible assumption | omega | (intro h_; cases h_; done) | (simp only [LN] <;> omega) | (simp only [LF]; done) | (repeat (first | with_reducible assumption | apply Ext.refl | apply Ext.app | (apply Ext.set <;> omega) | (refine Ext.trans ?_ (by assumption))))) only [AX, TY, AD, mapPut, entsOf, oneV, builtinV, idsOf, mapId, touchB, Nat.reduceLT, Nat.reduceLeDiff, Nat.reduceEqDiff, Nat.reduceAdd, Nat.reduceMul, Int.reduceBEq, Int.reduceEq, Int.reduceNeg, Int.reduceLT, Int.reduceLE, Int.reduceAdd, Int.reduceSub, Int.reduceMul, Int.reduceToNat, Int.reduceGT, Nat.reduceBEq, Nat.reducePow, Nat.reduceGT, reduceCtorEq, ↓reduceIte, t0, t1, t6, t7, Int.natCast_add, Int.natCast_one, Int.natCast_zero]; try (first | assumption | with_reducible rfl)))
        exact ⟨_, _, cl, pc, cc, .inr ⟨hfi, t, v, rfl, rfl⟩, rfl, sl.keep fun a o q => set_other _ fun z => by have := hfr a o q; omega, fun a o q => by have := hfr a o q; omega, h8⟩
  rintro τ1 hc1 ⟨okb, t0, t1, t6, t7, e, no, yes⟩
  have dc := d.ext e
  have gpc := dc.pool
  cases okb
  · obtain ⟨hn1, hn2⟩ := no rfl
    simp -dsimp (disch := first | with_reducible assumption | omega | (intro h_; cases h_; done) | (simp only [LN] <;> omega) | (simp only [LF]; done) | (repeat (first | with_reducible assumption | apply Ext.refl | apply Ext.app | (apply Ext.set <;> omega) | (refine Ext.trans ?_ (by assumption))))) only [AX, TY, AD, mapPut, entsOf, oneV, builtinV, idsOf, mapId, touchB, Nat.reduceLT, Nat.reduceLeDiff, Nat.reduceEqDiff, Nat.reduceAdd, Nat.reduceMul, Int.reduceBEq, Int.reduceEq, Int.reduceNeg, Int.reduceLT, Int.reduceLE, Int.reduceAdd, Int.reduceSub, Int.reduceMul, Int.reduceToNat, Int.reduceGT, Nat.reduceBEq, Nat.reducePow, Nat.reduceGT, reduceCtorEq, ↓reduceIte, t0, t1, t6, t7]
    exact ⟨S, oid, none, .inl ⟨hn1, hn2, rfl, rfl, rfl⟩, dc, Kp.ext e _, by simp⟩
  obtain ⟨j, hand, cl, pc, cc, ch, hcb, hcs, hpcf, hcl8⟩ := yes rfl
  have hlt := ch.lt hhand
  have hj := hlt.1
  have hji : (j : Int) < (S.frames.length : Int) := by omega
  have hcbl := lt_of_some hcb
  have hld : ∀ o m, o + m ≤ 5 → loadN hc1 I.fr (fld (j * 5) o) m = some (((Fr.enc S.frames[j]).drop o).take m) := fun o m hm => dc.sl.loadz (.refl _) hj hm
  have hl0 := dc.sl.loadz0 (.refl _) hj (m := 1) (by decide)
  have hl1 := hld 1 1 (by decide)
  have hl3 := hld 3 1 (by decide)
  have hold := dc.dat _ (List.getElem_mem hj)
  have hpg := ok.page _ (List.getElem_mem hj)
  generalize hof : S.frames[j] = old at *
  simp only [Fr.enc, List.take, List.drop] at hl0 hl1 hl3
  have own0 : ∀ i, h.length ≤ i → ¬ ownP I oid i := fun i hi q => by have := d.lt q; omega
  generalize hC : Code.cond (Operand.tmp 52) _ _ = C12
  have CUT : ∀ (τ : Tp) (Q : Post), τ 0 = .ptr (some (I.pi, 0)) → τ 1 = .int .i64 page → τ 6 = .ptr (some (h.length, 0)) → τ 10 = .ptr (some (I.fr, j * 5)) → τ 52 = .bool (decide (0 ≤ old.page) && old.dirty) →
      (∀ e hw D1 oid1, e ≠ 0 → WroE S.D old D1 e → PAt b hw I ⟨D1, S.pages, S.frames, S.hand, S.reads⟩ oid1 → Kp hc1 hw (ownP I oid) (ownP I oid1) → ∀ τ : Tp, τ 4 = .slice none 0 (some 0) → τ 5 = .int .i64 e → Q .ret τ hw) →
      (∀ hw D1 oid1, WroE S.D old D1 0 → D1.dur.length = S.D.dur.length → PAt b hw I ⟨D1, S.pages, S.frames, S.hand, S.reads⟩ oid1 → Kp hc1 hw (ownP I oid) (ownP I oid1) → ∀ τ : Tp, τ 0 = .ptr (some (I.pi, 0)) → τ 1 = .int .i64 page → τ 6 = .ptr (some (h.length, 0)) → τ 10 = .ptr (some (I.fr, j * 5)) → Q .norm τ hw) →
      wpc Try.prog hk 116 C12 Q τ hc1 := by
    intro τ Q q0 q1 q6 q10 q52 hE hN
    subst hC
    by_cases hd : 0 ≤ old.page ∧ old.dirty = true
    rotate_left
    · have hcd : (decide (0 ≤ old.page) && old.dirty) = false := by
        cases hq : old.dirty
        · simp
        · simp only [Bool.and_true, decide_eq_false_iff_not]; exact fun z => hd ⟨z, hq⟩
      rw [hcd] at q52
      simp -dsimp (disch := first | with_reducible assumption | omega | (intro h_; cases h_; done) | (simp only [LN] <;> omega) | (simp only [LF]; done) | (repeat (first | with_reducible assumption | apply Ext.refl | apply Ext.app | (apply Ext.set <;> omega) | (refine Ext.trans ?_ (by assumption))))) only [AX, TY, AD, mapPut, entsOf, oneV, builtinV, idsOf, mapId, touchB, Nat.reduceLT, Nat.reduceLeDiff, Nat.reduceEqDiff, Nat.reduceAdd, Nat.reduceMul, Int.reduceBEq, Int.reduceEq, Int.reduceNeg, Int.reduceLT, Int.reduceLE, Int.reduceAdd, Int.reduceSub, Int.reduceMul, Int.reduceToNat, Int.reduceGT, Nat.reduceBEq, Nat.reducePow, Nat.reduceGT, reduceCtorEq, ↓reduceIte, q52]
      exact hN hc1 S.D oid (by unfold WroE; rw [if_neg hd]; exact ⟨rfl, rfl⟩) rfl dc (Kp.ext (.refl _) _) _ q0 q1 q6 q10
    rw [show (decide (0 ≤ old.page) && old.dirty) = true by simp [hd]] at q52
    obtain ⟨pg, hpgn⟩ := Int.eq_ofNat_of_zero_le hd.1
    have hpg' := hpg hd.1
    have hoff : IntKind.i64.wrap (old.page * 1024) = ((pg * 1024 : Nat) : Int) := by
      have := ok.pages
      rw [hpgn, IntKind.wrap_i64]; omega
    have hwr := write_ok dc.dk (off := pg * 1024) (c := old.c) hold.1.sl (fun a o z w => hold.2 a o z (.inr (.inr (.inl w)))) (by have := ok.dur; have := ok.pages; omega) (by have := ok.few; omega) ok.ctr
    simp -dsimp (disch := first | with_reducible assumption | omega | (intro h_; cases h_; done) | (simp only [LN] <;> omega) | (simp only [LF]; done) | (repeat (first | with_reducible assumption | apply Ext.refl | apply Ext.app | (apply Ext.set <;> omega) | (refine Ext.trans ?_ (by assumption))))) only [AX, TY, AD, mapPut, entsOf, oneV, builtinV, idsOf, mapId, touchB, Nat.reduceLT, Nat.reduceLeDiff, Nat.reduceEqDiff, Nat.reduceAdd, Nat.reduceMul, Int.reduceBEq, Int.reduceEq, Int.reduceNeg, Int.reduceLT, Int.reduceLE, Int.reduceAdd, Int.reduceSub, Int.reduceMul, Int.reduceToNat, Int.reduceGT, Nat.reduceBEq, Nat.reducePow, Nat.reduceGT, reduceCtorEq, ↓reduceIte, q52, q0, q1, q6, q10]
    refine W.drawn [(0, []), (1, []), (2, []), (3, []), (4, [3, 2, 1, 0]), (5, [3, 2, 1, 0]), (6, [3, 2, 1, 0]), (7, [3, 2, 1, 0]), (8, [3, 2, 1, 0]), (9, [8, 7, 6, 5, 4, 3, 2, 1, 0]), (10, [8, 7, 6, 5, 4, 3, 2, 1, 0]), (11, [8, 7, 6, 5, 4, 3, 2, 1, 0]), (12, [8, 7, 6, 5, 4, 3, 2, 1, 0]), (13, []), (14, [])] (by decide +kernel) ?_
    simp -dsimp (disch := first | with_reducible assumption | omega | (intro h_; cases h_; done) | (simp only [LN] <;> omega) | (simp only [LF]; done) | (repeat (first | with_reducible assumption | apply Ext.refl | apply Ext.app | (apply Ext.set <;> omega) | (refine Ext.trans ?_ (by assumption))))) only [AX, TY, AD, mapPut, entsOf, oneV, builtinV, idsOf, mapId, touchB, Nat.reduceLT, Nat.reduceLeDiff, Nat.reduceEqDiff, Nat.reduceAdd, Nat.reduceMul, Int.reduceBEq, Int.reduceEq, Int.reduceNeg, Int.reduceLT, Int.reduceLE, Int.reduceAdd, Int.reduceSub, Int.reduceMul, Int.reduceToNat, Int.reduceGT, Nat.reduceBEq, Nat.reducePow, Nat.reduceGT, reduceCtorEq, ↓reduceIte, q0, q1, q6, q10, loadN_fact gpc, hl0, hl1, hoff]
    refine hwr.mono ?_
    rintro _ hw ⟨D1, oid1, e9, rfl, dk, kw, wo⟩
    obtain ⟨dp, kp⟩ := dc.disk dk kw
    have hwe : WroE S.D old D1 e9 := by
      unfold WroE; rw [if_pos hd]
      exact ⟨pg * 1024, by rw [hpgn]; omega, wo⟩
    by_cases he : e9 = 0
    · subst he
      have hdl : D1.dur.length = S.D.dur.length := by
        unfold WrO at wo
        split at wo
        · exact absurd wo.2 (by decide)
        · split at wo
          · exact absurd wo.2 (by decide)
          · obtain ⟨_, w, _, _, rfl⟩ := wo; rfl
      simp -dsimp (disch := first | with_reducible assumption | omega | (intro h_; cases h_; done) | (simp only [LN] <;> omega) | (simp only [LF]; done) | (repeat (first | with_reducible assumption | apply Ext.refl | apply Ext.app | (apply Ext.set <;> omega) | (refine Ext.trans ?_ (by assumption))))) only [AX, TY, AD, mapPut, entsOf, oneV, builtinV, idsOf, mapId, touchB, Nat.reduceLT, Nat.reduceLeDiff, Nat.reduceEqDiff, Nat.reduceAdd, Nat.reduceMul, Int.reduceBEq, Int.reduceEq, Int.reduceNeg, Int.reduceLT, Int.reduceLE, Int.reduceAdd, Int.reduceSub, Int.reduceMul, Int.reduceToNat, Int.reduceGT, Nat.reduceBEq, Nat.reducePow, Nat.reduceGT, reduceCtorEq, ↓reduceIte, q0, q1, q6, q10]
      refine hN hw D1 oid1 hwe hdl dp kp _ ?_ ?_ ?_ ?_
      all_goals simp -dsimp (disch := first | with_reducible assumption | omega | (intro h_; cases h_; done) | (simp only [LN] <;> omega) | (simp only [LF]; done) | (repeat (first | with_reducible assumption | apply Ext.refl | apply Ext.app | (apply Ext.set <;> omega) | (refine Ext.trans ?_ (by assumption))))) only [AX, TY, AD, mapPut, entsOf, oneV, builtinV, idsOf, mapId, touchB, Nat.reduceLT, Nat.reduceLeDiff, Nat.reduceEqDiff, Nat.reduceAdd, Nat.reduceMul, Int.reduceBEq, Int.reduceEq, Int.reduceNeg, Int.reduceLT, Int.reduceLE, Int.reduceAdd, Int.reduceSub, Int.reduceMul, Int.reduceToNat, Int.reduceGT, Nat.reduceBEq, Nat.reducePow, Nat.reduceGT, reduceCtorEq, ↓reduceIte, q0, q1, q6, q10]
    · simp -dsimp (disch := first | with_reducible assumption | omega | (intro h_; cases h_; done) | (simp only [LN] <;> omega) | (simp only [LF]; done) | (repeat (first | with_reducible assumption | apply Ext.refl | apply Ext.app | (apply Ext.set <;> omega) | (refine Ext.trans ?_ (by assumption))))) only [AX, TY, AD, mapPut, entsOf, oneV, builtinV, idsOf, mapId, touchB, Nat.reduceLT, Nat.reduceLeDiff, Nat.reduceEqDiff, Nat.reduceAdd, Nat.reduceMul, Int.reduceBEq, Int.reduceEq, Int.reduceNeg, Int.reduceLT, Int.reduceLE, Int.reduceAdd, Int.reduceSub, Int.reduceMul, Int.reduceToNat, Int.reduceGT, Nat.reduceBEq, Nat.reducePow, Nat.reduceGT, reduceCtorEq, ↓reduceIte, q0, q1, q6, q10, he]
      refine hE e9 hw D1 oid1 he hwe dp kp _ ?_ ?_
      all_goals simp -dsimp (disch := first | with_reducible assumption | omega | (intro h_; cases h_; done) | (simp only [LN] <;> omega) | (simp only [LF]; done) | (repeat (first | with_reducible assumption | apply Ext.refl | apply Ext.app | (apply Ext.set <;> omega) | (refine Ext.trans ?_ (by assumption))))) only [AX, TY, AD, mapPut, entsOf, oneV, builtinV, idsOf, mapId, touchB, Nat.reduceLT, Nat.reduceLeDiff, Nat.reduceEqDiff, Nat.reduceAdd, Nat.reduceMul, Int.reduceBEq, Int.reduceEq, Int.reduceNeg, Int.reduceLT, Int.reduceLE, Int.reduceAdd, Int.reduceSub, Int.reduceMul, Int.reduceToNat, Int.reduceGT, Nat.reduceBEq, Nat.reducePow, Nat.reduceGT, reduceCtorEq, ↓reduceIte]
  generalize hR12 : Code.region 12 _ _ = R12
  simp -dsimp (disch := first | with_reducible assumption | omega | (intro h_; cases h_; done) | (simp only [LN] <;> omega) | (simp only [LF]; done) | (repeat (first | with_reducible assumption | apply Ext.refl | apply Ext.app | (apply Ext.set <;> omega) | (refine Ext.trans ?_ (by assumption))))) only [AX, TY, AD, mapPut, entsOf, oneV, builtinV, idsOf, mapId, touchB, Nat.reduceLT, Nat.reduceLeDiff, Nat.reduceEqDiff, Nat.reduceAdd, Nat.reduceMul, Int.reduceBEq, Int.reduceEq, Int.reduceNeg, Int.reduceLT, Int.reduceLE, Int.reduceAdd, Int.reduceSub, Int.reduceMul, Int.reduceToNat, Int.reduceGT, Nat.reduceBEq, Nat.reducePow, Nat.reduceGT, reduceCtorEq, ↓reduceIte, t0, t1, t6, t7]
  refine W.drawn [(0, []), (1, []), (2, []), (3, []), (4, [3, 2, 1, 0]), (5, [3, 2, 1, 0]), (6, []), (7, [])] (by decide +kernel) ?_
  simp -dsimp (disch := first | with_reducible assumption | omega | (intro h_; cases h_; done) | (simp only [LN] <;> omega) | (simp only [LF]; done) | (repeat (first | with_reducible assumption | apply Ext.refl | apply Ext.app | (apply Ext.set <;> omega) | (refine Ext.trans ?_ (by assumption))))) only [AX, TY, AD, mapPut, entsOf, oneV, builtinV, idsOf, mapId, touchB, Nat.reduceLT, Nat.reduceLeDiff, Nat.reduceEqDiff, Nat.reduceAdd, Nat.reduceMul, Int.reduceBEq, Int.reduceEq, Int.reduceNeg, Int.reduceLT, Int.reduceLE, Int.reduceAdd, Int.reduceSub, Int.reduceMul, Int.reduceToNat, Int.reduceGT, Nat.reduceBEq, Nat.reducePow, Nat.reduceGT, reduceCtorEq, ↓reduceIte, t0, t1, t6, t7, loadN_fact gpc, loadN_fact hcb, hji, hl0]
  refine wpc_cutT (fun τ' h' => hc1 = h' ∧ τ' 0 = .ptr (some (I.pi, 0)) ∧ τ' 1 = .int .i64 page ∧ τ' 6 = .ptr (some (h.length, 0)) ∧ τ' 10 = .ptr (some (I.fr, j * 5)) ∧ τ' 52 = .bool (decide (0 ≤ old.page) && old.dirty)) ?_ ?_
  · subst hR12
    cases hop : decide (0 ≤ old.page)
    · simp -dsimp (disch := first | with_reducible assumption | omega | (intro h_; cases h_; done) | (simp only [LN] <;> omega) | (simp only [LF]; done) | (repeat (first | with_reducible assumption | apply Ext.refl | apply Ext.app | (apply Ext.set <;> omega) | (refine Ext.trans ?_ (by assumption))))) only [AX, TY, AD, mapPut, entsOf, oneV, builtinV, idsOf, mapId, touchB, Nat.reduceLT, Nat.reduceLeDiff, Nat.reduceEqDiff, Nat.reduceAdd, Nat.reduceMul, Int.reduceBEq, Int.reduceEq, Int.reduceNeg, Int.reduceLT, Int.reduceLE, Int.reduceAdd, Int.reduceSub, Int.reduceMul, Int.reduceToNat, Int.reduceGT, Nat.reduceBEq, Nat.reducePow, Nat.reduceGT, reduceCtorEq, ↓reduceIte, t0, t1, t6, hl0, hop]
    · simp -dsimp (disch := first | with_reducible assumption | omega | (intro h_; cases h_; done) | (simp only [LN] <;> omega) | (simp only [LF]; done) | (repeat (first | with_reducible assumption | apply Ext.refl | apply Ext.app | (apply Ext.set <;> omega) | (refine Ext.trans ?_ (by assumption))))) only [AX, TY, AD, mapPut, entsOf, oneV, builtinV, idsOf, mapId, touchB, Nat.reduceLT, Nat.reduceLeDiff, Nat.reduceEqDiff, Nat.reduceAdd, Nat.reduceMul, Int.reduceBEq, Int.reduceEq, Int.reduceNeg, Int.reduceLT, Int.reduceLE, Int.reduceAdd, Int.reduceSub, Int.reduceMul, Int.reduceToNat, Int.reduceGT, Nat.reduceBEq, Nat.reducePow, Nat.reduceGT, reduceCtorEq, ↓reduceIte, t0, t1, t6, hl0, hl3, hop]
  clear t0 t1 t6 t7
  rintro τ2 _ ⟨rfl, t0, t1, t6, t10, t52⟩
  simp -dsimp (disch := first | with_reducible assumption | omega | (intro h_; cases h_; done) | (simp only [LN] <;> omega) | (simp only [LF]; done) | (repeat (first | with_reducible assumption | apply Ext.refl | apply Ext.app | (apply Ext.set <;> omega) | (refine Ext.trans ?_ (by assumption))))) only [AX, TY, AD, mapPut, entsOf, oneV, builtinV, idsOf, mapId, touchB, Nat.reduceLT, Nat.reduceLeDiff, Nat.reduceEqDiff, Nat.reduceAdd, Nat.reduceMul, Int.reduceBEq, Int.reduceEq, Int.reduceNeg, Int.reduceLT, Int.reduceLE, Int.reduceAdd, Int.reduceSub, Int.reduceMul, Int.reduceToNat, Int.reduceGT, Nat.reduceBEq, Nat.reducePow, Nat.reduceGT, reduceCtorEq, ↓reduceIte]
  refine CUT τ2 _ t0 t1 t6 t10 t52 ?_ ?_
  · intro e9 hw D1 oid1 he hwe dp kp τ3 u4 u5
    simp -dsimp (disch := first | with_reducible assumption | omega | (intro h_; cases h_; done) | (simp only [LN] <;> omega) | (simp only [LF]; done) | (repeat (first | with_reducible assumption | apply Ext.refl | apply Ext.app | (apply Ext.set <;> omega) | (refine Ext.trans ?_ (by assumption))))) only [AX, TY, AD, mapPut, entsOf, oneV, builtinV, idsOf, mapId, touchB, Nat.reduceLT, Nat.reduceLeDiff, Nat.reduceEqDiff, Nat.reduceAdd, Nat.reduceMul, Int.reduceBEq, Int.reduceEq, Int.reduceNeg, Int.reduceLT, Int.reduceLE, Int.reduceAdd, Int.reduceSub, Int.reduceMul, Int.reduceToNat, Int.reduceGT, Nat.reduceBEq, Nat.reducePow, Nat.reduceGT, reduceCtorEq, ↓reduceIte, u4, u5]
    exact ⟨_, oid1, none, .inr ⟨j, hand, cl, D1, e9, ch, hj, by rw [hof]; exact hwe, .inl ⟨he, rfl, rfl, rfl⟩⟩, dp, (Kp.ext e _).trans kp, by simp⟩
  clear CUT t0 t1 t6 t10 t52 hC
  intro hw D1 oid1 hwe hdl dp kp τ3 t0 t1 t6 t10
  have khw : Kp h hw (ownP I oid) (ownP I oid1) := (Kp.ext e _).trans kp
  have hcb' := kp.get hcb (own0 _ (Nat.le_refl _))
  have hcs' : Sl hw pc 1 ei cl := hcs.keep fun a o z => kp.fr a (hcs.lt z) (own0 a (Nat.le_of_lt (hpcf a o z)))
  have gpw := dp.pool
  have hoff : IntKind.i64.wrap ((page : Int) * 1024) = ((page * 1024 : Nat) : Int) := by
    have := ok.pages
    rw [IntKind.wrap_i64]; omega
  have hrd := read_ok dp.dk (at' := page * 1024) (n := 1024) (by
    have := ok.dur
    show page * 1024 + 1024 ≤ D1.dur.length
    omega)
  simp -dsimp (disch := first | with_reducible assumption | omega | (intro h_; cases h_; done) | (simp only [LN] <;> omega) | (simp only [LF]; done) | (repeat (first | with_reducible assumption | apply Ext.refl | apply Ext.app | (apply Ext.set <;> omega) | (refine Ext.trans ?_ (by assumption))))) only [AX, TY, AD, mapPut, entsOf, oneV, builtinV, idsOf, mapId, touchB, Nat.reduceLT, Nat.reduceLeDiff, Nat.reduceEqDiff, Nat.reduceAdd, Nat.reduceMul, Int.reduceBEq, Int.reduceEq, Int.reduceNeg, Int.reduceLT, Int.reduceLE, Int.reduceAdd, Int.reduceSub, Int.reduceMul, Int.reduceToNat, Int.reduceGT, Nat.reduceBEq, Nat.reducePow, Nat.reduceGT, reduceCtorEq, ↓reduceIte, t0, t1, t6, t10, loadN_fact gpw, hoff]
  refine hrd.mono ?_
  rintro _ hR ⟨eR, hq⟩
  have dR := dp.ext eR
  have kR : Kp h hR (ownP I oid) (ownP I oid1) := khw.trans (Kp.ext eR _)
  rcases hq with ⟨hf, rfl⟩ | ⟨hf, p', c', o', rfl, gr⟩
  · simp -dsimp (disch := first | with_reducible assumption | omega | (intro h_; cases h_; done) | (simp only [LN] <;> omega) | (simp only [LF]; done) | (repeat (first | with_reducible assumption | apply Ext.refl | apply Ext.app | (apply Ext.set <;> omega) | (refine Ext.trans ?_ (by assumption))))) only [AX, TY, AD, mapPut, entsOf, oneV, builtinV, idsOf, mapId, touchB, Nat.reduceLT, Nat.reduceLeDiff, Nat.reduceEqDiff, Nat.reduceAdd, Nat.reduceMul, Int.reduceBEq, Int.reduceEq, Int.reduceNeg, Int.reduceLT, Int.reduceLE, Int.reduceAdd, Int.reduceSub, Int.reduceMul, Int.reduceToNat, Int.reduceGT, Nat.reduceBEq, Nat.reducePow, Nat.reduceGT, reduceCtorEq, ↓reduceIte, t0, t1, t6, t10]
    exact ⟨_, oid1, none, .inr ⟨j, hand, cl, D1, 0, ch, hj, by rw [hof]; exact hwe, .inr (.inl ⟨rfl, hf, rfl, rfl, rfl⟩)⟩, dR, kR, by simp⟩
  have hcbR := eR _ _ hcb'
  have hcsR := hcs'.ext eR
  have gpR := dR.pool
  have hcbl' := lt_of_some hcbR
  have hdata : (((applyAll D1.dur D1.pend).drop (page * 1024)).take 1024).length = 1024 := by
    have h1 : (applyAll D1.dur D1.pend).length = D1.dur.length := applyAll_len dp.dk.inr
    have := ok.dur
    rw [List.length_take, List.length_drop, h1, hdl]; omega
  have hnpc := hcsR.nil'
  have hlpc := hcsR.small
  simp -dsimp (disch := first | with_reducible assumption | omega | (intro h_; cases h_; done) | (simp only [LN] <;> omega) | (simp only [LF]; done) | (repeat (first | with_reducible assumption | apply Ext.refl | apply Ext.app | (apply Ext.set <;> omega) | (refine Ext.trans ?_ (by assumption))))) only [AX, TY, AD, mapPut, entsOf, oneV, builtinV, idsOf, mapId, touchB, Nat.reduceLT, Nat.reduceLeDiff, Nat.reduceEqDiff, Nat.reduceAdd, Nat.reduceMul, Int.reduceBEq, Int.reduceEq, Int.reduceNeg, Int.reduceLT, Int.reduceLE, Int.reduceAdd, Int.reduceSub, Int.reduceMul, Int.reduceToNat, Int.reduceGT, Nat.reduceBEq, Nat.reducePow, Nat.reduceGT, reduceCtorEq, ↓reduceIte, t0, t1, t6, t10, loadN_fact hcbR]
  have hfrs := dR.frs
  refine W.loop (fun m τ hh => ∃ k : Nat, m + k = cl.length ∧ τ 0 = .ptr (some (I.pi, 0)) ∧ τ 1 = .int .i64 page ∧ τ 6 = .ptr (some (h.length, 0)) ∧ τ 10 = .ptr (some (I.fr, j * 5)) ∧ τ 12 = .slice p' 1024 c' ∧ τ 84 = .slice pc cl.length cc ∧ τ 85 = .int .i64 cl.length ∧ τ 86 = .int .i64 k ∧ hh[I.fr]? = some (.cells ((clrF S.frames (cl.take k)).flatMap Fr.enc) .rw) ∧ hh.length = hR.length ∧ ∀ i, i ≠ I.fr → hh[i]? = hR[i]?) ?_ (m := cl.length) ?_
  rotate_left
  · refine ⟨0, by simp, ?_⟩
    have h1 : hR[I.fr]? = some (.cells ((clrF S.frames (cl.take 0)).flatMap Fr.enc) .rw) := by rw [List.take_zero, clrF_nil]; exact hfrs
    simp -dsimp (disch := first | with_reducible assumption | omega | (intro h_; cases h_; done) | (simp only [LN] <;> omega) | (simp only [LF]; done) | (repeat (first | with_reducible assumption | apply Ext.refl | apply Ext.app | (apply Ext.set <;> omega) | (refine Ext.trans ?_ (by assumption))))) only [AX, TY, AD, mapPut, entsOf, oneV, builtinV, idsOf, mapId, touchB, Nat.reduceLT, Nat.reduceLeDiff, Nat.reduceEqDiff, Nat.reduceAdd, Nat.reduceMul, Int.reduceBEq, Int.reduceEq, Int.reduceNeg, Int.reduceLT, Int.reduceLE, Int.reduceAdd, Int.reduceSub, Int.reduceMul, Int.reduceToNat, Int.reduceGT, Nat.reduceBEq, Nat.reducePow, Nat.reduceGT, reduceCtorEq, ↓reduceIte, t0, t1, t6, t10]
    repeat' (first | assumption | refine And.intro ?_ ?_)
    all_goals first | rfl | omega | (simp; done) | (simp; omega; done) | skip
  clear t0 t1 t6 t10
  rintro m τ4 hh ⟨k, hm, t0, t1, t6, t10, t12, t84, t85, t86, hfk, hhl, hhk⟩
  have hfrl := lt_of_some hfk
  have gph : hh[I.pi]? = _ := (hhk I.pi d.ne).trans gpR
  have hcbh : hh[h.length]? = _ := (hhk h.length (fun q => by have := d.lt (.inr (.inl q)); omega)).trans hcbR
  by_cases h1 : (k : Int) < (cl.length : Int)
  · have hk : k < cl.length := by omega
    obtain ⟨x, hx1, hx2⟩ := hlt.2.2 _ (List.getElem_mem hk)
    have hla := (hcsR.keep fun a o z => hhk a fun q => by have := hpcf a o z; have := d.lt (.inr (.inl q)); omega).load0 (.refl _) hk (m := 1) (by decide)
    have htk := List.take_succ_eq_append_getElem hk
    rw [hx1] at hla htk
    simp only [ei, List.take] at hla
    have hxl : x < (clrF S.frames (cl.take k)).length := by rw [clrF_len]; exact hx2
    have hst := fr_store hfk hxl (o := 4) (vs := [.bool false]) (by simp) rfl { (clrF S.frames (cl.take k))[x] with ref := false } rfl
    rw [clrF_snoc hx2, ← htk] at hst
    have hxi : (x : Int) < (S.frames.length : Int) := by omega
    simp -dsimp (disch := first | with_reducible assumption | omega | (intro h_; cases h_; done) | (simp only [LN] <;> omega) | (simp only [LF]; done) | (repeat (first | with_reducible assumption | apply Ext.refl | apply Ext.app | (apply Ext.set <;> omega) | (refine Ext.trans ?_ (by assumption))))) only [AX, TY, AD, mapPut, entsOf, oneV, builtinV, idsOf, mapId, touchB, Nat.reduceLT, Nat.reduceLeDiff, Nat.reduceEqDiff, Nat.reduceAdd, Nat.reduceMul, Int.reduceBEq, Int.reduceEq, Int.reduceNeg, Int.reduceLT, Int.reduceLE, Int.reduceAdd, Int.reduceSub, Int.reduceMul, Int.reduceToNat, Int.reduceGT, Nat.reduceBEq, Nat.reducePow, Nat.reduceGT, reduceCtorEq, ↓reduceIte, t0, t1, t6, t10, t12, t84, t85, t86, h1, hla, loadN_fact gph, hxi, hst, wrap_in]
    have hfk' : (hh.set I.fr (.cells ((clrF S.frames (cl.take (k + 1))).flatMap Fr.enc) .rw))[I.fr]? = some (.cells ((clrF S.frames (cl.take (k + 1))).flatMap Fr.enc) .rw) := set_same _ hfrl
    have hhk' : ∀ i, i ≠ I.fr → (hh.set I.fr (.cells ((clrF S.frames (cl.take (k + 1))).flatMap Fr.enc) .rw))[i]? = hR[i]? := fun i hi => (set_other _ hi).trans (hhk i hi)
    refine ⟨m - 1, by omega, k + 1, ?_⟩
    repeat' (first | assumption | refine And.intro ?_ ?_)
    all_goals first | rfl | omega | (simp; done) | (simp; omega; done) | skip
  have htk : cl.take k = cl := List.take_of_length_le (by omega)
  rw [htk] at hfk
  have hgl' : (clrF S.frames cl).length = S.frames.length := clrF_len _ _
  have hjc : j < (clrF S.frames cl).length := by rw [hgl']; exact hj
  have hpih := lt_of_some gph
  have hst1 := storeN_fact gph (by simp)
  have hA : (hh.set I.pi (O.cells [V.ptr (some (I.di, 0)), V.int .i64 S.pages, V.slice (some (I.fr, 0)) S.frames.length (some S.frames.length), V.int .i64 hand, V.int .i64 S.reads] .rw))[I.fr]? = some (.cells ((clrF S.frames cl).flatMap Fr.enc) .rw) := (set_other _ (Ne.symm d.ne)).trans hfk
  have hst2 := fr_store hA hjc (o := 0) (vs := Fr.enc ⟨page, p', c', ((applyAll D1.dur D1.pend).drop (page * 1024)).take 1024, 1, false, true⟩) (by simp [Fr.enc]) rfl ⟨page, p', c', ((applyAll D1.dur D1.pend).drop (page * 1024)).take 1024, 1, false, true⟩ rfl
  simp only [Fr.enc, hdata, fld, Nat.add_zero] at hst2
  have hB := (set_other (h := hh.set I.pi (O.cells [V.ptr (some (I.di, 0)), V.int .i64 S.pages, V.slice (some (I.fr, 0)) S.frames.length (some S.frames.length), V.int .i64 hand, V.int .i64 S.reads] .rw)) (i := I.fr) (j := I.pi) (O.cells (((clrF S.frames cl).set j ⟨page, p', c', ((applyAll D1.dur D1.pend).drop (page * 1024)).take 1024, 1, false, true⟩).flatMap Fr.enc) .rw) d.ne).trans (set_same _ hpih)
  have hwr : IntKind.i64.wrap (S.reads + 1) = S.reads + 1 := by have := ok.reads; rw [IntKind.wrap_i64]; omega
  simp -dsimp (disch := first | with_reducible assumption | omega | (intro h_; cases h_; done) | (simp only [LN] <;> omega) | (simp only [LF]; done) | (repeat (first | with_reducible assumption | apply Ext.refl | apply Ext.app | (apply Ext.set <;> omega) | (refine Ext.trans ?_ (by assumption))))) only [AX, TY, AD, mapPut, entsOf, oneV, builtinV, idsOf, mapId, touchB, Nat.reduceLT, Nat.reduceLeDiff, Nat.reduceEqDiff, Nat.reduceAdd, Nat.reduceMul, Int.reduceBEq, Int.reduceEq, Int.reduceNeg, Int.reduceLT, Int.reduceLE, Int.reduceAdd, Int.reduceSub, Int.reduceMul, Int.reduceToNat, Int.reduceGT, Nat.reduceBEq, Nat.reducePow, Nat.reduceGT, reduceCtorEq, ↓reduceIte, t0, t1, t6, t10, t12, t84, t85, t86, h1, loadN_fact hcbh, hst1, hst2, loadN_fact hB, storeN_fact hB (by simp), hwr]
  have hfrl' := lt_of_some hfk
  have hkk : ∀ (A B C : O) (i : Nat), i ≠ I.pi → i ≠ I.fr → (((hh.set I.pi A).set I.fr B).set I.pi C)[i]? = hR[i]? := fun A B C i h1 h2 => by rw [set_other _ h1, set_other _ h2, set_other _ h1, hhk i h2]
  refine ⟨⟨D1, S.pages, (clrF S.frames cl).set j ⟨page, p', c', ((applyAll D1.dur D1.pend).drop (page * 1024)).take 1024, 1, false, true⟩, hand, S.reads + 1⟩, oid1, some (p', c', ((applyAll D1.dur D1.pend).drop (page * 1024)).take 1024), .inr ⟨j, hand, cl, D1, 0, ch, hj, by rw [hof]; exact hwe, .inr (.inr ⟨rfl, hf, p', c', _, rfl, rfl, rfl, rfl⟩)⟩, ?_, ?_, ?_⟩
  · refine dR.upd (by rw [List.length_set, hgl']) (fun f hf => ?_) (by rw [List.length_set, hgl']; exact hlt.2.1) (by simp only [List.length_set]; omega) (set_same _ (by simp only [List.length_set]; exact hpih)) (by rw [set_other _ (Ne.symm d.ne)]; exact set_same _ (by rw [List.length_set]; exact hfrl')) (fun i _ h1 h2 => hkk _ _ _ i h1 h2)
    rcases List.mem_or_eq_of_mem_set hf with hf | rfl
    · obtain ⟨g', hg', rfl | rfl⟩ := clrF_mem hf
      · exact dR.dat _ hg'
      · exact (fun z => z) (dR.dat g' hg')
    · refine ⟨gr.rs, fun a o z q => ?_⟩
      have h1 := gr.base a (gr.at z)
      have h2 := dp.lt q
      omega
  · exact kR.trans ⟨by simp only [List.length_set]; omega, fun i hi hn => hkk _ _ _ i (fun q => hn (.inl q)) (fun q => hn (.inr (.inl q))), fun _ _ q => q⟩
  · intro p2 c2 data2 heq
    simp only [Option.some.injEq, Prod.mk.injEq] at heq
    obtain ⟨rfl, rfl, rfl⟩ := heq
    have hbs : ∀ i, o' = some i → hw.length ≤ i := gr.base
    have g5 := gr.keep (hh := ((hh.set I.pi (O.cells [V.ptr (some (I.di, 0)), V.int .i64 S.pages, V.slice (some (I.fr, 0)) S.frames.length (some S.frames.length), V.int .i64 hand, V.int .i64 S.reads] .rw)).set I.fr (O.cells (((clrF S.frames cl).set j ⟨page, p', c', ((applyAll D1.dur D1.pend).drop (page * 1024)).take 1024, 1, false, true⟩).flatMap Fr.enc) .rw)).set I.pi (O.cells [V.ptr (some (I.di, 0)), V.int .i64 S.pages, V.slice (some (I.fr, 0)) S.frames.length (some S.frames.length), V.int .i64 hand, V.int .i64 (S.reads + 1)] .rw)) fun i z => hkk _ _ _ i (fun q => by have := hbs i z; have := dp.lt (.inl q); omega) (fun q => by have := hbs i z; have := dp.lt (.inr (.inl q)); omega)
    exact ⟨o', g5.sl, g5.kind, fun i z => Nat.le_trans khw.le (hbs i z), g5.leaf⟩
end Go.Proofs.YtmjfhckioaempaaA
namespace Go.Proofs.YtmjfhckioaempaaA
open Go Go.Proofs Go.RowKit
set_option linter.unusedVariables false
set_option linter.unusedSimpArgs false
set_option maxRecDepth 10000
set_option maxHeartbeats 2000000
theorem Gr.cut0 {b : Nat} {h : Heap} {p : Option (Nat × Nat)} {c oid : Option Nat} {ys : List Int} (g : Gr b h p c oid 1 eb ys) : Gr b h p (some 0) oid 1 eb ([] : List Int) := by
  refine ⟨g.sl.empty, ?_, g.base, by simp⟩
  rcases g.kind with ⟨e1, _, e3⟩ | ⟨id, off, C, k, e1, e2, e3, e4⟩
  · exact .inl ⟨e1, rfl, e3⟩
  · refine .inr ⟨id, off, C, k, e1, e2, e3, .inl ⟨rfl, ?_⟩⟩
    rcases e4 with ⟨_, q⟩ | ⟨_, rfl, _⟩
    · exact q
    · simp
theorem sliceV_00 {h : Heap} {sz len : Nat} {p : Option (Nat × Nat)} {c : Option Nat} {k k' : IntKind} : sliceV h sz p len c none (some (.int k 0)) (some (.int k' 0)) = some (.slice p 0 (some 0)) := by
  unfold sliceV boundV
  simp
theorem Gr.base_le {α : Type} {a b : Nat} {h : Heap} {p : Option (Nat × Nat)} {c oid : Option Nat} {sz : Nat} {enc : α → List V} {ys : List α} (g : Gr b h p c oid sz enc ys) (hab : a ≤ b) : Gr a h p c oid sz enc ys := ⟨g.sl, g.kind, fun i e => Nat.le_trans hab (g.base i e), g.leaf⟩
theorem apv_0 {h : Heap} {p : Option (Nat × Nat)} {x : V} {n : Nat} {zs : List Int} (s : Sl h p 1 eb ([] : List Int)) (hn : n = zs.length) (h1 : 1 ≤ n) (hS : n ≤ 1000000) (hx : firstV 1 n h x = some (zs.flatMap eb)) : apv 1 1 p 0 (some 0) x n h = some (.slice (some (h.length, 0)) n none, h ++ [.cells (zs.flatMap eb) (.gr 1)]) := by
  have hlen := flatMap_len (eb_w zs)
  have hlf := all_leaf (eb_l zs)
  have hs := s.first (some 0) (Nat.le_refl 0) 0
  simp only [List.take_nil, List.flatMap_nil] at hs
  unfold apv
  rw [if_neg (by omega), hx]
  simp only []
  unfold appRest
  have hc1 : ¬ ((zs.flatMap eb).length ≠ n * 1 ∨ (zs.flatMap eb).all V.leaf = false ∨ 0 + n > 2 ^ 47) := by
    rw [hlen, hlf, hn]; simp; omega
  simp only []
  rw [if_neg hc1]
  have hgrow : growV h 1 1 (.slice p 0 (some 0)) 0 n (zs.flatMap eb) = some (.slice (some (h.length, 0)) n none, h ++ [.cells (zs.flatMap eb) (.gr 1)]) := by
    unfold growV
    rw [if_neg (by omega), hs]
    simp
  cases p with
  | none =>
    simp only []
    rw [if_neg (by omega), hgrow]
  | some q =>
    simp only []
    rw [if_neg (by omega), hgrow]
/-- What Pin comes to: the new pool, the error, the contents. -/
def PinR (S : Bp) (page : Int) (S' : Bp) (e : Int) (dd : List Int) : Prop :=
  ((page < 0 ∨ S.pages ≤ page) ∧ S' = S ∧ e = 2 ∧ dd = []) ∨
  (0 ≤ page ∧ page < S.pages ∧ ∃ i, ∃ hi : i < S.frames.length, findF page S.frames = some i ∧ S' = ⟨S.D, S.pages, S.frames.set i { S.frames[i] with pins := (S.frames[i]).pins + 1, ref := true }, S.hand, S.reads⟩ ∧ e = 0 ∧ dd = (S.frames[i]).data) ∨
  (∃ n : Nat, page = n ∧ n < S.pages ∧ findF page S.frames = none ∧ ∃ r rs, LoO S n r S' rs ∧ ((rs = none ∧ e ≠ 0 ∧ dd = [] ∧ r = .tuple [.slice none 0 (some 0), .int .i64 e]) ∨ ∃ p c, rs = some (p, c, dd) ∧ e = 0))
theorem pin_ok {b : Nat} {h : Heap} {I : Ids} {S : Bp} {oid : Option Nat} (d : PAt b h I S oid) (ok : Okp S) (page : Int) :
    WR (callE Try.prog hk 36 [.ptr (some (I.pi, 0)), .int .i64 page] h) fun r h' => ∃ S' oid' e dd p c, r = .tuple [.slice p dd.length c, .int .i64 e] ∧ PinR S page S' e dd ∧ PAt b h' I S' oid' ∧ Kp h h' (ownP I oid) (ownP I oid') ∧ Sl h' p 1 eb dd ∧ ∀ a o, p = some (a, o) → h.length ≤ a ∧ ¬ ownP I oid' a := by
  have gp := d.pool
  refine WR.call (hH := rfl) Try.func36 rfl (n := 52) rfl rfl (by simp) ?_
  by_cases h1 : page < 0
  · simp -dsimp (disch := first | with_reducible assumption | omega | (intro h_; cases h_; done) | (simp only [LN] <;> omega) | (simp only [LF]; done) | (repeat (first | with_reducible assumption | apply Ext.refl | apply Ext.app | (apply Ext.set <;> omega) | (refine Ext.trans ?_ (by assumption))))) only [AX, TY, AD, mapPut, entsOf, oneV, builtinV, idsOf, mapId, touchB, Nat.reduceLT, Nat.reduceLeDiff, Nat.reduceEqDiff, Nat.reduceAdd, Nat.reduceMul, Int.reduceBEq, Int.reduceEq, Int.reduceNeg, Int.reduceLT, Int.reduceLE, Int.reduceAdd, Int.reduceSub, Int.reduceMul, Int.reduceToNat, Int.reduceGT, Nat.reduceBEq, Nat.reducePow, Nat.reduceGT, reduceCtorEq, ↓reduceIte, h1]
    exact ⟨S, oid, 2, [], none, some 0, rfl, .inl ⟨.inl h1, rfl, rfl, rfl⟩, d, Kp.ext (.refl _) _, .nil0 _ _ _, by simp⟩
  by_cases h2 : (S.pages : Int) ≤ page
  · simp -dsimp (disch := first | with_reducible assumption | omega | (intro h_; cases h_; done) | (simp only [LN] <;> omega) | (simp only [LF]; done) | (repeat (first | with_reducible assumption | apply Ext.refl | apply Ext.app | (apply Ext.set <;> omega) | (refine Ext.trans ?_ (by assumption))))) only [AX, TY, AD, mapPut, entsOf, oneV, builtinV, idsOf, mapId, touchB, Nat.reduceLT, Nat.reduceLeDiff, Nat.reduceEqDiff, Nat.reduceAdd, Nat.reduceMul, Int.reduceBEq, Int.reduceEq, Int.reduceNeg, Int.reduceLT, Int.reduceLE, Int.reduceAdd, Int.reduceSub, Int.reduceMul, Int.reduceToNat, Int.reduceGT, Nat.reduceBEq, Nat.reducePow, Nat.reduceGT, reduceCtorEq, ↓reduceIte, h1, h2, loadN_fact gp]
    exact ⟨S, oid, 2, [], none, some 0, rfl, .inl ⟨.inr h2, rfl, rfl, rfl⟩, d, Kp.ext (.refl _) _, .nil0 _ _ _, by simp⟩
  simp -dsimp (disch := first | with_reducible assumption | omega | (intro h_; cases h_; done) | (simp only [LN] <;> omega) | (simp only [LF]; done) | (repeat (first | with_reducible assumption | apply Ext.refl | apply Ext.app | (apply Ext.set <;> omega) | (refine Ext.trans ?_ (by assumption))))) only [AX, TY, AD, mapPut, entsOf, oneV, builtinV, idsOf, mapId, touchB, Nat.reduceLT, Nat.reduceLeDiff, Nat.reduceEqDiff, Nat.reduceAdd, Nat.reduceMul, Int.reduceBEq, Int.reduceEq, Int.reduceNeg, Int.reduceLT, Int.reduceLE, Int.reduceAdd, Int.reduceSub, Int.reduceMul, Int.reduceToNat, Int.reduceGT, Nat.reduceBEq, Nat.reducePow, Nat.reduceGT, reduceCtorEq, ↓reduceIte, h1, h2, loadN_fact gp]
  refine (find_ok d page).mono ?_
  rintro _ g ⟨e1, rfl⟩
  have d1 := d.ext e1
  cases hfi : findF page S.frames with
  | some i =>
    obtain ⟨hi, hq0, hq3, _⟩ := findF_some hfi
    have hfl := lt_of_some d1.frs
    have hf := d1.dat _ (List.getElem_mem hi)
    have hbig := ok.pins _ (List.getElem_mem hi)
    have hpd := ok.page _ (List.getElem_mem hi)
    have hpg : (S.frames[i]).data.length = 1024 := (hpd (by rw [hq3]; exact hq0)).2
    have hl2 := d1.sl.loadz (.refl _) hi (o := 2) (m := 1) (by decide)
    have hst := fr_store d1.frs hi (o := 2) (vs := [.int .i64 ((S.frames[i]).pins + 1)]) (by simp) rfl { S.frames[i] with pins := (S.frames[i]).pins + 1 } rfl
    have hA := set_same (h := g) (i := I.fr) (O.cells ((S.frames.set i { S.frames[i] with pins := (S.frames[i]).pins + 1 }).flatMap Fr.enc) .rw) hfl
    have hi' : i < (S.frames.set i { S.frames[i] with pins := (S.frames[i]).pins + 1 }).length := by rw [List.length_set]; exact hi
    have hst2 := fr_store hA hi' (o := 4) (vs := [.bool true]) (by simp) rfl { S.frames[i] with pins := (S.frames[i]).pins + 1, ref := true } (by rw [List.getElem_set_self]; rfl)
    rw [List.set_set] at hst2
    have hw : IntKind.i64.wrap ((S.frames[i]).pins + 1) = (S.frames[i]).pins + 1 := by rw [IntKind.wrap_i64]; omega
    have d2 : PAt b (g.set I.fr (O.cells ((S.frames.set i { S.frames[i] with pins := (S.frames[i]).pins + 1, ref := true }).flatMap Fr.enc) .rw)) I ⟨S.D, S.pages, S.frames.set i { S.frames[i] with pins := (S.frames[i]).pins + 1, ref := true }, S.hand, S.reads⟩ oid := by
      refine d1.upd (by rw [List.length_set]) (fun f hf => ?_) (by rw [List.length_set]; exact d.hand) (by rw [List.length_set]; exact Nat.le_refl _) (by rw [set_other _ d.ne]; exact d1.pool) (set_same _ hfl) (fun j hj h1 h2 => set_other _ h2)
      rcases List.mem_or_eq_of_mem_set hf with hf | rfl
      · exact d1.dat f hf
      · exact (fun q => q) (d1.dat (S.frames[i]) (List.getElem_mem hi))
    have k2 : Kp h (g.set I.fr (O.cells ((S.frames.set i { S.frames[i] with pins := (S.frames[i]).pins + 1, ref := true }).flatMap Fr.enc) .rw)) (ownP I oid) (ownP I oid) := (Kp.ext e1 _).trans ⟨by rw [List.length_set]; exact Nat.le_refl _, fun j hj hn => set_other _ fun q => hn (.inr (.inl q)), fun _ _ q => q⟩
    have hi2 : i < (S.frames.set i { S.frames[i] with pins := (S.frames[i]).pins + 1, ref := true }).length := by rw [List.length_set]; exact hi
    have hl1 := d2.sl.loadz (.refl _) (i := i) hi2 (o := 1) (m := 1) (by decide)
    simp only [List.getElem_set_self] at hl1
    have hsl := (d2.dat { S.frames[i] with pins := (S.frames[i]).pins + 1, ref := true } (List.mem_set hi _)).1.sl
    have hcl := clone46_ok (c := (S.frames[i]).c) hsl (by show (S.frames[i]).data.length * 1 ≤ _; omega)
    simp only [Fr.enc, List.take, List.drop] at hl2 hl1
    simp -dsimp (disch := first | with_reducible assumption | omega | (intro h_; cases h_; done) | (simp only [LN] <;> omega) | (simp only [LF]; done) | (repeat (first | with_reducible assumption | apply Ext.refl | apply Ext.app | (apply Ext.set <;> omega) | (refine Ext.trans ?_ (by assumption))))) only [AX, TY, AD, mapPut, entsOf, oneV, builtinV, idsOf, mapId, touchB, Nat.reduceLT, Nat.reduceLeDiff, Nat.reduceEqDiff, Nat.reduceAdd, Nat.reduceMul, Int.reduceBEq, Int.reduceEq, Int.reduceNeg, Int.reduceLT, Int.reduceLE, Int.reduceAdd, Int.reduceSub, Int.reduceMul, Int.reduceToNat, Int.reduceGT, Nat.reduceBEq, Nat.reducePow, Nat.reduceGT, reduceCtorEq, ↓reduceIte, ptrF, hl2, hw, hst, hst2, hl1]
    refine hcl.mono ?_
    rintro _ h3 ⟨e3, p', c', o', rfl, gr⟩
    simp -dsimp (disch := first | with_reducible assumption | omega | (intro h_; cases h_; done) | (simp only [LN] <;> omega) | (simp only [LF]; done) | (repeat (first | with_reducible assumption | apply Ext.refl | apply Ext.app | (apply Ext.set <;> omega) | (refine Ext.trans ?_ (by assumption))))) only [AX, TY, AD, mapPut, entsOf, oneV, builtinV, idsOf, mapId, touchB, Nat.reduceLT, Nat.reduceLeDiff, Nat.reduceEqDiff, Nat.reduceAdd, Nat.reduceMul, Int.reduceBEq, Int.reduceEq, Int.reduceNeg, Int.reduceLT, Int.reduceLE, Int.reduceAdd, Int.reduceSub, Int.reduceMul, Int.reduceToNat, Int.reduceGT, Nat.reduceBEq, Nat.reducePow, Nat.reduceGT, reduceCtorEq, ↓reduceIte]
    have k3 := k2.trans (Kp.ext e3 _)
    refine ⟨_, oid, 0, (S.frames[i]).data, p', c', rfl, .inr (.inl ⟨by omega, by omega, i, hi, hfi, rfl, rfl, rfl⟩), d2.ext e3, k3, gr.sl, fun a o z => ?_⟩
    have := gr.base a (gr.at z)
    have hk2 := k2.le
    exact ⟨by omega, fun q => by have := d2.lt q; omega⟩
  | none =>
    obtain ⟨n, rfl⟩ := Int.eq_ofNat_of_zero_le (show 0 ≤ page by omega)
    simp -dsimp (disch := first | with_reducible assumption | omega | (intro h_; cases h_; done) | (simp only [LN] <;> omega) | (simp only [LF]; done) | (repeat (first | with_reducible assumption | apply Ext.refl | apply Ext.app | (apply Ext.set <;> omega) | (refine Ext.trans ?_ (by assumption))))) only [AX, TY, AD, mapPut, entsOf, oneV, builtinV, idsOf, mapId, touchB, Nat.reduceLT, Nat.reduceLeDiff, Nat.reduceEqDiff, Nat.reduceAdd, Nat.reduceMul, Int.reduceBEq, Int.reduceEq, Int.reduceNeg, Int.reduceLT, Int.reduceLE, Int.reduceAdd, Int.reduceSub, Int.reduceMul, Int.reduceToNat, Int.reduceGT, Nat.reduceBEq, Nat.reducePow, Nat.reduceGT, reduceCtorEq, ↓reduceIte, ptrF]
    refine (load_ok d1 ok n (by omega)).mono ?_
    rintro r h3 ⟨S', oid', rs, lo, d3, k3, hrs⟩
    have k13 := (Kp.ext e1 (ownP I oid)).trans k3
    have lo2 := lo
    have hex : (∃ e, e ≠ 0 ∧ rs = none ∧ r = .tuple [.slice none 0 (some 0), .int .i64 e]) ∨ ∃ p c data, rs = some (p, c, data) ∧ r = .tuple [.slice p 1024 c, .int .i64 0] ∧ data.length = 1024 := by
      rcases lo with ⟨_, _, _, h1, h2⟩ | ⟨j, hand, cl, D1, e, ch, hj, hwe, ⟨h1, h2, h3, h4⟩ | ⟨h1, h2, h3, h4, h5⟩ | ⟨h1, h2, p, c, data, h3, h4, h5, h6⟩⟩
      · exact .inl ⟨9, by decide, h1, h2⟩
      · exact .inl ⟨e, h1, h3, h4⟩
      · exact .inl ⟨11, by decide, h4, h5⟩
      · refine .inr ⟨p, c, data, h4, h5, ?_⟩
        have hdl : D1.dur.length = S.D.dur.length := by
          unfold WroE at hwe
          split at hwe
          · obtain ⟨off, _, wo⟩ := hwe
            unfold WrO at wo
            split at wo
            · rw [wo.1]
            · split at wo
              · rw [wo.1]
              · obtain ⟨_, w, _, _, rfl⟩ := wo; rfl
          · rw [hwe.1]
        have hin : ∀ w ∈ D1.pend, w.off + w.data.length ≤ D1.dur.length := by
          have := d3.dk.inr
          rw [h6] at this; exact this
        have h1 : (applyAll D1.dur D1.pend).length = D1.dur.length := applyAll_len hin
        have := ok.dur
        rw [h3, List.length_take, List.length_drop, h1, hdl]; omega
    rcases hex with ⟨e, he, rfl, rfl⟩ | ⟨p, c, data, rfl, rfl, hd⟩
    · simp -dsimp (disch := first | with_reducible assumption | omega | (intro h_; cases h_; done) | (simp only [LN] <;> omega) | (simp only [LF]; done) | (repeat (first | with_reducible assumption | apply Ext.refl | apply Ext.app | (apply Ext.set <;> omega) | (refine Ext.trans ?_ (by assumption))))) only [AX, TY, AD, mapPut, entsOf, oneV, builtinV, idsOf, mapId, touchB, Nat.reduceLT, Nat.reduceLeDiff, Nat.reduceEqDiff, Nat.reduceAdd, Nat.reduceMul, Int.reduceBEq, Int.reduceEq, Int.reduceNeg, Int.reduceLT, Int.reduceLE, Int.reduceAdd, Int.reduceSub, Int.reduceMul, Int.reduceToNat, Int.reduceGT, Nat.reduceBEq, Nat.reducePow, Nat.reduceGT, reduceCtorEq, ↓reduceIte, he]
      exact ⟨S', oid', e, [], none, some 0, rfl, .inr (.inr ⟨n, rfl, by omega, hfi, _, _, lo2, .inl ⟨rfl, he, rfl, rfl⟩⟩), d3, k13, .nil0 _ _ _, by simp⟩
    · obtain ⟨o', gr⟩ := hrs p c data rfl
      have hfs := gr.sl.first c (Nat.le_refl _) data.length
      rw [List.take_of_length_le (Nat.le_refl _)] at hfs
      rw [hd] at hfs
      have hap := apv_0 (p := p) gr.cut0.sl hd.symm (by decide) (by decide) hfs
      simp -dsimp (disch := first | with_reducible assumption | omega | (intro h_; cases h_; done) | (simp only [LN] <;> omega) | (simp only [LF]; done) | (repeat (first | with_reducible assumption | apply Ext.refl | apply Ext.app | (apply Ext.set <;> omega) | (refine Ext.trans ?_ (by assumption))))) only [AX, TY, AD, mapPut, entsOf, oneV, builtinV, idsOf, mapId, touchB, Nat.reduceLT, Nat.reduceLeDiff, Nat.reduceEqDiff, Nat.reduceAdd, Nat.reduceMul, Int.reduceBEq, Int.reduceEq, Int.reduceNeg, Int.reduceLT, Int.reduceLE, Int.reduceAdd, Int.reduceSub, Int.reduceMul, Int.reduceToNat, Int.reduceGT, Nat.reduceBEq, Nat.reducePow, Nat.reduceGT, reduceCtorEq, ↓reduceIte, sliceV_00, hap]
      have e5 : Ext h3 (h3 ++ [O.cells (data.flatMap eb) (.gr 1)]) := (by (repeat (first | assumption | apply Ext.refl | apply Ext.app | (apply Ext.set <;> omega) | exact Ext.trans (by assumption) (by assumption) | (refine Ext.trans ?_ (by assumption)))))
      have k5 := k13.trans (Kp.ext e5 (ownP I oid'))
      have hle := k13.le
      refine ⟨S', oid', 0, data, some (h3.length, 0), none, by rw [hd], .inr (.inr ⟨n, rfl, by omega, hfi, _, _, lo2, .inr ⟨p, c, rfl, rfl⟩⟩), d3.ext e5, k5, .whole (snoc_last _ rfl) (eb_w _) rfl (by omega), fun a o z => ?_⟩
      cases z
      exact ⟨hle, fun q => by have := d3.lt q; omega⟩
end Go.Proofs.YtmjfhckioaempaaA
namespace Go.Proofs.YtmjfhckioaempaaA
open Go Go.Proofs Go.RowKit
set_option linter.unusedVariables false
set_option linter.unusedSimpArgs false
set_option maxRecDepth 10000
set_option maxHeartbeats 2000000
theorem findF_map (page : Int) (fs : List Fr) : findF page fs = (fs.map Fr.page).findIdx? fun x => decide (0 ≤ page) && decide (x = page) := by
  unfold findF
  rw [List.findIdx?_map]
  rfl
theorem findF_ex {page : Int} {fs : List Fr} (h0 : 0 ≤ page) {f : Fr} (hf : f ∈ fs) (h : f.page = page) : ∃ i, findF page fs = some i := by
  cases hq : findF page fs with
  | none => exact absurd h (findF_none hq h0 f hf)
  | some i => exact ⟨i, rfl⟩
/-- What writing the pages one after the other comes to. -/
def FlR : List Int → Bp → Bp → Int → Prop
  | [], S, S', e => S' = S ∧ e = 0
  | p :: ps, S, S', e => ∃ i, ∃ hi : i < S.frames.length, ∃ off : Nat, ∃ D1 e1, findF p S.frames = some i ∧ (off : Int) = p * 1024 ∧ WrO S.D off (S.frames[i]).data D1 e1 ∧ ((e1 ≠ 0 ∧ S' = ⟨D1, S.pages, S.frames, S.hand, S.reads⟩ ∧ e = e1) ∨ (e1 = 0 ∧ FlR ps ⟨D1, S.pages, S.frames.set i { S.frames[i] with dirty := false }, S.hand, S.reads⟩ S' e))
theorem WrO.len {D D1 : Dk} {off : Nat} {data : List Int} {e : Int} (h : WrO D off data D1 e) : D1.dur.length = D.dur.length ∧ D1.pend.length ≤ D.pend.length + 1 ∧ (D.ctr ≤ 9223372036854775807 → D1.ctr ≤ 9223372036854775807) := by
  unfold WrO at h
  split at h
  · rw [h.1]; exact ⟨rfl, by omega, id⟩
  · split at h
    · rw [h.1]; exact ⟨rfl, by simp, fun _ => by show (0 : Int) ≤ _; omega⟩
    · obtain ⟨_, w, _, _, rfl⟩ := h
      refine ⟨rfl, by simp, fun h => ?_⟩
      show decr D.ctr ≤ _
      unfold decr; split <;> omega
theorem set_page {fs : List Fr} {i : Nat} (hi : i < fs.length) {f : Fr} (h : f.page = (fs[i]).page) : (fs.set i f).map Fr.page = fs.map Fr.page := by
  rw [List.map_set, h]
  apply List.ext_getElem (by simp)
  intro j h1 h2
  by_cases c : i = j
  · subst c; simp
  · rw [List.getElem_set_ne c]
theorem flush_ok {b : Nat} {h : Heap} {I : Ids} {S : Bp} {oid : Option Nat} (d : PAt b h I S oid) (ok : Okp S) (hfew : S.D.pend.length < 40000) (h12 : (lstP Fr.dirty S.frames).length ≤ 12) :
    WR (callE Try.prog hk 21 [.ptr (some (I.pi, 0))] h) fun r h' => ∃ S' oid' e zs, r = .int .i64 e ∧ zs.Pairwise (· ≤ ·) ∧ zs.Perm (lstP Fr.dirty S.frames) ∧ FlR zs S S' e ∧ PAt b h' I S' oid' ∧ Kp h h' (ownP I oid) (ownP I oid') := by
  refine WR.call (hH := rfl) Try.func21 rfl (n := 35) rfl rfl (by simp) ?_
  simp -dsimp (disch := first | with_reducible assumption | omega | (intro h_; cases h_; done) | (simp only [LN] <;> omega) | (simp only [LF]; done) | (repeat (first | with_reducible assumption | apply Ext.refl | apply Ext.app | (apply Ext.set <;> omega) | (refine Ext.trans ?_ (by assumption))))) only [AX, TY, AD, mapPut, entsOf, oneV, builtinV, idsOf, mapId, touchB, Nat.reduceLT, Nat.reduceLeDiff, Nat.reduceEqDiff, Nat.reduceAdd, Nat.reduceMul, Int.reduceBEq, Int.reduceEq, Int.reduceNeg, Int.reduceLT, Int.reduceLE, Int.reduceAdd, Int.reduceSub, Int.reduceMul, Int.reduceToNat, Int.reduceGT, Nat.reduceBEq, Nat.reducePow, Nat.reduceGT, reduceCtorEq, ↓reduceIte]
  refine (dirty_ok d h12).mono ?_
  rintro _ h1 ⟨e1, p', c', zs, rfl, sl, hsrt, hperm, hpf⟩
  have hzl := hperm.length_eq
  have hn := sl.nil'
  have hl := sl.small
  have hin : ∀ z ∈ zs, 0 ≤ z ∧ z < S.pages ∧ ∃ i, findF z S.frames = some i := fun z hz => by
    have := hperm.mem_iff.1 hz
    unfold lstP lstQ at this
    obtain ⟨f, hf, rfl⟩ := List.mem_map.1 this
    obtain ⟨hf1, hf2⟩ := List.mem_filter.1 hf
    simp only [Bool.and_eq_true, decide_eq_true_eq] at hf2
    exact ⟨hf2.1, (ok.page f hf1 hf2.1).1, findF_ex hf2.1 hf1 rfl⟩
  simp -dsimp (disch := first | with_reducible assumption | omega | (intro h_; cases h_; done) | (simp only [LN] <;> omega) | (simp only [LF]; done) | (repeat (first | with_reducible assumption | apply Ext.refl | apply Ext.app | (apply Ext.set <;> omega) | (refine Ext.trans ?_ (by assumption))))) only [AX, TY, AD, mapPut, entsOf, oneV, builtinV, idsOf, mapId, touchB, Nat.reduceLT, Nat.reduceLeDiff, Nat.reduceEqDiff, Nat.reduceAdd, Nat.reduceMul, Int.reduceBEq, Int.reduceEq, Int.reduceNeg, Int.reduceLT, Int.reduceLE, Int.reduceAdd, Int.reduceSub, Int.reduceMul, Int.reduceToNat, Int.reduceGT, Nat.reduceBEq, Nat.reducePow, Nat.reduceGT, reduceCtorEq, ↓reduceIte]
  refine W.loop (fun m τ hh => ∃ (k : Nat) (Sk : Bp) (ok' : Option Nat), m + k = zs.length ∧ τ 0 = .ptr (some (I.pi, 0)) ∧ τ 8 = .slice p' zs.length c' ∧ τ 9 = .int .i64 zs.length ∧ τ 10 = .int .i64 k ∧ PAt b hh I Sk ok' ∧ Kp h hh (ownP I oid) (ownP I ok') ∧ Kp h1 hh (ownP I oid) (ownP I ok') ∧ Okp Sk ∧ Sk.D.pend.length ≤ S.D.pend.length + k ∧ Sk.frames.map Fr.page = S.frames.map Fr.page ∧ Sk.pages = S.pages ∧ ∀ S' e, FlR (zs.drop k) Sk S' e → FlR zs S S' e) ?_ (m := zs.length) ?_
  rotate_left
  · have d1 := d.ext e1
    have k1 := Kp.ext e1 (ownP I oid)
    have k0 := Kp.ext (Ext.refl h1) (ownP I oid)
    refine ⟨0, S, oid, ?_⟩
    simp -dsimp (disch := first | with_reducible assumption | omega | (intro h_; cases h_; done) | (simp only [LN] <;> omega) | (simp only [LF]; done) | (repeat (first | with_reducible assumption | apply Ext.refl | apply Ext.app | (apply Ext.set <;> omega) | (refine Ext.trans ?_ (by assumption))))) only [AX, TY, AD, mapPut, entsOf, oneV, builtinV, idsOf, mapId, touchB, Nat.reduceLT, Nat.reduceLeDiff, Nat.reduceEqDiff, Nat.reduceAdd, Nat.reduceMul, Int.reduceBEq, Int.reduceEq, Int.reduceNeg, Int.reduceLT, Int.reduceLE, Int.reduceAdd, Int.reduceSub, Int.reduceMul, Int.reduceToNat, Int.reduceGT, Nat.reduceBEq, Nat.reducePow, Nat.reduceGT, reduceCtorEq, ↓reduceIte]
    repeat' (first | assumption | refine And.intro ?_ ?_)
    all_goals first | rfl | omega | (simp; done) | (simp; omega; done) | skip
  rintro m τ hh ⟨k, Sk, ok', hm, t0, t8, t9, t10, dk, kp, kp1, okk, hpl, hpm, hpp, hfl⟩
  by_cases h2 : (k : Int) < (zs.length : Int)
  rotate_left
  · simp -dsimp (disch := first | with_reducible assumption | omega | (intro h_; cases h_; done) | (simp only [LN] <;> omega) | (simp only [LF]; done) | (repeat (first | with_reducible assumption | apply Ext.refl | apply Ext.app | (apply Ext.set <;> omega) | (refine Ext.trans ?_ (by assumption))))) only [AX, TY, AD, mapPut, entsOf, oneV, builtinV, idsOf, mapId, touchB, Nat.reduceLT, Nat.reduceLeDiff, Nat.reduceEqDiff, Nat.reduceAdd, Nat.reduceMul, Int.reduceBEq, Int.reduceEq, Int.reduceNeg, Int.reduceLT, Int.reduceLE, Int.reduceAdd, Int.reduceSub, Int.reduceMul, Int.reduceToNat, Int.reduceGT, Nat.reduceBEq, Nat.reducePow, Nat.reduceGT, reduceCtorEq, ↓reduceIte, t0, t8, t9, t10, h2]
    rw [List.drop_of_length_le (by omega)] at hfl
    exact ⟨Sk, ok', 0, zs, rfl, hsrt, hperm, hfl Sk 0 ⟨rfl, rfl⟩, dk, kp⟩
  have hk : k < zs.length := by omega
  have hdr := List.drop_eq_getElem_cons hk
  have hz := hin _ (List.getElem_mem hk)
  have slh : Sl hh p' 1 ei zs := sl.keep fun a o z => kp1.fr a (sl.lt z) fun q => by have := hpf a o z; have := d.lt q; omega
  have hla := slh.load0 (.refl _) hk (m := 1) (by decide)
  generalize zs[k] = z at hdr hz hla
  simp only [ei, List.take] at hla
  obtain ⟨i, hfi⟩ := hz.2.2
  have hfk : findF z Sk.frames = some i := by rw [findF_map, hpm, ← findF_map]; exact hfi
  obtain ⟨hi, hq0, hq3, _⟩ := findF_some hfk
  obtain ⟨zn, rfl⟩ := Int.eq_ofNat_of_zero_le hz.1
  simp -dsimp (disch := first | with_reducible assumption | omega | (intro h_; cases h_; done) | (simp only [LN] <;> omega) | (simp only [LF]; done) | (repeat (first | with_reducible assumption | apply Ext.refl | apply Ext.app | (apply Ext.set <;> omega) | (refine Ext.trans ?_ (by assumption))))) only [AX, TY, AD, mapPut, entsOf, oneV, builtinV, idsOf, mapId, touchB, Nat.reduceLT, Nat.reduceLeDiff, Nat.reduceEqDiff, Nat.reduceAdd, Nat.reduceMul, Int.reduceBEq, Int.reduceEq, Int.reduceNeg, Int.reduceLT, Int.reduceLE, Int.reduceAdd, Int.reduceSub, Int.reduceMul, Int.reduceToNat, Int.reduceGT, Nat.reduceBEq, Nat.reducePow, Nat.reduceGT, reduceCtorEq, ↓reduceIte, t0, t8, t9, t10, h2, hla]
  refine (find_ok dk (zn : Int)).mono ?_
  rintro _ h3 ⟨e3, rfl⟩
  rw [hfk]
  have d3 := dk.ext e3
  have gp3 := d3.pool
  have hf3 := d3.dat _ (List.getElem_mem hi)
  have hpg := okk.page _ (List.getElem_mem hi)
  have hl1 := d3.sl.loadz (.refl _) hi (o := 1) (m := 1) (by decide)
  have hpl' : ((Sk.frames[i]).data).length = 1024 := (hpg (by rw [hq3]; omega)).2
  have hoff : IntKind.i64.wrap ((zn : Int) * 1024) = ((zn * 1024 : Nat) : Int) := by
    have := ok.pages
    rw [IntKind.wrap_i64]; omega
  have hwr := write_ok d3.dk (off := zn * 1024) (c := (Sk.frames[i]).c) hf3.1.sl (fun a o z w => hf3.2 a o z (.inr (.inr (.inl w)))) (by have := okk.dur; omega) (by have := okk.few; omega) okk.ctr
  simp only [Fr.enc, List.take, List.drop] at hl1
  simp -dsimp (disch := first | with_reducible assumption | omega | (intro h_; cases h_; done) | (simp only [LN] <;> omega) | (simp only [LF]; done) | (repeat (first | with_reducible assumption | apply Ext.refl | apply Ext.app | (apply Ext.set <;> omega) | (refine Ext.trans ?_ (by assumption))))) only [AX, TY, AD, mapPut, entsOf, oneV, builtinV, idsOf, mapId, touchB, Nat.reduceLT, Nat.reduceLeDiff, Nat.reduceEqDiff, Nat.reduceAdd, Nat.reduceMul, Int.reduceBEq, Int.reduceEq, Int.reduceNeg, Int.reduceLT, Int.reduceLE, Int.reduceAdd, Int.reduceSub, Int.reduceMul, Int.reduceToNat, Int.reduceGT, Nat.reduceBEq, Nat.reducePow, Nat.reduceGT, reduceCtorEq, ↓reduceIte, t0, t8, t9, t10, ptrF]
  refine W.drawn [(0, []), (1, []), (2, []), (3, []), (4, [3, 2, 1, 0]), (5, [3, 2, 1, 0]), (6, [5, 4, 3, 2, 1, 0]), (7, [5, 4, 3, 2, 1, 0]), (8, [5, 4, 3, 2, 1, 0]), (9, [5, 4, 3, 2, 1, 0]), (10, []), (11, [])] (by decide +kernel) ?_
  simp -dsimp (disch := first | with_reducible assumption | omega | (intro h_; cases h_; done) | (simp only [LN] <;> omega) | (simp only [LF]; done) | (repeat (first | with_reducible assumption | apply Ext.refl | apply Ext.app | (apply Ext.set <;> omega) | (refine Ext.trans ?_ (by assumption))))) only [AX, TY, AD, mapPut, entsOf, oneV, builtinV, idsOf, mapId, touchB, Nat.reduceLT, Nat.reduceLeDiff, Nat.reduceEqDiff, Nat.reduceAdd, Nat.reduceMul, Int.reduceBEq, Int.reduceEq, Int.reduceNeg, Int.reduceLT, Int.reduceLE, Int.reduceAdd, Int.reduceSub, Int.reduceMul, Int.reduceToNat, Int.reduceGT, Nat.reduceBEq, Nat.reducePow, Nat.reduceGT, reduceCtorEq, ↓reduceIte, t0, t8, t9, t10, loadN_fact gp3, hl1, hoff]
  refine hwr.mono ?_
  rintro _ h4 ⟨D1, o4, e9, rfl, dd, kw, wo⟩
  obtain ⟨dp, kw2⟩ := d3.disk dd kw
  have hwl := wo.len
  by_cases he : e9 = 0
  rotate_left
  · simp -dsimp (disch := first | with_reducible assumption | omega | (intro h_; cases h_; done) | (simp only [LN] <;> omega) | (simp only [LF]; done) | (repeat (first | with_reducible assumption | apply Ext.refl | apply Ext.app | (apply Ext.set <;> omega) | (refine Ext.trans ?_ (by assumption))))) only [AX, TY, AD, mapPut, entsOf, oneV, builtinV, idsOf, mapId, touchB, Nat.reduceLT, Nat.reduceLeDiff, Nat.reduceEqDiff, Nat.reduceAdd, Nat.reduceMul, Int.reduceBEq, Int.reduceEq, Int.reduceNeg, Int.reduceLT, Int.reduceLE, Int.reduceAdd, Int.reduceSub, Int.reduceMul, Int.reduceToNat, Int.reduceGT, Nat.reduceBEq, Nat.reducePow, Nat.reduceGT, reduceCtorEq, ↓reduceIte, he]
    exact ⟨_, o4, e9, zs, rfl, hsrt, hperm, hfl _ e9 (by rw [hdr]; exact ⟨i, hi, zn * 1024, D1, e9, hfk, by omega, wo, .inl ⟨he, rfl, rfl⟩⟩), dp, (kp.trans (Kp.ext e3 _)).trans kw2⟩
  subst he
  have hst := fr_store dp.frs hi (o := 3) (vs := [.bool false]) (by simp) rfl { Sk.frames[i] with dirty := false } rfl
  have hfl4 := lt_of_some dp.frs
  have k4 : Kp h4 (h4.set I.fr (O.cells ((Sk.frames.set i { Sk.frames[i] with dirty := false }).flatMap Fr.enc) .rw)) (ownP I o4) (ownP I o4) := ⟨by rw [List.length_set]; exact Nat.le_refl _, fun j hj hn => set_other _ fun q => hn (.inr (.inl q)), fun _ _ q => q⟩
  have d5 : PAt b (h4.set I.fr (O.cells ((Sk.frames.set i { Sk.frames[i] with dirty := false }).flatMap Fr.enc) .rw)) I ⟨D1, Sk.pages, Sk.frames.set i { Sk.frames[i] with dirty := false }, Sk.hand, Sk.reads⟩ o4 := by
    refine dp.upd (by rw [List.length_set]) (fun f hf => ?_) (by rw [List.length_set]; exact dk.hand) (by rw [List.length_set]; exact Nat.le_refl _) (by rw [set_other _ d.ne]; exact dp.pool) (set_same _ hfl4) (fun j hj h1 h2 => set_other _ h2)
    rcases List.mem_or_eq_of_mem_set hf with hf | rfl
    · exact dp.dat f hf
    · exact (fun q => q) (dp.dat (Sk.frames[i]) (List.getElem_mem hi))
  have k5 := ((kp.trans (Kp.ext e3 _)).trans kw2).trans k4
  have k51 := ((kp1.trans (Kp.ext e3 _)).trans kw2).trans k4
  have hmf : ∀ f ∈ Sk.frames.set i { Sk.frames[i] with dirty := false }, ∃ g ∈ Sk.frames, f.page = g.page ∧ f.data = g.data ∧ f.pins = g.pins := fun f hf => by
    rcases List.mem_or_eq_of_mem_set hf with hf | rfl
    · exact ⟨f, hf, rfl, rfl, rfl⟩
    · exact ⟨_, List.getElem_mem hi, rfl, rfl, rfl⟩
  have okn : Okp ⟨D1, Sk.pages, Sk.frames.set i { Sk.frames[i] with dirty := false }, Sk.hand, Sk.reads⟩ := ⟨by rw [hwl.1]; exact okk.dur, okk.pages, fun f hf => by obtain ⟨g, hg, h1, h2, h3⟩ := hmf f hf; rw [h3]; exact okk.pins g hg, fun f hf => by obtain ⟨g, hg, h1, h2, h3⟩ := hmf f hf; rw [h1, h2]; exact okk.page g hg, by have := hwl.2.1; show D1.pend.length < 50000; omega, hwl.2.2 okk.ctr, okk.reads⟩
  have hpm' : (Sk.frames.set i { Sk.frames[i] with dirty := false }).map Fr.page = S.frames.map Fr.page := (set_page hi (f := { Sk.frames[i] with dirty := false }) rfl).trans hpm
  have hpl5 : D1.pend.length ≤ S.D.pend.length + (k + 1) := by have := hwl.2.1; omega
  have hfl5 : ∀ S' e, FlR (zs.drop (k + 1)) ⟨D1, Sk.pages, Sk.frames.set i { Sk.frames[i] with dirty := false }, Sk.hand, Sk.reads⟩ S' e → FlR zs S S' e := fun S' e q => hfl S' e (by rw [hdr]; exact ⟨i, hi, zn * 1024, D1, 0, hfk, by omega, wo, .inr ⟨rfl, q⟩⟩)
  simp -dsimp (disch := first | with_reducible assumption | omega | (intro h_; cases h_; done) | (simp only [LN] <;> omega) | (simp only [LF]; done) | (repeat (first | with_reducible assumption | apply Ext.refl | apply Ext.app | (apply Ext.set <;> omega) | (refine Ext.trans ?_ (by assumption))))) only [AX, TY, AD, mapPut, entsOf, oneV, builtinV, idsOf, mapId, touchB, Nat.reduceLT, Nat.reduceLeDiff, Nat.reduceEqDiff, Nat.reduceAdd, Nat.reduceMul, Int.reduceBEq, Int.reduceEq, Int.reduceNeg, Int.reduceLT, Int.reduceLE, Int.reduceAdd, Int.reduceSub, Int.reduceMul, Int.reduceToNat, Int.reduceGT, Nat.reduceBEq, Nat.reducePow, Nat.reduceGT, reduceCtorEq, ↓reduceIte, t0, t8, t9, t10, hst, wrap_in]
  refine ⟨m - 1, by omega, k + 1, ⟨D1, Sk.pages, Sk.frames.set i { Sk.frames[i] with dirty := false }, Sk.hand, Sk.reads⟩, o4, ?_⟩
  repeat' (first | assumption | refine And.intro ?_ ?_)
  all_goals first | rfl | omega | (simp; done) | (simp; omega; done) | skip
end Go.Proofs.YtmjfhckioaempaaA
