/- Words of this session: chapter 16: the reference's Pin. Words of this session: chapter 16: the reference's Update, Unpin. Words of this session: chapter 16: the reference's Flush. -/
import Derived.Test.YtmjfhckioaempaaPB
namespace Go.Proofs.YtmjfhckioaempaaA
open Go Go.Proofs Go.RowKit
set_option linter.unusedVariables false
set_option linter.unusedSimpArgs false
set_option maxRecDepth 10000
set_option maxHeartbeats 4000000
theorem PIn.inr {S : Bp} {N : Nat} (v : PIn S N) : ∀ w ∈ S.D.pend, w.off + w.data.length ≤ S.D.dur.length := fun w hw => by
  obtain ⟨k, h1, h2, h3⟩ := v.pd w hw
  rw [h1, h2, v.dur]; omega
/-- What is handed back by a function of the reference's pool. -/
def ResR (P : Nat → Prop) (h' : Heap) (r : V) (M' : Bp) (e : Int) (dd : List Int) : Prop := ∃ w p c, r = .tuple [w, .slice p dd.length c, .int .i64 e] ∧ RBF P h' w M' ∧ Sl h' p 1 eb dd ∧ ∀ a o, p = some (a, o) → P a
theorem rPin_ok {h : Heap} {S : Bp} {N : Nat} {p : Option (Nat × Nat)} {c : Option Nat} {q : Option (Nat × Nat)} {d : Option Nat} {fp : Option (Nat × Nat)} {fc : Option Nat} (r : RBp h S p c q d fp fc) (v : PIn S N) {P : Nat → Prop} (bp : BpPtr S p q fp P) (page : Int) :
    WR (callE Try.prog hk 51 [.agg (bpV S p c q d fp fc), .int .i64 page] h) fun r h' => Ext h h' ∧ ∃ M' e dd, ResR (fun a => P a ∨ h.length ≤ a) h' r M' e dd ∧ PinR S page M' e dd := by
  have hfl := v.fl
  have hbig := v.big
  refine WR.call (hH := rfl) Try.func51 rfl (n := 117) rfl rfl (by simp) ?_
  obtain ⟨g, hg, g0, g1, e1, hgl⟩ : ∃ g, h ++ [O.cells (bpV S p c q d fp fc) .rw] ++ [O.cells zP .rw] = g ∧ g[h.length]? = some (O.cells (bpV S p c q d fp fc) .rw) ∧ g[h.length + 1]? = some (O.cells zP .rw) ∧ Ext h g ∧ g.length = h.length + 2 := ⟨_, rfl, by rw [snoc_old _ (by simp)]; exact snoc_last _ rfl, snoc_last _ (by simp), (by (repeat (first | assumption | apply Ext.refl | apply Ext.app | (apply Ext.set <;> omega) | exact Ext.trans (by assumption) (by assumption) | (refine Ext.trans ?_ (by assumption))))), by simp⟩
  have hne : ¬ h.length + 1 = h.length := by omega
  have hl1 := lt_of_some g1
  have r1 := r.ext e1
  have hfd := rFind_ok (v := .agg (bpV S p c q d fp fc)) (S := S) (h := g) ⟨p, c, q, d, fp, fc, rfl, r1⟩ page
  simp only [bpV, zP] at hg g0 g1 hfd
  have back : ∀ (hh : Heap), Ext g hh → ∀ e' : Int, Ext h (hh.set (h.length + 1) (O.cells (bpV S p c q d fp fc) .rw)) ∧ RBF (fun a => P a ∨ h.length ≤ a) (hh.set (h.length + 1) (O.cells (bpV S p c q d fp fc) .rw)) (.agg (bpV S p c q d fp fc)) S := fun hh e e' => by
    have : Ext h (hh.set (h.length + 1) (O.cells (bpV S p c q d fp fc) .rw)) := Ext.set (e1.trans e) (by omega) _
    exact ⟨this, p, c, q, d, fp, fc, rfl, r.ext this, bp.imp fun _ z => .inl z⟩
  by_cases h1 : page < 0
  · simp -dsimp (disch := first | with_reducible assumption | omega | (intro h_; cases h_; done) | (simp only [LN] <;> omega) | (simp only [LF]; done) | (repeat (first | with_reducible assumption | apply Ext.refl | apply Ext.app | (apply Ext.set <;> omega) | (refine Ext.trans ?_ (by assumption))))) only [AX, TY, AD, mapPut, entsOf, oneV, builtinV, idsOf, mapId, touchB, Nat.reduceLT, Nat.reduceLeDiff, Nat.reduceEqDiff, Nat.reduceAdd, Nat.reduceMul, Int.reduceBEq, Int.reduceEq, Int.reduceNeg, Int.reduceLT, Int.reduceLE, Int.reduceAdd, Int.reduceSub, Int.reduceMul, Int.reduceToNat, Int.reduceGT, Nat.reduceBEq, Nat.reducePow, Nat.reduceGT, reduceCtorEq, ↓reduceIte, bpV, hg, loadN_fact g0, h1, storeN_fact g1 (by simp)]
    obtain ⟨b1, b2⟩ := back g (.refl _) 2
    exact ⟨b1, S, 2, [], ⟨_, none, some 0, rfl, b2, .nil0 _ _ _, by simp⟩, .inl ⟨.inl h1, rfl, rfl, rfl⟩⟩
  by_cases h2 : (S.pages : Int) ≤ page
  · simp -dsimp (disch := first | with_reducible assumption | omega | (intro h_; cases h_; done) | (simp only [LN] <;> omega) | (simp only [LF]; done) | (repeat (first | with_reducible assumption | apply Ext.refl | apply Ext.app | (apply Ext.set <;> omega) | (refine Ext.trans ?_ (by assumption))))) only [AX, TY, AD, mapPut, entsOf, oneV, builtinV, idsOf, mapId, touchB, Nat.reduceLT, Nat.reduceLeDiff, Nat.reduceEqDiff, Nat.reduceAdd, Nat.reduceMul, Int.reduceBEq, Int.reduceEq, Int.reduceNeg, Int.reduceLT, Int.reduceLE, Int.reduceAdd, Int.reduceSub, Int.reduceMul, Int.reduceToNat, Int.reduceGT, Nat.reduceBEq, Nat.reducePow, Nat.reduceGT, reduceCtorEq, ↓reduceIte, bpV, hg, loadN_fact g0, h1, h2, storeN_fact g1 (by simp)]
    obtain ⟨b1, b2⟩ := back g (.refl _) 2
    exact ⟨b1, S, 2, [], ⟨_, none, some 0, rfl, b2, .nil0 _ _ _, by simp⟩, .inl ⟨.inr h2, rfl, rfl, rfl⟩⟩
  simp -dsimp (disch := first | with_reducible assumption | omega | (intro h_; cases h_; done) | (simp only [LN] <;> omega) | (simp only [LF]; done) | (repeat (first | with_reducible assumption | apply Ext.refl | apply Ext.app | (apply Ext.set <;> omega) | (refine Ext.trans ?_ (by assumption))))) only [AX, TY, AD, mapPut, entsOf, oneV, builtinV, idsOf, mapId, touchB, Nat.reduceLT, Nat.reduceLeDiff, Nat.reduceEqDiff, Nat.reduceAdd, Nat.reduceMul, Int.reduceBEq, Int.reduceEq, Int.reduceNeg, Int.reduceLT, Int.reduceLE, Int.reduceAdd, Int.reduceSub, Int.reduceMul, Int.reduceToNat, Int.reduceGT, Nat.reduceBEq, Nat.reducePow, Nat.reduceGT, reduceCtorEq, ↓reduceIte, bpV, hg, loadN_fact g0, h1, h2]
  refine hfd.mono ?_
  rintro _ h3 ⟨e3, rfl⟩
  have g03 := e3 _ _ g0
  have g13 := e3 _ _ g1
  have r3 := r1.ext e3
  cases hfi : findF page S.frames with
  | some i =>
    obtain ⟨hi, hp0, hp1, _⟩ := findF_some hfi
    have hn0 : (0 : Int) ≤ (i : Int) := by omega
    have hii : (i : Int) < (S.frames.length : Int) := by omega
    have hcp := rcopied_ok r3 hfl
    simp only [bpV] at hcp
    simp -dsimp (disch := first | with_reducible assumption | omega | (intro h_; cases h_; done) | (simp only [LN] <;> omega) | (simp only [LF]; done) | (repeat (first | with_reducible assumption | apply Ext.refl | apply Ext.app | (apply Ext.set <;> omega) | (refine Ext.trans ?_ (by assumption))))) only [AX, TY, AD, mapPut, entsOf, oneV, builtinV, idsOf, mapId, touchB, Nat.reduceLT, Nat.reduceLeDiff, Nat.reduceEqDiff, Nat.reduceAdd, Nat.reduceMul, Int.reduceBEq, Int.reduceEq, Int.reduceNeg, Int.reduceLT, Int.reduceLE, Int.reduceAdd, Int.reduceSub, Int.reduceMul, Int.reduceToNat, Int.reduceGT, Nat.reduceBEq, Nat.reducePow, Nat.reduceGT, reduceCtorEq, ↓reduceIte, idxI, eq_true hn0, loadN_fact g03]
    refine hcp.mono ?_
    rintro _ h4 ⟨e4, fp', fc', o', rfl, gr⟩
    obtain ⟨h5, hh5, x5, e5, hl5⟩ : ∃ h5, h4 ++ [O.cells [V.slice p S.D.dur.length c, V.slice q S.D.pend.length d, V.int .i64 S.D.ctr, V.bool S.D.failed, V.int .i64 S.pages, V.slice fp' S.frames.length fc', V.int .i64 S.hand, V.int .i64 S.reads] .rw] = h5 ∧ h5[h4.length]? = some (O.cells [V.slice p S.D.dur.length c, V.slice q S.D.pend.length d, V.int .i64 S.D.ctr, V.bool S.D.failed, V.int .i64 S.pages, V.slice fp' S.frames.length fc', V.int .i64 S.hand, V.int .i64 S.reads] .rw) ∧ Ext h4 h5 ∧ h5.length = h4.length + 1 := ⟨_, rfl, snoc_last _ rfl, (by (repeat (first | assumption | apply Ext.refl | apply Ext.app | (apply Ext.set <;> omega) | exact Ext.trans (by assumption) (by assumption) | (refine Ext.trans ?_ (by assumption))))), by simp⟩
    have gr5 := gr.ext e5
    have hfn : fp' = none → S.frames.length = 0 := gr.sl.nil'
    have hl2 := gr5.sl.load (.refl _) hi (o := 2) (m := 1) (by decide)
    have hv := v.fr i hi
    have hw : IntKind.i64.wrap ((S.frames[i]).pins + 1) = (S.frames[i]).pins + 1 := by have := hv.2.1; have := hv.1; rw [IntKind.wrap_i64]; omega
    obtain ⟨h6, hst6, gr6, hl6, hk6, hb6⟩ := gr5.store hi (o := 2) (vs := [.int .i64 ((S.frames[i]).pins + 1)]) (by simp) rfl { S.frames[i] with pins := (S.frames[i]).pins + 1 } rfl
    have hi6 : i < (S.frames.set i { S.frames[i] with pins := (S.frames[i]).pins + 1 }).length := by rw [List.length_set]; exact hi
    obtain ⟨h7, hst7, gr7, hl7, hk7, hb7⟩ := gr6.store hi6 (o := 4) (vs := [.bool true]) (by simp) rfl { S.frames[i] with pins := (S.frames[i]).pins + 1, ref := true } (by rw [List.getElem_set_self]; rfl)
    rw [List.set_set] at gr7
    have oo : ∀ j, o' = some j → h3.length ≤ j ∧ j < h4.length := fun j hj => ⟨gr.base j hj, gr.lt hj⟩
    have x7 : h7[h4.length]? = _ := (hk7 _ (fun z => by have := oo _ z; omega)).trans ((hk6 _ (fun z => by have := oo _ z; omega)).trans x5)
    have x6 : h6[h4.length]? = _ := (hk6 _ (fun z => by have := oo _ z; omega)).trans x5
    have y7 : h7[h.length + 1]? = _ := (hk7 _ (fun z => by have := oo _ z; have := e3.le; omega)).trans ((hk6 _ (fun z => by have := oo _ z; have := e3.le; omega)).trans (e5 _ _ (e4 _ _ g13)))
    have hi7 : i < (S.frames.set i { S.frames[i] with pins := (S.frames[i]).pins + 1, ref := true }).length := by rw [List.length_set]; exact hi
    have hld := gr7.sl.load (.refl _) hi7 (o := 1) (m := 1) (by decide)
    simp only [List.getElem_set_self] at hld
    simp only [Fr.enc, List.take, List.drop] at hl2 hld
    have e7 : Ext h3 h7 := Ext.of_keep fun j hj => by rw [hb7 j hj, hb6 j hj, e5.same (by have := e4.le; omega), e4.same hj]
    have eh : Ext h h7 := (e1.trans e3).trans e7
    have ly := lt_of_some y7
    have ex : ∀ A : O, Ext h (h7.set (h.length + 1) A) := fun A => Ext.set eh (by omega) _
    have l34 := e4.le
    have l3 := e3.le
    have b1 : (!(h.length + 1) == sid fp') = true := by
      cases fp' with
      | none => have := hfn rfl; omega
      | some z =>
        have := oo z.1 (gr.at rfl)
        show (!(h.length + 1) == z.1) = true
        simp; omega
    have b2 : (!(h.length + 1) == h4.length) = true := by simp; omega
    simp -dsimp (disch := first | with_reducible assumption | omega | (intro h_; cases h_; done) | (simp only [LN] <;> omega) | (simp only [LF]; done) | (repeat (first | with_reducible assumption | apply Ext.refl | apply Ext.app | (apply Ext.set <;> omega) | (refine Ext.trans ?_ (by assumption))))) only [AX, TY, AD, mapPut, entsOf, oneV, builtinV, idsOf, mapId, touchB, Nat.reduceLT, Nat.reduceLeDiff, Nat.reduceEqDiff, Nat.reduceAdd, Nat.reduceMul, Int.reduceBEq, Int.reduceEq, Int.reduceNeg, Int.reduceLT, Int.reduceLE, Int.reduceAdd, Int.reduceSub, Int.reduceMul, Int.reduceToNat, Int.reduceGT, Nat.reduceBEq, Nat.reducePow, Nat.reduceGT, reduceCtorEq, ↓reduceIte, hh5, loadN_fact x5, hii, hl2, hw, hst6, loadN_fact x6, hst7, loadN_fact x7]
    refine W.drawn [(0, []), (1, [0]), (2, [0]), (3, [2, 1, 0]), (4, [0]), (5, [0]), (6, [0]), (7, [6, 5, 4, 3, 2, 1]), (8, []), (9, [])] (by decide +kernel) ?_
    simp -dsimp (disch := first | with_reducible assumption | omega | (intro h_; cases h_; done) | (simp only [LN] <;> omega) | (simp only [LF]; done) | (repeat (first | with_reducible assumption | apply Ext.refl | apply Ext.app | (apply Ext.set <;> omega) | (refine Ext.trans ?_ (by assumption))))) only [AX, TY, AD, mapPut, entsOf, oneV, builtinV, idsOf, mapId, touchB, Nat.reduceLT, Nat.reduceLeDiff, Nat.reduceEqDiff, Nat.reduceAdd, Nat.reduceMul, Int.reduceBEq, Int.reduceEq, Int.reduceNeg, Int.reduceLT, Int.reduceLE, Int.reduceAdd, Int.reduceSub, Int.reduceMul, Int.reduceToNat, Int.reduceGT, Nat.reduceBEq, Nat.reducePow, Nat.reduceGT, reduceCtorEq, ↓reduceIte, loadN_fact x7, hii, hld, storeN_fact y7 (by simp), b1, b2]
    have hdat := r.dat _ (List.getElem_mem hi)
    refine ⟨ex _, ⟨S.D, S.pages, S.frames.set i { S.frames[i] with pins := (S.frames[i]).pins + 1, ref := true }, S.hand, S.reads⟩, 0, (S.frames[i]).data, ⟨_, _, _, rfl, ⟨p, c, q, d, fp', fc', by simp only [bpV, List.length_set], ?_, ⟨bp.1.imp fun _ z => .inl z, fun a o z => .inr (by have := oo a (gr.at z); omega), fun f hf a o z => .inl ?_⟩⟩, hdat.ext (ex _), fun a o z => .inl (bp.2.2 _ (List.getElem_mem hi) a o z)⟩, .inr (.inl ⟨by omega, by omega, i, hi, hfi, rfl, rfl, rfl⟩)⟩
    rotate_left
    · rcases List.mem_or_eq_of_mem_set hf with hf | rfl
      · exact bp.2.2 f hf a o z
      · exact bp.2.2 _ (List.getElem_mem hi) a o z
    refine ⟨r.dk.ext (ex _), (gr7.keep fun j hj => set_other _ (by have := oo j hj; have := e3.le; omega)).sl, fun f hf => ?_⟩
    rcases List.mem_or_eq_of_mem_set hf with hf | rfl
    · exact (r.dat f hf).ext (ex _)
    · exact hdat.ext (ex _)
  | none =>
    have hn0 : ¬ (0 : Int) ≤ -1 := by decide
    have hro := rroom_ok r3 v
    simp only [bpV] at hro
    obtain ⟨n, rfl⟩ := Int.eq_ofNat_of_zero_le (show 0 ≤ page by omega)
    simp -dsimp (disch := first | with_reducible assumption | omega | (intro h_; cases h_; done) | (simp only [LN] <;> omega) | (simp only [LF]; done) | (repeat (first | with_reducible assumption | apply Ext.refl | apply Ext.app | (apply Ext.set <;> omega) | (refine Ext.trans ?_ (by assumption))))) only [AX, TY, AD, mapPut, entsOf, oneV, builtinV, idsOf, mapId, touchB, Nat.reduceLT, Nat.reduceLeDiff, Nat.reduceEqDiff, Nat.reduceAdd, Nat.reduceMul, Int.reduceBEq, Int.reduceEq, Int.reduceNeg, Int.reduceLT, Int.reduceLE, Int.reduceAdd, Int.reduceSub, Int.reduceMul, Int.reduceToNat, Int.reduceGT, Nat.reduceBEq, Nat.reducePow, Nat.reduceGT, reduceCtorEq, ↓reduceIte, idxI, hn0, loadN_fact g03]
    refine hro.mono ?_
    rintro _ h4 ⟨e4, ⟨hn1, hn2, fp', fc', rfl⟩ | ⟨j, hand, cl, fp', fc', o', ch, rfl, gr⟩⟩
    · have g04 := e4 _ _ g03
      have g14 := e4 _ _ g13
      have hl14 := lt_of_some g14
      simp -dsimp (disch := first | with_reducible assumption | omega | (intro h_; cases h_; done) | (simp only [LN] <;> omega) | (simp only [LF]; done) | (repeat (first | with_reducible assumption | apply Ext.refl | apply Ext.app | (apply Ext.set <;> omega) | (refine Ext.trans ?_ (by assumption))))) only [AX, TY, AD, mapPut, entsOf, oneV, builtinV, idsOf, mapId, touchB, Nat.reduceLT, Nat.reduceLeDiff, Nat.reduceEqDiff, Nat.reduceAdd, Nat.reduceMul, Int.reduceBEq, Int.reduceEq, Int.reduceNeg, Int.reduceLT, Int.reduceLE, Int.reduceAdd, Int.reduceSub, Int.reduceMul, Int.reduceToNat, Int.reduceGT, Nat.reduceBEq, Nat.reducePow, Nat.reduceGT, reduceCtorEq, ↓reduceIte, loadN_fact g04, storeN_fact g14 (by simp)]
      obtain ⟨b1, b2⟩ := back h4 (e3.trans e4) 9
      exact ⟨b1.app _, S, 9, [], ⟨_, none, some 0, rfl, b2.ext ((Ext.refl _).app _), .nil0 _ _ _, by simp⟩, .inr (.inr ⟨n, rfl, by omega, hfi, _, _, .inl ⟨hn1, hn2, rfl, rfl, rfl⟩, .inl ⟨rfl, by decide, rfl, rfl⟩⟩)⟩
    have hlt := ch.lt v.hand
    have hj := hlt.1
    have hjn : ¬ ((j : Int) < 0) := by omega
    have hji : (j : Int) < (S.frames.length : Int) := by omega
    have hjc : j < (clrF S.frames cl).length := by rw [clrF_len]; exact hj
    have g04 := e4 _ _ g03
    have g14 := e4 _ _ g13
    have hcl : (clrF S.frames cl).length = S.frames.length := clrF_len _ _
    have hfn : fp' = none → S.frames.length = 0 := fun z => by rw [← hcl]; exact gr.sl.nil' z
    have hold := v.fr j hj
    have hcg := clrF_get (fs := S.frames) (cl := cl) hj
    have hla : ∀ {hh : Heap}, Ext h4 hh → loadN hh (sid fp') (soff fp' + j * 5) 5 = some ((Fr.enc (clrF S.frames cl)[j]).take 5) := fun e => gr.sl.load0 e hjc (m := 5) (by decide)
    have hof : ((clrF S.frames cl)[j]).page = (S.frames[j]).page ∧ ((clrF S.frames cl)[j]).data = (S.frames[j]).data ∧ ((clrF S.frames cl)[j]).dirty = (S.frames[j]).dirty ∧ ((clrF S.frames cl)[j]).p = (S.frames[j]).p := by
      rw [hcg]; split <;> exact ⟨rfl, rfl, rfl, rfl⟩
    have hdat := r.dat _ (List.getElem_mem hj)
    generalize hoo : (clrF S.frames cl)[j] = old at hla hof
    obtain ⟨of1, of2, of3, of4⟩ := hof
    simp only [Fr.enc, List.take] at hla
    obtain ⟨h5, hh5, x5, y5, e5, hl5⟩ : ∃ h5, h4 ++ [O.cells [V.slice p S.D.dur.length c, V.slice q S.D.pend.length d, V.int .i64 S.D.ctr, V.bool S.D.failed, V.int .i64 S.pages, V.slice fp' S.frames.length fc', V.int .i64 hand, V.int .i64 S.reads] .rw] ++ [O.cells [V.int .i64 old.page, V.slice old.p old.data.length old.c, V.int .i64 old.pins, V.bool old.dirty, V.bool old.ref] .rw] = h5 ∧ h5[h4.length]? = some (O.cells [V.slice p S.D.dur.length c, V.slice q S.D.pend.length d, V.int .i64 S.D.ctr, V.bool S.D.failed, V.int .i64 S.pages, V.slice fp' S.frames.length fc', V.int .i64 hand, V.int .i64 S.reads] .rw) ∧ h5[h4.length + 1]? = some (O.cells [V.int .i64 old.page, V.slice old.p old.data.length old.c, V.int .i64 old.pins, V.bool old.dirty, V.bool old.ref] .rw) ∧ Ext h4 h5 ∧ h5.length = h4.length + 2 := ⟨_, rfl, by rw [snoc_old _ (by simp)]; exact snoc_last _ rfl, snoc_last _ (by simp), (by (repeat (first | assumption | apply Ext.refl | apply Ext.app | (apply Ext.set <;> omega) | exact Ext.trans (by assumption) (by assumption) | (refine Ext.trans ?_ (by assumption))))), by simp⟩
    have l34 := e4.le
    have l3 := e3.le
    have oo : ∀ k, o' = some k → h3.length ≤ k ∧ k < h4.length := fun k hk => ⟨gr.base k hk, gr.lt hk⟩
    have g05 := e5 _ _ g04
    have g15 := e5 _ _ g14
    have gr5 := gr.ext e5
    have r5 := (r3.ext e4).ext e5
    have hdat5 : Sl h5 old.p 1 eb old.data := by rw [of4, of2]; exact hdat.ext ((((e1.trans e3).trans e4).trans e5))
    simp only [hcl]
    generalize hC : Code.cond (Operand.tmp 72) _ _ = C72
    generalize hR13 : Code.region 13 _ _ = R13
    simp -dsimp (disch := first | with_reducible assumption | omega | (intro h_; cases h_; done) | (simp only [LN] <;> omega) | (simp only [LF]; done) | (repeat (first | with_reducible assumption | apply Ext.refl | apply Ext.app | (apply Ext.set <;> omega) | (refine Ext.trans ?_ (by assumption))))) only [AX, TY, AD, mapPut, entsOf, oneV, builtinV, idsOf, mapId, touchB, Nat.reduceLT, Nat.reduceLeDiff, Nat.reduceEqDiff, Nat.reduceAdd, Nat.reduceMul, Int.reduceBEq, Int.reduceEq, Int.reduceNeg, Int.reduceLT, Int.reduceLE, Int.reduceAdd, Int.reduceSub, Int.reduceMul, Int.reduceToNat, Int.reduceGT, Nat.reduceBEq, Nat.reducePow, Nat.reduceGT, reduceCtorEq, ↓reduceIte, hjn, hji, hla, hh5, loadN_fact x5]
    refine wpc_cutT (fun τ' h' => h5 = h' ∧ τ' 1 = .int .i64 n ∧ τ' 2 = .ptr (some (h.length, 0)) ∧ τ' 4 = .ptr (some (h.length + 1, 0)) ∧ τ' 9 = .ptr (some (h4.length, 0)) ∧ τ' 10 = .int .i64 j ∧ τ' 11 = .ptr (some (h4.length + 1, 0)) ∧ τ' 72 = .bool (decide (0 ≤ old.page) && old.dirty)) ?_ ?_
    · subst hR13
      cases hop : decide (0 ≤ old.page)
      · simp -dsimp (disch := first | with_reducible assumption | omega | (intro h_; cases h_; done) | (simp only [LN] <;> omega) | (simp only [LF]; done) | (repeat (first | with_reducible assumption | apply Ext.refl | apply Ext.app | (apply Ext.set <;> omega) | (refine Ext.trans ?_ (by assumption))))) only [AX, TY, AD, mapPut, entsOf, oneV, builtinV, idsOf, mapId, touchB, Nat.reduceLT, Nat.reduceLeDiff, Nat.reduceEqDiff, Nat.reduceAdd, Nat.reduceMul, Int.reduceBEq, Int.reduceEq, Int.reduceNeg, Int.reduceLT, Int.reduceLE, Int.reduceAdd, Int.reduceSub, Int.reduceMul, Int.reduceToNat, Int.reduceGT, Nat.reduceBEq, Nat.reducePow, Nat.reduceGT, reduceCtorEq, ↓reduceIte, loadN_fact y5, hop]
      · simp -dsimp (disch := first | with_reducible assumption | omega | (intro h_; cases h_; done) | (simp only [LN] <;> omega) | (simp only [LF]; done) | (repeat (first | with_reducible assumption | apply Ext.refl | apply Ext.app | (apply Ext.set <;> omega) | (refine Ext.trans ?_ (by assumption))))) only [AX, TY, AD, mapPut, entsOf, oneV, builtinV, idsOf, mapId, touchB, Nat.reduceLT, Nat.reduceLeDiff, Nat.reduceEqDiff, Nat.reduceAdd, Nat.reduceMul, Int.reduceBEq, Int.reduceEq, Int.reduceNeg, Int.reduceLT, Int.reduceLE, Int.reduceAdd, Int.reduceSub, Int.reduceMul, Int.reduceToNat, Int.reduceGT, Nat.reduceBEq, Nat.reducePow, Nat.reduceGT, reduceCtorEq, ↓reduceIte, loadN_fact y5, hop]
    rintro τ0 _ ⟨rfl, t1, t2, t4, t9, t10, t11, t72⟩
    have hlt5 : h.length < h5.length ∧ h.length + 1 < h5.length ∧ h4.length < h5.length := ⟨lt_of_some g05, lt_of_some g15, lt_of_some x5⟩
    have eh5 : Ext h h5 := (((e1.trans e3).trans e4).trans e5)
    have CUT : ∀ (τ : Tp) (Q : Post), τ 1 = .int .i64 n → τ 2 = .ptr (some (h.length, 0)) → τ 4 = .ptr (some (h.length + 1, 0)) → τ 9 = .ptr (some (h4.length, 0)) → τ 10 = .int .i64 j → τ 11 = .ptr (some (h4.length + 1, 0)) → τ 72 = .bool (decide (0 ≤ old.page) && old.dirty) →
        (∀ e hw D1 w, e ≠ 0 → WroE S.D S.frames[j] D1 e → Ext h hw → hw[h.length + 1]? = some (.cells w .rw) → w.length = 8 → RBF (fun a => P a ∨ h.length ≤ a) hw (.agg w) ⟨D1, S.pages, S.frames, S.hand, S.reads⟩ → ∀ τ : Tp, τ 4 = .ptr (some (h.length + 1, 0)) → τ 5 = .slice none 0 (some 0) → τ 6 = .int .i64 e → Q .ret τ hw) →
        (∀ hw D1 p1 c1 q1 d1, WroE S.D S.frames[j] D1 0 → Ext h hw → RDk hw D1 p1 c1 q1 d1 → (D1 = S.D ∨ D1.failed = false) → D1.dur.length = S.D.dur.length → hw[h.length]? = some (.cells (bpV S p c q d fp fc) .rw) → hw[h.length + 1]? = some (.cells zP .rw) → hw[h4.length]? = some (.cells [.slice p1 D1.dur.length c1, .slice q1 D1.pend.length d1, .int .i64 D1.ctr, .bool D1.failed, .int .i64 S.pages, .slice fp' S.frames.length fc', .int .i64 hand, .int .i64 S.reads] .rw) → Gr h3.length hw fp' fc' o' 5 Fr.enc (clrF S.frames cl) → (∀ k, o' = some k → k < h4.length) → DkPtr D1 p1 q1 (fun a => (P a ∧ a < h.length) ∨ h5.length ≤ a) → h5.length ≤ hw.length → ∀ τ : Tp, τ 1 = .int .i64 n → τ 2 = .ptr (some (h.length, 0)) → τ 4 = .ptr (some (h.length + 1, 0)) → τ 9 = .ptr (some (h4.length, 0)) → τ 10 = .int .i64 j → Q .norm τ hw) →
        wpc Try.prog hk 117 C72 Q τ h5 := by
      intro τ Q t1 t2 t4 t9 t10 t11 t72 hE hN
      subst hC
      by_cases hd : 0 ≤ old.page ∧ old.dirty = true
      rotate_left
      · have hcd : (decide (0 ≤ old.page) && old.dirty) = false := by
          cases hq : old.dirty
          · simp
          · simp only [Bool.and_true, decide_eq_false_iff_not]; exact fun z => hd ⟨z, hq⟩
        rw [hcd] at t72
        simp -dsimp (disch := first | with_reducible assumption | omega | (intro h_; cases h_; done) | (simp only [LN] <;> omega) | (simp only [LF]; done) | (repeat (first | with_reducible assumption | apply Ext.refl | apply Ext.app | (apply Ext.set <;> omega) | (refine Ext.trans ?_ (by assumption))))) only [AX, TY, AD, mapPut, entsOf, oneV, builtinV, idsOf, mapId, touchB, Nat.reduceLT, Nat.reduceLeDiff, Nat.reduceEqDiff, Nat.reduceAdd, Nat.reduceMul, Int.reduceBEq, Int.reduceEq, Int.reduceNeg, Int.reduceLT, Int.reduceLE, Int.reduceAdd, Int.reduceSub, Int.reduceMul, Int.reduceToNat, Int.reduceGT, Nat.reduceBEq, Nat.reducePow, Nat.reduceGT, reduceCtorEq, ↓reduceIte, t72]
        exact hN h5 S.D p c q d (by unfold WroE; rw [if_neg (by rw [← of1, ← of3]; exact hd)]; exact ⟨rfl, rfl⟩) eh5 r5.dk (.inl rfl) rfl g05 g15 x5 gr5 (fun k hk => (oo k hk).2) ((bp.1.and r.dk.ptr).imp fun a z => .inl z) (Nat.le_refl _) _ t1 t2 t4 t9 t10
      rw [show (decide (0 ≤ old.page) && old.dirty) = true by simp [hd]] at t72
      obtain ⟨pn, hpn⟩ := Int.eq_ofNat_of_zero_le hd.1
      have hpg' : old.page < S.pages ∧ old.data.length = 1024 := by
        rw [of1, of2]
        rcases hold.2.2 with z | z
        · rw [of1] at hpn; omega
        · exact ⟨z.2.1, z.2.2.1⟩
      have hoff : IntKind.i64.wrap (old.page * 1024) = ((pn * 1024 : Nat) : Int) := by
        have := v.pages
        rw [hpn, IntKind.wrap_i64]; omega
      have hpu := rPut_ok r5.dk (off := pn * 1024) (cb := old.c) hdat5 (by have := v.dur; have := v.pages; omega) (by have := v.cnt; omega) v.ctr
      simp only [dkV] at hpu
      simp -dsimp (disch := first | with_reducible assumption | omega | (intro h_; cases h_; done) | (simp only [LN] <;> omega) | (simp only [LF]; done) | (repeat (first | with_reducible assumption | apply Ext.refl | apply Ext.app | (apply Ext.set <;> omega) | (refine Ext.trans ?_ (by assumption))))) only [AX, TY, AD, mapPut, entsOf, oneV, builtinV, idsOf, mapId, touchB, Nat.reduceLT, Nat.reduceLeDiff, Nat.reduceEqDiff, Nat.reduceAdd, Nat.reduceMul, Int.reduceBEq, Int.reduceEq, Int.reduceNeg, Int.reduceLT, Int.reduceLE, Int.reduceAdd, Int.reduceSub, Int.reduceMul, Int.reduceToNat, Int.reduceGT, Nat.reduceBEq, Nat.reducePow, Nat.reduceGT, reduceCtorEq, ↓reduceIte, t72, t1, t2, t4, t9, t10, t11, loadN_fact x5, loadN_fact y5, hoff]
      refine hpu.mono ?_
      rintro _ h6 ⟨e6, D1, e9, _, rfl, ⟨p1, c1, q1, d1, rfl, dk, dpt⟩, wo⟩
      have dpt := dpt _ (bp.1.and r.dk.ptr)
      have hwe : WroE S.D S.frames[j] D1 e9 := by
        unfold WroE
        rw [if_pos (by rw [← of1, ← of3]; exact hd)]
        exact ⟨pn * 1024, by rw [← of1, hpn]; omega, by rw [← of2]; exact wo⟩
      have hdl := wo.len.1
      have g06 := e6 _ _ g05
      have g16 := e6 _ _ g15
      have x6 := e6 _ _ x5
      have le6 := e6.le
      have eh6 := eh5.trans e6
      by_cases he : e9 = 0
      · subst he
        have hfl' : D1.failed = false := by
          rcases wo.cur with z | z
          · exact z.2.2.1
          · exact absurd z.1 (by decide)
        have hxl := lt_of_some x6
        obtain ⟨h7, hh7, e67, z7, l7⟩ : ∃ h7, h6 ++ [O.cells [V.slice p1 D1.dur.length c1, V.slice q1 D1.pend.length d1, V.int .i64 D1.ctr, V.bool D1.failed] .rw] = h7 ∧ Ext h6 h7 ∧ h7[h6.length]? = some (O.cells [V.slice p1 D1.dur.length c1, V.slice q1 D1.pend.length d1, V.int .i64 D1.ctr, V.bool D1.failed] .rw) ∧ h7.length = h6.length + 1 := ⟨_, rfl, (by (repeat (first | assumption | apply Ext.refl | apply Ext.app | (apply Ext.set <;> omega) | exact Ext.trans (by assumption) (by assumption) | (refine Ext.trans ?_ (by assumption))))), snoc_last _ rfl, by simp⟩
        have x7 := e67 _ _ x6
        have hx7l := lt_of_some x7
        have e8 : Ext h (h7.set h4.length (O.cells [.slice p1 D1.dur.length c1, .slice q1 D1.pend.length d1, .int .i64 D1.ctr, .bool D1.failed, .int .i64 S.pages, .slice fp' S.frames.length fc', .int .i64 hand, .int .i64 S.reads] .rw)) := Ext.set (eh6.trans e67) (by omega) _
        have dk8 : RDk (h7.set h4.length (O.cells [.slice p1 D1.dur.length c1, .slice q1 D1.pend.length d1, .int .i64 D1.ctr, .bool D1.failed, .int .i64 S.pages, .slice fp' S.frames.length fc', .int .i64 hand, .int .i64 S.reads] .rw)) D1 p1 c1 q1 d1 := (dk.ext e67).keep dpt fun a ha => set_other _ (by rcases ha with ha | ha <;> omega)
        simp -dsimp (disch := first | with_reducible assumption | omega | (intro h_; cases h_; done) | (simp only [LN] <;> omega) | (simp only [LF]; done) | (repeat (first | with_reducible assumption | apply Ext.refl | apply Ext.app | (apply Ext.set <;> omega) | (refine Ext.trans ?_ (by assumption))))) only [AX, TY, AD, mapPut, entsOf, oneV, builtinV, idsOf, mapId, touchB, Nat.reduceLT, Nat.reduceLeDiff, Nat.reduceEqDiff, Nat.reduceAdd, Nat.reduceMul, Int.reduceBEq, Int.reduceEq, Int.reduceNeg, Int.reduceLT, Int.reduceLE, Int.reduceAdd, Int.reduceSub, Int.reduceMul, Int.reduceToNat, Int.reduceGT, Nat.reduceBEq, Nat.reducePow, Nat.reduceGT, reduceCtorEq, ↓reduceIte, t1, t2, t4, t9, t10, t11, hh7, loadN_fact z7, storeN_fact x7 (by simp)]
        refine hN _ D1 p1 c1 q1 d1 hwe e8 dk8 (.inr hfl') hdl ?_ ?_ (set_same _ hx7l) ?_ (fun k hk => (oo k hk).2) dpt (by rw [List.length_set]; omega) _ ?_ ?_ ?_ ?_ ?_
        · rw [set_other _ (by omega)]; exact e67 _ _ g06
        · rw [set_other _ (by omega)]; exact e67 _ _ g16
        · exact ((gr5.ext e6).ext e67).keep fun k hk => set_other _ (by have := oo k hk; omega)
        all_goals simp -dsimp (disch := first | with_reducible assumption | omega | (intro h_; cases h_; done) | (simp only [LN] <;> omega) | (simp only [LF]; done) | (repeat (first | with_reducible assumption | apply Ext.refl | apply Ext.app | (apply Ext.set <;> omega) | (refine Ext.trans ?_ (by assumption))))) only [AX, TY, AD, mapPut, entsOf, oneV, builtinV, idsOf, mapId, touchB, Nat.reduceLT, Nat.reduceLeDiff, Nat.reduceEqDiff, Nat.reduceAdd, Nat.reduceMul, Int.reduceBEq, Int.reduceEq, Int.reduceNeg, Int.reduceLT, Int.reduceLE, Int.reduceAdd, Int.reduceSub, Int.reduceMul, Int.reduceToNat, Int.reduceGT, Nat.reduceBEq, Nat.reducePow, Nat.reduceGT, reduceCtorEq, ↓reduceIte, t1, t2, t4, t9, t10, t11]
      · obtain ⟨h7, hh7, e67, z7, l7⟩ : ∃ h7, h6 ++ [O.cells [V.slice p1 D1.dur.length c1, V.slice q1 D1.pend.length d1, V.int .i64 D1.ctr, V.bool D1.failed] .rw] = h7 ∧ Ext h6 h7 ∧ h7[h6.length]? = some (O.cells [V.slice p1 D1.dur.length c1, V.slice q1 D1.pend.length d1, V.int .i64 D1.ctr, V.bool D1.failed] .rw) ∧ h7.length = h6.length + 1 := ⟨_, rfl, (by (repeat (first | assumption | apply Ext.refl | apply Ext.app | (apply Ext.set <;> omega) | exact Ext.trans (by assumption) (by assumption) | (refine Ext.trans ?_ (by assumption))))), snoc_last _ rfl, by simp⟩
        have g07 := e67 _ _ g06
        have g17 := e67 _ _ g16
        have hl07 := lt_of_some g07
        have hl17 := lt_of_some g17
        have gX : ∀ A : O, (h7.set h.length A)[h.length + 1]? = _ := fun A => (set_other A hne).trans g17
        have ex : ∀ A B : O, Ext h ((h7.set h.length A).set (h.length + 1) B) := fun A B => Ext.set (Ext.set (eh6.trans e67) (Nat.le_refl _) _) (by omega) _
        simp -dsimp (disch := first | with_reducible assumption | omega | (intro h_; cases h_; done) | (simp only [LN] <;> omega) | (simp only [LF]; done) | (repeat (first | with_reducible assumption | apply Ext.refl | apply Ext.app | (apply Ext.set <;> omega) | (refine Ext.trans ?_ (by assumption))))) only [AX, TY, AD, mapPut, entsOf, oneV, builtinV, idsOf, mapId, touchB, Nat.reduceLT, Nat.reduceLeDiff, Nat.reduceEqDiff, Nat.reduceAdd, Nat.reduceMul, Int.reduceBEq, Int.reduceEq, Int.reduceNeg, Int.reduceLT, Int.reduceLE, Int.reduceAdd, Int.reduceSub, Int.reduceMul, Int.reduceToNat, Int.reduceGT, Nat.reduceBEq, Nat.reducePow, Nat.reduceGT, reduceCtorEq, ↓reduceIte, t1, t2, t4, t9, t10, t11, hh7, loadN_fact z7, he, storeN_fact g07 (by simp), storeN_fact (gX _) (by simp)]
        refine hE e9 _ D1 _ he hwe (ex _ _) (set_same _ (by simp only [List.length_set]; exact hl17)) rfl ⟨p1, c1, q1, d1, fp, fc, rfl, ⟨?_, r.frs.ext (ex _ _), fun f hf => (r.dat f hf).ext (ex _ _)⟩, ⟨dpt.imp fun a z => by rcases z with ⟨z, _⟩ | z; exact .inl z; exact .inr (by omega), fun a o z => .inl (bp.2.1 a o z), fun f hf a o z => .inl (bp.2.2 f hf a o z)⟩⟩ _ ?_ ?_ ?_
        · exact (dk.ext e67).keep dpt fun a ha => by rw [set_other _ (by rcases ha with ha | ha <;> omega), set_other _ (by rcases ha with ha | ha <;> omega)]
        all_goals simp -dsimp (disch := first | with_reducible assumption | omega | (intro h_; cases h_; done) | (simp only [LN] <;> omega) | (simp only [LF]; done) | (repeat (first | with_reducible assumption | apply Ext.refl | apply Ext.app | (apply Ext.set <;> omega) | (refine Ext.trans ?_ (by assumption))))) only [AX, TY, AD, mapPut, entsOf, oneV, builtinV, idsOf, mapId, touchB, Nat.reduceLT, Nat.reduceLeDiff, Nat.reduceEqDiff, Nat.reduceAdd, Nat.reduceMul, Int.reduceBEq, Int.reduceEq, Int.reduceNeg, Int.reduceLT, Int.reduceLE, Int.reduceAdd, Int.reduceSub, Int.reduceMul, Int.reduceToNat, Int.reduceGT, Nat.reduceBEq, Nat.reducePow, Nat.reduceGT, reduceCtorEq, ↓reduceIte, t1, t2, t4, t9, t10, t11]
    simp -dsimp (disch := first | with_reducible assumption | omega | (intro h_; cases h_; done) | (simp only [LN] <;> omega) | (simp only [LF]; done) | (repeat (first | with_reducible assumption | apply Ext.refl | apply Ext.app | (apply Ext.set <;> omega) | (refine Ext.trans ?_ (by assumption))))) only [AX, TY, AD, mapPut, entsOf, oneV, builtinV, idsOf, mapId, touchB, Nat.reduceLT, Nat.reduceLeDiff, Nat.reduceEqDiff, Nat.reduceAdd, Nat.reduceMul, Int.reduceBEq, Int.reduceEq, Int.reduceNeg, Int.reduceLT, Int.reduceLE, Int.reduceAdd, Int.reduceSub, Int.reduceMul, Int.reduceToNat, Int.reduceGT, Nat.reduceBEq, Nat.reducePow, Nat.reduceGT, reduceCtorEq, ↓reduceIte]
    refine CUT τ0 _ t1 t2 t4 t9 t10 t11 t72 ?_ ?_
    · intro e9 hw D1 w he hwe eh hw1 hwl hrb τ3 u4 u5 u6
      obtain ⟨wa, wb, wc, wd, we, wf, wg, wh, rfl⟩ : ∃ a b c d e f g i, w = [a, b, c, d, e, f, g, i] := by
        match w, hwl with
        | [a, b, c, d, e, f, g, i], _ => exact ⟨a, b, c, d, e, f, g, i, rfl⟩
      simp -dsimp (disch := first | with_reducible assumption | omega | (intro h_; cases h_; done) | (simp only [LN] <;> omega) | (simp only [LF]; done) | (repeat (first | with_reducible assumption | apply Ext.refl | apply Ext.app | (apply Ext.set <;> omega) | (refine Ext.trans ?_ (by assumption))))) only [AX, TY, AD, mapPut, entsOf, oneV, builtinV, idsOf, mapId, touchB, Nat.reduceLT, Nat.reduceLeDiff, Nat.reduceEqDiff, Nat.reduceAdd, Nat.reduceMul, Int.reduceBEq, Int.reduceEq, Int.reduceNeg, Int.reduceLT, Int.reduceLE, Int.reduceAdd, Int.reduceSub, Int.reduceMul, Int.reduceToNat, Int.reduceGT, Nat.reduceBEq, Nat.reducePow, Nat.reduceGT, reduceCtorEq, ↓reduceIte, u4, u5, u6, loadN_fact hw1]
      exact ⟨eh, ⟨D1, S.pages, S.frames, S.hand, S.reads⟩, e9, [], ⟨_, none, some 0, rfl, hrb, .nil0 _ _ _, by simp⟩, .inr (.inr ⟨n, rfl, by omega, hfi, _, _, .inr ⟨j, hand, cl, D1, e9, ch, hj, hwe, .inl ⟨he, rfl, rfl, rfl⟩⟩, .inl ⟨rfl, he, rfl, rfl⟩⟩)⟩
    clear CUT hC hR13 t1 t2 t4 t9 t10 t11 t72
    intro hw D1 p1 c1 q1 d1 hwe eh dk hdf hdl gw0 gw1 xw grw oow dpt hlw3 τ3 t1 t2 t4 t9 t10
    simp only [bpV, zP] at gw0 gw1
    have hoff : IntKind.i64.wrap ((n : Int) * 1024) = ((n * 1024 : Nat) : Int) := by
      have := v.pages
      rw [IntKind.wrap_i64]; omega
    have hrd := rRead_ok dk (n * 1024) 1024 (by have := v.dur; rw [hdl]; omega)
    simp only [dkV] at hrd
    have hlw : h.length < hw.length ∧ h.length + 1 < hw.length ∧ h4.length < hw.length := ⟨lt_of_some gw0, lt_of_some gw1, lt_of_some xw⟩
    simp -dsimp (disch := first | with_reducible assumption | omega | (intro h_; cases h_; done) | (simp only [LN] <;> omega) | (simp only [LF]; done) | (repeat (first | with_reducible assumption | apply Ext.refl | apply Ext.app | (apply Ext.set <;> omega) | (refine Ext.trans ?_ (by assumption))))) only [AX, TY, AD, mapPut, entsOf, oneV, builtinV, idsOf, mapId, touchB, Nat.reduceLT, Nat.reduceLeDiff, Nat.reduceEqDiff, Nat.reduceAdd, Nat.reduceMul, Int.reduceBEq, Int.reduceEq, Int.reduceNeg, Int.reduceLT, Int.reduceLE, Int.reduceAdd, Int.reduceSub, Int.reduceMul, Int.reduceToNat, Int.reduceGT, Nat.reduceBEq, Nat.reducePow, Nat.reduceGT, reduceCtorEq, ↓reduceIte, t1, t2, t4, t9, t10, loadN_fact xw, hoff]
    refine hrd.mono ?_
    rintro _ h9 ⟨e9, ⟨hf9, rfl⟩ | ⟨hf9, p9, c9, rfl, sl9, hp9⟩⟩
    · have hD : D1 = S.D := by
        rcases hdf with z | z
        · exact z
        · rw [hf9] at z; cases z
      have gw09 := e9 _ _ gw0
      have gw19 := e9 _ _ gw1
      have hl9 := lt_of_some gw19
      have ex : ∀ A : O, Ext h (h9.set (h.length + 1) A) := fun A => Ext.set (eh.trans e9) (by omega) _
      simp -dsimp (disch := first | with_reducible assumption | omega | (intro h_; cases h_; done) | (simp only [LN] <;> omega) | (simp only [LF]; done) | (repeat (first | with_reducible assumption | apply Ext.refl | apply Ext.app | (apply Ext.set <;> omega) | (refine Ext.trans ?_ (by assumption))))) only [AX, TY, AD, mapPut, entsOf, oneV, builtinV, idsOf, mapId, touchB, Nat.reduceLT, Nat.reduceLeDiff, Nat.reduceEqDiff, Nat.reduceAdd, Nat.reduceMul, Int.reduceBEq, Int.reduceEq, Int.reduceNeg, Int.reduceLT, Int.reduceLE, Int.reduceAdd, Int.reduceSub, Int.reduceMul, Int.reduceToNat, Int.reduceGT, Nat.reduceBEq, Nat.reducePow, Nat.reduceGT, reduceCtorEq, ↓reduceIte, t1, t2, t4, t9, t10, loadN_fact gw09, storeN_fact gw19 (by simp)]
      refine ⟨ex _, S, 11, [], ⟨_, none, some 0, rfl, ⟨p, c, q, d, fp, fc, rfl, r.ext (ex _), bp.imp fun _ z => .inl z⟩, .nil0 _ _ _, by simp⟩, .inr (.inr ⟨n, rfl, by omega, hfi, _, _, .inr ⟨j, hand, cl, D1, 0, ch, hj, hwe, .inr (.inl ⟨rfl, hf9, by rw [hD], rfl, rfl⟩)⟩, .inl ⟨rfl, by decide, rfl, rfl⟩⟩)⟩
    · have xw9 := e9 _ _ xw
      have gw19 := e9 _ _ gw1
      have hxl9 := lt_of_some xw9
      have hl19 := lt_of_some gw19
      have gr9 := grw.ext e9
      have hd1024 : (((cur D1).drop (n * 1024)).take 1024).length = 1024 := by
        have h1 : (cur D1).length = D1.dur.length := applyAll_len dk.inr
        have := v.dur
        rw [List.length_take, List.length_drop, h1, hdl]; omega
      obtain ⟨h10, hst, gr10, hl10, hk10, hb10⟩ := gr9.store0 hjc (⟨n, p9, c9, ((cur D1).drop (n * 1024)).take 1024, 1, false, true⟩ : Fr) rfl rfl
      simp only [Fr.enc, hd1024] at hst
      have x10 := (hk10 h4.length (fun z => by have := oow _ z; omega)).trans xw9
      have g10 := (hk10 (h.length + 1) (fun z => by have := (oo _ z).1; omega)).trans gw19
      have hxl10 := lt_of_some x10
      have hwr : IntKind.i64.wrap (S.reads + 1) = S.reads + 1 := by have := v.reads; rw [IntKind.wrap_i64]; omega
      have gX : ∀ A : O, (h10.set h4.length A)[h.length + 1]? = _ := fun A => (set_other A (by omega)).trans g10
      have hl110 := lt_of_some g10
      have eh10 : Ext h h10 := (eh.trans e9).below (Nat.le_refl _) fun i hi => hb10 i (by omega)
      have ex : ∀ A B : O, Ext h ((h10.set h4.length A).set (h.length + 1) B) := fun A B => Ext.set (Ext.set eh10 (by omega) _) (by omega) _
      simp -dsimp (disch := first | with_reducible assumption | omega | (intro h_; cases h_; done) | (simp only [LN] <;> omega) | (simp only [LF]; done) | (repeat (first | with_reducible assumption | apply Ext.refl | apply Ext.app | (apply Ext.set <;> omega) | (refine Ext.trans ?_ (by assumption))))) only [AX, TY, AD, mapPut, entsOf, oneV, builtinV, idsOf, mapId, touchB, Nat.reduceLT, Nat.reduceLeDiff, Nat.reduceEqDiff, Nat.reduceAdd, Nat.reduceMul, Int.reduceBEq, Int.reduceEq, Int.reduceNeg, Int.reduceLT, Int.reduceLE, Int.reduceAdd, Int.reduceSub, Int.reduceMul, Int.reduceToNat, Int.reduceGT, Nat.reduceBEq, Nat.reducePow, Nat.reduceGT, reduceCtorEq, ↓reduceIte, t1, t2, t4, t9, t10, loadN_fact xw9, hji, hst, loadN_fact x10, hwr, storeN_fact x10 (by simp), storeN_fact (gX _) (by simp)]
      have hnew : (clrF S.frames cl).set j (⟨n, p9, c9, ((cur D1).drop (n * 1024)).take 1024, 1, false, true⟩ : Fr) = (clrF S.frames cl).set j ⟨n, p9, c9, ((applyAll D1.dur D1.pend).drop (n * 1024)).take 1024, 1, false, true⟩ := rfl
      have far : ∀ (A B : O) (a : Nat), ((P a ∧ a < h.length) ∨ h5.length ≤ a) → ((h10.set h4.length A).set (h.length + 1) B)[a]? = h9[a]? := fun A B a ha => by
        rw [set_other _ (by omega), set_other _ (by omega)]
        exact hk10 a fun z => by have := oo _ z; omega
      have hp9' : ∀ a o, p9 = some (a, o) → (P a ∧ a < h.length) ∨ h5.length ≤ a := fun a o z => by
        rcases hp9 a o z with ⟨o2, w⟩ | w
        · exact dpt.1 a o2 w
        · exact .inr (by omega)
      have lift : ∀ a, ((P a ∧ a < h.length) ∨ h5.length ≤ a) → P a ∨ h.length ≤ a := fun a z => by
        rcases z with ⟨z, _⟩ | z
        · exact .inl z
        · exact .inr (by omega)
      refine ⟨ex _ _, ⟨D1, S.pages, (clrF S.frames cl).set j ⟨n, p9, c9, ((cur D1).drop (n * 1024)).take 1024, 1, false, true⟩, hand, S.reads + 1⟩, 0, ((cur D1).drop (n * 1024)).take 1024, ⟨_, p9, c9, by rw [hd1024], ⟨p1, c1, q1, d1, fp', fc', by simp only [bpV, List.length_set, clrF_len], ⟨(dk.ext e9).keep dpt fun a ha => far _ _ a ha, (gr10.keep fun k hk => by have := oo k hk; rw [set_other _ (by omega), set_other _ (by omega)]).sl, fun f hf => ?_⟩, ⟨dpt.imp fun a z => lift a z, fun a o z => .inr (by have := oo a (gr10.at z); omega), fun f hf a o z => ?_⟩⟩, sl9.keep fun a o z => far _ _ a (hp9' a o z), fun a o z => lift a (hp9' a o z)⟩, .inr (.inr ⟨n, rfl, by omega, hfi, _, _, .inr ⟨j, hand, cl, D1, 0, ch, hj, hwe, .inr (.inr ⟨rfl, hf9, p9, c9, _, rfl, rfl, rfl, rfl⟩)⟩, .inr ⟨p9, c9, rfl, rfl⟩⟩)⟩
      · rcases List.mem_or_eq_of_mem_set hf with hf | rfl
        · obtain ⟨g', hg', rfl | rfl⟩ := clrF_mem hf
          · exact (r.dat _ hg').ext (ex _ _)
          · exact (r.dat g' hg').ext (ex _ _)
        · exact sl9.keep fun a o z => far _ _ a (hp9' a o z)
      · rcases List.mem_or_eq_of_mem_set hf with hf | rfl
        · obtain ⟨g', hg', rfl | rfl⟩ := clrF_mem hf
          · exact .inl (bp.2.2 _ hg' a o z)
          · exact .inl (bp.2.2 _ hg' a o z)
        · exact lift a (hp9' a o z)
end Go.Proofs.YtmjfhckioaempaaA
namespace Go.Proofs.YtmjfhckioaempaaA
open Go Go.Proofs Go.RowKit
set_option linter.unusedVariables false
set_option linter.unusedSimpArgs false
set_option maxRecDepth 10000
set_option maxHeartbeats 4000000
def ResU (P : Nat → Prop) (h' : Heap) (r : V) (M' : Bp) (e : Int) : Prop := ∃ w, r = .tuple [w, .int .i64 e] ∧ RBF P h' w M'
theorem rUnpin_ok {h : Heap} {S : Bp} {N : Nat} {p : Option (Nat × Nat)} {c : Option Nat} {q : Option (Nat × Nat)} {d : Option Nat} {fp : Option (Nat × Nat)} {fc : Option Nat} (r : RBp h S p c q d fp fc) (v : PIn S N) {P : Nat → Prop} (bp : BpPtr S p q fp P) (page : Int) :
    WR (callE Try.prog hk 53 [.agg (bpV S p c q d fp fc), .int .i64 page] h) fun r h' => Ext h h' ∧ ∃ M' e, ResU (fun a => P a ∨ h.length ≤ a) h' r M' e ∧ UnR S page M' e := by
  have hfl := v.fl
  have hbig := v.big
  refine WR.call (hH := rfl) Try.func53 rfl (n := 35) rfl rfl (by simp) ?_
  obtain ⟨g, hg, g0, g1, e1, hgl⟩ : ∃ g, h ++ [O.cells (bpV S p c q d fp fc) .rw] ++ [O.cells zP .rw] = g ∧ g[h.length]? = some (O.cells (bpV S p c q d fp fc) .rw) ∧ g[h.length + 1]? = some (O.cells zP .rw) ∧ Ext h g ∧ g.length = h.length + 2 := ⟨_, rfl, by rw [snoc_old _ (by simp)]; exact snoc_last _ rfl, snoc_last _ (by simp), (by (repeat (first | assumption | apply Ext.refl | apply Ext.app | (apply Ext.set <;> omega) | exact Ext.trans (by assumption) (by assumption) | (refine Ext.trans ?_ (by assumption))))), by simp⟩
  have hne : ¬ h.length + 1 = h.length := by omega
  have hl1 := lt_of_some g1
  have r1 := r.ext e1
  have hfd := rFind_ok (v := .agg (bpV S p c q d fp fc)) (S := S) (h := g) ⟨p, c, q, d, fp, fc, rfl, r1⟩ page
  simp only [bpV, zP] at hg g0 g1 hfd
  have back : ∀ (hh : Heap), Ext g hh → Ext h (hh.set (h.length + 1) (O.cells (bpV S p c q d fp fc) .rw)) ∧ RBF (fun a => P a ∨ h.length ≤ a) (hh.set (h.length + 1) (O.cells (bpV S p c q d fp fc) .rw)) (.agg (bpV S p c q d fp fc)) S := fun hh e => by
    have : Ext h (hh.set (h.length + 1) (O.cells (bpV S p c q d fp fc) .rw)) := Ext.set (e1.trans e) (by omega) _
    exact ⟨this, p, c, q, d, fp, fc, rfl, r.ext this, bp.imp fun _ z => .inl z⟩
  simp -dsimp (disch := first | with_reducible assumption | omega | (intro h_; cases h_; done) | (simp only [LN] <;> omega) | (simp only [LF]; done) | (repeat (first | with_reducible assumption | apply Ext.refl | apply Ext.app | (apply Ext.set <;> omega) | (refine Ext.trans ?_ (by assumption))))) only [AX, TY, AD, mapPut, entsOf, oneV, builtinV, idsOf, mapId, touchB, Nat.reduceLT, Nat.reduceLeDiff, Nat.reduceEqDiff, Nat.reduceAdd, Nat.reduceMul, Int.reduceBEq, Int.reduceEq, Int.reduceNeg, Int.reduceLT, Int.reduceLE, Int.reduceAdd, Int.reduceSub, Int.reduceMul, Int.reduceToNat, Int.reduceGT, Nat.reduceBEq, Nat.reducePow, Nat.reduceGT, reduceCtorEq, ↓reduceIte, bpV, hg, loadN_fact g0]
  refine hfd.mono ?_
  rintro _ h3 ⟨e3, rfl⟩
  have g03 := e3 _ _ g0
  have g13 := e3 _ _ g1
  have r3 := r1.ext e3
  have hl13 := lt_of_some g13
  have hb := back h3 e3
  cases hfi : findF page S.frames with
  | none =>
    have hpf : pinF page S.frames = none := by unfold pinF; rw [hfi]
    simp -dsimp (disch := first | with_reducible assumption | omega | (intro h_; cases h_; done) | (simp only [LN] <;> omega) | (simp only [LF]; done) | (repeat (first | with_reducible assumption | apply Ext.refl | apply Ext.app | (apply Ext.set <;> omega) | (refine Ext.trans ?_ (by assumption))))) only [AX, TY, AD, mapPut, entsOf, oneV, builtinV, idsOf, mapId, touchB, Nat.reduceLT, Nat.reduceLeDiff, Nat.reduceEqDiff, Nat.reduceAdd, Nat.reduceMul, Int.reduceBEq, Int.reduceEq, Int.reduceNeg, Int.reduceLT, Int.reduceLE, Int.reduceAdd, Int.reduceSub, Int.reduceMul, Int.reduceToNat, Int.reduceGT, Nat.reduceBEq, Nat.reducePow, Nat.reduceGT, reduceCtorEq, ↓reduceIte, idxI, loadN_fact g03, storeN_fact g13 (by simp)]
    exact ⟨hb.1, S, 9, ⟨_, rfl, hb.2⟩, .inl ⟨hpf, rfl, rfl⟩⟩
  | some i =>
    obtain ⟨hi, hp0, hp1, _⟩ := findF_some hfi
    have hn0 : ¬ (i : Int) < 0 := by omega
    have hii : (i : Int) < (S.frames.length : Int) := by omega
    have hv := v.fr i hi
    have hfn0 := r.frs.nil'
    have hlp := r3.frs.load (.refl _) hi (o := 2) (m := 1) (by decide)
    simp only [Fr.enc, List.take, List.drop] at hlp
    have hpf := pinF_find hfi hi
    by_cases hz : (S.frames[i]).pins = 0
    · rw [if_neg (by omega)] at hpf
      simp -dsimp (disch := first | with_reducible assumption | omega | (intro h_; cases h_; done) | (simp only [LN] <;> omega) | (simp only [LF]; done) | (repeat (first | with_reducible assumption | apply Ext.refl | apply Ext.app | (apply Ext.set <;> omega) | (refine Ext.trans ?_ (by assumption))))) only [AX, TY, AD, mapPut, entsOf, oneV, builtinV, idsOf, mapId, touchB, Nat.reduceLT, Nat.reduceLeDiff, Nat.reduceEqDiff, Nat.reduceAdd, Nat.reduceMul, Int.reduceBEq, Int.reduceEq, Int.reduceNeg, Int.reduceLT, Int.reduceLE, Int.reduceAdd, Int.reduceSub, Int.reduceMul, Int.reduceToNat, Int.reduceGT, Nat.reduceBEq, Nat.reducePow, Nat.reduceGT, reduceCtorEq, ↓reduceIte, idxI, hn0, hii, loadN_fact g03, hlp, eq_true hz, storeN_fact g13 (by simp)]
      exact ⟨hb.1, S, 9, ⟨_, rfl, hb.2⟩, .inl ⟨hpf, rfl, rfl⟩⟩
    have hpos : 0 < (S.frames[i]).pins := by have := hv.1; omega
    rw [if_pos hpos] at hpf
    have hcp := rcopied_ok r3 hfl
    simp only [bpV] at hcp
    simp -dsimp (disch := first | with_reducible assumption | omega | (intro h_; cases h_; done) | (simp only [LN] <;> omega) | (simp only [LF]; done) | (repeat (first | with_reducible assumption | apply Ext.refl | apply Ext.app | (apply Ext.set <;> omega) | (refine Ext.trans ?_ (by assumption))))) only [AX, TY, AD, mapPut, entsOf, oneV, builtinV, idsOf, mapId, touchB, Nat.reduceLT, Nat.reduceLeDiff, Nat.reduceEqDiff, Nat.reduceAdd, Nat.reduceMul, Int.reduceBEq, Int.reduceEq, Int.reduceNeg, Int.reduceLT, Int.reduceLE, Int.reduceAdd, Int.reduceSub, Int.reduceMul, Int.reduceToNat, Int.reduceGT, Nat.reduceBEq, Nat.reducePow, Nat.reduceGT, reduceCtorEq, ↓reduceIte, idxI, hn0, hii, loadN_fact g03, hlp, hz]
    refine hcp.mono ?_
    rintro _ h4 ⟨e4, fp', fc', o', rfl, gr⟩
    obtain ⟨h5, hh5, x5, e5, hl5⟩ : ∃ h5, h4 ++ [O.cells [V.slice p S.D.dur.length c, V.slice q S.D.pend.length d, V.int .i64 S.D.ctr, V.bool S.D.failed, V.int .i64 S.pages, V.slice fp' S.frames.length fc', V.int .i64 S.hand, V.int .i64 S.reads] .rw] = h5 ∧ h5[h4.length]? = some (O.cells [V.slice p S.D.dur.length c, V.slice q S.D.pend.length d, V.int .i64 S.D.ctr, V.bool S.D.failed, V.int .i64 S.pages, V.slice fp' S.frames.length fc', V.int .i64 S.hand, V.int .i64 S.reads] .rw) ∧ Ext h4 h5 ∧ h5.length = h4.length + 1 := ⟨_, rfl, snoc_last _ rfl, (by (repeat (first | assumption | apply Ext.refl | apply Ext.app | (apply Ext.set <;> omega) | exact Ext.trans (by assumption) (by assumption) | (refine Ext.trans ?_ (by assumption))))), by simp⟩
    have gr5 := gr.ext e5
    have hfn : fp' = none → S.frames.length = 0 := gr.sl.nil'
    have oo : ∀ j, o' = some j → h3.length ≤ j ∧ j < h4.length := fun j hj => ⟨gr.base j hj, gr.lt hj⟩
    have l34 := e4.le
    have l3 := e3.le
    have b1 : (!(h.length + 1) == sid fp') = true := by
      cases fp' with
      | none => have := hfn rfl; omega
      | some z =>
        have := oo z.1 (gr.at rfl)
        show (!(h.length + 1) == z.1) = true
        simp; omega
    have b2 : (!(h.length + 1) == h4.length) = true := by simp; omega
    have b3 : (!h4.length == sid fp') = true := by
      cases fp' with
      | none => have := hfn rfl; omega
      | some z =>
        have := oo z.1 (gr.at rfl)
        show (!h4.length == z.1) = true
        simp; omega
    have hl2 := gr5.sl.load (.refl _) hi (o := 2) (m := 1) (by decide)
    have hw : IntKind.i64.wrap ((S.frames[i]).pins - 1) = (S.frames[i]).pins - 1 := by have := hv.2.1; have := hv.1; rw [IntKind.wrap_i64]; omega
    obtain ⟨h7, hst7, gr7, hl7, hk7, hb7⟩ := gr5.store hi (o := 2) (vs := [.int .i64 ((S.frames[i]).pins - 1)]) (by simp) rfl { S.frames[i] with pins := (S.frames[i]).pins - 1 } rfl
    have x7 : h7[h4.length]? = _ := (hk7 _ (fun z => by have := oo _ z; omega)).trans x5
    have y7 : h7[h.length + 1]? = _ := (hk7 _ (fun z => by have := oo _ z; omega)).trans (e5 _ _ (e4 _ _ g13))
    simp only [Fr.enc, List.take, List.drop] at hl2
    have e7 : Ext h3 h7 := Ext.of_keep fun j hj => by rw [hb7 j hj, e5.same (by omega), e4.same hj]
    have eh : Ext h h7 := (e1.trans e3).trans e7
    have ly := lt_of_some y7
    have ex : ∀ A : O, Ext h (h7.set (h.length + 1) A) := fun A => Ext.set eh (by omega) _
    simp -dsimp (disch := first | with_reducible assumption | omega | (intro h_; cases h_; done) | (simp only [LN] <;> omega) | (simp only [LF]; done) | (repeat (first | with_reducible assumption | apply Ext.refl | apply Ext.app | (apply Ext.set <;> omega) | (refine Ext.trans ?_ (by assumption))))) only [AX, TY, AD, mapPut, entsOf, oneV, builtinV, idsOf, mapId, touchB, Nat.reduceLT, Nat.reduceLeDiff, Nat.reduceEqDiff, Nat.reduceAdd, Nat.reduceMul, Int.reduceBEq, Int.reduceEq, Int.reduceNeg, Int.reduceLT, Int.reduceLE, Int.reduceAdd, Int.reduceSub, Int.reduceMul, Int.reduceToNat, Int.reduceGT, Nat.reduceBEq, Nat.reducePow, Nat.reduceGT, reduceCtorEq, ↓reduceIte, hh5, loadN_fact x5, hii, hl2, hw, hst7, loadN_fact x7, storeN_fact y7 (by simp)]
    refine ⟨ex _, ⟨S.D, S.pages, S.frames.set i { S.frames[i] with pins := (S.frames[i]).pins - 1 }, S.hand, S.reads⟩, 0, ⟨_, rfl, ⟨p, c, q, d, fp', fc', by simp only [bpV, List.length_set], ?_, ⟨bp.1.imp fun _ z => .inl z, fun a o z => .inr (by have := oo a (gr.at z); omega), fun f hf a o z => .inl ?_⟩⟩⟩, .inr ⟨i, hi, hpf, rfl, rfl⟩⟩
    rotate_left
    · rcases List.mem_or_eq_of_mem_set hf with hf | rfl
      · exact bp.2.2 f hf a o z
      · exact bp.2.2 _ (List.getElem_mem hi) a o z
    refine ⟨r.dk.ext (ex _), (gr7.keep fun j hj => set_other _ (by have := oo j hj; omega)).sl, fun f hf => ?_⟩
    rcases List.mem_or_eq_of_mem_set hf with hf | rfl
    · exact (r.dat f hf).ext (ex _)
    · exact (r.dat (S.frames[i]) (List.getElem_mem hi)).ext (ex _)
theorem rUpdate_ok {h : Heap} {S : Bp} {N : Nat} {p : Option (Nat × Nat)} {c : Option Nat} {q : Option (Nat × Nat)} {d : Option Nat} {fp : Option (Nat × Nat)} {fc : Option Nat} (r : RBp h S p c q d fp fc) (v : PIn S N) {P : Nat → Prop} (bp : BpPtr S p q fp P) (page : Int) {pb : Option (Nat × Nat)} {cb : Option Nat} {data : List Int} (hb : Sl h pb 1 eb data) (hB : data.length ≤ 100000) :
    WR (callE Try.prog hk 52 [.agg (bpV S p c q d fp fc), .int .i64 page, .slice pb data.length cb] h) fun r h' => Ext h h' ∧ ∃ M' e, ResU (fun a => P a ∨ h.length ≤ a) h' r M' e ∧ UpR S page data M' e := by
  have hfl := v.fl
  have hbig := v.big
  refine WR.call (hH := rfl) Try.func52 rfl (n := 45) rfl rfl (by simp) ?_
  obtain ⟨g, hg, g0, g1, e1, hgl⟩ : ∃ g, h ++ [O.cells (bpV S p c q d fp fc) .rw] ++ [O.cells zP .rw] = g ∧ g[h.length]? = some (O.cells (bpV S p c q d fp fc) .rw) ∧ g[h.length + 1]? = some (O.cells zP .rw) ∧ Ext h g ∧ g.length = h.length + 2 := ⟨_, rfl, by rw [snoc_old _ (by simp)]; exact snoc_last _ rfl, snoc_last _ (by simp), (by (repeat (first | assumption | apply Ext.refl | apply Ext.app | (apply Ext.set <;> omega) | exact Ext.trans (by assumption) (by assumption) | (refine Ext.trans ?_ (by assumption))))), by simp⟩
  have hne : ¬ h.length + 1 = h.length := by omega
  have hl1 := lt_of_some g1
  have r1 := r.ext e1
  have hfd := rFind_ok (v := .agg (bpV S p c q d fp fc)) (S := S) (h := g) ⟨p, c, q, d, fp, fc, rfl, r1⟩ page
  simp only [bpV, zP] at hg g0 g1 hfd
  have back : ∀ (hh : Heap), Ext g hh → Ext h (hh.set (h.length + 1) (O.cells (bpV S p c q d fp fc) .rw)) ∧ RBF (fun a => P a ∨ h.length ≤ a) (hh.set (h.length + 1) (O.cells (bpV S p c q d fp fc) .rw)) (.agg (bpV S p c q d fp fc)) S := fun hh e => by
    have : Ext h (hh.set (h.length + 1) (O.cells (bpV S p c q d fp fc) .rw)) := Ext.set (e1.trans e) (by omega) _
    exact ⟨this, p, c, q, d, fp, fc, rfl, r.ext this, bp.imp fun _ z => .inl z⟩
  by_cases h0 : (data.length : Int) = 1024
  rotate_left
  · have hbk := back g (.refl _)
    simp -dsimp (disch := first | with_reducible assumption | omega | (intro h_; cases h_; done) | (simp only [LN] <;> omega) | (simp only [LF]; done) | (repeat (first | with_reducible assumption | apply Ext.refl | apply Ext.app | (apply Ext.set <;> omega) | (refine Ext.trans ?_ (by assumption))))) only [AX, TY, AD, mapPut, entsOf, oneV, builtinV, idsOf, mapId, touchB, Nat.reduceLT, Nat.reduceLeDiff, Nat.reduceEqDiff, Nat.reduceAdd, Nat.reduceMul, Int.reduceBEq, Int.reduceEq, Int.reduceNeg, Int.reduceLT, Int.reduceLE, Int.reduceAdd, Int.reduceSub, Int.reduceMul, Int.reduceToNat, Int.reduceGT, Nat.reduceBEq, Nat.reducePow, Nat.reduceGT, reduceCtorEq, ↓reduceIte, bpV, hg, h0, loadN_fact g0, storeN_fact g1 (by simp)]
    exact ⟨hbk.1, S, 1, ⟨_, rfl, hbk.2⟩, .inl ⟨by omega, rfl, rfl⟩⟩
  have h0' : data.length = 1024 := by omega
  simp -dsimp (disch := first | with_reducible assumption | omega | (intro h_; cases h_; done) | (simp only [LN] <;> omega) | (simp only [LF]; done) | (repeat (first | with_reducible assumption | apply Ext.refl | apply Ext.app | (apply Ext.set <;> omega) | (refine Ext.trans ?_ (by assumption))))) only [AX, TY, AD, mapPut, entsOf, oneV, builtinV, idsOf, mapId, touchB, Nat.reduceLT, Nat.reduceLeDiff, Nat.reduceEqDiff, Nat.reduceAdd, Nat.reduceMul, Int.reduceBEq, Int.reduceEq, Int.reduceNeg, Int.reduceLT, Int.reduceLE, Int.reduceAdd, Int.reduceSub, Int.reduceMul, Int.reduceToNat, Int.reduceGT, Nat.reduceBEq, Nat.reducePow, Nat.reduceGT, reduceCtorEq, ↓reduceIte, bpV, hg, loadN_fact g0, eq_true h0]
  refine hfd.mono ?_
  rintro _ h3 ⟨e3, rfl⟩
  have g03 := e3 _ _ g0
  have g13 := e3 _ _ g1
  have r3 := r1.ext e3
  have hl13 := lt_of_some g13
  have hbk := back h3 e3
  cases hfi : findF page S.frames with
  | none =>
    have hpf : pinF page S.frames = none := by unfold pinF; rw [hfi]
    simp -dsimp (disch := first | with_reducible assumption | omega | (intro h_; cases h_; done) | (simp only [LN] <;> omega) | (simp only [LF]; done) | (repeat (first | with_reducible assumption | apply Ext.refl | apply Ext.app | (apply Ext.set <;> omega) | (refine Ext.trans ?_ (by assumption))))) only [AX, TY, AD, mapPut, entsOf, oneV, builtinV, idsOf, mapId, touchB, Nat.reduceLT, Nat.reduceLeDiff, Nat.reduceEqDiff, Nat.reduceAdd, Nat.reduceMul, Int.reduceBEq, Int.reduceEq, Int.reduceNeg, Int.reduceLT, Int.reduceLE, Int.reduceAdd, Int.reduceSub, Int.reduceMul, Int.reduceToNat, Int.reduceGT, Nat.reduceBEq, Nat.reducePow, Nat.reduceGT, reduceCtorEq, ↓reduceIte, idxI, loadN_fact g03, storeN_fact g13 (by simp)]
    exact ⟨hbk.1, S, 9, ⟨_, rfl, hbk.2⟩, .inr (.inl ⟨h0', hpf, rfl, rfl⟩)⟩
  | some i =>
    obtain ⟨hi, hp0, hp1, _⟩ := findF_some hfi
    have hn0 : ¬ (i : Int) < 0 := by omega
    have hii : (i : Int) < (S.frames.length : Int) := by omega
    have hv := v.fr i hi
    have hfn0 := r.frs.nil'
    have hlp := r3.frs.load (.refl _) hi (o := 2) (m := 1) (by decide)
    simp only [Fr.enc, List.take, List.drop] at hlp
    have hpf := pinF_find hfi hi
    by_cases hz : (S.frames[i]).pins = 0
    · rw [if_neg (by omega)] at hpf
      simp -dsimp (disch := first | with_reducible assumption | omega | (intro h_; cases h_; done) | (simp only [LN] <;> omega) | (simp only [LF]; done) | (repeat (first | with_reducible assumption | apply Ext.refl | apply Ext.app | (apply Ext.set <;> omega) | (refine Ext.trans ?_ (by assumption))))) only [AX, TY, AD, mapPut, entsOf, oneV, builtinV, idsOf, mapId, touchB, Nat.reduceLT, Nat.reduceLeDiff, Nat.reduceEqDiff, Nat.reduceAdd, Nat.reduceMul, Int.reduceBEq, Int.reduceEq, Int.reduceNeg, Int.reduceLT, Int.reduceLE, Int.reduceAdd, Int.reduceSub, Int.reduceMul, Int.reduceToNat, Int.reduceGT, Nat.reduceBEq, Nat.reducePow, Nat.reduceGT, reduceCtorEq, ↓reduceIte, idxI, hn0, hii, loadN_fact g03, hlp, eq_true hz, storeN_fact g13 (by simp)]
      exact ⟨hbk.1, S, 9, ⟨_, rfl, hbk.2⟩, .inr (.inl ⟨h0', hpf, rfl, rfl⟩)⟩
    have hpos : 0 < (S.frames[i]).pins := by have := hv.1; omega
    rw [if_pos hpos] at hpf
    have hcp := rcopied_ok r3 hfl
    simp only [bpV] at hcp
    simp -dsimp (disch := first | with_reducible assumption | omega | (intro h_; cases h_; done) | (simp only [LN] <;> omega) | (simp only [LF]; done) | (repeat (first | with_reducible assumption | apply Ext.refl | apply Ext.app | (apply Ext.set <;> omega) | (refine Ext.trans ?_ (by assumption))))) only [AX, TY, AD, mapPut, entsOf, oneV, builtinV, idsOf, mapId, touchB, Nat.reduceLT, Nat.reduceLeDiff, Nat.reduceEqDiff, Nat.reduceAdd, Nat.reduceMul, Int.reduceBEq, Int.reduceEq, Int.reduceNeg, Int.reduceLT, Int.reduceLE, Int.reduceAdd, Int.reduceSub, Int.reduceMul, Int.reduceToNat, Int.reduceGT, Nat.reduceBEq, Nat.reducePow, Nat.reduceGT, reduceCtorEq, ↓reduceIte, idxI, hn0, hii, loadN_fact g03, hlp, hz]
    refine hcp.mono ?_
    rintro _ h4 ⟨e4, fp', fc', o', rfl, gr⟩
    obtain ⟨h5, hh5, x5, e5, hl5⟩ : ∃ h5, h4 ++ [O.cells [V.slice p S.D.dur.length c, V.slice q S.D.pend.length d, V.int .i64 S.D.ctr, V.bool S.D.failed, V.int .i64 S.pages, V.slice fp' S.frames.length fc', V.int .i64 S.hand, V.int .i64 S.reads] .rw] = h5 ∧ h5[h4.length]? = some (O.cells [V.slice p S.D.dur.length c, V.slice q S.D.pend.length d, V.int .i64 S.D.ctr, V.bool S.D.failed, V.int .i64 S.pages, V.slice fp' S.frames.length fc', V.int .i64 S.hand, V.int .i64 S.reads] .rw) ∧ Ext h4 h5 ∧ h5.length = h4.length + 1 := ⟨_, rfl, snoc_last _ rfl, (by (repeat (first | assumption | apply Ext.refl | apply Ext.app | (apply Ext.set <;> omega) | exact Ext.trans (by assumption) (by assumption) | (refine Ext.trans ?_ (by assumption))))), by simp⟩
    have gr5 := gr.ext e5
    have hfn : fp' = none → S.frames.length = 0 := gr.sl.nil'
    have oo : ∀ j, o' = some j → h3.length ≤ j ∧ j < h4.length := fun j hj => ⟨gr.base j hj, gr.lt hj⟩
    have l34 := e4.le
    have l3 := e3.le
    have b1 : (!(h.length + 1) == sid fp') = true := by
      cases fp' with
      | none => have := hfn rfl; omega
      | some z =>
        have := oo z.1 (gr.at rfl)
        show (!(h.length + 1) == z.1) = true
        simp; omega
    have b2 : (!(h.length + 1) == h4.length) = true := by simp; omega
    have b3 : (!h4.length == sid fp') = true := by
      cases fp' with
      | none => have := hfn rfl; omega
      | some z =>
        have := oo z.1 (gr.at rfl)
        show (!h4.length == z.1) = true
        simp; omega
    obtain ⟨p6, c6, o6, h6, hap6, gr6, ho6, hle6, hk6⟩ := clone_app (bytes := 1) (b := h5.length) (c := cb) ((hb.ext (((e1.trans e3).trans e4).trans e5)).ext (hh := h5 ++ [O.cells [] .rw]) (by (repeat (first | assumption | apply Ext.refl | apply Ext.app | (apply Ext.set <;> omega) | exact Ext.trans (by assumption) (by assumption) | (refine Ext.trans ?_ (by assumption)))))) (q := h5.length) (snoc_last _ rfl) (Nat.le_refl _) (fun y _ => rfl) (by omega)
    have e56 : Ext h5 h6 := Ext.of_keep fun i hi => by rw [hk6 i (by omega) (by simp; omega), snoc_old _ hi]
    have gr56 := gr5.ext e56
    have x6 := e56 _ _ x5
    have l56 := e56.le
    obtain ⟨h7, hst7, gr7, hl7, hk7, hb7⟩ := gr56.store hi (o := 1) (vs := [.slice p6 data.length c6]) (by simp) rfl ⟨(S.frames[i]).page, p6, c6, data, (S.frames[i]).pins, (S.frames[i]).dirty, (S.frames[i]).ref⟩ rfl
    have hi7 : i < (S.frames.set i ⟨(S.frames[i]).page, p6, c6, data, (S.frames[i]).pins, (S.frames[i]).dirty, (S.frames[i]).ref⟩).length := by rw [List.length_set]; exact hi
    obtain ⟨h8, hst8, gr8, hl8, hk8, hb8⟩ := gr7.store hi7 (o := 3) (vs := [.bool true]) (by simp) rfl ⟨(S.frames[i]).page, p6, c6, data, (S.frames[i]).pins, true, (S.frames[i]).ref⟩ (by rw [List.getElem_set_self]; rfl)
    rw [List.set_set] at gr8
    have x7 : h7[h4.length]? = _ := (hk7 _ (fun z => by have := oo _ z; omega)).trans x6
    have x8 : h8[h4.length]? = _ := (hk8 _ (fun z => by have := oo _ z; omega)).trans x7
    have y8 : h8[h.length + 1]? = _ := (hk8 _ (fun z => by have := oo _ z; omega)).trans ((hk7 _ (fun z => by have := oo _ z; omega)).trans (e56 _ _ (e5 _ _ (e4 _ _ g13))))
    have e8 : Ext h3 h8 := Ext.of_keep fun j hj => by rw [hb8 j hj, hb7 j hj, e56.same (by omega), e5.same (by omega), e4.same hj]
    have eh : Ext h h8 := (e1.trans e3).trans e8
    have ly := lt_of_some y8
    have lx5 := lt_of_some x5
    have ex : ∀ A : O, Ext h (h8.set (h.length + 1) A) := fun A => Ext.set eh (by omega) _
    have s0 := sameO_ext e56 lx5
    have b4 : (!h5.length == h4.length) = true := by simp; omega
    have b5 : (!h4.length == h5.length) = true := by simp; omega
    simp -dsimp (disch := first | with_reducible assumption | omega | (intro h_; cases h_; done) | (simp only [LN] <;> omega) | (simp only [LF]; done) | (repeat (first | with_reducible assumption | apply Ext.refl | apply Ext.app | (apply Ext.set <;> omega) | (refine Ext.trans ?_ (by assumption))))) only [AX, TY, AD, mapPut, entsOf, oneV, builtinV, idsOf, mapId, touchB, Nat.reduceLT, Nat.reduceLeDiff, Nat.reduceEqDiff, Nat.reduceAdd, Nat.reduceMul, Int.reduceBEq, Int.reduceEq, Int.reduceNeg, Int.reduceLT, Int.reduceLE, Int.reduceAdd, Int.reduceSub, Int.reduceMul, Int.reduceToNat, Int.reduceGT, Nat.reduceBEq, Nat.reducePow, Nat.reduceGT, reduceCtorEq, ↓reduceIte, hh5]
    refine W.drawn [(0, []), (1, []), (2, [1, 0]), (3, [2, 1, 0]), (4, [3, 2, 1, 0]), (5, [2, 1, 0]), (6, []), (7, []), (8, [])] (by decide +kernel) ?_
    simp -dsimp (disch := first | with_reducible assumption | omega | (intro h_; cases h_; done) | (simp only [LN] <;> omega) | (simp only [LF]; done) | (repeat (first | with_reducible assumption | apply Ext.refl | apply Ext.app | (apply Ext.set <;> omega) | (refine Ext.trans ?_ (by assumption))))) only [AX, TY, AD, mapPut, entsOf, oneV, builtinV, idsOf, mapId, touchB, Nat.reduceLT, Nat.reduceLeDiff, Nat.reduceEqDiff, Nat.reduceAdd, Nat.reduceMul, Int.reduceBEq, Int.reduceEq, Int.reduceNeg, Int.reduceLT, Int.reduceLE, Int.reduceAdd, Int.reduceSub, Int.reduceMul, Int.reduceToNat, Int.reduceGT, Nat.reduceBEq, Nat.reducePow, Nat.reduceGT, reduceCtorEq, ↓reduceIte, loadN_fact x5, hii, hap6, s0, hst7, b3, b4, b5]
    simp -dsimp (disch := first | with_reducible assumption | omega | (intro h_; cases h_; done) | (simp only [LN] <;> omega) | (simp only [LF]; done) | (repeat (first | with_reducible assumption | apply Ext.refl | apply Ext.app | (apply Ext.set <;> omega) | (refine Ext.trans ?_ (by assumption))))) only [AX, TY, AD, mapPut, entsOf, oneV, builtinV, idsOf, mapId, touchB, Nat.reduceLT, Nat.reduceLeDiff, Nat.reduceEqDiff, Nat.reduceAdd, Nat.reduceMul, Int.reduceBEq, Int.reduceEq, Int.reduceNeg, Int.reduceLT, Int.reduceLE, Int.reduceAdd, Int.reduceSub, Int.reduceMul, Int.reduceToNat, Int.reduceGT, Nat.reduceBEq, Nat.reducePow, Nat.reduceGT, reduceCtorEq, ↓reduceIte, loadN_fact x7, hii, hst8, loadN_fact x8, storeN_fact y8 (by simp)]
    have hge : ∀ k, o6 = some k → h5.length ≤ k := fun k z => by
      rcases ho6 with w | w <;> rw [w] at z <;> cases z <;> simp
    refine ⟨ex _, ⟨S.D, S.pages, S.frames.set i ⟨(S.frames[i]).page, p6, c6, data, (S.frames[i]).pins, true, (S.frames[i]).ref⟩, S.hand, S.reads⟩, 0, ⟨_, rfl, ⟨p, c, q, d, fp', fc', by simp only [bpV, List.length_set], ?_, ⟨bp.1.imp fun _ z => .inl z, fun a o z => .inr (by have := oo a (gr.at z); omega), fun f hf a o z => ?_⟩⟩⟩, .inr (.inr ⟨i, hi, h0', hpf, rfl, p6, c6, rfl⟩)⟩
    rotate_left
    · rcases List.mem_or_eq_of_mem_set hf with hf | rfl
      · exact .inl (bp.2.2 f hf a o z)
      · exact .inr (by have := hge a (gr6.at z); omega)
    refine ⟨r.dk.ext (ex _), (gr8.keep fun j hj => set_other _ (by have := oo j hj; omega)).sl, fun f hf => ?_⟩
    rcases List.mem_or_eq_of_mem_set hf with hf | rfl
    · exact (r.dat f hf).ext (ex _)
    · exact (gr6.keep fun k hk => by
        have := hge k hk
        rw [set_other _ (by omega), hk8 k (fun z => by have := oo _ z; omega), hk7 k (fun z => by have := oo _ z; omega)]).sl
end Go.Proofs.YtmjfhckioaempaaA
namespace Go.Proofs.YtmjfhckioaempaaA
open Go Go.Proofs Go.RowKit
set_option linter.unusedVariables false
set_option linter.unusedSimpArgs false
set_option maxRecDepth 10000
set_option maxHeartbeats 4000000
theorem pagesL_mem {S : Bp} {b : Bool} {z : Int} : z ∈ pagesL S b ↔ 0 ≤ z ∧ z < S.pages ∧ pgQ S b z = true := by
  unfold pagesL
  rw [List.mem_filter, List.mem_map]
  constructor
  · rintro ⟨⟨n, h1, rfl⟩, h2⟩
    rw [List.mem_range] at h1
    exact ⟨by omega, by omega, h2⟩
  · rintro ⟨h1, h2, h3⟩
    exact ⟨⟨z.toNat, by rw [List.mem_range]; omega, by omega⟩, h3⟩
theorem pagesL_lt (S : Bp) (b : Bool) : (pagesL S b).Pairwise (· < ·) := by
  unfold pagesL
  refine List.Pairwise.filter _ ?_
  rw [List.pairwise_map]
  exact List.pairwise_lt_range.imp fun h => by omega
theorem pgQ_lst {S : Bp} {N : Nat} (v : PIn S N) {b : Bool} {q : Fr → Bool} (hq : ∀ f : Fr, q f = (!b || f.dirty)) {z : Int} : z ∈ lstP q S.frames ↔ 0 ≤ z ∧ z < S.pages ∧ pgQ S b z = true := by
  unfold lstP lstQ pgQ
  rw [List.mem_map]
  constructor
  · rintro ⟨f, hf, rfl⟩
    rw [List.mem_filter] at hf
    obtain ⟨hf, h2⟩ := hf
    simp only [Bool.and_eq_true, decide_eq_true_eq] at h2
    have hp := (v.okp.page f hf h2.1).1
    refine ⟨h2.1, hp, ?_⟩
    obtain ⟨j, hj, rfl⟩ := List.getElem_of_mem hf
    obtain ⟨i, hi⟩ := findF_ex h2.1 hf rfl
    obtain ⟨hil, _, hip, _⟩ := findF_some hi
    have := v.dis i j hil hj (by rw [hip]; exact h2.1) hip
    subst this
    rw [hi]
    simp only [List.getElem?_eq_getElem hil, Option.map_some, Option.getD_some]
    rw [← hq]; exact h2.2
  · rintro ⟨h0, h1, h2⟩
    cases hf : findF z S.frames with
    | none => rw [hf] at h2; cases h2
    | some i =>
      obtain ⟨hil, _, hip, _⟩ := findF_some hf
      rw [hf] at h2
      simp only [List.getElem?_eq_getElem hil, Option.map_some, Option.getD_some] at h2
      refine ⟨S.frames[i], ?_, hip⟩
      rw [List.mem_filter]
      refine ⟨List.getElem_mem hil, ?_⟩
      simp only [Bool.and_eq_true, decide_eq_true_eq]
      exact ⟨by rw [hip]; exact h0, by rw [hq]; exact h2⟩
theorem pagesL_perm {S : Bp} {N : Nat} (v : PIn S N) {b : Bool} {q : Fr → Bool} (hq : ∀ f : Fr, q f = (!b || f.dirty)) : (pagesL S b).Perm (lstP q S.frames) := by
  refine (List.perm_ext_iff_of_nodup ((pagesL_lt S b).imp fun h => by omega) (lst_nodup v q)).2 fun z => ?_
  rw [pagesL_mem, pgQ_lst v hq]
/-- A sorted list of the same pages is that list. -/
theorem pagesL_eq {S : Bp} {N : Nat} (v : PIn S N) {b : Bool} {q : Fr → Bool} (hq : ∀ f : Fr, q f = (!b || f.dirty)) {zs : List Int} (hs : zs.Pairwise (· ≤ ·)) (hp : zs.Perm (lstP q S.frames)) : zs = pagesL S b := by
  refine List.Perm.eq_of_pairwise (le := fun x y => x ≤ y) (fun a b _ _ h1 h2 => by omega) hs ((pagesL_lt S b).imp fun h => by omega) (hp.trans (pagesL_perm v hq).symm)
theorem rFlush_ok {h : Heap} {S : Bp} {N : Nat} {p : Option (Nat × Nat)} {c : Option Nat} {q : Option (Nat × Nat)} {d : Option Nat} {fp : Option (Nat × Nat)} {fc : Option Nat} (r : RBp h S p c q d fp fc) (v : PIn S N) {P : Nat → Prop} (bp : BpPtr S p q fp P) :
    WR (callE Try.prog hk 54 [.agg (bpV S p c q d fp fc)] h) fun r h' => Ext h h' ∧ ∃ M' e, ResU (fun a => P a ∨ h.length ≤ a) h' r M' e ∧ FlR (pagesL S true) S M' e := by
  have hfl := v.fl
  have hbig := v.big
  have ok := v.okp
  have hcnt := v.cnt
  refine WR.call (hH := rfl) Try.func54 rfl (n := 54) rfl rfl (by simp) ?_
  obtain ⟨g, hg, g0, g1, e1, hgl⟩ : ∃ g, h ++ [O.cells (bpV S p c q d fp fc) .rw] ++ [O.cells zP .rw] = g ∧ g[h.length]? = some (O.cells (bpV S p c q d fp fc) .rw) ∧ g[h.length + 1]? = some (O.cells zP .rw) ∧ Ext h g ∧ g.length = h.length + 2 := ⟨_, rfl, by rw [snoc_old _ (by simp)]; exact snoc_last _ rfl, snoc_last _ (by simp), (by (repeat (first | assumption | apply Ext.refl | apply Ext.app | (apply Ext.set <;> omega) | exact Ext.trans (by assumption) (by assumption) | (refine Ext.trans ?_ (by assumption))))), by simp⟩
  have hne : ¬ h.length + 1 = h.length := by omega
  have hcp := rcopied_ok (r.ext e1) hfl
  simp only [bpV, zP] at hg g0 g1 hcp
  simp -dsimp (disch := first | with_reducible assumption | omega | (intro h_; cases h_; done) | (simp only [LN] <;> omega) | (simp only [LF]; done) | (repeat (first | with_reducible assumption | apply Ext.refl | apply Ext.app | (apply Ext.set <;> omega) | (refine Ext.trans ?_ (by assumption))))) only [AX, TY, AD, mapPut, entsOf, oneV, builtinV, idsOf, mapId, touchB, Nat.reduceLT, Nat.reduceLeDiff, Nat.reduceEqDiff, Nat.reduceAdd, Nat.reduceMul, Int.reduceBEq, Int.reduceEq, Int.reduceNeg, Int.reduceLT, Int.reduceLE, Int.reduceAdd, Int.reduceSub, Int.reduceMul, Int.reduceToNat, Int.reduceGT, Nat.reduceBEq, Nat.reducePow, Nat.reduceGT, reduceCtorEq, ↓reduceIte, bpV, hg, loadN_fact g0]
  refine hcp.mono ?_
  rintro _ h2 ⟨e2, fp', fc', o', rfl, gr⟩
  have g02 := e2 _ _ g0
  have g12 := e2 _ _ g1
  have hl02 := lt_of_some g02
  generalize hA : h2.set h.length (O.cells [V.slice p S.D.dur.length c, V.slice q S.D.pend.length d, V.int .i64 S.D.ctr, V.bool S.D.failed, V.int .i64 S.pages, V.slice fp' S.frames.length fc', V.int .i64 S.hand, V.int .i64 S.reads] .rw) = h3
  have g03 : h3[h.length]? = some (O.cells [V.slice p S.D.dur.length c, V.slice q S.D.pend.length d, V.int .i64 S.D.ctr, V.bool S.D.failed, V.int .i64 S.pages, V.slice fp' S.frames.length fc', V.int .i64 S.hand, V.int .i64 S.reads] .rw) := by rw [← hA]; exact set_same _ hl02
  have g13 : h3[h.length + 1]? = some (O.cells zP .rw) := by rw [← hA]; exact (set_other _ hne).trans g12
  have e3 : Ext h h3 := by rw [← hA]; exact Ext.set (e1.trans e2) (Nat.le_refl _) _
  have gr3 : Gr g.length h3 fp' fc' o' 5 Fr.enc S.frames := gr.keep fun i hi => by rw [← hA]; exact set_other _ (by have := gr.base i hi; omega)
  have l3 : h3.length = h2.length := by rw [← hA, List.length_set]
  have oo : ∀ j, o' = some j → g.length ≤ j ∧ j < h3.length := fun j hj => ⟨gr3.base j hj, gr3.lt hj⟩
  have l2 := e2.le
  have hpg := rPages_ok (S := S) (p := p) (c := c) (q := q) (d := d) (fp := fp') (fc := fc') (h := h3) ⟨r.dk.ext e3, gr3.sl, fun f hf => (r.dat f hf).ext e3⟩ hfl v.pages true
  simp only [zP] at g13
  simp only [bpV] at hpg
  simp -dsimp (disch := first | with_reducible assumption | omega | (intro h_; cases h_; done) | (simp only [LN] <;> omega) | (simp only [LF]; done) | (repeat (first | with_reducible assumption | apply Ext.refl | apply Ext.app | (apply Ext.set <;> omega) | (refine Ext.trans ?_ (by assumption))))) only [AX, TY, AD, mapPut, entsOf, oneV, builtinV, idsOf, mapId, touchB, Nat.reduceLT, Nat.reduceLeDiff, Nat.reduceEqDiff, Nat.reduceAdd, Nat.reduceMul, Int.reduceBEq, Int.reduceEq, Int.reduceNeg, Int.reduceLT, Int.reduceLE, Int.reduceAdd, Int.reduceSub, Int.reduceMul, Int.reduceToNat, Int.reduceGT, Nat.reduceBEq, Nat.reducePow, Nat.reduceGT, reduceCtorEq, ↓reduceIte, storeN_fact g02 (by simp), hA, loadN_fact g03]
  refine hpg.mono ?_
  rintro _ h4 ⟨e4, pz, cz, rfl, slz, hpz⟩
  have hin : ∀ z ∈ pagesL S true, 0 ≤ z ∧ z < S.pages ∧ ∃ i, findF z S.frames = some i := fun z hz => by
    obtain ⟨h1, h2, h3⟩ := pagesL_mem.1 hz
    refine ⟨h1, h2, ?_⟩
    unfold pgQ at h3
    cases hf : findF z S.frames with
    | none => rw [hf] at h3; cases h3
    | some i => exact ⟨i, rfl⟩
  generalize hzs : pagesL S true = zs at *
  have hzl : zs.length ≤ 8 := by
    rw [← hzs, (pagesL_perm v (b := true) (q := Fr.dirty) (fun f => by simp)).length_eq]
    unfold lstP
    rw [List.length_map]
    exact Nat.le_trans (List.length_filter_le _ _) hfl
  have hzn := slz.nil'
  have l34 := e4.le
  have gr4 := gr3.ext e4
  have g04 := e4 _ _ g03
  have g14 := e4 _ _ g13
  have dk4 := r.dk.ext (e3.trans e4)
  have pt4 : DkPtr S.D p q (fun a => (P a ∧ a < h.length) ∨ h3.length ≤ a) := (bp.1.and r.dk.ptr).imp fun a z => .inl z
  simp -dsimp (disch := first | with_reducible assumption | omega | (intro h_; cases h_; done) | (simp only [LN] <;> omega) | (simp only [LF]; done) | (repeat (first | with_reducible assumption | apply Ext.refl | apply Ext.app | (apply Ext.set <;> omega) | (refine Ext.trans ?_ (by assumption))))) only [AX, TY, AD, mapPut, entsOf, oneV, builtinV, idsOf, mapId, touchB, Nat.reduceLT, Nat.reduceLeDiff, Nat.reduceEqDiff, Nat.reduceAdd, Nat.reduceMul, Int.reduceBEq, Int.reduceEq, Int.reduceNeg, Int.reduceLT, Int.reduceLE, Int.reduceAdd, Int.reduceSub, Int.reduceMul, Int.reduceToNat, Int.reduceGT, Nat.reduceBEq, Nat.reducePow, Nat.reduceGT, reduceCtorEq, ↓reduceIte]
  refine W.loop (fun m τ hh => ∃ (k : Nat) (Sk : Bp) (p1 : Option (Nat × Nat)) (c1 : Option Nat) (q1 : Option (Nat × Nat)) (d1 : Option Nat), m + k = zs.length ∧ τ 1 = .ptr (some (h.length, 0)) ∧ τ 2 = .ptr (some (h.length + 1, 0)) ∧ τ 4 = .slice pz zs.length cz ∧ τ 5 = .int .i64 k ∧ Ext h hh ∧ RDk hh Sk.D p1 c1 q1 d1 ∧ DkPtr Sk.D p1 q1 (fun a => (P a ∧ a < h.length) ∨ h3.length ≤ a) ∧ hh[h.length]? = some (O.cells (bpV Sk p1 c1 q1 d1 fp' fc') .rw) ∧ hh[h.length + 1]? = some (O.cells zP .rw) ∧ Gr g.length hh fp' fc' o' 5 Fr.enc Sk.frames ∧ h3.length ≤ hh.length ∧ Sl hh pz 1 ei zs ∧ Okp Sk ∧ (∀ f ∈ Sk.frames, Sl h f.p 1 eb f.data) ∧ (∀ f ∈ Sk.frames, ∀ a o, f.p = some (a, o) → P a) ∧ Sk.D.pend.length ≤ S.D.pend.length + k ∧ Sk.frames.map Fr.page = S.frames.map Fr.page ∧ Sk.pages = S.pages ∧ ∀ S' e, FlR (zs.drop k) Sk S' e → FlR zs S S' e) ?_ (m := zs.length) ?_
  rotate_left
  · have e04 := e3.trans e4
    have hda := r.dat
    have hbp := bp.2.2
    have hid : ∀ S' e, FlR (zs.drop 0) S S' e → FlR zs S S' e := fun _ _ q => q
    refine ⟨0, S, p, c, q, d, ?_⟩
    simp -dsimp (disch := first | with_reducible assumption | omega | (intro h_; cases h_; done) | (simp only [LN] <;> omega) | (simp only [LF]; done) | (repeat (first | with_reducible assumption | apply Ext.refl | apply Ext.app | (apply Ext.set <;> omega) | (refine Ext.trans ?_ (by assumption))))) only [AX, TY, AD, mapPut, entsOf, oneV, builtinV, idsOf, mapId, touchB, Nat.reduceLT, Nat.reduceLeDiff, Nat.reduceEqDiff, Nat.reduceAdd, Nat.reduceMul, Int.reduceBEq, Int.reduceEq, Int.reduceNeg, Int.reduceLT, Int.reduceLE, Int.reduceAdd, Int.reduceSub, Int.reduceMul, Int.reduceToNat, Int.reduceGT, Nat.reduceBEq, Nat.reducePow, Nat.reduceGT, reduceCtorEq, ↓reduceIte]
    repeat' (first | assumption | refine And.intro ?_ ?_)
    all_goals first | rfl | omega | (simp; done) | (simp; omega; done) | skip
  rintro m τ hh ⟨k, Sk, p1, c1, q1, d1, hm, t1, t2, t4, t5, eh, dk, dpt, gh0, gh1, gk, hhl, sz, okk, dat, datp, hpl, hpm, hpp, hflr⟩
  have hfn : fp' = none → Sk.frames.length = 0 := gk.sl.nil'
  have hlh1 := lt_of_some gh1
  simp only [bpV, zP] at gh0 gh1
  by_cases hc : (k : Int) < (zs.length : Int)
  rotate_left
  · rw [List.drop_of_length_le (by omega)] at hflr
    have ex : ∀ A : O, Ext h (hh.set (h.length + 1) A) := fun A => Ext.set eh (by omega) _
    simp -dsimp (disch := first | with_reducible assumption | omega | (intro h_; cases h_; done) | (simp only [LN] <;> omega) | (simp only [LF]; done) | (repeat (first | with_reducible assumption | apply Ext.refl | apply Ext.app | (apply Ext.set <;> omega) | (refine Ext.trans ?_ (by assumption))))) only [AX, TY, AD, mapPut, entsOf, oneV, builtinV, idsOf, mapId, touchB, Nat.reduceLT, Nat.reduceLeDiff, Nat.reduceEqDiff, Nat.reduceAdd, Nat.reduceMul, Int.reduceBEq, Int.reduceEq, Int.reduceNeg, Int.reduceLT, Int.reduceLE, Int.reduceAdd, Int.reduceSub, Int.reduceMul, Int.reduceToNat, Int.reduceGT, Nat.reduceBEq, Nat.reducePow, Nat.reduceGT, reduceCtorEq, ↓reduceIte, t1, t2, t4, t5, hc, loadN_fact gh0, storeN_fact gh1 (by simp)]
    refine ⟨ex _, Sk, 0, ⟨_, rfl, ⟨p1, c1, q1, d1, fp', fc', rfl, ⟨dk.keep dpt fun a ha => set_other _ (by omega), (gk.keep fun j hj => set_other _ (by have := oo j hj; omega)).sl, fun f hf => (dat f hf).ext (ex _)⟩, ⟨dpt.imp fun a z => by rcases z with ⟨z, _⟩ | z; exact .inl z; exact .inr (by omega), fun a o z => .inr (by have := oo a (gk.at z); omega), fun f hf a o z => .inl (datp f hf a o z)⟩⟩⟩, hflr Sk 0 ⟨rfl, rfl⟩⟩
  have hk : k < zs.length := by omega
  have hdr := List.drop_eq_getElem_cons hk
  have hz := hin _ (List.getElem_mem hk)
  have hla := sz.load0 (.refl _) hk (m := 1) (by decide)
  generalize zs[k] = z at hdr hz hla
  simp only [ei, List.take] at hla
  obtain ⟨i, hfi⟩ := hz.2.2
  have hfk : findF z Sk.frames = some i := by rw [findF_map, hpm, ← findF_map]; exact hfi
  obtain ⟨hi, hq0, hq3, _⟩ := findF_some hfk
  obtain ⟨zn, rfl⟩ := Int.eq_ofNat_of_zero_le hz.1
  have hfd := rFind_ok (v := .agg (bpV Sk p1 c1 q1 d1 fp' fc')) (S := Sk) (h := hh) ⟨p1, c1, q1, d1, fp', fc', rfl, ⟨dk, gk.sl, fun f hf => (dat f hf).ext eh⟩⟩ (zn : Int)
  simp only [bpV] at hfd
  simp -dsimp (disch := first | with_reducible assumption | omega | (intro h_; cases h_; done) | (simp only [LN] <;> omega) | (simp only [LF]; done) | (repeat (first | with_reducible assumption | apply Ext.refl | apply Ext.app | (apply Ext.set <;> omega) | (refine Ext.trans ?_ (by assumption))))) only [AX, TY, AD, mapPut, entsOf, oneV, builtinV, idsOf, mapId, touchB, Nat.reduceLT, Nat.reduceLeDiff, Nat.reduceEqDiff, Nat.reduceAdd, Nat.reduceMul, Int.reduceBEq, Int.reduceEq, Int.reduceNeg, Int.reduceLT, Int.reduceLE, Int.reduceAdd, Int.reduceSub, Int.reduceMul, Int.reduceToNat, Int.reduceGT, Nat.reduceBEq, Nat.reducePow, Nat.reduceGT, reduceCtorEq, ↓reduceIte, t1, t2, t4, t5, hc]
  refine W.drawn [(0, []), (1, [0]), (2, [1, 0]), (3, [0]), (4, [0]), (5, []), (6, [])] (by decide +kernel) ?_
  simp -dsimp (disch := first | with_reducible assumption | omega | (intro h_; cases h_; done) | (simp only [LN] <;> omega) | (simp only [LF]; done) | (repeat (first | with_reducible assumption | apply Ext.refl | apply Ext.app | (apply Ext.set <;> omega) | (refine Ext.trans ?_ (by assumption))))) only [AX, TY, AD, mapPut, entsOf, oneV, builtinV, idsOf, mapId, touchB, Nat.reduceLT, Nat.reduceLeDiff, Nat.reduceEqDiff, Nat.reduceAdd, Nat.reduceMul, Int.reduceBEq, Int.reduceEq, Int.reduceNeg, Int.reduceLT, Int.reduceLE, Int.reduceAdd, Int.reduceSub, Int.reduceMul, Int.reduceToNat, Int.reduceGT, Nat.reduceBEq, Nat.reducePow, Nat.reduceGT, reduceCtorEq, ↓reduceIte, t1, t2, t4, t5, loadN_fact gh0, hla]
  refine hfd.mono ?_
  rintro _ h5 ⟨e5, rfl⟩
  rw [hfk]
  have hii : (i : Int) < (Sk.frames.length : Int) := by omega
  obtain ⟨h5', hh5, e55, z5, l5⟩ : ∃ h5', h5 ++ [O.cells [V.slice none 0 (some 0), V.slice none 0 (some 0), V.int .i64 0, V.bool false] .rw] = h5' ∧ Ext h5 h5' ∧ h5'[h5.length]? = some (O.cells [V.slice none 0 (some 0), V.slice none 0 (some 0), V.int .i64 0, V.bool false] .rw) ∧ h5'.length = h5.length + 1 := ⟨_, rfl, (by (repeat (first | assumption | apply Ext.refl | apply Ext.app | (apply Ext.set <;> omega) | exact Ext.trans (by assumption) (by assumption) | (refine Ext.trans ?_ (by assumption))))), snoc_last _ rfl, by simp⟩
  have le5o := e5.le
  have gh05o := e5 _ _ gh0
  have hla5o := (sz.ext e5).load0 (.refl _) hk (m := 1) (by decide)
  have hl1o := (gk.ext e5).sl.load (.refl _) hi (o := 1) (m := 1) (by decide)
  have e5 := e5.trans e55
  have gh05 := e5 _ _ gh0
  have gh15 := e5 _ _ gh1
  have gk5 := gk.ext e5
  have sz5 := sz.ext e5
  have dk5 := dk.ext e5
  have le5 := e5.le
  have hla5 := sz5.load0 (.refl _) hk (m := 1) (by decide)
  have hpgz := okk.page _ (List.getElem_mem hi)
  have hl1 := gk5.sl.load (.refl _) hi (o := 1) (m := 1) (by decide)
  have hlen : ((Sk.frames[i]).data).length = 1024 := (hpgz (by rw [hq3]; omega)).2
  have hoff : IntKind.i64.wrap ((zn : Int) * 1024) = ((zn * 1024 : Nat) : Int) := by
    have := ok.pages
    rw [IntKind.wrap_i64]; omega
  have hzk : (zs[k] : Int) = zn := by
    have := congrArg List.head? hdr
    rw [List.drop_eq_getElem_cons hk] at this
    simp only [List.head?_cons, Option.some.injEq] at this
    exact this
  rw [hzk] at hla5 hla5o
  have hpu := rPut_ok dk5 (off := zn * 1024) (cb := (Sk.frames[i]).c) ((dat _ (List.getElem_mem hi)).ext (eh.trans e5)) (by rw [hlen]; have := okk.dur; have := hz.2.1; omega) (by omega) okk.ctr
  simp only [dkV] at hpu
  simp only [Fr.enc, ei, List.take, List.drop] at hl1 hla5 hl1o hla5o
  simp -dsimp (disch := first | with_reducible assumption | omega | (intro h_; cases h_; done) | (simp only [LN] <;> omega) | (simp only [LF]; done) | (repeat (first | with_reducible assumption | apply Ext.refl | apply Ext.app | (apply Ext.set <;> omega) | (refine Ext.trans ?_ (by assumption))))) only [AX, TY, AD, mapPut, entsOf, oneV, builtinV, idsOf, mapId, touchB, Nat.reduceLT, Nat.reduceLeDiff, Nat.reduceEqDiff, Nat.reduceAdd, Nat.reduceMul, Int.reduceBEq, Int.reduceEq, Int.reduceNeg, Int.reduceLT, Int.reduceLE, Int.reduceAdd, Int.reduceSub, Int.reduceMul, Int.reduceToNat, Int.reduceGT, Nat.reduceBEq, Nat.reducePow, Nat.reduceGT, reduceCtorEq, ↓reduceIte, t1, t2, t4, t5, idxI]
  refine W.drawn [(0, []), (1, []), (2, [1, 0]), (3, [2, 1, 0]), (4, [1, 0]), (5, [1, 0]), (6, [1, 0]), (7, [6, 5, 4, 3, 2, 1, 0]), (8, [6, 5, 4, 3, 2, 1, 0]), (9, [8, 7, 6, 5, 4, 3, 2, 1, 0]), (10, [6, 5, 4, 3, 2, 1, 0]), (11, [6, 5, 4, 3, 2, 1, 0]), (12, [6, 5, 4, 3, 2, 1, 0]), (17, [12, 11, 10, 9, 8, 7, 6, 5, 4, 3, 2, 1, 0]), (13, [17]), (14, [17]), (15, [17]), (16, [15, 17]), (18, [16]), (19, [])] (by decide +kernel) ?_
  simp -dsimp (disch := first | with_reducible assumption | omega | (intro h_; cases h_; done) | (simp only [LN] <;> omega) | (simp only [LF]; done) | (repeat (first | with_reducible assumption | apply Ext.refl | apply Ext.app | (apply Ext.set <;> omega) | (refine Ext.trans ?_ (by assumption))))) only [AX, TY, AD, mapPut, entsOf, oneV, builtinV, idsOf, mapId, touchB, Nat.reduceLT, Nat.reduceLeDiff, Nat.reduceEqDiff, Nat.reduceAdd, Nat.reduceMul, Int.reduceBEq, Int.reduceEq, Int.reduceNeg, Int.reduceLT, Int.reduceLE, Int.reduceAdd, Int.reduceSub, Int.reduceMul, Int.reduceToNat, Int.reduceGT, Nat.reduceBEq, Nat.reducePow, Nat.reduceGT, reduceCtorEq, ↓reduceIte, t1, t2, t4, t5, idxI, hh5, loadN_fact gh05o, loadN_fact gh05, hla5, hla5o, hoff, hii, hl1, hl1o]
  refine hpu.mono ?_
  rintro _ h6 ⟨e6, D1, e9, _, rfl, ⟨p2, c2, q2, d2, rfl, dk6, dpt6⟩, wo⟩
  have dpt6 := dpt6 _ (dpt.and dk.ptr)
  have hwl := wo.len
  have gh06 := e6 _ _ gh05
  have gh16 := e6 _ _ gh15
  have le6 := e6.le
  have z6 := e6 _ _ z5
  have hl6 := lt_of_some z6
  obtain ⟨h7, hh7, z7, gX7, l7⟩ : ∃ h7, h6.set h5.length (O.cells [V.slice p2 D1.dur.length c2, V.slice q2 D1.pend.length d2, V.int .i64 D1.ctr, V.bool D1.failed] .rw) = h7 ∧ h7[h5.length]? = some (O.cells [V.slice p2 D1.dur.length c2, V.slice q2 D1.pend.length d2, V.int .i64 D1.ctr, V.bool D1.failed] .rw) ∧ (∀ a, a ≠ h5.length → h7[a]? = h6[a]?) ∧ h7.length = h6.length := ⟨_, rfl, set_same _ hl6, fun a ha => set_other _ (by omega), by simp⟩
  have gh07 := (gX7 h.length (by omega)).trans gh06
  have gh17 := (gX7 (h.length + 1) (by omega)).trans gh16
  have hl07 := lt_of_some gh07
  have hl17 := lt_of_some gh17
  obtain ⟨h8, hh8, g08, gX, l8⟩ : ∃ h8, h7.set h.length (O.cells [V.slice p2 D1.dur.length c2, V.slice q2 D1.pend.length d2, V.int .i64 D1.ctr, V.bool D1.failed, V.int .i64 Sk.pages, V.slice fp' Sk.frames.length fc', V.int .i64 Sk.hand, V.int .i64 Sk.reads] .rw) = h8 ∧ h8[h.length]? = some (O.cells [V.slice p2 D1.dur.length c2, V.slice q2 D1.pend.length d2, V.int .i64 D1.ctr, V.bool D1.failed, V.int .i64 Sk.pages, V.slice fp' Sk.frames.length fc', V.int .i64 Sk.hand, V.int .i64 Sk.reads] .rw) ∧ (∀ a, a ≠ h.length → h8[a]? = h7[a]?) ∧ h8.length = h7.length := ⟨_, rfl, set_same _ hl07, fun a ha => set_other _ (by omega), by simp⟩
  have g18 := (gX _ hne).trans gh17
  have k8 : ∀ a, a ≠ h.length → a ≠ h5.length → h8[a]? = h6[a]? := fun a h1 h2 => by rw [gX a h1, gX7 a h2]
  have eh8 : Ext h h8 := Ext.of_keep fun a ha => by rw [k8 a (by omega) (by omega), ((eh.trans e5).trans e6).same ha]
  have dk8 : RDk h8 D1 p2 c2 q2 d2 := dk6.keep dpt6 fun a ha => k8 a (by omega) (by omega)
  have gk8 : Gr g.length h8 fp' fc' o' 5 Fr.enc Sk.frames := (gk5.ext e6).keep fun j hj => k8 j (by have := oo j hj; omega) (by have := oo j hj; omega)
  have sz8 : Sl h8 pz 1 ei zs := (sz5.ext e6).keep fun a o z => k8 a (by have := hpz a o z; omega) (by have := sz.lt z; omega)
  have dpt8 : DkPtr D1 p2 q2 (fun a => (P a ∧ a < h.length) ∨ h3.length ≤ a) := dpt6.imp fun a z => by
    rcases z with ⟨z, _⟩ | z
    · exact z
    · exact .inr (by omega)
  have s0 : ((List.range' h5.length (h5'.length - h5.length)).all fun id => sameO h5'[id]? h6[id]?) = true := by
    rw [List.all_eq_true]
    intro id hid
    rw [List.mem_range'_1] at hid
    exact sameO_ext e6 (by omega)
  by_cases he : e9 = 0
  rotate_left
  · have ex : ∀ A : O, Ext h (h8.set (h.length + 1) A) := fun A => Ext.set eh8 (by omega) _
    simp -dsimp (disch := first | with_reducible assumption | omega | (intro h_; cases h_; done) | (simp only [LN] <;> omega) | (simp only [LF]; done) | (repeat (first | with_reducible assumption | apply Ext.refl | apply Ext.app | (apply Ext.set <;> omega) | (refine Ext.trans ?_ (by assumption))))) only [AX, TY, AD, mapPut, entsOf, oneV, builtinV, idsOf, mapId, touchB, Nat.reduceLT, Nat.reduceLeDiff, Nat.reduceEqDiff, Nat.reduceAdd, Nat.reduceMul, Int.reduceBEq, Int.reduceEq, Int.reduceNeg, Int.reduceLT, Int.reduceLE, Int.reduceAdd, Int.reduceSub, Int.reduceMul, Int.reduceToNat, Int.reduceGT, Nat.reduceBEq, Nat.reducePow, Nat.reduceGT, reduceCtorEq, ↓reduceIte, t1, t2, t4, t5, s0, storeN_fact z6 (by simp), hh7, loadN_fact z7, storeN_fact gh07 (by simp), hh8, he, loadN_fact g08, storeN_fact g18 (by simp)]
    refine ⟨ex _, ⟨D1, Sk.pages, Sk.frames, Sk.hand, Sk.reads⟩, e9, ⟨_, rfl, ⟨p2, c2, q2, d2, fp', fc', rfl, ⟨dk8.keep dpt8 fun a ha => set_other _ (by omega), (gk8.keep fun j hj => set_other _ (by have := oo j hj; omega)).sl, fun f hf => (dat f hf).ext (ex _)⟩, ⟨dpt8.imp fun a z => by rcases z with ⟨z, _⟩ | z; exact .inl z; exact .inr (by omega), fun a o z => .inr (by have := oo a (gk8.at z); omega), fun f hf a o z => .inl (datp f hf a o z)⟩⟩⟩, hflr _ e9 (by rw [hdr]; exact ⟨i, hi, zn * 1024, D1, e9, hfk, by omega, wo, .inl ⟨he, rfl, rfl⟩⟩)⟩
  subst he
  obtain ⟨h9, hst, gr9, hl9, hk9, hb9⟩ := gk8.store hi (o := 3) (vs := [.bool false]) (by simp) rfl { Sk.frames[i] with dirty := false } rfl
  have g09 := (hk9 h.length (fun z => by have := oo _ z; omega)).trans g08
  have g19 := (hk9 (h.length + 1) (fun z => by have := oo _ z; omega)).trans g18
  have eh9 : Ext h h9 := eh8.below (Nat.le_refl _) fun i hi => hb9 i (by omega)
  have dk9 : RDk h9 D1 p2 c2 q2 d2 := dk8.keep dpt8 fun a ha => hk9 a fun z => by have := oo _ z; omega
  have sz9 : Sl h9 pz 1 ei zs := sz8.keep fun a o z => hk9 a fun w => by have := oo _ w; have := hpz a o z; omega
  have hmf : ∀ f ∈ Sk.frames.set i { Sk.frames[i] with dirty := false }, ∃ g ∈ Sk.frames, f.page = g.page ∧ f.data = g.data ∧ f.pins = g.pins ∧ f.p = g.p := fun f hf => by
    rcases List.mem_or_eq_of_mem_set hf with hf | rfl
    · exact ⟨f, hf, rfl, rfl, rfl, rfl⟩
    · exact ⟨_, List.getElem_mem hi, rfl, rfl, rfl, rfl⟩
  have okn : Okp ⟨D1, Sk.pages, Sk.frames.set i { Sk.frames[i] with dirty := false }, Sk.hand, Sk.reads⟩ := ⟨by rw [hwl.1]; exact okk.dur, okk.pages, fun f hf => by obtain ⟨g, hg, h1, h2, h3, _⟩ := hmf f hf; rw [h3]; exact okk.pins g hg, fun f hf => by obtain ⟨g, hg, h1, h2, h3, _⟩ := hmf f hf; rw [h1, h2]; exact okk.page g hg, by have := hwl.2.1; show D1.pend.length < 50000; omega, hwl.2.2 okk.ctr, okk.reads⟩
  have datn : ∀ f ∈ Sk.frames.set i { Sk.frames[i] with dirty := false }, Sl h f.p 1 eb f.data := fun f hf => by obtain ⟨g, hg, h1, h2, h3, h4⟩ := hmf f hf; rw [h2, h4]; exact dat g hg
  have datpn : ∀ f ∈ Sk.frames.set i { Sk.frames[i] with dirty := false }, ∀ a o, f.p = some (a, o) → P a := fun f hf => by obtain ⟨g, hg, h1, h2, h3, h4⟩ := hmf f hf; rw [h4]; exact datp g hg
  have hpm' : (Sk.frames.set i { Sk.frames[i] with dirty := false }).map Fr.page = S.frames.map Fr.page := (set_page hi (f := { Sk.frames[i] with dirty := false }) rfl).trans hpm
  have hpl9 : D1.pend.length ≤ S.D.pend.length + (k + 1) := by have := hwl.2.1; omega
  have hfl9 : ∀ S' e, FlR (zs.drop (k + 1)) ⟨D1, Sk.pages, Sk.frames.set i { Sk.frames[i] with dirty := false }, Sk.hand, Sk.reads⟩ S' e → FlR zs S S' e := fun S' e q => hflr S' e (by rw [hdr]; exact ⟨i, hi, zn * 1024, D1, 0, hfk, by omega, wo, .inr ⟨rfl, q⟩⟩)
  have g09' : h9[h.length]? = some (O.cells (bpV ⟨D1, Sk.pages, Sk.frames.set i { Sk.frames[i] with dirty := false }, Sk.hand, Sk.reads⟩ p2 c2 q2 d2 fp' fc') .rw) := by simp only [bpV, List.length_set]; exact g09
  have hhl9 : h3.length ≤ h9.length := by omega
  simp -dsimp (disch := first | with_reducible assumption | omega | (intro h_; cases h_; done) | (simp only [LN] <;> omega) | (simp only [LF]; done) | (repeat (first | with_reducible assumption | apply Ext.refl | apply Ext.app | (apply Ext.set <;> omega) | (refine Ext.trans ?_ (by assumption))))) only [AX, TY, AD, mapPut, entsOf, oneV, builtinV, idsOf, mapId, touchB, Nat.reduceLT, Nat.reduceLeDiff, Nat.reduceEqDiff, Nat.reduceAdd, Nat.reduceMul, Int.reduceBEq, Int.reduceEq, Int.reduceNeg, Int.reduceLT, Int.reduceLE, Int.reduceAdd, Int.reduceSub, Int.reduceMul, Int.reduceToNat, Int.reduceGT, Nat.reduceBEq, Nat.reducePow, Nat.reduceGT, reduceCtorEq, ↓reduceIte, t1, t2, t4, t5, s0, storeN_fact z6 (by simp), hh7, loadN_fact z7, storeN_fact gh07 (by simp), hh8, loadN_fact g08, hii, hst, wrap_in]
  refine ⟨m - 1, by omega, k + 1, ⟨D1, Sk.pages, Sk.frames.set i { Sk.frames[i] with dirty := false }, Sk.hand, Sk.reads⟩, p2, c2, q2, d2, ?_⟩
  repeat' (first | assumption | refine And.intro ?_ ?_)
  all_goals first | rfl | omega | (simp; done) | (simp; omega; done) | skip
end Go.Proofs.YtmjfhckioaempaaA
