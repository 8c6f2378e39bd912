/- Words of this session: chapter 16: New of a disk, of a pool. Words of this session: chapter 16: open; the calls. Words of this session: chapter 16: the calls. -/
import Derived.Test.YtmjfhckioaempaaPM
namespace Go.Proofs.YtmjfhckioaempaaA
open Go Go.Proofs Go.RowKit
set_option linter.unusedVariables false
set_option linter.unusedSimpArgs false
set_option maxRecDepth 10000
set_option maxHeartbeats 2000000
theorem newD_ok {b : Nat} {h : Heap} (hb : b ≤ h.length) (size : Nat) (h1 : 1 ≤ size) (h2 : size ≤ 4194304) :
    WR (callE Try.prog hk 10 [.int .i64 size] h) fun r h' => r = .tuple [.ptr (some (h.length + 1, 0)), .int .i64 0] ∧ DAt b h' (h.length + 1) h.length ⟨List.replicate size 0, [], -1, false⟩ none (fun _ => False) ∧ Ext h h' := by
  have c1 : ¬ (size : Int) < 1 := by omega
  have c2 : ¬ 4194304 < (size : Int) := by omega
  refine WR.call (hH := rfl) Try.func10 rfl (n := 14) rfl rfl (by simp) ?_
  simp -dsimp (disch := first | with_reducible assumption | omega | (intro h_; cases h_; done) | (simp only [LN] <;> omega) | (simp only [LF]; done) | (repeat (first | with_reducible assumption | apply Ext.refl | apply Ext.app | (apply Ext.set <;> omega) | (refine Ext.trans ?_ (by assumption))))) only [AX, TY, AD, mapPut, entsOf, oneV, builtinV, idsOf, mapId, touchB, Nat.reduceLT, Nat.reduceLeDiff, Nat.reduceEqDiff, Nat.reduceAdd, Nat.reduceMul, Int.reduceBEq, Int.reduceEq, Int.reduceNeg, Int.reduceLT, Int.reduceLE, Int.reduceAdd, Int.reduceSub, Int.reduceMul, Int.reduceToNat, Int.reduceGT, Nat.reduceBEq, Nat.reducePow, Nat.reduceGT, reduceCtorEq, ↓reduceIte, c1, c2]
  refine ⟨⟨⟨none, some 0, ?_, Gr.nil _ _ _ _⟩, ?_, by simp, by simp, by simp, by simp, by simp; omega, by simp, by simp, by omega, by simp⟩, (by (repeat (first | assumption | apply Ext.refl | apply Ext.app | (apply Ext.set <;> omega) | exact Ext.trans (by assumption) (by assumption) | (refine Ext.trans ?_ (by assumption)))))⟩
  · rw [List.length_replicate]
    exact snoc_last _ (by simp)
  · rw [snoc_old _ (by simp), ← reps_eb]
    exact snoc_last _ rfl
def emptyFr : Fr := ⟨-1, none, some 0, [], 0, false, false⟩
def zeroFr : Fr := ⟨0, none, some 0, [], 0, false, false⟩
def initF (n i : Nat) : List Fr := (List.range n).map fun j => if j < i then emptyFr else zeroFr
theorem initF_len (n i : Nat) : (initF n i).length = n := by simp [initF]
theorem initF_set {n i : Nat} : (initF n i).set i emptyFr = initF n (i + 1) := by
  apply List.ext_getElem (by simp [initF])
  intro j h1 h2
  by_cases e : i = j
  · subst e
    rw [List.getElem_set_self]; simp [initF]
  · rw [List.getElem_set_ne e]
    simp only [initF, List.getElem_map, List.getElem_range]
    by_cases c : j < i
    · rw [if_pos c, if_pos (by omega)]
    · rw [if_neg c, if_neg (by omega)]
theorem initF_all (n : Nat) : initF n n = List.replicate n emptyFr := by
  apply List.ext_getElem (by simp [initF])
  intro j h1 h2
  have : j < n := by simpa [initF] using h1
  simp [initF, this]
theorem reps_fr : ∀ n : Nat, reps n [V.int .i64 0, V.slice none 0 (some 0), V.int .i64 0, V.bool false, V.bool false] = (List.replicate n zeroFr).flatMap Fr.enc
  | 0 => rfl
  | n + 1 => by
    have := reps_fr n
    unfold reps at *
    rw [List.replicate_succ, List.replicate_succ, List.flatten_cons, List.flatMap_cons, this]; rfl
theorem initF_zero (n : Nat) : initF n 0 = List.replicate n zeroFr := by
  apply List.ext_getElem (by simp [initF])
  intro j h1 h2
  simp [initF]
theorem newP_ok {b : Nat} {h : Heap} {di du : Nat} {D : Dk} {oid : Option Nat} (d : DAt b h di du D oid (fun _ => False)) (n : Nat) (h1 : 1 ≤ n) (h2 : n ≤ 4096) :
    WR (callE Try.prog hk 11 [.ptr (some (di, 0)), .int .i64 n] h) fun r h' => r = .tuple [.ptr (some (h.length + 1, 0)), .int .i64 0] ∧ PAt b h' ⟨h.length + 1, h.length, di, du⟩ ⟨D, D.dur.length / 1024, List.replicate n emptyFr, 0, 0⟩ oid ∧ Ext h h' := by
  have c1 : ¬ (n : Int) < 1 := by omega
  have c2 : ¬ 4096 < (n : Int) := by omega
  have sm := d.small
  have hlt := d.lt
  have hq : IntKind.i64.wrap ((D.dur.length : Int).tdiv 1024) = ((D.dur.length / 1024 : Nat) : Int) := by
    have : (D.dur.length : Int).tdiv 1024 = ((D.dur.length / 1024 : Nat) : Int) := rfl
    rw [this, IntKind.wrap_i64]; omega
  refine WR.call (hH := rfl) Try.func11 rfl (n := 39) rfl rfl (by simp) ?_
  simp -dsimp (disch := first | with_reducible assumption | omega | (intro h_; cases h_; done) | (simp only [LN] <;> omega) | (simp only [LF]; done) | (repeat (first | with_reducible assumption | apply Ext.refl | apply Ext.app | (apply Ext.set <;> omega) | (refine Ext.trans ?_ (by assumption))))) only [AX, TY, AD, mapPut, entsOf, oneV, builtinV, idsOf, mapId, touchB, Nat.reduceLT, Nat.reduceLeDiff, Nat.reduceEqDiff, Nat.reduceAdd, Nat.reduceMul, Int.reduceBEq, Int.reduceEq, Int.reduceNeg, Int.reduceLT, Int.reduceLE, Int.reduceAdd, Int.reduceSub, Int.reduceMul, Int.reduceToNat, Int.reduceGT, Nat.reduceBEq, Nat.reducePow, Nat.reduceGT, reduceCtorEq, ↓reduceIte, c1, c2]
  refine W.drawn [(0, []), (1, [0]), (4, [1, 0]), (5, [1, 0]), (2, [5, 4, 0]), (3, [5, 4, 0]), (6, []), (7, []), (8, [])] (by decide +kernel) ?_
  simp -dsimp (disch := first | with_reducible assumption | omega | (intro h_; cases h_; done) | (simp only [LN] <;> omega) | (simp only [LF]; done) | (repeat (first | with_reducible assumption | apply Ext.refl | apply Ext.app | (apply Ext.set <;> omega) | (refine Ext.trans ?_ (by assumption))))) only [AX, TY, AD, mapPut, entsOf, oneV, builtinV, idsOf, mapId, touchB, Nat.reduceLT, Nat.reduceLeDiff, Nat.reduceEqDiff, Nat.reduceAdd, Nat.reduceMul, Int.reduceBEq, Int.reduceEq, Int.reduceNeg, Int.reduceLT, Int.reduceLE, Int.reduceAdd, Int.reduceSub, Int.reduceMul, Int.reduceToNat, Int.reduceGT, Nat.reduceBEq, Nat.reducePow, Nat.reduceGT, reduceCtorEq, ↓reduceIte]
  refine (size_ok (d.ext (hh := h ++ [O.cells (reps n [V.int .i64 0, V.slice none 0 (some 0), V.int .i64 0, V.bool false, V.bool false]) .rw]) (by (repeat (first | assumption | apply Ext.refl | apply Ext.app | (apply Ext.set <;> omega) | exact Ext.trans (by assumption) (by assumption) | (refine Ext.trans ?_ (by assumption))))))).mono ?_
  rintro _ _ ⟨rfl, rfl⟩
  obtain ⟨g, hg, gf, gp, e1, hgl⟩ : ∃ g, h ++ [O.cells ((List.replicate n [V.int .i64 0, V.slice none 0 (some 0), V.int .i64 0, V.bool false, V.bool false]).flatten) .rw] ++ [O.cells [V.ptr (some (di, 0)), V.int .i64 ((D.dur.length / 1024 : Nat) : Int), V.slice (some (h.length, 0)) n (some n), V.int .i64 0, V.int .i64 0] .rw] = g ∧ g[h.length]? = some (O.cells ((List.replicate n [V.int .i64 0, V.slice none 0 (some 0), V.int .i64 0, V.bool false, V.bool false]).flatten) .rw) ∧ g[h.length + 1]? = some (O.cells [V.ptr (some (di, 0)), V.int .i64 ((D.dur.length / 1024 : Nat) : Int), V.slice (some (h.length, 0)) n (some n), V.int .i64 0, V.int .i64 0] .rw) ∧ Ext h g ∧ g.length = h.length + 2 := ⟨_, rfl, by rw [snoc_old _ (by simp)]; exact snoc_last _ rfl, snoc_last _ (by simp), (by (repeat (first | assumption | apply Ext.refl | apply Ext.app | (apply Ext.set <;> omega) | exact Ext.trans (by assumption) (by assumption) | (refine Ext.trans ?_ (by assumption))))), by simp⟩
  have hrf : (List.replicate n [V.int .i64 0, V.slice none 0 (some 0), V.int .i64 0, V.bool false, V.bool false]).flatten = (List.replicate n zeroFr).flatMap Fr.enc := reps_fr n
  rw [hrf, ← initF_zero] at gf
  simp -dsimp (disch := first | with_reducible assumption | omega | (intro h_; cases h_; done) | (simp only [LN] <;> omega) | (simp only [LF]; done) | (repeat (first | with_reducible assumption | apply Ext.refl | apply Ext.app | (apply Ext.set <;> omega) | (refine Ext.trans ?_ (by assumption))))) only [AX, TY, AD, mapPut, entsOf, oneV, builtinV, idsOf, mapId, touchB, Nat.reduceLT, Nat.reduceLeDiff, Nat.reduceEqDiff, Nat.reduceAdd, Nat.reduceMul, Int.reduceBEq, Int.reduceEq, Int.reduceNeg, Int.reduceLT, Int.reduceLE, Int.reduceAdd, Int.reduceSub, Int.reduceMul, Int.reduceToNat, Int.reduceGT, Nat.reduceBEq, Nat.reducePow, Nat.reduceGT, reduceCtorEq, ↓reduceIte, hq, hg, loadN_fact gp]
  refine W.loop (fun m τ hh => ∃ i : Nat, m + i = n ∧ τ 6 = .ptr (some (h.length + 1, 0)) ∧ τ 26 = .int .i64 n ∧ τ 27 = .int .i64 i ∧ hh[h.length]? = some (.cells ((initF n i).flatMap Fr.enc) .rw) ∧ hh.length = g.length ∧ ∀ i, i ≠ h.length → hh[i]? = g[i]?) ?_ (m := n) ?_
  rotate_left
  · refine ⟨0, by simp, ?_⟩
    simp -dsimp (disch := first | with_reducible assumption | omega | (intro h_; cases h_; done) | (simp only [LN] <;> omega) | (simp only [LF]; done) | (repeat (first | with_reducible assumption | apply Ext.refl | apply Ext.app | (apply Ext.set <;> omega) | (refine Ext.trans ?_ (by assumption))))) only [AX, TY, AD, mapPut, entsOf, oneV, builtinV, idsOf, mapId, touchB, Nat.reduceLT, Nat.reduceLeDiff, Nat.reduceEqDiff, Nat.reduceAdd, Nat.reduceMul, Int.reduceBEq, Int.reduceEq, Int.reduceNeg, Int.reduceLT, Int.reduceLE, Int.reduceAdd, Int.reduceSub, Int.reduceMul, Int.reduceToNat, Int.reduceGT, Nat.reduceBEq, Nat.reducePow, Nat.reduceGT, reduceCtorEq, ↓reduceIte]
    exact gf
  rintro m τ hh ⟨i, hm, t6, t26, t27, hf, hhl, hfr⟩
  have hfl := lt_of_some hf
  have gph : hh[h.length + 1]? = _ := (hfr _ (by omega)).trans gp
  have hgpl := lt_of_some gph
  by_cases h3 : (i : Int) < (n : Int)
  · have hi : i < (initF n i).length := by rw [initF_len]; omega
    have hz : (initF n i)[i] = zeroFr := by simp [initF]
    have hst := fr_store hf hi (o := 0) (vs := [.int .i64 (-1)]) (by simp) rfl emptyFr (by rw [hz]; rfl)
    rw [initF_set] at hst
    simp only [fld, Nat.add_zero] at hst
    have hfr' : ∀ j, j ≠ h.length → (hh.set h.length (.cells ((initF n (i + 1)).flatMap Fr.enc) .rw))[j]? = g[j]? := fun j hj => (set_other _ hj).trans (hfr j hj)
    simp -dsimp (disch := first | with_reducible assumption | omega | (intro h_; cases h_; done) | (simp only [LN] <;> omega) | (simp only [LF]; done) | (repeat (first | with_reducible assumption | apply Ext.refl | apply Ext.app | (apply Ext.set <;> omega) | (refine Ext.trans ?_ (by assumption))))) only [AX, TY, AD, mapPut, entsOf, oneV, builtinV, idsOf, mapId, touchB, Nat.reduceLT, Nat.reduceLeDiff, Nat.reduceEqDiff, Nat.reduceAdd, Nat.reduceMul, Int.reduceBEq, Int.reduceEq, Int.reduceNeg, Int.reduceLT, Int.reduceLE, Int.reduceAdd, Int.reduceSub, Int.reduceMul, Int.reduceToNat, Int.reduceGT, Nat.reduceBEq, Nat.reducePow, Nat.reduceGT, reduceCtorEq, ↓reduceIte, t6, t26, t27, h3, loadN_fact gph, hst, wrap_in]
    refine ⟨m - 1, by omega, i + 1, ?_⟩
    repeat' (first | assumption | refine And.intro ?_ ?_)
    all_goals first | rfl | omega | (simp; done) | (simp; omega; done) | skip
  simp -dsimp (disch := first | with_reducible assumption | omega | (intro h_; cases h_; done) | (simp only [LN] <;> omega) | (simp only [LF]; done) | (repeat (first | with_reducible assumption | apply Ext.refl | apply Ext.app | (apply Ext.set <;> omega) | (refine Ext.trans ?_ (by assumption))))) only [AX, TY, AD, mapPut, entsOf, oneV, builtinV, idsOf, mapId, touchB, Nat.reduceLT, Nat.reduceLeDiff, Nat.reduceEqDiff, Nat.reduceAdd, Nat.reduceMul, Int.reduceBEq, Int.reduceEq, Int.reduceNeg, Int.reduceLT, Int.reduceLE, Int.reduceAdd, Int.reduceSub, Int.reduceMul, Int.reduceToNat, Int.reduceGT, Nat.reduceBEq, Nat.reducePow, Nat.reduceGT, reduceCtorEq, ↓reduceIte, t6, t26, t27, h3]
  have hi : i = n := by omega
  subst hi
  rw [initF_all] at hf
  have e2 : Ext h hh := Ext.of_keep fun j hj => by rw [hfr j (by omega), e1.same hj]
  have d2 := d.ext e2
  refine ⟨⟨⟨d2.blk, d2.dur, fun w hw => ⟨(d2.dat w hw).1, fun a o z => ⟨((d2.dat w hw).2 a o z).1, fun q => ?_⟩⟩, d.ne1, d.ne2, d.ne3, d.small, d.inr, d.few, d.base, fun j hj => ⟨?_, fun q => ?_⟩⟩, ?_, hf, fun f hf => ?_, by simp, by rw [List.length_replicate]; exact ⟨h1, h2⟩, by rw [List.length_replicate]; exact h1⟩, e2⟩
  · have := Sl.lt (d.dat w hw).1.sl z
    rcases q with q | q
    · change a = h.length + 1 at q; omega
    · change a = h.length at q; omega
  · rcases hj with rfl | rfl
    · show h.length + 1 < hh.length; omega
    · show h.length < hh.length; omega
  · have hj' : h.length ≤ j := by
      rcases hj with q | q
      · change j = h.length + 1 at q; omega
      · change j = h.length at q; omega
    clear hj
    rcases q with q | q | q
    · change j = di at q; omega
    · change j = du at q; omega
    · have := hlt.2.2 _ q; omega
  · rw [List.length_replicate]; exact gph
  · obtain ⟨_, rfl⟩ := List.mem_replicate.1 hf
    exact ⟨Rs.nil _ _ _, fun a o z => by cases z⟩
end Go.Proofs.YtmjfhckioaempaaA
namespace Go.Proofs.YtmjfhckioaempaaA
open Go Go.Proofs Go.RowKit
set_option linter.unusedVariables false
set_option linter.unusedSimpArgs false
set_option maxRecDepth 10000
set_option maxHeartbeats 2000000
/-- A block that is none of the pool's is changed. -/
theorem PAt.keepX {b : Nat} {h hh : Heap} {I : Ids} {S : Bp} {oid : Option Nat} (d : PAt b h I S oid) {x : Nat} (hl : h.length ≤ hh.length) (hk : ∀ i, i < h.length → i ≠ x → hh[i]? = h[i]?) (hx : ¬ ownP I oid x) (hf : ∀ f ∈ S.frames, ∀ a o, f.p = some (a, o) → a ≠ x) (hw : ∀ w ∈ S.D.pend, ∀ a o, w.p = some (a, o) → a ≠ x) : PAt b hh I S oid := by
  have own : ∀ i, ownP I oid i → hh[i]? = h[i]? := fun i q => hk i (d.lt q) fun e => hx (by rw [← e]; exact q)
  obtain ⟨⟨⟨pp, pc, h1, g⟩, h2, h3, ne1, ne2, ne3, sm, inr, fw, bs, ml⟩, hp, hfr, dt, ne, n1, hn⟩ := d
  refine ⟨⟨⟨pp, pc, by rw [own _ (.inr (.inr (.inl rfl)))]; exact h1, g.keep fun i e => own _ (.inr (.inr (.inr (.inr e))))⟩, by rw [own _ (.inr (.inr (.inr (.inl rfl))))]; exact h2, fun w hw' => ⟨(h3 w hw').1.keep fun a o e => hk a (Sl.lt (h3 w hw').1.sl e) (hw w hw' a o e), (h3 w hw').2⟩, ne1, ne2, ne3, sm, inr, fw, bs, fun i m => ⟨Nat.lt_of_lt_of_le (ml i m).1 hl, (ml i m).2⟩⟩, by rw [own _ (.inl rfl)]; exact hp, by rw [own _ (.inr (.inl rfl))]; exact hfr, fun f hf' => ⟨(dt f hf').1.keep fun a o e => hk a (Sl.lt (dt f hf').1.sl e) (hf f hf' a o e), (dt f hf').2⟩, ne, n1, hn⟩
/-- A page of the contents. -/
def pg (l : List Int) (k : Nat) : List Int := (l.drop (k * 1024)).take 1024
theorem pg_put {l d : List Int} {j k : Nat} (hd : d.length = 1024) (hj : j * 1024 + 1024 ≤ l.length) (hk : k * 1024 + 1024 ≤ l.length) : pg (putL l (j * 1024) d) k = if j = k then d else pg l k := by
  unfold pg
  rw [read_put (by omega) hk]
  by_cases c : j = k
  · subst c
    rw [if_pos (by omega), if_pos rfl, hd]
    have h1 : ((l.drop (j * 1024)).take 1024).length = 1024 := by rw [List.length_take, List.length_drop]; omega
    rw [Nat.max_self, Nat.min_self, Nat.sub_self, show j * 1024 + 1024 - j * 1024 = 1024 by omega, List.drop_zero, List.take_of_length_le (show d.length ≤ 1024 by omega)]
    unfold putL
    rw [List.take_zero, List.nil_append, List.drop_of_length_le (by omega), List.append_nil]
  · rw [if_neg (by omega), if_neg c]
theorem data_c {h : Heap} (fill : Int) (n : Nat) (hn : n ≤ 100000) : WR (callE Try.prog hk 18 [.int .u8 fill, .int .i64 n] h) fun r h' => Ext h h' ∧ r = .slice (some (h.length, 0)) (dat fill n).length (some n) ∧ Sl h' (some (h.length, 0)) 1 eb (dat fill n) := by
  refine (data_ok fill n hn).mono ?_
  rintro r h2 ⟨e2, rfl, g⟩
  exact ⟨e2, by rw [dat_len], g.sl⟩
def fillB (k : Nat) : List Int := dat (IntKind.u8.wrap (k : Int)) 1024
theorem fillB_len (k : Nat) : (fillB k).length = 1024 := dat_len _ _
theorem open_pages {l : List Int} {ws : List Pw} {n : Nat} (hl : l.length = n * 1024) (hn : ws.length = n) (hw : ∀ i (hi : i < ws.length), (ws[i]).off = i * 1024 ∧ (ws[i]).data = fillB i) : (applyAll l ws).length = n * 1024 ∧ ∀ k, k < n → pg (applyAll l ws) k = fillB k := by
  have key : ∀ m, m ≤ n → (applyAll l (ws.take m)).length = n * 1024 ∧ ∀ k, k < m → pg (applyAll l (ws.take m)) k = fillB k := by
    intro m
    induction m with
    | zero => intro _; exact ⟨by rw [List.take_zero]; exact hl, fun k hk => by omega⟩
    | succ m ih =>
      intro hm
      obtain ⟨h1, h2⟩ := ih (by omega)
      have hmw : m < ws.length := by omega
      rw [applyAll_snoc hmw, (hw m hmw).1, (hw m hmw).2]
      refine ⟨by rw [putL_len (by rw [fillB_len]; omega)]; exact h1, fun k hk => ?_⟩
      rw [pg_put (fillB_len m) (by omega) (by omega)]
      by_cases c : m = k
      · rw [if_pos c, c]
      · rw [if_neg c]; exact h2 k (by omega)
  have := key n (Nat.le_refl _)
  rwa [List.take_of_length_le (by omega)] at this
theorem open_ok {h : Heap} (pages frames : Nat) (h1 : 1 ≤ pages) (h6 : pages ≤ 6) (h2 : 1 ≤ frames) (h8 : frames ≤ 8) :
    WR (callE Try.prog hk 17 [.int .i64 pages, .int .i64 frames] h) fun r h' => ∃ I D, r = .tuple [.agg [.ptr (some (I.di, 0)), .ptr (some (I.pi, 0))], .bool true] ∧ PAt h.length h' I ⟨D, pages, List.replicate frames emptyFr, 0, 0⟩ none ∧ D.pend = [] ∧ D.ctr = -1 ∧ D.failed = false ∧ D.dur.length = pages * 1024 ∧ (∀ k, k < pages → pg D.dur k = fillB k) ∧ Ext h h' ∧ h.length ≤ I.pi ∧ h.length ≤ I.di ∧ h.length ≤ I.fr := by
  have hw0 : IntKind.i64.wrap ((pages : Int) * 1024) = ((pages * 1024 : Nat) : Int) := by rw [IntKind.wrap_i64]; omega
  refine WR.call (hH := rfl) Try.func17 rfl (n := 56) rfl rfl (by simp) ?_
  obtain ⟨g, hg, g0, e1, hgl⟩ : ∃ g, h ++ [O.cells [V.ptr none, V.ptr none] .rw] = g ∧ g[h.length]? = some (O.cells [V.ptr none, V.ptr none] .rw) ∧ Ext h g ∧ g.length = h.length + 1 := ⟨_, rfl, snoc_last _ rfl, (by (repeat (first | assumption | apply Ext.refl | apply Ext.app | (apply Ext.set <;> omega) | exact Ext.trans (by assumption) (by assumption) | (refine Ext.trans ?_ (by assumption))))), by simp⟩
  simp -dsimp (disch := first | with_reducible assumption | omega | (intro h_; cases h_; done) | (simp only [LN] <;> omega) | (simp only [LF]; done) | (repeat (first | with_reducible assumption | apply Ext.refl | apply Ext.app | (apply Ext.set <;> omega) | (refine Ext.trans ?_ (by assumption))))) only [AX, TY, AD, mapPut, entsOf, oneV, builtinV, idsOf, mapId, touchB, Nat.reduceLT, Nat.reduceLeDiff, Nat.reduceEqDiff, Nat.reduceAdd, Nat.reduceMul, Int.reduceBEq, Int.reduceEq, Int.reduceNeg, Int.reduceLT, Int.reduceLE, Int.reduceAdd, Int.reduceSub, Int.reduceMul, Int.reduceToNat, Int.reduceGT, Nat.reduceBEq, Nat.reducePow, Nat.reduceGT, reduceCtorEq, ↓reduceIte, hg, hw0]
  refine (newD_ok (b := h.length) (by omega) (pages * 1024) (by omega) (by omega)).mono ?_
  rintro _ h2' ⟨rfl, d2, e2⟩
  have e12 := e1.trans e2
  simp -dsimp (disch := first | with_reducible assumption | omega | (intro h_; cases h_; done) | (simp only [LN] <;> omega) | (simp only [LF]; done) | (repeat (first | with_reducible assumption | apply Ext.refl | apply Ext.app | (apply Ext.set <;> omega) | (refine Ext.trans ?_ (by assumption))))) only [AX, TY, AD, mapPut, entsOf, oneV, builtinV, idsOf, mapId, touchB, Nat.reduceLT, Nat.reduceLeDiff, Nat.reduceEqDiff, Nat.reduceAdd, Nat.reduceMul, Int.reduceBEq, Int.reduceEq, Int.reduceNeg, Int.reduceLT, Int.reduceLE, Int.reduceAdd, Int.reduceSub, Int.reduceMul, Int.reduceToNat, Int.reduceGT, Nat.reduceBEq, Nat.reducePow, Nat.reduceGT, reduceCtorEq, ↓reduceIte]
  refine W.loop (fun m τ hh => ∃ (k : Nat) (ws : List Pw) (ok' : Option Nat), m + k = pages ∧ τ 1 = .int .i64 frames ∧ τ 4 = .ptr (some (h.length, 0)) ∧ τ 6 = .ptr (some (g.length + 1, 0)) ∧ τ 23 = .int .i64 pages ∧ τ 24 = .int .i64 k ∧ DAt h.length hh (g.length + 1) g.length ⟨List.replicate (pages * 1024) 0, ws, -1, false⟩ ok' (fun _ => False) ∧ Kp h2' hh (ownD (g.length + 1) g.length none) (ownD (g.length + 1) g.length ok') ∧ ws.length = k ∧ ∀ i (hi : i < ws.length), (ws[i]).off = i * 1024 ∧ (ws[i]).data = fillB i) ?_ (m := pages) ?_
  rotate_left
  · have k0 := Kp.ext (Ext.refl h2') (ownD (g.length + 1) g.length none)
    refine ⟨0, [], none, ?_⟩
    simp -dsimp (disch := first | with_reducible assumption | omega | (intro h_; cases h_; done) | (simp only [LN] <;> omega) | (simp only [LF]; done) | (repeat (first | with_reducible assumption | apply Ext.refl | apply Ext.app | (apply Ext.set <;> omega) | (refine Ext.trans ?_ (by assumption))))) only [AX, TY, AD, mapPut, entsOf, oneV, builtinV, idsOf, mapId, touchB, Nat.reduceLT, Nat.reduceLeDiff, Nat.reduceEqDiff, Nat.reduceAdd, Nat.reduceMul, Int.reduceBEq, Int.reduceEq, Int.reduceNeg, Int.reduceLT, Int.reduceLE, Int.reduceAdd, Int.reduceSub, Int.reduceMul, Int.reduceToNat, Int.reduceGT, Nat.reduceBEq, Nat.reducePow, Nat.reduceGT, reduceCtorEq, ↓reduceIte]
    repeat' (first | assumption | refine And.intro ?_ ?_)
    all_goals first | rfl | omega | (simp; done) | (simp; omega; done) | skip
  rintro m τ hh ⟨k, ws, ok', hm, t1, t4, t6, t23, t24, dk, kp, hwl, hws⟩
  have g0k := kp.get (e2 _ _ g0) (fun q => by
    rcases q with q | q | q
    · omega
    · omega
    · cases q)
  have hll := kp.le
  have hl2 := e2.le
  by_cases h3 : (k : Int) < (pages : Int)
  · have hk6 : k < pages := by omega
    have hoff : IntKind.i64.wrap ((k : Int) * 1024) = ((k * 1024 : Nat) : Int) := by rw [IntKind.wrap_i64]; omega
    simp -dsimp (disch := first | with_reducible assumption | omega | (intro h_; cases h_; done) | (simp only [LN] <;> omega) | (simp only [LF]; done) | (repeat (first | with_reducible assumption | apply Ext.refl | apply Ext.app | (apply Ext.set <;> omega) | (refine Ext.trans ?_ (by assumption))))) only [AX, TY, AD, mapPut, entsOf, oneV, builtinV, idsOf, mapId, touchB, Nat.reduceLT, Nat.reduceLeDiff, Nat.reduceEqDiff, Nat.reduceAdd, Nat.reduceMul, Int.reduceBEq, Int.reduceEq, Int.reduceNeg, Int.reduceLT, Int.reduceLE, Int.reduceAdd, Int.reduceSub, Int.reduceMul, Int.reduceToNat, Int.reduceGT, Nat.reduceBEq, Nat.reducePow, Nat.reduceGT, reduceCtorEq, ↓reduceIte, t1, t4, t6, t23, t24, h3, hoff]
    refine (data_c _ 1024 (by decide)).mono ?_
    rintro _ h4 ⟨e4, rfl, sl4⟩
    have d4 := dk.ext e4
    have hwr := write_ok d4 (off := k * 1024) (c := some 1024) sl4 (fun a o z => by cases z; have := dk.lt.1; omega) (by rw [dat_len]; show _ ≤ (List.replicate (pages * 1024) (0 : Int)).length; rw [List.length_replicate]; omega) (by show ws.length < _; omega) (show (-1 : Int) ≤ 9223372036854775807 by decide)
    simp -dsimp (disch := first | with_reducible assumption | omega | (intro h_; cases h_; done) | (simp only [LN] <;> omega) | (simp only [LF]; done) | (repeat (first | with_reducible assumption | apply Ext.refl | apply Ext.app | (apply Ext.set <;> omega) | (refine Ext.trans ?_ (by assumption))))) only [AX, TY, AD, mapPut, entsOf, oneV, builtinV, idsOf, mapId, touchB, Nat.reduceLT, Nat.reduceLeDiff, Nat.reduceEqDiff, Nat.reduceAdd, Nat.reduceMul, Int.reduceBEq, Int.reduceEq, Int.reduceNeg, Int.reduceLT, Int.reduceLE, Int.reduceAdd, Int.reduceSub, Int.reduceMul, Int.reduceToNat, Int.reduceGT, Nat.reduceBEq, Nat.reducePow, Nat.reduceGT, reduceCtorEq, ↓reduceIte, t1, t4, t6, t23, t24]
    refine hwr.mono ?_
    rintro _ h5 ⟨D1, o5, e5, rfl, d5, k5, wo⟩
    unfold WrO at wo
    rw [if_neg (by simp), if_neg (show ¬ (-1 : Int) = 0 by decide)] at wo
    obtain ⟨rfl, w, hw1, hw2, rfl⟩ := wo
    have k05 := (kp.trans (Kp.ext e4 _)).trans k5
    have hws5 : ∀ i (hi : i < (ws ++ [w]).length), ((ws ++ [w])[i]).off = i * 1024 ∧ ((ws ++ [w])[i]).data = fillB i := fun i hi => by
      rw [List.length_append, List.length_singleton] at hi
      by_cases c : i < ws.length
      · rw [List.getElem_append_left c]; exact hws i c
      · have : i = ws.length := by omega
        subst this
        simp only [List.getElem_append_right (Nat.le_refl _), Nat.sub_self, List.getElem_singleton]
        exact ⟨by rw [hw1, hwl], by rw [hw2]; unfold fillB; rw [hwl]⟩
    have hwl5 : (ws ++ [w]).length = k + 1 := by rw [List.length_append, hwl]; rfl
    simp -dsimp (disch := first | with_reducible assumption | omega | (intro h_; cases h_; done) | (simp only [LN] <;> omega) | (simp only [LF]; done) | (repeat (first | with_reducible assumption | apply Ext.refl | apply Ext.app | (apply Ext.set <;> omega) | (refine Ext.trans ?_ (by assumption))))) only [AX, TY, AD, mapPut, entsOf, oneV, builtinV, idsOf, mapId, touchB, Nat.reduceLT, Nat.reduceLeDiff, Nat.reduceEqDiff, Nat.reduceAdd, Nat.reduceMul, Int.reduceBEq, Int.reduceEq, Int.reduceNeg, Int.reduceLT, Int.reduceLE, Int.reduceAdd, Int.reduceSub, Int.reduceMul, Int.reduceToNat, Int.reduceGT, Nat.reduceBEq, Nat.reducePow, Nat.reduceGT, reduceCtorEq, ↓reduceIte, t1, t4, t6, t23, t24, wrap_in]
    refine ⟨m - 1, by omega, k + 1, ws ++ [w], o5, ?_⟩
    repeat' (first | assumption | refine And.intro ?_ ?_)
    all_goals first | rfl | omega | (simp; done) | (simp; omega; done) | skip
  have hkp : k = pages := by omega
  simp -dsimp (disch := first | with_reducible assumption | omega | (intro h_; cases h_; done) | (simp only [LN] <;> omega) | (simp only [LF]; done) | (repeat (first | with_reducible assumption | apply Ext.refl | apply Ext.app | (apply Ext.set <;> omega) | (refine Ext.trans ?_ (by assumption))))) only [AX, TY, AD, mapPut, entsOf, oneV, builtinV, idsOf, mapId, touchB, Nat.reduceLT, Nat.reduceLeDiff, Nat.reduceEqDiff, Nat.reduceAdd, Nat.reduceMul, Int.reduceBEq, Int.reduceEq, Int.reduceNeg, Int.reduceLT, Int.reduceLE, Int.reduceAdd, Int.reduceSub, Int.reduceMul, Int.reduceToNat, Int.reduceGT, Nat.reduceBEq, Nat.reducePow, Nat.reduceGT, reduceCtorEq, ↓reduceIte, t1, t4, t6, t23, t24, h3]
  refine (sync_ok dk rfl (show (-1 : Int) ≠ 0 by decide) (show (-1 : Int) ≤ 9223372036854775807 by decide) (fun w hw => ?_)).mono ?_
  · obtain ⟨i, hi, rfl⟩ := List.getElem_of_mem hw
    rw [(hws i hi).2, fillB_len]; omega
  rintro _ h4 ⟨rfl, d4, k4⟩
  obtain ⟨hdl, hpgs⟩ := open_pages (l := List.replicate (pages * 1024) 0) (n := pages) (by rw [List.length_replicate]) (by omega) hws
  simp -dsimp (disch := first | with_reducible assumption | omega | (intro h_; cases h_; done) | (simp only [LN] <;> omega) | (simp only [LF]; done) | (repeat (first | with_reducible assumption | apply Ext.refl | apply Ext.app | (apply Ext.set <;> omega) | (refine Ext.trans ?_ (by assumption))))) only [AX, TY, AD, mapPut, entsOf, oneV, builtinV, idsOf, mapId, touchB, Nat.reduceLT, Nat.reduceLeDiff, Nat.reduceEqDiff, Nat.reduceAdd, Nat.reduceMul, Int.reduceBEq, Int.reduceEq, Int.reduceNeg, Int.reduceLT, Int.reduceLE, Int.reduceAdd, Int.reduceSub, Int.reduceMul, Int.reduceToNat, Int.reduceGT, Nat.reduceBEq, Nat.reducePow, Nat.reduceGT, reduceCtorEq, ↓reduceIte, t1, t4, t6, t23, t24]
  refine (newP_ok d4 frames h2 (by omega)).mono ?_
  rintro _ h5 ⟨rfl, d5, e5⟩
  have hno : ¬ ownD (g.length + 1) g.length ok' h.length := fun q => by
    rcases q with q | q | q
    · omega
    · omega
    · have := dk.lt.2.2 _ q
      have := kp.ow h.length (by omega) (.inr (.inr q))
      rcases this with q | q | q
      · omega
      · omega
      · cases q
  have g05 := e5 _ _ (k4.get g0k hno)
  have hg5 := lt_of_some g05
  have hl4 := k4.le
  have hl5 := e5.le
  have hdl' : (applyAll (List.replicate (pages * 1024) 0) ws).length / 1024 = pages := by rw [hdl]; omega
  have hown : ¬ ownP ⟨h4.length + 1, h4.length, g.length + 1, g.length⟩ none h.length := fun q => by
    rcases q with q | q | q | q | q
    · change h.length = h4.length + 1 at q; omega
    · change h.length = h4.length at q; omega
    · change h.length = g.length + 1 at q; omega
    · change h.length = g.length at q; omega
    · cases q
  have e6 : Ext h (h5.set h.length (O.cells [V.ptr (some (g.length + 1, 0)), V.ptr (some (h4.length + 1, 0))] .rw)) := by
    refine Ext.set ?_ (Nat.le_refl _) _
    refine Ext.of_keep fun i hi => ?_
    rw [e5.same (by omega), k4.fr i (by omega) (fun q => ?_), kp.fr i (by omega) (fun q => ?_), e2.same (by omega), e1.same hi]
    · rcases q with q | q | q
      · omega
      · omega
      · cases q
    · rcases q with q | q | q
      · omega
      · omega
      · have := kp.ow i (by omega) (.inr (.inr q))
        rcases this with q | q | q
        · omega
        · omega
        · cases q
  have d6 : PAt h.length (h5.set h.length (O.cells [V.ptr (some (g.length + 1, 0)), V.ptr (some (h4.length + 1, 0))] .rw)) ⟨h4.length + 1, h4.length, g.length + 1, g.length⟩ ⟨⟨applyAll (List.replicate (pages * 1024) 0) ws, [], -1, false⟩, pages, List.replicate frames emptyFr, 0, 0⟩ none := by
    have d5' : PAt h.length h5 ⟨h4.length + 1, h4.length, g.length + 1, g.length⟩ ⟨⟨applyAll (List.replicate (pages * 1024) 0) ws, [], -1, false⟩, pages, List.replicate frames emptyFr, 0, 0⟩ none := by
      have := d5
      rw [hdl'] at this
      exact this
    refine d5'.keepX (x := h.length) (by rw [List.length_set]; exact Nat.le_refl _) (fun i _ hi => set_other _ hi) hown (fun f hf a o z => ?_) (by simp)
    obtain ⟨_, rfl⟩ := List.mem_replicate.1 hf
    cases z
  simp -dsimp (disch := first | with_reducible assumption | omega | (intro h_; cases h_; done) | (simp only [LN] <;> omega) | (simp only [LF]; done) | (repeat (first | with_reducible assumption | apply Ext.refl | apply Ext.app | (apply Ext.set <;> omega) | (refine Ext.trans ?_ (by assumption))))) only [AX, TY, AD, mapPut, entsOf, oneV, builtinV, idsOf, mapId, touchB, Nat.reduceLT, Nat.reduceLeDiff, Nat.reduceEqDiff, Nat.reduceAdd, Nat.reduceMul, Int.reduceBEq, Int.reduceEq, Int.reduceNeg, Int.reduceLT, Int.reduceLE, Int.reduceAdd, Int.reduceSub, Int.reduceMul, Int.reduceToNat, Int.reduceGT, Nat.reduceBEq, Nat.reducePow, Nat.reduceGT, reduceCtorEq, ↓reduceIte, t1, t4, t6, t23, t24, storeN_fact g05 (by simp)]
  exact ⟨⟨h4.length + 1, h4.length, g.length + 1, g.length⟩, _, rfl, d6, rfl, rfl, rfl, hdl, hpgs, e6, by show h.length ≤ h4.length + 1; omega, by show h.length ≤ g.length + 1; omega, by show h.length ≤ h4.length; omega⟩
end Go.Proofs.YtmjfhckioaempaaA
namespace Go.Proofs.YtmjfhckioaempaaA
open Go Go.Proofs Go.RowKit
set_option linter.unusedVariables false
set_option linter.unusedSimpArgs false
set_option maxRecDepth 10000
set_option maxHeartbeats 2000000
theorem all_ok {h : Heap} (n : Nat) (hn : n ≤ 1000) : WR (callE Try.prog hk 56 [.int .i64 n] h) fun r h' => Ext h h' ∧ ∃ p c, r = .slice p n c ∧ Sl h' p 1 ei (List.replicate n 1024) ∧ ∀ a o, p = some (a, o) → h.length ≤ a := by
  refine WR.call (hH := rfl) Try.func56 rfl (n := 15) rfl rfl (by simp) ?_
  simp -dsimp (disch := first | with_reducible assumption | omega | (intro h_; cases h_; done) | (simp only [LN] <;> omega) | (simp only [LF]; done) | (repeat (first | with_reducible assumption | apply Ext.refl | apply Ext.app | (apply Ext.set <;> omega) | (refine Ext.trans ?_ (by assumption))))) only [AX, TY, AD, mapPut, entsOf, oneV, builtinV, idsOf, mapId, touchB, Nat.reduceLT, Nat.reduceLeDiff, Nat.reduceEqDiff, Nat.reduceAdd, Nat.reduceMul, Int.reduceBEq, Int.reduceEq, Int.reduceNeg, Int.reduceLT, Int.reduceLE, Int.reduceAdd, Int.reduceSub, Int.reduceMul, Int.reduceToNat, Int.reduceGT, Nat.reduceBEq, Nat.reducePow, Nat.reduceGT, reduceCtorEq, ↓reduceIte]
  refine W.loop (fun m τ hh => Ext h hh ∧ ∃ (i : Nat) (po : Option (Nat × Nat)) (co o' : Option Nat), m + i = n ∧ τ 0 = .int .i64 n ∧ τ 3 = .slice po i co ∧ τ 4 = .int .i64 i ∧ Gr h.length hh po co o' 1 ei (List.replicate i 1024)) ?_ (m := n) ?_
  rotate_left
  · exact ⟨(by (repeat (first | assumption | apply Ext.refl | apply Ext.app | (apply Ext.set <;> omega) | exact Ext.trans (by assumption) (by assumption) | (refine Ext.trans ?_ (by assumption))))), 0, some (h.length, 0), some 0, some h.length, by simp, rfl, rfl, rfl, Gr.built (C := []) (snoc_last _ rfl) rfl (Nat.le_refl _) (by simp) (by simp) (by simp) rfl⟩
  rintro m τ hh ⟨e, i, po, co, o', hm, t0, t3, t4, gr⟩
  have le := e.le
  by_cases h1 : (i : Int) < (n : Int)
  rotate_left
  · have hi : i = n := by omega
    subst hi
    simp -dsimp (disch := first | with_reducible assumption | omega | (intro h_; cases h_; done) | (simp only [LN] <;> omega) | (simp only [LF]; done) | (repeat (first | with_reducible assumption | apply Ext.refl | apply Ext.app | (apply Ext.set <;> omega) | (refine Ext.trans ?_ (by assumption))))) only [AX, TY, AD, mapPut, entsOf, oneV, builtinV, idsOf, mapId, touchB, Nat.reduceLT, Nat.reduceLeDiff, Nat.reduceEqDiff, Nat.reduceAdd, Nat.reduceMul, Int.reduceBEq, Int.reduceEq, Int.reduceNeg, Int.reduceLT, Int.reduceLE, Int.reduceAdd, Int.reduceSub, Int.reduceMul, Int.reduceToNat, Int.reduceGT, Nat.reduceBEq, Nat.reducePow, Nat.reduceGT, reduceCtorEq, ↓reduceIte, t0, t3, t4, h1]
    exact ⟨e, po, co, rfl, gr.sl, fun a o z => gr.base a (gr.at z)⟩
  obtain ⟨p5, c5, o5, h5, hap, g5, ho5, hl5, hk5, hb5⟩ := (gr.ext (hh := hh ++ [O.cells (ei 1024) Kd.rw]) (by (repeat (first | assumption | apply Ext.refl | apply Ext.app | (apply Ext.set <;> omega) | exact Ext.trans (by assumption) (by assumption) | (refine Ext.trans ?_ (by assumption)))))).push (bytes := 8) (vc := some 1) (by simp; omega) (snoc_last _ rfl) rfl rfl (by rw [List.length_replicate]; omega) (by rw [List.length_replicate]; omega)
  rw [List.length_replicate] at hap
  have hrs : List.replicate i (1024 : Int) ++ [1024] = List.replicate (i + 1) 1024 := List.replicate_succ'.symm
  rw [hrs] at g5
  simp only [ei] at hap
  have e5 : Ext h h5 := Ext.below (h := hh ++ [O.cells (ei 1024) Kd.rw]) (by (repeat (first | assumption | apply Ext.refl | apply Ext.app | (apply Ext.set <;> omega) | exact Ext.trans (by assumption) (by assumption) | (refine Ext.trans ?_ (by assumption))))) (Nat.le_refl _) hb5
  simp -dsimp (disch := first | with_reducible assumption | omega | (intro h_; cases h_; done) | (simp only [LN] <;> omega) | (simp only [LF]; done) | (repeat (first | with_reducible assumption | apply Ext.refl | apply Ext.app | (apply Ext.set <;> omega) | (refine Ext.trans ?_ (by assumption))))) only [AX, TY, AD, mapPut, entsOf, oneV, builtinV, idsOf, mapId, touchB, Nat.reduceLT, Nat.reduceLeDiff, Nat.reduceEqDiff, Nat.reduceAdd, Nat.reduceMul, Int.reduceBEq, Int.reduceEq, Int.reduceNeg, Int.reduceLT, Int.reduceLE, Int.reduceAdd, Int.reduceSub, Int.reduceMul, Int.reduceToNat, Int.reduceGT, Nat.reduceBEq, Nat.reducePow, Nat.reduceGT, reduceCtorEq, ↓reduceIte, t0, t3, t4, h1, hap, wrap_in]
  exact ⟨m - 1, by omega, e5, i + 1, p5, c5, o5, by omega, by simp, by simp, g5⟩
theorem surv_ok {h : Heap} (n : Nat) (hn : n ≤ 1000) : WR (callE Try.prog hk 31 [.int .i64 n] h) fun r h' => Ext h h' ∧ ∃ p c, r = .slice p n c ∧ Sl h' p 1 ei (List.replicate n 1024) ∧ ∀ a o, p = some (a, o) → h.length ≤ a := by
  refine WR.call (hH := rfl) Try.func31 rfl (n := 5) rfl rfl (by simp) ?_
  simp -dsimp (disch := first | with_reducible assumption | omega | (intro h_; cases h_; done) | (simp only [LN] <;> omega) | (simp only [LF]; done) | (repeat (first | with_reducible assumption | apply Ext.refl | apply Ext.app | (apply Ext.set <;> omega) | (refine Ext.trans ?_ (by assumption))))) only [AX, TY, AD, mapPut, entsOf, oneV, builtinV, idsOf, mapId, touchB, Nat.reduceLT, Nat.reduceLeDiff, Nat.reduceEqDiff, Nat.reduceAdd, Nat.reduceMul, Int.reduceBEq, Int.reduceEq, Int.reduceNeg, Int.reduceLT, Int.reduceLE, Int.reduceAdd, Int.reduceSub, Int.reduceMul, Int.reduceToNat, Int.reduceGT, Nat.reduceBEq, Nat.reducePow, Nat.reduceGT, reduceCtorEq, ↓reduceIte]
  refine (all_ok n hn).mono ?_
  rintro r h2 ⟨e2, p, c, rfl, q⟩
  simp -dsimp (disch := first | with_reducible assumption | omega | (intro h_; cases h_; done) | (simp only [LN] <;> omega) | (simp only [LF]; done) | (repeat (first | with_reducible assumption | apply Ext.refl | apply Ext.app | (apply Ext.set <;> omega) | (refine Ext.trans ?_ (by assumption))))) only [AX, TY, AD, mapPut, entsOf, oneV, builtinV, idsOf, mapId, touchB, Nat.reduceLT, Nat.reduceLeDiff, Nat.reduceEqDiff, Nat.reduceAdd, Nat.reduceMul, Int.reduceBEq, Int.reduceEq, Int.reduceNeg, Int.reduceLT, Int.reduceLE, Int.reduceAdd, Int.reduceSub, Int.reduceMul, Int.reduceToNat, Int.reduceGT, Nat.reduceBEq, Nat.reducePow, Nat.reduceGT, reduceCtorEq, ↓reduceIte]
  exact ⟨e2, p, c, rfl, q⟩
theorem ints_ok {h : Heap} {p q : Option (Nat × Nat)} {c d : Option Nat} {xs ys : List Int} (hx : Sl h p 1 ei xs) (hy : Sl h q 1 ei ys) :
    WR (callE Try.prog hk 26 [.slice p xs.length c, .slice q ys.length d] h) fun r h' => h = h' ∧ r = .bool (decide (xs = ys)) := by
  have hnx := hx.nil'
  have hny := hy.nil'
  have hlx := hx.small
  have hly := hy.small
  refine WR.call (hH := rfl) Try.func26 rfl (n := 26) rfl rfl (by simp) ?_
  by_cases h0 : (xs.length : Int) = (ys.length : Int)
  rotate_left
  · simp -dsimp (disch := first | with_reducible assumption | omega | (intro h_; cases h_; done) | (simp only [LN] <;> omega) | (simp only [LF]; done) | (repeat (first | with_reducible assumption | apply Ext.refl | apply Ext.app | (apply Ext.set <;> omega) | (refine Ext.trans ?_ (by assumption))))) only [AX, TY, AD, mapPut, entsOf, oneV, builtinV, idsOf, mapId, touchB, Nat.reduceLT, Nat.reduceLeDiff, Nat.reduceEqDiff, Nat.reduceAdd, Nat.reduceMul, Int.reduceBEq, Int.reduceEq, Int.reduceNeg, Int.reduceLT, Int.reduceLE, Int.reduceAdd, Int.reduceSub, Int.reduceMul, Int.reduceToNat, Int.reduceGT, Nat.reduceBEq, Nat.reducePow, Nat.reduceGT, reduceCtorEq, ↓reduceIte, h0]
    rw [decide_eq_false]
    intro e; rw [e] at h0; exact h0 rfl
  simp -dsimp (disch := first | with_reducible assumption | omega | (intro h_; cases h_; done) | (simp only [LN] <;> omega) | (simp only [LF]; done) | (repeat (first | with_reducible assumption | apply Ext.refl | apply Ext.app | (apply Ext.set <;> omega) | (refine Ext.trans ?_ (by assumption))))) only [AX, TY, AD, mapPut, entsOf, oneV, builtinV, idsOf, mapId, touchB, Nat.reduceLT, Nat.reduceLeDiff, Nat.reduceEqDiff, Nat.reduceAdd, Nat.reduceMul, Int.reduceBEq, Int.reduceEq, Int.reduceNeg, Int.reduceLT, Int.reduceLE, Int.reduceAdd, Int.reduceSub, Int.reduceMul, Int.reduceToNat, Int.reduceGT, Nat.reduceBEq, Nat.reducePow, Nat.reduceGT, reduceCtorEq, ↓reduceIte, eq_true h0]
  refine W.loop (fun m τ hh => h = hh ∧ ∃ i : Nat, m + i = xs.length ∧ τ 0 = .slice p xs.length c ∧ τ 1 = .slice q ys.length d ∧ τ 5 = .int .i64 i ∧ xs.take i = ys.take i) ?_ (m := xs.length) ?_
  rotate_left
  · exact ⟨rfl, 0, by simp, rfl, rfl, rfl, by simp⟩
  rintro m τ _ ⟨rfl, i, hm, t0, t1, t5, heq⟩
  by_cases h1 : (i : Int) < (xs.length : Int)
  rotate_left
  · simp -dsimp (disch := first | with_reducible assumption | omega | (intro h_; cases h_; done) | (simp only [LN] <;> omega) | (simp only [LF]; done) | (repeat (first | with_reducible assumption | apply Ext.refl | apply Ext.app | (apply Ext.set <;> omega) | (refine Ext.trans ?_ (by assumption))))) only [AX, TY, AD, mapPut, entsOf, oneV, builtinV, idsOf, mapId, touchB, Nat.reduceLT, Nat.reduceLeDiff, Nat.reduceEqDiff, Nat.reduceAdd, Nat.reduceMul, Int.reduceBEq, Int.reduceEq, Int.reduceNeg, Int.reduceLT, Int.reduceLE, Int.reduceAdd, Int.reduceSub, Int.reduceMul, Int.reduceToNat, Int.reduceGT, Nat.reduceBEq, Nat.reducePow, Nat.reduceGT, reduceCtorEq, ↓reduceIte, t0, t1, t5, h1]
    rw [List.take_of_length_le (by omega), List.take_of_length_le (by omega)] at heq
    rw [decide_eq_true heq]
  have hi : i < xs.length := by omega
  have hj : i < ys.length := by omega
  have hla := hx.load0 (.refl _) hi (m := 1) (by decide)
  have hlb := hy.load0 (.refl _) hj (m := 1) (by decide)
  simp only [ei, List.take] at hla hlb
  by_cases hq : xs[i] = ys[i]
  · simp -dsimp (disch := first | with_reducible assumption | omega | (intro h_; cases h_; done) | (simp only [LN] <;> omega) | (simp only [LF]; done) | (repeat (first | with_reducible assumption | apply Ext.refl | apply Ext.app | (apply Ext.set <;> omega) | (refine Ext.trans ?_ (by assumption))))) only [AX, TY, AD, mapPut, entsOf, oneV, builtinV, idsOf, mapId, touchB, Nat.reduceLT, Nat.reduceLeDiff, Nat.reduceEqDiff, Nat.reduceAdd, Nat.reduceMul, Int.reduceBEq, Int.reduceEq, Int.reduceNeg, Int.reduceLT, Int.reduceLE, Int.reduceAdd, Int.reduceSub, Int.reduceMul, Int.reduceToNat, Int.reduceGT, Nat.reduceBEq, Nat.reducePow, Nat.reduceGT, reduceCtorEq, ↓reduceIte, t0, t1, t5, h1]
    refine W.drawn [(0, []), (1, [0]), (2, []), (3, []), (4, [3, 2, 1, 0]), (5, [4, 3, 2, 1, 0]), (6, [3, 2, 1, 0]), (7, [3, 2, 1, 0]), (8, [])] (by decide +kernel) ?_
    simp -dsimp (disch := first | with_reducible assumption | omega | (intro h_; cases h_; done) | (simp only [LN] <;> omega) | (simp only [LF]; done) | (repeat (first | with_reducible assumption | apply Ext.refl | apply Ext.app | (apply Ext.set <;> omega) | (refine Ext.trans ?_ (by assumption))))) only [AX, TY, AD, mapPut, entsOf, oneV, builtinV, idsOf, mapId, touchB, Nat.reduceLT, Nat.reduceLeDiff, Nat.reduceEqDiff, Nat.reduceAdd, Nat.reduceMul, Int.reduceBEq, Int.reduceEq, Int.reduceNeg, Int.reduceLT, Int.reduceLE, Int.reduceAdd, Int.reduceSub, Int.reduceMul, Int.reduceToNat, Int.reduceGT, Nat.reduceBEq, Nat.reducePow, Nat.reduceGT, reduceCtorEq, ↓reduceIte, t0, t1, t5, h1, hla, hlb, eq_true hq, wrap_in]
    refine ⟨m - 1, by omega, i + 1, by omega, by simp, ?_⟩
    rw [List.take_succ_eq_append_getElem hi, List.take_succ_eq_append_getElem hj, heq, hq]
  · simp -dsimp (disch := first | with_reducible assumption | omega | (intro h_; cases h_; done) | (simp only [LN] <;> omega) | (simp only [LF]; done) | (repeat (first | with_reducible assumption | apply Ext.refl | apply Ext.app | (apply Ext.set <;> omega) | (refine Ext.trans ?_ (by assumption))))) only [AX, TY, AD, mapPut, entsOf, oneV, builtinV, idsOf, mapId, touchB, Nat.reduceLT, Nat.reduceLeDiff, Nat.reduceEqDiff, Nat.reduceAdd, Nat.reduceMul, Int.reduceBEq, Int.reduceEq, Int.reduceNeg, Int.reduceLT, Int.reduceLE, Int.reduceAdd, Int.reduceSub, Int.reduceMul, Int.reduceToNat, Int.reduceGT, Nat.reduceBEq, Nat.reducePow, Nat.reduceGT, reduceCtorEq, ↓reduceIte, t0, t1, t5, h1]
    refine W.drawn [(0, []), (1, [0]), (2, []), (3, []), (4, [3, 2, 1, 0]), (5, [4, 3, 2, 1, 0]), (6, [3, 2, 1, 0]), (7, [3, 2, 1, 0]), (8, [])] (by decide +kernel) ?_
    simp -dsimp (disch := first | with_reducible assumption | omega | (intro h_; cases h_; done) | (simp only [LN] <;> omega) | (simp only [LF]; done) | (repeat (first | with_reducible assumption | apply Ext.refl | apply Ext.app | (apply Ext.set <;> omega) | (refine Ext.trans ?_ (by assumption))))) only [AX, TY, AD, mapPut, entsOf, oneV, builtinV, idsOf, mapId, touchB, Nat.reduceLT, Nat.reduceLeDiff, Nat.reduceEqDiff, Nat.reduceAdd, Nat.reduceMul, Int.reduceBEq, Int.reduceEq, Int.reduceNeg, Int.reduceLT, Int.reduceLE, Int.reduceAdd, Int.reduceSub, Int.reduceMul, Int.reduceToNat, Int.reduceGT, Nat.reduceBEq, Nat.reducePow, Nat.reduceGT, reduceCtorEq, ↓reduceIte, t0, t1, t5, h1, hla, hlb, hq]
    rw [decide_eq_false]
    intro e; subst e; exact hq rfl
/-- A call. -/
structure Cl where
  kind : Int
  page : Int
  n : Int
  fill : Int
def Cl.enc (c : Cl) : List V := [.int .i64 c.kind, .int .i64 c.page, .int .i64 c.n, .int .u8 c.fill]
def UpR (S : Bp) (page : Int) (data : List Int) (S' : Bp) (e : Int) : Prop :=
  (data.length ≠ 1024 ∧ S' = S ∧ e = 1) ∨ (data.length = 1024 ∧ pinF page S.frames = none ∧ S' = S ∧ e = 9) ∨
  ∃ i, ∃ hi : i < S.frames.length, data.length = 1024 ∧ pinF page S.frames = some i ∧ e = 0 ∧ ∃ p' c', S' = ⟨S.D, S.pages, S.frames.set i ⟨(S.frames[i]).page, p', c', data, (S.frames[i]).pins, true, (S.frames[i]).ref⟩, S.hand, S.reads⟩
def UnR (S : Bp) (page : Int) (S' : Bp) (e : Int) : Prop :=
  (pinF page S.frames = none ∧ S' = S ∧ e = 9) ∨ ∃ i, ∃ hi : i < S.frames.length, pinF page S.frames = some i ∧ e = 0 ∧ S' = ⟨S.D, S.pages, S.frames.set i { S.frames[i] with pins := (S.frames[i]).pins - 1 }, S.hand, S.reads⟩
/-- What a call comes to. -/
def CallR (S : Bp) (c : Cl) (S' : Bp) (e : Int) (dd : List Int) : Prop :=
  if c.kind = 0 then PinR S c.page S' e dd else dd = [] ∧ (
  if c.kind = 1 then UpR S c.page (dat c.fill 1024) S' e else
  if c.kind = 2 then UnR S c.page S' e else
  if c.kind = 3 then (∃ zs : List Int, zs.Pairwise (· ≤ ·) ∧ zs.Perm (lstP Fr.dirty S.frames) ∧ FlR zs S S' e) else
  if c.kind = 4 then S' = ⟨⟨S.D.dur, S.D.pend, max c.n (-1), S.D.failed⟩, S.pages, S.frames, S.hand, S.reads⟩ ∧ e = 0 else
  if c.kind = 5 then S' = ⟨⟨applyAll S.D.dur S.D.pend, [], -1, false⟩, S.pages, S.frames, S.hand, S.reads⟩ ∧ e = 0 else
  if c.kind = 6 then UpR S c.page (dat c.fill c.n.toNat) S' e else S' = S ∧ e = 0)
/-- A result of a call in memory. -/
def ResV (h h' : Heap) (I : Ids) (oid : Option Nat) (r : V) (e : Int) (dd : List Int) : Prop := ∃ p c, r = .tuple [.slice p dd.length c, .int .i64 e] ∧ Sl h' p 1 eb dd ∧ ∀ a o, p = some (a, o) → h.length ≤ a ∧ ¬ ownP I oid a
theorem ResV.nil {h h' : Heap} {I : Ids} {oid : Option Nat} {e : Int} : ResV h h' I oid (.tuple [.slice none 0 (some 0), .int .i64 e]) e [] := ⟨none, some 0, rfl, .nil0 _ _ _, by simp⟩
theorem call_ok {b : Nat} {h : Heap} {I : Ids} {S : Bp} {oid : Option Nat} (d : PAt b h I S oid) (ok : Okp S) (hfew : S.D.pend.length ≤ 40) (h12 : (lstP Fr.dirty S.frames).length ≤ 12) (hpl : ∀ w ∈ S.D.pend, w.data.length ≤ 1024) (c : Cl) (hn : c.kind = 6 → 0 ≤ c.n ∧ c.n ≤ 2000) :
    WR (callE Try.prog hk 19 [.agg [.ptr (some (I.di, 0)), .ptr (some (I.pi, 0))], .agg c.enc] h) fun r h' => ∃ S' oid' e dd, CallR S c S' e dd ∧ PAt b h' I S' oid' ∧ Kp h h' (ownP I oid) (ownP I oid') ∧ ResV h h' I oid' r e dd := by
  refine WR.call (hH := rfl) Try.func19 rfl (n := 64) rfl rfl (by simp) ?_
  obtain ⟨g, hg, g0, g1, e1, hgl⟩ : ∃ g, h ++ [O.cells [V.ptr (some (I.di, 0)), V.ptr (some (I.pi, 0))] .rw] ++ [O.cells (Cl.enc c) .rw] = g ∧ g[h.length]? = some (O.cells [V.ptr (some (I.di, 0)), V.ptr (some (I.pi, 0))] .rw) ∧ g[h.length + 1]? = some (O.cells (Cl.enc c) .rw) ∧ Ext h g ∧ g.length = h.length + 2 := ⟨_, rfl, by rw [snoc_old _ (by simp)]; exact snoc_last _ rfl, snoc_last _ (by simp), (by (repeat (first | assumption | apply Ext.refl | apply Ext.app | (apply Ext.set <;> omega) | exact Ext.trans (by assumption) (by assumption) | (refine Ext.trans ?_ (by assumption))))), by simp⟩
  have d1 := d.ext e1
  have k1 := Kp.ext e1 (ownP I oid)
  simp only [Cl.enc] at hg g1 ⊢
  have hl0 := lt_of_some g0
  have hl1 := lt_of_some g1
  by_cases c0 : c.kind = 0
  · simp -dsimp (disch := first | with_reducible assumption | omega | (intro h_; cases h_; done) | (simp only [LN] <;> omega) | (simp only [LF]; done) | (repeat (first | with_reducible assumption | apply Ext.refl | apply Ext.app | (apply Ext.set <;> omega) | (refine Ext.trans ?_ (by assumption))))) only [AX, TY, AD, mapPut, entsOf, oneV, builtinV, idsOf, mapId, touchB, Nat.reduceLT, Nat.reduceLeDiff, Nat.reduceEqDiff, Nat.reduceAdd, Nat.reduceMul, Int.reduceBEq, Int.reduceEq, Int.reduceNeg, Int.reduceLT, Int.reduceLE, Int.reduceAdd, Int.reduceSub, Int.reduceMul, Int.reduceToNat, Int.reduceGT, Nat.reduceBEq, Nat.reducePow, Nat.reduceGT, reduceCtorEq, ↓reduceIte, hg, loadN_fact g0, loadN_fact g1, eq_true c0]
    refine (pin_ok d1 ok c.page).mono ?_
    rintro _ h2 ⟨S', oid', e, dd, p, cc, rfl, pr, d2, k2, sl, hf⟩
    simp -dsimp (disch := first | with_reducible assumption | omega | (intro h_; cases h_; done) | (simp only [LN] <;> omega) | (simp only [LF]; done) | (repeat (first | with_reducible assumption | apply Ext.refl | apply Ext.app | (apply Ext.set <;> omega) | (refine Ext.trans ?_ (by assumption))))) only [AX, TY, AD, mapPut, entsOf, oneV, builtinV, idsOf, mapId, touchB, Nat.reduceLT, Nat.reduceLeDiff, Nat.reduceEqDiff, Nat.reduceAdd, Nat.reduceMul, Int.reduceBEq, Int.reduceEq, Int.reduceNeg, Int.reduceLT, Int.reduceLE, Int.reduceAdd, Int.reduceSub, Int.reduceMul, Int.reduceToNat, Int.reduceGT, Nat.reduceBEq, Nat.reducePow, Nat.reduceGT, reduceCtorEq, ↓reduceIte]
    refine ⟨S', oid', e, dd, by unfold CallR; rw [if_pos c0]; exact pr, d2, k1.trans k2, p, cc, rfl, sl, fun a o z => ⟨by have := (hf a o z).1; omega, (hf a o z).2⟩⟩
  by_cases c1 : c.kind = 1
  · simp -dsimp (disch := first | with_reducible assumption | omega | (intro h_; cases h_; done) | (simp only [LN] <;> omega) | (simp only [LF]; done) | (repeat (first | with_reducible assumption | apply Ext.refl | apply Ext.app | (apply Ext.set <;> omega) | (refine Ext.trans ?_ (by assumption))))) only [AX, TY, AD, mapPut, entsOf, oneV, builtinV, idsOf, mapId, touchB, Nat.reduceLT, Nat.reduceLeDiff, Nat.reduceEqDiff, Nat.reduceAdd, Nat.reduceMul, Int.reduceBEq, Int.reduceEq, Int.reduceNeg, Int.reduceLT, Int.reduceLE, Int.reduceAdd, Int.reduceSub, Int.reduceMul, Int.reduceToNat, Int.reduceGT, Nat.reduceBEq, Nat.reducePow, Nat.reduceGT, reduceCtorEq, ↓reduceIte, hg, loadN_fact g0, loadN_fact g1, c0, eq_true c1]
    refine W.drawn [(0, []), (1, []), (2, [1, 0]), (3, [1, 0]), (4, [3, 2, 1, 0]), (5, [3, 2, 1, 0]), (6, [3, 2, 1, 0]), (7, []), (8, []), (9, [])] (by decide +kernel) ?_
    simp -dsimp (disch := first | with_reducible assumption | omega | (intro h_; cases h_; done) | (simp only [LN] <;> omega) | (simp only [LF]; done) | (repeat (first | with_reducible assumption | apply Ext.refl | apply Ext.app | (apply Ext.set <;> omega) | (refine Ext.trans ?_ (by assumption))))) only [AX, TY, AD, mapPut, entsOf, oneV, builtinV, idsOf, mapId, touchB, Nat.reduceLT, Nat.reduceLeDiff, Nat.reduceEqDiff, Nat.reduceAdd, Nat.reduceMul, Int.reduceBEq, Int.reduceEq, Int.reduceNeg, Int.reduceLT, Int.reduceLE, Int.reduceAdd, Int.reduceSub, Int.reduceMul, Int.reduceToNat, Int.reduceGT, Nat.reduceBEq, Nat.reducePow, Nat.reduceGT, reduceCtorEq, ↓reduceIte, loadN_fact g0, loadN_fact g1]
    refine (data_c c.fill 1024 (by decide)).mono ?_
    rintro _ h2 ⟨e2, rfl, sl2⟩
    have s0 := sameO_ext e2 hl0
    have s1 := sameO_ext e2 hl1
    simp -dsimp (disch := first | with_reducible assumption | omega | (intro h_; cases h_; done) | (simp only [LN] <;> omega) | (simp only [LF]; done) | (repeat (first | with_reducible assumption | apply Ext.refl | apply Ext.app | (apply Ext.set <;> omega) | (refine Ext.trans ?_ (by assumption))))) only [AX, TY, AD, mapPut, entsOf, oneV, builtinV, idsOf, mapId, touchB, Nat.reduceLT, Nat.reduceLeDiff, Nat.reduceEqDiff, Nat.reduceAdd, Nat.reduceMul, Int.reduceBEq, Int.reduceEq, Int.reduceNeg, Int.reduceLT, Int.reduceLE, Int.reduceAdd, Int.reduceSub, Int.reduceMul, Int.reduceToNat, Int.reduceGT, Nat.reduceBEq, Nat.reducePow, Nat.reduceGT, reduceCtorEq, ↓reduceIte, s0, s1]
    refine (update_ok (d1.ext e2) c.page sl2 (by rw [dat_len]; decide)).mono ?_
    rintro r h3 ⟨k3, q⟩
    have le2 := e2.le
    have s2 : sameO h2[h.length]? h3[h.length]? = true := by rw [k3.fr _ (by omega) (fun z => by have := d.lt z; omega)]; exact sameO_refl _
    have s3 : sameO h2[h.length + 1]? h3[h.length + 1]? = true := by rw [k3.fr _ (by omega) (fun z => by have := d.lt z; omega)]; exact sameO_refl _
    have s4 : sameO g[h.length]? h3[h.length]? = true := by rw [k3.fr _ (by omega) (fun z => by have := d.lt z; omega), e2.same hl0]; exact sameO_refl _
    have s5 : sameO g[h.length + 1]? h3[h.length + 1]? = true := by rw [k3.fr _ (by omega) (fun z => by have := d.lt z; omega), e2.same hl1]; exact sameO_refl _
    have kk := (k1.trans (Kp.ext e2 (ownP I oid))).trans k3
    have qq : ∃ S' e, r = .int .i64 e ∧ UpR S c.page (dat c.fill 1024) S' e ∧ PAt b h3 I S' oid := by
      rcases q with ⟨h1, rfl, h2⟩ | ⟨h1, h2, rfl, h4⟩ | ⟨i, hi, h1, h2, rfl, p', c', h4⟩
      · exact ⟨S, 1, rfl, .inl ⟨h1, rfl, rfl⟩, h2⟩
      · exact ⟨S, 9, rfl, .inr (.inl ⟨h1, h2, rfl, rfl⟩), h4⟩
      · exact ⟨_, 0, rfl, .inr (.inr ⟨i, hi, h1, h2, rfl, p', c', rfl⟩), h4⟩
    obtain ⟨S', e, rfl, ur, d3⟩ := qq
    simp -dsimp (disch := first | with_reducible assumption | omega | (intro h_; cases h_; done) | (simp only [LN] <;> omega) | (simp only [LF]; done) | (repeat (first | with_reducible assumption | apply Ext.refl | apply Ext.app | (apply Ext.set <;> omega) | (refine Ext.trans ?_ (by assumption))))) only [AX, TY, AD, mapPut, entsOf, oneV, builtinV, idsOf, mapId, touchB, Nat.reduceLT, Nat.reduceLeDiff, Nat.reduceEqDiff, Nat.reduceAdd, Nat.reduceMul, Int.reduceBEq, Int.reduceEq, Int.reduceNeg, Int.reduceLT, Int.reduceLE, Int.reduceAdd, Int.reduceSub, Int.reduceMul, Int.reduceToNat, Int.reduceGT, Nat.reduceBEq, Nat.reducePow, Nat.reduceGT, reduceCtorEq, ↓reduceIte, s0, s1, s2, s3, s4, s5]
    exact ⟨S', oid, e, [], by unfold CallR; rw [if_neg c0, if_pos c1]; exact ⟨rfl, ur⟩, d3, kk, ResV.nil⟩
  by_cases c2 : c.kind = 2
  · simp -dsimp (disch := first | with_reducible assumption | omega | (intro h_; cases h_; done) | (simp only [LN] <;> omega) | (simp only [LF]; done) | (repeat (first | with_reducible assumption | apply Ext.refl | apply Ext.app | (apply Ext.set <;> omega) | (refine Ext.trans ?_ (by assumption))))) only [AX, TY, AD, mapPut, entsOf, oneV, builtinV, idsOf, mapId, touchB, Nat.reduceLT, Nat.reduceLeDiff, Nat.reduceEqDiff, Nat.reduceAdd, Nat.reduceMul, Int.reduceBEq, Int.reduceEq, Int.reduceNeg, Int.reduceLT, Int.reduceLE, Int.reduceAdd, Int.reduceSub, Int.reduceMul, Int.reduceToNat, Int.reduceGT, Nat.reduceBEq, Nat.reducePow, Nat.reduceGT, reduceCtorEq, ↓reduceIte, hg, loadN_fact g0, loadN_fact g1, c0, c1, eq_true c2]
    refine (unpin_ok d1 c.page fun f hf => (ok.pins f hf).2).mono ?_
    rintro r h3 ⟨k3, q⟩
    have qq : ∃ S' e, r = .int .i64 e ∧ UnR S c.page S' e ∧ PAt b h3 I S' oid := by
      rcases q with ⟨h1, rfl, h2⟩ | ⟨i, hi, h1, rfl, h4⟩
      · exact ⟨S, 9, rfl, .inl ⟨h1, rfl, rfl⟩, h2⟩
      · exact ⟨_, 0, rfl, .inr ⟨i, hi, h1, rfl, rfl⟩, h4⟩
    obtain ⟨S', e, rfl, ur, d3⟩ := qq
    simp -dsimp (disch := first | with_reducible assumption | omega | (intro h_; cases h_; done) | (simp only [LN] <;> omega) | (simp only [LF]; done) | (repeat (first | with_reducible assumption | apply Ext.refl | apply Ext.app | (apply Ext.set <;> omega) | (refine Ext.trans ?_ (by assumption))))) only [AX, TY, AD, mapPut, entsOf, oneV, builtinV, idsOf, mapId, touchB, Nat.reduceLT, Nat.reduceLeDiff, Nat.reduceEqDiff, Nat.reduceAdd, Nat.reduceMul, Int.reduceBEq, Int.reduceEq, Int.reduceNeg, Int.reduceLT, Int.reduceLE, Int.reduceAdd, Int.reduceSub, Int.reduceMul, Int.reduceToNat, Int.reduceGT, Nat.reduceBEq, Nat.reducePow, Nat.reduceGT, reduceCtorEq, ↓reduceIte]
    exact ⟨S', oid, e, [], by unfold CallR; rw [if_neg c0, if_neg c1, if_pos c2]; exact ⟨rfl, ur⟩, d3, k1.trans k3, ResV.nil⟩
  by_cases c3 : c.kind = 3
  · simp -dsimp (disch := first | with_reducible assumption | omega | (intro h_; cases h_; done) | (simp only [LN] <;> omega) | (simp only [LF]; done) | (repeat (first | with_reducible assumption | apply Ext.refl | apply Ext.app | (apply Ext.set <;> omega) | (refine Ext.trans ?_ (by assumption))))) only [AX, TY, AD, mapPut, entsOf, oneV, builtinV, idsOf, mapId, touchB, Nat.reduceLT, Nat.reduceLeDiff, Nat.reduceEqDiff, Nat.reduceAdd, Nat.reduceMul, Int.reduceBEq, Int.reduceEq, Int.reduceNeg, Int.reduceLT, Int.reduceLE, Int.reduceAdd, Int.reduceSub, Int.reduceMul, Int.reduceToNat, Int.reduceGT, Nat.reduceBEq, Nat.reducePow, Nat.reduceGT, reduceCtorEq, ↓reduceIte, hg, loadN_fact g0, loadN_fact g1, c0, c1, c2, eq_true c3]
    refine (flush_ok d1 ok (by omega) h12).mono ?_
    rintro _ h3 ⟨S', oid', e, zs, rfl, hs, hp, hfl, d3, k3⟩
    simp -dsimp (disch := first | with_reducible assumption | omega | (intro h_; cases h_; done) | (simp only [LN] <;> omega) | (simp only [LF]; done) | (repeat (first | with_reducible assumption | apply Ext.refl | apply Ext.app | (apply Ext.set <;> omega) | (refine Ext.trans ?_ (by assumption))))) only [AX, TY, AD, mapPut, entsOf, oneV, builtinV, idsOf, mapId, touchB, Nat.reduceLT, Nat.reduceLeDiff, Nat.reduceEqDiff, Nat.reduceAdd, Nat.reduceMul, Int.reduceBEq, Int.reduceEq, Int.reduceNeg, Int.reduceLT, Int.reduceLE, Int.reduceAdd, Int.reduceSub, Int.reduceMul, Int.reduceToNat, Int.reduceGT, Nat.reduceBEq, Nat.reducePow, Nat.reduceGT, reduceCtorEq, ↓reduceIte]
    exact ⟨S', oid', e, [], by unfold CallR; rw [if_neg c0, if_neg c1, if_neg c2, if_pos c3]; exact ⟨rfl, zs, hs, hp, hfl⟩, d3, k1.trans k3, ResV.nil⟩
  by_cases c4 : c.kind = 4
  · simp -dsimp (disch := first | with_reducible assumption | omega | (intro h_; cases h_; done) | (simp only [LN] <;> omega) | (simp only [LF]; done) | (repeat (first | with_reducible assumption | apply Ext.refl | apply Ext.app | (apply Ext.set <;> omega) | (refine Ext.trans ?_ (by assumption))))) only [AX, TY, AD, mapPut, entsOf, oneV, builtinV, idsOf, mapId, touchB, Nat.reduceLT, Nat.reduceLeDiff, Nat.reduceEqDiff, Nat.reduceAdd, Nat.reduceMul, Int.reduceBEq, Int.reduceEq, Int.reduceNeg, Int.reduceLT, Int.reduceLE, Int.reduceAdd, Int.reduceSub, Int.reduceMul, Int.reduceToNat, Int.reduceGT, Nat.reduceBEq, Nat.reducePow, Nat.reduceGT, reduceCtorEq, ↓reduceIte, hg, loadN_fact g0, loadN_fact g1, c0, c1, c2, c3, eq_true c4]
    refine (failAfter_ok d1.dk c.n).mono ?_
    rintro r h3 ⟨dk, kw⟩
    obtain ⟨d3, k3⟩ := d1.disk dk kw
    simp -dsimp (disch := first | with_reducible assumption | omega | (intro h_; cases h_; done) | (simp only [LN] <;> omega) | (simp only [LF]; done) | (repeat (first | with_reducible assumption | apply Ext.refl | apply Ext.app | (apply Ext.set <;> omega) | (refine Ext.trans ?_ (by assumption))))) only [AX, TY, AD, mapPut, entsOf, oneV, builtinV, idsOf, mapId, touchB, Nat.reduceLT, Nat.reduceLeDiff, Nat.reduceEqDiff, Nat.reduceAdd, Nat.reduceMul, Int.reduceBEq, Int.reduceEq, Int.reduceNeg, Int.reduceLT, Int.reduceLE, Int.reduceAdd, Int.reduceSub, Int.reduceMul, Int.reduceToNat, Int.reduceGT, Nat.reduceBEq, Nat.reducePow, Nat.reduceGT, reduceCtorEq, ↓reduceIte]
    exact ⟨_, oid, 0, [], by unfold CallR; rw [if_neg c0, if_neg c1, if_neg c2, if_neg c3, if_pos c4]; exact ⟨rfl, rfl, rfl⟩, d3, k1.trans k3, ResV.nil⟩
  by_cases c5 : c.kind = 5
  · simp -dsimp (disch := first | with_reducible assumption | omega | (intro h_; cases h_; done) | (simp only [LN] <;> omega) | (simp only [LF]; done) | (repeat (first | with_reducible assumption | apply Ext.refl | apply Ext.app | (apply Ext.set <;> omega) | (refine Ext.trans ?_ (by assumption))))) only [AX, TY, AD, mapPut, entsOf, oneV, builtinV, idsOf, mapId, touchB, Nat.reduceLT, Nat.reduceLeDiff, Nat.reduceEqDiff, Nat.reduceAdd, Nat.reduceMul, Int.reduceBEq, Int.reduceEq, Int.reduceNeg, Int.reduceLT, Int.reduceLE, Int.reduceAdd, Int.reduceSub, Int.reduceMul, Int.reduceToNat, Int.reduceGT, Nat.reduceBEq, Nat.reducePow, Nat.reduceGT, reduceCtorEq, ↓reduceIte, hg, loadN_fact g0, loadN_fact g1, c0, c1, c2, c3, c4, eq_true c5]
    refine W.drawn [(0, []), (1, []), (2, [1, 0]), (3, [])] (by decide +kernel) ?_
    simp -dsimp (disch := first | with_reducible assumption | omega | (intro h_; cases h_; done) | (simp only [LN] <;> omega) | (simp only [LF]; done) | (repeat (first | with_reducible assumption | apply Ext.refl | apply Ext.app | (apply Ext.set <;> omega) | (refine Ext.trans ?_ (by assumption))))) only [AX, TY, AD, mapPut, entsOf, oneV, builtinV, idsOf, mapId, touchB, Nat.reduceLT, Nat.reduceLeDiff, Nat.reduceEqDiff, Nat.reduceAdd, Nat.reduceMul, Int.reduceBEq, Int.reduceEq, Int.reduceNeg, Int.reduceLT, Int.reduceLE, Int.reduceAdd, Int.reduceSub, Int.reduceMul, Int.reduceToNat, Int.reduceGT, Nat.reduceBEq, Nat.reducePow, Nat.reduceGT, reduceCtorEq, ↓reduceIte, loadN_fact g0, loadN_fact g1]
    refine (surv_ok 40 (by decide)).mono ?_
    rintro _ h2 ⟨e2, p, cc, rfl, sl2, hpf⟩
    have le2 := e2.le
    have s0 := sameO_ext e2 hl0
    have s1 := sameO_ext e2 hl1
    simp -dsimp (disch := first | with_reducible assumption | omega | (intro h_; cases h_; done) | (simp only [LN] <;> omega) | (simp only [LF]; done) | (repeat (first | with_reducible assumption | apply Ext.refl | apply Ext.app | (apply Ext.set <;> omega) | (refine Ext.trans ?_ (by assumption))))) only [AX, TY, AD, mapPut, entsOf, oneV, builtinV, idsOf, mapId, touchB, Nat.reduceLT, Nat.reduceLeDiff, Nat.reduceEqDiff, Nat.reduceAdd, Nat.reduceMul, Int.reduceBEq, Int.reduceEq, Int.reduceNeg, Int.reduceLT, Int.reduceLE, Int.reduceAdd, Int.reduceSub, Int.reduceMul, Int.reduceToNat, Int.reduceGT, Nat.reduceBEq, Nat.reducePow, Nat.reduceGT, reduceCtorEq, ↓reduceIte, s0, s1]
    have d2 := d1.ext e2
    refine (crash_ok d2.dk sl2 (fun a o z w => by have := hpf a o z; have := d.lt (.inr (.inr w)); omega) hfew hpl).mono ?_
    rintro r h3 ⟨dk, kw⟩
    obtain ⟨d3, k3⟩ := d2.disk dk kw
    have s2 : sameO h2[h.length]? h3[h.length]? = true := by rw [k3.fr _ (by omega) (fun z => by have := d.lt z; omega)]; exact sameO_refl _
    have s4 : sameO g[h.length]? h3[h.length]? = true := by rw [k3.fr _ (by omega) (fun z => by have := d.lt z; omega), e2.same hl0]; exact sameO_refl _
    simp -dsimp (disch := first | with_reducible assumption | omega | (intro h_; cases h_; done) | (simp only [LN] <;> omega) | (simp only [LF]; done) | (repeat (first | with_reducible assumption | apply Ext.refl | apply Ext.app | (apply Ext.set <;> omega) | (refine Ext.trans ?_ (by assumption))))) only [AX, TY, AD, mapPut, entsOf, oneV, builtinV, idsOf, mapId, touchB, Nat.reduceLT, Nat.reduceLeDiff, Nat.reduceEqDiff, Nat.reduceAdd, Nat.reduceMul, Int.reduceBEq, Int.reduceEq, Int.reduceNeg, Int.reduceLT, Int.reduceLE, Int.reduceAdd, Int.reduceSub, Int.reduceMul, Int.reduceToNat, Int.reduceGT, Nat.reduceBEq, Nat.reducePow, Nat.reduceGT, reduceCtorEq, ↓reduceIte, s0, s1, s2, s4]
    exact ⟨_, none, 0, [], by unfold CallR; rw [if_neg c0, if_neg c1, if_neg c2, if_neg c3, if_neg c4, if_pos c5]; exact ⟨rfl, rfl, rfl⟩, d3, (k1.trans (Kp.ext e2 _)).trans k3, ResV.nil⟩
  by_cases c6 : c.kind = 6
  · have hnn := hn c6
    obtain ⟨nn, hnn2⟩ := Int.eq_ofNat_of_zero_le hnn.1
    rw [hnn2] at hg g1
    simp -dsimp (disch := first | with_reducible assumption | omega | (intro h_; cases h_; done) | (simp only [LN] <;> omega) | (simp only [LF]; done) | (repeat (first | with_reducible assumption | apply Ext.refl | apply Ext.app | (apply Ext.set <;> omega) | (refine Ext.trans ?_ (by assumption))))) only [AX, TY, AD, mapPut, entsOf, oneV, builtinV, idsOf, mapId, touchB, Nat.reduceLT, Nat.reduceLeDiff, Nat.reduceEqDiff, Nat.reduceAdd, Nat.reduceMul, Int.reduceBEq, Int.reduceEq, Int.reduceNeg, Int.reduceLT, Int.reduceLE, Int.reduceAdd, Int.reduceSub, Int.reduceMul, Int.reduceToNat, Int.reduceGT, Nat.reduceBEq, Nat.reducePow, Nat.reduceGT, reduceCtorEq, ↓reduceIte, hnn2, hg, loadN_fact g0, loadN_fact g1, c0, c1, c2, c3, c4, c5, eq_true c6]
    refine W.drawn [(0, []), (1, []), (2, [1, 0]), (3, [1, 0]), (4, [3, 2, 1, 0]), (5, [3, 2, 1, 0]), (6, [5, 4, 3, 2, 1, 0]), (7, [5, 4, 3, 2, 1, 0]), (8, [3, 2, 1, 0]), (9, []), (10, []), (11, [])] (by decide +kernel) ?_
    simp -dsimp (disch := first | with_reducible assumption | omega | (intro h_; cases h_; done) | (simp only [LN] <;> omega) | (simp only [LF]; done) | (repeat (first | with_reducible assumption | apply Ext.refl | apply Ext.app | (apply Ext.set <;> omega) | (refine Ext.trans ?_ (by assumption))))) only [AX, TY, AD, mapPut, entsOf, oneV, builtinV, idsOf, mapId, touchB, Nat.reduceLT, Nat.reduceLeDiff, Nat.reduceEqDiff, Nat.reduceAdd, Nat.reduceMul, Int.reduceBEq, Int.reduceEq, Int.reduceNeg, Int.reduceLT, Int.reduceLE, Int.reduceAdd, Int.reduceSub, Int.reduceMul, Int.reduceToNat, Int.reduceGT, Nat.reduceBEq, Nat.reducePow, Nat.reduceGT, reduceCtorEq, ↓reduceIte, loadN_fact g0, loadN_fact g1]
    refine (data_c c.fill nn (by omega)).mono ?_
    rintro _ h2 ⟨e2, rfl, sl2⟩
    have s0 := sameO_ext e2 hl0
    have s1 := sameO_ext e2 hl1
    simp -dsimp (disch := first | with_reducible assumption | omega | (intro h_; cases h_; done) | (simp only [LN] <;> omega) | (simp only [LF]; done) | (repeat (first | with_reducible assumption | apply Ext.refl | apply Ext.app | (apply Ext.set <;> omega) | (refine Ext.trans ?_ (by assumption))))) only [AX, TY, AD, mapPut, entsOf, oneV, builtinV, idsOf, mapId, touchB, Nat.reduceLT, Nat.reduceLeDiff, Nat.reduceEqDiff, Nat.reduceAdd, Nat.reduceMul, Int.reduceBEq, Int.reduceEq, Int.reduceNeg, Int.reduceLT, Int.reduceLE, Int.reduceAdd, Int.reduceSub, Int.reduceMul, Int.reduceToNat, Int.reduceGT, Nat.reduceBEq, Nat.reducePow, Nat.reduceGT, reduceCtorEq, ↓reduceIte, s0, s1]
    refine (update_ok (d1.ext e2) c.page sl2 (by rw [dat_len]; omega)).mono ?_
    rintro r h3 ⟨k3, q⟩
    have le2 := e2.le
    have s2 : sameO h2[h.length]? h3[h.length]? = true := by rw [k3.fr _ (by omega) (fun z => by have := d.lt z; omega)]; exact sameO_refl _
    have s3 : sameO h2[h.length + 1]? h3[h.length + 1]? = true := by rw [k3.fr _ (by omega) (fun z => by have := d.lt z; omega)]; exact sameO_refl _
    have s4 : sameO g[h.length]? h3[h.length]? = true := by rw [k3.fr _ (by omega) (fun z => by have := d.lt z; omega), e2.same hl0]; exact sameO_refl _
    have s5 : sameO g[h.length + 1]? h3[h.length + 1]? = true := by rw [k3.fr _ (by omega) (fun z => by have := d.lt z; omega), e2.same hl1]; exact sameO_refl _
    have kk := (k1.trans (Kp.ext e2 (ownP I oid))).trans k3
    have qq : ∃ S' e, r = .int .i64 e ∧ UpR S c.page (dat c.fill nn) S' e ∧ PAt b h3 I S' oid := by
      rcases q with ⟨h1, rfl, h2⟩ | ⟨h1, h2, rfl, h4⟩ | ⟨i, hi, h1, h2, rfl, p', c', h4⟩
      · exact ⟨S, 1, rfl, .inl ⟨h1, rfl, rfl⟩, h2⟩
      · exact ⟨S, 9, rfl, .inr (.inl ⟨h1, h2, rfl, rfl⟩), h4⟩
      · exact ⟨_, 0, rfl, .inr (.inr ⟨i, hi, h1, h2, rfl, p', c', rfl⟩), h4⟩
    obtain ⟨S', e, rfl, ur, d3⟩ := qq
    simp -dsimp (disch := first | with_reducible assumption | omega | (intro h_; cases h_; done) | (simp only [LN] <;> omega) | (simp only [LF]; done) | (repeat (first | with_reducible assumption | apply Ext.refl | apply Ext.app | (apply Ext.set <;> omega) | (refine Ext.trans ?_ (by assumption))))) only [AX, TY, AD, mapPut, entsOf, oneV, builtinV, idsOf, mapId, touchB, Nat.reduceLT, Nat.reduceLeDiff, Nat.reduceEqDiff, Nat.reduceAdd, Nat.reduceMul, Int.reduceBEq, Int.reduceEq, Int.reduceNeg, Int.reduceLT, Int.reduceLE, Int.reduceAdd, Int.reduceSub, Int.reduceMul, Int.reduceToNat, Int.reduceGT, Nat.reduceBEq, Nat.reducePow, Nat.reduceGT, reduceCtorEq, ↓reduceIte, s0, s1, s2, s3, s4, s5]
    have hnt : c.n.toNat = nn := by omega
    exact ⟨S', oid, e, [], by unfold CallR; rw [if_neg c0, if_neg c1, if_neg c2, if_neg c3, if_neg c4, if_neg c5, if_pos c6, hnt]; exact ⟨rfl, ur⟩, d3, kk, ResV.nil⟩
  simp -dsimp (disch := first | with_reducible assumption | omega | (intro h_; cases h_; done) | (simp only [LN] <;> omega) | (simp only [LF]; done) | (repeat (first | with_reducible assumption | apply Ext.refl | apply Ext.app | (apply Ext.set <;> omega) | (refine Ext.trans ?_ (by assumption))))) only [AX, TY, AD, mapPut, entsOf, oneV, builtinV, idsOf, mapId, touchB, Nat.reduceLT, Nat.reduceLeDiff, Nat.reduceEqDiff, Nat.reduceAdd, Nat.reduceMul, Int.reduceBEq, Int.reduceEq, Int.reduceNeg, Int.reduceLT, Int.reduceLE, Int.reduceAdd, Int.reduceSub, Int.reduceMul, Int.reduceToNat, Int.reduceGT, Nat.reduceBEq, Nat.reducePow, Nat.reduceGT, reduceCtorEq, ↓reduceIte, hg, loadN_fact g0, loadN_fact g1, c0, c1, c2, c3, c4, c5, c6]
  exact ⟨S, oid, 0, [], by unfold CallR; rw [if_neg c0, if_neg c1, if_neg c2, if_neg c3, if_neg c4, if_neg c5, if_neg c6]; exact ⟨rfl, rfl, rfl⟩, d1, k1, ResV.nil⟩
end Go.Proofs.YtmjfhckioaempaaA
