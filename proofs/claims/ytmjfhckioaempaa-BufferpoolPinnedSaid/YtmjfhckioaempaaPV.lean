/- Words of this session: chapter 16: few calls; awake; what all its laws use. -/
import Derived.Test.YtmjfhckioaempaaPS
namespace Go.Proofs.YtmjfhckioaempaaA
open Go Go.Proofs Go.RowKit
set_option linter.unusedVariables false
set_option linter.unusedSimpArgs false
set_option maxRecDepth 10000
set_option maxHeartbeats 4000000
theorem few16_ok {h : Heap} {p : Option (Nat × Nat)} {c : Option Nat} {l : List Cl} (hs : Sl h p 4 Cl.enc l) (pages frames : Int) :
    WR (callE Try.prog hk 16 [.int .i64 pages, .int .i64 frames, .slice p l.length c] h) fun r h' => h = h' ∧ ∃ b, r = .bool b ∧ (b = true → 1 ≤ pages ∧ pages ≤ 6 ∧ 1 ≤ frames ∧ frames ≤ 8 ∧ l.length ≤ 30 ∧ ∀ c ∈ l, c.kind = 6 → 0 ≤ c.n ∧ c.n ≤ 2000) := by
  have hn := hs.nil'
  have hl := hs.small
  refine WR.call (hH := rfl) Try.func16 rfl (n := 55) rfl rfl (by simp) ?_
  simp -dsimp (disch := first | with_reducible assumption | omega | (intro h_; cases h_; done) | (simp only [LN] <;> omega) | (simp only [LF]; done) | (repeat (first | with_reducible assumption | apply Ext.refl | apply Ext.app | (apply Ext.set <;> omega) | (refine Ext.trans ?_ (by assumption))))) only [AX, TY, AD, mapPut, entsOf, oneV, builtinV, idsOf, mapId, touchB, Nat.reduceLT, Nat.reduceLeDiff, Nat.reduceEqDiff, Nat.reduceAdd, Nat.reduceMul, Int.reduceBEq, Int.reduceEq, Int.reduceNeg, Int.reduceLT, Int.reduceLE, Int.reduceAdd, Int.reduceSub, Int.reduceMul, Int.reduceToNat, Int.reduceGT, Nat.reduceBEq, Nat.reducePow, Nat.reduceGT, reduceCtorEq, ↓reduceIte]
  refine W.loop (fun m τ hh => h = hh ∧ ∃ i : Nat, m + i = l.length ∧ τ 0 = .int .i64 pages ∧ τ 1 = .int .i64 frames ∧ τ 2 = .slice p l.length c ∧ τ 7 = .int .i64 i ∧ ∀ c ∈ l.take i, c.kind = 6 → 0 ≤ c.n ∧ c.n ≤ 2000) ?_ (m := l.length) ?_
  rotate_left
  · exact ⟨rfl, 0, by simp, rfl, rfl, rfl, rfl, by simp⟩
  rintro m τ _ ⟨rfl, i, hm, t0, t1, t2, t7, hall⟩
  by_cases h1 : (i : Int) < (l.length : Int)
  · have hi : i < l.length := by omega
    have hl0 := hs.load0 (.refl _) hi (m := 1) (by decide)
    have hl2 := hs.load (.refl _) hi (o := 2) (m := 1) (by decide)
    have htk := List.take_succ_eq_append_getElem hi
    generalize l[i] = x at hl0 hl2 htk
    simp only [Cl.enc, List.take, List.drop] at hl0 hl2
    by_cases c6 : x.kind = 6
    · by_cases c7 : x.n < 0
      · simp -dsimp (disch := first | with_reducible assumption | omega | (intro h_; cases h_; done) | (simp only [LN] <;> omega) | (simp only [LF]; done) | (repeat (first | with_reducible assumption | apply Ext.refl | apply Ext.app | (apply Ext.set <;> omega) | (refine Ext.trans ?_ (by assumption))))) only [AX, TY, AD, mapPut, entsOf, oneV, builtinV, idsOf, mapId, touchB, Nat.reduceLT, Nat.reduceLeDiff, Nat.reduceEqDiff, Nat.reduceAdd, Nat.reduceMul, Int.reduceBEq, Int.reduceEq, Int.reduceNeg, Int.reduceLT, Int.reduceLE, Int.reduceAdd, Int.reduceSub, Int.reduceMul, Int.reduceToNat, Int.reduceGT, Nat.reduceBEq, Nat.reducePow, Nat.reduceGT, reduceCtorEq, ↓reduceIte, t0, t1, t2, t7, h1, hl0, hl2, eq_true c6, c7]
        exact ⟨false, rfl, by simp⟩
      · by_cases c8 : 2000 < x.n
        · simp -dsimp (disch := first | with_reducible assumption | omega | (intro h_; cases h_; done) | (simp only [LN] <;> omega) | (simp only [LF]; done) | (repeat (first | with_reducible assumption | apply Ext.refl | apply Ext.app | (apply Ext.set <;> omega) | (refine Ext.trans ?_ (by assumption))))) only [AX, TY, AD, mapPut, entsOf, oneV, builtinV, idsOf, mapId, touchB, Nat.reduceLT, Nat.reduceLeDiff, Nat.reduceEqDiff, Nat.reduceAdd, Nat.reduceMul, Int.reduceBEq, Int.reduceEq, Int.reduceNeg, Int.reduceLT, Int.reduceLE, Int.reduceAdd, Int.reduceSub, Int.reduceMul, Int.reduceToNat, Int.reduceGT, Nat.reduceBEq, Nat.reducePow, Nat.reduceGT, reduceCtorEq, ↓reduceIte, t0, t1, t2, t7, h1, hl0, hl2, eq_true c6, c7, c8]
          exact ⟨false, rfl, by simp⟩
        · simp -dsimp (disch := first | with_reducible assumption | omega | (intro h_; cases h_; done) | (simp only [LN] <;> omega) | (simp only [LF]; done) | (repeat (first | with_reducible assumption | apply Ext.refl | apply Ext.app | (apply Ext.set <;> omega) | (refine Ext.trans ?_ (by assumption))))) only [AX, TY, AD, mapPut, entsOf, oneV, builtinV, idsOf, mapId, touchB, Nat.reduceLT, Nat.reduceLeDiff, Nat.reduceEqDiff, Nat.reduceAdd, Nat.reduceMul, Int.reduceBEq, Int.reduceEq, Int.reduceNeg, Int.reduceLT, Int.reduceLE, Int.reduceAdd, Int.reduceSub, Int.reduceMul, Int.reduceToNat, Int.reduceGT, Nat.reduceBEq, Nat.reducePow, Nat.reduceGT, reduceCtorEq, ↓reduceIte, t0, t1, t2, t7, h1, hl0, hl2, eq_true c6, c7, c8, wrap_in]
          refine ⟨m - 1, by omega, i + 1, by omega, by simp, fun c hc => ?_⟩
          rw [htk] at hc
          rcases List.mem_append.1 hc with hc | hc
          · exact hall c hc
          · rw [List.mem_singleton] at hc
            subst hc; intro _; omega
    · simp -dsimp (disch := first | with_reducible assumption | omega | (intro h_; cases h_; done) | (simp only [LN] <;> omega) | (simp only [LF]; done) | (repeat (first | with_reducible assumption | apply Ext.refl | apply Ext.app | (apply Ext.set <;> omega) | (refine Ext.trans ?_ (by assumption))))) only [AX, TY, AD, mapPut, entsOf, oneV, builtinV, idsOf, mapId, touchB, Nat.reduceLT, Nat.reduceLeDiff, Nat.reduceEqDiff, Nat.reduceAdd, Nat.reduceMul, Int.reduceBEq, Int.reduceEq, Int.reduceNeg, Int.reduceLT, Int.reduceLE, Int.reduceAdd, Int.reduceSub, Int.reduceMul, Int.reduceToNat, Int.reduceGT, Nat.reduceBEq, Nat.reducePow, Nat.reduceGT, reduceCtorEq, ↓reduceIte, t0, t1, t2, t7, h1, hl0, hl2, c6, wrap_in]
      refine ⟨m - 1, by omega, i + 1, by omega, by simp, fun c hc => ?_⟩
      rw [htk] at hc
      rcases List.mem_append.1 hc with hc | hc
      · exact hall c hc
      · rw [List.mem_singleton] at hc
        subst hc; intro q; exact absurd q c6
  rw [List.take_of_length_le (by omega)] at hall
  by_cases d1 : 1 ≤ pages
  rotate_left
  · simp -dsimp (disch := first | with_reducible assumption | omega | (intro h_; cases h_; done) | (simp only [LN] <;> omega) | (simp only [LF]; done) | (repeat (first | with_reducible assumption | apply Ext.refl | apply Ext.app | (apply Ext.set <;> omega) | (refine Ext.trans ?_ (by assumption))))) only [AX, TY, AD, mapPut, entsOf, oneV, builtinV, idsOf, mapId, touchB, Nat.reduceLT, Nat.reduceLeDiff, Nat.reduceEqDiff, Nat.reduceAdd, Nat.reduceMul, Int.reduceBEq, Int.reduceEq, Int.reduceNeg, Int.reduceLT, Int.reduceLE, Int.reduceAdd, Int.reduceSub, Int.reduceMul, Int.reduceToNat, Int.reduceGT, Nat.reduceBEq, Nat.reducePow, Nat.reduceGT, reduceCtorEq, ↓reduceIte, t0, t1, t2, t7, h1, d1]
    exact ⟨false, rfl, by simp⟩
  by_cases d2 : pages ≤ 6
  rotate_left
  · simp -dsimp (disch := first | with_reducible assumption | omega | (intro h_; cases h_; done) | (simp only [LN] <;> omega) | (simp only [LF]; done) | (repeat (first | with_reducible assumption | apply Ext.refl | apply Ext.app | (apply Ext.set <;> omega) | (refine Ext.trans ?_ (by assumption))))) only [AX, TY, AD, mapPut, entsOf, oneV, builtinV, idsOf, mapId, touchB, Nat.reduceLT, Nat.reduceLeDiff, Nat.reduceEqDiff, Nat.reduceAdd, Nat.reduceMul, Int.reduceBEq, Int.reduceEq, Int.reduceNeg, Int.reduceLT, Int.reduceLE, Int.reduceAdd, Int.reduceSub, Int.reduceMul, Int.reduceToNat, Int.reduceGT, Nat.reduceBEq, Nat.reducePow, Nat.reduceGT, reduceCtorEq, ↓reduceIte, t0, t1, t2, t7, h1, eq_true d1, d2]
    exact ⟨false, rfl, by simp⟩
  by_cases d3 : 1 ≤ frames
  rotate_left
  · simp -dsimp (disch := first | with_reducible assumption | omega | (intro h_; cases h_; done) | (simp only [LN] <;> omega) | (simp only [LF]; done) | (repeat (first | with_reducible assumption | apply Ext.refl | apply Ext.app | (apply Ext.set <;> omega) | (refine Ext.trans ?_ (by assumption))))) only [AX, TY, AD, mapPut, entsOf, oneV, builtinV, idsOf, mapId, touchB, Nat.reduceLT, Nat.reduceLeDiff, Nat.reduceEqDiff, Nat.reduceAdd, Nat.reduceMul, Int.reduceBEq, Int.reduceEq, Int.reduceNeg, Int.reduceLT, Int.reduceLE, Int.reduceAdd, Int.reduceSub, Int.reduceMul, Int.reduceToNat, Int.reduceGT, Nat.reduceBEq, Nat.reducePow, Nat.reduceGT, reduceCtorEq, ↓reduceIte, t0, t1, t2, t7, h1, eq_true d1, eq_true d2, d3]
    exact ⟨false, rfl, by simp⟩
  by_cases d4 : frames ≤ 8
  rotate_left
  · simp -dsimp (disch := first | with_reducible assumption | omega | (intro h_; cases h_; done) | (simp only [LN] <;> omega) | (simp only [LF]; done) | (repeat (first | with_reducible assumption | apply Ext.refl | apply Ext.app | (apply Ext.set <;> omega) | (refine Ext.trans ?_ (by assumption))))) only [AX, TY, AD, mapPut, entsOf, oneV, builtinV, idsOf, mapId, touchB, Nat.reduceLT, Nat.reduceLeDiff, Nat.reduceEqDiff, Nat.reduceAdd, Nat.reduceMul, Int.reduceBEq, Int.reduceEq, Int.reduceNeg, Int.reduceLT, Int.reduceLE, Int.reduceAdd, Int.reduceSub, Int.reduceMul, Int.reduceToNat, Int.reduceGT, Nat.reduceBEq, Nat.reducePow, Nat.reduceGT, reduceCtorEq, ↓reduceIte, t0, t1, t2, t7, h1, eq_true d1, eq_true d2, eq_true d3, d4]
    exact ⟨false, rfl, by simp⟩
  simp -dsimp (disch := first | with_reducible assumption | omega | (intro h_; cases h_; done) | (simp only [LN] <;> omega) | (simp only [LF]; done) | (repeat (first | with_reducible assumption | apply Ext.refl | apply Ext.app | (apply Ext.set <;> omega) | (refine Ext.trans ?_ (by assumption))))) only [AX, TY, AD, mapPut, entsOf, oneV, builtinV, idsOf, mapId, touchB, Nat.reduceLT, Nat.reduceLeDiff, Nat.reduceEqDiff, Nat.reduceAdd, Nat.reduceMul, Int.reduceBEq, Int.reduceEq, Int.reduceNeg, Int.reduceLT, Int.reduceLE, Int.reduceAdd, Int.reduceSub, Int.reduceMul, Int.reduceToNat, Int.reduceGT, Nat.reduceBEq, Nat.reducePow, Nat.reduceGT, reduceCtorEq, ↓reduceIte, t0, t1, t2, t7, h1, eq_true d1, eq_true d2, eq_true d3, eq_true d4]
  exact ⟨_, rfl, fun q => ⟨by have := of_decide_eq_true q; omega, hall⟩⟩
theorem PIn.init {D : Dk} {pages n : Nat} (h1 : D.pend = []) (h2 : D.dur.length = pages * 1024) (h3 : pages ≤ 4096) (h4 : D.ctr = -1) (h5 : 1 ≤ n) (h8 : n ≤ 8) : PIn ⟨D, pages, List.replicate n emptyFr, 0, 0⟩ 0 := by
  refine ⟨h2, h3, by simp; omega, fun i hi => ?_, fun i j hi hj h0 => ?_, by rw [h1]; simp, ?_, by rw [h4]; decide, ⟨Int.le_refl _, Int.le_refl _⟩, by simp; omega, by decide⟩
  · simp only [List.getElem_replicate]
    exact ⟨by decide, by decide, .inl ⟨by decide, rfl, rfl⟩⟩
  · simp only [List.getElem_replicate] at h0
    exact absurd h0 (by decide)
  · rw [h1]
    unfold dirtyN
    rw [List.countP_replicate]; simp [emptyFr]
theorem WrO.go {D D1 : Dk} {off : Nat} {data : List Int} {e : Int} (h : WrO D off data D1 e) (hf : D.failed = false) (hc : D.ctr < 0) : e = 0 ∧ D1.failed = false ∧ D1.ctr < 0 := by
  unfold WrO at h
  rw [if_neg (by simp [hf]), if_neg (by omega)] at h
  obtain ⟨rfl, w, _, _, rfl⟩ := h
  refine ⟨rfl, rfl, ?_⟩
  show decr D.ctr < 0
  unfold decr; split <;> omega
/-- A page is loaded where the disk works and a frame is free. -/
theorem lo_room {S S' : Bp} {page : Nat} {r : V} {rs : Option (Option (Nat × Nat) × Option Nat × List Int)} (hf : S.D.failed = false) (hc : S.D.ctr < 0) (hr : ∃ f ∈ S.frames, f.pins = 0) (lo : LoO S page r S' rs) : rs ≠ none ∧ S'.D.failed = false ∧ S'.D.ctr < 0 := by
  rcases lo with ⟨h1, h2, _⟩ | ⟨j, hand, cl, D1, e, ch, hj, hwe, hq⟩
  · obtain ⟨f, hf1, hf2⟩ := hr
    exact absurd hf2 (h2 f hf1)
  · have hw : e = 0 ∧ D1.failed = false ∧ D1.ctr < 0 := by
      unfold WroE at hwe
      split at hwe
      · obtain ⟨off, _, wo⟩ := hwe
        exact wo.go hf hc
      · obtain ⟨rfl, rfl⟩ := hwe
        exact ⟨rfl, hf, hc⟩
    rcases hq with ⟨he, _⟩ | ⟨_, q, _⟩ | ⟨_, _, p, c, data, _, rfl, _, rfl⟩
    · exact absurd hw.1 he
    · rw [hw.2.1] at q; cases q
    · exact ⟨by simp, hw.2.1, hw.2.2⟩
theorem one_frame {fs fs' : List Fr} {f g : Fr} {j : Nat} (h : fs = [f]) (a : Agr fs fs' j) (hn : fs'[j]'(by rw [a.len]; exact a.jl) = g) : fs' = [g] := by
  have hj := a.jl
  have hl := a.len
  rw [h] at hj hl
  simp only [List.length_cons, List.length_nil, Nat.zero_add] at hj hl
  have hj0 : j = 0 := by omega
  subst hj0
  apply List.ext_getElem (by simp; omega)
  intro i h1 h2
  have hi : i = 0 := by simp at h2; omega
  subst hi
  simpa using hn
theorem awake_ok {h : Heap} : WR (callE Try.prog hk 12 [] h) fun r h' => r = .bool true := by
  refine WR.call (hH := rfl) Try.func12 rfl (n := 70) rfl rfl (by simp) ?_
  simp -dsimp (disch := first | with_reducible assumption | omega | (intro h_; cases h_; done) | (simp only [LN] <;> omega) | (simp only [LF]; done) | (repeat (first | with_reducible assumption | apply Ext.refl | apply Ext.app | (apply Ext.set <;> omega) | (refine Ext.trans ?_ (by assumption))))) only [AX, TY, AD, mapPut, entsOf, oneV, builtinV, idsOf, mapId, touchB, Nat.reduceLT, Nat.reduceLeDiff, Nat.reduceEqDiff, Nat.reduceAdd, Nat.reduceMul, Int.reduceBEq, Int.reduceEq, Int.reduceNeg, Int.reduceLT, Int.reduceLE, Int.reduceAdd, Int.reduceSub, Int.reduceMul, Int.reduceToNat, Int.reduceGT, Nat.reduceBEq, Nat.reducePow, Nat.reduceGT, reduceCtorEq, ↓reduceIte]
  refine (newD_ok (b := h.length) (Nat.le_refl _) 3072 (by decide) (by decide)).mono ?_
  rintro _ h1 ⟨rfl, d1, e1⟩
  have hZl : (List.replicate 3072 (0 : Int)).length = 3072 := List.length_replicate
  generalize List.replicate 3072 (0 : Int) = Z at d1 hZl
  simp -dsimp (disch := first | with_reducible assumption | omega | (intro h_; cases h_; done) | (simp only [LN] <;> omega) | (simp only [LF]; done) | (repeat (first | with_reducible assumption | apply Ext.refl | apply Ext.app | (apply Ext.set <;> omega) | (refine Ext.trans ?_ (by assumption))))) only [AX, TY, AD, mapPut, entsOf, oneV, builtinV, idsOf, mapId, touchB, Nat.reduceLT, Nat.reduceLeDiff, Nat.reduceEqDiff, Nat.reduceAdd, Nat.reduceMul, Int.reduceBEq, Int.reduceEq, Int.reduceNeg, Int.reduceLT, Int.reduceLE, Int.reduceAdd, Int.reduceSub, Int.reduceMul, Int.reduceToNat, Int.reduceGT, Nat.reduceBEq, Nat.reducePow, Nat.reduceGT, reduceCtorEq, ↓reduceIte]
  refine (newP_ok d1 1 (by decide) (by decide)).mono ?_
  rintro _ h2 ⟨rfl, d2, e2⟩
  have hlr : (Dk.mk Z [] (-1) false).dur.length / 1024 = 3 := by show Z.length / 1024 = 3; rw [hZl]
  rw [hlr] at d2
  generalize hI : (⟨h1.length + 1, h1.length, h.length + 1, h.length⟩ : Ids) = I at d2
  have hpi : h1.length + 1 = I.pi := by rw [← hI]
  rw [hpi]
  have v0 : PIn ⟨⟨Z, [], -1, false⟩, 3, List.replicate 1 emptyFr, 0, 0⟩ 0 := .init rfl (by rw [hZl]) (by decide) rfl (by decide) (by decide)
  simp -dsimp (disch := first | with_reducible assumption | omega | (intro h_; cases h_; done) | (simp only [LN] <;> omega) | (simp only [LF]; done) | (repeat (first | with_reducible assumption | apply Ext.refl | apply Ext.app | (apply Ext.set <;> omega) | (refine Ext.trans ?_ (by assumption))))) only [AX, TY, AD, mapPut, entsOf, oneV, builtinV, idsOf, mapId, touchB, Nat.reduceLT, Nat.reduceLeDiff, Nat.reduceEqDiff, Nat.reduceAdd, Nat.reduceMul, Int.reduceBEq, Int.reduceEq, Int.reduceNeg, Int.reduceLT, Int.reduceLE, Int.reduceAdd, Int.reduceSub, Int.reduceMul, Int.reduceToNat, Int.reduceGT, Nat.reduceBEq, Nat.reducePow, Nat.reduceGT, reduceCtorEq, ↓reduceIte]
  refine (pin_ok d2 v0.okp 0).mono ?_
  rintro _ h3 ⟨S1, o1, e1', dd1, p1, c1, rfl, r1, d3, k3, _, _⟩
  have v1 := (pin_keeps v0 (by decide) r1)
  -- page 0 is loaded
  have q1 : e1' = 0 ∧ S1.D.failed = false ∧ S1.D.ctr < 0 ∧ S1.reads = 1 ∧ ∃ f, S1.frames = [f] ∧ f.page = 0 ∧ f.pins = 1 := by
    rcases r1 with ⟨h, _⟩ | ⟨_, _, i, hi, h, _⟩ | ⟨n, hn, hn2, hno, r, rs, lo, hq⟩
    · rcases h with h | h
      · omega
      · exact absurd h (show ¬ ((3 : Nat) : Int) ≤ 0 by decide)
    · exact absurd h (by simp [findF, findQ, emptyFr])
    · have hr := lo_room rfl (show (-1 : Int) < 0 by decide) ⟨emptyFr, by simp, rfl⟩ lo
      have hk := (lo_keeps v0 (by decide) hn2 (by rw [← hn]; exact hno) lo).2.2.2.2
      rcases hk with ⟨z, _⟩ | ⟨p, c, dd, rfl, _, hrd, _, _, j, a, hnew, _⟩
      · exact absurd z hr.1
      · have h1 := one_frame (f := emptyFr) rfl a hnew
        rcases hq with ⟨z, _⟩ | ⟨_, _, _, he⟩
        · cases z
        · exact ⟨he, hr.2.1, hr.2.2, hrd, _, h1, by show (n : Int) = 0; omega, rfl⟩
  obtain ⟨rfl, f1, c1', rd1, fr1, hfr1, pg1, pn1⟩ := q1
  simp -dsimp (disch := first | with_reducible assumption | omega | (intro h_; cases h_; done) | (simp only [LN] <;> omega) | (simp only [LF]; done) | (repeat (first | with_reducible assumption | apply Ext.refl | apply Ext.app | (apply Ext.set <;> omega) | (refine Ext.trans ?_ (by assumption))))) only [AX, TY, AD, mapPut, entsOf, oneV, builtinV, idsOf, mapId, touchB, Nat.reduceLT, Nat.reduceLeDiff, Nat.reduceEqDiff, Nat.reduceAdd, Nat.reduceMul, Int.reduceBEq, Int.reduceEq, Int.reduceNeg, Int.reduceLT, Int.reduceLE, Int.reduceAdd, Int.reduceSub, Int.reduceMul, Int.reduceToNat, Int.reduceGT, Nat.reduceBEq, Nat.reducePow, Nat.reduceGT, reduceCtorEq, ↓reduceIte]
  refine (unpin_ok d3 0 fun f hf => (v1.1.okp.pins f hf).2).mono ?_
  rintro r h4 ⟨k4, q⟩
  have hpf : pinF 0 S1.frames = some 0 := by
    have hff : findF 0 S1.frames = some 0 := by rw [hfr1]; simp [findF, findQ, pg1]
    rw [pinF_find hff (by rw [hfr1]; simp)]
    simp only [hfr1, List.getElem_cons_zero, pn1]
    rfl
  have q2 : ∃ S2, r = .int .i64 0 ∧ UnR S1 0 S2 0 ∧ PAt h.length h4 I S2 o1 ∧ S2.D = S1.D ∧ S2.reads = 1 ∧ S2.pages = S1.pages ∧ S2.frames = [{ fr1 with pins := 0 }] := by
    rcases q with ⟨z, _⟩ | ⟨i, hi, z, rfl, d⟩
    · rw [hpf] at z; cases z
    · rw [hpf] at z; cases z
      refine ⟨_, rfl, .inr ⟨0, hi, hpf, rfl, rfl⟩, d, rfl, rd1, rfl, ?_⟩
      simp only [hfr1, List.getElem_cons_zero, List.set_cons_zero, pn1]
      rfl
  obtain ⟨S2, rfl, u2, d4, hD2, rd2, pg2, hfr2⟩ := q2
  have v2 := un_keeps v1.1 (by decide) u2
  have hp3 : S2.pages = 3 := by rw [pg2, v1.2.1]
  simp -dsimp (disch := first | with_reducible assumption | omega | (intro h_; cases h_; done) | (simp only [LN] <;> omega) | (simp only [LF]; done) | (repeat (first | with_reducible assumption | apply Ext.refl | apply Ext.app | (apply Ext.set <;> omega) | (refine Ext.trans ?_ (by assumption))))) only [AX, TY, AD, mapPut, entsOf, oneV, builtinV, idsOf, mapId, touchB, Nat.reduceLT, Nat.reduceLeDiff, Nat.reduceEqDiff, Nat.reduceAdd, Nat.reduceMul, Int.reduceBEq, Int.reduceEq, Int.reduceNeg, Int.reduceLT, Int.reduceLE, Int.reduceAdd, Int.reduceSub, Int.reduceMul, Int.reduceToNat, Int.reduceGT, Nat.reduceBEq, Nat.reducePow, Nat.reduceGT, reduceCtorEq, ↓reduceIte]
  refine (pin_ok d4 v2.1.okp 1).mono ?_
  rintro _ h5 ⟨S3, o3, e3', dd3, p3, c3, rfl, r3, d5, k5, _, _⟩
  have v3 := pin_keeps v2.1 (by decide) r3
  have q3 : e3' = 0 ∧ S3.reads = 2 ∧ ∃ f, S3.frames = [f] ∧ f.page = 1 ∧ f.pins = 1 := by
    rcases r3 with ⟨h, _⟩ | ⟨_, _, i, hi, h, _⟩ | ⟨n, hn, hn2, hno, r, rs, lo, hq⟩
    · rw [hp3] at h; omega
    · rw [hfr2] at h; exact absurd h (by simp [findF, findQ, pg1])
    · have hr := lo_room (by rw [hD2]; exact f1) (by rw [hD2]; exact c1') ⟨_, by rw [hfr2]; exact List.mem_singleton.2 rfl, rfl⟩ lo
      have hk := (lo_keeps v2.1 (by decide) hn2 (by rw [← hn]; exact hno) lo).2.2.2.2
      rcases hk with ⟨z, _⟩ | ⟨p, c, dd, rfl, _, hrd, _, _, j, a, hnew, _⟩
      · exact absurd z hr.1
      · have h1 := one_frame hfr2 a hnew
        rcases hq with ⟨z, _⟩ | ⟨_, _, _, he⟩
        · cases z
        · exact ⟨he, by rw [hrd, rd2]; rfl, _, h1, by show (n : Int) = 1; omega, rfl⟩
  obtain ⟨rfl, rd3, fr3, hfr3, pg3, pn3⟩ := q3
  have hp4 : S3.pages = 3 := by rw [v3.2.1, hp3]
  simp -dsimp (disch := first | with_reducible assumption | omega | (intro h_; cases h_; done) | (simp only [LN] <;> omega) | (simp only [LF]; done) | (repeat (first | with_reducible assumption | apply Ext.refl | apply Ext.app | (apply Ext.set <;> omega) | (refine Ext.trans ?_ (by assumption))))) only [AX, TY, AD, mapPut, entsOf, oneV, builtinV, idsOf, mapId, touchB, Nat.reduceLT, Nat.reduceLeDiff, Nat.reduceEqDiff, Nat.reduceAdd, Nat.reduceMul, Int.reduceBEq, Int.reduceEq, Int.reduceNeg, Int.reduceLT, Int.reduceLE, Int.reduceAdd, Int.reduceSub, Int.reduceMul, Int.reduceToNat, Int.reduceGT, Nat.reduceBEq, Nat.reducePow, Nat.reduceGT, reduceCtorEq, ↓reduceIte]
  refine (pin_ok d5 v3.1.okp 2).mono ?_
  rintro _ h6 ⟨S4, o4, e4', dd4, p4, c4, rfl, r4, d6, k6, _, _⟩
  have v4 := pin_keeps v3.1 (by decide) r4
  have q4 : e4' = 9 ∧ S4 = S3 := by
    rcases r4 with ⟨h, _⟩ | ⟨_, _, i, hi, h, _⟩ | ⟨n, hn, hn2, hno, r, rs, lo, hq⟩
    · rw [hp4] at h; omega
    · rw [hfr3] at h; exact absurd h (by simp [findF, findQ, pg3])
    · rcases lo with ⟨h1, h2, rfl, rfl, rfl⟩ | ⟨j, hand, cl, D1, e, ch, hj, hwe, hz⟩
      · rcases hq with ⟨_, _, _, z⟩ | ⟨_, _, z, _⟩
        · simp only [V.tuple.injEq, List.cons.injEq, V.int.injEq, true_and, and_true] at z
          exact ⟨z.symm, rfl⟩
        · cases z
      · rcases ch with ⟨h1, _⟩ | ⟨_, t, vic, hjt, _⟩
        · rw [hfr3] at h1
          exact absurd h1 (by simp [emptyQ, pg3])
        · have := vic.stop.1
          have hl : S3.frames.length = 1 := by rw [hfr3]; rfl
          have hx0 : hx S3.frames.length S3.hand t = 0 := by rw [hl]; unfold hx; exact Nat.mod_one _
          rw [hx0] at this
          unfold pinsAt at this
          rw [hfr3] at this
          simp [pn3] at this
  obtain ⟨rfl, rfl⟩ := q4
  simp -dsimp (disch := first | with_reducible assumption | omega | (intro h_; cases h_; done) | (simp only [LN] <;> omega) | (simp only [LF]; done) | (repeat (first | with_reducible assumption | apply Ext.refl | apply Ext.app | (apply Ext.set <;> omega) | (refine Ext.trans ?_ (by assumption))))) only [AX, TY, AD, mapPut, entsOf, oneV, builtinV, idsOf, mapId, touchB, Nat.reduceLT, Nat.reduceLeDiff, Nat.reduceEqDiff, Nat.reduceAdd, Nat.reduceMul, Int.reduceBEq, Int.reduceEq, Int.reduceNeg, Int.reduceLT, Int.reduceLE, Int.reduceAdd, Int.reduceSub, Int.reduceMul, Int.reduceToNat, Int.reduceGT, Nat.reduceBEq, Nat.reducePow, Nat.reduceGT, reduceCtorEq, ↓reduceIte]
  refine (cached_ok d6 (v3.1.lst _)).mono ?_
  rintro _ h7 ⟨e7, p7, c7, zs, rfl, sl7, _, hp7, _⟩
  have hzs : zs = [1] := by
    have : lstP (fun _ => true) S4.frames = [1] := by rw [hfr3]; simp [lstP, lstQ, pg3]
    rw [this] at hp7
    exact List.perm_singleton.1 hp7
  subst hzs
  have d7 := d6.ext e7
  have d8 := d7.ext (hh := h7 ++ [O.cells [V.int .i64 1] .rw]) (by (repeat (first | assumption | apply Ext.refl | apply Ext.app | (apply Ext.set <;> omega) | exact Ext.trans (by assumption) (by assumption) | (refine Ext.trans ?_ (by assumption)))))
  have hin := ints_ok (c := c7) (d := some 1) (sl7.ext (hh := h7 ++ [O.cells [V.int .i64 1] .rw]) (by (repeat (first | assumption | apply Ext.refl | apply Ext.app | (apply Ext.set <;> omega) | exact Ext.trans (by assumption) (by assumption) | (refine Ext.trans ?_ (by assumption)))))) (Sl.whole (enc := ei) (ys := [1]) (snoc_last (h := h7) (O.cells [V.int .i64 1] .rw) rfl) (by simp [ei]) rfl (by simp))
  simp only [List.length_cons, List.length_nil, Nat.zero_add] at hin
  simp -dsimp (disch := first | with_reducible assumption | omega | (intro h_; cases h_; done) | (simp only [LN] <;> omega) | (simp only [LF]; done) | (repeat (first | with_reducible assumption | apply Ext.refl | apply Ext.app | (apply Ext.set <;> omega) | (refine Ext.trans ?_ (by assumption))))) only [AX, TY, AD, mapPut, entsOf, oneV, builtinV, idsOf, mapId, touchB, Nat.reduceLT, Nat.reduceLeDiff, Nat.reduceEqDiff, Nat.reduceAdd, Nat.reduceMul, Int.reduceBEq, Int.reduceEq, Int.reduceNeg, Int.reduceLT, Int.reduceLE, Int.reduceAdd, Int.reduceSub, Int.reduceMul, Int.reduceToNat, Int.reduceGT, Nat.reduceBEq, Nat.reducePow, Nat.reduceGT, reduceCtorEq, ↓reduceIte]
  refine hin.mono ?_
  rintro _ _ ⟨rfl, rfl⟩
  simp -dsimp (disch := first | with_reducible assumption | omega | (intro h_; cases h_; done) | (simp only [LN] <;> omega) | (simp only [LF]; done) | (repeat (first | with_reducible assumption | apply Ext.refl | apply Ext.app | (apply Ext.set <;> omega) | (refine Ext.trans ?_ (by assumption))))) only [AX, TY, AD, mapPut, entsOf, oneV, builtinV, idsOf, mapId, touchB, Nat.reduceLT, Nat.reduceLeDiff, Nat.reduceEqDiff, Nat.reduceAdd, Nat.reduceMul, Int.reduceBEq, Int.reduceEq, Int.reduceNeg, Int.reduceLT, Int.reduceLE, Int.reduceAdd, Int.reduceSub, Int.reduceMul, Int.reduceToNat, Int.reduceGT, Nat.reduceBEq, Nat.reducePow, Nat.reduceGT, reduceCtorEq, ↓reduceIte]
  refine (reads_ok d8).mono ?_
  rintro _ _ ⟨rfl, rfl⟩
  rw [rd3]
  simp -dsimp (disch := first | with_reducible assumption | omega | (intro h_; cases h_; done) | (simp only [LN] <;> omega) | (simp only [LF]; done) | (repeat (first | with_reducible assumption | apply Ext.refl | apply Ext.app | (apply Ext.set <;> omega) | (refine Ext.trans ?_ (by assumption))))) only [AX, TY, AD, mapPut, entsOf, oneV, builtinV, idsOf, mapId, touchB, Nat.reduceLT, Nat.reduceLeDiff, Nat.reduceEqDiff, Nat.reduceAdd, Nat.reduceMul, Int.reduceBEq, Int.reduceEq, Int.reduceNeg, Int.reduceLT, Int.reduceLE, Int.reduceAdd, Int.reduceSub, Int.reduceMul, Int.reduceToNat, Int.reduceGT, Nat.reduceBEq, Nat.reducePow, Nat.reduceGT, reduceCtorEq, ↓reduceIte]
theorem PAt.own_base {b : Nat} {h : Heap} {I : Ids} {S : Bp} {oid : Option Nat} (d : PAt b h I S oid) (h1 : b ≤ I.pi) (h2 : b ≤ I.fr) {i : Nat} (hi : i < b) : ¬ ownP I oid i := fun q => by
  obtain ⟨pp, pc, _, g⟩ := d.dk.blk
  have hb := d.dk.base
  rcases q with q | q | q | q | q
  · omega
  · omega
  · omega
  · omega
  · have := g.base i q; omega
theorem mem_cached {page : Int} {fs : List Fr} : page ∈ lstP (fun _ => true) fs ↔ ∃ i, findF page fs = some i := by
  unfold lstP lstQ
  rw [List.mem_map]
  constructor
  · rintro ⟨f, hf, rfl⟩
    obtain ⟨h1, h2⟩ := List.mem_filter.1 hf
    simp only [Bool.and_true, decide_eq_true_eq] at h2
    exact findF_ex h2 h1 rfl
  · rintro ⟨i, hi⟩
    obtain ⟨hl, h0, h1, _⟩ := findF_some hi
    exact ⟨fs[i], List.mem_filter.2 ⟨List.getElem_mem hl, by simp [h1, h0]⟩, h1⟩
/-- How many frames hold a page. -/
def neN (fs : List Fr) : Nat := (lstP (fun _ => true) fs).length
theorem neN_map {fs fs' : List Fr} (h : fs'.map Fr.page = fs.map Fr.page) : neN fs' = neN fs := by
  have key : ∀ l : List Fr, lstP (fun _ => true) l = (l.map Fr.page).filter fun x => decide (0 ≤ x) := fun l => by
    unfold lstP lstQ
    rw [List.filter_map]
    simp only [Bool.and_true]
    rfl
  unfold neN
  rw [key, key, h]
theorem len_of_subI : ∀ {a b : List Int}, a.Nodup → (∀ x ∈ a, x ∈ b) → a.length ≤ b.length
  | [], _, _, _ => Nat.zero_le _
  | x :: a, b, hn, hs => by
    rw [List.nodup_cons] at hn
    have hx := hs x (by simp)
    have := len_of_subI (b := b.erase x) hn.2 fun y hy => (List.mem_erase_of_ne (fun e => hn.1 (by rw [← e]; exact hy))).2 (hs y (by simp [hy]))
    rw [List.length_erase_of_mem hx] at this
    have := List.length_pos_of_mem hx
    simp only [List.length_cons]
    omega
theorem lst_range {S : Bp} {N : Nat} (v : PIn S N) : ∀ x ∈ lstP (fun _ => true) S.frames, x ∈ (List.range S.pages).map fun k : Nat => (k : Int) := fun x hx => by
  obtain ⟨i, hi⟩ := mem_cached.1 hx
  obtain ⟨hl, h0, h1, _⟩ := findF_some hi
  have := v.fr i hl
  obtain ⟨n, rfl⟩ := Int.eq_ofNat_of_zero_le h0
  refine List.mem_map.2 ⟨n, List.mem_range.2 ?_, rfl⟩
  rcases this.2.2 with q | q
  · omega
  · omega
theorem neN_le {S : Bp} {N : Nat} (v : PIn S N) : neN S.frames ≤ S.pages := by
  have := len_of_subI (lst_nodup v _) (lst_range v)
  rwa [List.length_map, List.length_range] at this
theorem neN_agr {fs fs' : List Fr} {j : Nat} (a : Agr fs fs' j) (h1 : 0 ≤ (fs'[j]'(by rw [a.len]; exact a.jl)).page) (h2 : (fs[j]'a.jl).page < 0) : neN fs' = neN fs + 1 := by
  have hj := a.jl
  have hj' : j < fs'.length := by rw [a.len]; exact hj
  have e1 : fs = fs.take j ++ fs[j] :: fs.drop (j + 1) := by rw [← List.drop_eq_getElem_cons hj, List.take_append_drop]
  have e2 : fs' = fs'.take j ++ fs'[j] :: fs'.drop (j + 1) := by rw [← List.drop_eq_getElem_cons hj', List.take_append_drop]
  have m1 : (fs'.take j).map Fr.page = (fs.take j).map Fr.page := by
    apply List.ext_getElem (by simp [a.len])
    intro i q1 q2
    simp only [List.length_map, List.length_take] at q1 q2
    simp only [List.getElem_map, List.getElem_take]
    exact (a.eq i (by omega) (by omega)).1
  have m2 : (fs'.drop (j + 1)).map Fr.page = (fs.drop (j + 1)).map Fr.page := by
    apply List.ext_getElem (by simp [a.len])
    intro i q1 q2
    simp only [List.length_map, List.length_drop] at q1 q2
    simp only [List.getElem_map, List.getElem_drop]
    exact (a.eq (j + 1 + i) (by omega) (by omega)).1
  have split : ∀ (x y : List Fr) (f : Fr), neN (x ++ f :: y) = neN x + ((if 0 ≤ f.page then 1 else 0) + neN y) := fun x y f => by
    unfold neN lstP lstQ
    rw [List.length_map, List.length_map, List.length_map, List.filter_append, List.length_append, List.filter_cons]
    simp only [Bool.and_true, decide_eq_true_eq]
    split
    · rw [List.length_cons]; omega
    · omega
  rw [e2, split, neN_map m1, neN_map m2, if_pos h1]
  conv => rhs; rw [e1, split, if_neg (show ¬ 0 ≤ (fs[j]).page by omega)]
  omega
/-- The number of loads, where there are frames enough. -/
theorem reads_step {S S' : Bp} {N : Nat} {c : Cl} {e : Int} {dd : List Int} (v : PIn S N) (hN : N + 1 ≤ 1000) (hcn : c.n ≤ 9223372036854775807) (cr : CallR S c S' e dd) (hfr : S.pages ≤ S.frames.length) (hr : S.reads = neN S.frames) : S'.reads = neN S'.frames := by
  obtain ⟨k1, k2, k3, k4, k5, k6, k7⟩ := call_keeps v hN hcn cr
  rcases k7 with ⟨q1, q2, q3⟩ | ⟨q1, q2, q3, q4, j, a, q5, q6⟩
  · rw [q1, neN_map q2, hr]
  · obtain ⟨n, hn, hn2, _⟩ := k6 q1 q3
    rcases q6 with q6 | q6
    · rw [q2, neN_agr a (by rw [q5, hn]; omega) q6, hr]; rfl
    · exfalso
      have hnot : c.page ∉ lstP (fun _ => true) S.frames := fun q => by
        obtain ⟨i, hi⟩ := mem_cached.1 q
        rw [q4] at hi; cases hi
      have hnd : (c.page :: lstP (fun _ => true) S.frames).Nodup := List.nodup_cons.2 ⟨hnot, lst_nodup v _⟩
      have hl := len_of_subI (b := (List.range S.pages).map fun k : Nat => (k : Int)) hnd fun x hx => by
        rcases List.mem_cons.1 hx with rfl | hx
        · rw [hn]; exact List.mem_map.2 ⟨n, List.mem_range.2 hn2, rfl⟩
        · exact lst_range v x hx
      rw [List.length_cons, List.length_map, List.length_range] at hl
      have hall : (lstP (fun _ => true) S.frames).length = S.frames.length := by
        unfold lstP
        rw [List.length_map, List.filter_eq_self.2]
        intro f hf
        unfold lstQ
        simp [q6 f hf]
      omega
/-- A pool in the midst of a law: i calls done; what was there at the start (h0) is kept. -/
structure Mid (b : Nat) (h0 : Heap) (I : Ids) (pages frames : Nat) (i : Nat) (S : Bp) (oid : Option Nat) (hh : Heap) : Prop where
  at' : PAt b hh I S oid
  inv : PIn S i
  pages : S.pages = pages
  frames : S.frames.length = frames
  kp : Kp h0 hh (ownP I none) (ownP I oid)
theorem Mid.ext {b : Nat} {h0 : Heap} {I : Ids} {pages frames i : Nat} {S : Bp} {oid : Option Nat} {hh h2 : Heap} (m : Mid b h0 I pages frames i S oid hh) (e : Ext hh h2) : Mid b h0 I pages frames i S oid h2 := ⟨m.at'.ext e, m.inv, m.pages, m.frames, m.kp.trans (Kp.ext e _)⟩
theorem Mid.crash {b : Nat} {h0 : Heap} {I : Ids} {pages frames i : Nat} {S : Bp} {oid : Option Nat} {hh : Heap} (m : Mid b h0 I pages frames i S oid hh) (hi : i ≤ 40) : S.D.pend.length ≤ 40 ∧ ∀ w ∈ S.D.pend, w.data.length ≤ 1024 := by
  refine ⟨by have := m.inv.cnt; omega, fun w hw => ?_⟩
  obtain ⟨k, _, h, _⟩ := m.inv.pd w hw
  omega
/-- One call within a law. -/
theorem Mid.call {b : Nat} {h0 : Heap} {I : Ids} {pages frames i : Nat} {S : Bp} {oid : Option Nat} {hh : Heap} (m : Mid b h0 I pages frames i S oid hh) (hi : i ≤ 40) (c : Cl) (hn : c.kind = 6 → 0 ≤ c.n ∧ c.n ≤ 2000) (hcn : c.n ≤ 9223372036854775807) :
    WR (callE Try.prog hk 19 [.agg [.ptr (some (I.di, 0)), .ptr (some (I.pi, 0))], .agg c.enc] hh) fun r h' => ∃ S' oid' e dd, CallR S c S' e dd ∧ Mid b h0 I pages frames (i + 1) S' oid' h' ∧ Kp hh h' (ownP I oid) (ownP I oid') ∧ ResV hh h' I oid' r e dd := by
  have hc := m.crash hi
  refine (call_ok m.at' m.inv.okp hc.1 (m.inv.lst _) hc.2 c hn).mono ?_
  rintro r h2 ⟨S', oid', e, dd, cr, d, k, q⟩
  have hk := call_keeps m.inv (by omega) hcn cr
  exact ⟨S', oid', e, dd, cr, ⟨d, hk.1, hk.2.1.trans m.pages, hk.2.2.1.trans m.frames, m.kp.trans k⟩, k, q⟩
@[reducible] def kCl : Kn := .cat (.int .i64) (.cat (.int .i64) (.cat (.int .i64) (.int .u8)))
def ClOk (c : Cl) : Prop := c.n ≤ 9223372036854775807 ∧ 0 ≤ c.fill ∧ c.fill ≤ 255
theorem cl_of {h : Heap} {r : List V} (q : Vw h kCl r) : ∃ y, r = Cl.enc y ∧ ClOk y := by
  obtain ⟨_, _, rfl, ⟨a, rfl, wa⟩, _, _, rfl, ⟨b, rfl, wb⟩, _, _, rfl, ⟨c, rfl, wc⟩, d, rfl, wd⟩ := q
  exact ⟨⟨a, b, c, d⟩, rfl, (wf_i64 wc).2, wf_u8 wd⟩
theorem ArgV.cls {h : Heap} {v : V} (q : ArgV false (.slice 4 32 kCl) h v) : ∃ (p : Option (Nat × Nat)) (c : Nat) (ys : List Cl), v = .slice p ys.length (some c) ∧ Sl h p 4 Cl.enc ys ∧ ∀ y ∈ ys, ClOk y := by
  obtain ⟨p, c, ys, h1, h2, h3, _⟩ := q.sl (by decide) Cl.enc ClOk fun r => cl_of
  exact ⟨p, c, ys, h1, h2, h3⟩
end Go.Proofs.YtmjfhckioaempaaA
