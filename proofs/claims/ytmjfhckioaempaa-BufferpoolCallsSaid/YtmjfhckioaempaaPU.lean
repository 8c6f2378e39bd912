/- Words of this session: chapter 16: BufferpoolCalls. Words of this session: chapter 16: the row of BufferpoolCalls. -/
import Derived.Test.YtmjfhckioaempaaPK
namespace Go.Proofs.YtmjfhckioaempaaA
open Go Go.Proofs Go.RowKit
set_option linter.unusedVariables false
set_option linter.unusedSimpArgs false
set_option maxRecDepth 10000
set_option maxHeartbeats 4000000
section
variable {h : Heap} {x : Nat} {A B : List V} {p : Option (Nat × Nat)} {c : Option Nat} {ys : List Int}
theorem Sl.swap (s : Sl h p 1 eb ys) (hx : h[x]? = some (.cells A .rw)) (hl : B.length = A.length) (hA : ∀ z, V.int .u8 z ∉ A) : Sl (h.set x (.cells B .rw)) p 1 eb ys := by
  by_cases c : ∃ o, p = some (x, o)
  · obtain ⟨o, rfl⟩ := c
    have hy : ys = [] := by
      cases ys with
      | nil => rfl
      | cons y ys =>
        obtain ⟨C, k, h1, h2, h3⟩ := s.reads x o rfl
        rw [hx] at h1; cases h1
        have := h3 0 y rfl
        have hm : V.int .u8 y ∈ (A.drop (o + 0 * 1)).take 1 := by rw [this]; simp [eb]
        exact absurd (List.mem_of_mem_drop (List.mem_of_mem_take hm)) (hA y)
    subst hy
    refine ⟨fun q => rfl, by simp, fun a b q => ?_, by simp⟩
    cases q
    obtain ⟨C, k, h1, h2, h3⟩ := s.reads x o rfl
    rw [hx] at h1; cases h1
    exact ⟨B, .rw, set_same _ (lt_of_some hx), by simpa [hl] using h2, by simp⟩
  · exact s.keep fun a o z => set_other _ (fun q => c ⟨o, by rw [z, q]⟩)
theorem Rs.swap (r : Rs h p c 1 eb ys) (hx : h[x]? = some (.cells A .rw)) (hl : B.length = A.length) (hA : ∀ z, V.int .u8 z ∉ A) : Rs (h.set x (.cells B .rw)) p c 1 eb ys := by
  refine ⟨r.sl.swap hx hl hA, r.room, fun hc => ?_⟩
  have := r.fit hc
  cases p with
  | none => rfl
  | some q =>
    obtain ⟨a, o⟩ := q
    by_cases e : a = x
    · subst e; simp [fitsV, hx] at this
    · simp only [fitsV, set_other _ e] at this ⊢; exact this
end
theorem PAt.swap {b : Nat} {h : Heap} {I : Ids} {S : Bp} {oid : Option Nat} (d : PAt b h I S oid) {x : Nat} {A B : List V} (hx : h[x]? = some (.cells A .rw)) (hn : ¬ ownP I oid x) (hl : B.length = A.length) (hA : ∀ z, V.int .u8 z ∉ A) : PAt b (h.set x (.cells B .rw)) I S oid := by
  have own : ∀ i, ownP I oid i → (h.set x (.cells B .rw))[i]? = h[i]? := fun i q => set_other _ fun e => hn (by rw [← e]; exact q)
  obtain ⟨⟨⟨pp, pc, h1, g⟩, h2, h3, ne1, ne2, ne3, sm, inr, fw, bs, ml⟩, hp, hfr, dt, ne, n1, hd⟩ := d
  exact ⟨⟨⟨pp, pc, by rw [own _ (.inr (.inr (.inl rfl)))]; exact h1, g.keep fun i e => own _ (.inr (.inr (.inr (.inr e))))⟩, by rw [own _ (.inr (.inr (.inr (.inl rfl))))]; exact h2, fun w hw' => ⟨(h3 w hw').1.swap hx hl hA, (h3 w hw').2⟩, ne1, ne2, ne3, sm, inr, fw, bs, fun i m => ⟨by rw [List.length_set]; exact (ml i m).1, (ml i m).2⟩⟩, by rw [own _ (.inl rfl)]; exact hp, by rw [own _ (.inr (.inl rfl))]; exact hfr, fun f hf' => ⟨(dt f hf').1.swap hx hl hA, (dt f hf').2⟩, ne, n1, hd⟩
theorem Mid.swap {b : Nat} {h0 : Heap} {I : Ids} {pages frames i : Nat} {S : Bp} {oid : Option Nat} {hh : Heap} (m : Mid b h0 I pages frames i S oid hh) {x : Nat} {A B : List V} (hx : hh[x]? = some (.cells A .rw)) (hn : ¬ ownP I oid x) (hl : B.length = A.length) (hA : ∀ z, V.int .u8 z ∉ A) (h0x : h0.length ≤ x) : Mid b h0 I pages frames i S oid (hh.set x (.cells B .rw)) :=
  ⟨m.at'.swap hx hn hl hA, m.inv, m.pages, m.frames, ⟨by rw [List.length_set]; exact m.kp.le, fun j hj hn' => by rw [set_other _ (by omega)]; exact m.kp.fr j hj hn', m.kp.ow⟩⟩
theorem dirty_er (fs : List Fr) : dirtyN (fs.map erF) = dirtyN fs := by
  unfold dirtyN
  rw [List.countP_map]
  rfl
theorem PIn.same {S M : Bp} {N : Nat} (v : PIn S N) (h : er S = er M) : PIn M N := by
  obtain ⟨h1, h2, h3, h4, h5⟩ := er_parts h
  obtain ⟨p1, p2, p3, p4⟩ := erD_parts h1
  have hl := fr_len h3
  have hpl : S.D.pend.length = M.D.pend.length := by have := congrArg List.length p2; simpa using this
  refine ⟨by rw [← p1, ← h2]; exact v.dur, by rw [← h2]; exact v.pages, by rw [← hl]; exact v.fl, fun i hi => ?_, fun i j hi hj a b => ?_, fun w hw => ?_, by rw [← hpl, ← dirty_er, ← h3, dirty_er]; exact v.cnt, by rw [← p3]; exact v.ctr, by rw [← h5]; exact v.reads, by rw [← h4, ← hl]; exact v.hand, v.big⟩
  · obtain ⟨f1, f2, f3, f4, f5⟩ := erF_parts (fr_at h3 (by omega) hi)
    have := v.fr i (by omega)
    have hc : cur S.D = cur M.D := apply_eq h1
    unfold FrOk at this ⊢
    rw [← f1, ← f2, ← f3, ← f4, ← h2, ← hc]
    exact this
  · have hi' : i < S.frames.length := by omega
    have hj' : j < S.frames.length := by omega
    have e1 := (erF_parts (fr_at h3 hi' hi)).1
    have e2 := (erF_parts (fr_at h3 hj' hj)).1
    exact v.dis i j hi' hj' (by rw [e1]; exact a) (by rw [e1, e2]; exact b)
  · have hm : erW w ∈ S.D.pend.map erW := by rw [p2]; exact List.mem_map_of_mem hw
    obtain ⟨w', hw', he⟩ := List.mem_map.1 hm
    obtain ⟨k, k1, k2, k3⟩ := v.pd w' hw'
    simp only [erW, Pw.mk.injEq, true_and] at he
    obtain ⟨e1, e2⟩ := he
    exact ⟨k, by rw [← e1]; exact k1, by rw [← e2]; exact k2, by rw [← h2]; exact k3⟩
/-- Disks of the same length with the same pages. -/
theorem pg_ext {a b : List Int} {n : Nat} (ha : a.length = n * 1024) (hb : b.length = n * 1024) (h : ∀ k, k < n → pg a k = pg b k) : a = b := by
  apply List.ext_getElem (by omega)
  intro i h1 h2
  have hk : i / 1024 < n := by omega
  have := congrArg (fun l => l[i % 1024]?) (h _ hk)
  unfold pg at this
  have hi : i / 1024 * 1024 + i % 1024 = i := by omega
  simp only [List.getElem?_take, List.getElem?_drop, hi, if_pos (show i % 1024 < 1024 by omega)] at this
  rw [List.getElem?_eq_getElem h1, List.getElem?_eq_getElem h2] at this
  exact Option.some.inj this
theorem law7_ok {h : Heap} {p : Option (Nat × Nat)} {c : Option Nat} {l : List Cl} (hs : Sl h p 4 Cl.enc l) (hcn : ∀ c ∈ l, c.n ≤ 9223372036854775807) (pages frames : Int) :
    WR (callE Try.prog hk 7 [.int .i64 pages, .int .i64 frames, .slice p l.length c] h) fun r h' => r = .bool true := by
  have hn := hs.nil'
  have hl := hs.small
  refine WR.call (hH := rfl) Try.func7 rfl (n := 158) rfl rfl (by simp) ?_
  simp -dsimp (disch := first | with_reducible assumption | omega | (intro h_; cases h_; done) | (simp only [LN] <;> omega) | (simp only [LF]; done) | (repeat (first | with_reducible assumption | apply Ext.refl | apply Ext.app | (apply Ext.set <;> omega) | (refine Ext.trans ?_ (by assumption))))) only [AX, TY, AD, mapPut, entsOf, oneV, builtinV, idsOf, mapId, touchB, Nat.reduceLT, Nat.reduceLeDiff, Nat.reduceEqDiff, Nat.reduceAdd, Nat.reduceMul, Int.reduceBEq, Int.reduceEq, Int.reduceNeg, Int.reduceLT, Int.reduceLE, Int.reduceAdd, Int.reduceSub, Int.reduceMul, Int.reduceToNat, Int.reduceGT, Nat.reduceBEq, Nat.reducePow, Nat.reduceGT, reduceCtorEq, ↓reduceIte]
  refine (few16_ok hs pages frames).mono ?_
  rintro _ _ ⟨rfl, fb, rfl, hfb⟩
  cases fb
  · simp -dsimp (disch := first | with_reducible assumption | omega | (intro h_; cases h_; done) | (simp only [LN] <;> omega) | (simp only [LF]; done) | (repeat (first | with_reducible assumption | apply Ext.refl | apply Ext.app | (apply Ext.set <;> omega) | (refine Ext.trans ?_ (by assumption))))) only [AX, TY, AD, mapPut, entsOf, oneV, builtinV, idsOf, mapId, touchB, Nat.reduceLT, Nat.reduceLeDiff, Nat.reduceEqDiff, Nat.reduceAdd, Nat.reduceMul, Int.reduceBEq, Int.reduceEq, Int.reduceNeg, Int.reduceLT, Int.reduceLE, Int.reduceAdd, Int.reduceSub, Int.reduceMul, Int.reduceToNat, Int.reduceGT, Nat.reduceBEq, Nat.reducePow, Nat.reduceGT, reduceCtorEq, ↓reduceIte]
    refine awake_ok.mono ?_
    rintro _ h3 rfl
    simp -dsimp (disch := first | with_reducible assumption | omega | (intro h_; cases h_; done) | (simp only [LN] <;> omega) | (simp only [LF]; done) | (repeat (first | with_reducible assumption | apply Ext.refl | apply Ext.app | (apply Ext.set <;> omega) | (refine Ext.trans ?_ (by assumption))))) only [AX, TY, AD, mapPut, entsOf, oneV, builtinV, idsOf, mapId, touchB, Nat.reduceLT, Nat.reduceLeDiff, Nat.reduceEqDiff, Nat.reduceAdd, Nat.reduceMul, Int.reduceBEq, Int.reduceEq, Int.reduceNeg, Int.reduceLT, Int.reduceLE, Int.reduceAdd, Int.reduceSub, Int.reduceMul, Int.reduceToNat, Int.reduceGT, Nat.reduceBEq, Nat.reducePow, Nat.reduceGT, reduceCtorEq, ↓reduceIte]
  obtain ⟨b1, b2, b3, b4, b5, b6⟩ := hfb rfl
  obtain ⟨pages, rfl⟩ := Int.eq_ofNat_of_zero_le (show 0 ≤ pages by omega)
  obtain ⟨frames, rfl⟩ := Int.eq_ofNat_of_zero_le (show 0 ≤ frames by omega)
  simp -dsimp (disch := first | with_reducible assumption | omega | (intro h_; cases h_; done) | (simp only [LN] <;> omega) | (simp only [LF]; done) | (repeat (first | with_reducible assumption | apply Ext.refl | apply Ext.app | (apply Ext.set <;> omega) | (refine Ext.trans ?_ (by assumption))))) only [AX, TY, AD, mapPut, entsOf, oneV, builtinV, idsOf, mapId, touchB, Nat.reduceLT, Nat.reduceLeDiff, Nat.reduceEqDiff, Nat.reduceAdd, Nat.reduceMul, Int.reduceBEq, Int.reduceEq, Int.reduceNeg, Int.reduceLT, Int.reduceLE, Int.reduceAdd, Int.reduceSub, Int.reduceMul, Int.reduceToNat, Int.reduceGT, Nat.reduceBEq, Nat.reducePow, Nat.reduceGT, reduceCtorEq, ↓reduceIte]
  refine (open_ok pages frames (by omega) (by omega) (by omega) (by omega)).mono ?_
  rintro _ h1 ⟨I, D, rfl, d1, hD1, hD2, hD3, hD4, hD5, e1, hb1, hb2, hb3⟩
  obtain ⟨h0, hh0, x0, e0, hl0⟩ : ∃ h0, h1 ++ [O.cells [V.ptr (some (I.di, 0)), V.ptr (some (I.pi, 0))] .rw] = h0 ∧ h0[h1.length]? = some (O.cells [V.ptr (some (I.di, 0)), V.ptr (some (I.pi, 0))] .rw) ∧ Ext h1 h0 ∧ h0.length = h1.length + 1 := ⟨_, rfl, snoc_last _ rfl, (by (repeat (first | assumption | apply Ext.refl | apply Ext.app | (apply Ext.set <;> omega) | exact Ext.trans (by assumption) (by assumption) | (refine Ext.trans ?_ (by assumption))))), by simp⟩
  have m0 : Mid h.length h0 I pages frames 0 ⟨D, pages, List.replicate frames emptyFr, 0, 0⟩ none h0 := ⟨d1.ext e0, .init hD1 hD4 (by omega) hD2 (by omega) (by omega), rfl, by simp, Kp.ext (.refl _) _⟩
  have hs0 := hs.ext (e1.trans e0)
  have hnx : ¬ ownP I none h1.length := fun q => by have := d1.lt q; omega
  have slK : ∀ {i : Nat} {S : Bp} {oid : Option Nat} {hh : Heap}, Mid h.length h0 I pages frames i S oid hh → Sl hh p 4 Cl.enc l ∧ hh[h1.length]? = some (O.cells [V.ptr (some (I.di, 0)), V.ptr (some (I.pi, 0))] .rw) := fun {i S oid hh} m => ⟨hs0.keep fun a o z => m.kp.fr a (hs0.lt z) (m0.at'.own_base hb1 hb3 (hs.lt z)), m.kp.get x0 hnx⟩
  simp -dsimp (disch := first | with_reducible assumption | omega | (intro h_; cases h_; done) | (simp only [LN] <;> omega) | (simp only [LF]; done) | (repeat (first | with_reducible assumption | apply Ext.refl | apply Ext.app | (apply Ext.set <;> omega) | (refine Ext.trans ?_ (by assumption))))) only [AX, TY, AD, mapPut, entsOf, oneV, builtinV, idsOf, mapId, touchB, Nat.reduceLT, Nat.reduceLeDiff, Nat.reduceEqDiff, Nat.reduceAdd, Nat.reduceMul, Int.reduceBEq, Int.reduceEq, Int.reduceNeg, Int.reduceLT, Int.reduceLE, Int.reduceAdd, Int.reduceSub, Int.reduceMul, Int.reduceToNat, Int.reduceGT, Nat.reduceBEq, Nat.reducePow, Nat.reduceGT, reduceCtorEq, ↓reduceIte, hh0]
  refine (model_ok pages frames (by omega) (by omega) (by omega)).mono ?_
  rintro _ h2 ⟨e2, E, ⟨p1, c1, q1, d1', f1, k1, rfl, rb1, pt1⟩, hE1, hE2, hE3, hE4, hE5⟩
  have hDE : D.dur = E.dur := pg_ext hD4 hE4 fun k hk => by rw [hD5 k hk, hE5 k hk]
  have her : er ⟨D, pages, List.replicate frames emptyFr, 0, 0⟩ = er ⟨E, pages, List.replicate frames emptyFr, 0, 0⟩ := by
    refine er_mk ?_ rfl rfl rfl rfl
    cases D; cases E
    simp only at hD1 hD2 hD3 hE1 hE2 hE3 hDE
    exact erD_mk hDE (by rw [hD1, hE1]) (by rw [hD2, hE2]) (by rw [hD3, hE3])
  generalize hM0 : (⟨E, pages, List.replicate frames emptyFr, 0, 0⟩ : Bp) = M0 at rb1 pt1 her
  generalize hS0 : (⟨D, pages, List.replicate frames emptyFr, 0, 0⟩ : Bp) = S0 at m0 her d1
  obtain ⟨h3, hh3, x3, e3, hl3⟩ : ∃ h3, h2 ++ [O.cells (bpV M0 p1 c1 q1 d1' f1 k1) .rw] = h3 ∧ h3[h2.length]? = some (O.cells (bpV M0 p1 c1 q1 d1' f1 k1) .rw) ∧ Ext h2 h3 ∧ h3.length = h2.length + 1 := ⟨_, rfl, snoc_last _ rfl, (by (repeat (first | assumption | apply Ext.refl | apply Ext.app | (apply Ext.set <;> omega) | exact Ext.trans (by assumption) (by assumption) | (refine Ext.trans ?_ (by assumption))))), by simp⟩
  have le2 := e2.le
  have m3 := (m0.ext e2).ext e3
  have pt3 : BpPtr M0 p1 q1 f1 (fun a => ¬ ownP I none a ∧ a ≠ h2.length) := (pt1.and rb1.ptr).imp fun a z => ⟨fun q => by have := m0.at'.lt q; omega, by omega⟩
  have rb3 := rb1.ext e3
  have no3 : ¬ ownP I none h2.length := fun q => by have := m0.at'.lt q; omega
  have hh3' := hh3
  simp only [bpV] at hh3'
  simp -dsimp (disch := first | with_reducible assumption | omega | (intro h_; cases h_; done) | (simp only [LN] <;> omega) | (simp only [LF]; done) | (repeat (first | with_reducible assumption | apply Ext.refl | apply Ext.app | (apply Ext.set <;> omega) | (refine Ext.trans ?_ (by assumption))))) only [AX, TY, AD, mapPut, entsOf, oneV, builtinV, idsOf, mapId, touchB, Nat.reduceLT, Nat.reduceLeDiff, Nat.reduceEqDiff, Nat.reduceAdd, Nat.reduceMul, Int.reduceBEq, Int.reduceEq, Int.reduceNeg, Int.reduceLT, Int.reduceLE, Int.reduceAdd, Int.reduceSub, Int.reduceMul, Int.reduceToNat, Int.reduceGT, Nat.reduceBEq, Nat.reducePow, Nat.reduceGT, reduceCtorEq, ↓reduceIte, bpV, hh3']
  refine W.loop (fun m τ hh => ∃ (i : Nat) (S : Bp) (oid : Option Nat) (M : Bp) (p1 : Option (Nat × Nat)) (c1 : Option Nat) (q1 : Option (Nat × Nat)) (d1 : Option Nat) (f1 : Option (Nat × Nat)) (k1 : Option Nat), m + i = l.length ∧ τ 0 = .int .i64 pages ∧ τ 7 = .ptr (some (h1.length, 0)) ∧ τ 9 = .ptr (some (h2.length, 0)) ∧ τ 38 = .slice p l.length c ∧ τ 39 = .int .i64 l.length ∧ τ 40 = .int .i64 i ∧ Mid h.length h0 I pages frames i S oid hh ∧ hh[h2.length]? = some (.cells (bpV M p1 c1 q1 d1 f1 k1) .rw) ∧ RBp hh M p1 c1 q1 d1 f1 k1 ∧ BpPtr M p1 q1 f1 (fun a => ¬ ownP I oid a ∧ a ≠ h2.length) ∧ er S = er M ∧ ¬ ownP I oid h2.length) ?_ (m := l.length) ?_
  rotate_left
  · refine ⟨0, S0, none, M0, p1, c1, q1, d1', f1, k1, ?_⟩
    simp -dsimp (disch := first | with_reducible assumption | omega | (intro h_; cases h_; done) | (simp only [LN] <;> omega) | (simp only [LF]; done) | (repeat (first | with_reducible assumption | apply Ext.refl | apply Ext.app | (apply Ext.set <;> omega) | (refine Ext.trans ?_ (by assumption))))) only [AX, TY, AD, mapPut, entsOf, oneV, builtinV, idsOf, mapId, touchB, Nat.reduceLT, Nat.reduceLeDiff, Nat.reduceEqDiff, Nat.reduceAdd, Nat.reduceMul, Int.reduceBEq, Int.reduceEq, Int.reduceNeg, Int.reduceLT, Int.reduceLE, Int.reduceAdd, Int.reduceSub, Int.reduceMul, Int.reduceToNat, Int.reduceGT, Nat.reduceBEq, Nat.reducePow, Nat.reduceGT, reduceCtorEq, ↓reduceIte]
    repeat' (first | assumption | refine And.intro ?_ ?_)
    all_goals first | rfl | omega | (simp; done) | (simp; omega; done) | skip
  rintro m τ hh ⟨i, S, oid, M, p1, c1, q1, d1, f1, k1, hm, t0, t7, t9, t38, t39, t40, mid, gm, rb, pt, her, no⟩
  obtain ⟨sl, hx⟩ := slK mid
  by_cases hc : (i : Int) < (l.length : Int)
  rotate_left
  · have mid40 : Mid h.length h0 I pages frames 40 S oid hh := ⟨mid.at', mid.inv.mono (by omega) (by decide), mid.pages, mid.frames, mid.kp⟩
    have hcr := mid.crash (by omega)
    have lxx := lt_of_some hx
    have lmm := lt_of_some gm
    have hw0 : IntKind.i64.wrap ((pages : Int) * 1024) = ((pages * 1024 : Nat) : Int) := by rw [IntKind.wrap_i64]; omega
    simp only [bpV] at gm
    simp -dsimp (disch := first | with_reducible assumption | omega | (intro h_; cases h_; done) | (simp only [LN] <;> omega) | (simp only [LF]; done) | (repeat (first | with_reducible assumption | apply Ext.refl | apply Ext.app | (apply Ext.set <;> omega) | (refine Ext.trans ?_ (by assumption))))) only [AX, TY, AD, mapPut, entsOf, oneV, builtinV, idsOf, mapId, touchB, Nat.reduceLT, Nat.reduceLeDiff, Nat.reduceEqDiff, Nat.reduceAdd, Nat.reduceMul, Int.reduceBEq, Int.reduceEq, Int.reduceNeg, Int.reduceLT, Int.reduceLE, Int.reduceAdd, Int.reduceSub, Int.reduceMul, Int.reduceToNat, Int.reduceGT, Nat.reduceBEq, Nat.reducePow, Nat.reduceGT, reduceCtorEq, ↓reduceIte, t0, t7, t9, t38, t39, t40, hc]
    refine W.drawn [(0, []), (1, []), (2, [1, 0]), (3, [])] (by decide +kernel) ?_
    simp -dsimp (disch := first | with_reducible assumption | omega | (intro h_; cases h_; done) | (simp only [LN] <;> omega) | (simp only [LF]; done) | (repeat (first | with_reducible assumption | apply Ext.refl | apply Ext.app | (apply Ext.set <;> omega) | (refine Ext.trans ?_ (by assumption))))) only [AX, TY, AD, mapPut, entsOf, oneV, builtinV, idsOf, mapId, touchB, Nat.reduceLT, Nat.reduceLeDiff, Nat.reduceEqDiff, Nat.reduceAdd, Nat.reduceMul, Int.reduceBEq, Int.reduceEq, Int.reduceNeg, Int.reduceLT, Int.reduceLE, Int.reduceAdd, Int.reduceSub, Int.reduceMul, Int.reduceToNat, Int.reduceGT, Nat.reduceBEq, Nat.reducePow, Nat.reduceGT, reduceCtorEq, ↓reduceIte, t0, t7, t9, loadN_fact hx]
    refine (surv_ok 40 (by decide)).mono ?_
    rintro _ h4 ⟨e4, p4, c4, rfl, sl4, hpf4⟩
    have mid4 := mid40.ext e4
    have hx4 := e4 _ _ hx
    have s0 := sameO_ext e4 lxx
    simp -dsimp (disch := first | with_reducible assumption | omega | (intro h_; cases h_; done) | (simp only [LN] <;> omega) | (simp only [LF]; done) | (repeat (first | with_reducible assumption | apply Ext.refl | apply Ext.app | (apply Ext.set <;> omega) | (refine Ext.trans ?_ (by assumption))))) only [AX, TY, AD, mapPut, entsOf, oneV, builtinV, idsOf, mapId, touchB, Nat.reduceLT, Nat.reduceLeDiff, Nat.reduceEqDiff, Nat.reduceAdd, Nat.reduceMul, Int.reduceBEq, Int.reduceEq, Int.reduceNeg, Int.reduceLT, Int.reduceLE, Int.reduceAdd, Int.reduceSub, Int.reduceMul, Int.reduceToNat, Int.reduceGT, Nat.reduceBEq, Nat.reducePow, Nat.reduceGT, reduceCtorEq, ↓reduceIte, t0, t7, t9, s0]
    refine (crash_ok mid4.at'.dk sl4 (fun a o z w => by have := hpf4 a o z; have := mid.at'.lt (.inr (.inr w)); omega) hcr.1 hcr.2).mono ?_
    rintro r h5 ⟨dk5, kd5⟩
    have vM : PIn M i := mid.inv.same her
    have hv5 : PIn ⟨⟨applyAll S.D.dur S.D.pend, [], -1, false⟩, S.pages, S.frames, S.hand, S.reads⟩ 40 := by
      have v := mid40.inv
      refine ⟨v.cur_len, v.pages, v.fl, v.fr, v.dis, by simp, ?_, by show (-1 : Int) ≤ _; decide, v.reads, v.hand, v.big⟩
      have := v.cnt
      show 0 + dirtyN S.frames ≤ _
      omega
    obtain ⟨mid5, k5⟩ := mid4.disk dk5 kd5 hv5
    have hx5 := (slK mid5).2
    have s1 : sameO h4[h1.length]? h5[h1.length]? = true := by rw [hx4, hx5]; exact sameO_refl _
    have s2 : sameO hh[h1.length]? h5[h1.length]? = true := by rw [hx, hx5]; exact sameO_refl _
    have hcl : (applyAll S.D.dur S.D.pend).length = pages * 1024 := by have := mid.inv.cur_len; rw [mid.pages] at this; exact this
    have gm4 := e4 _ _ gm
    have gm5 := k5.get gm4 no
    have rb5 : RBp h5 M p1 c1 q1 d1 f1 k1 := rb.keep (pt.and rb.ptr) fun a z => by rw [k5.fr a (by have := e4.le; omega) z.1.1, e4.same z.2]
    have hrd := read_ok dk5 (at' := 0) (n := pages * 1024) (by show 0 + pages * 1024 ≤ (applyAll S.D.dur S.D.pend).length; omega)
    simp -dsimp (disch := first | with_reducible assumption | omega | (intro h_; cases h_; done) | (simp only [LN] <;> omega) | (simp only [LF]; done) | (repeat (first | with_reducible assumption | apply Ext.refl | apply Ext.app | (apply Ext.set <;> omega) | (refine Ext.trans ?_ (by assumption))))) only [AX, TY, AD, mapPut, entsOf, oneV, builtinV, idsOf, mapId, touchB, Nat.reduceLT, Nat.reduceLeDiff, Nat.reduceEqDiff, Nat.reduceAdd, Nat.reduceMul, Int.reduceBEq, Int.reduceEq, Int.reduceNeg, Int.reduceLT, Int.reduceLE, Int.reduceAdd, Int.reduceSub, Int.reduceMul, Int.reduceToNat, Int.reduceGT, Nat.reduceBEq, Nat.reducePow, Nat.reduceGT, reduceCtorEq, ↓reduceIte, t0, t7, t9, s0, s1, s2, loadN_fact hx5, hw0]
    refine hrd.mono ?_
    rintro _ h6 ⟨e6, ⟨hbad, _⟩ | ⟨_, p6, c6, o6, rfl, gr6⟩⟩
    · cases hbad
    have sl6 := gr6.sl
    have hap0 : ∀ l : List Int, applyAll l [] = l := fun l => rfl
    simp only [hap0, List.drop_zero] at sl6
    rw [List.take_of_length_le (by omega)] at sl6
    have hx6 := e6 _ _ hx5
    have gm6 := e6 _ _ gm5
    have rb6 := rb5.ext e6
    have lm6 := lt_of_some gm6
    simp -dsimp (disch := first | with_reducible assumption | omega | (intro h_; cases h_; done) | (simp only [LN] <;> omega) | (simp only [LF]; done) | (repeat (first | with_reducible assumption | apply Ext.refl | apply Ext.app | (apply Ext.set <;> omega) | (refine Ext.trans ?_ (by assumption))))) only [AX, TY, AD, mapPut, entsOf, oneV, builtinV, idsOf, mapId, touchB, Nat.reduceLT, Nat.reduceLeDiff, Nat.reduceEqDiff, Nat.reduceAdd, Nat.reduceMul, Int.reduceBEq, Int.reduceEq, Int.reduceNeg, Int.reduceLT, Int.reduceLE, Int.reduceAdd, Int.reduceSub, Int.reduceMul, Int.reduceToNat, Int.reduceGT, Nat.reduceBEq, Nat.reducePow, Nat.reduceGT, reduceCtorEq, ↓reduceIte, t0, t7, t9]
    refine W.drawn [(0, []), (1, []), (4, [1, 0]), (5, [1, 0]), (2, [5, 4, 1, 0]), (3, [5, 4]), (6, []), (7, []), (8, []), (9, [8]), (10, [9]), (11, [])] (by decide +kernel) ?_
    simp -dsimp (disch := first | with_reducible assumption | omega | (intro h_; cases h_; done) | (simp only [LN] <;> omega) | (simp only [LF]; done) | (repeat (first | with_reducible assumption | apply Ext.refl | apply Ext.app | (apply Ext.set <;> omega) | (refine Ext.trans ?_ (by assumption))))) only [AX, TY, AD, mapPut, entsOf, oneV, builtinV, idsOf, mapId, touchB, Nat.reduceLT, Nat.reduceLeDiff, Nat.reduceEqDiff, Nat.reduceAdd, Nat.reduceMul, Int.reduceBEq, Int.reduceEq, Int.reduceNeg, Int.reduceLT, Int.reduceLE, Int.reduceAdd, Int.reduceSub, Int.reduceMul, Int.reduceToNat, Int.reduceGT, Nat.reduceBEq, Nat.reducePow, Nat.reduceGT, reduceCtorEq, ↓reduceIte, t0, t7, t9, loadN_fact gm6, hw0]
    refine (surv_ok 40 (by decide)).mono ?_
    rintro _ h7 ⟨e7, p7, c7, rfl, sl7, -⟩
    have v0 := sameO_ext e7 lm6
    have hcl2 : (cur M.D).length = pages * 1024 := by rw [← hcl]; exact congrArg List.length (apply_eq (er_parts her).1).symm
    have hcr2 := rCrash_ok (rb6.ext e7).dk (qc := c7) sl7 (by have := vM.cnt; omega) (fun w hw => by obtain ⟨k, _, h, _⟩ := vM.pd w hw; omega) (rb6.ext e7).dk.ptr
    simp only [dkV] at hcr2
    simp -dsimp (disch := first | with_reducible assumption | omega | (intro h_; cases h_; done) | (simp only [LN] <;> omega) | (simp only [LF]; done) | (repeat (first | with_reducible assumption | apply Ext.refl | apply Ext.app | (apply Ext.set <;> omega) | (refine Ext.trans ?_ (by assumption))))) only [AX, TY, AD, mapPut, entsOf, oneV, builtinV, idsOf, mapId, touchB, Nat.reduceLT, Nat.reduceLeDiff, Nat.reduceEqDiff, Nat.reduceAdd, Nat.reduceMul, Int.reduceBEq, Int.reduceEq, Int.reduceNeg, Int.reduceLT, Int.reduceLE, Int.reduceAdd, Int.reduceSub, Int.reduceMul, Int.reduceToNat, Int.reduceGT, Nat.reduceBEq, Nat.reducePow, Nat.reduceGT, reduceCtorEq, ↓reduceIte, t0, t7, t9, v0, hw0]
    refine hcr2.mono ?_
    rintro _ h8 ⟨e8, p8, c8, rfl, dk8, -⟩
    have v1 := sameO_ext e8 (lt_of_some (e7 _ _ gm6))
    have v2 := sameO_ext (e7.trans e8) lm6
    have hre := rRead_ok dk8 0 (pages * 1024) (by show 0 + pages * 1024 ≤ (cur M.D).length; omega)
    simp only [dkV] at hre
    simp -dsimp (disch := first | with_reducible assumption | omega | (intro h_; cases h_; done) | (simp only [LN] <;> omega) | (simp only [LF]; done) | (repeat (first | with_reducible assumption | apply Ext.refl | apply Ext.app | (apply Ext.set <;> omega) | (refine Ext.trans ?_ (by assumption))))) only [AX, TY, AD, mapPut, entsOf, oneV, builtinV, idsOf, mapId, touchB, Nat.reduceLT, Nat.reduceLeDiff, Nat.reduceEqDiff, Nat.reduceAdd, Nat.reduceMul, Int.reduceBEq, Int.reduceEq, Int.reduceNeg, Int.reduceLT, Int.reduceLE, Int.reduceAdd, Int.reduceSub, Int.reduceMul, Int.reduceToNat, Int.reduceGT, Nat.reduceBEq, Nat.reducePow, Nat.reduceGT, reduceCtorEq, ↓reduceIte, t0, t7, t9, v0, v1, v2, hw0]
    refine hre.mono ?_
    rintro _ h9 ⟨e9, ⟨hbad, _⟩ | ⟨_, p9, c9, rfl, sl9, -⟩⟩
    · cases hbad
    have hcc : cur ⟨cur M.D, [], -1, false⟩ = cur M.D := rfl
    rw [hcc, List.drop_zero, List.take_of_length_le (by omega)] at sl9
    have v3 := sameO_ext e9 (lt_of_some (e8 _ _ (e7 _ _ gm6)))
    have v4 := sameO_ext (e8.trans e9) (lt_of_some (e7 _ _ gm6))
    have v5 := sameO_ext ((e7.trans e8).trans e9) lm6
    have hsm := same13_ok (c := c6) (d := c9) (((sl6.ext e7).ext e8).ext e9) sl9
    rw [hcl, hcl2, decide_eq_true (show applyAll S.D.dur S.D.pend = cur M.D from apply_eq (er_parts her).1)] at hsm
    simp -dsimp (disch := first | with_reducible assumption | omega | (intro h_; cases h_; done) | (simp only [LN] <;> omega) | (simp only [LF]; done) | (repeat (first | with_reducible assumption | apply Ext.refl | apply Ext.app | (apply Ext.set <;> omega) | (refine Ext.trans ?_ (by assumption))))) only [AX, TY, AD, mapPut, entsOf, oneV, builtinV, idsOf, mapId, touchB, Nat.reduceLT, Nat.reduceLeDiff, Nat.reduceEqDiff, Nat.reduceAdd, Nat.reduceMul, Int.reduceBEq, Int.reduceEq, Int.reduceNeg, Int.reduceLT, Int.reduceLE, Int.reduceAdd, Int.reduceSub, Int.reduceMul, Int.reduceToNat, Int.reduceGT, Nat.reduceBEq, Nat.reducePow, Nat.reduceGT, reduceCtorEq, ↓reduceIte, t0, t7, t9, v0, v1, v2, v3, v4, v5]
    refine hsm.mono ?_
    rintro _ _ ⟨rfl, rfl⟩
    simp -dsimp (disch := first | with_reducible assumption | omega | (intro h_; cases h_; done) | (simp only [LN] <;> omega) | (simp only [LF]; done) | (repeat (first | with_reducible assumption | apply Ext.refl | apply Ext.app | (apply Ext.set <;> omega) | (refine Ext.trans ?_ (by assumption))))) only [AX, TY, AD, mapPut, entsOf, oneV, builtinV, idsOf, mapId, touchB, Nat.reduceLT, Nat.reduceLeDiff, Nat.reduceEqDiff, Nat.reduceAdd, Nat.reduceMul, Int.reduceBEq, Int.reduceEq, Int.reduceNeg, Int.reduceLT, Int.reduceLE, Int.reduceAdd, Int.reduceSub, Int.reduceMul, Int.reduceToNat, Int.reduceGT, Nat.reduceBEq, Nat.reducePow, Nat.reduceGT, reduceCtorEq, ↓reduceIte]
    refine awake_ok.mono ?_
    rintro _ hA rfl
    simp -dsimp (disch := first | with_reducible assumption | omega | (intro h_; cases h_; done) | (simp only [LN] <;> omega) | (simp only [LF]; done) | (repeat (first | with_reducible assumption | apply Ext.refl | apply Ext.app | (apply Ext.set <;> omega) | (refine Ext.trans ?_ (by assumption))))) only [AX, TY, AD, mapPut, entsOf, oneV, builtinV, idsOf, mapId, touchB, Nat.reduceLT, Nat.reduceLeDiff, Nat.reduceEqDiff, Nat.reduceAdd, Nat.reduceMul, Int.reduceBEq, Int.reduceEq, Int.reduceNeg, Int.reduceLT, Int.reduceLE, Int.reduceAdd, Int.reduceSub, Int.reduceMul, Int.reduceToNat, Int.reduceGT, Nat.reduceBEq, Nat.reducePow, Nat.reduceGT, reduceCtorEq, ↓reduceIte]
  have hi : i < l.length := by omega
  have hla := sl.load0 (.refl _) hi (m := 4) (by decide)
  have hmem := List.getElem_mem hi
  generalize l[i] = x at hla hmem
  simp only [Cl.enc, List.take] at hla
  obtain ⟨g, hg, gx, eg, hgl⟩ : ∃ g, hh ++ [O.cells (Cl.enc x) .rw] = g ∧ g[hh.length]? = some (O.cells (Cl.enc x) .rw) ∧ Ext hh g ∧ g.length = hh.length + 1 := ⟨_, rfl, snoc_last _ rfl, (by (repeat (first | assumption | apply Ext.refl | apply Ext.app | (apply Ext.set <;> omega) | exact Ext.trans (by assumption) (by assumption) | (refine Ext.trans ?_ (by assumption))))), by simp⟩
  simp only [Cl.enc] at hg gx
  have midg := mid.ext eg
  have hxg := eg _ _ hx
  have hcall := midg.call (by omega) x (b6 x hmem) (hcn x hmem)
  simp only [Cl.enc] at hcall
  simp -dsimp (disch := first | with_reducible assumption | omega | (intro h_; cases h_; done) | (simp only [LN] <;> omega) | (simp only [LF]; done) | (repeat (first | with_reducible assumption | apply Ext.refl | apply Ext.app | (apply Ext.set <;> omega) | (refine Ext.trans ?_ (by assumption))))) only [AX, TY, AD, mapPut, entsOf, oneV, builtinV, idsOf, mapId, touchB, Nat.reduceLT, Nat.reduceLeDiff, Nat.reduceEqDiff, Nat.reduceAdd, Nat.reduceMul, Int.reduceBEq, Int.reduceEq, Int.reduceNeg, Int.reduceLT, Int.reduceLE, Int.reduceAdd, Int.reduceSub, Int.reduceMul, Int.reduceToNat, Int.reduceGT, Nat.reduceBEq, Nat.reducePow, Nat.reduceGT, reduceCtorEq, ↓reduceIte, t0, t7, t9, t38, t39, t40, hc, hla, hg, loadN_fact hxg, loadN_fact gx]
  refine hcall.mono ?_
  rintro _ h6 ⟨S', oid', e, dd, cr, mid6, k6, pr, cr', rfl, slr, hpr⟩
  obtain ⟨-, hx6⟩ := slK mid6
  have gx6 := k6.get gx (fun q => by have := mid.at'.lt q; omega)
  have lm := lt_of_some gm
  have gm6 := k6.get (eg _ _ gm) no
  have no6 := k6.not (by omega) no
  have pt6 : BpPtr M p1 q1 f1 (fun a => ¬ ownP I oid' a ∧ a ≠ h2.length) := (pt.and rb.ptr).imp fun a z => ⟨k6.not (by omega) z.1.1, z.1.2⟩
  have rb6 : RBp h6 M p1 c1 q1 d1 f1 k1 := rb.keep (pt.and rb.ptr) fun a z => by rw [k6.fr a (by omega) z.1.1, eg.same z.2]
  have vM : PIn M i := mid.inv.same her
  have hap := rApply_ok rb6 vM pt6 (by have := vM.cnt; omega) x (b6 x hmem)
  simp only [bpV, Cl.enc] at hap
  simp only [bpV] at gm6
  simp -dsimp (disch := first | with_reducible assumption | omega | (intro h_; cases h_; done) | (simp only [LN] <;> omega) | (simp only [LF]; done) | (repeat (first | with_reducible assumption | apply Ext.refl | apply Ext.app | (apply Ext.set <;> omega) | (refine Ext.trans ?_ (by assumption))))) only [AX, TY, AD, mapPut, entsOf, oneV, builtinV, idsOf, mapId, touchB, Nat.reduceLT, Nat.reduceLeDiff, Nat.reduceEqDiff, Nat.reduceAdd, Nat.reduceMul, Int.reduceBEq, Int.reduceEq, Int.reduceNeg, Int.reduceLT, Int.reduceLE, Int.reduceAdd, Int.reduceSub, Int.reduceMul, Int.reduceToNat, Int.reduceGT, Nat.reduceBEq, Nat.reducePow, Nat.reduceGT, reduceCtorEq, ↓reduceIte, t0, t7, t9, t38, t39, t40, loadN_fact gm6, loadN_fact gx6]
  refine hap.mono ?_
  rintro _ h7 ⟨e7, M', e2', dd2, ⟨_, p3, c3, rfl, ⟨p2, c2, q2, d2, f2, k2, rfl, rb7, pt7⟩, sl7, sp7⟩, cr2⟩
  obtain ⟨her', rfl, rfl⟩ := call_det her (fun f hf => (mid.inv.frm hf).1) cr cr2
  have gm7 := e7 _ _ gm6
  have lm7 := lt_of_some gm7
  have lm6 := lt_of_some gm6
  have kk := k6.le
  obtain ⟨h8, hh8, gm8, k8, l8⟩ : ∃ h8, h7.set h2.length (O.cells [.slice p2 M'.D.dur.length c2, .slice q2 M'.D.pend.length d2, .int .i64 M'.D.ctr, .bool M'.D.failed, .int .i64 M'.pages, .slice f2 M'.frames.length k2, .int .i64 M'.hand, .int .i64 M'.reads] .rw) = h8 ∧ h8[h2.length]? = some (O.cells [.slice p2 M'.D.dur.length c2, .slice q2 M'.D.pend.length d2, .int .i64 M'.D.ctr, .bool M'.D.failed, .int .i64 M'.pages, .slice f2 M'.frames.length k2, .int .i64 M'.hand, .int .i64 M'.reads] .rw) ∧ (∀ a, a ≠ h2.length → h8[a]? = h7[a]?) ∧ h8.length = h7.length := ⟨_, rfl, set_same _ lm7, fun a ha => set_other _ (by omega), by simp⟩
  have mid8 : Mid h.length h0 I pages frames (i + 1) S' oid' h8 := by
    rw [← hh8]
    exact (mid6.ext e7).swap gm7 no6 (by simp) (by simp) (by omega)
  have lift : ∀ a, ((¬ ownP I oid' a ∧ a ≠ h2.length) ∨ h6.length ≤ a) → ¬ ownP I oid' a ∧ a ≠ h2.length := fun a z => by
    rcases z with z | z
    · exact z
    · exact ⟨fun q => by have := mid6.at'.lt q; omega, by omega⟩
  have pt8 : BpPtr M' p2 q2 f2 (fun a => ¬ ownP I oid' a ∧ a ≠ h2.length) := pt7.imp lift
  have rb8 : RBp h8 M' p2 c2 q2 d2 f2 k2 := rb7.keep pt8 fun a z => k8 a z.2
  have slr8 : Sl h8 pr 1 eb dd := (slr.ext e7).keep fun a o z => k8 a (by have := (hpr a o z).1; omega)
  have sl8 : Sl h8 p3 1 eb dd := sl7.keep fun a o z => k8 a (lift a (sp7 a o z)).2
  have hx8 := (slK mid8).2
  have gx8 := (k8 hh.length (by omega)).trans (e7 _ _ gx6)
  have hs20 := same13_ok (c := cr') (d := c3) slr8 sl8
  rw [decide_eq_true rfl] at hs20
  simp -dsimp (disch := first | with_reducible assumption | omega | (intro h_; cases h_; done) | (simp only [LN] <;> omega) | (simp only [LF]; done) | (repeat (first | with_reducible assumption | apply Ext.refl | apply Ext.app | (apply Ext.set <;> omega) | (refine Ext.trans ?_ (by assumption))))) only [AX, TY, AD, mapPut, entsOf, oneV, builtinV, idsOf, mapId, touchB, Nat.reduceLT, Nat.reduceLeDiff, Nat.reduceEqDiff, Nat.reduceAdd, Nat.reduceMul, Int.reduceBEq, Int.reduceEq, Int.reduceNeg, Int.reduceLT, Int.reduceLE, Int.reduceAdd, Int.reduceSub, Int.reduceMul, Int.reduceToNat, Int.reduceGT, Nat.reduceBEq, Nat.reducePow, Nat.reduceGT, reduceCtorEq, ↓reduceIte, t0, t7, t9, t38, t39, t40, storeN_fact gm7 (by simp), hh8]
  refine W.drawn [(0, []), (1, [0]), (2, []), (3, []), (4, []), (5, [4]), (6, []), (7, []), (8, []), (9, []), (10, []), (11, []), (13, [11, 10]), (14, [11, 10]), (12, [14, 13]), (15, []), (16, []), (17, []), (18, []), (19, []), (21, [19, 18]), (20, [21]), (22, []), (23, []), (24, []), (25, []), (26, []), (27, []), (28, []), (30, [28, 27]), (29, [30]), (31, []), (32, []), (33, []), (34, [])] (by decide +kernel) ?_
  simp -dsimp (disch := first | with_reducible assumption | omega | (intro h_; cases h_; done) | (simp only [LN] <;> omega) | (simp only [LF]; done) | (repeat (first | with_reducible assumption | apply Ext.refl | apply Ext.app | (apply Ext.set <;> omega) | (refine Ext.trans ?_ (by assumption))))) only [AX, TY, AD, mapPut, entsOf, oneV, builtinV, idsOf, mapId, touchB, Nat.reduceLT, Nat.reduceLeDiff, Nat.reduceEqDiff, Nat.reduceAdd, Nat.reduceMul, Int.reduceBEq, Int.reduceEq, Int.reduceNeg, Int.reduceLT, Int.reduceLE, Int.reduceAdd, Int.reduceSub, Int.reduceMul, Int.reduceToNat, Int.reduceGT, Nat.reduceBEq, Nat.reducePow, Nat.reduceGT, reduceCtorEq, ↓reduceIte, t0, t7, t9, t38, t39, t40]
  refine hs20.mono ?_
  rintro _ _ ⟨rfl, rfl⟩
  obtain ⟨w1, w2, w3, w4, w5⟩ := er_parts her'
  have vM' : PIn M' (i + 1) := mid8.inv.same her'
  have hrd := reads_ok mid8.at'
  rw [w5] at hrd
  simp -dsimp (disch := first | with_reducible assumption | omega | (intro h_; cases h_; done) | (simp only [LN] <;> omega) | (simp only [LF]; done) | (repeat (first | with_reducible assumption | apply Ext.refl | apply Ext.app | (apply Ext.set <;> omega) | (refine Ext.trans ?_ (by assumption))))) only [AX, TY, AD, mapPut, entsOf, oneV, builtinV, idsOf, mapId, touchB, Nat.reduceLT, Nat.reduceLeDiff, Nat.reduceEqDiff, Nat.reduceAdd, Nat.reduceMul, Int.reduceBEq, Int.reduceEq, Int.reduceNeg, Int.reduceLT, Int.reduceLE, Int.reduceAdd, Int.reduceSub, Int.reduceMul, Int.reduceToNat, Int.reduceGT, Nat.reduceBEq, Nat.reducePow, Nat.reduceGT, reduceCtorEq, ↓reduceIte, t0, t7, t9, t38, t39, t40, loadN_fact gm8, loadN_fact hx8]
  refine hrd.mono ?_
  rintro _ _ ⟨rfl, rfl⟩
  simp -dsimp (disch := first | with_reducible assumption | omega | (intro h_; cases h_; done) | (simp only [LN] <;> omega) | (simp only [LF]; done) | (repeat (first | with_reducible assumption | apply Ext.refl | apply Ext.app | (apply Ext.set <;> omega) | (refine Ext.trans ?_ (by assumption))))) only [AX, TY, AD, mapPut, entsOf, oneV, builtinV, idsOf, mapId, touchB, Nat.reduceLT, Nat.reduceLeDiff, Nat.reduceEqDiff, Nat.reduceAdd, Nat.reduceMul, Int.reduceBEq, Int.reduceEq, Int.reduceNeg, Int.reduceLT, Int.reduceLE, Int.reduceAdd, Int.reduceSub, Int.reduceMul, Int.reduceToNat, Int.reduceGT, Nat.reduceBEq, Nat.reducePow, Nat.reduceGT, reduceCtorEq, ↓reduceIte, t0, t7, t9, t38, t39, t40, loadN_fact gm8, loadN_fact hx8]
  refine (dirty_ok mid8.at' (mid8.inv.lst _)).mono ?_
  rintro _ h9 ⟨e9, pz, cz, zs, rfl, slz, hzs, hzp, hzf⟩
  have hz1 : zs = pagesL M' true := pagesL_eq vM' (b := true) (q := Fr.dirty) (fun f => by simp) hzs (by rw [← (lst_er her').1]; exact hzp)
  have hx9 := e9 _ _ hx8
  have gm9 := e9 _ _ gm8
  have rb9 := rb8.ext e9
  have hpg1 := rPages_ok rb9 vM'.fl vM'.pages true
  simp only [bpV] at hpg1
  simp -dsimp (disch := first | with_reducible assumption | omega | (intro h_; cases h_; done) | (simp only [LN] <;> omega) | (simp only [LF]; done) | (repeat (first | with_reducible assumption | apply Ext.refl | apply Ext.app | (apply Ext.set <;> omega) | (refine Ext.trans ?_ (by assumption))))) only [AX, TY, AD, mapPut, entsOf, oneV, builtinV, idsOf, mapId, touchB, Nat.reduceLT, Nat.reduceLeDiff, Nat.reduceEqDiff, Nat.reduceAdd, Nat.reduceMul, Int.reduceBEq, Int.reduceEq, Int.reduceNeg, Int.reduceLT, Int.reduceLE, Int.reduceAdd, Int.reduceSub, Int.reduceMul, Int.reduceToNat, Int.reduceGT, Nat.reduceBEq, Nat.reducePow, Nat.reduceGT, reduceCtorEq, ↓reduceIte, t0, t7, t9, t38, t39, t40, loadN_fact gm9, loadN_fact hx9]
  refine hpg1.mono ?_
  rintro _ hA ⟨eA, pA, cA, rfl, slA, -⟩
  have midA := (mid8.ext e9).ext eA
  have s0 := sameO_ext eA (lt_of_some hx9)
  have s1 := sameO_ext eA (lt_of_some gm9)
  have hin1 := ints_ok (c := cz) (d := cA) (slz.ext eA) slA
  rw [decide_eq_true hz1] at hin1
  have hxA := eA _ _ hx9
  have gmA := eA _ _ gm9
  simp -dsimp (disch := first | with_reducible assumption | omega | (intro h_; cases h_; done) | (simp only [LN] <;> omega) | (simp only [LF]; done) | (repeat (first | with_reducible assumption | apply Ext.refl | apply Ext.app | (apply Ext.set <;> omega) | (refine Ext.trans ?_ (by assumption))))) only [AX, TY, AD, mapPut, entsOf, oneV, builtinV, idsOf, mapId, touchB, Nat.reduceLT, Nat.reduceLeDiff, Nat.reduceEqDiff, Nat.reduceAdd, Nat.reduceMul, Int.reduceBEq, Int.reduceEq, Int.reduceNeg, Int.reduceLT, Int.reduceLE, Int.reduceAdd, Int.reduceSub, Int.reduceMul, Int.reduceToNat, Int.reduceGT, Nat.reduceBEq, Nat.reducePow, Nat.reduceGT, reduceCtorEq, ↓reduceIte, t0, t7, t9, t38, t39, t40, s0, s1]
  refine hin1.mono ?_
  rintro _ _ ⟨rfl, rfl⟩
  simp -dsimp (disch := first | with_reducible assumption | omega | (intro h_; cases h_; done) | (simp only [LN] <;> omega) | (simp only [LF]; done) | (repeat (first | with_reducible assumption | apply Ext.refl | apply Ext.app | (apply Ext.set <;> omega) | (refine Ext.trans ?_ (by assumption))))) only [AX, TY, AD, mapPut, entsOf, oneV, builtinV, idsOf, mapId, touchB, Nat.reduceLT, Nat.reduceLeDiff, Nat.reduceEqDiff, Nat.reduceAdd, Nat.reduceMul, Int.reduceBEq, Int.reduceEq, Int.reduceNeg, Int.reduceLT, Int.reduceLE, Int.reduceAdd, Int.reduceSub, Int.reduceMul, Int.reduceToNat, Int.reduceGT, Nat.reduceBEq, Nat.reducePow, Nat.reduceGT, reduceCtorEq, ↓reduceIte, t0, t7, t9, t38, t39, t40, loadN_fact gmA, loadN_fact hxA]
  refine (cached_ok midA.at' (mid8.inv.lst _)).mono ?_
  rintro _ hB ⟨eB, pB, cB, ys, rfl, slB, hys, hyp, hyf⟩
  have hz2 : ys = pagesL M' false := pagesL_eq vM' (b := false) (q := fun _ => true) (fun f => by simp) hys (by rw [← (lst_er her').2]; exact hyp)
  have hxB := eB _ _ hxA
  have gmB := eB _ _ gmA
  have rbB := (rb9.ext eA).ext eB
  have hpg2 := rPages_ok rbB vM'.fl vM'.pages false
  simp only [bpV] at hpg2
  have v0 := sameO_ext eB (lt_of_some hxA)
  have v1 := sameO_ext eB (lt_of_some gmA)
  simp -dsimp (disch := first | with_reducible assumption | omega | (intro h_; cases h_; done) | (simp only [LN] <;> omega) | (simp only [LF]; done) | (repeat (first | with_reducible assumption | apply Ext.refl | apply Ext.app | (apply Ext.set <;> omega) | (refine Ext.trans ?_ (by assumption))))) only [AX, TY, AD, mapPut, entsOf, oneV, builtinV, idsOf, mapId, touchB, Nat.reduceLT, Nat.reduceLeDiff, Nat.reduceEqDiff, Nat.reduceAdd, Nat.reduceMul, Int.reduceBEq, Int.reduceEq, Int.reduceNeg, Int.reduceLT, Int.reduceLE, Int.reduceAdd, Int.reduceSub, Int.reduceMul, Int.reduceToNat, Int.reduceGT, Nat.reduceBEq, Nat.reducePow, Nat.reduceGT, reduceCtorEq, ↓reduceIte, t0, t7, t9, t38, t39, t40, v0, v1, loadN_fact gmB, loadN_fact hxB]
  refine hpg2.mono ?_
  rintro _ hC ⟨eC, pC, cC, rfl, slC, -⟩
  have y0 := sameO_ext (eB.trans eC) (lt_of_some hxA)
  have y1 := sameO_ext (eB.trans eC) (lt_of_some gmA)
  have midC := (midA.ext eB).ext eC
  have u0 := sameO_ext eC (lt_of_some hxB)
  have u1 := sameO_ext eC (lt_of_some gmB)
  have hin2 := ints_ok (c := cB) (d := cC) (slB.ext eC) slC
  rw [decide_eq_true hz2] at hin2
  have hxC := eC _ _ hxB
  have gmC := eC _ _ gmB
  have rbC := rbB.ext eC
  have gxC := eC _ _ (eB _ _ (eA _ _ (e9 _ _ gx8)))
  have hfd := rFind_ok (h := hC) (S := M') (v := .agg (bpV M' p2 c2 q2 d2 f2 k2)) ⟨p2, c2, q2, d2, f2, k2, rfl, rbC⟩ x.page
  simp only [bpV] at hfd
  simp -dsimp (disch := first | with_reducible assumption | omega | (intro h_; cases h_; done) | (simp only [LN] <;> omega) | (simp only [LF]; done) | (repeat (first | with_reducible assumption | apply Ext.refl | apply Ext.app | (apply Ext.set <;> omega) | (refine Ext.trans ?_ (by assumption))))) only [AX, TY, AD, mapPut, entsOf, oneV, builtinV, idsOf, mapId, touchB, Nat.reduceLT, Nat.reduceLeDiff, Nat.reduceEqDiff, Nat.reduceAdd, Nat.reduceMul, Int.reduceBEq, Int.reduceEq, Int.reduceNeg, Int.reduceLT, Int.reduceLE, Int.reduceAdd, Int.reduceSub, Int.reduceMul, Int.reduceToNat, Int.reduceGT, Nat.reduceBEq, Nat.reducePow, Nat.reduceGT, reduceCtorEq, ↓reduceIte, t0, t7, t9, t38, t39, t40, u0, u1, v0, v1, y0, y1]
  refine hin2.mono ?_
  rintro _ _ ⟨rfl, rfl⟩
  simp -dsimp (disch := first | with_reducible assumption | omega | (intro h_; cases h_; done) | (simp only [LN] <;> omega) | (simp only [LF]; done) | (repeat (first | with_reducible assumption | apply Ext.refl | apply Ext.app | (apply Ext.set <;> omega) | (refine Ext.trans ?_ (by assumption))))) only [AX, TY, AD, mapPut, entsOf, oneV, builtinV, idsOf, mapId, touchB, Nat.reduceLT, Nat.reduceLeDiff, Nat.reduceEqDiff, Nat.reduceAdd, Nat.reduceMul, Int.reduceBEq, Int.reduceEq, Int.reduceNeg, Int.reduceLT, Int.reduceLE, Int.reduceAdd, Int.reduceSub, Int.reduceMul, Int.reduceToNat, Int.reduceGT, Nat.reduceBEq, Nat.reducePow, Nat.reduceGT, reduceCtorEq, ↓reduceIte, t0, t7, t9, t38, t39, t40, loadN_fact gmC, loadN_fact gxC]
  refine hfd.mono ?_
  rintro _ hD ⟨eD, rfl⟩
  have midD := midC.ext eD
  have hxD := eD _ _ hxC
  have gmD := eD _ _ gmC
  have gxD := eD _ _ gxC
  have rbD := rbC.ext eD
  have hpinE : pinsOf S' x.page = pinsOf M' x.page := by
    unfold pinsOf
    rw [find_eq w3]
    cases hq : findF x.page M'.frames with
    | none => rfl
    | some j =>
      have := pins_er S'.frames j
      have t := pins_er M'.frames j
      rw [← w3, this] at t
      exact t
  have hpins := pins_c midD.at' x.page
  rw [hpinE] at hpins
  have ptD : BpPtr M' p2 q2 f2 (fun a => ¬ ownP I oid' a ∧ a ≠ h2.length) := pt8
  cases hfq : findF x.page M'.frames with
  | none =>
    have hp0 : pinsOf M' x.page = 0 := by unfold pinsOf; rw [hfq]
    rw [hp0] at hpins
    simp -dsimp (disch := first | with_reducible assumption | omega | (intro h_; cases h_; done) | (simp only [LN] <;> omega) | (simp only [LF]; done) | (repeat (first | with_reducible assumption | apply Ext.refl | apply Ext.app | (apply Ext.set <;> omega) | (refine Ext.trans ?_ (by assumption))))) only [AX, TY, AD, mapPut, entsOf, oneV, builtinV, idsOf, mapId, touchB, Nat.reduceLT, Nat.reduceLeDiff, Nat.reduceEqDiff, Nat.reduceAdd, Nat.reduceMul, Int.reduceBEq, Int.reduceEq, Int.reduceNeg, Int.reduceLT, Int.reduceLE, Int.reduceAdd, Int.reduceSub, Int.reduceMul, Int.reduceToNat, Int.reduceGT, Nat.reduceBEq, Nat.reducePow, Nat.reduceGT, reduceCtorEq, ↓reduceIte, t0, t7, t9, t38, t39, t40, idxI]
    refine W.drawn [(0, []), (1, []), (2, []), (3, []), (4, []), (5, [4, 3]), (6, [4, 3]), (7, []), (8, []), (9, []), (10, []), (11, []), (12, []), (13, []), (14, []), (15, []), (16, [15, 14]), (17, [15, 14]), (19, [17, 16, 15, 14]), (20, [17, 16, 15, 14]), (21, [20, 19, 17, 16, 15, 14]), (22, [17, 16, 15, 14]), (23, [17, 16, 15, 14]), (24, [17, 16, 15, 14]), (18, [24, 23, 22, 21, 20, 19]), (25, []), (26, []), (27, [])] (by decide +kernel) ?_
    simp -dsimp (disch := first | with_reducible assumption | omega | (intro h_; cases h_; done) | (simp only [LN] <;> omega) | (simp only [LF]; done) | (repeat (first | with_reducible assumption | apply Ext.refl | apply Ext.app | (apply Ext.set <;> omega) | (refine Ext.trans ?_ (by assumption))))) only [AX, TY, AD, mapPut, entsOf, oneV, builtinV, idsOf, mapId, touchB, Nat.reduceLT, Nat.reduceLeDiff, Nat.reduceEqDiff, Nat.reduceAdd, Nat.reduceMul, Int.reduceBEq, Int.reduceEq, Int.reduceNeg, Int.reduceLT, Int.reduceLE, Int.reduceAdd, Int.reduceSub, Int.reduceMul, Int.reduceToNat, Int.reduceGT, Nat.reduceBEq, Nat.reducePow, Nat.reduceGT, reduceCtorEq, ↓reduceIte, t0, t7, t9, t38, t39, t40, idxI, loadN_fact hxD, loadN_fact gxD]
    refine hpins.mono ?_
    rintro _ hF ⟨eF, rfl⟩
    have midF := midD.ext eF
    have z0 := sameO_ext eF (lt_of_some hxD)
    have z1 := sameO_ext eF (lt_of_some gmD)
    have z2 := sameO_ext eF (lt_of_some gxD)
    have rbF := rbD.ext eF
    have gmF := eF _ _ gmD
    have gmF' : hF[h2.length]? = some (.cells (bpV M' p2 c2 q2 d2 f2 k2) .rw) := gmF
    simp -dsimp (disch := first | with_reducible assumption | omega | (intro h_; cases h_; done) | (simp only [LN] <;> omega) | (simp only [LF]; done) | (repeat (first | with_reducible assumption | apply Ext.refl | apply Ext.app | (apply Ext.set <;> omega) | (refine Ext.trans ?_ (by assumption))))) only [AX, TY, AD, mapPut, entsOf, oneV, builtinV, idsOf, mapId, touchB, Nat.reduceLT, Nat.reduceLeDiff, Nat.reduceEqDiff, Nat.reduceAdd, Nat.reduceMul, Int.reduceBEq, Int.reduceEq, Int.reduceNeg, Int.reduceLT, Int.reduceLE, Int.reduceAdd, Int.reduceSub, Int.reduceMul, Int.reduceToNat, Int.reduceGT, Nat.reduceBEq, Nat.reducePow, Nat.reduceGT, reduceCtorEq, ↓reduceIte, t0, t7, t9, t38, t39, t40, idxI, z0, z1, z2, wrap_in]
    refine ⟨m - 1, by omega, i + 1, S', oid', M', p2, c2, q2, d2, f2, k2, ?_⟩
    repeat' (first | assumption | refine And.intro ?_ ?_)
    all_goals first | rfl | omega | (simp; done) | (simp; omega; done) | skip
  | some j =>
    obtain ⟨hj, _⟩ := findF_some hfq
    have hn0 : ¬ (j : Int) < 0 := by omega
    have hn1 : (0 : Int) ≤ (j : Int) := by omega
    have hji : (j : Int) < (M'.frames.length : Int) := by omega
    rw [pinsOf_at hfq hj] at hpins
    have hfn := rbD.frs.nil'
    have hlp := rbD.frs.load (.refl _) hj (o := 2) (m := 1) (by decide)
    simp only [Fr.enc, List.take, List.drop] at hlp
    simp -dsimp (disch := first | with_reducible assumption | omega | (intro h_; cases h_; done) | (simp only [LN] <;> omega) | (simp only [LF]; done) | (repeat (first | with_reducible assumption | apply Ext.refl | apply Ext.app | (apply Ext.set <;> omega) | (refine Ext.trans ?_ (by assumption))))) only [AX, TY, AD, mapPut, entsOf, oneV, builtinV, idsOf, mapId, touchB, Nat.reduceLT, Nat.reduceLeDiff, Nat.reduceEqDiff, Nat.reduceAdd, Nat.reduceMul, Int.reduceBEq, Int.reduceEq, Int.reduceNeg, Int.reduceLT, Int.reduceLE, Int.reduceAdd, Int.reduceSub, Int.reduceMul, Int.reduceToNat, Int.reduceGT, Nat.reduceBEq, Nat.reducePow, Nat.reduceGT, reduceCtorEq, ↓reduceIte, t0, t7, t9, t38, t39, t40, idxI]
    refine W.drawn [(0, []), (1, []), (2, []), (3, []), (4, []), (5, [4, 3]), (6, [4, 3]), (7, []), (8, []), (9, []), (10, []), (11, []), (12, []), (13, []), (14, []), (15, []), (16, [15, 14]), (17, [15, 14]), (19, [17, 16, 15, 14]), (20, [17, 16, 15, 14]), (21, [20, 19, 17, 16, 15, 14]), (22, [17, 16, 15, 14]), (23, [17, 16, 15, 14]), (24, [17, 16, 15, 14]), (18, [24, 23, 22, 21, 20, 19]), (25, []), (26, []), (27, [])] (by decide +kernel) ?_
    simp -dsimp (disch := first | with_reducible assumption | omega | (intro h_; cases h_; done) | (simp only [LN] <;> omega) | (simp only [LF]; done) | (repeat (first | with_reducible assumption | apply Ext.refl | apply Ext.app | (apply Ext.set <;> omega) | (refine Ext.trans ?_ (by assumption))))) only [AX, TY, AD, mapPut, entsOf, oneV, builtinV, idsOf, mapId, touchB, Nat.reduceLT, Nat.reduceLeDiff, Nat.reduceEqDiff, Nat.reduceAdd, Nat.reduceMul, Int.reduceBEq, Int.reduceEq, Int.reduceNeg, Int.reduceLT, Int.reduceLE, Int.reduceAdd, Int.reduceSub, Int.reduceMul, Int.reduceToNat, Int.reduceGT, Nat.reduceBEq, Nat.reducePow, Nat.reduceGT, reduceCtorEq, ↓reduceIte, t0, t7, t9, t38, t39, t40, idxI, hn0, eq_true hn1, loadN_fact hxD, loadN_fact gxD, loadN_fact gmD, hji, hlp]
    refine hpins.mono ?_
    rintro _ hF ⟨eF, rfl⟩
    have midF := midD.ext eF
    have z0 := sameO_ext eF (lt_of_some hxD)
    have z1 := sameO_ext eF (lt_of_some gmD)
    have z2 := sameO_ext eF (lt_of_some gxD)
    have rbF := rbD.ext eF
    have gmF := eF _ _ gmD
    have gmF' : hF[h2.length]? = some (.cells (bpV M' p2 c2 q2 d2 f2 k2) .rw) := gmF
    have z3 : sameO hD[sid f2]? hF[sid f2]? = true := by
      cases hf2 : f2 with
      | none => have := hfn hf2; omega
      | some z => exact sameO_ext eF (rbD.frs.lt (o := z.2) hf2)
    simp -dsimp (disch := first | with_reducible assumption | omega | (intro h_; cases h_; done) | (simp only [LN] <;> omega) | (simp only [LF]; done) | (repeat (first | with_reducible assumption | apply Ext.refl | apply Ext.app | (apply Ext.set <;> omega) | (refine Ext.trans ?_ (by assumption))))) only [AX, TY, AD, mapPut, entsOf, oneV, builtinV, idsOf, mapId, touchB, Nat.reduceLT, Nat.reduceLeDiff, Nat.reduceEqDiff, Nat.reduceAdd, Nat.reduceMul, Int.reduceBEq, Int.reduceEq, Int.reduceNeg, Int.reduceLT, Int.reduceLE, Int.reduceAdd, Int.reduceSub, Int.reduceMul, Int.reduceToNat, Int.reduceGT, Nat.reduceBEq, Nat.reducePow, Nat.reduceGT, reduceCtorEq, ↓reduceIte, t0, t7, t9, t38, t39, t40, idxI, hn0, eq_true hn1, z0, z1, z2, z3, wrap_in]
    refine ⟨m - 1, by omega, i + 1, S', oid', M', p2, c2, q2, d2, f2, k2, ?_⟩
    repeat' (first | assumption | refine And.intro ?_ ?_)
    all_goals first | rfl | omega | (simp; done) | (simp; omega; done) | skip
end Go.Proofs.YtmjfhckioaempaaA
namespace Go.Proofs.YtmjfhckioaempaaA
open Go Go.Proofs Go.RowKit
set_option linter.unusedVariables false
theorem row7 {h : Heap} (a0 a1 a2 : V) (v0 : ArgV false (.int .i64) h a0) (v1 : ArgV false (.int .i64) h a1) (v2 : ArgV false (.slice 4 32 kCl) h a2) : WR (callE Try.prog hk 7 [a0, a1, a2] h) fun r h' => r = .bool true := by
  obtain ⟨a, rfl, _⟩ := v0.int
  obtain ⟨b, rfl, _⟩ := v1.int
  obtain ⟨p, c, l, rfl, hs, hc⟩ := v2.cls
  exact law7_ok hs (fun c hc' => (hc c hc').1) a b
end Go.Proofs.YtmjfhckioaempaaA
