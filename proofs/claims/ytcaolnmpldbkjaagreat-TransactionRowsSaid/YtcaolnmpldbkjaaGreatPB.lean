/- Words of this session: chapter 47: put, Own and Rows of the reference, in memory. Words of this session: chapter 47: Rows of the reference; the law TransactionRows. Words of this session: chapter 47: the row of TransactionRows. -/
import Derived.Test.YtcaolnmpldbkjaaGreatPM
import Derived.Test.YtcaolnmpldbkjaaGreatPO
namespace Go.Proofs.YtcaolnmpldbkjaaGreatA
open Go Go.Proofs Go.RowKit
set_option linter.unusedVariables false
set_option linter.unusedSimpArgs false
set_option maxRecDepth 10000
set_option maxHeartbeats 4000000
/-- A list of versions that may be cut. -/
structure VR (h : Heap) (p : Option (Nat × Nat)) (c : Option Nat) (ys : List Ver) : Prop where
  rs : Rs h p c 5 Ver.enc ys
  ok : ∀ y ∈ ys, VOK h y
theorem VR.ext {h hh : Heap} {p : Option (Nat × Nat)} {c : Option Nat} {ys : List Ver} (r : VR h p c ys) (e : Ext h hh) : VR hh p c ys := ⟨r.rs.ext e, fun y hy => (r.ok y hy).ext e⟩
theorem cmpS_lt {x y : Rid} : cmpS x y < 0 ↔ x.a < y.a ∨ x.a = y.a ∧ x.b < y.b := by
  unfold cmpS
  split
  · omega
  · split
    · rename_i c; simp [c]
    · rename_i c; simp; omega
theorem put_ok {h : Heap} {p : Option (Nat × Nat)} {c : Option Nat} {ys : List Ver} (hy : VR h p c ys) (hB : ys.length ≤ 1000) {v : Ver} (hv : VOK h v) :
    WR (callE Tryz.prog hk 36 [.slice p ys.length c, .agg v.enc] h) fun r h' => Ext h h' ∧ ∃ p' c' zs, r = .slice p' zs.length c' ∧ VR h' p' c' zs ∧ zs.map Ver.key = insK (ys.map Ver.key) v.key ∧ zs.length ≤ ys.length + 1 := by
  have hn := hy.rs.sl.nil'
  have hl := hy.rs.sl.small
  refine WR.call (hH := rfl) Tryz.func36 rfl (n := 50) rfl rfl (by simp) ?_
  obtain ⟨g, hg, gv, ex, hgl⟩ : ∃ g, h ++ [O.cells v.enc .rw] = g ∧ g[h.length]? = some (O.cells v.enc .rw) ∧ Ext h g ∧ g.length = h.length + 1 := ⟨_, rfl, by simp, (by (repeat (first | assumption | apply Ext.refl | apply Ext.app | (apply Ext.set <;> omega) | exact Ext.trans (by assumption) (by assumption) | (refine Ext.trans ?_ (by assumption))))), by simp⟩
  simp only [Ver.enc] at hg gv
  simp -dsimp (disch := first | with_reducible assumption | omega | (intro h_; cases h_; done) | (simp only [LN] <;> omega) | (simp only [LF]; done) | (repeat (first | with_reducible assumption | apply Ext.refl | apply Ext.app | (apply Ext.set <;> omega) | (refine Ext.trans ?_ (by assumption))))) only [AX, TY, AD, mapPut, entsOf, oneV, builtinV, idsOf, mapId, touchB, Nat.reduceLT, Nat.reduceLeDiff, Nat.reduceEqDiff, Nat.reduceAdd, Nat.reduceMul, Int.reduceBEq, Int.reduceEq, Int.reduceNeg, Int.reduceLT, Int.reduceLE, Int.reduceAdd, Int.reduceSub, Int.reduceMul, Int.reduceToNat, Int.reduceGT, Nat.reduceBEq, Nat.reducePow, Nat.reduceGT, reduceCtorEq, ↓reduceIte, Ver.enc, hg]
  refine W.loop (fun m τ hh => Ext g hh ∧ ∃ i : Nat, m + i = ys.length ∧ τ 0 = .slice p ys.length c ∧ τ 3 = .ptr (some (h.length, 0)) ∧ τ 5 = .int .i64 i ∧ ∀ j (hj : j < ys.length), j < i → ltK (ys[j]).key v.key) ?_ (m := ys.length) ?_
  rotate_left
  · refine ⟨(by (repeat (first | assumption | apply Ext.refl | apply Ext.app | (apply Ext.set <;> omega) | exact Ext.trans (by assumption) (by assumption) | (refine Ext.trans ?_ (by assumption))))), 0, by simp, rfl, rfl, rfl, by simp⟩
  rintro m τ hh ⟨e, i, hm, t0, t3, t5, hlt⟩
  have gv2 := e _ _ gv
  have e0 := ex.trans e
  have le := e.le
  simp -dsimp (disch := first | with_reducible assumption | omega | (intro h_; cases h_; done) | (simp only [LN] <;> omega) | (simp only [LF]; done) | (repeat (first | with_reducible assumption | apply Ext.refl | apply Ext.app | (apply Ext.set <;> omega) | (refine Ext.trans ?_ (by assumption))))) only [AX, TY, AD, mapPut, entsOf, oneV, builtinV, idsOf, mapId, touchB, Nat.reduceLT, Nat.reduceLeDiff, Nat.reduceEqDiff, Nat.reduceAdd, Nat.reduceMul, Int.reduceBEq, Int.reduceEq, Int.reduceNeg, Int.reduceLT, Int.reduceLE, Int.reduceAdd, Int.reduceSub, Int.reduceMul, Int.reduceToNat, Int.reduceGT, Nat.reduceBEq, Nat.reducePow, Nat.reduceGT, reduceCtorEq, ↓reduceIte, t0, t3, t5]
  refine W.drawn [(0, []), (1, [0]), (2, [0]), (3, []), (4, []), (5, []), (6, [5]), (7, []), (8, []), (9, []), (10, [9, 8, 7, 6, 5]), (11, [9, 8, 7, 6, 5]), (12, []), (13, []), (14, [])] (by decide +kernel) ?_
  have atK : ∀ (hi : i < ys.length) , ¬ ltK (ys[i]).key v.key → insK (ys.map Ver.key) v.key = if (match (ys.map Ver.key)[i]? with | some x => decide (x.rid = v.key.rid) | none => false) = true then ys.map Ver.key else (ys.map Ver.key).take i ++ [v.key] ++ (ys.map Ver.key).drop i := fun hi q =>
    insK_at (by simp; omega) (fun j hj hji => by rw [List.getElem_map]; exact hlt j (by simpa using hj) hji) (fun hh => by rw [List.getElem_map]; exact q)
  by_cases c1 : (i : Int) < (ys.length : Int)
  · have hi : i < ys.length := by omega
    have hla := hy.rs.sl.load0 e0 hi (m := 2) (by decide)
    have tk2 : ∀ x : Ver, x.enc.take 2 = Rid.enc x.rid := fun _ => rfl
    rw [tk2] at hla
    have atK' := atK hi
    have hlt' : ltK (ys[i]).key v.key → ∀ j (hj : j < ys.length), j < i + 1 → ltK (ys[j]).key v.key := fun q j hj hji => by
      by_cases cc : j = i
      · subst cc; exact q
      · exact hlt j hj (by omega)
    have hgk : (ys.map Ver.key)[i]? = some (ys[i]).key := by simp [hi]
    generalize hx : ys[i] = x at hla atK' hlt' hgk
    have hcmp := cmpS_ok (h := hh) x.rid v.rid
    simp only [Rid.enc, Ver.rid] at hla hcmp
    simp -dsimp (disch := first | with_reducible assumption | omega | (intro h_; cases h_; done) | (simp only [LN] <;> omega) | (simp only [LF]; done) | (repeat (first | with_reducible assumption | apply Ext.refl | apply Ext.app | (apply Ext.set <;> omega) | (refine Ext.trans ?_ (by assumption))))) only [AX, TY, AD, mapPut, entsOf, oneV, builtinV, idsOf, mapId, touchB, Nat.reduceLT, Nat.reduceLeDiff, Nat.reduceEqDiff, Nat.reduceAdd, Nat.reduceMul, Int.reduceBEq, Int.reduceEq, Int.reduceNeg, Int.reduceLT, Int.reduceLE, Int.reduceAdd, Int.reduceSub, Int.reduceMul, Int.reduceToNat, Int.reduceGT, Nat.reduceBEq, Nat.reducePow, Nat.reduceGT, reduceCtorEq, ↓reduceIte, t0, t3, t5, c1, hla, loadN_fact gv2]
    refine hcmp.mono ?_
    rintro _ h2 ⟨e2, rfl⟩
    have gv3 := e2 _ _ gv2
    have s1 := sameO_ext e2 (lt_of_some gv2)
    have s2 : sameO hh[sid p]? h2[sid p]? = true := hy.rs.sl.so hi e0 e2
    by_cases c2 : cmpS ⟨x.a, x.b⟩ ⟨v.a, v.b⟩ < 0
    · have hlt2 := hlt' (cmpS_lt.1 c2)
      have e3 := e.trans e2
      simp -dsimp (disch := first | with_reducible assumption | omega | (intro h_; cases h_; done) | (simp only [LN] <;> omega) | (simp only [LF]; done) | (repeat (first | with_reducible assumption | apply Ext.refl | apply Ext.app | (apply Ext.set <;> omega) | (refine Ext.trans ?_ (by assumption))))) only [AX, TY, AD, mapPut, entsOf, oneV, builtinV, idsOf, mapId, touchB, Nat.reduceLT, Nat.reduceLeDiff, Nat.reduceEqDiff, Nat.reduceAdd, Nat.reduceMul, Int.reduceBEq, Int.reduceEq, Int.reduceNeg, Int.reduceLT, Int.reduceLE, Int.reduceAdd, Int.reduceSub, Int.reduceMul, Int.reduceToNat, Int.reduceGT, Nat.reduceBEq, Nat.reducePow, Nat.reduceGT, reduceCtorEq, ↓reduceIte, t0, t3, t5, c2, s1, s2, wrap_in]
      refine ⟨m - 1, by omega, e3, i + 1, ?_⟩
      repeat' (first | assumption | refine And.intro ?_ ?_)
      all_goals first | rfl | omega | (simp; done) | (simp; omega; done) | skip
    · have hat := atK' (fun q => c2 (cmpS_lt.2 q))
      have e3 := e0.trans e2
      rw [hgk] at hat
      have hla2 := hy.rs.sl.load0 e3 hi (m := 2) (by decide)
      rw [hx, tk2] at hla2
      simp only [Rid.enc, Ver.rid] at hla2
      simp -dsimp (disch := first | with_reducible assumption | omega | (intro h_; cases h_; done) | (simp only [LN] <;> omega) | (simp only [LF]; done) | (repeat (first | with_reducible assumption | apply Ext.refl | apply Ext.app | (apply Ext.set <;> omega) | (refine Ext.trans ?_ (by assumption))))) only [AX, TY, AD, mapPut, entsOf, oneV, builtinV, idsOf, mapId, touchB, Nat.reduceLT, Nat.reduceLeDiff, Nat.reduceEqDiff, Nat.reduceAdd, Nat.reduceMul, Int.reduceBEq, Int.reduceEq, Int.reduceNeg, Int.reduceLT, Int.reduceLE, Int.reduceAdd, Int.reduceSub, Int.reduceMul, Int.reduceToNat, Int.reduceGT, Nat.reduceBEq, Nat.reducePow, Nat.reduceGT, reduceCtorEq, ↓reduceIte, t0, t3, t5, c2, s1, s2]
      refine W.drawn [(0, []), (1, [0]), (2, [0]), (3, []), (4, []), (5, []), (6, [5]), (7, []), (8, []), (9, []), (10, [9, 8, 7, 6, 5]), (11, [9, 8, 7, 6, 5]), (12, []), (13, [])] (by decide +kernel) ?_
      by_cases c3 : x.a = v.a ∧ x.b = v.b
      · have hk : insK (ys.map Ver.key) v.key = ys.map Ver.key := by rw [hat, if_pos (decide_eq_true (rid_iff.2 c3))]
        simp -dsimp (disch := first | with_reducible assumption | omega | (intro h_; cases h_; done) | (simp only [LN] <;> omega) | (simp only [LF]; done) | (repeat (first | with_reducible assumption | apply Ext.refl | apply Ext.app | (apply Ext.set <;> omega) | (refine Ext.trans ?_ (by assumption))))) only [AX, TY, AD, mapPut, entsOf, oneV, builtinV, idsOf, mapId, touchB, Nat.reduceLT, Nat.reduceLeDiff, Nat.reduceEqDiff, Nat.reduceAdd, Nat.reduceMul, Int.reduceBEq, Int.reduceEq, Int.reduceNeg, Int.reduceLT, Int.reduceLE, Int.reduceAdd, Int.reduceSub, Int.reduceMul, Int.reduceToNat, Int.reduceGT, Nat.reduceBEq, Nat.reducePow, Nat.reduceGT, reduceCtorEq, ↓reduceIte, t0, t3, t5, c1, hla2, loadN_fact gv3, eqt_33, eq_true c3]
        exact ⟨e3, p, c, ys, rfl, hy.ext e3, hk.symm, by omega⟩
      · have hk : insK (ys.map Ver.key) v.key = (ys.map Ver.key).take i ++ [v.key] ++ (ys.map Ver.key).drop i := by
          rw [hat, if_neg (fun q => c3 (rid_iff.1 (of_decide_eq_true q)))]
        simp -dsimp (disch := first | with_reducible assumption | omega | (intro h_; cases h_; done) | (simp only [LN] <;> omega) | (simp only [LF]; done) | (repeat (first | with_reducible assumption | apply Ext.refl | apply Ext.app | (apply Ext.set <;> omega) | (refine Ext.trans ?_ (by assumption))))) only [AX, TY, AD, mapPut, entsOf, oneV, builtinV, idsOf, mapId, touchB, Nat.reduceLT, Nat.reduceLeDiff, Nat.reduceEqDiff, Nat.reduceAdd, Nat.reduceMul, Int.reduceBEq, Int.reduceEq, Int.reduceNeg, Int.reduceLT, Int.reduceLE, Int.reduceAdd, Int.reduceSub, Int.reduceMul, Int.reduceToNat, Int.reduceGT, Nat.reduceBEq, Nat.reducePow, Nat.reduceGT, reduceCtorEq, ↓reduceIte, t0, t3, t5, c1, hla2, loadN_fact gv3, eqt_33, c3]
        refine W.drawn [(0, []), (1, [0]), (2, [1, 0]), (3, [0]), (4, []), (5, [4, 3, 2, 1, 0]), (6, [4, 3, 2, 1, 0]), (7, []), (8, [7, 6, 5, 4, 3, 2, 1, 0]), (9, [8, 7, 6, 5, 4, 3, 2, 1, 0]), (10, [7, 6, 5, 4, 3, 2, 1, 0]), (11, []), (12, [])] (by decide +kernel) ?_
        have ltV := lt_of_some gv3
        have hle0 := Ext.le e3
        obtain ⟨g1, hg1, gz1, ex1, l1⟩ : ∃ g1, h2 ++ [O.cells [] .rw] = g1 ∧ g1[(h2).length]? = some (O.cells [] .rw) ∧ Ext h2 g1 ∧ g1.length = (h2).length + 1 := ⟨_, rfl, by simp, (by (repeat (first | assumption | apply Ext.refl | apply Ext.app | (apply Ext.set <;> omega) | exact Ext.trans (by assumption) (by assumption) | (refine Ext.trans ?_ (by assumption))))), by simp⟩
        have g0' : Gr (h2).length g1 (some ((h2).length, 0)) (some 0) (some (h2).length) 5 Ver.enc [] := Gr.built (ys := ([] : List Ver)) gz1 rfl (Nat.le_refl _) (fun _ h => (by cases h)) (fun _ h => (by cases h)) (Nat.zero_le _) rfl
        have gv1 := ex1 _ _ gv3
        have hhi := hy.rs.hi (b := i) (by omega)
        have hs1 := hhi.1 g1 .i64 (Ext.trans e3 ex1)
        have hlen : (ys.take i).length = i := by rw [List.length_take]; omega
        have hw1 := g0'.wrS (by omega) (Ext.refl _) (vc := c) (bytes := 56) ((hhi.2.sl).ext (Ext.trans e3 ex1)) (fun _ _ => rfl) (by simp; omega) (by simp; omega)
        rw [hlen, List.nil_append] at hw1
        simp only [List.length_nil] at hw1
        simp -dsimp (disch := first | with_reducible assumption | omega | (intro h_; cases h_; done) | (simp only [LN] <;> omega) | (simp only [LF]; done) | (repeat (first | with_reducible assumption | apply Ext.refl | apply Ext.app | (apply Ext.set <;> omega) | (refine Ext.trans ?_ (by assumption))))) only [AX, TY, AD, mapPut, entsOf, oneV, builtinV, idsOf, mapId, touchB, Nat.reduceLT, Nat.reduceLeDiff, Nat.reduceEqDiff, Nat.reduceAdd, Nat.reduceMul, Int.reduceBEq, Int.reduceEq, Int.reduceNeg, Int.reduceLT, Int.reduceLE, Int.reduceAdd, Int.reduceSub, Int.reduceMul, Int.reduceToNat, Int.reduceGT, Nat.reduceBEq, Nat.reducePow, Nat.reduceGT, reduceCtorEq, ↓reduceIte, t0, t3, t5, hg1, hs1, loadN_fact gv1, ltV]
        have hpl : ∀ a o, p = some (a, o) → a < h.length := fun a o z => hy.rs.sl.lt z
        refine ⟨?_, hw1.mono ?_⟩
        · cases p with
          | none => rfl
          | some q =>
            obtain ⟨a, o⟩ := q
            have := hpl a o rfl
            simp; omega
        rintro w h8 ⟨p8, c8, o8, rfl, gr8, ho8, hle8, hfr8⟩
        have fr8 : ∀ a, a < (h2).length → h8[a]? = (h2)[a]? := fun a ha => by
          rw [hfr8 a (fun q => by cases q; omega) (by omega)]
          exact ex1.same ha
        have e8 : Ext h2 h8 := Ext.of_keep fr8
        have l8 := e8.le
        have gv8 := e8 _ _ gv3
        have sv8 : sameO g1[h.length]? h8[h.length]? = true := by rw [gv8, gv1]; exact sameO_refl _
        have hw2 := gr8.wrB (by omega) (hh := h8 ++ [O.cells (Ver.enc v) .rw]) (by (repeat (first | assumption | apply Ext.refl | apply Ext.app | (apply Ext.set <;> omega) | exact Ext.trans (by assumption) (by assumption) | (refine Ext.trans ?_ (by assumption))))) [v] (vc := some 1) (bytes := 56) (snoc_last _ rfl) rfl (fun _ _ => rfl) (fun y hy => by rw [List.mem_singleton] at hy; subst hy; rfl) (by simp; omega) (by simp; omega)
        simp only [Ver.enc, hlen, List.length_singleton] at hw2
        simp -dsimp (disch := first | with_reducible assumption | omega | (intro h_; cases h_; done) | (simp only [LN] <;> omega) | (simp only [LF]; done) | (repeat (first | with_reducible assumption | apply Ext.refl | apply Ext.app | (apply Ext.set <;> omega) | (refine Ext.trans ?_ (by assumption))))) only [AX, TY, AD, mapPut, entsOf, oneV, builtinV, idsOf, mapId, touchB, Nat.reduceLT, Nat.reduceLeDiff, Nat.reduceEqDiff, Nat.reduceAdd, Nat.reduceMul, Int.reduceBEq, Int.reduceEq, Int.reduceNeg, Int.reduceLT, Int.reduceLE, Int.reduceAdd, Int.reduceSub, Int.reduceMul, Int.reduceToNat, Int.reduceGT, Nat.reduceBEq, Nat.reducePow, Nat.reduceGT, reduceCtorEq, ↓reduceIte, t0, t3, t5, loadN_fact gv8, hlen, sv8]
        refine hw2.mono ?_
        rintro w h9 ⟨p9, c9, o9, rfl, gr9, ho9, hle9, hfr9⟩
        have fr9 : ∀ a, a < (h2).length → h9[a]? = (h2)[a]? := fun a ha => by
          rw [hfr9 a (fun q => by have := gr8.base a q; omega) (by omega)]
          exact fr8 a ha
        have e9 : Ext h2 h9 := Ext.of_keep fr9
        have l9 := e9.le
        have gv9 := e9 _ _ gv3
        have sv9 : sameO h8[h.length]? h9[h.length]? = true := by rw [gv9, gv8]; exact sameO_refl _
        have sv91 : sameO g1[h.length]? h9[h.length]? = true := by rw [gv9, gv1]; exact sameO_refl _
        obtain ⟨p2, c2', hlo, rlo⟩ := hy.rs.lo (a := i) (by omega)
        have hs9 := hlo h9 .i64 (Ext.trans e3 e9)
        have hlen2 : (ys.drop i).length = ys.length - i := List.length_drop
        have hln9 : (ys.take i ++ [v]).length = i + 1 := by rw [List.length_append, hlen]; rfl
        have hw3 := gr9.wrS (by omega) (Ext.refl _) (vc := c2') (bytes := 56) ((rlo.sl).ext (Ext.trans e3 e9)) (fun _ _ => rfl) (by rw [hln9, hlen2]; omega) (by rw [hln9, hlen2]; omega)
        rw [hlen2, hln9] at hw3
        simp -dsimp (disch := first | with_reducible assumption | omega | (intro h_; cases h_; done) | (simp only [LN] <;> omega) | (simp only [LF]; done) | (repeat (first | with_reducible assumption | apply Ext.refl | apply Ext.app | (apply Ext.set <;> omega) | (refine Ext.trans ?_ (by assumption))))) only [AX, TY, AD, mapPut, entsOf, oneV, builtinV, idsOf, mapId, touchB, Nat.reduceLT, Nat.reduceLeDiff, Nat.reduceEqDiff, Nat.reduceAdd, Nat.reduceMul, Int.reduceBEq, Int.reduceEq, Int.reduceNeg, Int.reduceLT, Int.reduceLE, Int.reduceAdd, Int.reduceSub, Int.reduceMul, Int.reduceToNat, Int.reduceGT, Nat.reduceBEq, Nat.reducePow, Nat.reduceGT, reduceCtorEq, ↓reduceIte, t0, t3, t5, hln9, hs9, sv9, sv91]
        refine ⟨?_, hw3.mono ?_⟩
        · cases p with
          | none =>
            refine ⟨?_, rfl, rfl, rfl⟩
            simp
          | some q =>
            obtain ⟨a, o⟩ := q
            have := hpl a o rfl
            have m8 := gr8.muts (V.slice (some (h8.length, 0)) 1 (some 1)) (fun x => ![a].contains x) (fun id z => by have := gr8.base id z; simp; omega)
            rw [hlen] at m8
            refine ⟨?_, by simp; omega, by simp; omega, by simp; omega⟩
            rw [Bool.and_eq_true]
            exact ⟨m8, by simp; omega⟩
        rintro w h10 ⟨p10, c10, o10, rfl, gr10, ho10, hle10, hfr10⟩
        have fr10 : ∀ a, a < (h2).length → h10[a]? = (h2)[a]? := fun a ha => by
          rw [hfr10 a (fun q => by have := gr9.base a q; omega) (by omega)]
          exact fr9 a ha
        have e10 : Ext h2 h10 := Ext.of_keep fr10
        have gv10 := e10 _ _ gv3
        have sv10 : sameO h9[h.length]? h10[h.length]? = true := by rw [gv10, gv9]; exact sameO_refl _
        have hln10 : (ys.take i ++ [v] ++ ys.drop i).length = ys.length + 1 := by rw [List.length_append, hln9, hlen2]; omega
        have e0A : Ext h h10 := Ext.trans e3 e10
        simp -dsimp (disch := first | with_reducible assumption | omega | (intro h_; cases h_; done) | (simp only [LN] <;> omega) | (simp only [LF]; done) | (repeat (first | with_reducible assumption | apply Ext.refl | apply Ext.app | (apply Ext.set <;> omega) | (refine Ext.trans ?_ (by assumption))))) only [AX, TY, AD, mapPut, entsOf, oneV, builtinV, idsOf, mapId, touchB, Nat.reduceLT, Nat.reduceLeDiff, Nat.reduceEqDiff, Nat.reduceAdd, Nat.reduceMul, Int.reduceBEq, Int.reduceEq, Int.reduceNeg, Int.reduceLT, Int.reduceLE, Int.reduceAdd, Int.reduceSub, Int.reduceMul, Int.reduceToNat, Int.reduceGT, Nat.reduceBEq, Nat.reducePow, Nat.reduceGT, reduceCtorEq, ↓reduceIte, t0, t3, t5, hln10, sv10]
        refine ⟨e0A, p10, c10, ys.take i ++ [v] ++ ys.drop i, by rw [hln10], ⟨gr10.rs, fun y hy' => ?_⟩, ?_, by rw [hln10]; exact Nat.le_refl _⟩
        · rcases List.mem_append.1 hy' with hy' | hy'
          · rcases List.mem_append.1 hy' with hy' | hy'
            · exact (hy.ok y (List.mem_of_mem_take hy')).ext e0A
            · rw [List.mem_singleton] at hy'; subst hy'; exact Sl.ext hv e0A
          · exact (hy.ok y (List.mem_of_mem_drop hy')).ext e0A
        · rw [hk, List.map_append, List.map_append, List.map_take, List.map_drop]; rfl
  · have hk : insK (ys.map Ver.key) v.key = (ys.map Ver.key).take i ++ [v.key] ++ (ys.map Ver.key).drop i := by
      have hnk : (ys.map Ver.key)[i]? = none := by rw [List.getElem?_eq_none_iff, List.length_map]; omega
      rw [insK_at (i := i) (by simp; omega) (fun j hj hji => by rw [List.getElem_map]; exact hlt j (by simpa using hj) hji) (fun q => by rw [List.length_map] at q; omega), hnk]
      rfl
    simp -dsimp (disch := first | with_reducible assumption | omega | (intro h_; cases h_; done) | (simp only [LN] <;> omega) | (simp only [LF]; done) | (repeat (first | with_reducible assumption | apply Ext.refl | apply Ext.app | (apply Ext.set <;> omega) | (refine Ext.trans ?_ (by assumption))))) only [AX, TY, AD, mapPut, entsOf, oneV, builtinV, idsOf, mapId, touchB, Nat.reduceLT, Nat.reduceLeDiff, Nat.reduceEqDiff, Nat.reduceAdd, Nat.reduceMul, Int.reduceBEq, Int.reduceEq, Int.reduceNeg, Int.reduceLT, Int.reduceLE, Int.reduceAdd, Int.reduceSub, Int.reduceMul, Int.reduceToNat, Int.reduceGT, Nat.reduceBEq, Nat.reducePow, Nat.reduceGT, reduceCtorEq, ↓reduceIte, t0, t3, t5, c1]
    refine W.drawn [(0, []), (1, [0]), (2, [0]), (3, []), (4, []), (5, []), (6, [5]), (7, []), (8, []), (9, []), (10, [9, 8, 7, 6, 5]), (11, [9, 8, 7, 6, 5]), (12, []), (13, [])] (by decide +kernel) ?_
    simp -dsimp (disch := first | with_reducible assumption | omega | (intro h_; cases h_; done) | (simp only [LN] <;> omega) | (simp only [LF]; done) | (repeat (first | with_reducible assumption | apply Ext.refl | apply Ext.app | (apply Ext.set <;> omega) | (refine Ext.trans ?_ (by assumption))))) only [AX, TY, AD, mapPut, entsOf, oneV, builtinV, idsOf, mapId, touchB, Nat.reduceLT, Nat.reduceLeDiff, Nat.reduceEqDiff, Nat.reduceAdd, Nat.reduceMul, Int.reduceBEq, Int.reduceEq, Int.reduceNeg, Int.reduceLT, Int.reduceLE, Int.reduceAdd, Int.reduceSub, Int.reduceMul, Int.reduceToNat, Int.reduceGT, Nat.reduceBEq, Nat.reducePow, Nat.reduceGT, reduceCtorEq, ↓reduceIte, t0, t3, t5, c1]
    refine W.drawn [(0, []), (1, [0]), (2, [1, 0]), (3, [0]), (4, []), (5, [4, 3, 2, 1, 0]), (6, [4, 3, 2, 1, 0]), (7, []), (8, [7, 6, 5, 4, 3, 2, 1, 0]), (9, [8, 7, 6, 5, 4, 3, 2, 1, 0]), (10, [7, 6, 5, 4, 3, 2, 1, 0]), (11, []), (12, [])] (by decide +kernel) ?_
    have ltV := lt_of_some gv2
    have hle0 := Ext.le e0
    obtain ⟨g1, hg1, gz1, ex1, l1⟩ : ∃ g1, hh ++ [O.cells [] .rw] = g1 ∧ g1[(hh).length]? = some (O.cells [] .rw) ∧ Ext hh g1 ∧ g1.length = (hh).length + 1 := ⟨_, rfl, by simp, (by (repeat (first | assumption | apply Ext.refl | apply Ext.app | (apply Ext.set <;> omega) | exact Ext.trans (by assumption) (by assumption) | (refine Ext.trans ?_ (by assumption))))), by simp⟩
    have g0' : Gr (hh).length g1 (some ((hh).length, 0)) (some 0) (some (hh).length) 5 Ver.enc [] := Gr.built (ys := ([] : List Ver)) gz1 rfl (Nat.le_refl _) (fun _ h => (by cases h)) (fun _ h => (by cases h)) (Nat.zero_le _) rfl
    have gv1 := ex1 _ _ gv2
    have hhi := hy.rs.hi (b := i) (by omega)
    have hs1 := hhi.1 g1 .i64 (Ext.trans e0 ex1)
    have hlen : (ys.take i).length = i := by rw [List.length_take]; omega
    have hw1 := g0'.wrS (by omega) (Ext.refl _) (vc := c) (bytes := 56) ((hhi.2.sl).ext (Ext.trans e0 ex1)) (fun _ _ => rfl) (by simp; omega) (by simp; omega)
    rw [hlen, List.nil_append] at hw1
    simp only [List.length_nil] at hw1
    simp -dsimp (disch := first | with_reducible assumption | omega | (intro h_; cases h_; done) | (simp only [LN] <;> omega) | (simp only [LF]; done) | (repeat (first | with_reducible assumption | apply Ext.refl | apply Ext.app | (apply Ext.set <;> omega) | (refine Ext.trans ?_ (by assumption))))) only [AX, TY, AD, mapPut, entsOf, oneV, builtinV, idsOf, mapId, touchB, Nat.reduceLT, Nat.reduceLeDiff, Nat.reduceEqDiff, Nat.reduceAdd, Nat.reduceMul, Int.reduceBEq, Int.reduceEq, Int.reduceNeg, Int.reduceLT, Int.reduceLE, Int.reduceAdd, Int.reduceSub, Int.reduceMul, Int.reduceToNat, Int.reduceGT, Nat.reduceBEq, Nat.reducePow, Nat.reduceGT, reduceCtorEq, ↓reduceIte, t0, t3, t5, hg1, hs1, loadN_fact gv1, ltV]
    have hpl : ∀ a o, p = some (a, o) → a < h.length := fun a o z => hy.rs.sl.lt z
    refine ⟨?_, hw1.mono ?_⟩
    · cases p with
      | none => rfl
      | some q =>
        obtain ⟨a, o⟩ := q
        have := hpl a o rfl
        simp; omega
    rintro w h8 ⟨p8, c8, o8, rfl, gr8, ho8, hle8, hfr8⟩
    have fr8 : ∀ a, a < (hh).length → h8[a]? = (hh)[a]? := fun a ha => by
      rw [hfr8 a (fun q => by cases q; omega) (by omega)]
      exact ex1.same ha
    have e8 : Ext hh h8 := Ext.of_keep fr8
    have l8 := e8.le
    have gv8 := e8 _ _ gv2
    have sv8 : sameO g1[h.length]? h8[h.length]? = true := by rw [gv8, gv1]; exact sameO_refl _
    have hw2 := gr8.wrB (by omega) (hh := h8 ++ [O.cells (Ver.enc v) .rw]) (by (repeat (first | assumption | apply Ext.refl | apply Ext.app | (apply Ext.set <;> omega) | exact Ext.trans (by assumption) (by assumption) | (refine Ext.trans ?_ (by assumption))))) [v] (vc := some 1) (bytes := 56) (snoc_last _ rfl) rfl (fun _ _ => rfl) (fun y hy => by rw [List.mem_singleton] at hy; subst hy; rfl) (by simp; omega) (by simp; omega)
    simp only [Ver.enc, hlen, List.length_singleton] at hw2
    simp -dsimp (disch := first | with_reducible assumption | omega | (intro h_; cases h_; done) | (simp only [LN] <;> omega) | (simp only [LF]; done) | (repeat (first | with_reducible assumption | apply Ext.refl | apply Ext.app | (apply Ext.set <;> omega) | (refine Ext.trans ?_ (by assumption))))) only [AX, TY, AD, mapPut, entsOf, oneV, builtinV, idsOf, mapId, touchB, Nat.reduceLT, Nat.reduceLeDiff, Nat.reduceEqDiff, Nat.reduceAdd, Nat.reduceMul, Int.reduceBEq, Int.reduceEq, Int.reduceNeg, Int.reduceLT, Int.reduceLE, Int.reduceAdd, Int.reduceSub, Int.reduceMul, Int.reduceToNat, Int.reduceGT, Nat.reduceBEq, Nat.reducePow, Nat.reduceGT, reduceCtorEq, ↓reduceIte, t0, t3, t5, loadN_fact gv8, hlen, sv8]
    refine hw2.mono ?_
    rintro w h9 ⟨p9, c9, o9, rfl, gr9, ho9, hle9, hfr9⟩
    have fr9 : ∀ a, a < (hh).length → h9[a]? = (hh)[a]? := fun a ha => by
      rw [hfr9 a (fun q => by have := gr8.base a q; omega) (by omega)]
      exact fr8 a ha
    have e9 : Ext hh h9 := Ext.of_keep fr9
    have l9 := e9.le
    have gv9 := e9 _ _ gv2
    have sv9 : sameO h8[h.length]? h9[h.length]? = true := by rw [gv9, gv8]; exact sameO_refl _
    have sv91 : sameO g1[h.length]? h9[h.length]? = true := by rw [gv9, gv1]; exact sameO_refl _
    obtain ⟨p2, c2', hlo, rlo⟩ := hy.rs.lo (a := i) (by omega)
    have hs9 := hlo h9 .i64 (Ext.trans e0 e9)
    have hlen2 : (ys.drop i).length = ys.length - i := List.length_drop
    have hln9 : (ys.take i ++ [v]).length = i + 1 := by rw [List.length_append, hlen]; rfl
    have hw3 := gr9.wrS (by omega) (Ext.refl _) (vc := c2') (bytes := 56) ((rlo.sl).ext (Ext.trans e0 e9)) (fun _ _ => rfl) (by rw [hln9, hlen2]; omega) (by rw [hln9, hlen2]; omega)
    rw [hlen2, hln9] at hw3
    simp -dsimp (disch := first | with_reducible assumption | omega | (intro h_; cases h_; done) | (simp only [LN] <;> omega) | (simp only [LF]; done) | (repeat (first | with_reducible assumption | apply Ext.refl | apply Ext.app | (apply Ext.set <;> omega) | (refine Ext.trans ?_ (by assumption))))) only [AX, TY, AD, mapPut, entsOf, oneV, builtinV, idsOf, mapId, touchB, Nat.reduceLT, Nat.reduceLeDiff, Nat.reduceEqDiff, Nat.reduceAdd, Nat.reduceMul, Int.reduceBEq, Int.reduceEq, Int.reduceNeg, Int.reduceLT, Int.reduceLE, Int.reduceAdd, Int.reduceSub, Int.reduceMul, Int.reduceToNat, Int.reduceGT, Nat.reduceBEq, Nat.reducePow, Nat.reduceGT, reduceCtorEq, ↓reduceIte, t0, t3, t5, hln9, hs9, sv9, sv91]
    refine ⟨?_, hw3.mono ?_⟩
    · cases p with
      | none =>
        refine ⟨?_, rfl, rfl, rfl⟩
        simp
      | some q =>
        obtain ⟨a, o⟩ := q
        have := hpl a o rfl
        have m8 := gr8.muts (V.slice (some (h8.length, 0)) 1 (some 1)) (fun x => ![a].contains x) (fun id z => by have := gr8.base id z; simp; omega)
        rw [hlen] at m8
        refine ⟨?_, by simp; omega, by simp; omega, by simp; omega⟩
        rw [Bool.and_eq_true]
        exact ⟨m8, by simp; omega⟩
    rintro w h10 ⟨p10, c10, o10, rfl, gr10, ho10, hle10, hfr10⟩
    have fr10 : ∀ a, a < (hh).length → h10[a]? = (hh)[a]? := fun a ha => by
      rw [hfr10 a (fun q => by have := gr9.base a q; omega) (by omega)]
      exact fr9 a ha
    have e10 : Ext hh h10 := Ext.of_keep fr10
    have gv10 := e10 _ _ gv2
    have sv10 : sameO h9[h.length]? h10[h.length]? = true := by rw [gv10, gv9]; exact sameO_refl _
    have hln10 : (ys.take i ++ [v] ++ ys.drop i).length = ys.length + 1 := by rw [List.length_append, hln9, hlen2]; omega
    have e0A : Ext h h10 := Ext.trans e0 e10
    simp -dsimp (disch := first | with_reducible assumption | omega | (intro h_; cases h_; done) | (simp only [LN] <;> omega) | (simp only [LF]; done) | (repeat (first | with_reducible assumption | apply Ext.refl | apply Ext.app | (apply Ext.set <;> omega) | (refine Ext.trans ?_ (by assumption))))) only [AX, TY, AD, mapPut, entsOf, oneV, builtinV, idsOf, mapId, touchB, Nat.reduceLT, Nat.reduceLeDiff, Nat.reduceEqDiff, Nat.reduceAdd, Nat.reduceMul, Int.reduceBEq, Int.reduceEq, Int.reduceNeg, Int.reduceLT, Int.reduceLE, Int.reduceAdd, Int.reduceSub, Int.reduceMul, Int.reduceToNat, Int.reduceGT, Nat.reduceBEq, Nat.reducePow, Nat.reduceGT, reduceCtorEq, ↓reduceIte, t0, t3, t5, hln10, sv10]
    refine ⟨e0A, p10, c10, ys.take i ++ [v] ++ ys.drop i, by rw [hln10], ⟨gr10.rs, fun y hy' => ?_⟩, ?_, by rw [hln10]; exact Nat.le_refl _⟩
    · rcases List.mem_append.1 hy' with hy' | hy'
      · rcases List.mem_append.1 hy' with hy' | hy'
        · exact (hy.ok y (List.mem_of_mem_take hy')).ext e0A
        · rw [List.mem_singleton] at hy'; subst hy'; exact Sl.ext hv e0A
      · exact (hy.ok y (List.mem_of_mem_drop hy')).ext e0A
    · rw [hk, List.map_append, List.map_append, List.map_take, List.map_drop]; rfl
theorem rown_ok {h : Heap} {snap : Int} {dp lp : Option (Nat × Nat)} {dc lc : Option Nat} {ds : List Td} {L : List Ro} (hL : RL h lp L) (hB : L.length ≤ 100) (table : Int) :
    WR (callE Tryz.prog hk 37 [.agg (rtx snap dp ds dc lp L lc), .int .i64 table] h) fun r h' => Ext h h' ∧ ∃ p c zs, r = .slice p zs.length c ∧ VR h' p c zs ∧ zs.map Ver.key = ownC (L.map Ro.co) table ∧ zs.length ≤ L.length := by
  have hnL := hL.sl.nil'
  have hlL := hL.sl.small
  refine WR.call (hH := rfl) Tryz.func37 rfl (n := 54) rfl rfl (by simp) ?_
  obtain ⟨g, hg, gt, ge, ex, hgl⟩ : ∃ g, h ++ [O.cells (rtx snap dp ds dc lp L lc) .rw] ++ [O.cells [] .rw] = g ∧ g[h.length]? = some (O.cells (rtx snap dp ds dc lp L lc) .rw) ∧ g[h.length + 1]? = some (O.cells [] .rw) ∧ Ext h g ∧ g.length = h.length + 2 := ⟨_, rfl, by simp, by simp, (by (repeat (first | assumption | apply Ext.refl | apply Ext.app | (apply Ext.set <;> omega) | exact Ext.trans (by assumption) (by assumption) | (refine Ext.trans ?_ (by assumption))))), by simp⟩
  simp only [rtx] at hg gt
  obtain ⟨cs, hcs⟩ : ∃ cs, L.map Ro.co = cs := ⟨_, rfl⟩
  obtain ⟨q, hq⟩ : ∃ q : Bool × Key → Bool, q = fun c => !c.1 && decide (c.2.a = table) && !goneC cs c.2.a c.2.b := ⟨_, rfl⟩
  simp -dsimp (disch := first | with_reducible assumption | omega | (intro h_; cases h_; done) | (simp only [LN] <;> omega) | (simp only [LF]; done) | (repeat (first | with_reducible assumption | apply Ext.refl | apply Ext.app | (apply Ext.set <;> omega) | (refine Ext.trans ?_ (by assumption))))) only [AX, TY, AD, mapPut, entsOf, oneV, builtinV, idsOf, mapId, touchB, Nat.reduceLT, Nat.reduceLeDiff, Nat.reduceEqDiff, Nat.reduceAdd, Nat.reduceMul, Int.reduceBEq, Int.reduceEq, Int.reduceNeg, Int.reduceLT, Int.reduceLE, Int.reduceAdd, Int.reduceSub, Int.reduceMul, Int.reduceToNat, Int.reduceGT, Nat.reduceBEq, Nat.reducePow, Nat.reduceGT, reduceCtorEq, ↓reduceIte, hg]
  refine W.loop (fun m τ hh => ∃ (i : Nat) (p : Option (Nat × Nat)) (c : Option Nat) (zs : List Ver), m + i = L.length ∧ τ 1 = .int .i64 table ∧ τ 2 = .ptr (some (h.length, 0)) ∧ τ 5 = .slice p zs.length c ∧ τ 6 = .int .i64 i ∧ Ext g hh ∧ VR hh p c zs ∧ zs.map Ver.key = (((cs.take i).filter q).map Prod.snd).foldl insK [] ∧ zs.length ≤ i) ?_ (m := L.length) ?_
  rotate_left
  · refine ⟨0, some (h.length + 1, 0), some 0, [], by simp, ?_⟩
    have v0 : VR g (some (h.length + 1, 0)) (some 0) [] := ⟨Rs.ofSome (Sl.whole ge (fun _ h => (by cases h)) rfl (Nat.zero_le _)) (Nat.zero_le _), fun _ h => (by cases h)⟩
    have e0 := Ext.refl g
    simp -dsimp (disch := first | with_reducible assumption | omega | (intro h_; cases h_; done) | (simp only [LN] <;> omega) | (simp only [LF]; done) | (repeat (first | with_reducible assumption | apply Ext.refl | apply Ext.app | (apply Ext.set <;> omega) | (refine Ext.trans ?_ (by assumption))))) only [AX, TY, AD, mapPut, entsOf, oneV, builtinV, idsOf, mapId, touchB, Nat.reduceLT, Nat.reduceLeDiff, Nat.reduceEqDiff, Nat.reduceAdd, Nat.reduceMul, Int.reduceBEq, Int.reduceEq, Int.reduceNeg, Int.reduceLT, Int.reduceLE, Int.reduceAdd, Int.reduceSub, Int.reduceMul, Int.reduceToNat, Int.reduceGT, Nat.reduceBEq, Nat.reducePow, Nat.reduceGT, reduceCtorEq, ↓reduceIte]
    repeat' (first | assumption | refine And.intro ?_ ?_)
    all_goals first | rfl | omega | (simp; done) | (simp; omega; done) | skip
  rintro m τ hh ⟨i, p, c, zs, hm, t1, t2, t5, t6, e, vr, hk, hle⟩
  have gt2 := e _ _ gt
  have e0 := ex.trans e
  by_cases c1 : (i : Int) < (L.length : Int)
  rotate_left
  · simp -dsimp (disch := first | with_reducible assumption | omega | (intro h_; cases h_; done) | (simp only [LN] <;> omega) | (simp only [LF]; done) | (repeat (first | with_reducible assumption | apply Ext.refl | apply Ext.app | (apply Ext.set <;> omega) | (refine Ext.trans ?_ (by assumption))))) only [AX, TY, AD, mapPut, entsOf, oneV, builtinV, idsOf, mapId, touchB, Nat.reduceLT, Nat.reduceLeDiff, Nat.reduceEqDiff, Nat.reduceAdd, Nat.reduceMul, Int.reduceBEq, Int.reduceEq, Int.reduceNeg, Int.reduceLT, Int.reduceLE, Int.reduceAdd, Int.reduceSub, Int.reduceMul, Int.reduceToNat, Int.reduceGT, Nat.reduceBEq, Nat.reducePow, Nat.reduceGT, reduceCtorEq, ↓reduceIte, t1, t2, t5, t6, c1, loadN_fact gt2]
    refine ⟨e0, p, c, zs, rfl, vr, ?_, by omega⟩
    rw [hk, List.take_of_length_le (by rw [← hcs, List.length_map]; omega), hcs, hq]
    rfl
  have hi : i < L.length := by omega
  have hl1 := hL.sl.load0 e0 hi (m := 1) (by decide)
  have hl2 := hL.sl.load e0 hi (o := 1) (m := 2) (by decide)
  have hl3 := hL.sl.load e0 hi (o := 1) (m := 1) (by decide)
  have tk1 : ∀ x : Ro, x.enc.take 1 = [.bool x.ins] := fun _ => rfl
  have tk2 : ∀ x : Ro, (x.enc.drop 1).take 2 = [.int .i64 x.v.a, .int .i64 x.v.b] := fun _ => rfl
  have tk3 : ∀ x : Ro, (x.enc.drop 1).take 1 = [.int .i64 x.v.a] := fun _ => rfl
  have tk5 : ∀ x : Ro, (x.enc.drop 1).take 5 = x.v.enc := fun _ => rfl
  rw [tk1] at hl1
  rw [tk2] at hl2
  rw [tk3] at hl3
  have hgi : cs[i]? = some (Ro.co L[i]) := by rw [← hcs]; simp [hi]
  have hvk := hL.ok _ (List.getElem_mem hi)
  have hstep : (((cs.take (i + 1)).filter q).map Prod.snd).foldl insK [] = if q (Ro.co L[i]) then insK (zs.map Ver.key) (L[i]).v.key else zs.map Ver.key := by
    have hic : i < cs.length := by rw [← hcs, List.length_map]; exact hi
    rw [List.take_succ_eq_append_getElem hic, List.filter_append, List.map_append, List.foldl_append, ← hk]
    have : cs[i] = Ro.co L[i] := by rw [List.getElem?_eq_getElem hic] at hgi; exact Option.some.inj hgi
    rw [this, filter_one]
    split <;> rfl
  have hqx : q (Ro.co L[i]) = ((L[i]).ins && decide ((L[i]).v.a = table) && !goneC cs (L[i]).v.a (L[i]).v.b) := by
    rw [hq]
    show (!(!(L[i]).ins) && _ && _) = _
    rw [Bool.not_not]; rfl
  rw [hqx] at hstep
  generalize hx : L[i] = x at hl1 hl2 hl3 hvk hstep
  simp -dsimp (disch := first | with_reducible assumption | omega | (intro h_; cases h_; done) | (simp only [LN] <;> omega) | (simp only [LF]; done) | (repeat (first | with_reducible assumption | apply Ext.refl | apply Ext.app | (apply Ext.set <;> omega) | (refine Ext.trans ?_ (by assumption))))) only [AX, TY, AD, mapPut, entsOf, oneV, builtinV, idsOf, mapId, touchB, Nat.reduceLT, Nat.reduceLeDiff, Nat.reduceEqDiff, Nat.reduceAdd, Nat.reduceMul, Int.reduceBEq, Int.reduceEq, Int.reduceNeg, Int.reduceLT, Int.reduceLE, Int.reduceAdd, Int.reduceSub, Int.reduceMul, Int.reduceToNat, Int.reduceGT, Nat.reduceBEq, Nat.reducePow, Nat.reduceGT, reduceCtorEq, ↓reduceIte, t1, t2, t5, t6, c1, loadN_fact gt2]
  refine W.drawn [(0, []), (1, []), (2, [1, 0]), (3, []), (4, []), (5, []), (6, []), (7, []), (8, []), (9, [8, 7]), (10, []), (11, []), (12, []), (13, []), (14, []), (15, [14, 13, 12, 11, 10, 9, 8, 7]), (16, []), (17, []), (18, []), (19, []), (20, [19]), (21, [19]), (22, [21, 20, 19]), (23, [19]), (24, [19]), (25, [19]), (26, [19]), (27, []), (28, []), (29, [])] (by decide +kernel) ?_
  cases q1 : x.ins
  · rw [q1] at hstep hl1
    have h9 := hstep.symm
    have hle' : zs.length ≤ i + 1 := by omega
    simp -dsimp (disch := first | with_reducible assumption | omega | (intro h_; cases h_; done) | (simp only [LN] <;> omega) | (simp only [LF]; done) | (repeat (first | with_reducible assumption | apply Ext.refl | apply Ext.app | (apply Ext.set <;> omega) | (refine Ext.trans ?_ (by assumption))))) only [AX, TY, AD, mapPut, entsOf, oneV, builtinV, idsOf, mapId, touchB, Nat.reduceLT, Nat.reduceLeDiff, Nat.reduceEqDiff, Nat.reduceAdd, Nat.reduceMul, Int.reduceBEq, Int.reduceEq, Int.reduceNeg, Int.reduceLT, Int.reduceLE, Int.reduceAdd, Int.reduceSub, Int.reduceMul, Int.reduceToNat, Int.reduceGT, Nat.reduceBEq, Nat.reducePow, Nat.reduceGT, reduceCtorEq, ↓reduceIte, t1, t2, t5, t6, c1, loadN_fact gt2, hl1, wrap_in]
    refine ⟨m - 1, by omega, i + 1, p, c, zs, ?_⟩
    repeat' (first | assumption | refine And.intro ?_ ?_)
    all_goals first | rfl | omega | (simp; done) | (simp; omega; done) | skip
  rw [q1] at hl1
  by_cases q2 : x.v.a = table
  rotate_left
  · rw [q1, decide_eq_false q2] at hstep
    have h9 := hstep.symm
    have hle' : zs.length ≤ i + 1 := by omega
    simp -dsimp (disch := first | with_reducible assumption | omega | (intro h_; cases h_; done) | (simp only [LN] <;> omega) | (simp only [LF]; done) | (repeat (first | with_reducible assumption | apply Ext.refl | apply Ext.app | (apply Ext.set <;> omega) | (refine Ext.trans ?_ (by assumption))))) only [AX, TY, AD, mapPut, entsOf, oneV, builtinV, idsOf, mapId, touchB, Nat.reduceLT, Nat.reduceLeDiff, Nat.reduceEqDiff, Nat.reduceAdd, Nat.reduceMul, Int.reduceBEq, Int.reduceEq, Int.reduceNeg, Int.reduceLT, Int.reduceLE, Int.reduceAdd, Int.reduceSub, Int.reduceMul, Int.reduceToNat, Int.reduceGT, Nat.reduceBEq, Nat.reducePow, Nat.reduceGT, reduceCtorEq, ↓reduceIte, t1, t2, t5, t6, c1, loadN_fact gt2, hl1, hl3, q2, wrap_in]
    refine ⟨m - 1, by omega, i + 1, p, c, zs, ?_⟩
    repeat' (first | assumption | refine And.intro ?_ ?_)
    all_goals first | rfl | omega | (simp; done) | (simp; omega; done) | skip
  rw [q1, decide_eq_true q2] at hstep
  have hdn := done_ok (snap := snap) (dp := dp) (dc := dc) (ds := ds) (lc := lc) (hL.ext e0) false x.v.a x.v.b
  rw [goneC_co, hcs] at hdn
  simp only [rtx] at hdn
  simp -dsimp (disch := first | with_reducible assumption | omega | (intro h_; cases h_; done) | (simp only [LN] <;> omega) | (simp only [LF]; done) | (repeat (first | with_reducible assumption | apply Ext.refl | apply Ext.app | (apply Ext.set <;> omega) | (refine Ext.trans ?_ (by assumption))))) only [AX, TY, AD, mapPut, entsOf, oneV, builtinV, idsOf, mapId, touchB, Nat.reduceLT, Nat.reduceLeDiff, Nat.reduceEqDiff, Nat.reduceAdd, Nat.reduceMul, Int.reduceBEq, Int.reduceEq, Int.reduceNeg, Int.reduceLT, Int.reduceLE, Int.reduceAdd, Int.reduceSub, Int.reduceMul, Int.reduceToNat, Int.reduceGT, Nat.reduceBEq, Nat.reducePow, Nat.reduceGT, reduceCtorEq, ↓reduceIte, t1, t2, t5, t6, c1, loadN_fact gt2, hl1, hl2, hl3, eq_true q2]
  refine hdn.mono ?_
  rintro _ h2 ⟨e2, rfl⟩
  have e02 := e.trans e2
  have gt3 := e2 _ _ gt2
  have s1 := sameO_ext e2 (lt_of_some gt2)
  have s2 : sameO hh[sid lp]? h2[sid lp]? = true := hL.sl.so hi e0 e2
  have vr2 := vr.ext e2
  cases q3 : goneC cs x.v.a x.v.b
  rotate_left
  · rw [q3] at hstep
    have h9 := hstep.symm
    have hle' : zs.length ≤ i + 1 := by omega
    simp -dsimp (disch := first | with_reducible assumption | omega | (intro h_; cases h_; done) | (simp only [LN] <;> omega) | (simp only [LF]; done) | (repeat (first | with_reducible assumption | apply Ext.refl | apply Ext.app | (apply Ext.set <;> omega) | (refine Ext.trans ?_ (by assumption))))) only [AX, TY, AD, mapPut, entsOf, oneV, builtinV, idsOf, mapId, touchB, Nat.reduceLT, Nat.reduceLeDiff, Nat.reduceEqDiff, Nat.reduceAdd, Nat.reduceMul, Int.reduceBEq, Int.reduceEq, Int.reduceNeg, Int.reduceLT, Int.reduceLE, Int.reduceAdd, Int.reduceSub, Int.reduceMul, Int.reduceToNat, Int.reduceGT, Nat.reduceBEq, Nat.reducePow, Nat.reduceGT, reduceCtorEq, ↓reduceIte, t1, t2, t5, t6, c1, s1, s2, wrap_in]
    refine ⟨m - 1, by omega, i + 1, p, c, zs, ?_⟩
    repeat' (first | assumption | refine And.intro ?_ ?_)
    all_goals first | rfl | omega | (simp; done) | (simp; omega; done) | skip
  rw [q3] at hstep
  have hl5 := hL.sl.load (e0.trans e2) hi (o := 1) (m := 5) (by decide)
  rw [hx, tk5] at hl5
  have hput := put_ok vr2 (by omega) (Sl.ext hvk (e0.trans e2))
  simp only [Ver.enc] at hl5 hput
  simp -dsimp (disch := first | with_reducible assumption | omega | (intro h_; cases h_; done) | (simp only [LN] <;> omega) | (simp only [LF]; done) | (repeat (first | with_reducible assumption | apply Ext.refl | apply Ext.app | (apply Ext.set <;> omega) | (refine Ext.trans ?_ (by assumption))))) only [AX, TY, AD, mapPut, entsOf, oneV, builtinV, idsOf, mapId, touchB, Nat.reduceLT, Nat.reduceLeDiff, Nat.reduceEqDiff, Nat.reduceAdd, Nat.reduceMul, Int.reduceBEq, Int.reduceEq, Int.reduceNeg, Int.reduceLT, Int.reduceLE, Int.reduceAdd, Int.reduceSub, Int.reduceMul, Int.reduceToNat, Int.reduceGT, Nat.reduceBEq, Nat.reducePow, Nat.reduceGT, reduceCtorEq, ↓reduceIte, t1, t2, t5, t6, c1, s1, s2, loadN_fact gt3, hl5]
  refine hput.mono ?_
  rintro _ h3 ⟨e3, p', c', ws, rfl, vr3, hk3, hl3'⟩
  have e03 := e02.trans e3
  have h9 := hk3.trans hstep.symm
  have hle' : ws.length ≤ i + 1 := by omega
  simp -dsimp (disch := first | with_reducible assumption | omega | (intro h_; cases h_; done) | (simp only [LN] <;> omega) | (simp only [LF]; done) | (repeat (first | with_reducible assumption | apply Ext.refl | apply Ext.app | (apply Ext.set <;> omega) | (refine Ext.trans ?_ (by assumption))))) only [AX, TY, AD, mapPut, entsOf, oneV, builtinV, idsOf, mapId, touchB, Nat.reduceLT, Nat.reduceLeDiff, Nat.reduceEqDiff, Nat.reduceAdd, Nat.reduceMul, Int.reduceBEq, Int.reduceEq, Int.reduceNeg, Int.reduceLT, Int.reduceLE, Int.reduceAdd, Int.reduceSub, Int.reduceMul, Int.reduceToNat, Int.reduceGT, Nat.reduceBEq, Nat.reducePow, Nat.reduceGT, reduceCtorEq, ↓reduceIte, t1, t2, t5, t6, wrap_in]
  refine ⟨m - 1, by omega, i + 1, p', c', ws, ?_⟩
  repeat' (first | assumption | refine And.intro ?_ ?_)
  all_goals first | rfl | omega | (simp; done) | (simp; omega; done) | skip
end Go.Proofs.YtcaolnmpldbkjaaGreatA
namespace Go.Proofs.YtcaolnmpldbkjaaGreatA
open Go Go.Proofs Go.RowKit
set_option linter.unusedVariables false
set_option linter.unusedSimpArgs false
set_option maxRecDepth 10000
set_option maxHeartbeats 4000000
theorem rrows_ok {h : Heap} {snap : Int} {dp lp : Option (Nat × Nat)} {dc lc : Option Nat} {ds : List Td} {L : List Ro} (hL : RL h lp L) (hB : L.length ≤ 100) (table : Int) {r : Option (Nat × Nat)} {rc : Option Nat} {ys : List Ver} (hv : Vers h r ys) (hB2 : ys.length ≤ 100) :
    WR (callE Tryz.prog hk 11 [.agg (rtx snap dp ds dc lp L lc), .int .i64 table, .slice r ys.length rc] h) fun r h' => Ext h h' ∧ ∃ p c zs, r = .slice p zs.length c ∧ Vers h' p zs ∧ zs.map Ver.key = rowsC (L.map Ro.co) snap table (ys.map Ver.key) := by
  have hn0 := hv.sl.nil'
  have hl0 := hv.sl.small
  refine WR.call (hH := rfl) Tryz.func11 rfl (n := 60) rfl rfl (by simp) ?_
  obtain ⟨g, hg, gt, ge, ex, hgl⟩ : ∃ g, h ++ [O.cells (rtx snap dp ds dc lp L lc) .rw] ++ [O.cells [] .rw] = g ∧ g[h.length]? = some (O.cells (rtx snap dp ds dc lp L lc) .rw) ∧ g[h.length + 1]? = some (O.cells [] .rw) ∧ Ext h g ∧ g.length = h.length + 2 := ⟨_, rfl, by simp, by simp, (by (repeat (first | assumption | apply Ext.refl | apply Ext.app | (apply Ext.set <;> omega) | exact Ext.trans (by assumption) (by assumption) | (refine Ext.trans ?_ (by assumption))))), by simp⟩
  simp only [rtx] at hg gt
  obtain ⟨cs, hcs⟩ : ∃ cs, L.map Ro.co = cs := ⟨_, rfl⟩
  obtain ⟨ks, hks⟩ : ∃ ks, ys.map Ver.key = ks := ⟨_, rfl⟩
  obtain ⟨q, hq⟩ : ∃ q : Key → Bool, q = fun k => decide (k.a = table) && sees k.cr k.dl snap && !goneC cs k.a k.b := ⟨_, rfl⟩
  simp -dsimp (disch := first | with_reducible assumption | omega | (intro h_; cases h_; done) | (simp only [LN] <;> omega) | (simp only [LF]; done) | (repeat (first | with_reducible assumption | apply Ext.refl | apply Ext.app | (apply Ext.set <;> omega) | (refine Ext.trans ?_ (by assumption))))) only [AX, TY, AD, mapPut, entsOf, oneV, builtinV, idsOf, mapId, touchB, Nat.reduceLT, Nat.reduceLeDiff, Nat.reduceEqDiff, Nat.reduceAdd, Nat.reduceMul, Int.reduceBEq, Int.reduceEq, Int.reduceNeg, Int.reduceLT, Int.reduceLE, Int.reduceAdd, Int.reduceSub, Int.reduceMul, Int.reduceToNat, Int.reduceGT, Nat.reduceBEq, Nat.reducePow, Nat.reduceGT, reduceCtorEq, ↓reduceIte, hg]
  refine W.loop (fun m τ hh => ∃ (i : Nat) (p : Option (Nat × Nat)) (c : Option Nat) (zs : List Ver), m + i = ys.length ∧ τ 1 = .int .i64 table ∧ τ 2 = .slice r ys.length rc ∧ τ 3 = .ptr (some (h.length, 0)) ∧ τ 7 = .slice p zs.length c ∧ τ 8 = .int .i64 i ∧ Ext g hh ∧ VR hh p c zs ∧ zs.map Ver.key = ((ks.take i).filter q).foldl insK [] ∧ zs.length ≤ i) ?_ (m := ys.length) ?_
  rotate_left
  · refine ⟨0, some (h.length + 1, 0), some 0, [], by simp, ?_⟩
    have v0 : VR g (some (h.length + 1, 0)) (some 0) [] := ⟨Rs.ofSome (Sl.whole ge (fun _ h => (by cases h)) rfl (Nat.zero_le _)) (Nat.zero_le _), fun _ h => (by cases h)⟩
    have e0 := Ext.refl g
    simp -dsimp (disch := first | with_reducible assumption | omega | (intro h_; cases h_; done) | (simp only [LN] <;> omega) | (simp only [LF]; done) | (repeat (first | with_reducible assumption | apply Ext.refl | apply Ext.app | (apply Ext.set <;> omega) | (refine Ext.trans ?_ (by assumption))))) only [AX, TY, AD, mapPut, entsOf, oneV, builtinV, idsOf, mapId, touchB, Nat.reduceLT, Nat.reduceLeDiff, Nat.reduceEqDiff, Nat.reduceAdd, Nat.reduceMul, Int.reduceBEq, Int.reduceEq, Int.reduceNeg, Int.reduceLT, Int.reduceLE, Int.reduceAdd, Int.reduceSub, Int.reduceMul, Int.reduceToNat, Int.reduceGT, Nat.reduceBEq, Nat.reducePow, Nat.reduceGT, reduceCtorEq, ↓reduceIte]
    repeat' (first | assumption | refine And.intro ?_ ?_)
    all_goals first | rfl | omega | (simp; done) | (simp; omega; done) | skip
  rintro m τ hh ⟨i, p, c, zs, hm, t1, t2, t3, t7, t8, e, vr, hkz, hle⟩
  have gt2 := e _ _ gt
  have e0 := ex.trans e
  by_cases c1 : (i : Int) < (ys.length : Int)
  rotate_left
  · have hown := rown_ok (snap := snap) (dp := dp) (dc := dc) (ds := ds) (lc := lc) (hL.ext e0) hB table
    rw [hcs] at hown
    simp only [rtx] at hown
    have hkz' : zs.map Ver.key = (ks.filter q).foldl insK [] := by rw [hkz, List.take_of_length_le (by rw [← hks, List.length_map]; omega)]
    simp -dsimp (disch := first | with_reducible assumption | omega | (intro h_; cases h_; done) | (simp only [LN] <;> omega) | (simp only [LF]; done) | (repeat (first | with_reducible assumption | apply Ext.refl | apply Ext.app | (apply Ext.set <;> omega) | (refine Ext.trans ?_ (by assumption))))) only [AX, TY, AD, mapPut, entsOf, oneV, builtinV, idsOf, mapId, touchB, Nat.reduceLT, Nat.reduceLeDiff, Nat.reduceEqDiff, Nat.reduceAdd, Nat.reduceMul, Int.reduceBEq, Int.reduceEq, Int.reduceNeg, Int.reduceLT, Int.reduceLE, Int.reduceAdd, Int.reduceSub, Int.reduceMul, Int.reduceToNat, Int.reduceGT, Nat.reduceBEq, Nat.reducePow, Nat.reduceGT, reduceCtorEq, ↓reduceIte, t1, t2, t3, t7, t8, c1, loadN_fact gt2]
    refine hown.mono ?_
    rintro _ h2 ⟨e2, p2, c2, os, rfl, vr2, hk2, hl2⟩
    have e02 := e.trans e2
    have vrz := vr.ext e2
    have hn2 := vr2.rs.sl.nil'
    have hs2 := vr2.rs.sl.small
    simp -dsimp (disch := first | with_reducible assumption | omega | (intro h_; cases h_; done) | (simp only [LN] <;> omega) | (simp only [LF]; done) | (repeat (first | with_reducible assumption | apply Ext.refl | apply Ext.app | (apply Ext.set <;> omega) | (refine Ext.trans ?_ (by assumption))))) only [AX, TY, AD, mapPut, entsOf, oneV, builtinV, idsOf, mapId, touchB, Nat.reduceLT, Nat.reduceLeDiff, Nat.reduceEqDiff, Nat.reduceAdd, Nat.reduceMul, Int.reduceBEq, Int.reduceEq, Int.reduceNeg, Int.reduceLT, Int.reduceLE, Int.reduceAdd, Int.reduceSub, Int.reduceMul, Int.reduceToNat, Int.reduceGT, Nat.reduceBEq, Nat.reducePow, Nat.reduceGT, reduceCtorEq, ↓reduceIte, t1, t2, t3, t7, t8]
    refine W.loop (fun m τ h3 => ∃ (j : Nat) (p : Option (Nat × Nat)) (c : Option Nat) (ws : List Ver), m + j = os.length ∧ τ 7 = .slice p ws.length c ∧ τ 10 = .slice p2 os.length c2 ∧ τ 11 = .int .i64 j ∧ Ext h2 h3 ∧ VR h3 p c ws ∧ ws.map Ver.key = ((os.map Ver.key).take j).foldl insK (zs.map Ver.key) ∧ ws.length ≤ zs.length + j) ?_ (m := os.length) ?_
    rotate_left
    · refine ⟨0, p, c, zs, by simp, ?_⟩
      have e0 := Ext.refl h2
      simp -dsimp (disch := first | with_reducible assumption | omega | (intro h_; cases h_; done) | (simp only [LN] <;> omega) | (simp only [LF]; done) | (repeat (first | with_reducible assumption | apply Ext.refl | apply Ext.app | (apply Ext.set <;> omega) | (refine Ext.trans ?_ (by assumption))))) only [AX, TY, AD, mapPut, entsOf, oneV, builtinV, idsOf, mapId, touchB, Nat.reduceLT, Nat.reduceLeDiff, Nat.reduceEqDiff, Nat.reduceAdd, Nat.reduceMul, Int.reduceBEq, Int.reduceEq, Int.reduceNeg, Int.reduceLT, Int.reduceLE, Int.reduceAdd, Int.reduceSub, Int.reduceMul, Int.reduceToNat, Int.reduceGT, Nat.reduceBEq, Nat.reducePow, Nat.reduceGT, reduceCtorEq, ↓reduceIte, t1, t2, t3, t7, t8]
      repeat' (first | assumption | refine And.intro ?_ ?_)
      all_goals first | rfl | omega | (simp; done) | (simp; omega; done) | skip
    rintro m2 τ2 h3 ⟨j, p3, c3, ws, hm2, u7, u10, u11, e3, vr3, hkw, hlw⟩
    by_cases d1 : (j : Int) < (os.length : Int)
    rotate_left
    · have e03 := (e0.trans e2).trans e3
      simp -dsimp (disch := first | with_reducible assumption | omega | (intro h_; cases h_; done) | (simp only [LN] <;> omega) | (simp only [LF]; done) | (repeat (first | with_reducible assumption | apply Ext.refl | apply Ext.app | (apply Ext.set <;> omega) | (refine Ext.trans ?_ (by assumption))))) only [AX, TY, AD, mapPut, entsOf, oneV, builtinV, idsOf, mapId, touchB, Nat.reduceLT, Nat.reduceLeDiff, Nat.reduceEqDiff, Nat.reduceAdd, Nat.reduceMul, Int.reduceBEq, Int.reduceEq, Int.reduceNeg, Int.reduceLT, Int.reduceLE, Int.reduceAdd, Int.reduceSub, Int.reduceMul, Int.reduceToNat, Int.reduceGT, Nat.reduceBEq, Nat.reducePow, Nat.reduceGT, reduceCtorEq, ↓reduceIte, u7, u10, u11, d1]
      refine ⟨e03, p3, c3, ws, rfl, ⟨vr3.rs.sl, vr3.ok⟩, ?_⟩
      rw [hkw, List.take_of_length_le (by rw [List.length_map]; omega), hk2, hkz', hcs, hks, hq]
      rfl
    have hj : j < os.length := by omega
    have hla := vr2.rs.sl.load0 e3 hj (m := 5) (by decide)
    have tk : ∀ x : Ver, x.enc.take 5 = x.enc := fun _ => rfl
    rw [tk] at hla
    have hvk := (vr2.ok _ (List.getElem_mem hj)).ext e3
    have hstep : ((os.map Ver.key).take (j + 1)).foldl insK (zs.map Ver.key) = insK (ws.map Ver.key) (os[j]).key := by
      rw [foldl_take (by simpa using hj), hkw, List.getElem_map]
    generalize hx : os[j] = x at hla hvk hstep
    have hput := put_ok vr3 (by omega) hvk
    simp only [Ver.enc] at hla hput
    simp -dsimp (disch := first | with_reducible assumption | omega | (intro h_; cases h_; done) | (simp only [LN] <;> omega) | (simp only [LF]; done) | (repeat (first | with_reducible assumption | apply Ext.refl | apply Ext.app | (apply Ext.set <;> omega) | (refine Ext.trans ?_ (by assumption))))) only [AX, TY, AD, mapPut, entsOf, oneV, builtinV, idsOf, mapId, touchB, Nat.reduceLT, Nat.reduceLeDiff, Nat.reduceEqDiff, Nat.reduceAdd, Nat.reduceMul, Int.reduceBEq, Int.reduceEq, Int.reduceNeg, Int.reduceLT, Int.reduceLE, Int.reduceAdd, Int.reduceSub, Int.reduceMul, Int.reduceToNat, Int.reduceGT, Nat.reduceBEq, Nat.reducePow, Nat.reduceGT, reduceCtorEq, ↓reduceIte, u7, u10, u11, d1, hla]
    refine hput.mono ?_
    rintro _ h4 ⟨e4, p', c', vs, rfl, vr4, hk4, hl4⟩
    have e34 := e3.trans e4
    have h9 := hk4.trans hstep.symm
    have hle' : vs.length ≤ zs.length + (j + 1) := by omega
    simp -dsimp (disch := first | with_reducible assumption | omega | (intro h_; cases h_; done) | (simp only [LN] <;> omega) | (simp only [LF]; done) | (repeat (first | with_reducible assumption | apply Ext.refl | apply Ext.app | (apply Ext.set <;> omega) | (refine Ext.trans ?_ (by assumption))))) only [AX, TY, AD, mapPut, entsOf, oneV, builtinV, idsOf, mapId, touchB, Nat.reduceLT, Nat.reduceLeDiff, Nat.reduceEqDiff, Nat.reduceAdd, Nat.reduceMul, Int.reduceBEq, Int.reduceEq, Int.reduceNeg, Int.reduceLT, Int.reduceLE, Int.reduceAdd, Int.reduceSub, Int.reduceMul, Int.reduceToNat, Int.reduceGT, Nat.reduceBEq, Nat.reducePow, Nat.reduceGT, reduceCtorEq, ↓reduceIte, u7, u10, u11, wrap_in]
    refine ⟨m2 - 1, by omega, j + 1, p', c', vs, ?_⟩
    repeat' (first | assumption | refine And.intro ?_ ?_)
    all_goals first | rfl | omega | (simp; done) | (simp; omega; done) | skip
  have hi : i < ys.length := by omega
  have hla := hv.sl.load0 e0 hi (m := 5) (by decide)
  have tk : ∀ x : Ver, x.enc.take 5 = x.enc := fun _ => rfl
  rw [tk] at hla
  have hvk := (hv.ok _ (List.getElem_mem hi)).ext e0
  have hstep : ((ks.take (i + 1)).filter q).foldl insK [] = if q (ys[i]).key then insK (zs.map Ver.key) (ys[i]).key else zs.map Ver.key := by
    have hic : i < ks.length := by rw [← hks, List.length_map]; exact hi
    rw [List.take_succ_eq_append_getElem hic, List.filter_append, List.foldl_append, ← hkz]
    have : ks[i] = (ys[i]).key := by simp only [← hks, List.getElem_map]
    rw [this, filter_one]
    split <;> rfl
  have hqx : q (ys[i]).key = (decide ((ys[i]).a = table) && sees (ys[i]).cr (ys[i]).dl snap && !goneC cs (ys[i]).a (ys[i]).b) := by rw [hq]; rfl
  rw [hqx] at hstep
  generalize hx : ys[i] = x at hla hvk hstep
  obtain ⟨g', hg', gx, ex', hgl'⟩ : ∃ g', hh ++ [O.cells x.enc .rw] = g' ∧ g'[hh.length]? = some (O.cells x.enc .rw) ∧ Ext hh g' ∧ g'.length = hh.length + 1 := ⟨_, rfl, by simp, (by (repeat (first | assumption | apply Ext.refl | apply Ext.app | (apply Ext.set <;> omega) | exact Ext.trans (by assumption) (by assumption) | (refine Ext.trans ?_ (by assumption))))), by simp⟩
  have gt3 := ex' _ _ gt2
  have vr2 := vr.ext ex'
  have e2 := e.trans ex'
  have hsee := sees22_ok (h := g') x snap
  simp only [Ver.enc] at hla hg' gx hsee
  by_cases q1 : x.a = table
  rotate_left
  · rw [decide_eq_false q1] at hstep
    have h9 := hstep.symm
    have hle' : zs.length ≤ i + 1 := by omega
    simp -dsimp (disch := first | with_reducible assumption | omega | (intro h_; cases h_; done) | (simp only [LN] <;> omega) | (simp only [LF]; done) | (repeat (first | with_reducible assumption | apply Ext.refl | apply Ext.app | (apply Ext.set <;> omega) | (refine Ext.trans ?_ (by assumption))))) only [AX, TY, AD, mapPut, entsOf, oneV, builtinV, idsOf, mapId, touchB, Nat.reduceLT, Nat.reduceLeDiff, Nat.reduceEqDiff, Nat.reduceAdd, Nat.reduceMul, Int.reduceBEq, Int.reduceEq, Int.reduceNeg, Int.reduceLT, Int.reduceLE, Int.reduceAdd, Int.reduceSub, Int.reduceMul, Int.reduceToNat, Int.reduceGT, Nat.reduceBEq, Nat.reducePow, Nat.reduceGT, reduceCtorEq, ↓reduceIte, t1, t2, t3, t7, t8, c1, hla, hg', loadN_fact gx, loadN_fact gt3, q1, wrap_in]
    refine ⟨m - 1, by omega, i + 1, p, c, zs, ?_⟩
    repeat' (first | assumption | refine And.intro ?_ ?_)
    all_goals first | rfl | omega | (simp; done) | (simp; omega; done) | skip
  rw [decide_eq_true q1] at hstep
  simp -dsimp (disch := first | with_reducible assumption | omega | (intro h_; cases h_; done) | (simp only [LN] <;> omega) | (simp only [LF]; done) | (repeat (first | with_reducible assumption | apply Ext.refl | apply Ext.app | (apply Ext.set <;> omega) | (refine Ext.trans ?_ (by assumption))))) only [AX, TY, AD, mapPut, entsOf, oneV, builtinV, idsOf, mapId, touchB, Nat.reduceLT, Nat.reduceLeDiff, Nat.reduceEqDiff, Nat.reduceAdd, Nat.reduceMul, Int.reduceBEq, Int.reduceEq, Int.reduceNeg, Int.reduceLT, Int.reduceLE, Int.reduceAdd, Int.reduceSub, Int.reduceMul, Int.reduceToNat, Int.reduceGT, Nat.reduceBEq, Nat.reducePow, Nat.reduceGT, reduceCtorEq, ↓reduceIte, t1, t2, t3, t7, t8, c1, hla, hg', loadN_fact gx, loadN_fact gt3, eq_true q1]
  refine hsee.mono ?_
  rintro _ h4 ⟨e4, rfl⟩
  have gx4 := e4 _ _ gx
  have gt4 := e4 _ _ gt3
  have vr4 := vr2.ext e4
  have e04 := e2.trans e4
  cases q2 : sees x.cr x.dl snap
  · rw [q2] at hstep
    have h9 := hstep.symm
    have hle' : zs.length ≤ i + 1 := by omega
    simp -dsimp (disch := first | with_reducible assumption | omega | (intro h_; cases h_; done) | (simp only [LN] <;> omega) | (simp only [LF]; done) | (repeat (first | with_reducible assumption | apply Ext.refl | apply Ext.app | (apply Ext.set <;> omega) | (refine Ext.trans ?_ (by assumption))))) only [AX, TY, AD, mapPut, entsOf, oneV, builtinV, idsOf, mapId, touchB, Nat.reduceLT, Nat.reduceLeDiff, Nat.reduceEqDiff, Nat.reduceAdd, Nat.reduceMul, Int.reduceBEq, Int.reduceEq, Int.reduceNeg, Int.reduceLT, Int.reduceLE, Int.reduceAdd, Int.reduceSub, Int.reduceMul, Int.reduceToNat, Int.reduceGT, Nat.reduceBEq, Nat.reducePow, Nat.reduceGT, reduceCtorEq, ↓reduceIte, t1, t2, t3, t7, t8, wrap_in]
    refine ⟨m - 1, by omega, i + 1, p, c, zs, ?_⟩
    repeat' (first | assumption | refine And.intro ?_ ?_)
    all_goals first | rfl | omega | (simp; done) | (simp; omega; done) | skip
  rw [q2] at hstep
  have hdn := done_ok (snap := snap) (dp := dp) (dc := dc) (ds := ds) (lc := lc) (hL.ext ((e0.trans ex').trans e4)) false x.a x.b
  rw [goneC_co, hcs] at hdn
  simp only [rtx] at hdn
  simp -dsimp (disch := first | with_reducible assumption | omega | (intro h_; cases h_; done) | (simp only [LN] <;> omega) | (simp only [LF]; done) | (repeat (first | with_reducible assumption | apply Ext.refl | apply Ext.app | (apply Ext.set <;> omega) | (refine Ext.trans ?_ (by assumption))))) only [AX, TY, AD, mapPut, entsOf, oneV, builtinV, idsOf, mapId, touchB, Nat.reduceLT, Nat.reduceLeDiff, Nat.reduceEqDiff, Nat.reduceAdd, Nat.reduceMul, Int.reduceBEq, Int.reduceEq, Int.reduceNeg, Int.reduceLT, Int.reduceLE, Int.reduceAdd, Int.reduceSub, Int.reduceMul, Int.reduceToNat, Int.reduceGT, Nat.reduceBEq, Nat.reducePow, Nat.reduceGT, reduceCtorEq, ↓reduceIte, t1, t2, t3, t7, t8, loadN_fact gx4, loadN_fact gt4]
  refine hdn.mono ?_
  rintro _ h5 ⟨e5, rfl⟩
  have gx5 := e5 _ _ gx4
  have vr5 := vr4.ext e5
  have e05 := e04.trans e5
  cases q3 : goneC cs x.a x.b
  rotate_left
  · rw [q3] at hstep
    have h9 := hstep.symm
    have hle' : zs.length ≤ i + 1 := by omega
    simp -dsimp (disch := first | with_reducible assumption | omega | (intro h_; cases h_; done) | (simp only [LN] <;> omega) | (simp only [LF]; done) | (repeat (first | with_reducible assumption | apply Ext.refl | apply Ext.app | (apply Ext.set <;> omega) | (refine Ext.trans ?_ (by assumption))))) only [AX, TY, AD, mapPut, entsOf, oneV, builtinV, idsOf, mapId, touchB, Nat.reduceLT, Nat.reduceLeDiff, Nat.reduceEqDiff, Nat.reduceAdd, Nat.reduceMul, Int.reduceBEq, Int.reduceEq, Int.reduceNeg, Int.reduceLT, Int.reduceLE, Int.reduceAdd, Int.reduceSub, Int.reduceMul, Int.reduceToNat, Int.reduceGT, Nat.reduceBEq, Nat.reducePow, Nat.reduceGT, reduceCtorEq, ↓reduceIte, t1, t2, t3, t7, t8, wrap_in]
    refine ⟨m - 1, by omega, i + 1, p, c, zs, ?_⟩
    repeat' (first | assumption | refine And.intro ?_ ?_)
    all_goals first | rfl | omega | (simp; done) | (simp; omega; done) | skip
  rw [q3] at hstep
  have hput := put_ok vr5 (by omega) (Sl.ext hvk ((ex'.trans e4).trans e5))
  simp only [Ver.enc] at hput
  simp -dsimp (disch := first | with_reducible assumption | omega | (intro h_; cases h_; done) | (simp only [LN] <;> omega) | (simp only [LF]; done) | (repeat (first | with_reducible assumption | apply Ext.refl | apply Ext.app | (apply Ext.set <;> omega) | (refine Ext.trans ?_ (by assumption))))) only [AX, TY, AD, mapPut, entsOf, oneV, builtinV, idsOf, mapId, touchB, Nat.reduceLT, Nat.reduceLeDiff, Nat.reduceEqDiff, Nat.reduceAdd, Nat.reduceMul, Int.reduceBEq, Int.reduceEq, Int.reduceNeg, Int.reduceLT, Int.reduceLE, Int.reduceAdd, Int.reduceSub, Int.reduceMul, Int.reduceToNat, Int.reduceGT, Nat.reduceBEq, Nat.reducePow, Nat.reduceGT, reduceCtorEq, ↓reduceIte, t1, t2, t3, t7, t8, loadN_fact gx5]
  refine hput.mono ?_
  rintro _ h6 ⟨e6, p', c', ws, rfl, vr6, hk6, hl6⟩
  have e06 := e05.trans e6
  have h9 := hk6.trans hstep.symm
  have hle' : ws.length ≤ i + 1 := by omega
  simp -dsimp (disch := first | with_reducible assumption | omega | (intro h_; cases h_; done) | (simp only [LN] <;> omega) | (simp only [LF]; done) | (repeat (first | with_reducible assumption | apply Ext.refl | apply Ext.app | (apply Ext.set <;> omega) | (refine Ext.trans ?_ (by assumption))))) only [AX, TY, AD, mapPut, entsOf, oneV, builtinV, idsOf, mapId, touchB, Nat.reduceLT, Nat.reduceLeDiff, Nat.reduceEqDiff, Nat.reduceAdd, Nat.reduceMul, Int.reduceBEq, Int.reduceEq, Int.reduceNeg, Int.reduceLT, Int.reduceLE, Int.reduceAdd, Int.reduceSub, Int.reduceMul, Int.reduceToNat, Int.reduceGT, Nat.reduceBEq, Nat.reducePow, Nat.reduceGT, reduceCtorEq, ↓reduceIte, t1, t2, t3, t7, t8, wrap_in]
  refine ⟨m - 1, by omega, i + 1, p', c', ws, ?_⟩
  repeat' (first | assumption | refine And.intro ?_ ?_)
  all_goals first | rfl | omega | (simp; done) | (simp; omega; done) | skip
theorem rowslaw_ok {h : Heap} {p q r : Option (Nat × Nat)} {c d ce : Option Nat} {ds : List Td} {os : List Oq} {ys : List Ver} (hs : Tds h p ds) (ho : Oqs h q os) (hv : Vers h r ys) (snap table : Int) :
    WR (callE Tryz.prog hk 3 [.int .i64 snap, .slice p ds.length c, .slice q os.length d, .slice r ys.length ce, .int .i64 table] h) fun r h' => r = .bool true := by
  have hn0 := ho.sl.nil'
  have hl0 := ho.sl.small
  refine WR.call (hH := rfl) Tryz.func3 rfl (n := 54) rfl rfl (by simp) ?_
  simp -dsimp (disch := first | with_reducible assumption | omega | (intro h_; cases h_; done) | (simp only [LN] <;> omega) | (simp only [LF]; done) | (repeat (first | with_reducible assumption | apply Ext.refl | apply Ext.app | (apply Ext.set <;> omega) | (refine Ext.trans ?_ (by assumption))))) only [AX, TY, AD, mapPut, entsOf, oneV, builtinV, idsOf, mapId, touchB, Nat.reduceLT, Nat.reduceLeDiff, Nat.reduceEqDiff, Nat.reduceAdd, Nat.reduceMul, Int.reduceBEq, Int.reduceEq, Int.reduceNeg, Int.reduceLT, Int.reduceLE, Int.reduceAdd, Int.reduceSub, Int.reduceMul, Int.reduceToNat, Int.reduceGT, Nat.reduceBEq, Nat.reducePow, Nat.reduceGT, reduceCtorEq, ↓reduceIte]
  refine awake_ok.mono ?_
  rintro _ _ ⟨rfl, rfl⟩
  simp -dsimp (disch := first | with_reducible assumption | omega | (intro h_; cases h_; done) | (simp only [LN] <;> omega) | (simp only [LF]; done) | (repeat (first | with_reducible assumption | apply Ext.refl | apply Ext.app | (apply Ext.set <;> omega) | (refine Ext.trans ?_ (by assumption))))) only [AX, TY, AD, mapPut, entsOf, oneV, builtinV, idsOf, mapId, touchB, Nat.reduceLT, Nat.reduceLeDiff, Nat.reduceEqDiff, Nat.reduceAdd, Nat.reduceMul, Int.reduceBEq, Int.reduceEq, Int.reduceNeg, Int.reduceLT, Int.reduceLE, Int.reduceAdd, Int.reduceSub, Int.reduceMul, Int.reduceToNat, Int.reduceGT, Nat.reduceBEq, Nat.reducePow, Nat.reduceGT, reduceCtorEq, ↓reduceIte]
  refine (few47_ok hs ho hv).mono ?_
  rintro _ h1 ⟨e1, b, rfl, hb⟩
  cases b
  · simp -dsimp (disch := first | with_reducible assumption | omega | (intro h_; cases h_; done) | (simp only [LN] <;> omega) | (simp only [LF]; done) | (repeat (first | with_reducible assumption | apply Ext.refl | apply Ext.app | (apply Ext.set <;> omega) | (refine Ext.trans ?_ (by assumption))))) only [AX, TY, AD, mapPut, entsOf, oneV, builtinV, idsOf, mapId, touchB, Nat.reduceLT, Nat.reduceLeDiff, Nat.reduceEqDiff, Nat.reduceAdd, Nat.reduceMul, Int.reduceBEq, Int.reduceEq, Int.reduceNeg, Int.reduceLT, Int.reduceLE, Int.reduceAdd, Int.reduceSub, Int.reduceMul, Int.reduceToNat, Int.reduceGT, Nat.reduceBEq, Nat.reducePow, Nat.reduceGT, reduceCtorEq, ↓reduceIte]
    refine awake_ok.mono ?_
    rintro _ _ ⟨rfl, rfl⟩
    simp -dsimp (disch := first | with_reducible assumption | omega | (intro h_; cases h_; done) | (simp only [LN] <;> omega) | (simp only [LF]; done) | (repeat (first | with_reducible assumption | apply Ext.refl | apply Ext.app | (apply Ext.set <;> omega) | (refine Ext.trans ?_ (by assumption))))) only [AX, TY, AD, mapPut, entsOf, oneV, builtinV, idsOf, mapId, touchB, Nat.reduceLT, Nat.reduceLeDiff, Nat.reduceEqDiff, Nat.reduceAdd, Nat.reduceMul, Int.reduceBEq, Int.reduceEq, Int.reduceNeg, Int.reduceLT, Int.reduceLE, Int.reduceAdd, Int.reduceSub, Int.reduceMul, Int.reduceToNat, Int.reduceGT, Nat.reduceBEq, Nat.reducePow, Nat.reduceGT, reduceCtorEq, ↓reduceIte]
  obtain ⟨f1, f2, f3, f4, f5, f6⟩ := hb rfl
  simp -dsimp (disch := first | with_reducible assumption | omega | (intro h_; cases h_; done) | (simp only [LN] <;> omega) | (simp only [LF]; done) | (repeat (first | with_reducible assumption | apply Ext.refl | apply Ext.app | (apply Ext.set <;> omega) | (refine Ext.trans ?_ (by assumption))))) only [AX, TY, AD, mapPut, entsOf, oneV, builtinV, idsOf, mapId, touchB, Nat.reduceLT, Nat.reduceLeDiff, Nat.reduceEqDiff, Nat.reduceAdd, Nat.reduceMul, Int.reduceBEq, Int.reduceEq, Int.reduceNeg, Int.reduceLT, Int.reduceLE, Int.reduceAdd, Int.reduceSub, Int.reduceMul, Int.reduceToNat, Int.reduceGT, Nat.reduceBEq, Nat.reducePow, Nat.reduceGT, reduceCtorEq, ↓reduceIte]
  refine (begun_ok (hs.ext e1) ⟨ho.sl.ext e1, fun x hx => (ho.ok x hx).ext e1⟩ (by omega) (fun x hx => by have := f4 x hx; omega) (by omega) (fun o ho => by have := f5 o ho; omega) snap).mono ?_
  rintro _ h2 ⟨ti, ds', ops, rfl, hcore, hst, t, e2⟩
  obtain ⟨hlog, hlen⟩ := hst.log ⟨by simp, by simp⟩ f5
  have hops : ops.length ≤ 16 := by simp at hlen; omega
  have e12 := e1.trans e2
  have hco := hst.co
  rw [List.map_nil, core_step hcore] at hco
  have hdf := hst.def (by simp)
  simp -dsimp (disch := first | with_reducible assumption | omega | (intro h_; cases h_; done) | (simp only [LN] <;> omega) | (simp only [LF]; done) | (repeat (first | with_reducible assumption | apply Ext.refl | apply Ext.app | (apply Ext.set <;> omega) | (refine Ext.trans ?_ (by assumption))))) only [AX, TY, AD, mapPut, entsOf, oneV, builtinV, idsOf, mapId, touchB, Nat.reduceLT, Nat.reduceLeDiff, Nat.reduceEqDiff, Nat.reduceAdd, Nat.reduceMul, Int.reduceBEq, Int.reduceEq, Int.reduceNeg, Int.reduceLT, Int.reduceLE, Int.reduceAdd, Int.reduceSub, Int.reduceMul, Int.reduceToNat, Int.reduceGT, Nat.reduceBEq, Nat.reducePow, Nat.reduceGT, reduceCtorEq, ↓reduceIte]
  refine W.loop (fun m τ hh => ∃ (i : Nat) (lp : Option (Nat × Nat)) (lc : Option Nat) (L : List Ro), m + i = os.length ∧ τ 3 = .slice r ys.length ce ∧ τ 4 = .int .i64 table ∧ τ 11 = .ptr (some (ti, 0)) ∧ τ 12 = .ptr (some (h2.length, 0)) ∧ τ 32 = .slice q os.length d ∧ τ 33 = .int .i64 os.length ∧ τ 34 = .int .i64 i ∧ Ext h2 hh ∧ hh[h2.length]? = some (.cells (rtx snap p ds c lp L lc) .rw) ∧ RL hh lp L ∧ Rs hh lp lc 6 Ro.enc L ∧ (∀ a o, lp = some (a, o) → a ≠ h2.length) ∧ (∀ x ∈ L, VOK h2 x.v) ∧ L.map Ro.co = (os.take i).foldl (StepC ds) [] ∧ L.length ≤ i) ?_ (m := os.length) ?_
  rotate_left
  · refine ⟨0, none, some 0, [], by simp, ?_⟩
    have g0 : (h2 ++ [O.cells (rtx snap p ds c none [] (some 0)) .rw])[h2.length]? = some (.cells (rtx snap p ds c none [] (some 0)) .rw) := by simp
    have e0 : Ext h2 (h2 ++ [O.cells (rtx snap p ds c none [] (some 0)) .rw]) := (by (repeat (first | assumption | apply Ext.refl | apply Ext.app | (apply Ext.set <;> omega) | exact Ext.trans (by assumption) (by assumption) | (refine Ext.trans ?_ (by assumption)))))
    have rl0 : RL (h2 ++ [O.cells (rtx snap p ds c none [] (some 0)) .rw]) none [] := ⟨.nil0 _ _ _, fun _ h => (by cases h)⟩
    have rs0 : Rs (h2 ++ [O.cells (rtx snap p ds c none [] (some 0)) .rw]) none (some 0) 6 Ro.enc [] := Rs.nil _ _ _
    simp only [rtx, List.length_nil] at g0 e0 rl0 rs0
    simp -dsimp (disch := first | with_reducible assumption | omega | (intro h_; cases h_; done) | (simp only [LN] <;> omega) | (simp only [LF]; done) | (repeat (first | with_reducible assumption | apply Ext.refl | apply Ext.app | (apply Ext.set <;> omega) | (refine Ext.trans ?_ (by assumption))))) only [AX, TY, AD, mapPut, entsOf, oneV, builtinV, idsOf, mapId, touchB, Nat.reduceLT, Nat.reduceLeDiff, Nat.reduceEqDiff, Nat.reduceAdd, Nat.reduceMul, Int.reduceBEq, Int.reduceEq, Int.reduceNeg, Int.reduceLT, Int.reduceLE, Int.reduceAdd, Int.reduceSub, Int.reduceMul, Int.reduceToNat, Int.reduceGT, Nat.reduceBEq, Nat.reducePow, Nat.reduceGT, reduceCtorEq, ↓reduceIte]
    repeat' (first | assumption | refine And.intro ?_ ?_)
    all_goals first | rfl | omega | (simp; done) | (simp; omega; done) | skip
  rintro m τ hh ⟨i, lp, lc, L, hm, t3, t4, t11, t12, t32, t33, t34, e, gw, rl, rs, haw, hvl, hcoL, hle⟩
  have e0 := e12.trans e
  by_cases c1 : (i : Int) < (os.length : Int)
  rotate_left
  · have hrows := rows_ok (c := ce) (t.ext e) hops (fun o ho => by have := hlog.2 o ho; omega) (hv.ext e0) (by omega) (fun y hy => by have := f6 y hy; omega) table
    simp only [rtx] at gw
    simp -dsimp (disch := first | with_reducible assumption | omega | (intro h_; cases h_; done) | (simp only [LN] <;> omega) | (simp only [LF]; done) | (repeat (first | with_reducible assumption | apply Ext.refl | apply Ext.app | (apply Ext.set <;> omega) | (refine Ext.trans ?_ (by assumption))))) only [AX, TY, AD, mapPut, entsOf, oneV, builtinV, idsOf, mapId, touchB, Nat.reduceLT, Nat.reduceLeDiff, Nat.reduceEqDiff, Nat.reduceAdd, Nat.reduceMul, Int.reduceBEq, Int.reduceEq, Int.reduceNeg, Int.reduceLT, Int.reduceLE, Int.reduceAdd, Int.reduceSub, Int.reduceMul, Int.reduceToNat, Int.reduceGT, Nat.reduceBEq, Nat.reducePow, Nat.reduceGT, reduceCtorEq, ↓reduceIte, t3, t4, t11, t12, t32, t33, t34, c1]
    refine W.drawn [(0, []), (1, [0]), (2, [1, 0]), (4, [2, 1, 0]), (5, [4, 2, 1, 0]), (6, [5, 4, 2, 1, 0]), (3, [6, 5, 4]), (7, []), (8, []), (9, [])] (by decide +kernel) ?_
    simp -dsimp (disch := first | with_reducible assumption | omega | (intro h_; cases h_; done) | (simp only [LN] <;> omega) | (simp only [LF]; done) | (repeat (first | with_reducible assumption | apply Ext.refl | apply Ext.app | (apply Ext.set <;> omega) | (refine Ext.trans ?_ (by assumption))))) only [AX, TY, AD, mapPut, entsOf, oneV, builtinV, idsOf, mapId, touchB, Nat.reduceLT, Nat.reduceLeDiff, Nat.reduceEqDiff, Nat.reduceAdd, Nat.reduceMul, Int.reduceBEq, Int.reduceEq, Int.reduceNeg, Int.reduceLT, Int.reduceLE, Int.reduceAdd, Int.reduceSub, Int.reduceMul, Int.reduceToNat, Int.reduceGT, Nat.reduceBEq, Nat.reducePow, Nat.reduceGT, reduceCtorEq, ↓reduceIte, t3, t4, t11, t12, t32, t33, t34, loadN_fact gw]
    refine hrows.mono ?_
    rintro _ h3 ⟨e3, p3, c3, zs, rfl, hv3, R3⟩
    have hkey := rows_eq R3 hlog hdf
    rw [List.take_of_length_le (by omega), ← hco] at hcoL
    have gw3 := e3 _ _ gw
    have s1 := sameO_ext e3 (lt_of_some gw)
    have hrr := rrows_ok (snap := snap) (dp := p) (dc := c) (ds := ds) (lc := lc) (rl.ext e3) (by omega) table (rc := ce) (hv.ext (e0.trans e3)) (by omega)
    simp only [rtx] at hrr
    simp -dsimp (disch := first | with_reducible assumption | omega | (intro h_; cases h_; done) | (simp only [LN] <;> omega) | (simp only [LF]; done) | (repeat (first | with_reducible assumption | apply Ext.refl | apply Ext.app | (apply Ext.set <;> omega) | (refine Ext.trans ?_ (by assumption))))) only [AX, TY, AD, mapPut, entsOf, oneV, builtinV, idsOf, mapId, touchB, Nat.reduceLT, Nat.reduceLeDiff, Nat.reduceEqDiff, Nat.reduceAdd, Nat.reduceMul, Int.reduceBEq, Int.reduceEq, Int.reduceNeg, Int.reduceLT, Int.reduceLE, Int.reduceAdd, Int.reduceSub, Int.reduceMul, Int.reduceToNat, Int.reduceGT, Nat.reduceBEq, Nat.reducePow, Nat.reduceGT, reduceCtorEq, ↓reduceIte, t3, t4, t11, t12, t32, t33, t34, s1]
    refine hrr.mono ?_
    rintro _ h4 ⟨e4, p4, c4, ws, rfl, hv4, hk4⟩
    have hsame := same_ok (c := c3) (d := c4) (hv3.ext e4) hv4
    have s2 := sameO_ext (e3.trans e4) (lt_of_some gw)
    have s3 := sameO_ext e4 (lt_of_some gw3)
    simp -dsimp (disch := first | with_reducible assumption | omega | (intro h_; cases h_; done) | (simp only [LN] <;> omega) | (simp only [LF]; done) | (repeat (first | with_reducible assumption | apply Ext.refl | apply Ext.app | (apply Ext.set <;> omega) | (refine Ext.trans ?_ (by assumption))))) only [AX, TY, AD, mapPut, entsOf, oneV, builtinV, idsOf, mapId, touchB, Nat.reduceLT, Nat.reduceLeDiff, Nat.reduceEqDiff, Nat.reduceAdd, Nat.reduceMul, Int.reduceBEq, Int.reduceEq, Int.reduceNeg, Int.reduceLT, Int.reduceLE, Int.reduceAdd, Int.reduceSub, Int.reduceMul, Int.reduceToNat, Int.reduceGT, Nat.reduceBEq, Nat.reducePow, Nat.reduceGT, reduceCtorEq, ↓reduceIte, t3, t4, t11, t12, t32, t33, t34, s1, s2, s3]
    refine hsame.mono ?_
    rintro _ h5 ⟨e5, b, rfl, hb⟩
    have hbt : b = true := hb.2 (by rw [hkey, hk4, hcoL])
    subst hbt
    simp -dsimp (disch := first | with_reducible assumption | omega | (intro h_; cases h_; done) | (simp only [LN] <;> omega) | (simp only [LF]; done) | (repeat (first | with_reducible assumption | apply Ext.refl | apply Ext.app | (apply Ext.set <;> omega) | (refine Ext.trans ?_ (by assumption))))) only [AX, TY, AD, mapPut, entsOf, oneV, builtinV, idsOf, mapId, touchB, Nat.reduceLT, Nat.reduceLeDiff, Nat.reduceEqDiff, Nat.reduceAdd, Nat.reduceMul, Int.reduceBEq, Int.reduceEq, Int.reduceNeg, Int.reduceLT, Int.reduceLE, Int.reduceAdd, Int.reduceSub, Int.reduceMul, Int.reduceToNat, Int.reduceGT, Nat.reduceBEq, Nat.reducePow, Nat.reduceGT, reduceCtorEq, ↓reduceIte, s1, s2, s3]
  have hi : i < os.length := by omega
  have hla := ho.sl.load0 e0 hi (m := 7) (by decide)
  have tk : ∀ x : Oq, x.enc.take 7 = x.enc := fun _ => rfl
  rw [tk] at hla
  have htk := List.take_succ_eq_append_getElem hi
  have hvk := ho.ok _ (List.getElem_mem hi)
  generalize hx : os[i] = x at hla htk hvk
  obtain ⟨g, hg, gx, ex, hgl⟩ : ∃ g, hh ++ [O.cells x.enc .rw] = g ∧ g[hh.length]? = some (O.cells x.enc .rw) ∧ Ext hh g ∧ g.length = hh.length + 1 := ⟨_, rfl, by simp, (by (repeat (first | assumption | apply Ext.refl | apply Ext.app | (apply Ext.set <;> omega) | exact Ext.trans (by assumption) (by assumption) | (refine Ext.trans ?_ (by assumption))))), by simp⟩
  have gw2 := ex _ _ gw
  have hwant := want_ok (h := g) (snap := snap) (dc := c) (hs.ext (e0.trans ex)) (rl.ext ex) (rs.ext ex) (by omega) x (hvk.ext (e0.trans ex))
  simp only [Oq.enc] at hla hg gx hwant
  simp only [rtx] at gw2 hwant
  simp -dsimp (disch := first | with_reducible assumption | omega | (intro h_; cases h_; done) | (simp only [LN] <;> omega) | (simp only [LF]; done) | (repeat (first | with_reducible assumption | apply Ext.refl | apply Ext.app | (apply Ext.set <;> omega) | (refine Ext.trans ?_ (by assumption))))) only [AX, TY, AD, mapPut, entsOf, oneV, builtinV, idsOf, mapId, touchB, Nat.reduceLT, Nat.reduceLeDiff, Nat.reduceEqDiff, Nat.reduceAdd, Nat.reduceMul, Int.reduceBEq, Int.reduceEq, Int.reduceNeg, Int.reduceLT, Int.reduceLE, Int.reduceAdd, Int.reduceSub, Int.reduceMul, Int.reduceToNat, Int.reduceGT, Nat.reduceBEq, Nat.reducePow, Nat.reduceGT, reduceCtorEq, ↓reduceIte, t3, t4, t11, t12, t32, t33, t34, c1, hla, hg, loadN_fact gw2, loadN_fact gx]
  refine hwant.mono ?_
  rintro _ h4 ⟨L', ⟨e4, lp', lc', ee, rfl, rl4, rs4, fr4⟩, hco4, hlen4, hsub⟩
  have gw4 := e4 _ _ gw2
  have lw := lt_of_some gw
  have le2 := ex.le
  obtain ⟨h5, hh5, gw5, kp5, l5⟩ : ∃ h5, h4.set h2.length (.cells (rtx snap p ds c lp' L' lc') .rw) = h5 ∧ h5[h2.length]? = some (.cells (rtx snap p ds c lp' L' lc') .rw) ∧ (∀ a, a ≠ h2.length → h5[a]? = h4[a]?) ∧ h5.length = h4.length := ⟨_, rfl, set_same _ (lt_of_some gw4), fun a ha => set_other _ ha, by simp⟩
  have hvl' : ∀ x ∈ L', VOK h2 x.v := hsub h2 hvl (hvk.ext e12)
  have haw' : ∀ a o, lp' = some (a, o) → a ≠ h2.length := fun a o z => by
    rcases fr4 with rfl | w
    · exact haw a o z
    · have := w a o z; omega
  have e5 : Ext h2 h5 := Ext.of_keep fun a ha => by
    rw [kp5 a (by omega)]
    exact ((e.trans ex).trans e4).same ha
  have rl5 : RL h5 lp' L' := ⟨rl4.sl.keep fun a o z => kp5 a (haw' a o z), fun x hx => (hvl' x hx).ext e5⟩
  have rs5 : Rs h5 lp' lc' 6 Ro.enc L' := ⟨rl5.sl, rs4.room, fun hc => by
    have := rs4.fit hc
    cases lp' with
    | none => rfl
    | some w =>
      obtain ⟨a, o⟩ := w
      have q7 := kp5 a (haw' a o rfl)
      simp only [fitsV] at this ⊢
      rw [q7]; exact this⟩
  have hcoL' : L'.map Ro.co = (os.take (i + 1)).foldl (StepC ds) [] := by rw [htk, List.foldl_append, ← hcoL, hco4]; rfl
  have hle' : L'.length ≤ i + 1 := by omega
  have hst5 := storeN_fact (vs := rtx snap p ds c lp' L' lc') gw4 (by simp)
  simp only [rtx] at hst5 hh5 gw5
  simp -dsimp (disch := first | with_reducible assumption | omega | (intro h_; cases h_; done) | (simp only [LN] <;> omega) | (simp only [LF]; done) | (repeat (first | with_reducible assumption | apply Ext.refl | apply Ext.app | (apply Ext.set <;> omega) | (refine Ext.trans ?_ (by assumption))))) only [AX, TY, AD, mapPut, entsOf, oneV, builtinV, idsOf, mapId, touchB, Nat.reduceLT, Nat.reduceLeDiff, Nat.reduceEqDiff, Nat.reduceAdd, Nat.reduceMul, Int.reduceBEq, Int.reduceEq, Int.reduceNeg, Int.reduceLT, Int.reduceLE, Int.reduceAdd, Int.reduceSub, Int.reduceMul, Int.reduceToNat, Int.reduceGT, Nat.reduceBEq, Nat.reducePow, Nat.reduceGT, reduceCtorEq, ↓reduceIte, t3, t4, t11, t12, t32, t33, t34, hst5, hh5, wrap_in]
  refine ⟨m - 1, by omega, i + 1, lp', lc', L', ?_⟩
  repeat' (first | assumption | refine And.intro ?_ ?_)
  all_goals first | rfl | omega | (simp; done) | (simp; omega; done) | skip
end Go.Proofs.YtcaolnmpldbkjaaGreatA
namespace Go.Proofs.YtcaolnmpldbkjaaGreatA
open Go Go.Proofs Go.RowKit
set_option linter.unusedVariables false
theorem rowRows {h : Heap} (a0 a1 a2 a3 a4 : V) (v0 : ArgV false (.int .i64) h a0) (v1 : ArgV false (.slice 5 96 kTd) h a1) (v2 : ArgV false (.slice 7 72 kOq) h a2) (v3 : ArgV false (.slice 5 56 kVer) h a3) (v4 : ArgV false (.int .i64) h a4) :
    WR (callE Tryz.prog hk 3 [a0, a1, a2, a3, a4] h) fun r h' => r = .bool true := by
  obtain ⟨a, rfl, _⟩ := v0.int
  obtain ⟨p, c, ds, rfl, hs⟩ := v1.tds
  obtain ⟨q, d, os, rfl, ho⟩ := v2.oqs
  obtain ⟨r, e, ys, rfl, hv⟩ := v3.vers
  obtain ⟨b, rfl, _⟩ := v4.int
  exact rowslaw_ok hs ho hv a b
end Go.Proofs.YtcaolnmpldbkjaaGreatA
