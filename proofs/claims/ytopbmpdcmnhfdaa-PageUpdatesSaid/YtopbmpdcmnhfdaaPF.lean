/- Words of this session: chapter 14: pages built. -/
import Derived.Test.YtopbmpdcmnhfdaaPE
namespace Go.Proofs.YtopbmpdcmnhfdaaA
open Go Go.Proofs Go.RowKit
set_option linter.unusedVariables false
set_option linter.unusedSimpArgs false
set_option maxRecDepth 10000
set_option maxHeartbeats 4000000
theorem st_eb {h : Heap} {a : Nat} {P : List Int} (hb : h[a]? = some (.cells (P.flatMap eb) .rw)) {i : Nat} (hi : i < P.length) (x : Int) : storeN h a i [V.int .u8 x] = some (h.set a (.cells ((P.set i x).flatMap eb) .rw)) := by
  rw [storeN_of hb (by simp) (by rw [← map_eb, List.length_map]; simp; omega) rfl]
  congr 3
  rw [← map_eb, ← map_eb, List.set_eq_take_append_cons_drop, if_pos hi]
  unfold splice
  simp
theorem put_ok {h : Heap} {a : Nat} {P : List Int} (hb : h[a]? = some (.cells (P.flatMap eb) .rw)) (hl : P.length = 1024) {i : Nat} {n : Int} (hi : i + 1 < 1024) (hn : 0 ≤ n ∧ n < 65536) :
    WR (callE Try.prog hk 38 [.slice (some (a, 0)) 1024 (some 1024), .int .i64 (i : Int), .int .i64 n] h) fun r h' => h' = h.set a (.cells (((P.set i (n / 256 % 256)).set (i + 1) (n % 256)).flatMap eb) .rw) := by
  have hlt := lt_of_some hb
  have hw : IntKind.i64.wrap ((i : Int) + 1) = ((i + 1 : Nat) : Int) := by rw [IntKind.wrap_i64]; omega
  have hsh : ∀ (ty : TypeId) (x y : Operand), binV Try.prog .shr ty x y (.int .i64 n) (.int .u64 8) = some (.int .i64 (n / 256)) := fun ty x y => by
    rw [shr_of (by decide), Int.fdiv_eq_ediv_of_nonneg _ (by decide)]; rfl
  have hw1 : IntKind.u8.wrap (n / 256) = n / 256 % 256 := w_u8 _
  have hw2 : IntKind.u8.wrap n = n % 256 := w_u8 _
  have h1 : (i : Int) < ((1024 : Nat) : Int) := by omega
  have h2 : ((i + 1 : Nat) : Int) < ((1024 : Nat) : Int) := by omega
  have hs1 := st_eb hb (i := i) (by omega) (n / 256 % 256)
  have hs2 := st_eb (h := h.set a (.cells ((P.set i (n / 256 % 256)).flatMap eb) .rw)) (set_same _ hlt) (i := i + 1) (by rw [List.length_set]; omega) (n % 256)
  rw [List.set_set] at hs2
  generalize n / 256 % 256 = u at *
  generalize n % 256 = v at *
  generalize hL : (1024 : Nat) = L at *
  refine WR.call (hH := rfl) Try.func38 rfl (n := 18) rfl rfl (by simp) ?_
  simp -dsimp (disch := first | with_reducible assumption | omega | (intro h_; cases h_; done) | (simp only [LN] <;> omega) | (simp only [LF]; done) | (repeat (first | with_reducible assumption | apply Ext.refl | apply Ext.app | (apply Ext.set <;> omega) | (refine Ext.trans ?_ (by assumption))))) only [AX, TY, gV, dstOf, p_makeFunc, p_mapUpdate, mapPut, entsOf, p_lookup, p_extract, p_nilCheck, oneV, p_load, p_store, p_binOp, p_unOp, p_indexAddr, p_index, p_box, p_build, evParts, builtinV, load1, ldc, splice, minds, disj, rcOf, isCall, touchV, idsOf, mapId, touchB, p_buildSlice, buildSliceV, reps, fillV, p_convert, p_slice, evO, p_makeSlice, sid_some, soff_some, Nat.reduceLT, Nat.reduceLeDiff, Nat.reduceEqDiff, Nat.reduceAdd, Nat.reduceMul, Int.reduceBEq, Int.reduceEq, Int.reduceNeg, Int.reduceLT, Int.reduceLE, Int.reduceAdd, Int.reduceSub, Int.reduceMul, Int.reduceToNat, Int.reduceGT, Nat.reduceBEq, Nat.reducePow, Nat.reduceGT, reduceCtorEq, ↓reduceIte, hw, hsh, hw1, hw2, h1, h2, Nat.mul_one, hs1, hs2]
  exact ⟨_, rfl⟩
def BuildR (h h' : Heap) (kd : Int) (cs : List (List Int)) (r : V) : Prop :=
  ((0 ≤ kd ∧ kd ≤ 255) ∧ totalS cs ≤ 1024 ∧ ∃ q, r = V.tuple [.slice (some (q, 0)) 1024 (some 1024), .int .i64 0] ∧ h.length ≤ q ∧ h'[q]? = some (.cells ((layoutS kd cs).flatMap eb) .rw)) ∨
  ((0 ≤ kd ∧ kd ≤ 255) ∧ ¬ totalS cs ≤ 1024 ∧ r = V.tuple [.slice none 0 (some 0), .int .i64 6]) ∨
  (¬ (0 ≤ kd ∧ kd ≤ 255) ∧ r = V.tuple [.slice none 0 (some 0), .int .i64 1])
structure LB1 (p : Option (Nat × Nat)) (c : Option Nat) (n : Nat) (kd : Int) (cs : List (List Int)) (i : Nat) (τ : Tp) : Prop where
  t0 : τ 0 = .int .i64 kd
  t1 : τ 1 = .slice p n c
  t6 : τ 6 = .int .i64 (7 + (sumLen (cs.take i) : Int) + 2 * (i : Int))
  t19 : τ 19 = .slice p n c
  t20 : τ 20 = .int .i64 (n : Nat)
  t21 : τ 21 = .int .i64 (i : Nat)
  le : 7 + sumLen (cs.take i) + 2 * i ≤ 1024
structure LB2 (h : Heap) (p : Option (Nat × Nat)) (c : Option Nat) (n : Nat) (kd : Int) (cs : List (List Int)) (q : Nat) (i : Nat) (τ : Tp) (hh : Heap) : Prop where
  t9 : τ 9 = .slice (some (q, 0)) 1024 (some 1024)
  t10 : τ 10 = .int .i64 (1020 - (sumLen (cs.take i) : Int))
  t42 : τ 42 = .slice p n c
  t43 : τ 43 = .int .i64 (n : Nat)
  t44 : τ 44 = .int .i64 (i : Nat)
  ex : Ext h hh
  gx : hh[q]? = some (.cells ((pageTo kd cs i).flatMap eb) .rw)
theorem getD_bs {s : List Cl} {i : Nat} (hi : i < s.length) : (s.map Cl.bs).getD i [] = s[i].bs := by
  rw [List.getD_eq_getElem?_getD, List.getElem?_map, List.getElem?_eq_getElem hi]; rfl
theorem build_ok {h : Heap} {p : Option (Nat × Nat)} {c : Option Nat} {s : List Cl} (hs : Sl h p 1 Cl.enc s) (hy : ∀ y ∈ s, COK h y) (kd : Int) (hsl : s.length ≤ 1000000) (hsz : ∀ y ∈ s, y.bs.length ≤ 1000000) :
    WR (callE Try.prog hk 13 [.int .i64 kd, .slice p s.length c] h) fun r h' => Ext h h' ∧ BuildR h h' kd (s.map Cl.bs) r := by
  have hn := hs.nil'
  have hcl : (s.map Cl.bs).length = s.length := List.length_map ..
  refine WR.call (hH := rfl) Try.func13 rfl (n := 66) rfl rfl (by simp) ?_
  by_cases h1 : kd < 0
  · simp -dsimp (disch := first | with_reducible assumption | omega | (intro h_; cases h_; done) | (simp only [LN] <;> omega) | (simp only [LF]; done) | (repeat (first | with_reducible assumption | apply Ext.refl | apply Ext.app | (apply Ext.set <;> omega) | (refine Ext.trans ?_ (by assumption))))) only [AX, TY, gV, dstOf, p_makeFunc, p_mapUpdate, mapPut, entsOf, p_lookup, p_extract, p_nilCheck, oneV, p_load, p_store, p_binOp, p_unOp, p_indexAddr, p_index, p_box, p_build, evParts, builtinV, load1, ldc, splice, minds, disj, rcOf, isCall, touchV, idsOf, mapId, touchB, p_buildSlice, buildSliceV, reps, fillV, p_convert, p_slice, evO, p_makeSlice, sid_some, soff_some, Nat.reduceLT, Nat.reduceLeDiff, Nat.reduceEqDiff, Nat.reduceAdd, Nat.reduceMul, Int.reduceBEq, Int.reduceEq, Int.reduceNeg, Int.reduceLT, Int.reduceLE, Int.reduceAdd, Int.reduceSub, Int.reduceMul, Int.reduceToNat, Int.reduceGT, Nat.reduceBEq, Nat.reducePow, Nat.reduceGT, reduceCtorEq, ↓reduceIte, h1]
    exact ⟨.refl _, .inr (.inr ⟨by omega, rfl⟩)⟩
  by_cases h2 : 255 < kd
  · simp -dsimp (disch := first | with_reducible assumption | omega | (intro h_; cases h_; done) | (simp only [LN] <;> omega) | (simp only [LF]; done) | (repeat (first | with_reducible assumption | apply Ext.refl | apply Ext.app | (apply Ext.set <;> omega) | (refine Ext.trans ?_ (by assumption))))) only [AX, TY, gV, dstOf, p_makeFunc, p_mapUpdate, mapPut, entsOf, p_lookup, p_extract, p_nilCheck, oneV, p_load, p_store, p_binOp, p_unOp, p_indexAddr, p_index, p_box, p_build, evParts, builtinV, load1, ldc, splice, minds, disj, rcOf, isCall, touchV, idsOf, mapId, touchB, p_buildSlice, buildSliceV, reps, fillV, p_convert, p_slice, evO, p_makeSlice, sid_some, soff_some, Nat.reduceLT, Nat.reduceLeDiff, Nat.reduceEqDiff, Nat.reduceAdd, Nat.reduceMul, Int.reduceBEq, Int.reduceEq, Int.reduceNeg, Int.reduceLT, Int.reduceLE, Int.reduceAdd, Int.reduceSub, Int.reduceMul, Int.reduceToNat, Int.reduceGT, Nat.reduceBEq, Nat.reducePow, Nat.reduceGT, reduceCtorEq, ↓reduceIte, h1, h2]
    exact ⟨.refl _, .inr (.inr ⟨by omega, rfl⟩)⟩
  have hkd : 0 ≤ kd ∧ kd ≤ 255 := by omega
  simp -dsimp (disch := first | with_reducible assumption | omega | (intro h_; cases h_; done) | (simp only [LN] <;> omega) | (simp only [LF]; done) | (repeat (first | with_reducible assumption | apply Ext.refl | apply Ext.app | (apply Ext.set <;> omega) | (refine Ext.trans ?_ (by assumption))))) only [AX, TY, gV, dstOf, p_makeFunc, p_mapUpdate, mapPut, entsOf, p_lookup, p_extract, p_nilCheck, oneV, p_load, p_store, p_binOp, p_unOp, p_indexAddr, p_index, p_box, p_build, evParts, builtinV, load1, ldc, splice, minds, disj, rcOf, isCall, touchV, idsOf, mapId, touchB, p_buildSlice, buildSliceV, reps, fillV, p_convert, p_slice, evO, p_makeSlice, sid_some, soff_some, Nat.reduceLT, Nat.reduceLeDiff, Nat.reduceEqDiff, Nat.reduceAdd, Nat.reduceMul, Int.reduceBEq, Int.reduceEq, Int.reduceNeg, Int.reduceLT, Int.reduceLE, Int.reduceAdd, Int.reduceSub, Int.reduceMul, Int.reduceToNat, Int.reduceGT, Nat.reduceBEq, Nat.reducePow, Nat.reduceGT, reduceCtorEq, ↓reduceIte, h1, h2]
  refine W.loop (fun m τ hh => h = hh ∧ ∃ i, m + i = s.length ∧ LB1 p c s.length kd (s.map Cl.bs) i τ) ?_ (m := s.length) ?_
  rotate_left
  · refine ⟨rfl, 0, by simp, ?_⟩
    constructor <;> (try first | assumption | ((repeat (first | assumption | apply Ext.refl | apply Ext.app | (apply Ext.set <;> omega) | exact Ext.trans (by assumption) (by assumption) | (refine Ext.trans ?_ (by assumption)))); done) | (refine Sl.ext (by assumption) ?_; (repeat (first | assumption | apply Ext.refl | apply Ext.app | (apply Ext.set <;> omega) | exact Ext.trans (by assumption) (by assumption) | (refine Ext.trans ?_ (by assumption)))); done) | (simp -dsimp (disch := first | with_reducible assumption | omega | (intro h_; cases h_; done) | (simp only [LN] <;> omega) | (simp only [LF]; done) | (repeat (first | with_reducible assumption | apply Ext.refl | apply Ext.app | (apply Ext.set <;> omega) | (refine Ext.trans ?_ (by assumption))))) only [AX, TY, gV, dstOf, p_makeFunc, p_mapUpdate, mapPut, entsOf, p_lookup, p_extract, p_nilCheck, oneV, p_load, p_store, p_binOp, p_unOp, p_indexAddr, p_index, p_box, p_build, evParts, builtinV, load1, ldc, splice, minds, disj, rcOf, isCall, touchV, idsOf, mapId, touchB, p_buildSlice, buildSliceV, reps, fillV, p_convert, p_slice, evO, p_makeSlice, sid_some, soff_some, Nat.reduceLT, Nat.reduceLeDiff, Nat.reduceEqDiff, Nat.reduceAdd, Nat.reduceMul, Int.reduceBEq, Int.reduceEq, Int.reduceNeg, Int.reduceLT, Int.reduceLE, Int.reduceAdd, Int.reduceSub, Int.reduceMul, Int.reduceToNat, Int.reduceGT, Nat.reduceBEq, Nat.reducePow, Nat.reduceGT, reduceCtorEq, ↓reduceIte, Int.natCast_add, Int.natCast_one, Int.natCast_zero]; try (first | assumption | with_reducible rfl)))
    all_goals first | rfl | (simp [sumLen]; done) | skip
  rintro m τ _ ⟨rfl, i, hm, t0, t1, t6, t19, t20, t21, hle⟩
  by_cases h3 : (i : Int) < (s.length : Int)
  · have hi : i < s.length := by omega
    have hst := sumLen_take_succ (s.map Cl.bs) i (by omega)
    rw [getD_bs hi] at hst
    have hyl := hsz _ (List.getElem_mem hi)
    have hld := fun hh e => hs.load0 (hh := hh) e hi (m := 1) (Nat.le_refl 1)
    generalize hyy : s[i] = y at *
    simp only [Cl.enc] at hld
    have hw1 : IntKind.i64.wrap ((y.bs.length : Int) + 2) = (y.bs.length : Int) + 2 := by rw [IntKind.wrap_i64]; omega
    have hw2 : IntKind.i64.wrap (7 + (sumLen ((s.map Cl.bs).take i) : Int) + 2 * (i : Int) + ((y.bs.length : Int) + 2)) = 7 + (sumLen ((s.map Cl.bs).take (i + 1)) : Int) + 2 * ((i + 1 : Nat) : Int) := by rw [IntKind.wrap_i64]; omega
    by_cases h4 : (1024 : Int) < 7 + (sumLen ((s.map Cl.bs).take (i + 1)) : Int) + 2 * ((i + 1 : Nat) : Int)
    · have hle2 := sumLen_take_le (s.map Cl.bs) (i + 1)
      simp -dsimp (disch := first | with_reducible assumption | omega | (intro h_; cases h_; done) | (simp only [LN] <;> omega) | (simp only [LF]; done) | (repeat (first | with_reducible assumption | apply Ext.refl | apply Ext.app | (apply Ext.set <;> omega) | (refine Ext.trans ?_ (by assumption))))) only [AX, TY, gV, dstOf, p_makeFunc, p_mapUpdate, mapPut, entsOf, p_lookup, p_extract, p_nilCheck, oneV, p_load, p_store, p_binOp, p_unOp, p_indexAddr, p_index, p_box, p_build, evParts, builtinV, load1, ldc, splice, minds, disj, rcOf, isCall, touchV, idsOf, mapId, touchB, p_buildSlice, buildSliceV, reps, fillV, p_convert, p_slice, evO, p_makeSlice, sid_some, soff_some, Nat.reduceLT, Nat.reduceLeDiff, Nat.reduceEqDiff, Nat.reduceAdd, Nat.reduceMul, Int.reduceBEq, Int.reduceEq, Int.reduceNeg, Int.reduceLT, Int.reduceLE, Int.reduceAdd, Int.reduceSub, Int.reduceMul, Int.reduceToNat, Int.reduceGT, Nat.reduceBEq, Nat.reducePow, Nat.reduceGT, reduceCtorEq, ↓reduceIte, t0, t1, t6, t19, t20, t21, h3, hld, hw1, hw2, eq_true h4]
      exact ⟨.refl _, .inr (.inl ⟨hkd, by unfold totalS; omega, rfl⟩)⟩
    · simp -dsimp (disch := first | with_reducible assumption | omega | (intro h_; cases h_; done) | (simp only [LN] <;> omega) | (simp only [LF]; done) | (repeat (first | with_reducible assumption | apply Ext.refl | apply Ext.app | (apply Ext.set <;> omega) | (refine Ext.trans ?_ (by assumption))))) only [AX, TY, gV, dstOf, p_makeFunc, p_mapUpdate, mapPut, entsOf, p_lookup, p_extract, p_nilCheck, oneV, p_load, p_store, p_binOp, p_unOp, p_indexAddr, p_index, p_box, p_build, evParts, builtinV, load1, ldc, splice, minds, disj, rcOf, isCall, touchV, idsOf, mapId, touchB, p_buildSlice, buildSliceV, reps, fillV, p_convert, p_slice, evO, p_makeSlice, sid_some, soff_some, Nat.reduceLT, Nat.reduceLeDiff, Nat.reduceEqDiff, Nat.reduceAdd, Nat.reduceMul, Int.reduceBEq, Int.reduceEq, Int.reduceNeg, Int.reduceLT, Int.reduceLE, Int.reduceAdd, Int.reduceSub, Int.reduceMul, Int.reduceToNat, Int.reduceGT, Nat.reduceBEq, Nat.reducePow, Nat.reduceGT, reduceCtorEq, ↓reduceIte, t0, t1, t6, t19, t20, t21, h3, hld, hw1, hw2, h4, wrap_in]
      refine ⟨m - 1, by omega, i + 1, by omega, ?_⟩
      constructor <;> (try first | assumption | ((repeat (first | assumption | apply Ext.refl | apply Ext.app | (apply Ext.set <;> omega) | exact Ext.trans (by assumption) (by assumption) | (refine Ext.trans ?_ (by assumption)))); done) | (refine Sl.ext (by assumption) ?_; (repeat (first | assumption | apply Ext.refl | apply Ext.app | (apply Ext.set <;> omega) | exact Ext.trans (by assumption) (by assumption) | (refine Ext.trans ?_ (by assumption)))); done) | (simp -dsimp (disch := first | with_reducible assumption | omega | (intro h_; cases h_; done) | (simp only [LN] <;> omega) | (simp only [LF]; done) | (repeat (first | with_reducible assumption | apply Ext.refl | apply Ext.app | (apply Ext.set <;> omega) | (refine Ext.trans ?_ (by assumption))))) only [AX, TY, gV, dstOf, p_makeFunc, p_mapUpdate, mapPut, entsOf, p_lookup, p_extract, p_nilCheck, oneV, p_load, p_store, p_binOp, p_unOp, p_indexAddr, p_index, p_box, p_build, evParts, builtinV, load1, ldc, splice, minds, disj, rcOf, isCall, touchV, idsOf, mapId, touchB, p_buildSlice, buildSliceV, reps, fillV, p_convert, p_slice, evO, p_makeSlice, sid_some, soff_some, Nat.reduceLT, Nat.reduceLeDiff, Nat.reduceEqDiff, Nat.reduceAdd, Nat.reduceMul, Int.reduceBEq, Int.reduceEq, Int.reduceNeg, Int.reduceLT, Int.reduceLE, Int.reduceAdd, Int.reduceSub, Int.reduceMul, Int.reduceToNat, Int.reduceGT, Nat.reduceBEq, Nat.reducePow, Nat.reduceGT, reduceCtorEq, ↓reduceIte, t0, t1, t6, t19, t20, t21, hw1, hw2, Int.natCast_add, Int.natCast_one, Int.natCast_zero]; try (first | assumption | with_reducible rfl)))
      all_goals first | omega | rfl | skip
  · have htk : (s.map Cl.bs).take i = s.map Cl.bs := List.take_of_length_le (by omega)
    rw [htk] at hle
    have ht : totalS (s.map Cl.bs) ≤ 1024 := by unfold totalS; omega
    have hms : makeSliceV Try.prog 25 (.int .i64 1024) (.int .i64 1024) h = some (.slice (some (h.length, 0)) 1024 (some 1024), h ++ [.cells ((List.replicate 1024 (0 : Int)).flatMap eb) .rw]) := by
      rw [ms_25 h (by decide) (by decide) (by decide) (by decide)]
      rfl
    have hL : (List.replicate 1024 (0 : Int)).length = 1024 := List.length_replicate
    have hgx : (h ++ [O.cells ((List.replicate 1024 (0 : Int)).flatMap eb) .rw])[h.length]? = some (.cells ((List.replicate 1024 (0 : Int)).flatMap eb) .rw) := snoc_last _ rfl
    have hex : Ext h (h ++ [O.cells ((List.replicate 1024 (0 : Int)).flatMap eb) .rw]) := (by (repeat (first | assumption | apply Ext.refl | apply Ext.app | (apply Ext.set <;> omega) | exact Ext.trans (by assumption) (by assumption) | (refine Ext.trans ?_ (by assumption)))))
    generalize hZ : List.replicate 1024 (0 : Int) = Z at *
    have hwk : IntKind.u8.wrap kd = kd := by rw [w_u8]; omega
    have hZl : Z.length = 1024 := hL
    have hs0 := st_eb hgx (i := 0) (by omega) kd
    have hlen508 : s.length ≤ 508 := by unfold totalS at ht; omega
    have hlt0 := lt_of_some hgx
    have hput := put_ok (h := h ++ [O.cells ((Z.set 0 kd).flatMap eb) .rw]) (a := h.length) (P := Z.set 0 kd) (snoc_last _ rfl) (by rw [List.length_set]; exact hZl) (i := 1) (n := (s.length : Int)) (by decide) (by omega)
    have hP0 : ((Z.set 0 kd).set 1 ((s.length : Int) / 256 % 256)).set (1 + 1) ((s.length : Int) % 256) = pageTo kd (s.map Cl.bs) 0 := by
      have e0 := set_three 1021 kd ((s.length : Int) / 256 % 256) ((s.length : Int) % 256)
      rw [← hZ]
      refine e0.trans ?_
      unfold pageTo headS slotsTo bodyTo
      rw [List.take_zero, hcl, show sumLen [] = 0 from rfl, show 1020 - 0 - 3 - 2 * 0 = 1017 from rfl, List.append_nil, List.nil_append, show (1021 : Nat) = 1017 + 4 from rfl, ← List.replicate_append_replicate]
      rfl
    rw [hP0] at hput
    have hex1 : Ext h ((h ++ [O.cells ((Z.set 0 kd).flatMap eb) .rw]).set h.length (O.cells ((pageTo kd (s.map Cl.bs) 0).flatMap eb) .rw)) := Ext.set (by (repeat (first | assumption | apply Ext.refl | apply Ext.app | (apply Ext.set <;> omega) | exact Ext.trans (by assumption) (by assumption) | (refine Ext.trans ?_ (by assumption))))) (Nat.le_refl _) _
    have hgx1 : ((h ++ [O.cells ((Z.set 0 kd).flatMap eb) .rw]).set h.length (O.cells ((pageTo kd (s.map Cl.bs) 0).flatMap eb) .rw))[h.length]? = some (.cells ((pageTo kd (s.map Cl.bs) 0).flatMap eb) .rw) := set_same _ (by simp)
    rw [show ((1 : Nat) : Int) = 1 from rfl] at hput
    clear hP0 hZ
    simp -dsimp (disch := first | with_reducible assumption | omega | (intro h_; cases h_; done) | (simp only [LN] <;> omega) | (simp only [LF]; done) | (repeat (first | with_reducible assumption | apply Ext.refl | apply Ext.app | (apply Ext.set <;> omega) | (refine Ext.trans ?_ (by assumption))))) only [AX, TY, gV, dstOf, p_makeFunc, p_mapUpdate, mapPut, entsOf, p_lookup, p_extract, p_nilCheck, oneV, p_load, p_store, p_binOp, p_unOp, p_indexAddr, p_index, p_box, p_build, evParts, builtinV, load1, ldc, splice, minds, disj, rcOf, isCall, touchV, idsOf, mapId, touchB, p_buildSlice, buildSliceV, reps, fillV, p_convert, p_slice, evO, p_makeSlice, sid_some, soff_some, Nat.reduceLT, Nat.reduceLeDiff, Nat.reduceEqDiff, Nat.reduceAdd, Nat.reduceMul, Int.reduceBEq, Int.reduceEq, Int.reduceNeg, Int.reduceLT, Int.reduceLE, Int.reduceAdd, Int.reduceSub, Int.reduceMul, Int.reduceToNat, Int.reduceGT, Nat.reduceBEq, Nat.reducePow, Nat.reduceGT, reduceCtorEq, ↓reduceIte, t0, t1, t6, t19, t20, t21, h3, hms, hwk, Nat.zero_mul, hs0]
    refine hput.mono ?_
    rintro r2 _ rfl
    generalize (h ++ [O.cells ((Z.set 0 kd).flatMap eb) .rw]).set h.length (O.cells ((pageTo kd (s.map Cl.bs) 0).flatMap eb) .rw) = hP at hex1 hgx1
    simp -dsimp (disch := first | with_reducible assumption | omega | (intro h_; cases h_; done) | (simp only [LN] <;> omega) | (simp only [LF]; done) | (repeat (first | with_reducible assumption | apply Ext.refl | apply Ext.app | (apply Ext.set <;> omega) | (refine Ext.trans ?_ (by assumption))))) only [AX, TY, gV, dstOf, p_makeFunc, p_mapUpdate, mapPut, entsOf, p_lookup, p_extract, p_nilCheck, oneV, p_load, p_store, p_binOp, p_unOp, p_indexAddr, p_index, p_box, p_build, evParts, builtinV, load1, ldc, splice, minds, disj, rcOf, isCall, touchV, idsOf, mapId, touchB, p_buildSlice, buildSliceV, reps, fillV, p_convert, p_slice, evO, p_makeSlice, sid_some, soff_some, Nat.reduceLT, Nat.reduceLeDiff, Nat.reduceEqDiff, Nat.reduceAdd, Nat.reduceMul, Int.reduceBEq, Int.reduceEq, Int.reduceNeg, Int.reduceLT, Int.reduceLE, Int.reduceAdd, Int.reduceSub, Int.reduceMul, Int.reduceToNat, Int.reduceGT, Nat.reduceBEq, Nat.reducePow, Nat.reduceGT, reduceCtorEq, ↓reduceIte, t0, t1, t6, t19, t20, t21]
    refine W.loop (fun m τ hh => ∃ j, m + j = s.length ∧ LB2 h p c s.length kd (s.map Cl.bs) h.length j τ hh) ?_ (m := s.length) ?_
    rotate_left
    · refine ⟨0, by simp, ?_⟩
      constructor <;> (try first | assumption | ((repeat (first | assumption | apply Ext.refl | apply Ext.app | (apply Ext.set <;> omega) | exact Ext.trans (by assumption) (by assumption) | (refine Ext.trans ?_ (by assumption)))); done) | (refine Sl.ext (by assumption) ?_; (repeat (first | assumption | apply Ext.refl | apply Ext.app | (apply Ext.set <;> omega) | exact Ext.trans (by assumption) (by assumption) | (refine Ext.trans ?_ (by assumption)))); done) | (simp -dsimp (disch := first | with_reducible assumption | omega | (intro h_; cases h_; done) | (simp only [LN] <;> omega) | (simp only [LF]; done) | (repeat (first | with_reducible assumption | apply Ext.refl | apply Ext.app | (apply Ext.set <;> omega) | (refine Ext.trans ?_ (by assumption))))) only [AX, TY, gV, dstOf, p_makeFunc, p_mapUpdate, mapPut, entsOf, p_lookup, p_extract, p_nilCheck, oneV, p_load, p_store, p_binOp, p_unOp, p_indexAddr, p_index, p_box, p_build, evParts, builtinV, load1, ldc, splice, minds, disj, rcOf, isCall, touchV, idsOf, mapId, touchB, p_buildSlice, buildSliceV, reps, fillV, p_convert, p_slice, evO, p_makeSlice, sid_some, soff_some, Nat.reduceLT, Nat.reduceLeDiff, Nat.reduceEqDiff, Nat.reduceAdd, Nat.reduceMul, Int.reduceBEq, Int.reduceEq, Int.reduceNeg, Int.reduceLT, Int.reduceLE, Int.reduceAdd, Int.reduceSub, Int.reduceMul, Int.reduceToNat, Int.reduceGT, Nat.reduceBEq, Nat.reducePow, Nat.reduceGT, reduceCtorEq, ↓reduceIte, Int.natCast_add, Int.natCast_one, Int.natCast_zero]; try (first | assumption | with_reducible rfl)))
      all_goals first | rfl | (simp [sumLen]; done) | skip
    clear t0 t1 t6 t19 t20 t21 hm
    rintro m τ hh ⟨j, hm, t9, t10, t42, t43, t44, ex, gx⟩
    by_cases h5 : (j : Int) < (s.length : Int)
    rotate_left
    · have hjn : j = (s.map Cl.bs).length := by omega
      subst hjn
      simp -dsimp (disch := first | with_reducible assumption | omega | (intro h_; cases h_; done) | (simp only [LN] <;> omega) | (simp only [LF]; done) | (repeat (first | with_reducible assumption | apply Ext.refl | apply Ext.app | (apply Ext.set <;> omega) | (refine Ext.trans ?_ (by assumption))))) only [AX, TY, gV, dstOf, p_makeFunc, p_mapUpdate, mapPut, entsOf, p_lookup, p_extract, p_nilCheck, oneV, p_load, p_store, p_binOp, p_unOp, p_indexAddr, p_index, p_box, p_build, evParts, builtinV, load1, ldc, splice, minds, disj, rcOf, isCall, touchV, idsOf, mapId, touchB, p_buildSlice, buildSliceV, reps, fillV, p_convert, p_slice, evO, p_makeSlice, sid_some, soff_some, Nat.reduceLT, Nat.reduceLeDiff, Nat.reduceEqDiff, Nat.reduceAdd, Nat.reduceMul, Int.reduceBEq, Int.reduceEq, Int.reduceNeg, Int.reduceLT, Int.reduceLE, Int.reduceAdd, Int.reduceSub, Int.reduceMul, Int.reduceToNat, Int.reduceGT, Nat.reduceBEq, Nat.reducePow, Nat.reduceGT, reduceCtorEq, ↓reduceIte, t9, t10, t42, t43, t44, h5]
      exact ⟨ex, .inl ⟨hkd, ht, h.length, rfl, Nat.le_refl _, gx⟩⟩
    have hj : j < s.length := by omega
    have ht2 := ht
    unfold totalS at ht2
    have hst := sumLen_take_succ (s.map Cl.bs) j (by omega)
    have hs2 := sumLen_take_le (s.map Cl.bs) (j + 1)
    have hlp := pageTo_length kd (s.map Cl.bs) j (by omega) (by omega)
    have hbl := bodyTo_length (s.map Cl.bs) (j + 1) (by omega)
    have hyb : ((s.map Cl.bs).getD j []) = s[j].bs := getD_bs hj
    have hyok := Sl.ext (hy _ (List.getElem_mem hj)) ex
    have hld := fun hh e => hs.load0 (hh := hh) e hj (m := 1) (Nat.le_refl 1)
    generalize hyy : s[j] = y at *
    simp only [Cl.enc] at hld
    rw [hyb] at hst
    generalize hcs : s.map Cl.bs = cs at *
    have hw1 : IntKind.i64.wrap (1020 - (sumLen (cs.take j) : Int) - (y.bs.length : Int)) = ((1020 - sumLen (cs.take (j + 1)) : Nat) : Int) := by rw [IntKind.wrap_i64]; omega
    have hw2 : IntKind.i64.wrap (2 * (j : Int)) = 2 * (j : Int) := by rw [IntKind.wrap_i64]; omega
    have hw3 : IntKind.i64.wrap (3 + 2 * (j : Int)) = ((3 + 2 * j : Nat) : Int) := by rw [IntKind.wrap_i64]; omega
    obtain ⟨o3, hcut3, ho3⟩ := Blk.lo (sz := 1) (t := h.length) (o0 := 0) (L := 1024) (a := 1020 - sumLen (cs.take (j + 1))) (by omega)
    have hA : (headS kd cs ++ slotsTo cs j).length = 3 + 2 * j := by rw [List.length_append, slotsTo_length]; simp [headS]
    have hz : 1020 - sumLen (cs.take j) - 3 - 2 * j = (1020 - sumLen (cs.take (j + 1)) - 3 - 2 * (j + 1) + 2) + y.bs.length := by omega
    have e1 : (pageTo kd cs j).take (1020 - sumLen (cs.take (j + 1))) = headS kd cs ++ slotsTo cs j ++ List.replicate (1020 - sumLen (cs.take (j + 1)) - 3 - 2 * (j + 1) + 2) 0 := by
      unfold pageTo
      rw [hz, List.take_append, hA, List.take_of_length_le (by omega), List.take_append_of_le_length (by rw [List.length_replicate]; omega), List.take_replicate]
      congr 2
      omega
    have e2 : (pageTo kd cs j).drop (1020 - sumLen (cs.take (j + 1)) + y.bs.length) = bodyTo cs j ++ [0, 0, 0, 0] := by
      unfold pageTo
      rw [List.drop_append, hA, List.drop_eq_nil_of_le (by omega), List.nil_append, List.drop_append, List.drop_eq_nil_of_le (by rw [List.length_replicate]; omega), List.nil_append, List.length_replicate, show 1020 - sumLen (cs.take (j + 1)) + y.bs.length - (3 + 2 * j) - (1020 - sumLen (cs.take j) - 3 - 2 * j) = 0 by omega, List.drop_zero]
    have hcp := Blk.copy (dl := 1024 - (1020 - sumLen (cs.take (j + 1)))) (a := 1020 - sumLen (cs.take (j + 1))) (o := o3) (xc := y.c) gx (by simp) (eb_w _) hyok (eb_l _) (.inr (by rcases ho3 with q | q <;> omega)) (by omega) (by omega) (Nat.le_refl 1)
    have hbody : bodyTo cs (j + 1) = y.bs ++ bodyTo cs j := by rw [bodyTo, hyb]
    have hP1 : (pageTo kd cs j).take (1020 - sumLen (cs.take (j + 1))) ++ y.bs ++ (pageTo kd cs j).drop (1020 - sumLen (cs.take (j + 1)) + y.bs.length) = headS kd cs ++ slotsTo cs j ++ (List.replicate (1020 - sumLen (cs.take (j + 1)) - 3 - 2 * (j + 1) + 2) 0 ++ (bodyTo cs (j + 1) ++ [0, 0, 0, 0])) := by
      rw [e1, e2, hbody]; simp only [List.append_assoc]
    rw [hP1] at hcp
    have hlt1 := lt_of_some gx
    have hlen : (headS kd cs ++ slotsTo cs j ++ (List.replicate (1020 - sumLen (cs.take (j + 1)) - 3 - 2 * (j + 1) + 2) 0 ++ (bodyTo cs (j + 1) ++ [0, 0, 0, 0]))).length = 1024 := by
      rw [List.length_append, hA]
      simp only [List.length_append, List.length_replicate, hbl, List.length_cons, List.length_nil]
      omega
    have hput := put_ok (h := hh.set h.length (O.cells ((headS kd cs ++ slotsTo cs j ++ (List.replicate (1020 - sumLen (cs.take (j + 1)) - 3 - 2 * (j + 1) + 2) 0 ++ (bodyTo cs (j + 1) ++ [0, 0, 0, 0]))).flatMap eb) .rw)) (a := h.length) (set_same _ hlt1) hlen (i := 3 + 2 * j) (n := ((1020 - sumLen (cs.take (j + 1)) : Nat) : Int)) (by omega) (by omega)
    have h1020 : ((1020 - sumLen (cs.take (j + 1)) : Nat) : Int) = 1020 - (sumLen (cs.take (j + 1)) : Int) := by omega
    have hset := set_two (headS kd cs ++ slotsTo cs j) (bodyTo cs (j + 1) ++ [0, 0, 0, 0]) (1020 - sumLen (cs.take (j + 1)) - 3 - 2 * (j + 1)) ((1020 - (sumLen (cs.take (j + 1)) : Int)) / 256 % 256) ((1020 - (sumLen (cs.take (j + 1)) : Int)) % 256)
    have e3 : headS kd cs ++ slotsTo cs j ++ [(1020 - (sumLen (cs.take (j + 1)) : Int)) / 256 % 256, (1020 - (sumLen (cs.take (j + 1)) : Int)) % 256] ++ (List.replicate (1020 - sumLen (cs.take (j + 1)) - 3 - 2 * (j + 1)) 0 ++ (bodyTo cs (j + 1) ++ [0, 0, 0, 0])) = pageTo kd cs (j + 1) := by
      unfold pageTo
      rw [slotsTo, List.append_assoc (headS kd cs) (slotsTo cs j)]
      rfl
    rw [hA, e3] at hset
    rw [List.set_set] at hput
    rw [h1020] at hput
    rw [hset] at hput
    rw [← h1020] at hput
    have ex1 : Ext h (hh.set h.length (O.cells ((pageTo kd cs (j + 1)).flatMap eb) .rw)) := Ext.set ex (Nat.le_refl _) _
    have gx1 : (hh.set h.length (O.cells ((pageTo kd cs (j + 1)).flatMap eb) .rw))[h.length]? = some (.cells ((pageTo kd cs (j + 1)).flatMap eb) .rw) := set_same _ hlt1
    generalize h1024 : (1024 : Nat) = L at t9 hcut3 hcp hput
    clear e1 e2 hP1 hset e3
    generalize (headS kd cs ++ slotsTo cs j ++ (List.replicate (1020 - sumLen (cs.take (j + 1)) - 3 - 2 * (j + 1) + 2) 0 ++ (bodyTo cs (j + 1) ++ [0, 0, 0, 0]))) = PP at *
    simp -dsimp (disch := first | with_reducible assumption | omega | (intro h_; cases h_; done) | (simp only [LN] <;> omega) | (simp only [LF]; done) | (repeat (first | with_reducible assumption | apply Ext.refl | apply Ext.app | (apply Ext.set <;> omega) | (refine Ext.trans ?_ (by assumption))))) only [AX, TY, gV, dstOf, p_makeFunc, p_mapUpdate, mapPut, entsOf, p_lookup, p_extract, p_nilCheck, oneV, p_load, p_store, p_binOp, p_unOp, p_indexAddr, p_index, p_box, p_build, evParts, builtinV, load1, ldc, splice, minds, disj, rcOf, isCall, touchV, idsOf, mapId, touchB, p_buildSlice, buildSliceV, reps, fillV, p_convert, p_slice, evO, p_makeSlice, sid_some, soff_some, Nat.reduceLT, Nat.reduceLeDiff, Nat.reduceEqDiff, Nat.reduceAdd, Nat.reduceMul, Int.reduceBEq, Int.reduceEq, Int.reduceNeg, Int.reduceLT, Int.reduceLE, Int.reduceAdd, Int.reduceSub, Int.reduceMul, Int.reduceToNat, Int.reduceGT, Nat.reduceBEq, Nat.reducePow, Nat.reduceGT, reduceCtorEq, ↓reduceIte, t9, t10, t42, t43, t44, h5, hld, hw1, hcut3, hcp, hw2, hw3]
    refine hput.mono ?_
    rintro r3 _ rfl
    simp -dsimp (disch := first | with_reducible assumption | omega | (intro h_; cases h_; done) | (simp only [LN] <;> omega) | (simp only [LF]; done) | (repeat (first | with_reducible assumption | apply Ext.refl | apply Ext.app | (apply Ext.set <;> omega) | (refine Ext.trans ?_ (by assumption))))) only [AX, TY, gV, dstOf, p_makeFunc, p_mapUpdate, mapPut, entsOf, p_lookup, p_extract, p_nilCheck, oneV, p_load, p_store, p_binOp, p_unOp, p_indexAddr, p_index, p_box, p_build, evParts, builtinV, load1, ldc, splice, minds, disj, rcOf, isCall, touchV, idsOf, mapId, touchB, p_buildSlice, buildSliceV, reps, fillV, p_convert, p_slice, evO, p_makeSlice, sid_some, soff_some, Nat.reduceLT, Nat.reduceLeDiff, Nat.reduceEqDiff, Nat.reduceAdd, Nat.reduceMul, Int.reduceBEq, Int.reduceEq, Int.reduceNeg, Int.reduceLT, Int.reduceLE, Int.reduceAdd, Int.reduceSub, Int.reduceMul, Int.reduceToNat, Int.reduceGT, Nat.reduceBEq, Nat.reducePow, Nat.reduceGT, reduceCtorEq, ↓reduceIte, t9, t10, t42, t43, t44, wrap_in]
    refine ⟨m - 1, by omega, j + 1, by omega, ?_⟩
    subst h1024
    constructor <;> (try first | assumption | ((repeat (first | assumption | apply Ext.refl | apply Ext.app | (apply Ext.set <;> omega) | exact Ext.trans (by assumption) (by assumption) | (refine Ext.trans ?_ (by assumption)))); done) | (refine Sl.ext (by assumption) ?_; (repeat (first | assumption | apply Ext.refl | apply Ext.app | (apply Ext.set <;> omega) | exact Ext.trans (by assumption) (by assumption) | (refine Ext.trans ?_ (by assumption)))); done) | (simp -dsimp (disch := first | with_reducible assumption | omega | (intro h_; cases h_; done) | (simp only [LN] <;> omega) | (simp only [LF]; done) | (repeat (first | with_reducible assumption | apply Ext.refl | apply Ext.app | (apply Ext.set <;> omega) | (refine Ext.trans ?_ (by assumption))))) only [AX, TY, gV, dstOf, p_makeFunc, p_mapUpdate, mapPut, entsOf, p_lookup, p_extract, p_nilCheck, oneV, p_load, p_store, p_binOp, p_unOp, p_indexAddr, p_index, p_box, p_build, evParts, builtinV, load1, ldc, splice, minds, disj, rcOf, isCall, touchV, idsOf, mapId, touchB, p_buildSlice, buildSliceV, reps, fillV, p_convert, p_slice, evO, p_makeSlice, sid_some, soff_some, Nat.reduceLT, Nat.reduceLeDiff, Nat.reduceEqDiff, Nat.reduceAdd, Nat.reduceMul, Int.reduceBEq, Int.reduceEq, Int.reduceNeg, Int.reduceLT, Int.reduceLE, Int.reduceAdd, Int.reduceSub, Int.reduceMul, Int.reduceToNat, Int.reduceGT, Nat.reduceBEq, Nat.reducePow, Nat.reduceGT, reduceCtorEq, ↓reduceIte, t9, t10, t42, t43, t44, wrap_in, Int.natCast_add, Int.natCast_one, Int.natCast_zero]; try (first | assumption | with_reducible rfl)))
    all_goals first | (rw [h1020]; done) | rfl | (rw [h1020]) | skip
end Go.Proofs.YtopbmpdcmnhfdaaA
