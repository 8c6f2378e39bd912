/- Words of this session: chapter 14: slices.Replace at a slice of known capacity; the functions told by hand. -/
import Derived.Test.YtopbmpdcmnhfdaaAx39
import Derived.Test.YtopbmpdcmnhfdaaPA
import Derived.Test.YtopbmpdcmnhfdaaPB
import Derived.Test.YtopbmpdcmnhfdaaHk
namespace Go.Proofs.YtopbmpdcmnhfdaaA
open Go Go.Proofs Go.RowKit
set_option linter.unusedVariables false
set_option linter.unusedSimpArgs false
set_option maxRecDepth 10000
set_option maxHeartbeats 1000000
@[reducible] def zS : List V := [V.slice none 0 (some 0)]
theorem clr_s {h h' : Heap} {id off n : Nat} {c : Option Nat} (hn : 1 ≤ n) (hs : storeN h id off (List.replicate n zS).flatten = some h') : clearV Try.prog 22 (.slice (some (id, off)) n c) h = some (.tuple [], h') := by
  have u22 : Try.prog.underlying 22 = some (.slice 25) := by kernel_rfl
  have z25 : zerosT Try.prog 25 = some zS := by kernel_rfl
  unfold clearV
  simp only [u22, z25]
  rw [if_neg (by omega)]
  unfold reps
  rw [hs]; rfl
theorem clr_s0 {h : Heap} {p : Option (Nat × Nat)} {c : Option Nat} : clearV Try.prog 22 (.slice p 0 c) h = some (.tuple [], h) := by
  have u22 : Try.prog.underlying 22 = some (.slice 25) := by kernel_rfl
  have z25 : zerosT Try.prog 25 = some zS := by kernel_rfl
  unfold clearV
  simp only [u22, z25]
  cases p <;> simp
theorem rows_self {h : Heap} {id : Nat} {k : Kd} {A sp : List V} {rows : List (List V)} (hb : h[id]? = some (.cells (A ++ rows.flatten ++ sp) k)) (i : Nat) : h.set id (.cells (A ++ (rows.take i ++ [] ++ rows.drop i).flatten ++ sp) k) = h := by
  rw [List.append_nil, List.take_append_drop, set_self' hb]
theorem ap_vs {h : Heap} {id c : Nat} {k : Kd} {A sp : List V} {rows M : List (List V)} {vp : Option (Nat × Nat)} {vc : Option Nat} {i : Nat} (hb : h[id]? = some (.cells (A ++ rows.flatten ++ sp) k)) (hk : k ≠ .ro) (hr : Wd 1 rows) (hv : VS h id vp M) (hM : Wd 1 M) (hlM : M.flatten.all V.leaf = true) (hi : i + M.length ≤ rows.length) (hc : rows.length ≤ c) (hs : rows.length ≤ 2 ^ 47) :
    apv 1 24 (some (id, A.length)) i (some c) (.slice vp M.length vc) M.length h = some (.slice (some (id, A.length)) (i + M.length) (some c), h.set id (.cells (A ++ (rows.take i ++ M ++ rows.drop (i + M.length)).flatten ++ sp) k)) := by
  rcases hv with ⟨rfl, rfl⟩ | ⟨q, QA, QB, rfl, hq, hne, h1⟩
  · rw [List.length_nil, Nat.add_zero, rows_self hb]
    unfold apv
    rw [if_pos (by omega)]
  · exact apv_fits hb hk hr hq hM hlM hi h1 (by omega) (by omega)
theorem cp_vs {h : Heap} {id dl : Nat} {k : Kd} {A sp : List V} {rows M : List (List V)} {vp : Option (Nat × Nat)} {vc : Option Nat} {i : Nat} (hb : h[id]? = some (.cells (A ++ rows.flatten ++ sp) k)) (hk : k ≠ .ro) (hr : Wd 1 rows) (hv : VS h id vp M) (hM : Wd 1 M) (hlM : M.flatten.all V.leaf = true) (hd : i + dl ≤ rows.length) (hle : M.length ≤ dl) :
    cpv 1 (some (id, A.length + i * 1)) dl (.slice vp M.length vc) M.length h = some (.int .i64 M.length, h.set id (.cells (A ++ (rows.take i ++ M ++ rows.drop (i + M.length)).flatten ++ sp) k)) := by
  rcases hv with ⟨rfl, rfl⟩ | ⟨q, QA, QB, rfl, hq, hne, h1⟩
  · rw [List.length_nil, Nat.add_zero, rows_self hb]
    unfold cpv
    simp [firstV]
  · have := copy_rows (a := i) (b := 0) (dl := dl) (xl := M.length) (xc := vc) (Nat.le_refl 1) hb hk hr hq hM hd (by omega) hle (by simpa using hlM)
    simpa using this
theorem rep_list {α : Type} {rows M Z : List α} {i j : Nat} (hj : j ≤ rows.length) (hij : i + M.length ≤ j) (hZ : Z.length = j - (i + M.length)) :
    (rows.take i ++ M ++ rows.drop j ++ (rows.take i ++ M ++ rows.drop (i + M.length)).drop (i + M.length + (rows.length - j))).take (i + M.length + (rows.length - j)) ++ Z ++ (rows.take i ++ M ++ rows.drop j ++ (rows.take i ++ M ++ rows.drop (i + M.length)).drop (i + M.length + (rows.length - j))).drop (i + M.length + (rows.length - j) + Z.length) = rows.take i ++ M ++ rows.drop j ++ Z := by
  have hl : (rows.take i ++ M ++ rows.drop j).length = i + M.length + (rows.length - j) := by simp only [List.length_append, List.length_take, List.length_drop]; omega
  rw [List.take_left' hl]
  have e1 : (rows.take i ++ M ++ rows.drop j ++ (rows.take i ++ M ++ rows.drop (i + M.length)).drop (i + M.length + (rows.length - j))).drop (i + M.length + (rows.length - j) + Z.length) = [] := List.drop_of_length_le (by rw [List.length_append, hl, List.length_drop]; simp only [List.length_append, List.length_take, List.length_drop]; omega)
  rw [e1, List.append_nil]
theorem rep_list2 {α : Type} {rows M : List α} {i j : Nat} (hj : j ≤ rows.length) (hij : i + M.length ≤ j) :
    (rows.take i ++ M ++ rows.drop (i + M.length)).take (i + M.length) ++ ((rows.take i ++ M ++ rows.drop (i + M.length)).drop j).take (rows.length - j) ++ (rows.take i ++ M ++ rows.drop (i + M.length)).drop (i + M.length + (rows.length - j)) = rows.take i ++ M ++ rows.drop j ++ (rows.take i ++ M ++ rows.drop (i + M.length)).drop (i + M.length + (rows.length - j)) := by
  have hl : (rows.take i ++ M).length = i + M.length := by simp only [List.length_append, List.length_take]; omega
  have e1 : (rows.take i ++ M ++ rows.drop (i + M.length)).drop j = rows.drop j := by
    rw [List.drop_append, List.drop_of_length_le (by omega), List.nil_append, List.drop_drop]; congr 1; omega
  rw [List.take_left' hl, e1, show (rows.drop j).take (rows.length - j) = rows.drop j from List.take_of_length_le (by rw [List.length_drop]; omega)]
theorem zs_w (n : Nat) : Wd 1 (List.replicate n zS) := fun r hr => by rw [List.eq_of_mem_replicate hr]; rfl
theorem zs_l (n : Nat) : (List.replicate n zS).flatten.all V.leaf = true := by
  rw [List.all_eq_true]
  intro v hv
  obtain ⟨r, hr, hv⟩ := List.mem_flatten.1 hv
  rw [List.eq_of_mem_replicate hr] at hv
  simp only [List.mem_singleton] at hv
  subst hv; rfl
noncomputable def hk1 : Hooks := fun f => if f = 55 then some (insHook 1 24 (callE Try.prog hk0 55)) else none
theorem hk1_sound : SoundH Try.prog hk1 := by
  have hm : Try.prog.follows .mixedOrders = true := by kernel_rfl
  constructor
  · intro f g hf args h r q
    unfold hk1 at hf
    split at hf
    · cases hf; exact insHook_mono hm hk0_sound q
    · cases hf
  · intro f g hf args h v h' q ι w A hr ha hfr
    unfold hk1 at hf
    split at hf
    · rename_i e
      cases hf; subst e
      exact insHook_goes hm named hk0_sound (Nat.le_refl 1) insW q ι w A hr ha hfr
    · cases hf
theorem hk1_55 (args : List V) (h : Heap) : callE Try.prog hk1 55 args h = insHook 1 24 (callE Try.prog hk0 55) args h := rfl
theorem rep_walk {h : Heap} {id c : Nat} {k : Kd} {A sp : List V} {rows M : List (List V)} {vp : Option (Nat × Nat)} {vc : Option Nat} {i j : Nat} (hb : h[id]? = some (.cells (A ++ rows.flatten ++ sp) k)) (hk : k ≠ .ro) (hr : Wd 1 rows) (hl : rows.flatten.all V.leaf = true) (hv : VS h id vp M) (hM : Wd 1 M) (hlM : M.flatten.all V.leaf = true) (hvn : vp = none → vc = some 0)
    (hij : i < j) (hj : j ≤ rows.length) (hmj : i + M.length ≤ j) (hc : rows.length ≤ c) (hs : rows.length ≤ 2 ^ 47) :
    WR (callE Try.prog hk1 53 [.slice (some (id, A.length)) rows.length (some c), .int .i64 i, .int .i64 j, .slice vp M.length vc] h) fun r h' => r = .slice (some (id, A.length)) (i + M.length + (rows.length - j)) (some c) ∧ h' = h.set id (.cells (A ++ (rows.take i ++ M ++ rows.drop j ++ List.replicate (j - (i + M.length)) zS).flatten ++ sp) k) := by
  refine WR.call (hH := rfl) Try.func53 rfl (n := 224) rfl rfl (by simp) ?_
  have hd : ¬ (i : Int) = (j : Int) := by omega
  have u22 : Try.prog.underlying 22 = some (.slice 25) := by kernel_rfl
  have hlt := lt_of_some hb
  have hcij : sliceV h 1 (some (id, A.length)) rows.length (some c) (some (.int .i64 (i : Int))) (some (.int .i64 (j : Int))) none = some (.slice (some (id, A.length + i * 1)) (j - i) (some (c - i))) := by
    rw [cutK (by omega) (by omega) (by omega) (by omega), Int.toNat_natCast, Int.toNat_natCast]
  have hhi : sliceV h 1 (some (id, A.length)) rows.length (some c) none (some (.int .i64 (i : Int))) none = some (.slice (some (id, A.length)) i (some c)) := by
    rw [cutK_hi (by omega) (by omega), Int.toNat_natCast]
  have hwR1 : Wd 1 (rows.take i ++ M ++ rows.drop (i + M.length)) := ((hr.take _).app hM).app (hr.drop _)
  have hlR1 : (rows.take i ++ M ++ rows.drop (i + M.length)).length = rows.length := by simp only [List.length_append, List.length_take, List.length_drop]; omega
  by_cases hjn : j = rows.length
  · have hap := ap_vs (vc := vc) hb hk hr hv hM hlM (i := i) (by omega) hc hs
    have hdj : (j : Int) = (rows.length : Int) := by omega
    by_cases hm : i + M.length < rows.length
    · have hd2 : ((i + M.length : Nat) : Int) < (rows.length : Int) := by omega
      have hcl : sliceV (h.set id (.cells (A ++ (rows.take i ++ M ++ rows.drop (i + M.length)).flatten ++ sp) k)) 1 (some (id, A.length)) rows.length (some c) (some (.int .i64 ((i + M.length : Nat) : Int))) none none = some (.slice (some (id, A.length + (i + M.length) * 1)) (rows.length - (i + M.length)) (some (c - (i + M.length)))) := by
        rw [cutK_lo (by omega) (by omega) hc (by omega), Int.toNat_natCast]
      have hst := storeN_rows (h := h.set id (.cells (A ++ (rows.take i ++ M ++ rows.drop (i + M.length)).flatten ++ sp) k)) (a := i + M.length) (M := List.replicate (rows.length - (i + M.length)) zS) (List.getElem?_set_self hlt) hk hwR1 (zs_w _) (zs_l _) (by rw [hlR1, List.length_replicate]; omega)
      have hfin : (rows.take i ++ M ++ rows.drop (i + M.length)).take (i + M.length) ++ List.replicate (rows.length - (i + M.length)) zS ++ (rows.take i ++ M ++ rows.drop (i + M.length)).drop (i + M.length + (List.replicate (rows.length - (i + M.length)) zS).length) = rows.take i ++ M ++ rows.drop j ++ List.replicate (j - (i + M.length)) zS := by
        have hl2 : (rows.take i ++ M).length = i + M.length := by simp only [List.length_append, List.length_take]; omega
        rw [List.take_left' hl2, List.drop_of_length_le (by rw [hlR1, List.length_replicate]; omega), List.append_nil, List.drop_of_length_le (show rows.length ≤ j by omega), List.append_nil, hjn]
      rw [hfin, List.set_set] at hst
      have hcv := clr_s (c := some (c - (i + M.length))) (by omega) hst
      have e0 : rows.length - j = 0 := by omega
      simp -dsimp (disch := first | with_reducible assumption | omega | (intro h_; cases h_; done) | (simp only [LN] <;> omega) | (simp only [LF]; done) | (repeat (first | with_reducible assumption | apply Ext.refl | apply Ext.app | (apply Ext.set <;> omega) | (refine Ext.trans ?_ (by assumption))))) only [AX, TY, gV, dstOf, p_makeFunc, p_mapUpdate, mapPut, entsOf, p_lookup, p_extract, p_nilCheck, oneV, p_load, p_store, p_binOp, p_unOp, p_indexAddr, p_index, p_box, p_build, evParts, builtinV, load1, ldc, splice, minds, disj, rcOf, isCall, touchV, idsOf, mapId, touchB, p_buildSlice, buildSliceV, reps, fillV, p_convert, p_slice, evO, p_makeSlice, sid_some, soff_some, Nat.reduceLT, Nat.reduceLeDiff, Nat.reduceEqDiff, Nat.reduceAdd, Nat.reduceMul, Int.reduceBEq, Int.reduceEq, Int.reduceNeg, Int.reduceLT, Int.reduceLE, Int.reduceAdd, Int.reduceSub, Int.reduceMul, Int.reduceToNat, Int.reduceGT, Nat.reduceBEq, Nat.reducePow, Nat.reduceGT, reduceCtorEq, ↓reduceIte, hcij, hd, eq_true hdj, hhi, hap, eq_true hd2, hcl, hcv]
      rw [e0]; rfl
    · have hd2 : ¬ ((i + M.length : Nat) : Int) < (rows.length : Int) := by omega
      have e0 : rows.length - j = 0 := by omega
      have e1 : j - (i + M.length) = 0 := by omega
      have e2 : rows.drop (i + M.length) = [] := List.drop_of_length_le (by omega)
      have e3 : rows.drop j = [] := List.drop_of_length_le (by omega)
      simp -dsimp (disch := first | with_reducible assumption | omega | (intro h_; cases h_; done) | (simp only [LN] <;> omega) | (simp only [LF]; done) | (repeat (first | with_reducible assumption | apply Ext.refl | apply Ext.app | (apply Ext.set <;> omega) | (refine Ext.trans ?_ (by assumption))))) only [AX, TY, gV, dstOf, p_makeFunc, p_mapUpdate, mapPut, entsOf, p_lookup, p_extract, p_nilCheck, oneV, p_load, p_store, p_binOp, p_unOp, p_indexAddr, p_index, p_box, p_build, evParts, builtinV, load1, ldc, splice, minds, disj, rcOf, isCall, touchV, idsOf, mapId, touchB, p_buildSlice, buildSliceV, reps, fillV, p_convert, p_slice, evO, p_makeSlice, sid_some, soff_some, Nat.reduceLT, Nat.reduceLeDiff, Nat.reduceEqDiff, Nat.reduceAdd, Nat.reduceMul, Int.reduceBEq, Int.reduceEq, Int.reduceNeg, Int.reduceLT, Int.reduceLE, Int.reduceAdd, Int.reduceSub, Int.reduceMul, Int.reduceToNat, Int.reduceGT, Nat.reduceBEq, Nat.reducePow, Nat.reduceGT, reduceCtorEq, ↓reduceIte, hcij, hd, eq_true hdj, hhi, hap, hd2]
      rw [e0, e1, e2, e3]
      simp
  · have hdj : ¬ (j : Int) = (rows.length : Int) := by omega
    have hclj : ∀ g : Heap, sliceV g 1 (some (id, A.length)) rows.length (some c) (some (.int .i64 (j : Int))) none none = some (.slice (some (id, A.length + j * 1)) (rows.length - j) (some (c - j))) := fun g => by
      rw [cutK_lo (by omega) (by omega) hc (by omega), Int.toNat_natCast]
    have hw1 : IntKind.i64.wrap ((i : Int) + (M.length : Int)) = ((i + M.length : Nat) : Int) := by rw [IntKind.wrap_i64]; omega
    have hw2 : IntKind.i64.wrap (((i + M.length : Nat) : Int) + ((rows.length - j : Nat) : Int)) = ((i + M.length + (rows.length - j) : Nat) : Int) := by rw [IntKind.wrap_i64]; omega
    have hg : ¬ (c : Int) < ((i + M.length + (rows.length - j) : Nat) : Int) := by omega
    have hd3 : ((i + M.length : Nat) : Int) ≤ (j : Int) := by omega
    have hht : sliceV h 1 (some (id, A.length)) rows.length (some c) none (some (.int .i64 ((i + M.length + (rows.length - j) : Nat) : Int))) none = some (.slice (some (id, A.length)) (i + M.length + (rows.length - j)) (some c)) := by
      rw [cutK_hi (by omega) (by omega), Int.toNat_natCast]
    have hlo : ∀ (g : Heap) (a : Nat), a ≤ i + M.length + (rows.length - j) → a < c → sliceV g 1 (some (id, A.length)) (i + M.length + (rows.length - j)) (some c) (some (.int .i64 (a : Int))) none none = some (.slice (some (id, A.length + a * 1)) (i + M.length + (rows.length - j) - a) (some (c - a))) := fun g a h1 h2 => by
      rw [cutK_lo (by omega) (by omega) (by omega) (by omega)]; simp
    have h1 := hlo h i (by omega) (by omega)
    have hcp1 := cp_vs (vc := vc) (i := i) (dl := i + M.length + (rows.length - j) - i) hb hk hr hv hM hlM (by omega) (by omega)
    have h2 := hlo (h.set id (.cells (A ++ (rows.take i ++ M ++ rows.drop (i + M.length)).flatten ++ sp) k)) (i + M.length) (by omega) (by omega)
    have hb1 : (h.set id (.cells (A ++ (rows.take i ++ M ++ rows.drop (i + M.length)).flatten ++ sp) k))[id]? = some (.cells (A ++ (rows.take i ++ M ++ rows.drop (i + M.length)).flatten ++ sp) k) := List.getElem?_set_self hlt
    have hR1l : (rows.take i ++ M ++ rows.drop (i + M.length)).flatten.all V.leaf = true := by
      simp only [List.flatten_append, List.all_append, hlM, Bool.and_true, Bool.and_eq_true]
      exact ⟨flat_leaf hl fun r hr => List.mem_of_mem_take hr, flat_leaf hl fun r hr => List.mem_of_mem_drop hr⟩
    have hcp2 := copy_rows (a := i + M.length) (b := j) (dl := i + M.length + (rows.length - j) - (i + M.length)) (xl := rows.length - j) (xc := some (c - j)) (Nat.le_refl 1) hb1 hk hwR1 hb1 hwR1 (by rw [hlR1]; omega) (by rw [hlR1]; omega) (by omega) (flat_leaf hR1l fun r hr => List.mem_of_mem_drop (List.mem_of_mem_take hr))
    rw [rep_list2 hj hmj, List.set_set, Nat.add_sub_cancel_left] at hcp2
    rw [Nat.add_sub_cancel_left] at h2
    have hwR2 : Wd 1 (rows.take i ++ M ++ rows.drop j ++ (rows.take i ++ M ++ rows.drop (i + M.length)).drop (i + M.length + (rows.length - j))) := (((hr.take _).app hM).app (hr.drop _)).app (hwR1.drop _)
    have hlR2 : (rows.take i ++ M ++ rows.drop j ++ (rows.take i ++ M ++ rows.drop (i + M.length)).drop (i + M.length + (rows.length - j))).length = rows.length := by
      rw [List.length_append, List.length_drop, hlR1]; simp only [List.length_append, List.length_take, List.length_drop]; omega
    have hzl : (List.replicate (j - (i + M.length)) zS).length = j - (i + M.length) := List.length_replicate
    have hfin := rep_list (rows := rows) (M := M) (Z := List.replicate (j - (i + M.length)) zS) hj hmj hzl
    by_cases hz : i + M.length = j
    · obtain ⟨p9, hp9⟩ := cutK_any (h := h.set id (.cells (A ++ (rows.take i ++ M ++ rows.drop j ++ (rows.take i ++ M ++ rows.drop (i + M.length)).drop (i + M.length + (rows.length - j))).flatten ++ sp) k)) (sz := 1) (p := some (id, A.length)) (len := rows.length) (c := c) (k := .i64) (a := ((i + M.length + (rows.length - j) : Nat) : Int)) (by omega) (by omega) hc
      rw [Int.toNat_natCast, show rows.length - (i + M.length + (rows.length - j)) = 0 by omega] at hp9
      simp -dsimp (disch := first | with_reducible assumption | omega | (intro h_; cases h_; done) | (simp only [LN] <;> omega) | (simp only [LF]; done) | (repeat (first | with_reducible assumption | apply Ext.refl | apply Ext.app | (apply Ext.set <;> omega) | (refine Ext.trans ?_ (by assumption))))) only [AX, TY, gV, dstOf, p_makeFunc, p_mapUpdate, mapPut, entsOf, p_lookup, p_extract, p_nilCheck, oneV, p_load, p_store, p_binOp, p_unOp, p_indexAddr, p_index, p_box, p_build, evParts, builtinV, load1, ldc, splice, minds, disj, rcOf, isCall, touchV, idsOf, mapId, touchB, p_buildSlice, buildSliceV, reps, fillV, p_convert, p_slice, evO, p_makeSlice, sid_some, soff_some, Nat.reduceLT, Nat.reduceLeDiff, Nat.reduceEqDiff, Nat.reduceAdd, Nat.reduceMul, Int.reduceBEq, Int.reduceEq, Int.reduceNeg, Int.reduceLT, Int.reduceLE, Int.reduceAdd, Int.reduceSub, Int.reduceMul, Int.reduceToNat, Int.reduceGT, Nat.reduceBEq, Nat.reducePow, Nat.reduceGT, reduceCtorEq, ↓reduceIte, hcij, hd, hdj]
      refine W.drawn [(0, []), (1, [0]), (2, []), (3, []), (4, [3, 2, 1, 0]), (5, [3, 2, 1, 0]), (6, []), (7, [6, 5, 4, 3, 2, 1, 0]), (8, [7, 6, 5, 4, 3, 2, 1, 0]), (9, [6, 5, 4, 3, 2, 1, 0]), (10, [6, 5, 4, 3, 2, 1, 0]), (11, []), (12, [])] (by decide +kernel) ?_
      simp -dsimp (disch := first | with_reducible assumption | omega | (intro h_; cases h_; done) | (simp only [LN] <;> omega) | (simp only [LF]; done) | (repeat (first | with_reducible assumption | apply Ext.refl | apply Ext.app | (apply Ext.set <;> omega) | (refine Ext.trans ?_ (by assumption))))) only [AX, TY, gV, dstOf, p_makeFunc, p_mapUpdate, mapPut, entsOf, p_lookup, p_extract, p_nilCheck, oneV, p_load, p_store, p_binOp, p_unOp, p_indexAddr, p_index, p_box, p_build, evParts, builtinV, load1, ldc, splice, minds, disj, rcOf, isCall, touchV, idsOf, mapId, touchB, p_buildSlice, buildSliceV, reps, fillV, p_convert, p_slice, evO, p_makeSlice, sid_some, soff_some, Nat.reduceLT, Nat.reduceLeDiff, Nat.reduceEqDiff, Nat.reduceAdd, Nat.reduceMul, Int.reduceBEq, Int.reduceEq, Int.reduceNeg, Int.reduceLT, Int.reduceLE, Int.reduceAdd, Int.reduceSub, Int.reduceMul, Int.reduceToNat, Int.reduceGT, Nat.reduceBEq, Nat.reducePow, Nat.reduceGT, reduceCtorEq, ↓reduceIte, u22, hhi, hclj, hw1, hw2, hg, hht, hd3, h1, hcp1]
      refine W.drawn [(0, []), (1, [0]), (2, [1, 0]), (3, [1, 0]), (4, [0]), (5, []), (6, [5, 4, 3, 2, 1, 0]), (7, [6, 5, 4, 3, 2, 1, 0]), (8, [5, 4, 3, 2, 1, 0]), (9, [])] (by decide +kernel) ?_
      simp -dsimp (disch := first | with_reducible assumption | omega | (intro h_; cases h_; done) | (simp only [LN] <;> omega) | (simp only [LF]; done) | (repeat (first | with_reducible assumption | apply Ext.refl | apply Ext.app | (apply Ext.set <;> omega) | (refine Ext.trans ?_ (by assumption))))) only [AX, TY, gV, dstOf, p_makeFunc, p_mapUpdate, mapPut, entsOf, p_lookup, p_extract, p_nilCheck, oneV, p_load, p_store, p_binOp, p_unOp, p_indexAddr, p_index, p_box, p_build, evParts, builtinV, load1, ldc, splice, minds, disj, rcOf, isCall, touchV, idsOf, mapId, touchB, p_buildSlice, buildSliceV, reps, fillV, p_convert, p_slice, evO, p_makeSlice, sid_some, soff_some, Nat.reduceLT, Nat.reduceLeDiff, Nat.reduceEqDiff, Nat.reduceAdd, Nat.reduceMul, Int.reduceBEq, Int.reduceEq, Int.reduceNeg, Int.reduceLT, Int.reduceLE, Int.reduceAdd, Int.reduceSub, Int.reduceMul, Int.reduceToNat, Int.reduceGT, Nat.reduceBEq, Nat.reducePow, Nat.reduceGT, reduceCtorEq, ↓reduceIte, hw1, h2, hclj, hcp2, hp9, clr_s0]
      have e1 : j - (i + M.length) = 0 := by omega
      have e2 : (rows.take i ++ M ++ rows.drop (i + M.length)).drop (i + M.length + (rows.length - j)) = [] := List.drop_of_length_le (by rw [hlR1]; omega)
      rw [e1, e2]; simp
    · have hcl : sliceV (h.set id (.cells (A ++ (rows.take i ++ M ++ rows.drop j ++ (rows.take i ++ M ++ rows.drop (i + M.length)).drop (i + M.length + (rows.length - j))).flatten ++ sp) k)) 1 (some (id, A.length)) rows.length (some c) (some (.int .i64 ((i + M.length + (rows.length - j) : Nat) : Int))) none none = some (.slice (some (id, A.length + (i + M.length + (rows.length - j)) * 1)) (rows.length - (i + M.length + (rows.length - j))) (some (c - (i + M.length + (rows.length - j))))) := by
        rw [cutK_lo (by omega) (by omega) hc (by omega), Int.toNat_natCast]
      have hst := storeN_rows (h := h.set id (.cells (A ++ (rows.take i ++ M ++ rows.drop j ++ (rows.take i ++ M ++ rows.drop (i + M.length)).drop (i + M.length + (rows.length - j))).flatten ++ sp) k)) (a := i + M.length + (rows.length - j)) (M := List.replicate (j - (i + M.length)) zS) (List.getElem?_set_self hlt) hk hwR2 (zs_w _) (zs_l _) (by rw [hlR2, hzl]; omega)
      rw [hfin, List.set_set] at hst
      have hnn : rows.length - (i + M.length + (rows.length - j)) = j - (i + M.length) := by omega
      rw [hnn] at hcl
      have hcv := clr_s (c := some (c - (i + M.length + (rows.length - j)))) (by omega) hst
      simp -dsimp (disch := first | with_reducible assumption | omega | (intro h_; cases h_; done) | (simp only [LN] <;> omega) | (simp only [LF]; done) | (repeat (first | with_reducible assumption | apply Ext.refl | apply Ext.app | (apply Ext.set <;> omega) | (refine Ext.trans ?_ (by assumption))))) only [AX, TY, gV, dstOf, p_makeFunc, p_mapUpdate, mapPut, entsOf, p_lookup, p_extract, p_nilCheck, oneV, p_load, p_store, p_binOp, p_unOp, p_indexAddr, p_index, p_box, p_build, evParts, builtinV, load1, ldc, splice, minds, disj, rcOf, isCall, touchV, idsOf, mapId, touchB, p_buildSlice, buildSliceV, reps, fillV, p_convert, p_slice, evO, p_makeSlice, sid_some, soff_some, Nat.reduceLT, Nat.reduceLeDiff, Nat.reduceEqDiff, Nat.reduceAdd, Nat.reduceMul, Int.reduceBEq, Int.reduceEq, Int.reduceNeg, Int.reduceLT, Int.reduceLE, Int.reduceAdd, Int.reduceSub, Int.reduceMul, Int.reduceToNat, Int.reduceGT, Nat.reduceBEq, Nat.reducePow, Nat.reduceGT, reduceCtorEq, ↓reduceIte, hcij, hd, hdj]
      refine W.drawn [(0, []), (1, [0]), (2, []), (3, []), (4, [3, 2, 1, 0]), (5, [3, 2, 1, 0]), (6, []), (7, [6, 5, 4, 3, 2, 1, 0]), (8, [7, 6, 5, 4, 3, 2, 1, 0]), (9, [6, 5, 4, 3, 2, 1, 0]), (10, [6, 5, 4, 3, 2, 1, 0]), (11, []), (12, [])] (by decide +kernel) ?_
      simp -dsimp (disch := first | with_reducible assumption | omega | (intro h_; cases h_; done) | (simp only [LN] <;> omega) | (simp only [LF]; done) | (repeat (first | with_reducible assumption | apply Ext.refl | apply Ext.app | (apply Ext.set <;> omega) | (refine Ext.trans ?_ (by assumption))))) only [AX, TY, gV, dstOf, p_makeFunc, p_mapUpdate, mapPut, entsOf, p_lookup, p_extract, p_nilCheck, oneV, p_load, p_store, p_binOp, p_unOp, p_indexAddr, p_index, p_box, p_build, evParts, builtinV, load1, ldc, splice, minds, disj, rcOf, isCall, touchV, idsOf, mapId, touchB, p_buildSlice, buildSliceV, reps, fillV, p_convert, p_slice, evO, p_makeSlice, sid_some, soff_some, Nat.reduceLT, Nat.reduceLeDiff, Nat.reduceEqDiff, Nat.reduceAdd, Nat.reduceMul, Int.reduceBEq, Int.reduceEq, Int.reduceNeg, Int.reduceLT, Int.reduceLE, Int.reduceAdd, Int.reduceSub, Int.reduceMul, Int.reduceToNat, Int.reduceGT, Nat.reduceBEq, Nat.reducePow, Nat.reduceGT, reduceCtorEq, ↓reduceIte, u22, hhi, hclj, hw1, hw2, hg, hht, hd3, h1, hcp1]
      refine W.drawn [(0, []), (1, [0]), (2, [1, 0]), (3, [1, 0]), (4, [0]), (5, []), (6, [5, 4, 3, 2, 1, 0]), (7, [6, 5, 4, 3, 2, 1, 0]), (8, [5, 4, 3, 2, 1, 0]), (9, [])] (by decide +kernel) ?_
      simp -dsimp (disch := first | with_reducible assumption | omega | (intro h_; cases h_; done) | (simp only [LN] <;> omega) | (simp only [LF]; done) | (repeat (first | with_reducible assumption | apply Ext.refl | apply Ext.app | (apply Ext.set <;> omega) | (refine Ext.trans ?_ (by assumption))))) only [AX, TY, gV, dstOf, p_makeFunc, p_mapUpdate, mapPut, entsOf, p_lookup, p_extract, p_nilCheck, oneV, p_load, p_store, p_binOp, p_unOp, p_indexAddr, p_index, p_box, p_build, evParts, builtinV, load1, ldc, splice, minds, disj, rcOf, isCall, touchV, idsOf, mapId, touchB, p_buildSlice, buildSliceV, reps, fillV, p_convert, p_slice, evO, p_makeSlice, sid_some, soff_some, Nat.reduceLT, Nat.reduceLeDiff, Nat.reduceEqDiff, Nat.reduceAdd, Nat.reduceMul, Int.reduceBEq, Int.reduceEq, Int.reduceNeg, Int.reduceLT, Int.reduceLE, Int.reduceAdd, Int.reduceSub, Int.reduceMul, Int.reduceToNat, Int.reduceGT, Nat.reduceBEq, Nat.reducePow, Nat.reduceGT, reduceCtorEq, ↓reduceIte, hw1, h2, hclj, hcp2, hcl, hcv]
theorem repW : RepW Try.prog hk1 53 1 zS := fun hb hk hr hl hv hM hlM hvn hij hj hmj hc hs => rep_walk hb hk hr hl hv hM hlM hvn hij hj hmj hc hs
noncomputable def hk : Hooks := fun f => if f = 55 then some (insHook 1 24 (callE Try.prog hk0 55)) else if f = 53 then some (repHook 1 (callE Try.prog hk1 53)) else none
theorem hk_sound : SoundH Try.prog hk := by
  have hm : Try.prog.follows .mixedOrders = true := by kernel_rfl
  constructor
  · intro f g hf args h r q
    unfold hk at hf
    split at hf
    · cases hf; exact insHook_mono hm hk0_sound q
    · split at hf
      · cases hf; exact repHook_mono hm hk1_sound q
      · cases hf
  · intro f g hf args h v h' q ι w A hr ha hfr
    unfold hk at hf
    split at hf
    · rename_i e
      cases hf; subst e
      exact insHook_goes hm named hk0_sound (Nat.le_refl 1) insW q ι w A hr ha hfr
    · split at hf
      · rename_i e
        cases hf; subst e
        exact repHook_goes hm named hk1_sound (Nat.le_refl 1) rfl (by intro v hv; simp only [List.mem_singleton] at hv; subst hv; exact ⟨rfl, _, .sliceN⟩) repW q ι w A hr ha hfr
      · cases hf
theorem hk_53 (args : List V) (h : Heap) : callE Try.prog hk 53 args h = repHook 1 (callE Try.prog hk1 53) args h := rfl
end Go.Proofs.YtopbmpdcmnhfdaaA
