/- Words of this session: chapter 22: slices.Delete at a slice of known capacity; the functions told by hand. -/
import Derived.Test.YtpmlphefdoaohaaAx34
import Derived.Test.YtpmlphefdoaohaaQO
import Derived.Test.YtpmlphefdoaohaaHk
namespace Go.Proofs.YtpmlphefdoaohaaA
open Go Go.Proofs Go.RowKit
set_option linter.unusedVariables false
set_option linter.unusedSimpArgs false
set_option maxRecDepth 10000
theorem set_self' {h : Heap} {id : Nat} {o : O} (hb : h[id]? = some o) : h.set id o = h := by
  have hlt := lt_of_some hb
  refine List.ext_getElem? fun j => ?_
  by_cases e : id = j
  · subst e; rw [List.getElem?_set_self hlt, hb]
  · rw [List.getElem?_set_ne e]
theorem clr_38 {h h' : Heap} {id off n : Nat} {c : Option Nat} (hn : 1 ≤ n) (hs : storeN h id off (List.replicate n [V.int .i64 0]).flatten = some h') : clearV Try.prog 38 (.slice (some (id, off)) n c) h = some (.tuple [], h') := by
  have u38 : Try.prog.underlying 38 = some (.slice 3) := by kernel_rfl
  have z3 : zerosT Try.prog 3 = some [.int .i64 0] := by kernel_rfl
  unfold clearV
  simp only [u38, z3]
  rw [if_neg (by omega)]
  unfold reps
  rw [hs]; rfl
theorem del_list {α : Type} {rows Z : List α} {i j : Nat} (hij : i < j) (hj : j ≤ rows.length) (hZ : Z.length = j - i) :
    (rows.take i ++ rows.drop j ++ rows.drop (i + (rows.length - j))).take (i + (rows.length - j)) ++ Z ++ (rows.take i ++ rows.drop j ++ rows.drop (i + (rows.length - j))).drop (i + (rows.length - j) + Z.length) = rows.take i ++ rows.drop j ++ Z := by
  have hl : (rows.take i ++ rows.drop j).length = i + (rows.length - j) := by rw [List.length_append, List.length_take, List.length_drop]; omega
  have e1 : (rows.take i ++ rows.drop j ++ rows.drop (i + (rows.length - j))).drop (i + (rows.length - j) + Z.length) = [] := List.drop_of_length_le (by rw [List.length_append, hl, List.length_drop]; omega)
  rw [List.take_left' hl, e1, List.append_nil]
theorem del_walk {h : Heap} {id c : Nat} {k : Kd} {A sp : List V} {rows : List (List V)} {i j : Nat} (hb : h[id]? = some (.cells (A ++ rows.flatten ++ sp) k)) (hk : k ≠ .ro) (hr : Wd 1 rows) (hl : rows.flatten.all V.leaf = true) (hij : i < j) (hj : j ≤ rows.length) (hc : rows.length ≤ c) (hs : rows.length ≤ 2 ^ 47) :
    WR (callE Try.prog hk0 28 [.slice (some (id, A.length)) rows.length (some c), .int .i64 i, .int .i64 j] h) fun r h' => r = .slice (some (id, A.length)) (i + (rows.length - j)) (some c) ∧ h' = h.set id (.cells (A ++ (rows.take i ++ rows.drop j ++ List.replicate (j - i) [V.int .i64 0]).flatten ++ sp) k) := by
  refine WR.call (hH := rfl) Try.func28 rfl (n := 33) rfl rfl (by simp) ?_
  obtain ⟨p1, hp1⟩ := cut3 (h := h) (sz := 1) (p := some (id, A.length)) (len := rows.length) (c := c) (k := .i64) (k' := .i64) (k'' := .i64) (a := (i : Int)) (b := (j : Int)) (m := (rows.length : Int)) (by omega) (by omega) (by omega) (by omega)
  have hd : decide ((i : Int) = (j : Int)) = false := decide_eq_false (by omega)
  have hlt := lt_of_some hb
  have hhi : sliceV h 1 (some (id, A.length)) rows.length (some c) none (some (.int .i64 (i : Int))) none = some (.slice (some (id, A.length)) i (some c)) := by
    rw [cutK_hi (by omega) (by omega), Int.toNat_natCast]
  have hwr : Wd 1 (rows.take i ++ rows.drop j ++ rows.drop (i + (rows.length - j))) := ((hr.take _).app (hr.drop _)).app (hr.drop _)
  obtain ⟨p2, c2, hp2, hap⟩ : ∃ p2 c2, sliceV h 1 (some (id, A.length)) rows.length (some c) (some (.int .i64 (j : Int))) none none = some (.slice p2 (rows.length - j) c2) ∧ apv 1 8 (some (id, A.length)) i (some c) (.slice p2 (rows.length - j) c2) (rows.length - j) h = some (.slice (some (id, A.length)) (i + (rows.length - j)) (some c), h.set id (.cells (A ++ (rows.take i ++ rows.drop j ++ rows.drop (i + (rows.length - j))).flatten ++ sp) k)) := by
    by_cases hjn : j = rows.length
    · obtain ⟨p2, hp2⟩ := cutK_any (h := h) (sz := 1) (p := some (id, A.length)) (len := rows.length) (c := c) (k := .i64) (a := (j : Int)) (by omega) (by omega) hc
      refine ⟨p2, _, by rw [hp2, Int.toNat_natCast], ?_⟩
      unfold apv
      rw [if_pos (by omega)]
      subst hjn
      simp only [Nat.sub_self, Nat.add_zero, List.drop_length, List.append_nil, List.take_append_drop]
      rw [set_self' hb]
    · refine ⟨_, _, by rw [cutK_lo (by omega) (by omega) hc (by omega), Int.toNat_natCast], ?_⟩
      have hq : h[id]? = some (.cells ((A ++ (rows.take j).flatten) ++ (rows.drop j).flatten ++ sp) k) := by
        have e : rows.flatten = (rows.take j).flatten ++ (rows.drop j).flatten := by rw [← List.flatten_append, List.take_append_drop]
        rw [hb, e]; simp only [List.append_assoc]
      have hQ : (A ++ (rows.take j).flatten).length = A.length + j * 1 := by rw [List.length_append, (hr.take j).len, List.length_take]; omega
      have hlen : (rows.drop j).length = rows.length - j := by rw [List.length_drop]
      have := apv_fits (sz := 1) (bytes := 8) (vc := some (c - j)) (n := i) (c := c) hb hk hr hq (hr.drop j) (flat_leaf hl fun r hr => List.mem_of_mem_drop hr) (by omega) (by omega) (by omega) (by omega)
      rw [hQ, hlen] at this
      exact this
  have hcl : sliceV (h.set id (.cells (A ++ (rows.take i ++ rows.drop j ++ rows.drop (i + (rows.length - j))).flatten ++ sp) k)) 1 (some (id, A.length)) (i + (rows.length - j)) (some c) (some (.int .i64 ((i + (rows.length - j) : Nat) : Int))) (some (.int .i64 (rows.length : Int))) none = some (.slice (some (id, A.length + (i + (rows.length - j)) * 1)) (rows.length - (i + (rows.length - j))) (some (c - (i + (rows.length - j))))) := by
    rw [cutK (by omega) (by omega) (by omega) (by omega), Int.toNat_natCast, Int.toNat_natCast]
  have hzl : (List.replicate (rows.length - (i + (rows.length - j))) [V.int .i64 0]).length = j - i := by rw [List.length_replicate]; omega
  have hst := storeN_rows (h := h.set id (.cells (A ++ (rows.take i ++ rows.drop j ++ rows.drop (i + (rows.length - j))).flatten ++ sp) k)) (a := i + (rows.length - j)) (M := List.replicate (rows.length - (i + (rows.length - j))) [V.int .i64 0]) (List.getElem?_set_self hlt) hk hwr (fun r hr => by rw [List.eq_of_mem_replicate hr]; rfl)
    (by rw [List.all_eq_true]; intro v hv; obtain ⟨r, hr, hv⟩ := List.mem_flatten.1 hv; rw [List.eq_of_mem_replicate hr] at hv; simp at hv; subst hv; rfl) (by simp; omega)
  rw [del_list hij hj hzl, List.set_set] at hst
  have hcv := clr_38 (c := some (c - (i + (rows.length - j)))) (by omega) hst
  simp -dsimp (disch := first | with_reducible assumption | omega | (intro h_; cases h_; done) | (simp only [LN] <;> omega) | (simp only [LF]; done) | (repeat (first | with_reducible assumption | apply Ext.refl | apply Ext.app | (apply Ext.set <;> omega) | (refine Ext.trans ?_ (by assumption))))) only [AX, TY, gV, dstOf, p_makeFunc, p_mapUpdate, mapPut, entsOf, p_lookup, p_extract, p_nilCheck, oneV, p_load, p_store, p_binOp, p_unOp, p_indexAddr, p_index, p_box, p_build, evParts, builtinV, load1, ldc, splice, minds, disj, rcOf, isCall, touchV, idsOf, mapId, touchB, p_buildSlice, buildSliceV, reps, fillV, p_convert, p_slice, evO, p_makeSlice, sid_some, soff_some, Nat.reduceLT, Nat.reduceLeDiff, Nat.reduceEqDiff, Nat.reduceAdd, Nat.reduceMul, Int.reduceBEq, Int.reduceEq, Int.reduceNeg, Int.reduceLT, Int.reduceLE, Int.reduceAdd, Int.reduceSub, Int.reduceMul, Int.reduceToNat, Int.reduceGT, Nat.reduceBEq, Nat.reducePow, Nat.reduceGT, reduceCtorEq, ↓reduceIte, hp1, hd]
  refine W.drawn [(0, []), (1, [0]), (2, []), (3, [2, 1, 0]), (4, [3, 2, 1, 0]), (5, [2, 1, 0]), (6, []), (7, [])] (by decide +kernel) ?_
  simp -dsimp (disch := first | with_reducible assumption | omega | (intro h_; cases h_; done) | (simp only [LN] <;> omega) | (simp only [LF]; done) | (repeat (first | with_reducible assumption | apply Ext.refl | apply Ext.app | (apply Ext.set <;> omega) | (refine Ext.trans ?_ (by assumption))))) only [AX, TY, gV, dstOf, p_makeFunc, p_mapUpdate, mapPut, entsOf, p_lookup, p_extract, p_nilCheck, oneV, p_load, p_store, p_binOp, p_unOp, p_indexAddr, p_index, p_box, p_build, evParts, builtinV, load1, ldc, splice, minds, disj, rcOf, isCall, touchV, idsOf, mapId, touchB, p_buildSlice, buildSliceV, reps, fillV, p_convert, p_slice, evO, p_makeSlice, sid_some, soff_some, Nat.reduceLT, Nat.reduceLeDiff, Nat.reduceEqDiff, Nat.reduceAdd, Nat.reduceMul, Int.reduceBEq, Int.reduceEq, Int.reduceNeg, Int.reduceLT, Int.reduceLE, Int.reduceAdd, Int.reduceSub, Int.reduceMul, Int.reduceToNat, Int.reduceGT, Nat.reduceBEq, Nat.reducePow, Nat.reduceGT, reduceCtorEq, ↓reduceIte, hhi, hp2, hap, hcl, hcv]
  rw [show rows.length - (i + (rows.length - j)) = j - i by omega]
theorem delW : DelW Try.prog hk0 28 1 [.int .i64 0] := fun hb hk hr hl hij hj hc hs => del_walk hb hk hr hl hij hj hc hs
noncomputable def hk : Hooks := fun f => if f = 27 then some (insHook 1 8 (callE Try.prog hk0 27)) else if f = 28 then some (delHook 1 (callE Try.prog hk0 28)) else if f = 46 then some (srtHook 2 Rid.enc Rid.dec cmpR 47 (callE Try.prog hk0 46)) else none
theorem hk_sound : SoundH Try.prog hk := by
  have hm : Try.prog.follows .mixedOrders = true := by kernel_rfl
  constructor
  · intro f g hf args h r q
    unfold hk at hf
    split at hf
    · cases hf; exact insHook_mono hm hk0_sound q
    · split at hf
      · cases hf; exact delHook_mono hm hk0_sound q
      · split at hf
        · cases hf; exact srtHook_mono hm hk0_sound q
        · cases hf
  · intro f g hf args h v h' q ι w A hr ha hfr
    unfold hk at hf
    split at hf
    · rename_i e
      cases hf; subst e
      exact insHook_goes hm named hk0_sound (Nat.le_refl 1) insW q ι w A hr ha hfr
    · split at hf
      · rename_i e
        cases hf; subst e
        exact delHook_goes hm named hk0_sound (Nat.le_refl 1) rfl (by intro v hv; simp at hv; subst hv; exact ⟨rfl, _, .int _ _⟩) delW q ι w A hr ha hfr
      · split at hf
        · rename_i e
          cases hf; subst e
          exact sort_goes q ι w A hr ha hfr
        · cases hf
theorem hk27 (args : List V) (h : Heap) : callE Try.prog hk 27 args h = insHook 1 8 (callE Try.prog hk0 27) args h := rfl
theorem hk28 (args : List V) (h : Heap) : callE Try.prog hk 28 args h = delHook 1 (callE Try.prog hk0 28) args h := rfl
theorem hk46 (args : List V) (h : Heap) : callE Try.prog hk 46 args h = srtHook 2 Rid.enc Rid.dec cmpR 47 (callE Try.prog hk0 46) args h := rfl
end Go.Proofs.YtpmlphefdoaohaaA
