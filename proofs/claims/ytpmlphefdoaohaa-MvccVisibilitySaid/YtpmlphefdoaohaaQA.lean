/- Words of this session: chapter 22: slices.Insert at a slice of known capacity. -/
import Derived.Test.YtpmlphefdoaohaaAx33
import Derived.Test.YtpmlphefdoaohaaAxR
import Derived.Test.YtpmlphefdoaohaaTy
namespace Go.Proofs.YtpmlphefdoaohaaA
open Go Go.Proofs Go.RowKit
set_option linter.unusedVariables false
set_option linter.unusedSimpArgs false
set_option maxRecDepth 10000
noncomputable def hk0 : Hooks := fun f => if f = 40 then some ovHook else none
theorem hk0_sound : SoundH Try.prog hk0 := by
  constructor
  · intro f g hf args h r q
    unfold hk0 at hf
    split at hf
    · cases hf; exact ovHook_mono q
    · cases hf
  · intro f g hf args h v h' q ι w A hr ha hfr
    unfold hk0 at hf
    split at hf
    · rename_i e
      cases hf; subst e
      exact ovHook_goes (tS := 38) (tR := 4) (e := 3) (size := 1) Try.func40 (by kernel_rfl) (by kernel_rfl) (by kernel_rfl) (by kernel_rfl) (by kernel_rfl) (by kernel_rfl) q ι w A hr ha hfr
    · cases hf
theorem cpv_min {sz dl xl : Nat} {p q : Option (Nat × Nat)} {c : Option Nat} {h : Heap} (hd : dl ≤ xl) : cpv sz p dl (.slice q xl c) xl h = cpv sz p dl (.slice q dl c) dl h := by
  unfold cpv
  rw [show Nat.min xl dl = dl from Nat.min_eq_right hd, show Nat.min dl dl = dl from Nat.min_self _]
  cases q <;> rfl
/-- What append gives at a slice of known capacity. -/
theorem apv_fits {h : Heap} {id c q sz bytes : Nat} {k k' : Kd} {A B QA QB : List V} {rows M : List (List V)} {vc : Option Nat} (hb : h[id]? = some (.cells (A ++ rows.flatten ++ B) k)) (hk : k ≠ .ro) (hr : Wd sz rows)
    (hq : h[q]? = some (.cells (QA ++ M.flatten ++ QB) k')) (hM : Wd sz M) (hlM : M.flatten.all V.leaf = true) {n : Nat} (hn : n + M.length ≤ rows.length) (hm : 1 ≤ M.length) (hc : n + M.length ≤ c) (hs : n + M.length ≤ 2 ^ 47) :
    apv sz bytes (some (id, A.length)) n (some c) (.slice (some (q, QA.length)) M.length vc) M.length h = some (.slice (some (id, A.length)) (n + M.length) (some c), h.set id (.cells (A ++ (rows.take n ++ M ++ rows.drop (n + M.length)).flatten ++ B) k)) := by
  unfold apv
  rw [if_neg (by omega)]
  simp only [firstV]
  have := loadN_rows (a := 0) (m := M.length) hq hM (by omega)
  simp only [Nat.zero_mul, Nat.add_zero, List.drop_zero, List.take_length] at this
  rw [this]
  simp only []
  unfold appRest
  rw [if_neg (by rw [hM.len, hlM]; simp; omega)]
  simp only []
  rw [if_pos hc, storeN_rows hb hk hr hM hlM hn]
  rfl
theorem apv_grows {h : Heap} {id q c sz bytes : Nat} {k k' : Kd} {A B QA QB : List V} {rows M : List (List V)} {vc : Option Nat} (hb : h[id]? = some (.cells (A ++ rows.flatten ++ B) k)) (hr : Wd sz rows) (hl : rows.flatten.all V.leaf = true)
    (hq : h[q]? = some (.cells (QA ++ M.flatten ++ QB) k')) (hM : Wd sz M) (hlM : M.flatten.all V.leaf = true) (hm : 1 ≤ M.length) (hc : c < rows.length + M.length) (hs : rows.length + M.length ≤ 2 ^ 47) (hs2 : (rows.length + M.length) * bytes ≤ 2 ^ 47) :
    apv sz bytes (some (id, A.length)) rows.length (some c) (.slice (some (q, QA.length)) M.length vc) M.length h = some (.slice (some (h.length, 0)) (rows.length + M.length) none, h ++ [.cells (rows ++ M).flatten (.gr sz)]) := by
  unfold apv
  rw [if_neg (by omega)]
  simp only [firstV]
  have := loadN_rows (a := 0) (m := M.length) hq hM (by omega)
  simp only [Nat.zero_mul, Nat.add_zero, List.drop_zero, List.take_length] at this
  rw [this]
  simp only []
  unfold appRest
  rw [if_neg (by rw [hM.len, hlM]; simp; omega)]
  simp only []
  rw [if_neg (by omega)]
  unfold growV
  rw [if_neg (by omega)]
  simp only [firstV]
  have := loadN_rows (a := 0) (m := rows.length) hb hr (by omega)
  simp only [Nat.zero_mul, Nat.add_zero, List.drop_zero, List.take_length] at this
  rw [this]
  simp only []
  rw [if_pos hl, newC_eq]
  · simp
/-- append(s, make([]T, l)...) where it grows. -/
noncomputable def apz (size bytes : Nat) (z : List V) (p : Option (Nat × Nat)) (len c : Nat) (l : Int) (h : Heap) : Option (V × Heap) :=
  if IntKind.i64.wrap l < 0 ∨ len + (IntKind.i64.wrap l).toNat ≤ c ∨ size = 0 ∨ (len + (IntKind.i64.wrap l).toNat) * bytes > 2 ^ 47 ∨ len + (IntKind.i64.wrap l).toNat > 2 ^ 47 then none
  else growV h size bytes (.slice p len (some c)) len (IntKind.i64.wrap l).toNat (reps (IntKind.i64.wrap l).toNat z)
theorem apz_as {P : Program} {st xt e : TypeId} {size bytes : Nat} {z : List V} {k' : IntKind} (he : elemT P st = some e) (hr : rowT P xt = false) (hu : P.underlying xt = some (.int k')) (hs : szT P e = some size) (hb : byT P e = some bytes) (hz : zerosT P e = some z) (p : Option (Nat × Nat)) (len c : Nat) (k : IntKind) (l : Int) (h : Heap) :
    appendV P st xt (.slice p len (some c)) (.int k l) h = apz size bytes z p len c l h := by
  unfold appendV
  simp only [he, hr]
  unfold appendZ apz
  simp only [hu, hs, hb, hz]
theorem apz_grows {h : Heap} {id c sz bytes : Nat} {k : Kd} {A B z : List V} {rows : List (List V)} {n m : Nat} {l : Int} (hb : h[id]? = some (.cells (A ++ rows.flatten ++ B) k)) (hr : Wd sz rows) (hl : rows.flatten.all V.leaf = true) (hz : z.length = sz) (hn : n ≤ rows.length) (hm : l = (m : Int)) (h0 : 1 ≤ sz) (hc : c < n + m) (hs : n + m ≤ 2 ^ 47) (hs2 : (n + m) * bytes ≤ 2 ^ 47) :
    apz sz bytes z (some (id, A.length)) n c l h = some (.slice (some (h.length, 0)) (n + m) none, h ++ [.cells (rows.take n ++ List.replicate m z).flatten (.gr sz)]) := by
  subst hm
  have hw : IntKind.i64.wrap (m : Int) = m := by rw [IntKind.wrap_i64]; omega
  unfold apz
  rw [hw]
  simp only [Int.toNat_natCast]
  rw [if_neg (by omega)]
  unfold growV
  rw [if_neg (by omega)]
  simp only [firstV]
  have := loadN_rows (a := 0) (m := n) hb hr (by omega)
  simp only [Nat.zero_mul, Nat.add_zero, List.drop_zero] at this
  rw [this]
  simp only []
  have hl2 : (rows.take n).flatten.all V.leaf = true := by
    rw [List.all_eq_true] at hl ⊢
    intro v hv
    refine hl v ?_
    obtain ⟨r, hr, hv⟩ := List.mem_flatten.1 hv
    exact List.mem_flatten.2 ⟨r, List.mem_of_mem_take hr, hv⟩
  rw [if_pos hl2, newC_eq]
  unfold reps
  simp
theorem apz_38_3 (p : Option (Nat × Nat)) (len c : Nat) (k : IntKind) (l : Int) (h : Heap) : appendV Try.prog 38 3 (.slice p len (some c)) (.int k l) h = apz 1 8 [.int .i64 0] p len c l h := apz_as (e := 3) (k' := .i64) (by kernel_rfl) (by kernel_rfl) (by kernel_rfl) (by kernel_rfl) (by kernel_rfl) (by kernel_rfl) p len c k l h
theorem ins_list1 {α : Type} {rows Z M : List α} {i : Nat} (hi : i ≤ rows.length) (hZ : Z.length = M.length) :
    (rows ++ Z).take (i + M.length) ++ ((rows ++ Z).drop i).take (rows.length + M.length - (i + M.length)) ++ (rows ++ Z).drop (i + M.length + (rows.length + M.length - (i + M.length))) = (rows ++ Z).take (i + M.length) ++ rows.drop i := by
  have e1 : (rows ++ Z).drop (i + M.length + (rows.length + M.length - (i + M.length))) = [] := List.drop_of_length_le (by rw [List.length_append]; omega)
  have e2 : ((rows ++ Z).drop i).take (rows.length + M.length - (i + M.length)) = rows.drop i := by
    rw [List.drop_append_of_le_length hi]
    exact List.take_left' (by rw [List.length_drop]; omega)
  rw [e1, e2, List.append_nil]
theorem ins_list2 {α : Type} {rows Z M : List α} {i : Nat} (hi : i ≤ rows.length) (hZ : Z.length = M.length) :
    ((rows ++ Z).take (i + M.length) ++ rows.drop i).take i ++ (M.drop 0).take M.length ++ ((rows ++ Z).take (i + M.length) ++ rows.drop i).drop (i + M.length) = rows.take i ++ M ++ rows.drop i := by
  have hl : ((rows ++ Z).take (i + M.length)).length = i + M.length := by rw [List.length_take, List.length_append]; omega
  rw [List.take_append_of_le_length (by omega), List.take_take, Nat.min_eq_left (by omega), List.take_append_of_le_length hi, List.drop_zero, List.take_length, List.drop_left' hl]
theorem ins_list3 {α : Type} {rows W M : List α} {i : Nat} (hi : i ≤ rows.length) (hW : W.length = rows.length + M.length - i) :
    (rows.take i ++ W).take i ++ (M.drop 0).take M.length ++ (rows.take i ++ W).drop (i + M.length) = rows.take i ++ M ++ W.drop M.length := by
  have hl : (rows.take i).length = i := by rw [List.length_take]; omega
  rw [List.take_left' hl, List.drop_zero, List.take_length, ← List.drop_drop, List.drop_left' hl]
theorem ins_list4 {α : Type} {rows W M : List α} {i : Nat} (hi : i ≤ rows.length) (hW : W.length = rows.length + M.length - i) :
    (rows.take i ++ M ++ W.drop M.length).take (i + M.length) ++ (rows.drop i).take (rows.length - i) ++ (rows.take i ++ M ++ W.drop M.length).drop (i + M.length + (rows.length - i)) = rows.take i ++ M ++ rows.drop i := by
  have hl : (rows.take i ++ M).length = i + M.length := by rw [List.length_append, List.length_take]; omega
  have e1 : (rows.take i ++ M ++ W.drop M.length).drop (i + M.length + (rows.length - i)) = [] := List.drop_of_length_le (by rw [List.length_append, hl, List.length_drop]; omega)
  rw [List.take_left' hl, e1, List.append_nil, show (rows.drop i).take (rows.length - i) = rows.drop i from List.take_of_length_le (by rw [List.length_drop]; omega)]
theorem flat_leaf {rows M : List (List V)} (h : rows.flatten.all V.leaf = true) (hs : ∀ r ∈ M, r ∈ rows) : M.flatten.all V.leaf = true := by
  rw [List.all_eq_true] at h ⊢
  intro v hv
  obtain ⟨r, hr, hv⟩ := List.mem_flatten.1 hv
  exact h v (List.mem_flatten.2 ⟨r, hs r hr, hv⟩)
theorem ov40 (args : List V) (h : Heap) : callE Try.prog hk0 40 args h = ovHook args h := rfl
theorem ins_walk {h : Heap} {id c q : Nat} {k : Kd} {A sp QA QB : List V} {rows M : List (List V)} {vc : Option Nat} {i : Nat} (hb : h[id]? = some (.cells (A ++ rows.flatten ++ sp) k)) (hk : k ≠ .ro) (hr : Wd 1 rows) (hl : rows.flatten.all V.leaf = true)
    (hq : h[q]? = some (.cells (QA ++ M.flatten ++ QB) .rw)) (hM : Wd 1 M) (hlM : M.flatten.all V.leaf = true) (hne : id ≠ q) (hm : 1 ≤ M.length) (hi : i ≤ rows.length) (hc : rows.length ≤ c) (hfit : c * 1 ≤ rows.length * 1 + sp.length) (hs : (rows.length + M.length) * 8 ≤ 2 ^ 47) :
    WR (callE Try.prog hk0 27 [.slice (some (id, A.length)) rows.length (some c), .int .i64 i, .slice (some (q, QA.length)) M.length vc] h) (InsR h id c rows.length M.length 1 k A sp (rows.take i ++ M ++ rows.drop i)) := by
  refine WR.call (hH := rfl) Try.func27 rfl (n := 95) rfl rfl (by simp) ?_
  have hi' : (i : Int) ≤ (rows.length : Int) := by exact_mod_cast hi
  obtain ⟨p1, hp1⟩ := cutK_any (h := h) (sz := 1) (p := some (id, A.length)) (len := rows.length) (c := c) (k := .i64) (a := (i : Int)) (Int.natCast_nonneg _) hi' hc
  have hm0 : decide ((M.length : Int) = 0) = false := decide_eq_false (by omega)
  have u38 : Try.prog.underlying 38 = some (.slice 3) := by kernel_rfl
  by_cases hin : i = rows.length
  · have hd : decide ((i : Int) = rows.length) = true := by simp [hin]
    subst hin
    by_cases hg : rows.length + M.length ≤ c
    · obtain ⟨Z, B, hsp, hZ, hZw⟩ := rows_of M.length 1 sp (by omega)
      subst hsp
      have hb2 : h[id]? = some (.cells (A ++ (rows ++ Z).flatten ++ B) k) := by rw [hb]; simp
      have hap := apv_fits (sz := 1) (bytes := 8) (vc := vc) (n := rows.length) (c := c) hb2 hk (hr.app hZw) hq hM hlM (by simp; omega) hm hg (by omega)
      simp -dsimp (disch := first | with_reducible assumption | omega | (intro h_; cases h_; done) | (simp only [LN] <;> omega) | (simp only [LF]; done) | (repeat (first | with_reducible assumption | apply Ext.refl | apply Ext.app | (apply Ext.set <;> omega) | (refine Ext.trans ?_ (by assumption))))) only [AX, TY, gV, dstOf, p_makeFunc, p_mapUpdate, mapPut, entsOf, p_lookup, p_extract, p_nilCheck, oneV, p_load, p_store, p_binOp, p_unOp, p_indexAddr, p_index, p_box, p_build, evParts, builtinV, load1, ldc, splice, minds, disj, rcOf, isCall, touchV, idsOf, mapId, touchB, p_buildSlice, buildSliceV, reps, fillV, p_convert, p_slice, evO, p_makeSlice, sid_some, soff_some, Nat.reduceLT, Nat.reduceLeDiff, Nat.reduceEqDiff, Nat.reduceAdd, Nat.reduceMul, Int.reduceBEq, Int.reduceEq, Int.reduceNeg, Int.reduceLT, Int.reduceLE, Int.reduceAdd, Int.reduceSub, Int.reduceMul, Int.reduceToNat, Int.reduceGT, Nat.reduceBEq, Nat.reducePow, Nat.reduceGT, reduceCtorEq, ↓reduceIte, hp1, hm0, hd, hap]
      refine .inl ⟨rfl, hg, Z, B, rfl, hZ, hZw, ?_⟩
      simp [hZ, List.drop_of_length_le (Nat.le_of_eq hZ)]
    · have hap := apv_grows (sz := 1) (bytes := 8) (vc := vc) (c := c) hb hr hl hq hM hlM hm (by omega) (by omega) (by omega)
      simp -dsimp (disch := first | with_reducible assumption | omega | (intro h_; cases h_; done) | (simp only [LN] <;> omega) | (simp only [LF]; done) | (repeat (first | with_reducible assumption | apply Ext.refl | apply Ext.app | (apply Ext.set <;> omega) | (refine Ext.trans ?_ (by assumption))))) only [AX, TY, gV, dstOf, p_makeFunc, p_mapUpdate, mapPut, entsOf, p_lookup, p_extract, p_nilCheck, oneV, p_load, p_store, p_binOp, p_unOp, p_indexAddr, p_index, p_box, p_build, evParts, builtinV, load1, ldc, splice, minds, disj, rcOf, isCall, touchV, idsOf, mapId, touchB, p_buildSlice, buildSliceV, reps, fillV, p_convert, p_slice, evO, p_makeSlice, sid_some, soff_some, Nat.reduceLT, Nat.reduceLeDiff, Nat.reduceEqDiff, Nat.reduceAdd, Nat.reduceMul, Int.reduceBEq, Int.reduceEq, Int.reduceNeg, Int.reduceLT, Int.reduceLE, Int.reduceAdd, Int.reduceSub, Int.reduceMul, Int.reduceToNat, Int.reduceGT, Nat.reduceBEq, Nat.reducePow, Nat.reduceGT, reduceCtorEq, ↓reduceIte, hp1, hm0, hd, hap]
      exact .inr ⟨rfl, by simp⟩
  · have hd : decide ((i : Int) = rows.length) = false := decide_eq_false (by omega)
    by_cases hg : rows.length + M.length ≤ c
    · have hw : IntKind.i64.wrap ((rows.length : Int) + M.length) = (rows.length + M.length : Nat) := by rw [IntKind.wrap_i64]; omega
      have hd2 : decide (((rows.length + M.length : Nat) : Int) > (c : Int)) = false := decide_eq_false (by omega)
      obtain ⟨Z, B, hsp, hZ, hZw⟩ := rows_of M.length 1 sp (by omega)
      subst hsp
      have hb2 : h[id]? = some (.cells (A ++ (rows ++ Z).flatten ++ B) k) := by rw [hb]; simp
      have hlo : ∀ (g : Heap) (a : Nat), a ≤ rows.length + M.length → a < c → sliceV g 1 (some (id, A.length)) (rows.length + M.length) (some c) (some (.int .i64 (a : Int))) none none = some (.slice (some (id, A.length + a * 1)) (rows.length + M.length - a) (some (c - a))) := fun g a h1 h2 => by
        rw [cutK_lo (by omega) (by omega) hg (by omega)]; simp
      have hhi : sliceV h 1 (some (id, A.length)) rows.length (some c) none (some (.int .i64 ((rows.length + M.length : Nat) : Int))) none = some (.slice (some (id, A.length)) (rows.length + M.length) (some c)) := by
        rw [cutK_hi (by omega) (by omega), Int.toNat_natCast]
      have hw3 : IntKind.i64.wrap ((i : Int) + M.length) = (i + M.length : Nat) := by rw [IntKind.wrap_i64]; omega
      have h1 := hlo h (i + M.length) (by omega) (by omega)
      have h2 := hlo h i (by omega) (by omega)
      have hov : callE Try.prog hk0 40 [.slice (some (q, QA.length)) M.length vc, .slice (some (id, A.length + (i + M.length) * 1)) (rows.length + M.length - (i + M.length)) (some (c - (i + M.length)))] h = some (.bool false, h) := by
        rw [ov40]
        unfold ovHook
        simp only []
        rw [if_neg (by omega), if_pos ⟨fun e => hne e.symm, by unfold plainB; rw [hq], by
          unfold fullB; rw [hb]
          match hx : A ++ rows.flatten ++ (Z.flatten ++ B) with
          | [] => have := congrArg List.length hx; rw [rows_len hr] at this; simp only [List.length_nil] at this; omega
          | _ :: _ => rfl⟩]
      have hc1 := copy_rows (a := i + M.length) (b := i) (dl := rows.length + M.length - (i + M.length)) (xl := rows.length + M.length - (i + M.length)) (xc := some (c - i)) (Nat.le_refl 1) hb2 hk (hr.app hZw) hb2 (hr.app hZw) (by rw [List.length_append]; omega) (by rw [List.length_append]; omega) (Nat.le_refl _) (by
        rw [List.drop_append_of_le_length hi, List.take_left' (by rw [List.length_drop]; omega)]
        exact flat_leaf hl fun r hr => List.mem_of_mem_drop hr)
      rw [ins_list1 hi hZ] at hc1
      rw [← cpv_min (xl := rows.length + M.length - i) (by omega)] at hc1
      have hlt := lt_of_some hb
      have hR1 : Wd 1 ((rows ++ Z).take (i + M.length) ++ rows.drop i) := ((hr.app hZw).take _).app (hr.drop _)
      have h3 := hlo (h.set id (.cells (A ++ ((rows ++ Z).take (i + M.length) ++ rows.drop i).flatten ++ B) k)) i (by omega) (by omega)
      have hc2 := copy_rows (h := h.set id (.cells (A ++ ((rows ++ Z).take (i + M.length) ++ rows.drop i).flatten ++ B) k)) (a := i) (b := 0) (dl := rows.length + M.length - i) (xl := M.length) (xc := vc) (Nat.le_refl 1) (by rw [List.getElem?_set_self hlt]) hk hR1 (by rw [List.getElem?_set_ne hne]; exact hq) hM (by rw [List.length_append, List.length_take, List.length_append, List.length_drop]; omega) (by omega) (by omega) (by simpa using hlM)
      rw [ins_list2 hi hZ, Nat.zero_mul, Nat.add_zero] at hc2
      simp -dsimp (disch := first | with_reducible assumption | omega | (intro h_; cases h_; done) | (simp only [LN] <;> omega) | (simp only [LF]; done) | (repeat (first | with_reducible assumption | apply Ext.refl | apply Ext.app | (apply Ext.set <;> omega) | (refine Ext.trans ?_ (by assumption))))) only [AX, TY, gV, dstOf, p_makeFunc, p_mapUpdate, mapPut, entsOf, p_lookup, p_extract, p_nilCheck, oneV, p_load, p_store, p_binOp, p_unOp, p_indexAddr, p_index, p_box, p_build, evParts, builtinV, load1, ldc, splice, minds, disj, rcOf, isCall, touchV, idsOf, mapId, touchB, p_buildSlice, buildSliceV, reps, fillV, p_convert, p_slice, evO, p_makeSlice, sid_some, soff_some, Nat.reduceLT, Nat.reduceLeDiff, Nat.reduceEqDiff, Nat.reduceAdd, Nat.reduceMul, Int.reduceBEq, Int.reduceEq, Int.reduceNeg, Int.reduceLT, Int.reduceLE, Int.reduceAdd, Int.reduceSub, Int.reduceMul, Int.reduceToNat, Int.reduceGT, Nat.reduceBEq, Nat.reducePow, Nat.reduceGT, reduceCtorEq, ↓reduceIte, hp1, hm0, hd, u38, hw, hd2, hhi, hw3, h1, hov]
      refine W.drawn [(0, []), (1, [0]), (2, [1, 0]), (3, [0]), (4, []), (5, [4, 3, 2, 1, 0]), (6, [5, 4, 3, 2, 1, 0]), (7, [4, 3, 2, 1, 0]), (8, [])] (by decide +kernel) ?_
      simp -dsimp (disch := first | with_reducible assumption | omega | (intro h_; cases h_; done) | (simp only [LN] <;> omega) | (simp only [LF]; done) | (repeat (first | with_reducible assumption | apply Ext.refl | apply Ext.app | (apply Ext.set <;> omega) | (refine Ext.trans ?_ (by assumption))))) only [AX, TY, gV, dstOf, p_makeFunc, p_mapUpdate, mapPut, entsOf, p_lookup, p_extract, p_nilCheck, oneV, p_load, p_store, p_binOp, p_unOp, p_indexAddr, p_index, p_box, p_build, evParts, builtinV, load1, ldc, splice, minds, disj, rcOf, isCall, touchV, idsOf, mapId, touchB, p_buildSlice, buildSliceV, reps, fillV, p_convert, p_slice, evO, p_makeSlice, sid_some, soff_some, Nat.reduceLT, Nat.reduceLeDiff, Nat.reduceEqDiff, Nat.reduceAdd, Nat.reduceMul, Int.reduceBEq, Int.reduceEq, Int.reduceNeg, Int.reduceLT, Int.reduceLE, Int.reduceAdd, Int.reduceSub, Int.reduceMul, Int.reduceToNat, Int.reduceGT, Nat.reduceBEq, Nat.reducePow, Nat.reduceGT, reduceCtorEq, ↓reduceIte, hw3, h1, h2, hc1, h3, hc2]
      exact .inl ⟨rfl, hg, Z, B, rfl, hZ, hZw, rfl⟩
    · have hw : IntKind.i64.wrap ((rows.length : Int) + M.length) = (rows.length + M.length : Nat) := by rw [IntKind.wrap_i64]; omega
      have hd2 : decide (((rows.length + M.length : Nat) : Int) > (c : Int)) = true := decide_eq_true (by omega)
      have hw2 : IntKind.i64.wrap (((rows.length + M.length : Nat) : Int) - i) = (rows.length + M.length - i : Nat) := by rw [IntKind.wrap_i64]; omega
      have hhi : sliceV h 1 (some (id, A.length)) rows.length (some c) none (some (.int .i64 (i : Int))) none = some (.slice (some (id, A.length)) i (some c)) := by
        rw [cutK_hi (by omega) (by omega), Int.toNat_natCast]
      have haz := apz_grows (sz := 1) (bytes := 8) (z := [.int .i64 0]) (c := c) (n := i) (m := rows.length + M.length - i) hb hr hl rfl hi rfl (Nat.le_refl _) (by omega) (by omega) (by omega)
      rw [show i + (rows.length + M.length - i) = rows.length + M.length by omega] at haz
      have hlt := lt_of_some hb
      have hltq := lt_of_some hq
      have hw3 : IntKind.i64.wrap ((i : Int) + M.length) = (i + M.length : Nat) := by rw [IntKind.wrap_i64]; omega
      generalize hW : List.replicate (rows.length + M.length - i) [V.int IntKind.i64 0] = Y at haz
      have hWl : Y.length = rows.length + M.length - i := by rw [← hW, List.length_replicate]
      have hWw : Wd 1 Y := fun r hr => by rw [← hW] at hr; rw [List.eq_of_mem_replicate hr]; rfl
      have hop : ∀ (R : List (List V)) (a : Nat), a ≤ rows.length + M.length → sliceV (h ++ [O.cells R.flatten (.gr 1)]) 1 (some (h.length, 0)) (rows.length + M.length) none (some (.int .i64 (a : Int))) none none = some (.slice (some (h.length, a * 1)) (rows.length + M.length - a) none) := fun R a h1 => by
        rw [cutO_lo (by omega) (by omega) (fits_gr (snoc_last _ rfl)), Int.toNat_natCast, Nat.zero_add]
      have hst : ∀ (R R' : List (List V)), (h ++ [O.cells R.flatten (.gr 1)]).set h.length (O.cells ([] ++ R'.flatten ++ []) (.gr 1)) = h ++ [O.cells R'.flatten (.gr 1)] := fun R R' => by simp
      have hbl : ∀ (R : List (List V)), (h ++ [O.cells R.flatten (.gr 1)])[h.length]? = some (O.cells ([] ++ R.flatten ++ []) (.gr 1)) := fun R => by rw [snoc_last _ rfl]; simp
      have h1 := hop (rows.take i ++ Y) i (by omega)
      have hc1 := copy_rows (a := i) (b := 0) (dl := rows.length + M.length - i) (xl := M.length) (xc := vc) (Nat.le_refl 1) (hbl (rows.take i ++ Y)) (by simp) ((hr.take i).app hWw) (by rw [snoc_old _ hltq]; exact hq) hM (by rw [List.length_append, List.length_take]; omega) (by omega) (by omega) (by simpa using hlM)
      rw [ins_list3 hi hWl, Nat.zero_mul, Nat.add_zero, List.length_nil, Nat.zero_add, hst] at hc1
      have h2 := hop (rows.take i ++ M ++ Y.drop M.length) (i + M.length) (by omega)
      have h3 : ∀ g : Heap, sliceV g 1 (some (id, A.length)) rows.length (some c) (some (.int .i64 (i : Int))) none none = some (.slice (some (id, A.length + i * 1)) (rows.length - i) (some (c - i))) := fun g => by
        rw [cutK_lo (by omega) (by omega) hc (by omega), Int.toNat_natCast]
      have hc2 := copy_rows (a := i + M.length) (b := i) (dl := rows.length + M.length - (i + M.length)) (xl := rows.length - i) (xc := some (c - i)) (Nat.le_refl 1) (hbl (rows.take i ++ M ++ Y.drop M.length)) (by simp) (((hr.take i).app hM).app (hWw.drop _)) (by rw [snoc_old _ hlt]; exact hb) hr (by rw [List.length_append, List.length_append, List.length_take, List.length_drop]; omega) (by omega) (by omega) (flat_leaf hl fun r hr => List.mem_of_mem_drop (List.mem_of_mem_take hr))
      rw [ins_list4 hi hWl, List.length_nil, Nat.zero_add, hst] at hc2
      simp -dsimp (disch := first | with_reducible assumption | omega | (intro h_; cases h_; done) | (simp only [LN] <;> omega) | (simp only [LF]; done) | (repeat (first | with_reducible assumption | apply Ext.refl | apply Ext.app | (apply Ext.set <;> omega) | (refine Ext.trans ?_ (by assumption))))) only [AX, TY, gV, dstOf, p_makeFunc, p_mapUpdate, mapPut, entsOf, p_lookup, p_extract, p_nilCheck, oneV, p_load, p_store, p_binOp, p_unOp, p_indexAddr, p_index, p_box, p_build, evParts, builtinV, load1, ldc, splice, minds, disj, rcOf, isCall, touchV, idsOf, mapId, touchB, p_buildSlice, buildSliceV, reps, fillV, p_convert, p_slice, evO, p_makeSlice, sid_some, soff_some, Nat.reduceLT, Nat.reduceLeDiff, Nat.reduceEqDiff, Nat.reduceAdd, Nat.reduceMul, Int.reduceBEq, Int.reduceEq, Int.reduceNeg, Int.reduceLT, Int.reduceLE, Int.reduceAdd, Int.reduceSub, Int.reduceMul, Int.reduceToNat, Int.reduceGT, Nat.reduceBEq, Nat.reducePow, Nat.reduceGT, reduceCtorEq, ↓reduceIte, hp1, hm0, hd, u38, hw, hd2, hw2, apz_38_3, hhi, haz, h1, hc1]
      refine W.drawn [(0, []), (1, [0]), (2, [1, 0]), (3, [0]), (4, []), (5, [4, 3, 2, 1, 0]), (6, [5, 4, 3, 2, 1, 0]), (7, [4, 3, 2, 1, 0]), (8, [])] (by decide +kernel) ?_
      simp -dsimp (disch := first | with_reducible assumption | omega | (intro h_; cases h_; done) | (simp only [LN] <;> omega) | (simp only [LF]; done) | (repeat (first | with_reducible assumption | apply Ext.refl | apply Ext.app | (apply Ext.set <;> omega) | (refine Ext.trans ?_ (by assumption))))) only [AX, TY, gV, dstOf, p_makeFunc, p_mapUpdate, mapPut, entsOf, p_lookup, p_extract, p_nilCheck, oneV, p_load, p_store, p_binOp, p_unOp, p_indexAddr, p_index, p_box, p_build, evParts, builtinV, load1, ldc, splice, minds, disj, rcOf, isCall, touchV, idsOf, mapId, touchB, p_buildSlice, buildSliceV, reps, fillV, p_convert, p_slice, evO, p_makeSlice, sid_some, soff_some, Nat.reduceLT, Nat.reduceLeDiff, Nat.reduceEqDiff, Nat.reduceAdd, Nat.reduceMul, Int.reduceBEq, Int.reduceEq, Int.reduceNeg, Int.reduceLT, Int.reduceLE, Int.reduceAdd, Int.reduceSub, Int.reduceMul, Int.reduceToNat, Int.reduceGT, Nat.reduceBEq, Nat.reducePow, Nat.reduceGT, reduceCtorEq, ↓reduceIte, hw3, h2, h3, hc2]
      exact .inr ⟨rfl, rfl⟩
theorem insW : InsW Try.prog hk0 27 1 8 := fun hb hk hr hl hq hM hlM hne hm hi hc hfit hs => ins_walk hb hk hr hl hq hM hlM hne hm hi hc hfit hs
theorem ins_none {h : Heap} {q : Nat} {QA QB : List V} {M : List (List V)} {vc : Option Nat} (hq : h[q]? = some (.cells (QA ++ M.flatten ++ QB) .rw)) (hM : Wd 1 M) (hlM : M.flatten.all V.leaf = true) (hm : 1 ≤ M.length) (hs : M.length * 8 ≤ 2 ^ 47) :
    WR (callE Try.prog hk0 27 [.slice none 0 (some 0), .int .i64 0, .slice (some (q, QA.length)) M.length vc] h) fun r h' => r = .slice (some (h.length, 0)) M.length none ∧ h' = h ++ [.cells M.flatten (.gr 1)] := by
  refine WR.call (hH := rfl) Try.func27 rfl (n := 95) rfl rfl (by simp) ?_
  have hm0 : decide ((M.length : Int) = 0) = false := decide_eq_false (by omega)
  have hp1 : sliceV h 1 none 0 (some 0) (some (.int .i64 0)) none none = some (.slice none 0 (some 0)) := by
    unfold sliceV; simp [boundV]
  have hap : apv 1 8 none 0 (some 0) (.slice (some (q, QA.length)) M.length vc) M.length h = some (.slice (some (h.length, 0)) M.length none, h ++ [.cells M.flatten (.gr 1)]) := by
    unfold apv
    rw [if_neg (by omega)]
    simp only [firstV]
    have := loadN_rows (a := 0) (m := M.length) hq hM (by omega)
    simp only [Nat.zero_mul, Nat.add_zero, List.drop_zero, List.take_length] at this
    rw [this]
    simp only []
    unfold appRest
    rw [if_neg (by rw [hM.len, hlM]; simp; omega)]
    simp only []
    rw [if_neg (by omega)]
    unfold growV
    rw [if_neg (by omega)]
    simp only [firstV]
    rw [if_pos (by rfl), newC_eq]
    simp
  simp -dsimp (disch := first | with_reducible assumption | omega | (intro h_; cases h_; done) | (simp only [LN] <;> omega) | (simp only [LF]; done) | (repeat (first | with_reducible assumption | apply Ext.refl | apply Ext.app | (apply Ext.set <;> omega) | (refine Ext.trans ?_ (by assumption))))) only [AX, TY, gV, dstOf, p_makeFunc, p_mapUpdate, mapPut, entsOf, p_lookup, p_extract, p_nilCheck, oneV, p_load, p_store, p_binOp, p_unOp, p_indexAddr, p_index, p_box, p_build, evParts, builtinV, load1, ldc, splice, minds, disj, rcOf, isCall, touchV, idsOf, mapId, touchB, p_buildSlice, buildSliceV, reps, fillV, p_convert, p_slice, evO, p_makeSlice, sid_some, soff_some, Nat.reduceLT, Nat.reduceLeDiff, Nat.reduceEqDiff, Nat.reduceAdd, Nat.reduceMul, Int.reduceBEq, Int.reduceEq, Int.reduceNeg, Int.reduceLT, Int.reduceLE, Int.reduceAdd, Int.reduceSub, Int.reduceMul, Int.reduceToNat, Int.reduceGT, Nat.reduceBEq, Nat.reducePow, Nat.reduceGT, reduceCtorEq, ↓reduceIte, hp1, hm0, hap]
theorem insN : InsN Try.prog hk0 27 1 8 := fun hq hM hlM hm hs => ins_none hq hM hlM hm hs
end Go.Proofs.YtpmlphefdoaohaaA
