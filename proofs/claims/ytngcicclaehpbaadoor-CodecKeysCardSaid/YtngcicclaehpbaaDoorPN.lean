/- Words of this session: chapter 4: rows encoded. -/
import Derived.Test.YtngcicclaehpbaaDoorPK
namespace Go.Proofs.YtngcicclaehpbaaDoorA
open Go Go.Proofs Go.RowKit
set_option linter.unusedVariables false
set_option linter.unusedSimpArgs false
set_option maxRecDepth 10000
set_option maxHeartbeats 2000000
theorem Gr.lower {α : Type} {b b' : Nat} {h : Heap} {p : Option (Nat × Nat)} {c oid : Option Nat} {sz : Nat} {enc : α → List V} {ys : List α} (g : Gr b h p c oid sz enc ys) (hb : b' ≤ b) : Gr b' h p c oid sz enc ys :=
  ⟨g.sl, g.kind, fun id q => by have := g.base id q; omega, g.leaf⟩
theorem App.fresh {α : Type} {h0 h h' : Heap} {sz : Nat} {enc : α → List V} {zs : List α} {r : V} (e : Ext h0 h) (a : App h.length h none sz enc zs r h') : App h0.length h0 none sz enc zs r h' := by
  have hle := e.le
  obtain ⟨p', c', oid', e1, g, o, l, k⟩ := a
  refine ⟨p', c', oid', e1, g.lower hle, ?_, by omega, fun i _ hi => ?_⟩
  · rcases o with o | ⟨k, o, o2⟩
    · exact .inl o
    · exact .inr ⟨k, o, by omega⟩
  · rw [k i (by simp) (by omega)]
    exact (e.get _ _ (List.getElem?_eq_getElem hi)).trans (List.getElem?_eq_getElem hi).symm
theorem ones64 : BitVec.ofInt 64 18446744073709551615 = BitVec.allOnes 64 := by decide
theorem ones64' : BitVec.ofInt 64 (-1) = BitVec.allOnes 64 := by decide
theorem xor_ones {a : Nat} (ha : a < 18446744073709551616) {x : BitVec 64} (hx : x = BitVec.allOnes 64) : (BitVec.ofInt 64 (a : Int) ^^^ x).toNat = 18446744073709551615 - a := by
  rw [hx, BitVec.xor_allOnes, BitVec.toNat_not, ofInt_nat _ (by exact ha)]
theorem xor_zero {a : Nat} (ha : a < 18446744073709551616) : (BitVec.ofInt 64 (a : Int) ^^^ BitVec.ofInt 64 0).toNat = a := by
  rw [show BitVec.ofInt 64 0 = 0#64 by decide, BitVec.xor_zero, ofInt_nat _ (by exact ha)]
theorem shr63 {n : Int} (h0 : -9223372036854775808 ≤ n) (h1 : n ≤ 9223372036854775807) (ty : TypeId) (x y : Operand) {k' : IntKind} : binV Tryd.prog .shr ty x y (.int .i64 n) (.int k' 63) = some (.int .i64 (if 0 ≤ n then 0 else -1)) := by
  rw [shr_of (by decide)]
  have : (63 : Int).toNat = 63 := rfl
  rw [this, show min 63 IntKind.i64.bits = 63 from rfl, Int.fdiv_eq_ediv_of_nonneg _ (by decide)]
  congr 2
  split <;> omega
theorem zig_val {n : Int} (h0 : -9223372036854775808 ≤ n) (h1 : n ≤ 9223372036854775807) : IntKind.u64.wrap ((BitVec.ofInt IntKind.u64.bits (IntKind.u64.wrap (IntKind.u64.wrap n * 2 ^ (min 1 IntKind.u64.bits))) ^^^ BitVec.ofInt IntKind.u64.bits (IntKind.u64.wrap (if 0 ≤ n then 0 else -1))).toNat : Int) = ((zz n : Nat) : Int) := by
  have hz := zz_lt h0 h1
  have e1 : min 1 IntKind.u64.bits = 1 := rfl
  rw [e1]
  by_cases hn : 0 ≤ n
  · rw [if_pos hn]
    have e2 : IntKind.u64.wrap (IntKind.u64.wrap n * 2 ^ 1) = ((zz n : Nat) : Int) := by rw [w_u64, w_u64, zz, if_pos hn]; omega
    have e3 : IntKind.u64.wrap 0 = 0 := rfl
    rw [e2, e3, show IntKind.u64.bits = 64 from rfl, xor_zero hz, w_u64]; omega
  · rw [if_neg hn]
    have e2 : IntKind.u64.wrap (IntKind.u64.wrap n * 2 ^ 1) = ((18446744073709551615 - zz n : Nat) : Int) := by rw [w_u64, w_u64, zz, if_neg hn]; omega
    have e3 : IntKind.u64.wrap (-1) = 18446744073709551615 := rfl
    rw [e2, e3, show IntKind.u64.bits = 64 from rfl, xor_ones (by omega) ones64, w_u64]; omega
theorem zig_ok {h : Heap} {n : Int} (h0 : -9223372036854775808 ≤ n) (h1 : n ≤ 9223372036854775807) : WR (callE Tryd.prog hk 44 [.int .i64 n] h) fun r h' => h = h' ∧ r = .int .u64 ((zz n : Nat) : Int) := by
  have hz := zig_val h0 h1
  have hs := fun ty x y => shr63 (k' := .u64) h0 h1 ty x y
  have hl := fun ty x y => shl_of (P := Tryd.prog) (ty := ty) (x := x) (y := y) (k := .u64) (k' := .u64) (a := IntKind.u64.wrap n) (b := 1) (by decide)
  refine WR.call (hH := rfl) Tryd.func44 rfl (n := 10) rfl rfl (by simp) ?_
  simp -dsimp (disch := first | with_reducible assumption | omega | (intro h_; cases h_; done) | (simp only [LN] <;> omega) | (simp only [LF]; done) | (repeat (first | with_reducible assumption | apply Ext.refl | apply Ext.app | (apply Ext.set <;> omega) | (refine Ext.trans ?_ (by assumption))))) only [AX, TY, gV, dstOf, p_makeFunc, p_mapUpdate, mapPut, entsOf, p_lookup, p_extract, p_nilCheck, oneV, p_load, p_store, p_binOp, p_unOp, p_indexAddr, p_index, p_box, p_build, evParts, builtinV, load1, ldc, splice, minds, disj, rcOf, isCall, touchV, idsOf, mapId, touchB, p_buildSlice, buildSliceV, reps, fillV, p_convert, p_slice, evO, p_makeSlice, sid_some, soff_some, Nat.reduceLT, Nat.reduceLeDiff, Nat.reduceEqDiff, Nat.reduceAdd, Nat.reduceMul, Int.reduceBEq, Int.reduceEq, Int.reduceNeg, Int.reduceLT, Int.reduceLE, Int.reduceAdd, Int.reduceSub, Int.reduceMul, Int.reduceToNat, Int.reduceGT, Nat.reduceBEq, Nat.reducePow, Nat.reduceGT, reduceCtorEq, ↓reduceIte, hs, hl, hz]
theorem unzig_val {n : Nat} (hn : n < 18446744073709551616) : IntKind.i64.wrap ((BitVec.ofInt IntKind.i64.bits (IntKind.i64.wrap ((n / 2 : Nat) : Int)) ^^^ BitVec.ofInt IntKind.i64.bits (IntKind.i64.wrap (-IntKind.i64.wrap ((n % 2 : Nat) : Int)))).toNat : Int) = unzz n := by
  have e1 : IntKind.i64.wrap ((n / 2 : Nat) : Int) = ((n / 2 : Nat) : Int) := by rw [IntKind.wrap_i64]; omega
  rw [e1, show IntKind.i64.bits = 64 from rfl]
  unfold unzz
  by_cases h : n % 2 = 0
  · rw [if_pos h, h]
    have e2 : IntKind.i64.wrap (-IntKind.i64.wrap ((0 : Nat) : Int)) = 0 := rfl
    rw [e2, xor_zero (by omega), IntKind.wrap_i64]; omega
  · rw [if_neg h, show n % 2 = 1 by omega]
    have e2 : IntKind.i64.wrap (-IntKind.i64.wrap ((1 : Nat) : Int)) = -1 := rfl
    rw [e2, xor_ones (by omega) ones64', IntKind.wrap_i64]; omega
theorem shr1_u64 {n : Nat} (ty : TypeId) (x y : Operand) {k' : IntKind} : binV Tryd.prog .shr ty x y (.int .u64 (n : Int)) (.int k' 1) = some (.int .u64 ((n / 2 : Nat) : Int)) := by
  rw [shr_of (by decide), Int.fdiv_eq_ediv_of_nonneg _ (by decide)]
  simp [IntKind.bits]
theorem and1_u64 {n : Nat} (hn : n < 18446744073709551616) : IntKind.u64.wrap ((BitVec.ofInt IntKind.u64.bits (n : Int) &&& BitVec.ofInt IntKind.u64.bits 1).toNat : Int) = ((n % 2 : Nat) : Int) := by
  have h1 := and_u64 (a := n) (b := 1) hn (by decide)
  rw [show ((1 : Nat) : Int) = 1 from rfl, and_1] at h1
  exact h1
theorem neg_i64 (n : Int) : unV .neg (.int .i64 n) = some (.int .i64 (IntKind.i64.wrap (-n))) := by
  show intV .sub .i64 0 n = _
  simp [intV]
theorem unzig_ok {h : Heap} {n : Nat} (hn : n < 18446744073709551616) : WR (callE Tryd.prog hk 54 [.int .u64 (n : Int)] h) fun r h' => h = h' ∧ r = .int .i64 (unzz n) := by
  have hz := unzig_val hn
  refine WR.call (hH := rfl) Tryd.func54 rfl (n := 11) rfl rfl (by simp) ?_
  simp -dsimp (disch := first | with_reducible assumption | omega | (intro h_; cases h_; done) | (simp only [LN] <;> omega) | (simp only [LF]; done) | (repeat (first | with_reducible assumption | apply Ext.refl | apply Ext.app | (apply Ext.set <;> omega) | (refine Ext.trans ?_ (by assumption))))) only [AX, TY, gV, dstOf, p_makeFunc, p_mapUpdate, mapPut, entsOf, p_lookup, p_extract, p_nilCheck, oneV, p_load, p_store, p_binOp, p_unOp, p_indexAddr, p_index, p_box, p_build, evParts, builtinV, load1, ldc, splice, minds, disj, rcOf, isCall, touchV, idsOf, mapId, touchB, p_buildSlice, buildSliceV, reps, fillV, p_convert, p_slice, evO, p_makeSlice, sid_some, soff_some, Nat.reduceLT, Nat.reduceLeDiff, Nat.reduceEqDiff, Nat.reduceAdd, Nat.reduceMul, Int.reduceBEq, Int.reduceEq, Int.reduceNeg, Int.reduceLT, Int.reduceLE, Int.reduceAdd, Int.reduceSub, Int.reduceMul, Int.reduceToNat, Int.reduceGT, Nat.reduceBEq, Nat.reducePow, Nat.reduceGT, reduceCtorEq, ↓reduceIte, shr1_u64, and1_u64 hn, neg_i64, hz]
theorem rowV_len {v : Vl} (hv : validV v = true) (hg : v.G) : (rowV v).length ≤ 300 := by
  have hi := hg.2.1
  unfold rowV
  rcases valid_cases hv with ⟨k0, k1⟩ | ⟨k0, k1, k2⟩ | ⟨k0, k1, k2⟩
  · rw [if_pos k0]
    have := uenc_len (zz_lt hi.1 hi.2)
    simp only [List.length_cons]; omega
  · rw [if_neg (by omega), if_pos k0]
    have := uenc_len (n := v.text.length) (by omega)
    simp only [List.length_cons, List.length_append]; omega
  · rw [if_neg (by omega), if_neg (by omega)]; simp
def rowP (n : Nat) (l : List Vl) : List Int := uenc n ++ l.flatMap rowV
theorem rowP_len {n : Nat} {l : List Vl} (hn : n < 18446744073709551616) (hv : l.all validV = true) (hg : ∀ y ∈ l, y.G) : (rowP n l).length ≤ 10 + 300 * l.length := by
  have := uenc_len hn
  induction l with
  | nil => simp [rowP]; omega
  | cons v l ih =>
    simp only [List.all_cons, Bool.and_eq_true] at hv
    have := rowV_len hv.1 (hg _ (by simp))
    have := ih hv.2 (fun y hy => hg y (by simp [hy]))
    simp only [rowP, List.flatMap_cons, List.length_append, List.length_cons] at *; omega
theorem rowP_snoc {n : Nat} {ys : List Vl} {i : Nat} (hi : i < ys.length) : rowP n (ys.take (i + 1)) = rowP n (ys.take i) ++ rowV ys[i] := by
  rw [List.take_succ_eq_append_getElem hi, rowP, List.flatMap_append]; simp [rowP]
structure LER (h0 : Heap) (p : Option (Nat × Nat)) (c : Option Nat) (ys : List Vl) (i : Nat) (τ : Tp) (hh : Heap) : Prop where
  t13 : τ 13 = .slice p ys.length c
  t14 : τ 14 = .int .i64 ys.length
  t15 : τ 15 = .int .i64 i
  app : App h0.length h0 none 1 eb (rowP ys.length (ys.take i)) (τ 3) hh
theorem take_G {ys : List Vl} (hg : ∀ y ∈ ys, y.G) (i : Nat) : ∀ y ∈ ys.take i, y.G := fun y hy => hg y (List.mem_of_mem_take hy)
theorem encRow_ok {h : Heap} {p : Option (Nat × Nat)} {c : Option Nat} {ys : List Vl} (hs : Sl h p 3 Vl.enc ys) (hg : ∀ y ∈ ys, y.G) (hl : ys.length ≤ 10000) :
    WR (callE Tryd.prog hk 27 [.slice p ys.length c] h) fun r h' => Ext h h' ∧ ∃ p' c' oid, r = .slice p' (encRow ys).length c' ∧ Gr h.length h' p' c' oid 1 eb (encRow ys) := by
  have hn := hs.nil'
  refine WR.call (hH := rfl) Tryd.func27 rfl (n := 48) rfl rfl (by simp) ?_
  simp -dsimp (disch := first | with_reducible assumption | omega | (intro h_; cases h_; done) | (simp only [LN] <;> omega) | (simp only [LF]; done) | (repeat (first | with_reducible assumption | apply Ext.refl | apply Ext.app | (apply Ext.set <;> omega) | (refine Ext.trans ?_ (by assumption))))) only [AX, TY, gV, dstOf, p_makeFunc, p_mapUpdate, mapPut, entsOf, p_lookup, p_extract, p_nilCheck, oneV, p_load, p_store, p_binOp, p_unOp, p_indexAddr, p_index, p_box, p_build, evParts, builtinV, load1, ldc, splice, minds, disj, rcOf, isCall, touchV, idsOf, mapId, touchB, p_buildSlice, buildSliceV, reps, fillV, p_convert, p_slice, evO, p_makeSlice, sid_some, soff_some, Nat.reduceLT, Nat.reduceLeDiff, Nat.reduceEqDiff, Nat.reduceAdd, Nat.reduceMul, Int.reduceBEq, Int.reduceEq, Int.reduceNeg, Int.reduceLT, Int.reduceLE, Int.reduceAdd, Int.reduceSub, Int.reduceMul, Int.reduceToNat, Int.reduceGT, Nat.reduceBEq, Nat.reducePow, Nat.reduceGT, reduceCtorEq, ↓reduceIte]
  refine (allValid_ok hs).mono ?_
  rintro _ h1 ⟨e1, rfl⟩
  cases hv : ys.all validV
  · simp -dsimp (disch := first | with_reducible assumption | omega | (intro h_; cases h_; done) | (simp only [LN] <;> omega) | (simp only [LF]; done) | (repeat (first | with_reducible assumption | apply Ext.refl | apply Ext.app | (apply Ext.set <;> omega) | (refine Ext.trans ?_ (by assumption))))) only [AX, TY, gV, dstOf, p_makeFunc, p_mapUpdate, mapPut, entsOf, p_lookup, p_extract, p_nilCheck, oneV, p_load, p_store, p_binOp, p_unOp, p_indexAddr, p_index, p_box, p_build, evParts, builtinV, load1, ldc, splice, minds, disj, rcOf, isCall, touchV, idsOf, mapId, touchB, p_buildSlice, buildSliceV, reps, fillV, p_convert, p_slice, evO, p_makeSlice, sid_some, soff_some, Nat.reduceLT, Nat.reduceLeDiff, Nat.reduceEqDiff, Nat.reduceAdd, Nat.reduceMul, Int.reduceBEq, Int.reduceEq, Int.reduceNeg, Int.reduceLT, Int.reduceLE, Int.reduceAdd, Int.reduceSub, Int.reduceMul, Int.reduceToNat, Int.reduceGT, Nat.reduceBEq, Nat.reducePow, Nat.reduceGT, reduceCtorEq, ↓reduceIte]
    refine ⟨e1, none, some 0, none, ?_⟩
    simp only [encRow, hv]
    exact ⟨rfl, Gr.nil _ _ _ _⟩
  have hw : IntKind.u64.wrap (ys.length : Int) = (ys.length : Int) := by rw [w_u64]; omega
  simp -dsimp (disch := first | with_reducible assumption | omega | (intro h_; cases h_; done) | (simp only [LN] <;> omega) | (simp only [LF]; done) | (repeat (first | with_reducible assumption | apply Ext.refl | apply Ext.app | (apply Ext.set <;> omega) | (refine Ext.trans ?_ (by assumption))))) only [AX, TY, gV, dstOf, p_makeFunc, p_mapUpdate, mapPut, entsOf, p_lookup, p_extract, p_nilCheck, oneV, p_load, p_store, p_binOp, p_unOp, p_indexAddr, p_index, p_box, p_build, evParts, builtinV, load1, ldc, splice, minds, disj, rcOf, isCall, touchV, idsOf, mapId, touchB, p_buildSlice, buildSliceV, reps, fillV, p_convert, p_slice, evO, p_makeSlice, sid_some, soff_some, Nat.reduceLT, Nat.reduceLeDiff, Nat.reduceEqDiff, Nat.reduceAdd, Nat.reduceMul, Int.reduceBEq, Int.reduceEq, Int.reduceNeg, Int.reduceLT, Int.reduceLE, Int.reduceAdd, Int.reduceSub, Int.reduceMul, Int.reduceToNat, Int.reduceGT, Nat.reduceBEq, Nat.reducePow, Nat.reduceGT, reduceCtorEq, ↓reduceIte, hw]
  refine (appendUint_ok (Gr.nil h1.length h1 1 eb) (Nat.le_refl _) (n := ys.length) (by omega) (by simp)).mono ?_
  intro r0 h2 ha0
  rw [List.nil_append] at ha0
  simp -dsimp (disch := first | with_reducible assumption | omega | (intro h_; cases h_; done) | (simp only [LN] <;> omega) | (simp only [LF]; done) | (repeat (first | with_reducible assumption | apply Ext.refl | apply Ext.app | (apply Ext.set <;> omega) | (refine Ext.trans ?_ (by assumption))))) only [AX, TY, gV, dstOf, p_makeFunc, p_mapUpdate, mapPut, entsOf, p_lookup, p_extract, p_nilCheck, oneV, p_load, p_store, p_binOp, p_unOp, p_indexAddr, p_index, p_box, p_build, evParts, builtinV, load1, ldc, splice, minds, disj, rcOf, isCall, touchV, idsOf, mapId, touchB, p_buildSlice, buildSliceV, reps, fillV, p_convert, p_slice, evO, p_makeSlice, sid_some, soff_some, Nat.reduceLT, Nat.reduceLeDiff, Nat.reduceEqDiff, Nat.reduceAdd, Nat.reduceMul, Int.reduceBEq, Int.reduceEq, Int.reduceNeg, Int.reduceLT, Int.reduceLE, Int.reduceAdd, Int.reduceSub, Int.reduceMul, Int.reduceToNat, Int.reduceGT, Nat.reduceBEq, Nat.reducePow, Nat.reduceGT, reduceCtorEq, ↓reduceIte]
  refine W.loop (fun m τ hh => ∃ i, m + i = ys.length ∧ LER h1 p c ys i τ hh) ?_ (m := ys.length) ?_
  rotate_left
  · refine ⟨0, by simp, ?_⟩
    constructor <;> (try first | assumption | ((repeat (first | assumption | apply Ext.refl | apply Ext.app | (apply Ext.set <;> omega) | exact Ext.trans (by assumption) (by assumption) | (refine Ext.trans ?_ (by assumption)))); done) | (refine Sl.ext (by assumption) ?_; (repeat (first | assumption | apply Ext.refl | apply Ext.app | (apply Ext.set <;> omega) | exact Ext.trans (by assumption) (by assumption) | (refine Ext.trans ?_ (by assumption)))); done) | (simp -dsimp (disch := first | with_reducible assumption | omega | (intro h_; cases h_; done) | (simp only [LN] <;> omega) | (simp only [LF]; done) | (repeat (first | with_reducible assumption | apply Ext.refl | apply Ext.app | (apply Ext.set <;> omega) | (refine Ext.trans ?_ (by assumption))))) only [AX, TY, gV, dstOf, p_makeFunc, p_mapUpdate, mapPut, entsOf, p_lookup, p_extract, p_nilCheck, oneV, p_load, p_store, p_binOp, p_unOp, p_indexAddr, p_index, p_box, p_build, evParts, builtinV, load1, ldc, splice, minds, disj, rcOf, isCall, touchV, idsOf, mapId, touchB, p_buildSlice, buildSliceV, reps, fillV, p_convert, p_slice, evO, p_makeSlice, sid_some, soff_some, Nat.reduceLT, Nat.reduceLeDiff, Nat.reduceEqDiff, Nat.reduceAdd, Nat.reduceMul, Int.reduceBEq, Int.reduceEq, Int.reduceNeg, Int.reduceLT, Int.reduceLE, Int.reduceAdd, Int.reduceSub, Int.reduceMul, Int.reduceToNat, Int.reduceGT, Nat.reduceBEq, Nat.reducePow, Nat.reduceGT, reduceCtorEq, ↓reduceIte, Int.natCast_add, Int.natCast_one, Int.natCast_zero]; try (first | assumption | with_reducible rfl)))
    · simpa [rowP] using ha0
  rintro m τ hh ⟨i, hm, t13, t14, t15, ha0⟩
  have hkl := rowP_len (n := ys.length) (by omega) (all_take hv i) (take_G hg i)
  have eh : Ext h1 hh := ha0.ext (.refl _) (by simp)
  by_cases h2 : (i : Int) < (ys.length : Int)
  · have hi : i < ys.length := by omega
    have hsn := rowP_snoc (n := ys.length) hi
    have hvi : validV ys[i] = true := List.all_eq_true.1 hv _ (List.getElem_mem hi)
    have hgi := hg _ (List.getElem_mem hi)
    rw [List.length_take] at hkl
    generalize hL : rowP ys.length (ys.take i) = L at ha0 hsn hkl
    obtain ⟨p', c', oid', t3, gr, ho, hle, hk⟩ := ha0
    have hld := hs.load0 (hh := hh) (e1.trans eh) hi (m := 3) (Nat.le_refl 3)
    generalize ys[i] = v at hld hsn hvi hgi
    have hw8 : IntKind.u8.wrap v.kind = v.kind % 256 := w_u8 _
    have hwi : IntKind.u8.wrap v.int = v.int % 256 := w_u8 _
    have hvb := hgi.2.1
    have hxx : Ext hh (hh ++ [O.cells v.enc Kd.rw]) := (by (repeat (first | assumption | apply Ext.refl | apply Ext.app | (apply Ext.set <;> omega) | exact Ext.trans (by assumption) (by assumption) | (refine Ext.trans ?_ (by assumption)))))
    have gx : (hh ++ [O.cells v.enc Kd.rw])[hh.length]? = some (.cells v.enc .rw) := snoc_last _ rfl
    have grx := gr.ext hxx
    have hlx : (hh ++ [O.cells v.enc Kd.rw]).length = hh.length + 1 := by simp
    have hno : ∀ {j : Nat}, oid' = some j → j ≠ hh.length := fun e => by have := gr.lt e; omega
    simp only [Vl.enc] at hld gx hxx grx hlx
    simp -dsimp (disch := first | with_reducible assumption | omega | (intro h_; cases h_; done) | (simp only [LN] <;> omega) | (simp only [LF]; done) | (repeat (first | with_reducible assumption | apply Ext.refl | apply Ext.app | (apply Ext.set <;> omega) | (refine Ext.trans ?_ (by assumption))))) only [AX, TY, gV, dstOf, p_makeFunc, p_mapUpdate, mapPut, entsOf, p_lookup, p_extract, p_nilCheck, oneV, p_load, p_store, p_binOp, p_unOp, p_indexAddr, p_index, p_box, p_build, evParts, builtinV, load1, ldc, splice, minds, disj, rcOf, isCall, touchV, idsOf, mapId, touchB, p_buildSlice, buildSliceV, reps, fillV, p_convert, p_slice, evO, p_makeSlice, sid_some, soff_some, Nat.reduceLT, Nat.reduceLeDiff, Nat.reduceEqDiff, Nat.reduceAdd, Nat.reduceMul, Int.reduceBEq, Int.reduceEq, Int.reduceNeg, Int.reduceLT, Int.reduceLE, Int.reduceAdd, Int.reduceSub, Int.reduceMul, Int.reduceToNat, Int.reduceGT, Nat.reduceBEq, Nat.reducePow, Nat.reduceGT, reduceCtorEq, ↓reduceIte, t3, t13, t14, t15, h2, hld, hw8]
    generalize hh ++ [O.cells [V.int .i64 v.kind, V.int .i64 v.int, V.str v.text] Kd.rw] = hx at gx hxx grx hlx
    refine (grx.wrB (by omega) (q := hh.length + 1) (n := 1) (vc := some 1) (hh := hx ++ [O.cells [V.int IntKind.u8 (v.kind % 256)] Kd.rw]) (bytes := 1) (by (repeat (first | assumption | apply Ext.refl | apply Ext.app | (apply Ext.set <;> omega) | exact Ext.trans (by assumption) (by assumption) | (refine Ext.trans ?_ (by assumption))))) [v.kind % 256] (snoc_last _ hlx.symm) rfl (eb_w _) (eb_l _) (by simp only [List.length_cons, List.length_nil]; omega) (by simp only [List.length_cons, List.length_nil]; omega)).mono ?_
    rintro _ h3 ⟨p2, c2, oid2, rfl, gr2, ho2, hl2, hk2⟩
    have gx2 : h3[hh.length]? = _ := (hk2 hh.length (fun e => hno e rfl) (by omega)).trans gx
    rcases valid_cases hvi with ⟨k0, k1⟩ | ⟨k0, k1, k2⟩ | ⟨k0, k1, k2⟩
    · simp -dsimp (disch := first | with_reducible assumption | omega | (intro h_; cases h_; done) | (simp only [LN] <;> omega) | (simp only [LF]; done) | (repeat (first | with_reducible assumption | apply Ext.refl | apply Ext.app | (apply Ext.set <;> omega) | (refine Ext.trans ?_ (by assumption))))) only [AX, TY, gV, dstOf, p_makeFunc, p_mapUpdate, mapPut, entsOf, p_lookup, p_extract, p_nilCheck, oneV, p_load, p_store, p_binOp, p_unOp, p_indexAddr, p_index, p_box, p_build, evParts, builtinV, load1, ldc, splice, minds, disj, rcOf, isCall, touchV, idsOf, mapId, touchB, p_buildSlice, buildSliceV, reps, fillV, p_convert, p_slice, evO, p_makeSlice, sid_some, soff_some, Nat.reduceLT, Nat.reduceLeDiff, Nat.reduceEqDiff, Nat.reduceAdd, Nat.reduceMul, Int.reduceBEq, Int.reduceEq, Int.reduceNeg, Int.reduceLT, Int.reduceLE, Int.reduceAdd, Int.reduceSub, Int.reduceMul, Int.reduceToNat, Int.reduceGT, Nat.reduceBEq, Nat.reducePow, Nat.reduceGT, reduceCtorEq, ↓reduceIte, t13, t14, t15, loadN_fact gx2, eq_true k0]
      refine (zig_ok hvb.1 hvb.2).mono ?_
      rintro _ _ ⟨rfl, rfl⟩
      simp -dsimp (disch := first | with_reducible assumption | omega | (intro h_; cases h_; done) | (simp only [LN] <;> omega) | (simp only [LF]; done) | (repeat (first | with_reducible assumption | apply Ext.refl | apply Ext.app | (apply Ext.set <;> omega) | (refine Ext.trans ?_ (by assumption))))) only [AX, TY, gV, dstOf, p_makeFunc, p_mapUpdate, mapPut, entsOf, p_lookup, p_extract, p_nilCheck, oneV, p_load, p_store, p_binOp, p_unOp, p_indexAddr, p_index, p_box, p_build, evParts, builtinV, load1, ldc, splice, minds, disj, rcOf, isCall, touchV, idsOf, mapId, touchB, p_buildSlice, buildSliceV, reps, fillV, p_convert, p_slice, evO, p_makeSlice, sid_some, soff_some, Nat.reduceLT, Nat.reduceLeDiff, Nat.reduceEqDiff, Nat.reduceAdd, Nat.reduceMul, Int.reduceBEq, Int.reduceEq, Int.reduceNeg, Int.reduceLT, Int.reduceLE, Int.reduceAdd, Int.reduceSub, Int.reduceMul, Int.reduceToNat, Int.reduceGT, Nat.reduceBEq, Nat.reducePow, Nat.reduceGT, reduceCtorEq, ↓reduceIte, t13, t14, t15]
      have hap := appendUint_ok gr2 (by omega) (zz_lt hvb.1 hvb.2) (by simp; omega)
      rw [List.length_append] at hap
      refine hap.mono ?_
      intro r h4 ha
      have hrow : [v.kind % 256] ++ uenc (zz v.int) = rowV v := by rw [rowV, if_pos k0]; rfl
      skip
      have ha2 := App.trans ho hle hk (App.base hxx (App.trans ho2 hl2 hk2 ha))
      rw [List.append_assoc, hrow, ← hsn] at ha2
      simp -dsimp (disch := first | with_reducible assumption | omega | (intro h_; cases h_; done) | (simp only [LN] <;> omega) | (simp only [LF]; done) | (repeat (first | with_reducible assumption | apply Ext.refl | apply Ext.app | (apply Ext.set <;> omega) | (refine Ext.trans ?_ (by assumption))))) only [AX, TY, gV, dstOf, p_makeFunc, p_mapUpdate, mapPut, entsOf, p_lookup, p_extract, p_nilCheck, oneV, p_load, p_store, p_binOp, p_unOp, p_indexAddr, p_index, p_box, p_build, evParts, builtinV, load1, ldc, splice, minds, disj, rcOf, isCall, touchV, idsOf, mapId, touchB, p_buildSlice, buildSliceV, reps, fillV, p_convert, p_slice, evO, p_makeSlice, sid_some, soff_some, Nat.reduceLT, Nat.reduceLeDiff, Nat.reduceEqDiff, Nat.reduceAdd, Nat.reduceMul, Int.reduceBEq, Int.reduceEq, Int.reduceNeg, Int.reduceLT, Int.reduceLE, Int.reduceAdd, Int.reduceSub, Int.reduceMul, Int.reduceToNat, Int.reduceGT, Nat.reduceBEq, Nat.reducePow, Nat.reduceGT, reduceCtorEq, ↓reduceIte, t13, t14, t15, wrap_in]
      refine ⟨m - 1, by omega, i + 1, by omega, ?_⟩
      constructor <;> (try first | assumption | ((repeat (first | assumption | apply Ext.refl | apply Ext.app | (apply Ext.set <;> omega) | exact Ext.trans (by assumption) (by assumption) | (refine Ext.trans ?_ (by assumption)))); done) | (refine Sl.ext (by assumption) ?_; (repeat (first | assumption | apply Ext.refl | apply Ext.app | (apply Ext.set <;> omega) | exact Ext.trans (by assumption) (by assumption) | (refine Ext.trans ?_ (by assumption)))); done) | (simp -dsimp (disch := first | with_reducible assumption | omega | (intro h_; cases h_; done) | (simp only [LN] <;> omega) | (simp only [LF]; done) | (repeat (first | with_reducible assumption | apply Ext.refl | apply Ext.app | (apply Ext.set <;> omega) | (refine Ext.trans ?_ (by assumption))))) only [AX, TY, gV, dstOf, p_makeFunc, p_mapUpdate, mapPut, entsOf, p_lookup, p_extract, p_nilCheck, oneV, p_load, p_store, p_binOp, p_unOp, p_indexAddr, p_index, p_box, p_build, evParts, builtinV, load1, ldc, splice, minds, disj, rcOf, isCall, touchV, idsOf, mapId, touchB, p_buildSlice, buildSliceV, reps, fillV, p_convert, p_slice, evO, p_makeSlice, sid_some, soff_some, Nat.reduceLT, Nat.reduceLeDiff, Nat.reduceEqDiff, Nat.reduceAdd, Nat.reduceMul, Int.reduceBEq, Int.reduceEq, Int.reduceNeg, Int.reduceLT, Int.reduceLE, Int.reduceAdd, Int.reduceSub, Int.reduceMul, Int.reduceToNat, Int.reduceGT, Nat.reduceBEq, Nat.reducePow, Nat.reduceGT, reduceCtorEq, ↓reduceIte, t13, t14, t15, wrap_in, Int.natCast_add, Int.natCast_one, Int.natCast_zero]; try (first | assumption | with_reducible rfl)))
    · have k3 : ¬ v.kind = 0 := by omega
      simp -dsimp (disch := first | with_reducible assumption | omega | (intro h_; cases h_; done) | (simp only [LN] <;> omega) | (simp only [LF]; done) | (repeat (first | with_reducible assumption | apply Ext.refl | apply Ext.app | (apply Ext.set <;> omega) | (refine Ext.trans ?_ (by assumption))))) only [AX, TY, gV, dstOf, p_makeFunc, p_mapUpdate, mapPut, entsOf, p_lookup, p_extract, p_nilCheck, oneV, p_load, p_store, p_binOp, p_unOp, p_indexAddr, p_index, p_box, p_build, evParts, builtinV, load1, ldc, splice, minds, disj, rcOf, isCall, touchV, idsOf, mapId, touchB, p_buildSlice, buildSliceV, reps, fillV, p_convert, p_slice, evO, p_makeSlice, sid_some, soff_some, Nat.reduceLT, Nat.reduceLeDiff, Nat.reduceEqDiff, Nat.reduceAdd, Nat.reduceMul, Int.reduceBEq, Int.reduceEq, Int.reduceNeg, Int.reduceLT, Int.reduceLE, Int.reduceAdd, Int.reduceSub, Int.reduceMul, Int.reduceToNat, Int.reduceGT, Nat.reduceBEq, Nat.reducePow, Nat.reduceGT, reduceCtorEq, ↓reduceIte, t13, t14, t15, loadN_fact gx2, k3, eq_true k0]
      have hap := appendString_ok gr2 (by omega) (s := v.text) (by omega) (by simp; omega)
      rw [List.length_append] at hap
      refine hap.mono ?_
      intro r h4 ha
      have hrow : [v.kind % 256] ++ senc v.text = rowV v := by rw [rowV, if_neg k3, if_pos k0]; rfl
      skip
      have ha2 := App.trans ho hle hk (App.base hxx (App.trans ho2 hl2 hk2 ha))
      rw [List.append_assoc, hrow, ← hsn] at ha2
      simp -dsimp (disch := first | with_reducible assumption | omega | (intro h_; cases h_; done) | (simp only [LN] <;> omega) | (simp only [LF]; done) | (repeat (first | with_reducible assumption | apply Ext.refl | apply Ext.app | (apply Ext.set <;> omega) | (refine Ext.trans ?_ (by assumption))))) only [AX, TY, gV, dstOf, p_makeFunc, p_mapUpdate, mapPut, entsOf, p_lookup, p_extract, p_nilCheck, oneV, p_load, p_store, p_binOp, p_unOp, p_indexAddr, p_index, p_box, p_build, evParts, builtinV, load1, ldc, splice, minds, disj, rcOf, isCall, touchV, idsOf, mapId, touchB, p_buildSlice, buildSliceV, reps, fillV, p_convert, p_slice, evO, p_makeSlice, sid_some, soff_some, Nat.reduceLT, Nat.reduceLeDiff, Nat.reduceEqDiff, Nat.reduceAdd, Nat.reduceMul, Int.reduceBEq, Int.reduceEq, Int.reduceNeg, Int.reduceLT, Int.reduceLE, Int.reduceAdd, Int.reduceSub, Int.reduceMul, Int.reduceToNat, Int.reduceGT, Nat.reduceBEq, Nat.reducePow, Nat.reduceGT, reduceCtorEq, ↓reduceIte, t13, t14, t15, wrap_in]
      refine ⟨m - 1, by omega, i + 1, by omega, ?_⟩
      constructor <;> (try first | assumption | ((repeat (first | assumption | apply Ext.refl | apply Ext.app | (apply Ext.set <;> omega) | exact Ext.trans (by assumption) (by assumption) | (refine Ext.trans ?_ (by assumption)))); done) | (refine Sl.ext (by assumption) ?_; (repeat (first | assumption | apply Ext.refl | apply Ext.app | (apply Ext.set <;> omega) | exact Ext.trans (by assumption) (by assumption) | (refine Ext.trans ?_ (by assumption)))); done) | (simp -dsimp (disch := first | with_reducible assumption | omega | (intro h_; cases h_; done) | (simp only [LN] <;> omega) | (simp only [LF]; done) | (repeat (first | with_reducible assumption | apply Ext.refl | apply Ext.app | (apply Ext.set <;> omega) | (refine Ext.trans ?_ (by assumption))))) only [AX, TY, gV, dstOf, p_makeFunc, p_mapUpdate, mapPut, entsOf, p_lookup, p_extract, p_nilCheck, oneV, p_load, p_store, p_binOp, p_unOp, p_indexAddr, p_index, p_box, p_build, evParts, builtinV, load1, ldc, splice, minds, disj, rcOf, isCall, touchV, idsOf, mapId, touchB, p_buildSlice, buildSliceV, reps, fillV, p_convert, p_slice, evO, p_makeSlice, sid_some, soff_some, Nat.reduceLT, Nat.reduceLeDiff, Nat.reduceEqDiff, Nat.reduceAdd, Nat.reduceMul, Int.reduceBEq, Int.reduceEq, Int.reduceNeg, Int.reduceLT, Int.reduceLE, Int.reduceAdd, Int.reduceSub, Int.reduceMul, Int.reduceToNat, Int.reduceGT, Nat.reduceBEq, Nat.reducePow, Nat.reduceGT, reduceCtorEq, ↓reduceIte, t13, t14, t15, wrap_in, Int.natCast_add, Int.natCast_one, Int.natCast_zero]; try (first | assumption | with_reducible rfl)))
    · have k3 : ¬ v.kind = 0 := by omega
      have k4 : ¬ v.kind = 1 := by omega
      simp -dsimp (disch := first | with_reducible assumption | omega | (intro h_; cases h_; done) | (simp only [LN] <;> omega) | (simp only [LF]; done) | (repeat (first | with_reducible assumption | apply Ext.refl | apply Ext.app | (apply Ext.set <;> omega) | (refine Ext.trans ?_ (by assumption))))) only [AX, TY, gV, dstOf, p_makeFunc, p_mapUpdate, mapPut, entsOf, p_lookup, p_extract, p_nilCheck, oneV, p_load, p_store, p_binOp, p_unOp, p_indexAddr, p_index, p_box, p_build, evParts, builtinV, load1, ldc, splice, minds, disj, rcOf, isCall, touchV, idsOf, mapId, touchB, p_buildSlice, buildSliceV, reps, fillV, p_convert, p_slice, evO, p_makeSlice, sid_some, soff_some, Nat.reduceLT, Nat.reduceLeDiff, Nat.reduceEqDiff, Nat.reduceAdd, Nat.reduceMul, Int.reduceBEq, Int.reduceEq, Int.reduceNeg, Int.reduceLT, Int.reduceLE, Int.reduceAdd, Int.reduceSub, Int.reduceMul, Int.reduceToNat, Int.reduceGT, Nat.reduceBEq, Nat.reducePow, Nat.reduceGT, reduceCtorEq, ↓reduceIte, t13, t14, t15, loadN_fact gx2, k3, k4, hwi]
      have hap := gr2.wrB (by omega) (hh := h3 ++ [O.cells [V.int IntKind.u8 (v.int % 256)] Kd.rw]) (bytes := 1) (vc := some 1) (n := 1) (by (repeat (first | assumption | apply Ext.refl | apply Ext.app | (apply Ext.set <;> omega) | exact Ext.trans (by assumption) (by assumption) | (refine Ext.trans ?_ (by assumption))))) [v.int % 256] (snoc_last _ rfl) rfl (eb_w _) (eb_l _) (by simp; omega) (by simp; omega)
      rw [List.length_append] at hap
      refine hap.mono ?_
      intro r h4 ha
      have hrow : [v.kind % 256] ++ [v.int % 256] = rowV v := by rw [rowV, if_neg k3, if_neg k4]; rfl
      skip
      have ha2 := App.trans ho hle hk (App.base hxx (App.trans ho2 hl2 hk2 ha))
      rw [List.append_assoc, hrow, ← hsn] at ha2
      simp -dsimp (disch := first | with_reducible assumption | omega | (intro h_; cases h_; done) | (simp only [LN] <;> omega) | (simp only [LF]; done) | (repeat (first | with_reducible assumption | apply Ext.refl | apply Ext.app | (apply Ext.set <;> omega) | (refine Ext.trans ?_ (by assumption))))) only [AX, TY, gV, dstOf, p_makeFunc, p_mapUpdate, mapPut, entsOf, p_lookup, p_extract, p_nilCheck, oneV, p_load, p_store, p_binOp, p_unOp, p_indexAddr, p_index, p_box, p_build, evParts, builtinV, load1, ldc, splice, minds, disj, rcOf, isCall, touchV, idsOf, mapId, touchB, p_buildSlice, buildSliceV, reps, fillV, p_convert, p_slice, evO, p_makeSlice, sid_some, soff_some, Nat.reduceLT, Nat.reduceLeDiff, Nat.reduceEqDiff, Nat.reduceAdd, Nat.reduceMul, Int.reduceBEq, Int.reduceEq, Int.reduceNeg, Int.reduceLT, Int.reduceLE, Int.reduceAdd, Int.reduceSub, Int.reduceMul, Int.reduceToNat, Int.reduceGT, Nat.reduceBEq, Nat.reducePow, Nat.reduceGT, reduceCtorEq, ↓reduceIte, t13, t14, t15, wrap_in]
      refine ⟨m - 1, by omega, i + 1, by omega, ?_⟩
      constructor <;> (try first | assumption | ((repeat (first | assumption | apply Ext.refl | apply Ext.app | (apply Ext.set <;> omega) | exact Ext.trans (by assumption) (by assumption) | (refine Ext.trans ?_ (by assumption)))); done) | (refine Sl.ext (by assumption) ?_; (repeat (first | assumption | apply Ext.refl | apply Ext.app | (apply Ext.set <;> omega) | exact Ext.trans (by assumption) (by assumption) | (refine Ext.trans ?_ (by assumption)))); done) | (simp -dsimp (disch := first | with_reducible assumption | omega | (intro h_; cases h_; done) | (simp only [LN] <;> omega) | (simp only [LF]; done) | (repeat (first | with_reducible assumption | apply Ext.refl | apply Ext.app | (apply Ext.set <;> omega) | (refine Ext.trans ?_ (by assumption))))) only [AX, TY, gV, dstOf, p_makeFunc, p_mapUpdate, mapPut, entsOf, p_lookup, p_extract, p_nilCheck, oneV, p_load, p_store, p_binOp, p_unOp, p_indexAddr, p_index, p_box, p_build, evParts, builtinV, load1, ldc, splice, minds, disj, rcOf, isCall, touchV, idsOf, mapId, touchB, p_buildSlice, buildSliceV, reps, fillV, p_convert, p_slice, evO, p_makeSlice, sid_some, soff_some, Nat.reduceLT, Nat.reduceLeDiff, Nat.reduceEqDiff, Nat.reduceAdd, Nat.reduceMul, Int.reduceBEq, Int.reduceEq, Int.reduceNeg, Int.reduceLT, Int.reduceLE, Int.reduceAdd, Int.reduceSub, Int.reduceMul, Int.reduceToNat, Int.reduceGT, Nat.reduceBEq, Nat.reducePow, Nat.reduceGT, reduceCtorEq, ↓reduceIte, t13, t14, t15, wrap_in, Int.natCast_add, Int.natCast_one, Int.natCast_zero]; try (first | assumption | with_reducible rfl)))
  · have hL : rowP ys.length (ys.take i) = encRow ys := by rw [List.take_of_length_le (by omega), encRow, hv]; rfl
    rw [hL] at ha0
    obtain ⟨p', c', oid', t3, gr, ho, hle, hk⟩ := ha0
    simp -dsimp (disch := first | with_reducible assumption | omega | (intro h_; cases h_; done) | (simp only [LN] <;> omega) | (simp only [LF]; done) | (repeat (first | with_reducible assumption | apply Ext.refl | apply Ext.app | (apply Ext.set <;> omega) | (refine Ext.trans ?_ (by assumption))))) only [AX, TY, gV, dstOf, p_makeFunc, p_mapUpdate, mapPut, entsOf, p_lookup, p_extract, p_nilCheck, oneV, p_load, p_store, p_binOp, p_unOp, p_indexAddr, p_index, p_box, p_build, evParts, builtinV, load1, ldc, splice, minds, disj, rcOf, isCall, touchV, idsOf, mapId, touchB, p_buildSlice, buildSliceV, reps, fillV, p_convert, p_slice, evO, p_makeSlice, sid_some, soff_some, Nat.reduceLT, Nat.reduceLeDiff, Nat.reduceEqDiff, Nat.reduceAdd, Nat.reduceMul, Int.reduceBEq, Int.reduceEq, Int.reduceNeg, Int.reduceLT, Int.reduceLE, Int.reduceAdd, Int.reduceSub, Int.reduceMul, Int.reduceToNat, Int.reduceGT, Nat.reduceBEq, Nat.reducePow, Nat.reduceGT, reduceCtorEq, ↓reduceIte, t3, t13, t14, t15, h2]
    exact ⟨e1.trans eh, p', c', oid', rfl, gr.lower e1.le⟩
end Go.Proofs.YtngcicclaehpbaaDoorA
