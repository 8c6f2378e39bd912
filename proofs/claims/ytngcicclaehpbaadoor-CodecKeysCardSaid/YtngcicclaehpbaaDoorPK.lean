/- Words of this session: chapter 4: numbers in base 128, decoded. Words of this session: chapter 4: strings, appended and read. -/
import Derived.Test.YtngcicclaehpbaaDoorPG
namespace Go.Proofs.YtngcicclaehpbaaDoorA
open Go Go.Proofs Go.RowKit
set_option linter.unusedVariables false
set_option linter.unusedSimpArgs false
set_option maxRecDepth 10000
set_option maxHeartbeats 1000000
theorem udecG_10 {i acc : Nat} {l : List Int} (h : 10 ≤ i) : udecG i acc l = none := by cases l <;> simp [udecG, h]
def uintR (o : Option (Nat × Nat)) : V := match o with
  | some (n, k) => V.tuple [.int .u64 n, .int .i64 k, .int .i64 0]
  | none => V.tuple [.int .u64 0, .int .i64 0, .int .i64 12]
def uintR2 (o : Option (Nat × Nat)) : V := match o with
  | some (n, k) => V.tuple [.int .u64 n, .int .i64 k]
  | none => V.tuple [.int .u64 0, .int .i64 (-1)]
theorem pow128 (i : Nat) : 128 ^ i = 2 ^ (7 * i) := by rw [Nat.pow_mul]
theorem pow128_lt {i : Nat} (h : i ≤ 8) : 128 ^ i ≤ 72057594037927936 := Nat.le_trans (Nat.pow_le_pow_right (by omega) h) (by decide)
theorem udec_shl {i d : Nat} (hi : i ≤ 9) (hd : d < 128) (h9 : i = 9 → d ≤ 1) : d * 128 ^ i < 18446744073709551616 := by
  by_cases h99 : i = 9
  · subst h99
    have h3 : d * 128 ^ 9 ≤ 1 * 128 ^ 9 := Nat.mul_le_mul_right _ (h9 rfl)
    have : (128 : Nat) ^ 9 = 9223372036854775808 := by decide
    omega
  · have h5 : d * 128 ^ i ≤ 127 * 72057594037927936 := Nat.mul_le_mul (by omega) (pow128_lt (by omega))
    omega
theorem shl_u64 {i d : Nat} (hi : i ≤ 9) (hd : d < 128) (h9 : i = 9 → d ≤ 1) {k' : IntKind} (ty : TypeId) (x y : Operand) : binV Tryd.prog .shl ty x y (.int .u64 (d : Int)) (.int k' (7 * (i : Int))) = some (.int .u64 ((d * 128 ^ i : Nat) : Int)) := by
  have hlt := udec_shl hi hd h9
  rw [shl_of (by omega), show (7 * (i : Int)).toNat = 7 * i by omega, show min (7 * i) IntKind.u64.bits = 7 * i from Nat.min_eq_left (by simp only [IntKind.bits]; omega), w_u64]
  have : (d : Int) * 2 ^ (7 * i) = ((d * 128 ^ i : Nat) : Int) := by rw [pow128]; simp
  rw [this]
  have : ((d * 128 ^ i : Nat) : Int) % 18446744073709551616 = ((d * 128 ^ i : Nat) : Int) := Int.emod_eq_of_lt (by omega) (by omega)
  rw [this]
theorem or_acc {i d acc : Nat} (ha : acc < 128 ^ i) (hlt : d * 128 ^ i < 18446744073709551616) (hp : acc < 18446744073709551616) : IntKind.u64.wrap ((BitVec.ofInt IntKind.u64.bits (acc : Int) ||| BitVec.ofInt IntKind.u64.bits ((d * 128 ^ i : Nat) : Int)).toNat : Int) = ((acc + d * 128 ^ i : Nat) : Int) := by
  rw [or_u64 hp hlt]
  rw [pow128] at *
  rw [Nat.or_comm, Nat.mul_comm, ← Nat.two_pow_add_eq_or_of_lt ha]; congr 1; omega
theorem and127_u8 {n : Nat} (h : n < 256) : IntKind.u8.wrap ((BitVec.ofInt IntKind.u8.bits (n : Int) &&& BitVec.ofInt IntKind.u8.bits 127).toNat : Int) = ((n % 128 : Nat) : Int) := by
  have h1 := and_u8 (a := n) (b := 127) h (by decide)
  rw [show ((127 : Nat) : Int) = 127 from rfl, and_127] at h1
  exact h1
theorem acc_lt {i acc : Nat} (hi : i ≤ 9) (h : acc < 128 ^ i) : acc < 9223372036854775808 := Nat.lt_of_lt_of_le h (Nat.le_trans (Nat.pow_le_pow_right (by omega) hi) (by decide))
theorem acc_next {i acc d : Nat} (h : acc < 128 ^ i) (hd : d < 128) : acc + d * 128 ^ i < 128 ^ (i + 1) := by
  have h3 : d * 128 ^ i ≤ 127 * 128 ^ i := Nat.mul_le_mul_right _ (by omega)
  rw [Nat.pow_succ]; omega
theorem uint_ok {h : Heap} {p : Option (Nat × Nat)} {c : Option Nat} {l : List Int} (hs : Sl h p 1 eb l) (hb : Bt l) : WR (callE Tryd.prog hk 24 [.slice p l.length c] h) fun r h' => h = h' ∧ r = uintR (udec l) := by
  have hn := hs.nil'
  have hl := hs.small
  refine WR.call (hH := rfl) Tryd.func24 rfl (n := 47) rfl rfl (by simp) ?_
  simp -dsimp (disch := first | with_reducible assumption | omega | (intro h_; cases h_; done) | (simp only [LN] <;> omega) | (simp only [LF]; done) | (repeat (first | with_reducible assumption | apply Ext.refl | apply Ext.app | (apply Ext.set <;> omega) | (refine Ext.trans ?_ (by assumption))))) only [AX, TY, gV, dstOf, p_makeFunc, p_mapUpdate, mapPut, entsOf, p_lookup, p_extract, p_nilCheck, oneV, p_load, p_store, p_binOp, p_unOp, p_indexAddr, p_index, p_box, p_build, evParts, builtinV, load1, ldc, splice, minds, disj, rcOf, isCall, touchV, idsOf, mapId, touchB, p_buildSlice, buildSliceV, reps, fillV, p_convert, p_slice, evO, p_makeSlice, sid_some, soff_some, Nat.reduceLT, Nat.reduceLeDiff, Nat.reduceEqDiff, Nat.reduceAdd, Nat.reduceMul, Int.reduceBEq, Int.reduceEq, Int.reduceNeg, Int.reduceLT, Int.reduceLE, Int.reduceAdd, Int.reduceSub, Int.reduceMul, Int.reduceToNat, Int.reduceGT, Nat.reduceBEq, Nat.reducePow, Nat.reduceGT, reduceCtorEq, ↓reduceIte]
  refine W.loop (fun m τ hh => h = hh ∧ ∃ i acc : Nat, m + i = 10 ∧ i ≤ l.length ∧ acc < 128 ^ i ∧ τ 0 = .slice p l.length c ∧ τ 5 = .int .u64 (acc : Int) ∧ τ 6 = .int .i64 i ∧ udecG i acc (l.drop i) = udec l) ?_ (m := 10) ?_
  rotate_left
  · exact ⟨rfl, 0, 0, rfl, by omega, by decide, rfl, rfl, rfl, rfl⟩
  rintro m τ _ ⟨rfl, i, acc, hm, hil, hacc, t0, t5, t6, hud⟩
  by_cases h1 : (i : Int) < (l.length : Int)
  rotate_left
  · rw [List.drop_of_length_le (by omega), udecG] at hud
    simp -dsimp (disch := first | with_reducible assumption | omega | (intro h_; cases h_; done) | (simp only [LN] <;> omega) | (simp only [LF]; done) | (repeat (first | with_reducible assumption | apply Ext.refl | apply Ext.app | (apply Ext.set <;> omega) | (refine Ext.trans ?_ (by assumption))))) only [AX, TY, gV, dstOf, p_makeFunc, p_mapUpdate, mapPut, entsOf, p_lookup, p_extract, p_nilCheck, oneV, p_load, p_store, p_binOp, p_unOp, p_indexAddr, p_index, p_box, p_build, evParts, builtinV, load1, ldc, splice, minds, disj, rcOf, isCall, touchV, idsOf, mapId, touchB, p_buildSlice, buildSliceV, reps, fillV, p_convert, p_slice, evO, p_makeSlice, sid_some, soff_some, Nat.reduceLT, Nat.reduceLeDiff, Nat.reduceEqDiff, Nat.reduceAdd, Nat.reduceMul, Int.reduceBEq, Int.reduceEq, Int.reduceNeg, Int.reduceLT, Int.reduceLE, Int.reduceAdd, Int.reduceSub, Int.reduceMul, Int.reduceToNat, Int.reduceGT, Nat.reduceBEq, Nat.reducePow, Nat.reduceGT, reduceCtorEq, ↓reduceIte, t0, t5, t6, h1]
    rw [← hud]; rfl
  by_cases h2 : (i : Int) < 10
  rotate_left
  · rw [udecG_10 (by omega)] at hud
    simp -dsimp (disch := first | with_reducible assumption | omega | (intro h_; cases h_; done) | (simp only [LN] <;> omega) | (simp only [LF]; done) | (repeat (first | with_reducible assumption | apply Ext.refl | apply Ext.app | (apply Ext.set <;> omega) | (refine Ext.trans ?_ (by assumption))))) only [AX, TY, gV, dstOf, p_makeFunc, p_mapUpdate, mapPut, entsOf, p_lookup, p_extract, p_nilCheck, oneV, p_load, p_store, p_binOp, p_unOp, p_indexAddr, p_index, p_box, p_build, evParts, builtinV, load1, ldc, splice, minds, disj, rcOf, isCall, touchV, idsOf, mapId, touchB, p_buildSlice, buildSliceV, reps, fillV, p_convert, p_slice, evO, p_makeSlice, sid_some, soff_some, Nat.reduceLT, Nat.reduceLeDiff, Nat.reduceEqDiff, Nat.reduceAdd, Nat.reduceMul, Int.reduceBEq, Int.reduceEq, Int.reduceNeg, Int.reduceLT, Int.reduceLE, Int.reduceAdd, Int.reduceSub, Int.reduceMul, Int.reduceToNat, Int.reduceGT, Nat.reduceBEq, Nat.reducePow, Nat.reduceGT, reduceCtorEq, ↓reduceIte, t0, t5, t6, h1, h2]
    rw [← hud]; rfl
  have hi : i < l.length := by omega
  have hxb := hb _ (List.getElem_mem hi)
  rw [List.drop_eq_getElem_cons hi, udecG] at hud
  obtain ⟨x, hx⟩ : ∃ x : Nat, l[i] = (x : Int) := ⟨l[i].toNat, by omega⟩
  have hld := fun hh e m hm => hs.load0 (hh := hh) e hi (m := m) hm
  rw [hx] at hud hxb hld
  simp only [eb] at hld
  rw [if_neg (by omega)] at hud
  have hw7 : IntKind.i64.wrap (7 * (i : Int)) = 7 * (i : Int) := by rw [IntKind.wrap_i64]; omega
  have hwx : IntKind.u64.wrap ((x % 128 : Nat) : Int) = ((x % 128 : Nat) : Int) := by rw [w_u64]; omega
  have hxlt : x < 256 := by omega
  by_cases h3 : i = 9 ∧ (1 : Int) < (x : Int)
  · rw [if_pos h3] at hud
    have h4 : (i : Int) = 9 := by omega
    have h5 : (1 : Int) < (x : Int) := h3.2
    simp -dsimp (disch := first | with_reducible assumption | omega | (intro h_; cases h_; done) | (simp only [LN] <;> omega) | (simp only [LF]; done) | (repeat (first | with_reducible assumption | apply Ext.refl | apply Ext.app | (apply Ext.set <;> omega) | (refine Ext.trans ?_ (by assumption))))) only [AX, TY, gV, dstOf, p_makeFunc, p_mapUpdate, mapPut, entsOf, p_lookup, p_extract, p_nilCheck, oneV, p_load, p_store, p_binOp, p_unOp, p_indexAddr, p_index, p_box, p_build, evParts, builtinV, load1, ldc, splice, minds, disj, rcOf, isCall, touchV, idsOf, mapId, touchB, p_buildSlice, buildSliceV, reps, fillV, p_convert, p_slice, evO, p_makeSlice, sid_some, soff_some, Nat.reduceLT, Nat.reduceLeDiff, Nat.reduceEqDiff, Nat.reduceAdd, Nat.reduceMul, Int.reduceBEq, Int.reduceEq, Int.reduceNeg, Int.reduceLT, Int.reduceLE, Int.reduceAdd, Int.reduceSub, Int.reduceMul, Int.reduceToNat, Int.reduceGT, Nat.reduceBEq, Nat.reducePow, Nat.reduceGT, reduceCtorEq, ↓reduceIte, t0, t5, t6, h1, h2, hld, eq_true h4, eq_true h5]
    rw [← hud]; rfl
  rw [if_neg h3] at hud
  have h9 : i = 9 → x % 128 ≤ 1 := fun e => by omega
  have hsh := fun ty y z => shl_u64 (k' := .i64) (show i ≤ 9 by omega) (show x % 128 < 128 by omega) h9 ty y z
  have hor := or_acc hacc (udec_shl (show i ≤ 9 by omega) (show x % 128 < 128 by omega) h9) (by have := acc_lt (show i ≤ 9 by omega) hacc; omega)
  have hnx := acc_next hacc (show x % 128 < 128 by omega)
  have A : (((i : Int) = 9) = True ∧ ¬ (1 : Int) < (x : Int)) ∨ (((i : Int) = 9) = False ∧ ¬ (i : Int) = 9) := by
    by_cases q : (i : Int) = 9
    · exact .inl ⟨eq_true q, by omega⟩
    · exact .inr ⟨eq_false q, q⟩
  by_cases h4 : (x : Int) < 128
  · have hx128 : x % 128 = x := by omega
    rw [if_pos h4] at hud
    by_cases h6 : (x : Int) = 0 ∧ 0 < i
    · rw [if_pos h6] at hud
      have h7 : (x : Int) = 0 := h6.1
      have h8 : (0 : Int) < (i : Int) := by omega
      rcases A with ⟨f5, f6⟩ | ⟨f5, f6⟩
      all_goals
        simp -dsimp (disch := first | with_reducible assumption | omega | (intro h_; cases h_; done) | (simp only [LN] <;> omega) | (simp only [LF]; done) | (repeat (first | with_reducible assumption | apply Ext.refl | apply Ext.app | (apply Ext.set <;> omega) | (refine Ext.trans ?_ (by assumption))))) only [AX, TY, gV, dstOf, p_makeFunc, p_mapUpdate, mapPut, entsOf, p_lookup, p_extract, p_nilCheck, oneV, p_load, p_store, p_binOp, p_unOp, p_indexAddr, p_index, p_box, p_build, evParts, builtinV, load1, ldc, splice, minds, disj, rcOf, isCall, touchV, idsOf, mapId, touchB, p_buildSlice, buildSliceV, reps, fillV, p_convert, p_slice, evO, p_makeSlice, sid_some, soff_some, Nat.reduceLT, Nat.reduceLeDiff, Nat.reduceEqDiff, Nat.reduceAdd, Nat.reduceMul, Int.reduceBEq, Int.reduceEq, Int.reduceNeg, Int.reduceLT, Int.reduceLE, Int.reduceAdd, Int.reduceSub, Int.reduceMul, Int.reduceToNat, Int.reduceGT, Nat.reduceBEq, Nat.reducePow, Nat.reduceGT, reduceCtorEq, ↓reduceIte, t0, t5, t6, h1, h2, hld, f5, f6, and127_u8 hxlt, hw7, hwx, hsh, hor, eq_true h7, eq_true h8, h4]
        rw [← hud]; rfl
    · rw [if_neg h6, Int.toNat_natCast] at hud
      have B : (((x : Int) = 0) = True ∧ ¬ (0 : Int) < (i : Int)) ∨ (((x : Int) = 0) = False ∧ ¬ (x : Int) = 0) := by
        by_cases q : (x : Int) = 0
        · exact .inl ⟨eq_true q, by omega⟩
        · exact .inr ⟨eq_false q, q⟩
      rcases A with ⟨f5, f6⟩ | ⟨f5, f6⟩ <;> rcases B with ⟨f7, f8⟩ | ⟨f7, f8⟩
      all_goals
        simp -dsimp (disch := first | with_reducible assumption | omega | (intro h_; cases h_; done) | (simp only [LN] <;> omega) | (simp only [LF]; done) | (repeat (first | with_reducible assumption | apply Ext.refl | apply Ext.app | (apply Ext.set <;> omega) | (refine Ext.trans ?_ (by assumption))))) only [AX, TY, gV, dstOf, p_makeFunc, p_mapUpdate, mapPut, entsOf, p_lookup, p_extract, p_nilCheck, oneV, p_load, p_store, p_binOp, p_unOp, p_indexAddr, p_index, p_box, p_build, evParts, builtinV, load1, ldc, splice, minds, disj, rcOf, isCall, touchV, idsOf, mapId, touchB, p_buildSlice, buildSliceV, reps, fillV, p_convert, p_slice, evO, p_makeSlice, sid_some, soff_some, Nat.reduceLT, Nat.reduceLeDiff, Nat.reduceEqDiff, Nat.reduceAdd, Nat.reduceMul, Int.reduceBEq, Int.reduceEq, Int.reduceNeg, Int.reduceLT, Int.reduceLE, Int.reduceAdd, Int.reduceSub, Int.reduceMul, Int.reduceToNat, Int.reduceGT, Nat.reduceBEq, Nat.reducePow, Nat.reduceGT, reduceCtorEq, ↓reduceIte, t0, t5, t6, h1, h2, hld, f5, f6, and127_u8 hxlt, hw7, hwx, hsh, hor, f7, f8, h4, wrap_in]
        rw [← hud, hx128]; rfl
  · have hxm : (x : Int).toNat - 128 = x % 128 := by omega
    rw [if_neg h4, hxm] at hud
    rcases A with ⟨f5, f6⟩ | ⟨f5, f6⟩
    all_goals
      simp -dsimp (disch := first | with_reducible assumption | omega | (intro h_; cases h_; done) | (simp only [LN] <;> omega) | (simp only [LF]; done) | (repeat (first | with_reducible assumption | apply Ext.refl | apply Ext.app | (apply Ext.set <;> omega) | (refine Ext.trans ?_ (by assumption))))) only [AX, TY, gV, dstOf, p_makeFunc, p_mapUpdate, mapPut, entsOf, p_lookup, p_extract, p_nilCheck, oneV, p_load, p_store, p_binOp, p_unOp, p_indexAddr, p_index, p_box, p_build, evParts, builtinV, load1, ldc, splice, minds, disj, rcOf, isCall, touchV, idsOf, mapId, touchB, p_buildSlice, buildSliceV, reps, fillV, p_convert, p_slice, evO, p_makeSlice, sid_some, soff_some, Nat.reduceLT, Nat.reduceLeDiff, Nat.reduceEqDiff, Nat.reduceAdd, Nat.reduceMul, Int.reduceBEq, Int.reduceEq, Int.reduceNeg, Int.reduceLT, Int.reduceLE, Int.reduceAdd, Int.reduceSub, Int.reduceMul, Int.reduceToNat, Int.reduceGT, Nat.reduceBEq, Nat.reducePow, Nat.reduceGT, reduceCtorEq, ↓reduceIte, t0, t5, t6, h1, h2, hld, f5, f6, and127_u8 hxlt, hw7, hwx, hsh, hor, h4, wrap_in]
      exact ⟨m - 1, by omega, i + 1, acc + x % 128 * 128 ^ i, by omega, by omega, hnx, by simp, by simp, hud⟩
theorem refUint_ok {h : Heap} {p : Option (Nat × Nat)} {c : Option Nat} {l : List Int} (hs : Sl h p 1 eb l) (hb : Bt l) : WR (callE Tryd.prog hk 25 [.slice p l.length c] h) fun r h' => h = h' ∧ r = uintR2 (udec l) := by
  have hn := hs.nil'
  have hl := hs.small
  refine WR.call (hH := rfl) Tryd.func25 rfl (n := 50) rfl rfl (by simp) ?_
  simp -dsimp (disch := first | with_reducible assumption | omega | (intro h_; cases h_; done) | (simp only [LN] <;> omega) | (simp only [LF]; done) | (repeat (first | with_reducible assumption | apply Ext.refl | apply Ext.app | (apply Ext.set <;> omega) | (refine Ext.trans ?_ (by assumption))))) only [AX, TY, gV, dstOf, p_makeFunc, p_mapUpdate, mapPut, entsOf, p_lookup, p_extract, p_nilCheck, oneV, p_load, p_store, p_binOp, p_unOp, p_indexAddr, p_index, p_box, p_build, evParts, builtinV, load1, ldc, splice, minds, disj, rcOf, isCall, touchV, idsOf, mapId, touchB, p_buildSlice, buildSliceV, reps, fillV, p_convert, p_slice, evO, p_makeSlice, sid_some, soff_some, Nat.reduceLT, Nat.reduceLeDiff, Nat.reduceEqDiff, Nat.reduceAdd, Nat.reduceMul, Int.reduceBEq, Int.reduceEq, Int.reduceNeg, Int.reduceLT, Int.reduceLE, Int.reduceAdd, Int.reduceSub, Int.reduceMul, Int.reduceToNat, Int.reduceGT, Nat.reduceBEq, Nat.reducePow, Nat.reduceGT, reduceCtorEq, ↓reduceIte]
  refine W.loop (fun m τ hh => h = hh ∧ ∃ i acc : Nat, m + i = 10 ∧ i ≤ l.length ∧ (acc < 128 ^ i) ∧ τ 0 = .slice p l.length c ∧ τ 4 = .int .u64 (acc : Int) ∧ τ 5 = .int .i64 i ∧ udecG i acc (l.drop i) = udec l) ?_ (m := 10) ?_
  rotate_left
  · exact ⟨rfl, 0, 0, rfl, by omega, by decide, rfl, rfl, rfl, rfl⟩
  rintro m τ _ ⟨rfl, i, acc, hm, hil, hacc, t0, t4, t5, hud⟩
  by_cases h1 : (i : Int) < (l.length : Int)
  rotate_left
  · rw [List.drop_of_length_le (by omega), udecG] at hud
    simp -dsimp (disch := first | with_reducible assumption | omega | (intro h_; cases h_; done) | (simp only [LN] <;> omega) | (simp only [LF]; done) | (repeat (first | with_reducible assumption | apply Ext.refl | apply Ext.app | (apply Ext.set <;> omega) | (refine Ext.trans ?_ (by assumption))))) only [AX, TY, gV, dstOf, p_makeFunc, p_mapUpdate, mapPut, entsOf, p_lookup, p_extract, p_nilCheck, oneV, p_load, p_store, p_binOp, p_unOp, p_indexAddr, p_index, p_box, p_build, evParts, builtinV, load1, ldc, splice, minds, disj, rcOf, isCall, touchV, idsOf, mapId, touchB, p_buildSlice, buildSliceV, reps, fillV, p_convert, p_slice, evO, p_makeSlice, sid_some, soff_some, Nat.reduceLT, Nat.reduceLeDiff, Nat.reduceEqDiff, Nat.reduceAdd, Nat.reduceMul, Int.reduceBEq, Int.reduceEq, Int.reduceNeg, Int.reduceLT, Int.reduceLE, Int.reduceAdd, Int.reduceSub, Int.reduceMul, Int.reduceToNat, Int.reduceGT, Nat.reduceBEq, Nat.reducePow, Nat.reduceGT, reduceCtorEq, ↓reduceIte, t0, t4, t5, h1]
    rw [← hud]; rfl
  by_cases h2 : (i : Int) < 10
  rotate_left
  · rw [udecG_10 (by omega)] at hud
    simp -dsimp (disch := first | with_reducible assumption | omega | (intro h_; cases h_; done) | (simp only [LN] <;> omega) | (simp only [LF]; done) | (repeat (first | with_reducible assumption | apply Ext.refl | apply Ext.app | (apply Ext.set <;> omega) | (refine Ext.trans ?_ (by assumption))))) only [AX, TY, gV, dstOf, p_makeFunc, p_mapUpdate, mapPut, entsOf, p_lookup, p_extract, p_nilCheck, oneV, p_load, p_store, p_binOp, p_unOp, p_indexAddr, p_index, p_box, p_build, evParts, builtinV, load1, ldc, splice, minds, disj, rcOf, isCall, touchV, idsOf, mapId, touchB, p_buildSlice, buildSliceV, reps, fillV, p_convert, p_slice, evO, p_makeSlice, sid_some, soff_some, Nat.reduceLT, Nat.reduceLeDiff, Nat.reduceEqDiff, Nat.reduceAdd, Nat.reduceMul, Int.reduceBEq, Int.reduceEq, Int.reduceNeg, Int.reduceLT, Int.reduceLE, Int.reduceAdd, Int.reduceSub, Int.reduceMul, Int.reduceToNat, Int.reduceGT, Nat.reduceBEq, Nat.reducePow, Nat.reduceGT, reduceCtorEq, ↓reduceIte, t0, t4, t5, h1, h2]
    rw [← hud]; rfl
  have hi : i < l.length := by omega
  have hxb := hb _ (List.getElem_mem hi)
  rw [List.drop_eq_getElem_cons hi, udecG] at hud
  obtain ⟨x, hx⟩ : ∃ x : Nat, l[i] = (x : Int) := ⟨l[i].toNat, by omega⟩
  have hld := fun hh e m hm => hs.load0 (hh := hh) e hi (m := m) hm
  rw [hx] at hud hxb hld
  simp only [eb] at hld
  rw [if_neg (by omega)] at hud
  have hw7 : IntKind.i64.wrap (7 * (i : Int)) = 7 * (i : Int) := by rw [IntKind.wrap_i64]; omega
  have hw8 : IntKind.u64.wrap (7 * (i : Int)) = 7 * (i : Int) := by rw [w_u64]; omega
  have hwx : IntKind.u64.wrap ((x % 128 : Nat) : Int) = ((x % 128 : Nat) : Int) := by rw [w_u64]; omega
  have hxlt : x < 256 := by omega
  by_cases h3 : i = 9 ∧ 1 < x % 128
  · have hud2 : none = udec l := by
      by_cases q : i = 9 ∧ (1 : Int) < (x : Int)
      · rw [if_pos q] at hud; exact hud
      · omega
    have h4 : (i : Int) = 9 := by omega
    have h5 : (1 : Int) < ((x % 128 : Nat) : Int) := by omega
    simp -dsimp (disch := first | with_reducible assumption | omega | (intro h_; cases h_; done) | (simp only [LN] <;> omega) | (simp only [LF]; done) | (repeat (first | with_reducible assumption | apply Ext.refl | apply Ext.app | (apply Ext.set <;> omega) | (refine Ext.trans ?_ (by assumption))))) only [AX, TY, gV, dstOf, p_makeFunc, p_mapUpdate, mapPut, entsOf, p_lookup, p_extract, p_nilCheck, oneV, p_load, p_store, p_binOp, p_unOp, p_indexAddr, p_index, p_box, p_build, evParts, builtinV, load1, ldc, splice, minds, disj, rcOf, isCall, touchV, idsOf, mapId, touchB, p_buildSlice, buildSliceV, reps, fillV, p_convert, p_slice, evO, p_makeSlice, sid_some, soff_some, Nat.reduceLT, Nat.reduceLeDiff, Nat.reduceEqDiff, Nat.reduceAdd, Nat.reduceMul, Int.reduceBEq, Int.reduceEq, Int.reduceNeg, Int.reduceLT, Int.reduceLE, Int.reduceAdd, Int.reduceSub, Int.reduceMul, Int.reduceToNat, Int.reduceGT, Nat.reduceBEq, Nat.reducePow, Nat.reduceGT, reduceCtorEq, ↓reduceIte, t0, t4, t5, h1, h2, hld, and127_u8 hxlt, hwx, eq_true h4, eq_true h5]
    rw [← hud2]; rfl
  have h9 : i = 9 → x % 128 ≤ 1 := fun e => by omega
  have hsh := fun ty y z => shl_u64 (k' := .u64) (show i ≤ 9 by omega) (show x % 128 < 128 by omega) h9 ty y z
  have hor := or_acc hacc (udec_shl (show i ≤ 9 by omega) (show x % 128 < 128 by omega) h9) (by have := acc_lt (show i ≤ 9 by omega) hacc; omega)
  have hnx := acc_next hacc (show x % 128 < 128 by omega)
  have A : (((i : Int) = 9) = True ∧ ¬ (1 : Int) < ((x % 128 : Nat) : Int)) ∨ (((i : Int) = 9) = False ∧ ¬ (i : Int) = 9) := by
    by_cases q : (i : Int) = 9
    · exact .inl ⟨eq_true q, by omega⟩
    · exact .inr ⟨eq_false q, q⟩
  have hldb := fun hh e => by have := hs.load0 (hh := hh) e hi (m := 1) (Nat.le_refl 1); rw [hx] at this; exact this
  by_cases h4 : (x : Int) < 128
  · have hx128 : x % 128 = x := by omega
    rw [if_neg (by omega), if_pos h4] at hud
    by_cases h6 : (x : Int) = 0 ∧ 0 < i
    · rw [if_pos h6] at hud
      have h7 : ((x % 128 : Nat) : Int) = 0 := by omega
      have h8 : (0 : Int) < (i : Int) := by omega
      rcases A with ⟨f5, f6⟩ | ⟨f5, f6⟩
      all_goals
        simp -dsimp (disch := first | with_reducible assumption | omega | (intro h_; cases h_; done) | (simp only [LN] <;> omega) | (simp only [LF]; done) | (repeat (first | with_reducible assumption | apply Ext.refl | apply Ext.app | (apply Ext.set <;> omega) | (refine Ext.trans ?_ (by assumption))))) only [AX, TY, gV, dstOf, p_makeFunc, p_mapUpdate, mapPut, entsOf, p_lookup, p_extract, p_nilCheck, oneV, p_load, p_store, p_binOp, p_unOp, p_indexAddr, p_index, p_box, p_build, evParts, builtinV, load1, ldc, splice, minds, disj, rcOf, isCall, touchV, idsOf, mapId, touchB, p_buildSlice, buildSliceV, reps, fillV, p_convert, p_slice, evO, p_makeSlice, sid_some, soff_some, Nat.reduceLT, Nat.reduceLeDiff, Nat.reduceEqDiff, Nat.reduceAdd, Nat.reduceMul, Int.reduceBEq, Int.reduceEq, Int.reduceNeg, Int.reduceLT, Int.reduceLE, Int.reduceAdd, Int.reduceSub, Int.reduceMul, Int.reduceToNat, Int.reduceGT, Nat.reduceBEq, Nat.reducePow, Nat.reduceGT, reduceCtorEq, ↓reduceIte, t0, t4, t5, h1, h2, hld, f5, f6, and127_u8 hxlt, hw7, hw8, hwx, hsh, hor, eq_true h7, eq_true h8, h4]
        rw [← hud]; rfl
    · rw [if_neg h6, Int.toNat_natCast] at hud
      have B : (((0 : Int) < (i : Int)) = True ∧ ¬ ((x % 128 : Nat) : Int) = 0) ∨ (((0 : Int) < (i : Int)) = False ∧ ¬ (0 : Int) < (i : Int)) := by
        by_cases q : (0 : Int) < (i : Int)
        · exact .inl ⟨eq_true q, by omega⟩
        · exact .inr ⟨eq_false q, q⟩
      rcases A with ⟨f5, f6⟩ | ⟨f5, f6⟩ <;> rcases B with ⟨f7, f8⟩ | ⟨f7, f8⟩
      all_goals
        simp -dsimp (disch := first | with_reducible assumption | omega | (intro h_; cases h_; done) | (simp only [LN] <;> omega) | (simp only [LF]; done) | (repeat (first | with_reducible assumption | apply Ext.refl | apply Ext.app | (apply Ext.set <;> omega) | (refine Ext.trans ?_ (by assumption))))) only [AX, TY, gV, dstOf, p_makeFunc, p_mapUpdate, mapPut, entsOf, p_lookup, p_extract, p_nilCheck, oneV, p_load, p_store, p_binOp, p_unOp, p_indexAddr, p_index, p_box, p_build, evParts, builtinV, load1, ldc, splice, minds, disj, rcOf, isCall, touchV, idsOf, mapId, touchB, p_buildSlice, buildSliceV, reps, fillV, p_convert, p_slice, evO, p_makeSlice, sid_some, soff_some, Nat.reduceLT, Nat.reduceLeDiff, Nat.reduceEqDiff, Nat.reduceAdd, Nat.reduceMul, Int.reduceBEq, Int.reduceEq, Int.reduceNeg, Int.reduceLT, Int.reduceLE, Int.reduceAdd, Int.reduceSub, Int.reduceMul, Int.reduceToNat, Int.reduceGT, Nat.reduceBEq, Nat.reducePow, Nat.reduceGT, reduceCtorEq, ↓reduceIte, t0, t4, t5, h1, h2, hld, f5, f6, and127_u8 hxlt, hw7, hw8, hwx, hsh, hor, f7, f8, h4, wrap_in]
        rw [← hud, hx128]; rfl
  · have hxm : (x : Int).toNat - 128 = x % 128 := by omega
    have hud2 : udecG (i + 1) (acc + x % 128 * 128 ^ i) (l.drop (i + 1)) = udec l := by
      by_cases q : i = 9 ∧ (1 : Int) < (x : Int)
      · rw [if_pos q] at hud; rw [udecG_10 (by omega)]; exact hud
      · rw [if_neg q, if_neg h4, hxm] at hud; exact hud
    rcases A with ⟨f5, f6⟩ | ⟨f5, f6⟩
    all_goals
      simp -dsimp (disch := first | with_reducible assumption | omega | (intro h_; cases h_; done) | (simp only [LN] <;> omega) | (simp only [LF]; done) | (repeat (first | with_reducible assumption | apply Ext.refl | apply Ext.app | (apply Ext.set <;> omega) | (refine Ext.trans ?_ (by assumption))))) only [AX, TY, gV, dstOf, p_makeFunc, p_mapUpdate, mapPut, entsOf, p_lookup, p_extract, p_nilCheck, oneV, p_load, p_store, p_binOp, p_unOp, p_indexAddr, p_index, p_box, p_build, evParts, builtinV, load1, ldc, splice, minds, disj, rcOf, isCall, touchV, idsOf, mapId, touchB, p_buildSlice, buildSliceV, reps, fillV, p_convert, p_slice, evO, p_makeSlice, sid_some, soff_some, Nat.reduceLT, Nat.reduceLeDiff, Nat.reduceEqDiff, Nat.reduceAdd, Nat.reduceMul, Int.reduceBEq, Int.reduceEq, Int.reduceNeg, Int.reduceLT, Int.reduceLE, Int.reduceAdd, Int.reduceSub, Int.reduceMul, Int.reduceToNat, Int.reduceGT, Nat.reduceBEq, Nat.reducePow, Nat.reduceGT, reduceCtorEq, ↓reduceIte, t0, t4, t5, h1, h2, hld, f5, f6, and127_u8 hxlt, hw7, hw8, hwx, hsh, hor, h4, wrap_in]
      exact ⟨m - 1, by omega, i + 1, acc + x % 128 * 128 ^ i, by omega, by omega, hnx, by simp, by simp, hud2⟩
end Go.Proofs.YtngcicclaehpbaaDoorA
namespace Go.Proofs.YtngcicclaehpbaaDoorA
open Go Go.Proofs Go.RowKit
set_option linter.unusedVariables false
set_option linter.unusedSimpArgs false
set_option maxRecDepth 10000
set_option maxHeartbeats 1000000
def senc (s : List Int) : List Int := uenc s.length ++ s
theorem bt_senc {s : List Int} (h : Bt s) : Bt (senc s) := (bt_uenc _).app h
theorem senc_len {s : List Int} (h : s.length ≤ 100000000) : (senc s).length ≤ s.length + 10 := by
  have := uenc_len (n := s.length) (by omega)
  rw [senc, List.length_append]; omega
theorem appendString_ok {b : Nat} {h : Heap} {p : Option (Nat × Nat)} {c oid : Option Nat} {ys : List Int} (g : Gr b h p c oid 1 eb ys) (hb : b ≤ h.length) {s : List Int} (hsl : s.length ≤ 100000000) (hl : ys.length ≤ 100000000) :
    WR (callE Tryd.prog hk 29 [.slice p ys.length c, .str s] h) (App b h oid 1 eb (ys ++ senc s)) := by
  have hw : IntKind.u64.wrap (s.length : Int) = (s.length : Int) := by rw [w_u64]; omega
  have hu := uenc_len (n := s.length) (by omega)
  refine WR.call (hH := rfl) Tryd.func29 rfl (n := 12) rfl rfl (by simp) ?_
  simp -dsimp (disch := first | with_reducible assumption | omega | (intro h_; cases h_; done) | (simp only [LN] <;> omega) | (simp only [LF]; done) | (repeat (first | with_reducible assumption | apply Ext.refl | apply Ext.app | (apply Ext.set <;> omega) | (refine Ext.trans ?_ (by assumption))))) only [AX, TY, gV, dstOf, p_makeFunc, p_mapUpdate, mapPut, entsOf, p_lookup, p_extract, p_nilCheck, oneV, p_load, p_store, p_binOp, p_unOp, p_indexAddr, p_index, p_box, p_build, evParts, builtinV, load1, ldc, splice, minds, disj, rcOf, isCall, touchV, idsOf, mapId, touchB, p_buildSlice, buildSliceV, reps, fillV, p_convert, p_slice, evO, p_makeSlice, sid_some, soff_some, Nat.reduceLT, Nat.reduceLeDiff, Nat.reduceEqDiff, Nat.reduceAdd, Nat.reduceMul, Int.reduceBEq, Int.reduceEq, Int.reduceNeg, Int.reduceLT, Int.reduceLE, Int.reduceAdd, Int.reduceSub, Int.reduceMul, Int.reduceToNat, Int.reduceGT, Nat.reduceBEq, Nat.reducePow, Nat.reduceGT, reduceCtorEq, ↓reduceIte, hw]
  refine (appendUint_ok g hb (n := s.length) (by omega) (by omega)).mono ?_
  rintro _ h2 ⟨p2, c2, oid2, rfl, gr2, ho2, hl2, hk2⟩
  simp -dsimp (disch := first | with_reducible assumption | omega | (intro h_; cases h_; done) | (simp only [LN] <;> omega) | (simp only [LF]; done) | (repeat (first | with_reducible assumption | apply Ext.refl | apply Ext.app | (apply Ext.set <;> omega) | (refine Ext.trans ?_ (by assumption))))) only [AX, TY, gV, dstOf, p_makeFunc, p_mapUpdate, mapPut, entsOf, p_lookup, p_extract, p_nilCheck, oneV, p_load, p_store, p_binOp, p_unOp, p_indexAddr, p_index, p_box, p_build, evParts, builtinV, load1, ldc, splice, minds, disj, rcOf, isCall, touchV, idsOf, mapId, touchB, p_buildSlice, buildSliceV, reps, fillV, p_convert, p_slice, evO, p_makeSlice, sid_some, soff_some, Nat.reduceLT, Nat.reduceLeDiff, Nat.reduceEqDiff, Nat.reduceAdd, Nat.reduceMul, Int.reduceBEq, Int.reduceEq, Int.reduceNeg, Int.reduceLT, Int.reduceLE, Int.reduceAdd, Int.reduceSub, Int.reduceMul, Int.reduceToNat, Int.reduceGT, Nat.reduceBEq, Nat.reducePow, Nat.reduceGT, reduceCtorEq, ↓reduceIte]
  have hap := gr2.wrT (bytes := 1) (by omega) (.refl _) (s := s) (by rw [List.length_append]; omega) (by rw [List.length_append]; omega)
  rw [List.length_append] at hap
  refine hap.mono ?_
  intro r h3 ha
  have ha2 := App.trans ho2 hl2 hk2 ha
  simp -dsimp (disch := first | with_reducible assumption | omega | (intro h_; cases h_; done) | (simp only [LN] <;> omega) | (simp only [LF]; done) | (repeat (first | with_reducible assumption | apply Ext.refl | apply Ext.app | (apply Ext.set <;> omega) | (refine Ext.trans ?_ (by assumption))))) only [AX, TY, gV, dstOf, p_makeFunc, p_mapUpdate, mapPut, entsOf, p_lookup, p_extract, p_nilCheck, oneV, p_load, p_store, p_binOp, p_unOp, p_indexAddr, p_index, p_box, p_build, evParts, builtinV, load1, ldc, splice, minds, disj, rcOf, isCall, touchV, idsOf, mapId, touchB, p_buildSlice, buildSliceV, reps, fillV, p_convert, p_slice, evO, p_makeSlice, sid_some, soff_some, Nat.reduceLT, Nat.reduceLeDiff, Nat.reduceEqDiff, Nat.reduceAdd, Nat.reduceMul, Int.reduceBEq, Int.reduceEq, Int.reduceNeg, Int.reduceLT, Int.reduceLE, Int.reduceAdd, Int.reduceSub, Int.reduceMul, Int.reduceToNat, Int.reduceGT, Nat.reduceBEq, Nat.reducePow, Nat.reduceGT, reduceCtorEq, ↓reduceIte]
  rw [senc, ← List.append_assoc]; exact ha2
theorem refAppendString_ok {h : Heap} {p : Option (Nat × Nat)} {c : Option Nat} {ys : List Int} (hs : Sl h p 1 eb ys) {s : List Int} (hsl : s.length ≤ 100000000) (hl : ys.length ≤ 100000000) :
    WR (callE Tryd.prog hk 30 [.slice p ys.length c, .str s] h) (App h.length h none 1 eb (ys ++ senc s)) := by
  have hw : IntKind.u64.wrap (s.length : Int) = (s.length : Int) := by rw [w_u64]; omega
  have hu := uenc_len (n := s.length) (by omega)
  refine WR.call (hH := rfl) Tryd.func30 rfl (n := 12) rfl rfl (by simp) ?_
  simp -dsimp (disch := first | with_reducible assumption | omega | (intro h_; cases h_; done) | (simp only [LN] <;> omega) | (simp only [LF]; done) | (repeat (first | with_reducible assumption | apply Ext.refl | apply Ext.app | (apply Ext.set <;> omega) | (refine Ext.trans ?_ (by assumption))))) only [AX, TY, gV, dstOf, p_makeFunc, p_mapUpdate, mapPut, entsOf, p_lookup, p_extract, p_nilCheck, oneV, p_load, p_store, p_binOp, p_unOp, p_indexAddr, p_index, p_box, p_build, evParts, builtinV, load1, ldc, splice, minds, disj, rcOf, isCall, touchV, idsOf, mapId, touchB, p_buildSlice, buildSliceV, reps, fillV, p_convert, p_slice, evO, p_makeSlice, sid_some, soff_some, Nat.reduceLT, Nat.reduceLeDiff, Nat.reduceEqDiff, Nat.reduceAdd, Nat.reduceMul, Int.reduceBEq, Int.reduceEq, Int.reduceNeg, Int.reduceLT, Int.reduceLE, Int.reduceAdd, Int.reduceSub, Int.reduceMul, Int.reduceToNat, Int.reduceGT, Nat.reduceBEq, Nat.reducePow, Nat.reduceGT, reduceCtorEq, ↓reduceIte, hw]
  refine (refAppendUint_ok hs (n := s.length) (by omega) (by omega)).mono ?_
  rintro _ h2 ⟨p2, c2, oid2, rfl, gr2, ho2, hl2, hk2⟩
  simp -dsimp (disch := first | with_reducible assumption | omega | (intro h_; cases h_; done) | (simp only [LN] <;> omega) | (simp only [LF]; done) | (repeat (first | with_reducible assumption | apply Ext.refl | apply Ext.app | (apply Ext.set <;> omega) | (refine Ext.trans ?_ (by assumption))))) only [AX, TY, gV, dstOf, p_makeFunc, p_mapUpdate, mapPut, entsOf, p_lookup, p_extract, p_nilCheck, oneV, p_load, p_store, p_binOp, p_unOp, p_indexAddr, p_index, p_box, p_build, evParts, builtinV, load1, ldc, splice, minds, disj, rcOf, isCall, touchV, idsOf, mapId, touchB, p_buildSlice, buildSliceV, reps, fillV, p_convert, p_slice, evO, p_makeSlice, sid_some, soff_some, Nat.reduceLT, Nat.reduceLeDiff, Nat.reduceEqDiff, Nat.reduceAdd, Nat.reduceMul, Int.reduceBEq, Int.reduceEq, Int.reduceNeg, Int.reduceLT, Int.reduceLE, Int.reduceAdd, Int.reduceSub, Int.reduceMul, Int.reduceToNat, Int.reduceGT, Nat.reduceBEq, Nat.reducePow, Nat.reduceGT, reduceCtorEq, ↓reduceIte]
  have hap := gr2.wrT (bytes := 1) (by omega) (.refl _) (s := s) (by rw [List.length_append]; omega) (by rw [List.length_append]; omega)
  rw [List.length_append] at hap
  refine hap.mono ?_
  intro r h3 ha
  have ha2 := App.trans ho2 hl2 hk2 ha
  simp -dsimp (disch := first | with_reducible assumption | omega | (intro h_; cases h_; done) | (simp only [LN] <;> omega) | (simp only [LF]; done) | (repeat (first | with_reducible assumption | apply Ext.refl | apply Ext.app | (apply Ext.set <;> omega) | (refine Ext.trans ?_ (by assumption))))) only [AX, TY, gV, dstOf, p_makeFunc, p_mapUpdate, mapPut, entsOf, p_lookup, p_extract, p_nilCheck, oneV, p_load, p_store, p_binOp, p_unOp, p_indexAddr, p_index, p_box, p_build, evParts, builtinV, load1, ldc, splice, minds, disj, rcOf, isCall, touchV, idsOf, mapId, touchB, p_buildSlice, buildSliceV, reps, fillV, p_convert, p_slice, evO, p_makeSlice, sid_some, soff_some, Nat.reduceLT, Nat.reduceLeDiff, Nat.reduceEqDiff, Nat.reduceAdd, Nat.reduceMul, Int.reduceBEq, Int.reduceEq, Int.reduceNeg, Int.reduceLT, Int.reduceLE, Int.reduceAdd, Int.reduceSub, Int.reduceMul, Int.reduceToNat, Int.reduceGT, Nat.reduceBEq, Nat.reducePow, Nat.reduceGT, reduceCtorEq, ↓reduceIte]
  rw [senc, ← List.append_assoc]; exact ha2
def strR (o : Option (List Int × Nat)) : V := match o with
  | some (s, k) => V.tuple [.str s, .int .i64 k, .int .i64 0]
  | none => V.tuple [.str [], .int .i64 0, .int .i64 12]
def strR2 (o : Option (List Int × Nat)) : V := match o with
  | some (s, k) => V.tuple [.str s, .int .i64 k]
  | none => V.tuple [.str [], .int .i64 (-1)]
theorem str_of {h : Heap} {p : Option (Nat × Nat)} {c : Option Nat} {l : List Int} (hr : Rs h p c 1 eb l) (hbt : Bt l) {a b : Nat} (hab : a ≤ b) (hb : b ≤ l.length) :
    ∃ p2 c2, (∀ (hh : Heap) (k k' : IntKind), Ext h hh → sliceV hh 1 p l.length c (some (.int k (a : Int))) (some (.int k' (b : Int))) none = some (.slice p2 (b - a) c2)) ∧ ∀ hh, Ext h hh → convV Tryd.prog 28 9 (.slice p2 (b - a) c2) hh = some (.str ((l.take b).drop a), hh) := by
  obtain ⟨p2, c2, h1, h2⟩ := hr.cut hab hb
  refine ⟨p2, c2, h1, fun hh e => ?_⟩
  have hl : ((l.take b).drop a).length = b - a := by rw [List.length_drop, List.length_take]; omega
  have := conv_bs (P := Tryd.prog) Tryd.underlying28 Tryd.underlying5 Tryd.underlying9 (c := c2) h2.sl e ((hbt.take b).drop a)
  rw [hl] at this
  exact this
theorem string_ok {h : Heap} {p : Option (Nat × Nat)} {c : Option Nat} {l : List Int} (hr : Rs h p c 1 eb l) (hb : Bt l) : WR (callE Tryd.prog hk 31 [.slice p l.length c] h) fun r h' => h = h' ∧ r = strR (str1 l) := by
  have hl := hr.sl.small
  refine WR.call (hH := rfl) Tryd.func31 rfl (n := 37) rfl rfl (by simp) ?_
  simp -dsimp (disch := first | with_reducible assumption | omega | (intro h_; cases h_; done) | (simp only [LN] <;> omega) | (simp only [LF]; done) | (repeat (first | with_reducible assumption | apply Ext.refl | apply Ext.app | (apply Ext.set <;> omega) | (refine Ext.trans ?_ (by assumption))))) only [AX, TY, gV, dstOf, p_makeFunc, p_mapUpdate, mapPut, entsOf, p_lookup, p_extract, p_nilCheck, oneV, p_load, p_store, p_binOp, p_unOp, p_indexAddr, p_index, p_box, p_build, evParts, builtinV, load1, ldc, splice, minds, disj, rcOf, isCall, touchV, idsOf, mapId, touchB, p_buildSlice, buildSliceV, reps, fillV, p_convert, p_slice, evO, p_makeSlice, sid_some, soff_some, Nat.reduceLT, Nat.reduceLeDiff, Nat.reduceEqDiff, Nat.reduceAdd, Nat.reduceMul, Int.reduceBEq, Int.reduceEq, Int.reduceNeg, Int.reduceLT, Int.reduceLE, Int.reduceAdd, Int.reduceSub, Int.reduceMul, Int.reduceToNat, Int.reduceGT, Nat.reduceBEq, Nat.reducePow, Nat.reduceGT, reduceCtorEq, ↓reduceIte]
  refine (uint_ok hr.sl hb).mono ?_
  rintro _ _ ⟨rfl, rfl⟩
  unfold str1
  cases hu : udec l with
  | none =>
    have hR : uintR none = V.tuple [.int .u64 0, .int .i64 0, .int .i64 12] := rfl
    simp -dsimp (disch := first | with_reducible assumption | omega | (intro h_; cases h_; done) | (simp only [LN] <;> omega) | (simp only [LF]; done) | (repeat (first | with_reducible assumption | apply Ext.refl | apply Ext.app | (apply Ext.set <;> omega) | (refine Ext.trans ?_ (by assumption))))) only [AX, TY, gV, dstOf, p_makeFunc, p_mapUpdate, mapPut, entsOf, p_lookup, p_extract, p_nilCheck, oneV, p_load, p_store, p_binOp, p_unOp, p_indexAddr, p_index, p_box, p_build, evParts, builtinV, load1, ldc, splice, minds, disj, rcOf, isCall, touchV, idsOf, mapId, touchB, p_buildSlice, buildSliceV, reps, fillV, p_convert, p_slice, evO, p_makeSlice, sid_some, soff_some, Nat.reduceLT, Nat.reduceLeDiff, Nat.reduceEqDiff, Nat.reduceAdd, Nat.reduceMul, Int.reduceBEq, Int.reduceEq, Int.reduceNeg, Int.reduceLT, Int.reduceLE, Int.reduceAdd, Int.reduceSub, Int.reduceMul, Int.reduceToNat, Int.reduceGT, Nat.reduceBEq, Nat.reducePow, Nat.reduceGT, reduceCtorEq, ↓reduceIte, hR]
    rfl
  | some q =>
    obtain ⟨n, k⟩ := q
    have hR : uintR (some (n, k)) = V.tuple [.int .u64 n, .int .i64 k, .int .i64 0] := rfl
    obtain ⟨u1, u2, u3, u4⟩ := uenc_udec hb hu
    have hw1 : IntKind.i64.wrap ((l.length : Int) - (k : Int)) = ((l.length - k : Nat) : Int) := by rw [IntKind.wrap_i64]; omega
    have hw2 : IntKind.u64.wrap ((l.length - k : Nat) : Int) = ((l.length - k : Nat) : Int) := by rw [w_u64]; omega
    by_cases g : n ≤ l.length - k
    · have g1 : ¬ ((l.length - k : Nat) : Int) < (n : Int) := by omega
      have hw3 : IntKind.i64.wrap (n : Int) = (n : Int) := by rw [IntKind.wrap_i64]; omega
      have hw4 : IntKind.i64.wrap ((k : Int) + (n : Int)) = ((k + n : Nat) : Int) := by rw [IntKind.wrap_i64]; omega
      obtain ⟨p2, c2, c1, c2'⟩ := str_of hr hb (a := k) (b := k + n) (by omega) (by omega)
      rw [Nat.add_sub_cancel_left] at c2'
      simp -dsimp (disch := first | with_reducible assumption | omega | (intro h_; cases h_; done) | (simp only [LN] <;> omega) | (simp only [LF]; done) | (repeat (first | with_reducible assumption | apply Ext.refl | apply Ext.app | (apply Ext.set <;> omega) | (refine Ext.trans ?_ (by assumption))))) only [AX, TY, gV, dstOf, p_makeFunc, p_mapUpdate, mapPut, entsOf, p_lookup, p_extract, p_nilCheck, oneV, p_load, p_store, p_binOp, p_unOp, p_indexAddr, p_index, p_box, p_build, evParts, builtinV, load1, ldc, splice, minds, disj, rcOf, isCall, touchV, idsOf, mapId, touchB, p_buildSlice, buildSliceV, reps, fillV, p_convert, p_slice, evO, p_makeSlice, sid_some, soff_some, Nat.reduceLT, Nat.reduceLeDiff, Nat.reduceEqDiff, Nat.reduceAdd, Nat.reduceMul, Int.reduceBEq, Int.reduceEq, Int.reduceNeg, Int.reduceLT, Int.reduceLE, Int.reduceAdd, Int.reduceSub, Int.reduceMul, Int.reduceToNat, Int.reduceGT, Nat.reduceBEq, Nat.reducePow, Nat.reduceGT, reduceCtorEq, ↓reduceIte, hR, hw1, hw2, g1, hw3, hw4, c1, c2']
      simp only [if_pos g]
      rw [List.drop_take, Nat.add_sub_cancel_left]; rfl
    · have g1 : ((l.length - k : Nat) : Int) < (n : Int) := by omega
      simp -dsimp (disch := first | with_reducible assumption | omega | (intro h_; cases h_; done) | (simp only [LN] <;> omega) | (simp only [LF]; done) | (repeat (first | with_reducible assumption | apply Ext.refl | apply Ext.app | (apply Ext.set <;> omega) | (refine Ext.trans ?_ (by assumption))))) only [AX, TY, gV, dstOf, p_makeFunc, p_mapUpdate, mapPut, entsOf, p_lookup, p_extract, p_nilCheck, oneV, p_load, p_store, p_binOp, p_unOp, p_indexAddr, p_index, p_box, p_build, evParts, builtinV, load1, ldc, splice, minds, disj, rcOf, isCall, touchV, idsOf, mapId, touchB, p_buildSlice, buildSliceV, reps, fillV, p_convert, p_slice, evO, p_makeSlice, sid_some, soff_some, Nat.reduceLT, Nat.reduceLeDiff, Nat.reduceEqDiff, Nat.reduceAdd, Nat.reduceMul, Int.reduceBEq, Int.reduceEq, Int.reduceNeg, Int.reduceLT, Int.reduceLE, Int.reduceAdd, Int.reduceSub, Int.reduceMul, Int.reduceToNat, Int.reduceGT, Nat.reduceBEq, Nat.reducePow, Nat.reduceGT, reduceCtorEq, ↓reduceIte, hR, hw1, hw2, eq_true g1]
      simp only [if_neg g]; rfl
theorem refString_ok {h : Heap} {p : Option (Nat × Nat)} {c : Option Nat} {l : List Int} (hr : Rs h p c 1 eb l) (hb : Bt l) : WR (callE Tryd.prog hk 32 [.slice p l.length c] h) fun r h' => h = h' ∧ r = strR2 (str1 l) := by
  have hl := hr.sl.small
  refine WR.call (hH := rfl) Tryd.func32 rfl (n := 34) rfl rfl (by simp) ?_
  simp -dsimp (disch := first | with_reducible assumption | omega | (intro h_; cases h_; done) | (simp only [LN] <;> omega) | (simp only [LF]; done) | (repeat (first | with_reducible assumption | apply Ext.refl | apply Ext.app | (apply Ext.set <;> omega) | (refine Ext.trans ?_ (by assumption))))) only [AX, TY, gV, dstOf, p_makeFunc, p_mapUpdate, mapPut, entsOf, p_lookup, p_extract, p_nilCheck, oneV, p_load, p_store, p_binOp, p_unOp, p_indexAddr, p_index, p_box, p_build, evParts, builtinV, load1, ldc, splice, minds, disj, rcOf, isCall, touchV, idsOf, mapId, touchB, p_buildSlice, buildSliceV, reps, fillV, p_convert, p_slice, evO, p_makeSlice, sid_some, soff_some, Nat.reduceLT, Nat.reduceLeDiff, Nat.reduceEqDiff, Nat.reduceAdd, Nat.reduceMul, Int.reduceBEq, Int.reduceEq, Int.reduceNeg, Int.reduceLT, Int.reduceLE, Int.reduceAdd, Int.reduceSub, Int.reduceMul, Int.reduceToNat, Int.reduceGT, Nat.reduceBEq, Nat.reducePow, Nat.reduceGT, reduceCtorEq, ↓reduceIte]
  refine (refUint_ok hr.sl hb).mono ?_
  rintro _ _ ⟨rfl, rfl⟩
  unfold str1
  cases hu : udec l with
  | none =>
    have hR : uintR2 none = V.tuple [.int .u64 0, .int .i64 (-1)] := rfl
    simp -dsimp (disch := first | with_reducible assumption | omega | (intro h_; cases h_; done) | (simp only [LN] <;> omega) | (simp only [LF]; done) | (repeat (first | with_reducible assumption | apply Ext.refl | apply Ext.app | (apply Ext.set <;> omega) | (refine Ext.trans ?_ (by assumption))))) only [AX, TY, gV, dstOf, p_makeFunc, p_mapUpdate, mapPut, entsOf, p_lookup, p_extract, p_nilCheck, oneV, p_load, p_store, p_binOp, p_unOp, p_indexAddr, p_index, p_box, p_build, evParts, builtinV, load1, ldc, splice, minds, disj, rcOf, isCall, touchV, idsOf, mapId, touchB, p_buildSlice, buildSliceV, reps, fillV, p_convert, p_slice, evO, p_makeSlice, sid_some, soff_some, Nat.reduceLT, Nat.reduceLeDiff, Nat.reduceEqDiff, Nat.reduceAdd, Nat.reduceMul, Int.reduceBEq, Int.reduceEq, Int.reduceNeg, Int.reduceLT, Int.reduceLE, Int.reduceAdd, Int.reduceSub, Int.reduceMul, Int.reduceToNat, Int.reduceGT, Nat.reduceBEq, Nat.reducePow, Nat.reduceGT, reduceCtorEq, ↓reduceIte, hR]
    rfl
  | some q =>
    obtain ⟨n, k⟩ := q
    have hR : uintR2 (some (n, k)) = V.tuple [.int .u64 n, .int .i64 k] := rfl
    have hk0 : ¬ (k : Int) < 0 := by omega
    obtain ⟨u1, u2, u3, u4⟩ := uenc_udec hb hu
    have hw1 : IntKind.i64.wrap ((l.length : Int) - (k : Int)) = ((l.length - k : Nat) : Int) := by rw [IntKind.wrap_i64]; omega
    have hw2 : IntKind.u64.wrap ((l.length - k : Nat) : Int) = ((l.length - k : Nat) : Int) := by rw [w_u64]; omega
    by_cases g : n ≤ l.length - k
    · have g1 : ¬ ((l.length - k : Nat) : Int) < (n : Int) := by omega
      have hw3 : IntKind.i64.wrap (n : Int) = (n : Int) := by rw [IntKind.wrap_i64]; omega
      have hw4 : IntKind.i64.wrap ((k : Int) + (n : Int)) = ((k + n : Nat) : Int) := by rw [IntKind.wrap_i64]; omega
      obtain ⟨p2, c2, c1, c2'⟩ := str_of hr hb (a := k) (b := k + n) (by omega) (by omega)
      rw [Nat.add_sub_cancel_left] at c2'
      simp -dsimp (disch := first | with_reducible assumption | omega | (intro h_; cases h_; done) | (simp only [LN] <;> omega) | (simp only [LF]; done) | (repeat (first | with_reducible assumption | apply Ext.refl | apply Ext.app | (apply Ext.set <;> omega) | (refine Ext.trans ?_ (by assumption))))) only [AX, TY, gV, dstOf, p_makeFunc, p_mapUpdate, mapPut, entsOf, p_lookup, p_extract, p_nilCheck, oneV, p_load, p_store, p_binOp, p_unOp, p_indexAddr, p_index, p_box, p_build, evParts, builtinV, load1, ldc, splice, minds, disj, rcOf, isCall, touchV, idsOf, mapId, touchB, p_buildSlice, buildSliceV, reps, fillV, p_convert, p_slice, evO, p_makeSlice, sid_some, soff_some, Nat.reduceLT, Nat.reduceLeDiff, Nat.reduceEqDiff, Nat.reduceAdd, Nat.reduceMul, Int.reduceBEq, Int.reduceEq, Int.reduceNeg, Int.reduceLT, Int.reduceLE, Int.reduceAdd, Int.reduceSub, Int.reduceMul, Int.reduceToNat, Int.reduceGT, Nat.reduceBEq, Nat.reducePow, Nat.reduceGT, reduceCtorEq, ↓reduceIte, hR, hw1, hw2, hk0, g1, hw3, hw4, c1, c2']
      simp only [if_pos g]
      rw [List.drop_take, Nat.add_sub_cancel_left]; rfl
    · have g1 : ((l.length - k : Nat) : Int) < (n : Int) := by omega
      simp -dsimp (disch := first | with_reducible assumption | omega | (intro h_; cases h_; done) | (simp only [LN] <;> omega) | (simp only [LF]; done) | (repeat (first | with_reducible assumption | apply Ext.refl | apply Ext.app | (apply Ext.set <;> omega) | (refine Ext.trans ?_ (by assumption))))) only [AX, TY, gV, dstOf, p_makeFunc, p_mapUpdate, mapPut, entsOf, p_lookup, p_extract, p_nilCheck, oneV, p_load, p_store, p_binOp, p_unOp, p_indexAddr, p_index, p_box, p_build, evParts, builtinV, load1, ldc, splice, minds, disj, rcOf, isCall, touchV, idsOf, mapId, touchB, p_buildSlice, buildSliceV, reps, fillV, p_convert, p_slice, evO, p_makeSlice, sid_some, soff_some, Nat.reduceLT, Nat.reduceLeDiff, Nat.reduceEqDiff, Nat.reduceAdd, Nat.reduceMul, Int.reduceBEq, Int.reduceEq, Int.reduceNeg, Int.reduceLT, Int.reduceLE, Int.reduceAdd, Int.reduceSub, Int.reduceMul, Int.reduceToNat, Int.reduceGT, Nat.reduceBEq, Nat.reducePow, Nat.reduceGT, reduceCtorEq, ↓reduceIte, hR, hw1, hw2, hk0, eq_true g1]
      simp only [if_neg g]; rfl
end Go.Proofs.YtngcicclaehpbaaDoorA
