/- Words of this session: numbers and equality of the second reading hold of the model. -/
import Derived.Test.YtcaolnmpldbkjaaGreatAx3
namespace Go.Proofs.YtcaolnmpldbkjaaGreatA
open Go Go.RowKit
set_option linter.unusedVariables false
set_option linter.unusedSimpArgs false

/-! ### numbers and strings -/
section
variable {P : Program} {ι : Mp}
theorem intV_run {op : BinOp} {k : IntKind} {a b : Int} {v : V} (h : intV op k a b = some v) (t : TypeId) (w : World) (h1 : op ≠ .shl) (h2 : op ≠ .shr) : ∃ x, (binOp op t (.int k a) (.int k b)).run P w = .ok x w ∧ RV ι v x := by
  cases op <;> simp only [intV] at h
  case quo => split at h <;> cases h; rename_i hb; exact ⟨_, by simp [binOp, Op.intDiv, hb], .int _ _⟩
  case rem => split at h <;> cases h; rename_i hb; exact ⟨_, by simp [binOp, Op.intDiv, hb], .int _ _⟩
  case shl => exact absurd rfl h1
  case shr => exact absurd rfl h2
  all_goals (try cases h)
  case add => exact ⟨_, by simp [binOp, Op.intArith], .int _ _⟩
  case sub => exact ⟨_, by simp [binOp, Op.intArith], .int _ _⟩
  case mul => exact ⟨_, by simp [binOp, Op.intArith], .int _ _⟩
  case and => exact ⟨_, by simp only [binOp, ne_eq, not_true_eq_false, if_false]; rfl, .int _ _⟩
  case or => exact ⟨_, by simp only [binOp, ne_eq, not_true_eq_false, if_false]; rfl, .int _ _⟩
  case xor => exact ⟨_, by simp only [binOp, ne_eq, not_true_eq_false, if_false]; rfl, .int _ _⟩
  case andNot => exact ⟨_, by simp only [binOp, ne_eq, not_true_eq_false, if_false]; rfl, .int _ _⟩
  all_goals exact ⟨_, by simp only [binOp, ne_eq, not_true_eq_false, if_false, Op.intCmp]; rfl, .bool _⟩
theorem shiftV_run {op : BinOp} {k yk : IntKind} {a b : Int} {v : V} (h : shiftV op k a b = some v) (t : TypeId) (w : World) : ∃ x, (binOp op t (.int k a) (.int yk b)).run P w = .ok x w ∧ RV ι v x := by
  unfold shiftV at h
  split at h
  · cases h
  · rename_i hb
    cases op <;> simp only at h <;> cases h
    · exact ⟨_, by simp [binOp, Op.shift, hb], .int _ _⟩
    · exact ⟨_, by simp [binOp, Op.shift, hb], .int _ _⟩
theorem bytesOf_toList (s : ByteArray) : bytesOf s = s.toList.map fun b => (b.toNat : Int) := by rw [ByteArray.toList_eq]; rfl
theorem beq_map (a b : List UInt8) : (a == b) = ((a.map fun x => (x.toNat : Int)) == b.map fun x => (x.toNat : Int)) := by
  rw [Bool.eq_iff_iff]
  simp only [beq_iff_eq]
  constructor
  · rintro rfl; rfl
  · intro h
    induction a generalizing b with
    | nil => cases b with
      | nil => rfl
      | cons y b => cases h
    | cons x a ih => cases b with
      | nil => cases h
      | cons y b =>
        simp only [List.map_cons, List.cons.injEq] at h
        have h1 : x = y := UInt8.toNat_inj.1 (by exact_mod_cast h.1)
        rw [ih b h.2, h1]
theorem less_map : ∀ (a b : List UInt8), Op.bytesLess a b = lessL (a.map fun x => (x.toNat : Int)) (b.map fun x => (x.toNat : Int))
  | _, [] => by simp [Op.bytesLess, lessL]
  | [], y :: b => by simp [Op.bytesLess, lessL]
  | x :: a, y :: b => by
    simp only [Op.bytesLess, lessL, List.map_cons]
    rw [less_map a b]
    congr 1
    · rw [Bool.eq_iff_iff]; simp [UInt8.lt_iff_toNat_lt]
    · congr 1
      rw [Bool.eq_iff_iff]; simp only [beq_iff_eq]
      constructor
      · rintro rfl; rfl
      · intro h; exact UInt8.toNat_inj.1 (by exact_mod_cast h)
theorem bytesOf_append (a b : ByteArray) : bytesOf (a ++ b) = bytesOf a ++ bytesOf b := by
  simp [bytesOf, ByteArray.data_append]
theorem bytesOf_length (a : ByteArray) : (bytesOf a).length = a.size := by simp [bytesOf]
theorem strV_run {op : BinOp} {a b : List Int} {A B : ByteArray} (hA : bytesOf A = a) (hB : bytesOf B = b) {v : V} (h : strV op a b = some v) (t : TypeId) (w : World) : ∃ x, (binOp op t (.string A) (.string B)).run P w = .ok x w ∧ RV ι v x := by
  have he : (A.toList == B.toList) = (a == b) := by rw [← hA, ← hB, bytesOf_toList, bytesOf_toList, beq_map]
  have hl : Op.bytesLess A.toList B.toList = lessL a b := by rw [← hA, ← hB, bytesOf_toList, bytesOf_toList, less_map]
  have hla : a.length = A.size := by rw [← hA, bytesOf_length]
  have hlb : b.length = B.size := by rw [← hB, bytesOf_length]
  cases op <;> simp only [strV] at h
  case add =>
    split at h <;> cases h
    rename_i hn
    rw [hla, hlb] at hn
    refine ⟨.string (A ++ B), ?_, .str _ _ (by rw [bytesOf_append, hA, hB])⟩
    have e : IntKind.max .i64 = 9223372036854775807 := by decide
    simp only [binOp, Op.stringOp, e, if_neg hn, Sem.run_pure]
  all_goals (try cases h)
  all_goals exact ⟨_, by simp only [binOp, Op.stringOp, he, hl]; rfl, .bool _⟩

theorem partV_run {t : TypeId} {cs : List V} {off : Nat} {v : V} (h : partV P t cs off = some v) {C : Array Value} (hc : RVs ι cs C.toList) (w : World) : ∃ x, (part t C off).run P w = .ok x w ∧ RV ι v x := by
  unfold partV at h
  split at h
  · rename_i n h1 h2
    cases h
    refine ⟨.agg (C.extract off (off + n)), by simp [part, aggT_run h1, szT_run h2], ?_⟩
    have := (hc.drop off).take n
    have e : (C.extract off (off + n)).toList = (C.toList.drop off).take n := by simp [Array.toList_extract]
    exact .agg _ _ (by rw [← Array.length_toList, e]; exact this.1) fun i v c a b => this.2 i v c a (by rw [← e, Array.getElem?_toList]; exact b)
  · rename_i o h1 h2
    obtain ⟨c, hc1, hc2⟩ := hc.get h
    refine ⟨c, ?_, hc2⟩
    have : C[off]? = some c := by simpa using hc1
    simp [part, aggT_run h2, this]
  · cases h

mutual
theorem eqT_run : ∀ (n : Nat) {t : TypeId} {x y : V} {b : Bool}, eqT P n t x y = some b → ∀ {X Y : Value}, RV ι x X → RV ι y Y → ∀ m, n ≤ m → ∀ w, (Op.equalIn m t X Y).run P w = .ok b w
  | 0, t, x, y, b, h, X, Y, hX, hY, m, hm, w => by simp [eqT] at h
  | n + 1, t, x, y, b, h, X, Y, hX, hY, m, hm, w => by
    obtain ⟨m, rfl⟩ : ∃ q, m = q + 1 := ⟨m - 1, by omega⟩
    unfold eqT at h
    split at h
    · rename_i hu; cases hX; cases hY; cases h; exact run_equalIn_bool' w m t _ _ hu
    · rename_i hu
      cases hX; cases hY
      split at h
      · rename_i e; subst e; cases h; exact run_equalIn_int w m t _ _ _ _ hu
      · cases h
    · rename_i hu
      cases hX; cases hY; cases h
      rename_i a ha b hb
      rw [run_equalIn_string w m t _ _ hu]
      rw [← ha, ← hb, bytesOf_toList, bytesOf_toList, beq_map]
    · rename_i hu; cases hX; cases h; cases hY <;> simp [Op.equalIn, under_run hu]
    · cases hY; cases h; cases hX
      · simp_all
      · simp [Op.equalIn, under_run (by assumption)]
    · rename_i hu; cases hX; cases hY; cases h; simp [Op.equalIn, under_run hu]
    · rename_i hu; cases hX; cases hY; cases h; simp [Op.equalIn, under_run hu]
    · rename_i hu; cases hX; cases hY; cases h; simp [Op.equalIn, under_run hu]
    · rename_i fields xs ys hu
      split at h
      · cases h
      · rename_i hs
        have hf : P.underlying t = some (.struct (P.fieldsOf t)) := by simp [Program.fieldsOf, hu]
        have hff : P.fieldsOf t = fields := by simp [Program.fieldsOf, hu]
        cases hX with | agg _ C hl1 hX =>
        cases hY with | agg _ D hl2 hY =>
        rw [run_equalIn_struct w m t _ _ hf (by simpa using hs), hff]
        exact eqFs_run n h ⟨by simpa using hl1, fun i v c a b => hX i v c a (by simpa using b)⟩ ⟨by simpa using hl2, fun i v c a b => hY i v c a (by simpa using b)⟩ m (by omega) w
    · rename_i hu; cases hX; cases h; cases hY <;> simp [Op.equalIn, under_run hu]
    · cases hY; cases h; cases hX
      · simp_all
      · simp [Op.equalIn, under_run (by assumption)]
    · rename_i hu; cases hX; cases h; cases hY <;> simp [Op.equalIn, under_run hu]
    · cases hY; cases h; cases hX
      · simp_all
      · simp [Op.equalIn, under_run (by assumption)]
    · rename_i hu; cases hX; cases hY; cases h; simp [Op.equalIn, under_run hu]
    · rename_i hu; cases hX; cases hY; cases h; simp [Op.equalIn, under_run hu]
    · rename_i hu; cases hX; cases hY; cases h; simp [Op.equalIn, under_run hu]
    · cases h
theorem eqFs_run : ∀ (n : Nat) {fs : List Field} {xs ys : List V} {b : Bool}, eqFs P n fs xs ys = some b → ∀ {X Y : Array Value}, RVs ι xs X.toList → RVs ι ys Y.toList → ∀ m, n ≤ m → ∀ w, (Op.eqFields m X Y fs).run P w = .ok b w
  | _, [], xs, ys, b, h, X, Y, hX, hY, m, hm, w => by simp [eqFs] at h; subst h; simp [Op.eqFields]
  | 0, f :: fs, xs, ys, b, h, X, Y, hX, hY, m, hm, w => by simp [eqFs] at h
  | n + 1, f :: fs, xs, ys, b, h, X, Y, hX, hY, m, hm, w => by
    unfold eqFs at h
    split at h
    · rename_i e
      simp only [Op.eqFields, e, ne_eq, not_true_eq_false, if_false]
      exact eqFs_run n h hX hY m (by omega) w
    · rename_i e
      split at h
      · rename_i a b' h1 h2
        obtain ⟨A, ra, va⟩ := partV_run h1 hX w
        obtain ⟨B, rb, vb⟩ := partV_run h2 hY w
        simp only [Op.eqFields, ne_eq, e, not_false_eq_true, if_true, Sem.run_bind, ra, rb, Result.andThen_ok]
        split at h
        · rename_i h3
          rw [eqT_run n h3 va vb m (by omega) w]
          simp only [Result.andThen_ok, Bool.not_true, Bool.false_eq_true, if_false]
          exact eqFs_run n h hX hY m (by omega) w
        · rename_i hr
          have hb : b = false := by
            cases b with
            | true => exact absurd h hr
            | false => rfl
          subst hb
          rw [eqT_run n h va vb m (by omega) w]
          simp
      · cases h
end

theorem guardV_run {op : BinOp} {t : TypeId} {x y : Operand} {a b : V} {A B : Value} (h : guardV P t x y a b = true) (hA : RV ι a A) (hB : RV ι b B) (w : World) : (eqGuard op t x y A B).run P w = .ok () w := by
  cases op <;> (try (simp [eqGuard]; done))
  all_goals
    cases hA <;> cases hB <;> (try (simp [eqGuard]; done))
    · simp [guardV] at h
      rcases h with h | h
      · cases x <;> simp [isConstO] at h
        simp [eqGuard]
      · cases y <;> simp [isConstO] at h
        cases x <;> simp [eqGuard]
    · simp [guardV] at h
      exact run_eqGuard_agg w _ t x y _ _ h
end
end Go.Proofs.YtcaolnmpldbkjaaGreatA
