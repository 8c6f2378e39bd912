/- Words of this session: chapter 7: what a result of an aggregate function is: plain laws. -/
import Derived.Test.YtagebnmealiedaaPL
namespace Go.Proofs.YtagebnmealiedaaA
open Go Go.Proofs Go.RowKit
set_option linter.unusedVariables false
set_option linter.unusedSimpArgs false
theorem wrap_def (x : Int) : IntKind.i64.wrap x = (x + 9223372036854775808) % 18446744073709551616 - 9223372036854775808 := by
  have h3 : IntKind.i64.bits = 64 := rfl
  have h4 : IntKind.i64.signed = true := rfl
  unfold IntKind.wrap
  first
  | (simp [h3, h4]; omega)
  | (simp only [h3, h4]; split <;> omega)
theorem wrap_wrap (x : Int) : IntKind.i64.wrap (IntKind.i64.wrap x) = IntKind.i64.wrap x := by simp only [wrap_def]; omega
theorem wrap_add_l (x y : Int) : IntKind.i64.wrap (IntKind.i64.wrap x + y) = IntKind.i64.wrap (x + y) := by simp only [wrap_def]; omega
theorem wrap_add_r (x y : Int) : IntKind.i64.wrap (x + IntKind.i64.wrap y) = IntKind.i64.wrap (x + y) := by simp only [wrap_def]; omega
theorem wrap_mul_r (x y : Int) : IntKind.i64.wrap (x * IntKind.i64.wrap y) = IntKind.i64.wrap (x * y) := by
  have h : IntKind.i64.wrap y = y - 18446744073709551616 * ((y + 9223372036854775808) / 18446744073709551616) := by rw [wrap_def]; omega
  rw [h, Int.mul_sub, wrap_def, wrap_def, show x * (18446744073709551616 * ((y + 9223372036854775808) / 18446744073709551616)) = 18446744073709551616 * (x * ((y + 9223372036854775808) / 18446744073709551616)) by rw [← Int.mul_assoc, ← Int.mul_assoc, Int.mul_comm x]]
  omega

/-! ### the order of values -/
theorem lessL_trans : ∀ {a b c : List Int}, lessL a b = true → lessL b c = true → lessL a c = true
  | _, _, [], _, h => by cases ‹List Int› <;> simp [lessL] at h
  | _, [], _ :: _, h, _ => by cases ‹List Int› <;> simp [lessL] at h
  | [], _ :: _, _ :: _, _, _ => by simp [lessL]
  | x :: a, y :: b, z :: c, h1, h2 => by
    simp only [lessL, Bool.or_eq_true, decide_eq_true_eq, Bool.and_eq_true, beq_iff_eq] at h1 h2 ⊢
    rcases h1 with h1 | ⟨rfl, h1⟩ <;> rcases h2 with h2 | ⟨rfl, h2⟩
    · exact .inl (by omega)
    · exact .inl h1
    · exact .inl h2
    · exact .inr ⟨rfl, lessL_trans h1 h2⟩
def ltV (a b : Vl) : Prop := a.kind < b.kind ∨ a.kind = b.kind ∧ (a.int < b.int ∨ a.int = b.int ∧ lessL a.text b.text = true)
theorem cmpI_neg {a b : Int} : cmpI a b < 0 ↔ a < b := by unfold cmpI; split <;> (try split) <;> omega
theorem cmpL_neg {a b : List Int} : cmpL a b < 0 ↔ lessL a b = true := by
  unfold cmpL
  cases h : lessL a b
  · simp; split <;> omega
  · simp
theorem cmpV_neg {a b : Vl} : cmpV a b < 0 ↔ ltV a b := by
  unfold cmpV ltV
  by_cases h1 : a.kind = b.kind
  · by_cases h2 : a.int = b.int
    · simp [h1, h2, cmpL_neg]
    · simp [h1, h2, cmpI_neg]
  · simp [h1, cmpI_neg]
theorem ltV_trans {a b c : Vl} (h1 : ltV a b) (h2 : ltV b c) : ltV a c := by
  unfold ltV at *
  rcases h1 with h1 | ⟨e1, h1 | ⟨f1, h1⟩⟩ <;> rcases h2 with h2 | ⟨e2, h2 | ⟨f2, h2⟩⟩
  all_goals first
    | exact .inl (by omega)
    | exact .inr ⟨by omega, .inl (by omega)⟩
    | exact .inr ⟨by omega, .inr ⟨by omega, lessL_trans h1 h2⟩⟩
theorem cmpV_zero {a b : Vl} (h : cmpV a b = 0) : a = b := by
  unfold cmpV at h
  by_cases h1 : a.kind = b.kind
  · by_cases h2 : a.int = b.int
    · simp only [h1, h2, ne_eq, not_true_eq_false, if_false] at h
      have h3 : a.text = b.text := by
        unfold cmpL at h
        split at h
        · cases h
        · split at h
          · assumption
          · cases h
      cases a; cases b; simp_all
    · simp only [h1, ne_eq, not_true_eq_false, if_false, h2, not_false_eq_true, if_true] at h
      unfold cmpI at h; split at h <;> (try split at h) <;> omega
  · simp only [h1, ne_eq, not_false_eq_true, if_true] at h
    unfold cmpI at h; split at h <;> (try split at h) <;> omega
theorem cmpV_self (a : Vl) : cmpV a a = 0 := by simp [cmpV, cmpL, lessL_irrefl]
theorem cmpV_trans {a b c : Vl} (h1 : cmpV a b < 0) (h2 : cmpV b c < 0) : cmpV a c < 0 := cmpV_neg.2 (ltV_trans (cmpV_neg.1 h1) (cmpV_neg.1 h2))
theorem best_self (s : Int) (a : Vl) : bestV s a a = a := by simp [bestV, cmpV_self, IntKind.wrap, IntKind.bits, IntKind.signed]
/-- The best of values, by a sign of one. -/
theorem bestV_eq {s : Int} (hs : s = -1 ∨ s = 1) (a b : Vl) : bestV s a b = if 0 < cmpV b a * s then b else a := by
  unfold bestV
  have : IntKind.i64.wrap (cmpV b a * s) = cmpV b a * s := by
    rw [wrap_def]
    rcases hs with rfl | rfl <;> rcases cmpV_range b a with e | e | e <;> rw [e] <;> decide
  rw [this]
theorem best_comm {s : Int} (hs : s = -1 ∨ s = 1) (a b : Vl) : bestV s a b = bestV s b a := by
  rw [bestV_eq hs, bestV_eq hs, cmpV_swap b a]
  by_cases h0 : cmpV b a = 0
  · have := cmpV_zero h0; subst this; simp
  · rcases hs with rfl | rfl <;> split <;> split <;> first | rfl | omega
theorem best_right {s : Int} (hs : s = -1 ∨ s = 1) (b v w : Vl) : bestV s (bestV s b v) w = bestV s (bestV s b w) v := by
  have sw : ∀ x y : Vl, cmpV x y * s = - (cmpV y x * s) := fun x y => by rw [cmpV_swap y x]; rcases hs with rfl | rfl <;> omega
  have ze : ∀ x y : Vl, cmpV x y * s = 0 → x = y := fun x y h => cmpV_zero (by rcases hs with rfl | rfl <;> omega)
  have tr : ∀ x y z : Vl, 0 < cmpV x y * s → 0 < cmpV y z * s → 0 < cmpV x z * s := fun x y z h1 h2 => by
    have t1 := @cmpV_trans x y z; have t2 := @cmpV_trans z y x
    have s1 := cmpV_swap x y; have s2 := cmpV_swap y z; have s3 := cmpV_swap x z
    rcases hs with rfl | rfl <;> omega
  simp only [bestV_eq hs]
  have s1 := sw v b; have s2 := sw w b; have s3 := sw w v
  by_cases h1 : 0 < cmpV v b * s <;> by_cases h2 : 0 < cmpV w b * s <;> simp only [h1, h2, if_true, if_false]
  · by_cases h3 : cmpV w v * s = 0
    · have := ze _ _ h3; subst this; simp
    · split <;> split <;> first | rfl | omega
  · by_cases h4 : cmpV w b * s = 0
    · have := ze _ _ h4; subst this; rw [if_neg (by omega)]
    · have := tr v b w h1 (by omega); rw [if_neg (by omega)]
  · by_cases h4 : cmpV v b * s = 0
    · have := ze _ _ h4; subst this; rw [if_neg (by omega)]
    · have := tr w b v h2 (by omega); rw [if_neg (by omega)]

/-! ### the fold in closed form -/
def contrib (fn : Int) (x : En) : Int := if countV fn x then (if fn = 0 then x.n else x.n * x.v.int) else 0
def S (fn : Int) : List En → Int
  | [] => 0
  | x :: l => contrib fn x + S fn l
def oB (s : Int) (o : Option Vl) (v : Vl) : Option Vl := some (match o with
  | none => v
  | some b => bestV s b v)
def gB (fn s : Int) (o : Option Vl) (x : En) : Option Vl := if countV fn x then oB s o x.v else o
def stB : Option Vl → Vl × Bool
  | none => (zeroVl, false)
  | some b => (b, true)
theorem fold0 : ∀ (l : List En) (c : Int), l.foldl (goStep 0) (⟨0, IntKind.i64.wrap c, []⟩, true) = (⟨0, IntKind.i64.wrap (c + S 0 l), []⟩, true)
  | [], c => by simp [S]
  | x :: l, c => by
    rw [List.foldl_cons]
    cases hx : countV 0 x
    · have : goStep 0 (⟨0, IntKind.i64.wrap c, []⟩, true) x = (⟨0, IntKind.i64.wrap c, []⟩, true) := by simp [goStep, hx]
      rw [this, fold0 l c]; simp [S, contrib, hx]
    · have : goStep 0 (⟨0, IntKind.i64.wrap c, []⟩, true) x = (⟨0, IntKind.i64.wrap (c + x.n), []⟩, true) := by simp [goStep, hx, stepF, addV, wrap_add_l]
      rw [this, fold0 l _]; simp [S, contrib, hx, Int.add_assoc]
theorem fold1 : ∀ (l : List En) (c : Int) (b : Bool), l.foldl (goStep 1) (⟨0, IntKind.i64.wrap c, []⟩, b) = (⟨0, IntKind.i64.wrap (c + S 1 l), []⟩, b || l.any (countV 1))
  | [], c, b => by simp [S]
  | x :: l, c, b => by
    rw [List.foldl_cons]
    cases hx : countV 1 x
    · have : goStep 1 (⟨0, IntKind.i64.wrap c, []⟩, b) x = (⟨0, IntKind.i64.wrap c, []⟩, b) := by simp [goStep, hx]
      rw [this, fold1 l c b]; simp [S, contrib, hx]
    · have : goStep 1 (⟨0, IntKind.i64.wrap c, []⟩, b) x = (⟨0, IntKind.i64.wrap (c + x.n * x.v.int), []⟩, true) := by simp [goStep, hx, stepF, addV, wrap_add_l, wrap_add_r]
      rw [this, fold1 l _ true]; simp [S, contrib, hx, Int.add_assoc]
theorem fold23 {fn s : Int} (hf : fn = 2 ∧ s = -1 ∨ fn = 3 ∧ s = 1) : ∀ (l : List En) (o : Option Vl), l.foldl (goStep fn) (stB o) = stB (l.foldl (gB fn s) o)
  | [], o => rfl
  | x :: l, o => by
    rw [List.foldl_cons, List.foldl_cons, ← fold23 hf l]
    congr 1
    cases hx : countV fn x
    · simp [goStep, gB, hx]
    · rcases hf with ⟨rfl, rfl⟩ | ⟨rfl, rfl⟩ <;> cases o <;> simp [goStep, gB, hx, stB, oB, stepF, best_self]
def signOf (fn : Int) : Int := if fn = 2 then -1 else 1
theorem applyV_eq (fn : Int) (l : List En) : applyV fn l = if fn = 0 then (⟨0, IntKind.i64.wrap (S 0 l), []⟩, true) else if fn = 1 then (⟨0, IntKind.i64.wrap (S 1 l), []⟩, l.any (countV 1)) else if fn = 2 ∨ fn = 3 then stB (l.foldl (gB fn (signOf fn)) none) else (zeroVl, false) := by
  unfold applyV
  by_cases h0 : fn = 0
  · subst h0
    have := fold0 l 0
    simpa [zeroVl, IntKind.wrap, IntKind.bits, IntKind.signed] using this
  by_cases h1 : fn = 1
  · subst h1
    have := fold1 l 0 false
    simpa [zeroVl, IntKind.wrap, IntKind.bits, IntKind.signed] using this
  by_cases h2 : fn = 2
  · subst h2; exact fold23 (.inl ⟨rfl, rfl⟩) l none
  by_cases h3 : fn = 3
  · subst h3; exact fold23 (.inr ⟨rfl, rfl⟩) l none
  rw [if_neg (by omega), if_neg h0, if_neg h1, if_neg (by omega)]
theorem S_perm {fn : Int} {l m : List En} (h : List.Perm l m) : S fn l = S fn m := by
  induction h with
  | nil => rfl
  | cons x _ ih => simp [S, ih]
  | swap x y l => simp only [S]; omega
  | trans _ _ h1 h2 => rw [h1, h2]
theorem gB_right {fn s : Int} (hs : s = -1 ∨ s = 1) (o : Option Vl) (x y : En) : gB fn s (gB fn s o x) y = gB fn s (gB fn s o y) x := by
  unfold gB
  split <;> split <;> try rfl
  cases o with
  | none => simp only [oB]; rw [best_comm hs]
  | some b => simp only [oB]; rw [best_right hs]
theorem foldB_perm {fn s : Int} (hs : s = -1 ∨ s = 1) {l m : List En} (h : List.Perm l m) : ∀ o, l.foldl (gB fn s) o = m.foldl (gB fn s) o := by
  induction h with
  | nil => intro o; rfl
  | cons x _ ih => intro o; exact ih _
  | swap x y l => intro o; simp only [List.foldl_cons]; rw [gB_right hs]
  | trans _ _ h1 h2 => intro o; rw [h1, h2]
theorem signOf_one (fn : Int) : signOf fn = -1 ∨ signOf fn = 1 := by unfold signOf; split <;> simp
theorem applyV_perm {fn : Int} {l m : List En} (h : List.Perm l m) : applyV fn l = applyV fn m := by
  rw [applyV_eq, applyV_eq, S_perm h, S_perm h, foldB_perm (signOf_one fn) h, h.any_eq]
/-! ### copies -/
theorem S_append (fn : Int) : ∀ (l m : List En), S fn (l ++ m) = S fn l + S fn m
  | [], m => by simp [S]
  | x :: l, m => by simp only [List.cons_append, S, S_append fn l m]; omega
def copies (x : En) : List En := List.replicate x.n.toNat ⟨1, x.v⟩
theorem count_one {fn : Int} {x : En} (h : 1 ≤ x.n) : countV fn ⟨1, x.v⟩ = countV fn x := by
  have h1 : ¬ x.n < 1 := by omega
  simp [countV, h1]
theorem count_no {fn : Int} {x : En} (h : ¬ 1 ≤ x.n) : countV fn x = false := by
  have h1 : x.n < 1 := by omega
  simp [countV, h1]
theorem S_replicate (fn : Int) (y : En) : ∀ k : Nat, S fn (List.replicate k y) = k * contrib fn y
  | 0 => by simp [S]
  | k + 1 => by rw [List.replicate_succ, S, S_replicate fn y k]; rw [Int.natCast_add, Int.add_mul]; simp; omega
theorem S_copies (fn : Int) (x : En) : S fn (copies x) = contrib fn x := by
  unfold copies
  rw [S_replicate]
  by_cases h : 1 ≤ x.n
  · unfold contrib
    rw [count_one h]
    have : (x.n.toNat : Int) = x.n := by omega
    rw [this]
    split
    · split <;> simp
    · simp
  · have : x.n.toNat = 0 := by omega
    rw [this]; simp [contrib, count_no h]
theorem any_copies (fn : Int) (x : En) : (copies x).any (countV fn) = countV fn x := by
  unfold copies
  by_cases h : 1 ≤ x.n
  · obtain ⟨k, hk⟩ : ∃ k, x.n.toNat = k + 1 := ⟨x.n.toNat - 1, by omega⟩
    rw [hk, List.replicate_succ, List.any_cons, count_one h]
    cases hc : countV fn x
    · simp [List.any_replicate, count_one h, hc]
    · simp
  · have : x.n.toNat = 0 := by omega
    rw [this, count_no h]; rfl
theorem foldB_replicate {fn s : Int} (hs : s = -1 ∨ s = 1) (y : En) : ∀ (k : Nat) (o : Option Vl), (List.replicate k y).foldl (gB fn s) (gB fn s o y) = gB fn s o y
  | 0, o => rfl
  | k + 1, o => by
    rw [List.replicate_succ, List.foldl_cons]
    have : gB fn s (gB fn s o y) y = gB fn s o y := by
      unfold gB
      split
      · cases o with
        | none => simp [oB, best_self]
        | some b =>
          simp only [oB]
          rw [bestV_eq hs (bestV s b y.v), bestV_eq hs b y.v]
          split
          · simp [cmpV_self]
          · rename_i h; simp [h]
      · rfl
    rw [this, foldB_replicate hs y k]
theorem foldB_copies {fn s : Int} (hs : s = -1 ∨ s = 1) (x : En) (o : Option Vl) : (copies x).foldl (gB fn s) o = gB fn s o x := by
  unfold copies
  by_cases h : 1 ≤ x.n
  · obtain ⟨k, hk⟩ : ∃ k, x.n.toNat = k + 1 := ⟨x.n.toNat - 1, by omega⟩
    rw [hk, List.replicate_succ, List.foldl_cons, foldB_replicate hs]
    simp [gB, count_one h]
  · have : x.n.toNat = 0 := by omega
    rw [this]; simp [gB, count_no h]
theorem applyV_copies (fn : Int) (l : List En) : applyV fn (l.flatMap copies) = applyV fn l := by
  have h1 : ∀ l : List En, S fn (l.flatMap copies) = S fn l := by
    intro l; induction l with
    | nil => rfl
    | cons x l ih => rw [List.flatMap_cons, S_append, ih, S_copies]; rfl
  have h2 : ∀ l : List En, (l.flatMap copies).any (countV fn) = l.any (countV fn) := by
    intro l; induction l with
    | nil => rfl
    | cons x l ih => rw [List.flatMap_cons, List.any_append, ih, any_copies]; rfl
  have h3 : ∀ (l : List En) (o : Option Vl), (l.flatMap copies).foldl (gB fn (signOf fn)) o = l.foldl (gB fn (signOf fn)) o := by
    intro l; induction l with
    | nil => intro o; rfl
    | cons x l ih => intro o; rw [List.flatMap_cons, List.foldl_append, foldB_copies (signOf_one fn), ih]; rfl
  rw [applyV_eq, applyV_eq, h3]
  by_cases h0 : fn = 0
  · subst h0; rw [if_pos rfl, if_pos rfl, h1]
  · rw [if_neg h0, if_neg h0]
    by_cases h4 : fn = 1
    · subst h4; rw [if_pos rfl, if_pos rfl, h1, h2]
    · rw [if_neg h4, if_neg h4]
/-! ### results are valid -/
theorem validV_int (n : Int) : validV ⟨0, n, []⟩ = true := by simp [validV]
theorem count_valid {fn : Int} {x : En} (hf : fn = 2 ∨ fn = 3) (h : countV fn x = true) : validV x.v = true := by
  have h0 : ¬ fn = 0 := by omega
  have h1 : ¬ fn = 1 := by omega
  unfold countV at h
  split at h
  · cases h
  · simpa [h0, h1] using h
theorem foldB_mem {fn s : Int} (hs : s = -1 ∨ s = 1) : ∀ (l : List En) (o : Option Vl) (v : Vl), l.foldl (gB fn s) o = some v → o = some v ∨ ∃ x ∈ l, countV fn x = true ∧ x.v = v
  | [], o, v, h => .inl h
  | x :: l, o, v, h => by
    rcases foldB_mem hs l _ v h with h | ⟨y, hy, h⟩
    · unfold gB at h
      split at h
      · rename_i hc
        cases o with
        | none => simp only [oB, Option.some.injEq] at h; exact .inr ⟨x, by simp, hc, h⟩
        | some b =>
          simp only [oB, Option.some.injEq] at h
          rw [bestV_eq hs] at h
          split at h
          · exact .inr ⟨x, by simp, hc, h⟩
          · exact .inl (by rw [h])
      · exact .inl h
    · exact .inr ⟨y, by simp [hy], h⟩
theorem applyV_valid {fn : Int} {l : List En} (h : (applyV fn l).2 = true) : validV (applyV fn l).1 = true ∧ (fn ≤ 1 → (applyV fn l).1.kind = 0) ∧ (2 ≤ fn → ∃ x ∈ l, x.v = (applyV fn l).1) := by
  rw [applyV_eq] at h ⊢
  by_cases h0 : fn = 0
  · subst h0; simp [validV_int]
  rw [if_neg h0] at h ⊢
  by_cases h1 : fn = 1
  · subst h1; simp [validV_int]
  rw [if_neg h1] at h ⊢
  by_cases h2 : fn = 2 ∨ fn = 3
  · rw [if_pos h2] at h ⊢
    cases hb : l.foldl (gB fn (signOf fn)) none with
    | none => rw [hb] at h; cases h
    | some b =>
      rcases foldB_mem (signOf_one fn) l none b hb with e | ⟨x, hx, hc, rfl⟩
      · cases e
      · exact ⟨count_valid h2 hc, fun h => by omega, fun _ => ⟨x, hx, rfl⟩⟩
  · rw [if_neg h2] at h; cases h
theorem applyV_snoc {fn : Int} (hf : 0 ≤ fn ∧ fn ≤ 3) (l : List En) (x : En) : applyV fn (l ++ [x]) = goStep fn (applyV fn l) x := by
  simp only [applyV, if_pos hf, List.foldl_append, List.foldl_cons, List.foldl_nil]
end Go.Proofs.YtagebnmealiedaaA
