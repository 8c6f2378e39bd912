/- Words of this session: chapter 7: the laws of Holds and Matches. Words of this session: chapter 7: what a result of an aggregate function is: plain laws. Words of this session: chapter 7: merging, as lists alone. -/
import Derived.Test.YtagebnmealiedaaQI
namespace Go.Proofs.YtagebnmealiedaaA
open Go Go.Proofs Go.RowKit
set_option linter.unusedVariables false
set_option linter.unusedSimpArgs false
set_option maxRecDepth 10000
set_option maxHeartbeats 1000000
theorem cmpI_swap (a b : Int) : cmpI b a = - cmpI a b := by unfold cmpI; split <;> split <;> (try split) <;> omega
theorem lessL_asymm : ∀ {a b : List Int}, lessL a b = true → lessL b a = false
  | _, [], h => by cases ‹List Int› <;> simp [lessL] at h
  | [], _ :: _, _ => by simp [lessL]
  | x :: a, y :: b, h => by
    simp only [lessL, Bool.or_eq_true, decide_eq_true_eq, Bool.and_eq_true, beq_iff_eq] at h
    simp only [lessL, Bool.or_eq_false_iff, decide_eq_false_iff_not, Bool.and_eq_false_iff, beq_eq_false_iff_ne]
    rcases h with h | ⟨rfl, h⟩
    · exact ⟨by omega, .inl (by omega)⟩
    · exact ⟨by omega, .inr (lessL_asymm h)⟩
theorem lessL_total : ∀ (a b : List Int), lessL a b = false → lessL b a = false → a = b
  | [], [], _, _ => rfl
  | [], _ :: _, h, _ => by simp [lessL] at h
  | _ :: _, [], _, h => by simp [lessL] at h
  | x :: a, y :: b, h, h2 => by
    simp only [lessL, Bool.or_eq_false_iff, decide_eq_false_iff_not, Bool.and_eq_false_iff, beq_eq_false_iff_ne] at h h2
    have : x = y := by omega
    subst this
    rw [lessL_total a b (h.2.resolve_left (by simp)) (h2.2.resolve_left (by simp))]
theorem cmpL_swap (a b : List Int) : cmpL b a = - cmpL a b := by
  unfold cmpL
  by_cases h1 : lessL a b = true
  · rw [lessL_asymm h1, h1]
    have : ¬ b = a := fun e => by subst e; rw [lessL_irrefl] at h1; cases h1
    simp [this]
  · by_cases h2 : lessL b a = true
    · rw [lessL_asymm h2, h2]
      have : ¬ a = b := fun e => by subst e; rw [lessL_irrefl] at h2; cases h2
      simp [this]
    · have := lessL_total a b (by simpa using h1) (by simpa using h2)
      subst this
      simp [lessL_irrefl]
theorem cmpV_swap (a b : Vl) : cmpV b a = - cmpV a b := by
  unfold cmpV
  by_cases h1 : a.kind = b.kind
  · by_cases h2 : a.int = b.int
    · simp [h1, h2, cmpL_swap b.text a.text]
    · have h3 : ¬ b.int = a.int := fun e => h2 e.symm
      simp [h1, h2, h3, cmpI_swap a.int b.int]
  · have h3 : ¬ b.kind = a.kind := fun e => h1 e.symm
    simp [h1, h3, cmpI_swap a.kind b.kind]
end Go.Proofs.YtagebnmealiedaaA
namespace Go.Proofs.YtagebnmealiedaaA
open Go Go.Proofs Go.RowKit
set_option linter.unusedVariables false
set_option linter.unusedSimpArgs false
theorem wrap_def (x : Int) : IntKind.i64.wrap x = (x + 9223372036854775808) % 18446744073709551616 - 9223372036854775808 := by
  have h3 : IntKind.i64.bits = 64 := rfl
  have h4 : IntKind.i64.signed = true := rfl
  unfold IntKind.wrap
  first
  | (simp [h3, h4]; omega)
  | (simp only [h3, h4]; split <;> omega)
theorem wrap_wrap (x : Int) : IntKind.i64.wrap (IntKind.i64.wrap x) = IntKind.i64.wrap x := by simp only [wrap_def]; omega
theorem wrap_add_l (x y : Int) : IntKind.i64.wrap (IntKind.i64.wrap x + y) = IntKind.i64.wrap (x + y) := by simp only [wrap_def]; omega
theorem wrap_add_r (x y : Int) : IntKind.i64.wrap (x + IntKind.i64.wrap y) = IntKind.i64.wrap (x + y) := by simp only [wrap_def]; omega
theorem wrap_mul_r (x y : Int) : IntKind.i64.wrap (x * IntKind.i64.wrap y) = IntKind.i64.wrap (x * y) := by
  have h : IntKind.i64.wrap y = y - 18446744073709551616 * ((y + 9223372036854775808) / 18446744073709551616) := by rw [wrap_def]; omega
  rw [h, Int.mul_sub, wrap_def, wrap_def, show x * (18446744073709551616 * ((y + 9223372036854775808) / 18446744073709551616)) = 18446744073709551616 * (x * ((y + 9223372036854775808) / 18446744073709551616)) by rw [← Int.mul_assoc, ← Int.mul_assoc, Int.mul_comm x]]
  omega

/-! ### the order of values -/
theorem lessL_trans : ∀ {a b c : List Int}, lessL a b = true → lessL b c = true → lessL a c = true
  | _, _, [], _, h => by cases ‹List Int› <;> simp [lessL] at h
  | _, [], _ :: _, h, _ => by cases ‹List Int› <;> simp [lessL] at h
  | [], _ :: _, _ :: _, _, _ => by simp [lessL]
  | x :: a, y :: b, z :: c, h1, h2 => by
    simp only [lessL, Bool.or_eq_true, decide_eq_true_eq, Bool.and_eq_true, beq_iff_eq] at h1 h2 ⊢
    rcases h1 with h1 | ⟨rfl, h1⟩ <;> rcases h2 with h2 | ⟨rfl, h2⟩
    · exact .inl (by omega)
    · exact .inl h1
    · exact .inl h2
    · exact .inr ⟨rfl, lessL_trans h1 h2⟩
def ltV (a b : Vl) : Prop := a.kind < b.kind ∨ a.kind = b.kind ∧ (a.int < b.int ∨ a.int = b.int ∧ lessL a.text b.text = true)
theorem cmpI_neg {a b : Int} : cmpI a b < 0 ↔ a < b := by unfold cmpI; split <;> (try split) <;> omega
theorem cmpL_neg {a b : List Int} : cmpL a b < 0 ↔ lessL a b = true := by
  unfold cmpL
  cases h : lessL a b
  · simp; split <;> omega
  · simp
theorem cmpV_neg {a b : Vl} : cmpV a b < 0 ↔ ltV a b := by
  unfold cmpV ltV
  by_cases h1 : a.kind = b.kind
  · by_cases h2 : a.int = b.int
    · simp [h1, h2, cmpL_neg]
    · simp [h1, h2, cmpI_neg]
  · simp [h1, cmpI_neg]
theorem ltV_trans {a b c : Vl} (h1 : ltV a b) (h2 : ltV b c) : ltV a c := by
  unfold ltV at *
  rcases h1 with h1 | ⟨e1, h1 | ⟨f1, h1⟩⟩ <;> rcases h2 with h2 | ⟨e2, h2 | ⟨f2, h2⟩⟩
  all_goals first
    | exact .inl (by omega)
    | exact .inr ⟨by omega, .inl (by omega)⟩
    | exact .inr ⟨by omega, .inr ⟨by omega, lessL_trans h1 h2⟩⟩
theorem cmpV_zero {a b : Vl} (h : cmpV a b = 0) : a = b := by
  unfold cmpV at h
  by_cases h1 : a.kind = b.kind
  · by_cases h2 : a.int = b.int
    · simp only [h1, h2, ne_eq, not_true_eq_false, if_false] at h
      have h3 : a.text = b.text := by
        unfold cmpL at h
        split at h
        · cases h
        · split at h
          · assumption
          · cases h
      cases a; cases b; simp_all
    · simp only [h1, ne_eq, not_true_eq_false, if_false, h2, not_false_eq_true, if_true] at h
      unfold cmpI at h; split at h <;> (try split at h) <;> omega
  · simp only [h1, ne_eq, not_false_eq_true, if_true] at h
    unfold cmpI at h; split at h <;> (try split at h) <;> omega
theorem cmpV_self (a : Vl) : cmpV a a = 0 := by simp [cmpV, cmpL, lessL_irrefl]
theorem cmpV_trans {a b c : Vl} (h1 : cmpV a b < 0) (h2 : cmpV b c < 0) : cmpV a c < 0 := cmpV_neg.2 (ltV_trans (cmpV_neg.1 h1) (cmpV_neg.1 h2))
theorem best_self (s : Int) (a : Vl) : bestV s a a = a := by simp [bestV, cmpV_self, IntKind.wrap, IntKind.bits, IntKind.signed]
/-- The best of values, by a sign of one. -/
theorem bestV_eq {s : Int} (hs : s = -1 ∨ s = 1) (a b : Vl) : bestV s a b = if 0 < cmpV b a * s then b else a := by
  unfold bestV
  have : IntKind.i64.wrap (cmpV b a * s) = cmpV b a * s := by
    rw [wrap_def]
    rcases hs with rfl | rfl <;> rcases cmpV_range b a with e | e | e <;> rw [e] <;> decide
  rw [this]
theorem best_comm {s : Int} (hs : s = -1 ∨ s = 1) (a b : Vl) : bestV s a b = bestV s b a := by
  rw [bestV_eq hs, bestV_eq hs, cmpV_swap b a]
  by_cases h0 : cmpV b a = 0
  · have := cmpV_zero h0; subst this; simp
  · rcases hs with rfl | rfl <;> split <;> split <;> first | rfl | omega
theorem best_right {s : Int} (hs : s = -1 ∨ s = 1) (b v w : Vl) : bestV s (bestV s b v) w = bestV s (bestV s b w) v := by
  have sw : ∀ x y : Vl, cmpV x y * s = - (cmpV y x * s) := fun x y => by rw [cmpV_swap y x]; rcases hs with rfl | rfl <;> omega
  have ze : ∀ x y : Vl, cmpV x y * s = 0 → x = y := fun x y h => cmpV_zero (by rcases hs with rfl | rfl <;> omega)
  have tr : ∀ x y z : Vl, 0 < cmpV x y * s → 0 < cmpV y z * s → 0 < cmpV x z * s := fun x y z h1 h2 => by
    have t1 := @cmpV_trans x y z; have t2 := @cmpV_trans z y x
    have s1 := cmpV_swap x y; have s2 := cmpV_swap y z; have s3 := cmpV_swap x z
    rcases hs with rfl | rfl <;> omega
  simp only [bestV_eq hs]
  have s1 := sw v b; have s2 := sw w b; have s3 := sw w v
  by_cases h1 : 0 < cmpV v b * s <;> by_cases h2 : 0 < cmpV w b * s <;> simp only [h1, h2, if_true, if_false]
  · by_cases h3 : cmpV w v * s = 0
    · have := ze _ _ h3; subst this; simp
    · split <;> split <;> first | rfl | omega
  · by_cases h4 : cmpV w b * s = 0
    · have := ze _ _ h4; subst this; rw [if_neg (by omega)]
    · have := tr v b w h1 (by omega); rw [if_neg (by omega)]
  · by_cases h4 : cmpV v b * s = 0
    · have := ze _ _ h4; subst this; rw [if_neg (by omega)]
    · have := tr w b v h2 (by omega); rw [if_neg (by omega)]

/-! ### the fold in closed form -/
def contrib (fn : Int) (x : En) : Int := if countV fn x then (if fn = 0 then x.n else x.n * x.v.int) else 0
def S (fn : Int) : List En → Int
  | [] => 0
  | x :: l => contrib fn x + S fn l
def oB (s : Int) (o : Option Vl) (v : Vl) : Option Vl := some (match o with
  | none => v
  | some b => bestV s b v)
def gB (fn s : Int) (o : Option Vl) (x : En) : Option Vl := if countV fn x then oB s o x.v else o
def stB : Option Vl → Vl × Bool
  | none => (zeroVl, false)
  | some b => (b, true)
theorem fold0 : ∀ (l : List En) (c : Int), l.foldl (goStep 0) (⟨0, IntKind.i64.wrap c, []⟩, true) = (⟨0, IntKind.i64.wrap (c + S 0 l), []⟩, true)
  | [], c => by simp [S]
  | x :: l, c => by
    rw [List.foldl_cons]
    cases hx : countV 0 x
    · have : goStep 0 (⟨0, IntKind.i64.wrap c, []⟩, true) x = (⟨0, IntKind.i64.wrap c, []⟩, true) := by simp [goStep, hx]
      rw [this, fold0 l c]; simp [S, contrib, hx]
    · have : goStep 0 (⟨0, IntKind.i64.wrap c, []⟩, true) x = (⟨0, IntKind.i64.wrap (c + x.n), []⟩, true) := by simp [goStep, hx, stepF, addV, wrap_add_l]
      rw [this, fold0 l _]; simp [S, contrib, hx, Int.add_assoc]
theorem fold1 : ∀ (l : List En) (c : Int) (b : Bool), l.foldl (goStep 1) (⟨0, IntKind.i64.wrap c, []⟩, b) = (⟨0, IntKind.i64.wrap (c + S 1 l), []⟩, b || l.any (countV 1))
  | [], c, b => by simp [S]
  | x :: l, c, b => by
    rw [List.foldl_cons]
    cases hx : countV 1 x
    · have : goStep 1 (⟨0, IntKind.i64.wrap c, []⟩, b) x = (⟨0, IntKind.i64.wrap c, []⟩, b) := by simp [goStep, hx]
      rw [this, fold1 l c b]; simp [S, contrib, hx]
    · have : goStep 1 (⟨0, IntKind.i64.wrap c, []⟩, b) x = (⟨0, IntKind.i64.wrap (c + x.n * x.v.int), []⟩, true) := by simp [goStep, hx, stepF, addV, wrap_add_l, wrap_add_r]
      rw [this, fold1 l _ true]; simp [S, contrib, hx, Int.add_assoc]
theorem fold23 {fn s : Int} (hf : fn = 2 ∧ s = -1 ∨ fn = 3 ∧ s = 1) : ∀ (l : List En) (o : Option Vl), l.foldl (goStep fn) (stB o) = stB (l.foldl (gB fn s) o)
  | [], o => rfl
  | x :: l, o => by
    rw [List.foldl_cons, List.foldl_cons, ← fold23 hf l]
    congr 1
    cases hx : countV fn x
    · simp [goStep, gB, hx]
    · rcases hf with ⟨rfl, rfl⟩ | ⟨rfl, rfl⟩ <;> cases o <;> simp [goStep, gB, hx, stB, oB, stepF, best_self]
def signOf (fn : Int) : Int := if fn = 2 then -1 else 1
theorem applyV_eq (fn : Int) (l : List En) : applyV fn l = if fn = 0 then (⟨0, IntKind.i64.wrap (S 0 l), []⟩, true) else if fn = 1 then (⟨0, IntKind.i64.wrap (S 1 l), []⟩, l.any (countV 1)) else if fn = 2 ∨ fn = 3 then stB (l.foldl (gB fn (signOf fn)) none) else (zeroVl, false) := by
  unfold applyV
  by_cases h0 : fn = 0
  · subst h0
    have := fold0 l 0
    simpa [zeroVl, IntKind.wrap, IntKind.bits, IntKind.signed] using this
  by_cases h1 : fn = 1
  · subst h1
    have := fold1 l 0 false
    simpa [zeroVl, IntKind.wrap, IntKind.bits, IntKind.signed] using this
  by_cases h2 : fn = 2
  · subst h2; exact fold23 (.inl ⟨rfl, rfl⟩) l none
  by_cases h3 : fn = 3
  · subst h3; exact fold23 (.inr ⟨rfl, rfl⟩) l none
  rw [if_neg (by omega), if_neg h0, if_neg h1, if_neg (by omega)]
theorem S_perm {fn : Int} {l m : List En} (h : List.Perm l m) : S fn l = S fn m := by
  induction h with
  | nil => rfl
  | cons x _ ih => simp [S, ih]
  | swap x y l => simp only [S]; omega
  | trans _ _ h1 h2 => rw [h1, h2]
theorem gB_right {fn s : Int} (hs : s = -1 ∨ s = 1) (o : Option Vl) (x y : En) : gB fn s (gB fn s o x) y = gB fn s (gB fn s o y) x := by
  unfold gB
  split <;> split <;> try rfl
  cases o with
  | none => simp only [oB]; rw [best_comm hs]
  | some b => simp only [oB]; rw [best_right hs]
theorem foldB_perm {fn s : Int} (hs : s = -1 ∨ s = 1) {l m : List En} (h : List.Perm l m) : ∀ o, l.foldl (gB fn s) o = m.foldl (gB fn s) o := by
  induction h with
  | nil => intro o; rfl
  | cons x _ ih => intro o; exact ih _
  | swap x y l => intro o; simp only [List.foldl_cons]; rw [gB_right hs]
  | trans _ _ h1 h2 => intro o; rw [h1, h2]
theorem signOf_one (fn : Int) : signOf fn = -1 ∨ signOf fn = 1 := by unfold signOf; split <;> simp
theorem applyV_perm {fn : Int} {l m : List En} (h : List.Perm l m) : applyV fn l = applyV fn m := by
  rw [applyV_eq, applyV_eq, S_perm h, S_perm h, foldB_perm (signOf_one fn) h, h.any_eq]
/-! ### copies -/
theorem S_append (fn : Int) : ∀ (l m : List En), S fn (l ++ m) = S fn l + S fn m
  | [], m => by simp [S]
  | x :: l, m => by simp only [List.cons_append, S, S_append fn l m]; omega
def copies (x : En) : List En := List.replicate x.n.toNat ⟨1, x.v⟩
theorem count_one {fn : Int} {x : En} (h : 1 ≤ x.n) : countV fn ⟨1, x.v⟩ = countV fn x := by
  have h1 : ¬ x.n < 1 := by omega
  simp [countV, h1]
theorem count_no {fn : Int} {x : En} (h : ¬ 1 ≤ x.n) : countV fn x = false := by
  have h1 : x.n < 1 := by omega
  simp [countV, h1]
theorem S_replicate (fn : Int) (y : En) : ∀ k : Nat, S fn (List.replicate k y) = k * contrib fn y
  | 0 => by simp [S]
  | k + 1 => by rw [List.replicate_succ, S, S_replicate fn y k]; rw [Int.natCast_add, Int.add_mul]; simp; omega
theorem S_copies (fn : Int) (x : En) : S fn (copies x) = contrib fn x := by
  unfold copies
  rw [S_replicate]
  by_cases h : 1 ≤ x.n
  · unfold contrib
    rw [count_one h]
    have : (x.n.toNat : Int) = x.n := by omega
    rw [this]
    split
    · split <;> simp
    · simp
  · have : x.n.toNat = 0 := by omega
    rw [this]; simp [contrib, count_no h]
theorem any_copies (fn : Int) (x : En) : (copies x).any (countV fn) = countV fn x := by
  unfold copies
  by_cases h : 1 ≤ x.n
  · obtain ⟨k, hk⟩ : ∃ k, x.n.toNat = k + 1 := ⟨x.n.toNat - 1, by omega⟩
    rw [hk, List.replicate_succ, List.any_cons, count_one h]
    cases hc : countV fn x
    · simp [List.any_replicate, count_one h, hc]
    · simp
  · have : x.n.toNat = 0 := by omega
    rw [this, count_no h]; rfl
theorem foldB_replicate {fn s : Int} (hs : s = -1 ∨ s = 1) (y : En) : ∀ (k : Nat) (o : Option Vl), (List.replicate k y).foldl (gB fn s) (gB fn s o y) = gB fn s o y
  | 0, o => rfl
  | k + 1, o => by
    rw [List.replicate_succ, List.foldl_cons]
    have : gB fn s (gB fn s o y) y = gB fn s o y := by
      unfold gB
      split
      · cases o with
        | none => simp [oB, best_self]
        | some b =>
          simp only [oB]
          rw [bestV_eq hs (bestV s b y.v), bestV_eq hs b y.v]
          split
          · simp [cmpV_self]
          · rename_i h; simp [h]
      · rfl
    rw [this, foldB_replicate hs y k]
theorem foldB_copies {fn s : Int} (hs : s = -1 ∨ s = 1) (x : En) (o : Option Vl) : (copies x).foldl (gB fn s) o = gB fn s o x := by
  unfold copies
  by_cases h : 1 ≤ x.n
  · obtain ⟨k, hk⟩ : ∃ k, x.n.toNat = k + 1 := ⟨x.n.toNat - 1, by omega⟩
    rw [hk, List.replicate_succ, List.foldl_cons, foldB_replicate hs]
    simp [gB, count_one h]
  · have : x.n.toNat = 0 := by omega
    rw [this]; simp [gB, count_no h]
theorem applyV_copies (fn : Int) (l : List En) : applyV fn (l.flatMap copies) = applyV fn l := by
  have h1 : ∀ l : List En, S fn (l.flatMap copies) = S fn l := by
    intro l; induction l with
    | nil => rfl
    | cons x l ih => rw [List.flatMap_cons, S_append, ih, S_copies]; rfl
  have h2 : ∀ l : List En, (l.flatMap copies).any (countV fn) = l.any (countV fn) := by
    intro l; induction l with
    | nil => rfl
    | cons x l ih => rw [List.flatMap_cons, List.any_append, ih, any_copies]; rfl
  have h3 : ∀ (l : List En) (o : Option Vl), (l.flatMap copies).foldl (gB fn (signOf fn)) o = l.foldl (gB fn (signOf fn)) o := by
    intro l; induction l with
    | nil => intro o; rfl
    | cons x l ih => intro o; rw [List.flatMap_cons, List.foldl_append, foldB_copies (signOf_one fn), ih]; rfl
  rw [applyV_eq, applyV_eq, h3]
  by_cases h0 : fn = 0
  · subst h0; rw [if_pos rfl, if_pos rfl, h1]
  · rw [if_neg h0, if_neg h0]
    by_cases h4 : fn = 1
    · subst h4; rw [if_pos rfl, if_pos rfl, h1, h2]
    · rw [if_neg h4, if_neg h4]
/-! ### results are valid -/
theorem validV_int (n : Int) : validV ⟨0, n, []⟩ = true := by simp [validV]
theorem count_valid {fn : Int} {x : En} (hf : fn = 2 ∨ fn = 3) (h : countV fn x = true) : validV x.v = true := by
  have h0 : ¬ fn = 0 := by omega
  have h1 : ¬ fn = 1 := by omega
  unfold countV at h
  split at h
  · cases h
  · simpa [h0, h1] using h
theorem foldB_mem {fn s : Int} (hs : s = -1 ∨ s = 1) : ∀ (l : List En) (o : Option Vl) (v : Vl), l.foldl (gB fn s) o = some v → o = some v ∨ ∃ x ∈ l, countV fn x = true ∧ x.v = v
  | [], o, v, h => .inl h
  | x :: l, o, v, h => by
    rcases foldB_mem hs l _ v h with h | ⟨y, hy, h⟩
    · unfold gB at h
      split at h
      · rename_i hc
        cases o with
        | none => simp only [oB, Option.some.injEq] at h; exact .inr ⟨x, by simp, hc, h⟩
        | some b =>
          simp only [oB, Option.some.injEq] at h
          rw [bestV_eq hs] at h
          split at h
          · exact .inr ⟨x, by simp, hc, h⟩
          · exact .inl (by rw [h])
      · exact .inl h
    · exact .inr ⟨y, by simp [hy], h⟩
theorem applyV_valid {fn : Int} {l : List En} (h : (applyV fn l).2 = true) : validV (applyV fn l).1 = true ∧ (fn ≤ 1 → (applyV fn l).1.kind = 0) ∧ (2 ≤ fn → ∃ x ∈ l, x.v = (applyV fn l).1) := by
  rw [applyV_eq] at h ⊢
  by_cases h0 : fn = 0
  · subst h0; simp [validV_int]
  rw [if_neg h0] at h ⊢
  by_cases h1 : fn = 1
  · subst h1; simp [validV_int]
  rw [if_neg h1] at h ⊢
  by_cases h2 : fn = 2 ∨ fn = 3
  · rw [if_pos h2] at h ⊢
    cases hb : l.foldl (gB fn (signOf fn)) none with
    | none => rw [hb] at h; cases h
    | some b =>
      rcases foldB_mem (signOf_one fn) l none b hb with e | ⟨x, hx, hc, rfl⟩
      · cases e
      · exact ⟨count_valid h2 hc, fun h => by omega, fun _ => ⟨x, hx, rfl⟩⟩
  · rw [if_neg h2] at h; cases h
theorem applyV_snoc {fn : Int} (hf : 0 ≤ fn ∧ fn ≤ 3) (l : List En) (x : En) : applyV fn (l ++ [x]) = goStep fn (applyV fn l) x := by
  simp only [applyV, if_pos hf, List.foldl_append, List.foldl_cons, List.foldl_nil]
end Go.Proofs.YtagebnmealiedaaA
namespace Go.Proofs.YtagebnmealiedaaA
open Go Go.Proofs Go.RowKit
set_option linter.unusedVariables false
set_option linter.unusedSimpArgs false
def addSat (a b : Int) : Int := if 9223372036854775807 - b < a then 9223372036854775807 else a + b
def posM (out : List En) (x : En) : Nat := (out.takeWhile fun y => decide (cmpV y.v x.v < 0)).length
def putM (out : List En) (x : En) : List En := out.take (posM out x) ++ [x] ++ out.drop (posM out x)
def stepM (out : List En) (x : En) : List En :=
  if countV 2 x = true then
    match out[posM out x]? with
    | some y => if cmpV y.v x.v = 0 then out.set (posM out x) ⟨addSat y.n x.n, y.v⟩ else putM out x
    | none => putM out x
  else out
def mergeV (l : List En) : List En := l.foldl stepM []
/-- Where x belongs. -/
structure AtM (out : List En) (x : En) (i : Nat) : Prop where
  le : i ≤ out.length
  lo : ∀ k, k < i → ∀ y, out[k]? = some y → cmpV y.v x.v < 0
  hi : ∀ k, i ≤ k → ∀ y, out[k]? = some y → ¬ cmpV y.v x.v < 0
theorem AtM.eq {x : En} : ∀ {out : List En} {i : Nat}, AtM out x i → posM out x = i
  | [], i, a => by have := a.le; simp at this; subst this; rfl
  | y :: t, 0, a => by
    have := a.hi 0 (Nat.le_refl _) y rfl
    simp [posM, this]
  | y :: t, i + 1, a => by
    have h := a.lo 0 (by omega) y rfl
    have ih := AtM.eq (out := t) (i := i) (x := x) ⟨by have := a.le; simpa using this, fun k hk z hz => a.lo (k + 1) (by omega) z (by simpa using hz), fun k hk z hz => a.hi (k + 1) (by omega) z (by simpa using hz)⟩
    unfold posM at ih ⊢
    rw [List.takeWhile_cons, if_pos (by simpa using h), List.length_cons, ih]
def SrtM (out : List En) : Prop := out.Pairwise fun a b => cmpV a.v b.v < 0
theorem cmpV_nz {a b : Vl} : ¬ cmpV a b < 0 → cmpV a b ≠ 0 → cmpV b a < 0 := fun h1 h2 => by rw [cmpV_swap a b]; omega
theorem SrtM.at {x : En} : ∀ {out : List En}, SrtM out → AtM out x (posM out x)
  | [], _ => ⟨Nat.le_refl _, fun k _ y hy => by simp at hy, fun k _ y hy => by simp at hy⟩
  | y :: t, hs => by
    have hs' := List.pairwise_cons.1 hs
    by_cases h : cmpV y.v x.v < 0
    · have ih := SrtM.at (x := x) hs'.2
      have e : posM (y :: t) x = posM t x + 1 := by unfold posM; rw [List.takeWhile_cons, if_pos (by simpa using h), List.length_cons]
      rw [e]
      refine ⟨by have := ih.le; simpa using this, fun k hk z hz => ?_, fun k hk z hz => ?_⟩
      · cases k with
        | zero => simp at hz; subst hz; exact h
        | succ k => exact ih.lo k (by omega) z (by simpa using hz)
      · cases k with
        | zero => omega
        | succ k => exact ih.hi k (by omega) z (by simpa using hz)
    · have e : posM (y :: t) x = 0 := by unfold posM; rw [List.takeWhile_cons, if_neg (by simpa using h)]; rfl
      rw [e]
      refine ⟨Nat.zero_le _, fun k hk => absurd hk (by omega), fun k _ z hz hlt => ?_⟩
      cases k with
      | zero => simp at hz; subst hz; exact h hlt
      | succ k =>
        have hz' : t[k]? = some z := by simpa using hz
        have := hs'.1 z (List.mem_of_getElem? hz')
        exact h (cmpV_trans this hlt)
theorem set_split {α : Type} {l : List α} {i : Nat} {y z : α} (h : l[i]? = some y) : l = l.take i ++ y :: l.drop (i + 1) ∧ l.set i z = l.take i ++ z :: l.drop (i + 1) := by
  have hi := (List.getElem?_eq_some_iff.1 h).1
  have hy := (List.getElem?_eq_some_iff.1 h).2
  refine ⟨?_, List.set_eq_take_append_cons_drop .. |>.trans (if_pos hi)⟩
  rw [← hy, List.getElem_cons_drop, List.take_append_drop]
theorem srt_v {out : List En} : SrtM out ↔ (out.map En.v).Pairwise fun a b => cmpV a b < 0 := by
  unfold SrtM; rw [List.pairwise_map]
theorem srt_set {out : List En} {i : Nat} {y : En} {n : Int} (hs : SrtM out) (h : out[i]? = some y) : SrtM (out.set i ⟨n, y.v⟩) := by
  rw [srt_v] at hs ⊢
  obtain ⟨e1, e2⟩ := set_split (z := (⟨n, y.v⟩ : En)) h
  rw [e2]
  rw [e1] at hs
  simpa using hs
theorem srt_put {out : List En} {x : En} (hs : SrtM out) (hne : ∀ y, out[posM out x]? = some y → cmpV y.v x.v ≠ 0) : SrtM (putM out x) := by
  have a := hs.at (x := x)
  unfold putM SrtM
  rw [List.append_assoc, List.pairwise_append]
  have hd : ∀ z ∈ out.drop (posM out x), cmpV x.v z.v < 0 := fun z hz => by
    obtain ⟨k, hk, e⟩ := List.getElem_of_mem hz
    rw [List.getElem_drop] at e
    rw [List.length_drop] at hk
    have hz1 : out[posM out x + k]? = some z := by rw [List.getElem?_eq_getElem (by omega), e]
    have hnl := a.hi _ (Nat.le_add_right _ _) z hz1
    cases k with
    | zero => exact cmpV_nz hnl (hne z hz1)
    | succ k =>
      have h0 : out[posM out x]? = some (out[posM out x]'(by omega)) := List.getElem?_eq_getElem (by omega)
      have h1 := cmpV_nz (a.hi _ (Nat.le_refl _) _ h0) (hne _ h0)
      have h2 : cmpV (out[posM out x]'(by omega)).v z.v < 0 := by
        have := List.pairwise_iff_getElem.1 hs (posM out x) (posM out x + (k + 1)) (by omega) (by omega) (by omega)
        rwa [e] at this
      exact cmpV_trans h1 h2
  refine ⟨hs.sublist (List.take_sublist _ _), ?_, fun u hu w hw => ?_⟩
  · rw [List.singleton_append, List.pairwise_cons]
    exact ⟨hd, hs.sublist (List.drop_sublist _ _)⟩
  · have hu' : cmpV u.v x.v < 0 := by
      obtain ⟨k, hk, e⟩ := List.getElem_of_mem hu
      rw [List.getElem_take] at e
      rw [List.length_take] at hk
      exact a.lo k (by omega) u (by rw [List.getElem?_eq_getElem (by omega), e])
    rw [List.singleton_append, List.mem_cons] at hw
    rcases hw with rfl | hw
    · exact hu'
    · exact cmpV_trans hu' (hd w hw)
/-- What the merged list is, whatever came. -/
structure GdM (out : List En) : Prop where
  srt : SrtM out
  pos : ∀ y ∈ out, 1 ≤ y.n ∧ y.n ≤ 9223372036854775807
theorem count2_n {x : En} (h : countV 2 x = true) : 1 ≤ x.n := by
  unfold countV at h
  split at h
  · cases h
  · omega
theorem addSat_range {a b : Int} (ha : 1 ≤ a ∧ a ≤ 9223372036854775807) (hb : 1 ≤ b ∧ b ≤ 9223372036854775807) : 1 ≤ addSat a b ∧ addSat a b ≤ 9223372036854775807 := by
  unfold addSat; split <;> omega
theorem gd_step {out : List En} {x : En} (g : GdM out) (hx : x.n ≤ 9223372036854775807) : GdM (stepM out x) := by
  unfold stepM
  split
  · rename_i hc
    have hn := count2_n hc
    have hput : ∀ (_ : ∀ y, out[posM out x]? = some y → cmpV y.v x.v ≠ 0), GdM (putM out x) := fun hne => ⟨srt_put g.srt hne, fun y hy => by
      unfold putM at hy
      simp only [List.mem_append, List.mem_singleton] at hy
      rcases hy with (hy | rfl) | hy
      · exact g.pos y (List.mem_of_mem_take hy)
      · exact ⟨hn, hx⟩
      · exact g.pos y (List.mem_of_mem_drop hy)⟩
    split
    · rename_i y hy
      split
      · refine ⟨srt_set g.srt hy, fun z hz => ?_⟩
        rcases List.mem_or_eq_of_mem_set hz with h | rfl
        · exact g.pos z h
        · exact addSat_range (g.pos y (List.mem_of_getElem? hy)) ⟨hn, hx⟩
      · rename_i hne
        exact hput fun z hz => by rw [hy] at hz; cases hz; exact hne
    · rename_i hy
      exact hput fun z hz => by rw [hy] at hz; cases hz
  · exact g
theorem gd_fold : ∀ (l out : List En), GdM out → (∀ x ∈ l, x.n ≤ 9223372036854775807) → GdM (l.foldl stepM out)
  | [], out, g, _ => g
  | x :: l, out, g, h => gd_fold l _ (gd_step g (h x (by simp))) fun y hy => h y (by simp [hy])
theorem gd_merge {l : List En} (h : ∀ x ∈ l, x.n ≤ 9223372036854775807) : GdM (mergeV l) := gd_fold l [] ⟨List.Pairwise.nil, fun y hy => by cases hy⟩ h
/-- Two lists that come to the same sums, least and greatest values. -/
structure EqM (out l : List En) : Prop where
  s1 : S 1 out = S 1 l
  any : out.any (countV 1) = l.any (countV 1)
  f2 : ∀ o, out.foldl (gB 2 (-1)) o = l.foldl (gB 2 (-1)) o
  f3 : ∀ o, out.foldl (gB 3 1) o = l.foldl (gB 3 1) o
theorem EqM.refl (l : List En) : EqM l l := ⟨rfl, rfl, fun _ => rfl, fun _ => rfl⟩
theorem EqM.trans {a b c : List En} (h1 : EqM a b) (h2 : EqM b c) : EqM a c := ⟨h1.s1.trans h2.s1, h1.any.trans h2.any, fun o => (h1.f2 o).trans (h2.f2 o), fun o => (h1.f3 o).trans (h2.f3 o)⟩
theorem any_perm {f : En → Bool} {l m : List En} (h : List.Perm l m) : l.any f = m.any f := by
  induction h with
  | nil => rfl
  | cons x _ ih => simp [ih]
  | swap x y l => simp only [List.any_cons]; cases f x <;> cases f y <;> rfl
  | trans _ _ h1 h2 => rw [h1, h2]
theorem EqM.perm {l m : List En} (h : List.Perm l m) : EqM l m := ⟨S_perm h, any_perm h, foldB_perm (.inl rfl) h, foldB_perm (.inr rfl) h⟩
theorem EqM.snoc {out l : List En} (h : EqM out l) (x : En) : EqM (out ++ [x]) (l ++ [x]) := ⟨by rw [S_append, S_append, h.s1], by rw [List.any_append, List.any_append, h.any], fun o => by rw [List.foldl_append, List.foldl_append, h.f2], fun o => by rw [List.foldl_append, List.foldl_append, h.f3]⟩
theorem EqM.apply {out l : List En} (h : EqM out l) {fn : Int} (hf : fn = 1 ∨ fn = 2 ∨ fn = 3) : applyV fn out = applyV fn l := by
  rw [applyV_eq, applyV_eq]
  rcases hf with rfl | rfl | rfl
  · simp [h.s1, h.any]
  · have : signOf 2 = -1 := rfl
    simp [this, h.f2]
  · have : signOf 3 = 1 := rfl
    simp [this, h.f3]
theorem count_no2 {x : En} (h : ¬ countV 2 x = true) : countV 1 x = false ∧ countV 2 x = false ∧ countV 3 x = false := by
  unfold countV isIntV at *
  by_cases hn : x.n < 1
  · simp [hn]
  · simp [hn] at h ⊢
    simp [h]
theorem EqM.skip {out : List En} {x : En} (h : ¬ countV 2 x = true) : EqM out (out ++ [x]) := by
  obtain ⟨h1, h2, h3⟩ := count_no2 h
  refine ⟨by rw [S_append]; simp [S, contrib, h1], by simp [h1], fun o => ?_, fun o => ?_⟩
  · rw [List.foldl_append]; simp [gB, h2]
  · rw [List.foldl_append]; simp [gB, h3]
theorem gB_v {fn s : Int} {o : Option Vl} {x y : En} (hv : x.v = y.v) (hx : 1 ≤ x.n) (hy : 1 ≤ y.n) : countV fn x = countV fn y ∧ gB fn s o x = gB fn s o y := by
  have : countV fn x = countV fn y := by
    unfold countV
    simp only [if_neg (show ¬ x.n < 1 by omega), if_neg (show ¬ y.n < 1 by omega), hv]
  exact ⟨this, by unfold gB; rw [this, hv]⟩
theorem gB_twice {fn s : Int} (hs : s = -1 ∨ s = 1) (o : Option Vl) (y : En) : gB fn s (gB fn s o y) y = gB fn s o y := foldB_replicate hs y 1 o
/-- Two entries of a value are as one. -/
theorem EqM.join {A B : List En} {x y : En} (hv : y.v = x.v) (hx : 1 ≤ x.n) (hy : 1 ≤ y.n) : EqM (A ++ ⟨y.n + x.n, y.v⟩ :: B) (A ++ y :: B ++ [x]) := by
  have p1 : List.Perm (A ++ y :: B ++ [x]) (y :: x :: (A ++ B)) := by
    have h1 : List.Perm (A ++ y :: B) (y :: (A ++ B)) := List.perm_middle
    have h2 : List.Perm (y :: (A ++ B) ++ [x]) (x :: y :: (A ++ B)) := List.perm_append_singleton x _
    exact (h1.append_right [x]).trans (h2.trans (List.Perm.swap y x _))
  have p2 : List.Perm (A ++ ⟨y.n + x.n, y.v⟩ :: B) (⟨y.n + x.n, y.v⟩ :: (A ++ B)) := List.perm_middle
  refine (EqM.perm p2).trans (EqM.trans ?_ (EqM.perm p1.symm))
  have hz : 1 ≤ (⟨y.n + x.n, y.v⟩ : En).n := by show 1 ≤ y.n + x.n; omega
  refine ⟨?_, ?_, fun o => ?_, fun o => ?_⟩
  · have c1 := (gB_v (fn := 1) (s := 1) (o := none) (x := ⟨y.n + x.n, y.v⟩) (y := y) rfl hz hy).1
    have c2 := (gB_v (fn := 1) (s := 1) (o := none) (x := x) (y := y) hv.symm hx hy).1
    simp only [S, contrib, c1, c2]
    simp only [hv]
    split
    · simp [Int.add_mul, Int.add_assoc]
    · simp
  · have c1 := (gB_v (fn := 1) (s := 1) (o := none) (x := ⟨y.n + x.n, y.v⟩) (y := y) rfl hz hy).1
    have c2 := (gB_v (fn := 1) (s := 1) (o := none) (x := x) (y := y) hv.symm hx hy).1
    simp only [List.any_cons, c1, c2]
    cases countV 1 y <;> simp
  · simp only [List.foldl_cons]
    rw [(gB_v (x := ⟨y.n + x.n, y.v⟩) (y := y) rfl hz hy).2, (gB_v (x := x) (y := y) hv.symm hx hy).2, gB_twice (.inl rfl)]
  · simp only [List.foldl_cons]
    rw [(gB_v (x := ⟨y.n + x.n, y.v⟩) (y := y) rfl hz hy).2, (gB_v (x := x) (y := y) hv.symm hx hy).2, gB_twice (.inr rfl)]
def totM (l : List En) : Int := (l.map En.n).sum
theorem totM_append (a b : List En) : totM (a ++ b) = totM a + totM b := by unfold totM; rw [List.map_append, List.sum_append]
theorem totM_cons (a : En) (b : List En) : totM (a :: b) = a.n + totM b := by unfold totM; rw [List.map_cons, List.sum_cons]
theorem totM_nonneg : ∀ {l : List En}, (∀ y ∈ l, 1 ≤ y.n ∧ y.n ≤ 9223372036854775807) → 0 ≤ totM l
  | [], _ => Int.le_refl _
  | y :: l, h => by
    rw [totM_cons]
    have := totM_nonneg (l := l) fun z hz => h z (by simp [hz])
    have := h y (by simp)
    omega
theorem eq_step {out : List En} {x : En} {T : Int} (g : GdM out) (ht : totM out ≤ T) (hT : T ≤ 9223372036854775807 - 1125899906842624) (hx : x.n < 1125899906842624) :
    EqM (stepM out x) (out ++ [x]) ∧ totM (stepM out x) ≤ T + 1125899906842624 := by
  unfold stepM
  split
  · rename_i hc
    have hn := count2_n hc
    have hput : EqM (putM out x) (out ++ [x]) ∧ totM (putM out x) ≤ T + 1125899906842624 := by
      unfold putM
      constructor
      · apply EqM.perm
        have h1 : List.Perm (out.take (posM out x) ++ x :: out.drop (posM out x)) (x :: (out.take (posM out x) ++ out.drop (posM out x))) := List.perm_middle
        rw [List.take_append_drop] at h1
        rw [List.append_assoc, List.singleton_append]
        exact h1.trans (List.perm_append_singleton x out).symm
      · have e : totM out = totM (out.take (posM out x)) + totM (out.drop (posM out x)) := by rw [← totM_append, List.take_append_drop]
        rw [totM_append, totM_append, totM_cons]
        have : totM [] = 0 := rfl
        omega
    split
    · rename_i y hy
      split
      · rename_i he
        obtain ⟨e1, e2⟩ := set_split (z := (⟨addSat y.n x.n, y.v⟩ : En)) hy
        have hyp := g.pos y (List.mem_of_getElem? hy)
        have hA := totM_nonneg (l := out.take (posM out x)) fun z hz => g.pos z (List.mem_of_mem_take hz)
        have hB := totM_nonneg (l := out.drop (posM out x + 1)) fun z hz => g.pos z (List.mem_of_mem_drop hz)
        have e3 : totM out = totM (out.take (posM out x)) + (y.n + totM (out.drop (posM out x + 1))) := by
          rw [← totM_cons, ← totM_append, ← e1]
        have hs : addSat y.n x.n = y.n + x.n := by unfold addSat; rw [if_neg (by omega)]
        rw [e2, hs]
        constructor
        · have := EqM.join (A := out.take (posM out x)) (B := out.drop (posM out x + 1)) (cmpV_zero he) hn hyp.1
          rwa [← e1] at this
        · rw [totM_append, totM_cons]
          show _ + (y.n + x.n + _) ≤ _
          omega
      · exact hput
    · exact hput
  · rename_i h
    exact ⟨EqM.skip h, by omega⟩
theorem eq_fold : ∀ (l out pre : List En) (T : Int), GdM out → EqM out pre → totM out ≤ T → T + l.length * 1125899906842624 ≤ 9223372036854775807 → (∀ x ∈ l, x.n < 1125899906842624) → EqM (l.foldl stepM out) (pre ++ l)
  | [], out, pre, T, g, e, _, _, _ => by simpa using e
  | x :: l, out, pre, T, g, e, ht, hl, hx => by
    have hx0 := hx x (by simp)
    rw [List.length_cons] at hl
    obtain ⟨h1, h2⟩ := eq_step g ht (by omega) hx0
    have := eq_fold l (stepM out x) (pre ++ [x]) (T + 1125899906842624) (gd_step g (by omega)) (h1.trans (e.snoc x)) h2 (by omega) fun y hy => hx y (by simp [hy])
    simpa using this
theorem eq_merge {l : List En} (hl : l.length ≤ 40) (hx : ∀ x ∈ l, x.n < 1125899906842624) : EqM (mergeV l) l := by
  have := eq_fold l [] [] 0 ⟨List.Pairwise.nil, fun y hy => by cases hy⟩ (EqM.refl _) (Int.le_refl _) (by omega) hx
  simpa [mergeV] using this
end Go.Proofs.YtagebnmealiedaaA
