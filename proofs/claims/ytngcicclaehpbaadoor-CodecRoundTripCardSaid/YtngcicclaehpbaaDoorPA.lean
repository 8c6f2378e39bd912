/- Words of this session: chapter 4: what the encodings are, as lists of numbers. Words of this session: chapter 4: keys and rows, encoded and decoded, as lists of numbers. -/
import Derived.Test.YtngcicclaehpbaaDoorAx35
namespace Go.Proofs.YtngcicclaehpbaaDoorA
open Go Go.Proofs Go.RowKit
set_option linter.unusedVariables false
set_option linter.unusedSimpArgs false
/-- A value: its kind, number and text. -/
structure Vl where
  kind : Int
  int : Int
  text : List Int
def Vl.enc (v : Vl) : List V := [.int .i64 v.kind, .int .i64 v.int, .str v.text]
theorem Vl.ext' {a b : Vl} (h1 : a.kind = b.kind) (h2 : a.int = b.int) (h3 : a.text = b.text) : a = b := by
  obtain ⟨_, _, _⟩ := a; obtain ⟨_, _, _⟩ := b; simp only at h1 h2 h3; subst h1 h2 h3; rfl
def Bt (l : List Int) : Prop := ∀ x ∈ l, 0 ≤ x ∧ x < 256
theorem Bt.nil : Bt [] := by simp [Bt]
theorem Bt.app {a b : List Int} (ha : Bt a) (hb : Bt b) : Bt (a ++ b) := fun x hx => (List.mem_append.1 hx).elim (ha x) (hb x)
theorem Bt.cons {x : Int} {b : List Int} (ha : 0 ≤ x ∧ x < 256) (hb : Bt b) : Bt (x :: b) := fun y hy => by
  rcases List.mem_cons.1 hy with rfl | hy
  · exact ha
  · exact hb y hy
theorem Bt.left {a b : List Int} (h : Bt (a ++ b)) : Bt a := fun x hx => h x (List.mem_append.2 (.inl hx))
theorem Bt.right {a b : List Int} (h : Bt (a ++ b)) : Bt b := fun x hx => h x (List.mem_append.2 (.inr hx))
theorem Bt.head {x : Int} {b : List Int} (h : Bt (x :: b)) : 0 ≤ x ∧ x < 256 := h x (by simp)
theorem Bt.tail {x : Int} {b : List Int} (h : Bt (x :: b)) : Bt b := fun y hy => h y (by simp [hy])
theorem Bt.take {l : List Int} (h : Bt l) (n : Nat) : Bt (l.take n) := fun x hx => h x (List.mem_of_mem_take hx)
theorem Bt.drop {l : List Int} (h : Bt l) (n : Nat) : Bt (l.drop n) := fun x hx => h x (List.mem_of_mem_drop hx)
def Vl.G (v : Vl) : Prop := (-9223372036854775808 ≤ v.kind ∧ v.kind ≤ 9223372036854775807) ∧ (-9223372036854775808 ≤ v.int ∧ v.int ≤ 9223372036854775807) ∧ v.text.length ≤ 140737488351232 ∧ Bt v.text
def validV (v : Vl) : Bool := if v.kind = 0 then decide (v.text = []) else if v.kind = 1 then decide (v.int = 0) && decide (v.text.length ≤ 255) else if v.kind = 2 then decide (v.text = []) && (decide (v.int = 0) || decide (v.int = 1)) else false
theorem valid_cases {v : Vl} (h : validV v = true) : (v.kind = 0 ∧ v.text = []) ∨ (v.kind = 1 ∧ v.int = 0 ∧ v.text.length ≤ 255) ∨ (v.kind = 2 ∧ v.text = [] ∧ (v.int = 0 ∨ v.int = 1)) := by
  unfold validV at h
  split at h
  · rename_i h1; exact .inl ⟨h1, by simpa using h⟩
  · split at h
    · rename_i h1; exact .inr (.inl ⟨h1, by simpa using h⟩)
    · split at h
      · rename_i h1; exact .inr (.inr ⟨h1, by simpa using h⟩)
      · cases h
/-! ### numbers -/
def be8 (n : Int) : List Int := [n / 72057594037927936 % 256, n / 281474976710656 % 256, n / 1099511627776 % 256, n / 4294967296 % 256, n / 16777216 % 256, n / 65536 % 256, n / 256 % 256, n % 256]
def un8 (l : List Int) : Int := l.foldl (fun a x => a * 256 + x) 0
theorem un8_be8 {n : Int} (h0 : 0 ≤ n) (h1 : n < 18446744073709551616) : un8 (be8 n) = n := by
  simp only [un8, be8, List.foldl_cons, List.foldl_nil]; omega
theorem be8_un8 {l : List Int} (hb : Bt l) (hl : l.length = 8) : be8 (un8 l) = l ∧ 0 ≤ un8 l ∧ un8 l < 18446744073709551616 := by
  match l, hl with
  | [a, b, c, d, e, f, g, h], _ =>
    have := hb a (by simp); have := hb b (by simp); have := hb c (by simp); have := hb d (by simp); have := hb e (by simp); have := hb f (by simp); have := hb g (by simp); have := hb h (by simp)
    simp only [un8, be8, List.foldl_cons, List.foldl_nil]
    refine ⟨?_, by omega, by omega⟩
    simp only [List.cons.injEq, and_true]
    refine ⟨?_, ?_, ?_, ?_, ?_, ?_, ?_, ?_⟩ <;> omega
theorem bt_be8 (n : Int) : Bt (be8 n) := by
  intro x hx
  simp only [be8, List.mem_cons, List.not_mem_nil, or_false] at hx
  omega
/-- A number in base 128. -/
def uenc (n : Nat) : List Int := if n < 128 then [(n : Int)] else ((n % 128 + 128 : Nat) : Int) :: uenc (n / 128)
termination_by n
theorem bt_uenc (n : Nat) : Bt (uenc n) := by
  induction n using Nat.strongRecOn with
  | _ n ih =>
    rw [uenc]
    split
    · exact Bt.cons (by omega) Bt.nil
    · exact Bt.cons (by omega) (ih _ (by omega))
def udecG : Nat → Nat → List Int → Option (Nat × Nat)
  | _, _, [] => none
  | i, acc, x :: l => if 10 ≤ i then none else if i = 9 ∧ 1 < x then none else if x < 128 then (if x = 0 ∧ 0 < i then none else some (acc + x.toNat * 128 ^ i, i + 1)) else udecG (i + 1) (acc + (x.toNat - 128) * 128 ^ i) l
def udec (l : List Int) : Option (Nat × Nat) := udecG 0 0 l
theorem udecG_uenc (n : Nat) : ∀ (i acc : Nat) (r : List Int), n * 128 ^ i < 18446744073709551616 → (i = 0 ∨ 0 < n) → udecG i acc (uenc n ++ r) = some (acc + n * 128 ^ i, i + (uenc n).length) := by
  induction n using Nat.strongRecOn with
  | _ n ih =>
    intro i acc r h0 hi
    have h10 : i < 10 := by
      rcases Nat.lt_or_ge i 10 with h | h
      · exact h
      · have h1 : 128 ^ 10 ≤ 128 ^ i := Nat.pow_le_pow_right (by omega) h
        have h2 : 1 * 128 ^ i ≤ n * 128 ^ i := Nat.mul_le_mul_right _ (by omega)
        have : (128 : Nat) ^ 10 = 1180591620717411303424 := by decide
        omega
    have h9 : i = 9 → n < 2 := fun e => by
      subst e
      have : (128 : Nat) ^ 9 = 9223372036854775808 := by decide
      rw [this] at h0; omega
    rw [uenc]
    split
    · rename_i h
      show (if 10 ≤ i then none else if i = 9 ∧ 1 < (n : Int) then none else if (n : Int) < 128 then (if (n : Int) = 0 ∧ 0 < i then none else some (acc + (n : Int).toNat * 128 ^ i, i + 1)) else _) = _
      rw [if_neg (by omega), if_neg (by omega), if_pos (by omega), if_neg (by omega)]
      simp
    · rename_i h
      have hn9 : ¬ i = 9 := fun e => by have := h9 e; omega
      have hq : n / 128 * 128 ^ (i + 1) < 18446744073709551616 := by
        have h1 : n / 128 * 128 ≤ n := Nat.div_mul_le_self n 128
        have h2 : n / 128 * 128 * 128 ^ i ≤ n * 128 ^ i := Nat.mul_le_mul_right _ h1
        rw [Nat.pow_succ, Nat.mul_comm (128 ^ i) 128, ← Nat.mul_assoc]; omega
      show (if 10 ≤ i then none else if i = 9 ∧ 1 < ((n % 128 + 128 : Nat) : Int) then none else if ((n % 128 + 128 : Nat) : Int) < 128 then _ else udecG (i + 1) (acc + (((n % 128 + 128 : Nat) : Int).toNat - 128) * 128 ^ i) (uenc (n / 128) ++ r)) = _
      rw [if_neg (by omega), if_neg (by omega), if_neg (by omega), ih (n / 128) (by omega) (i + 1) _ r hq (.inr (by omega))]
      simp only [Int.toNat_natCast, Nat.add_sub_cancel, List.length_cons, Option.some.injEq, Prod.mk.injEq]
      refine ⟨?_, by omega⟩
      rw [Nat.pow_succ, Nat.add_assoc]
      congr 1
      have : n = n % 128 + 128 * (n / 128) := (Nat.mod_add_div n 128).symm
      conv => rhs; rw [this]
      rw [Nat.add_mul, Nat.mul_comm 128, Nat.mul_assoc, Nat.mul_comm 128 (128 ^ i)]
theorem udec_uenc {n : Nat} (h : n < 18446744073709551616) (r : List Int) : udec (uenc n ++ r) = some (n, (uenc n).length) := by
  have := udecG_uenc n 0 0 r (by simpa using h) (.inl rfl)
  simpa [udec] using this
/-- What is decoded, encoded. -/
theorem uenc_udecG : ∀ (l : List Int) (i acc : Nat) {n k : Nat}, Bt l → acc < 128 ^ i → udecG i acc l = some (n, k) → ∃ m, n = acc + m * 128 ^ i ∧ i < k ∧ uenc m = l.take (k - i) ∧ k - i ≤ l.length ∧ n < 18446744073709551616 ∧ (0 < i → 0 < m)
  | [], i, acc, n, k, hb, ha, h => by simp [udecG] at h
  | x :: l, i, acc, n, k, hb, ha, h => by
    have hx := hb.head
    simp only [udecG] at h
    split at h
    · cases h
    · split at h
      · cases h
      · rename_i h10 h9
        have hpow : ∀ j, j ≤ 9 → 128 ^ j ≤ 9223372036854775808 := fun j hj => Nat.le_trans (Nat.pow_le_pow_right (by omega) hj) (by decide)
        split at h
        · rename_i h128
          split at h
          · cases h
          · rename_i hz
            simp only [Option.some.injEq, Prod.mk.injEq] at h
            obtain ⟨rfl, rfl⟩ := h
            refine ⟨x.toNat, rfl, by omega, ?_, by simp only [List.length_cons]; omega, ?_, by omega⟩
            · rw [uenc, if_pos (by omega), show i + 1 - i = 1 by omega, List.take_succ_cons, List.take_zero]
              congr 1; omega
            · by_cases h99 : i = 9
              · subst h99
                have : x.toNat ≤ 1 := by omega
                have h3 : x.toNat * 128 ^ 9 ≤ 1 * 128 ^ 9 := Nat.mul_le_mul_right _ this
                have : (128 : Nat) ^ 9 = 9223372036854775808 := by decide
                omega
              · have h4 : 128 ^ i ≤ 128 ^ 8 := Nat.pow_le_pow_right (by omega) (by omega)
                have h5 : x.toNat * 128 ^ i ≤ 127 * 128 ^ 8 := Nat.mul_le_mul (by omega) h4
                have : (128 : Nat) ^ 8 = 72057594037927936 := by decide
                omega
        · rename_i h128
          have hacc : acc + (x.toNat - 128) * 128 ^ i < 128 ^ (i + 1) := by
            have h3 : (x.toNat - 128) * 128 ^ i ≤ 127 * 128 ^ i := Nat.mul_le_mul_right _ (by omega)
            rw [Nat.pow_succ]; omega
          obtain ⟨m, h1, h2, h3, h4, h5, h6⟩ := uenc_udecG l (i + 1) _ hb.tail hacc h
          have hm := h6 (by omega)
          refine ⟨x.toNat - 128 + 128 * m, ?_, by omega, ?_, by simp; omega, h5, by omega⟩
          · rw [h1, Nat.pow_succ, Nat.add_mul, Nat.add_assoc, Nat.mul_comm 128 m, Nat.mul_assoc, Nat.mul_comm (128 ^ i) 128]
          · rw [uenc, if_neg (by omega), show k - i = (k - (i + 1)) + 1 by omega, List.take_succ_cons, ← h3]
            congr 1
            · omega
            · congr 1; omega
theorem uenc_udec {l : List Int} (hb : Bt l) {n k : Nat} (h : udec l = some (n, k)) : uenc n = l.take k ∧ 0 < k ∧ k ≤ l.length ∧ n < 18446744073709551616 := by
  obtain ⟨m, h1, h2, h3, h4, h5, h6⟩ := uenc_udecG l 0 0 hb (by decide) h
  simp only [Nat.pow_zero, Nat.mul_one, Nat.zero_add, Nat.sub_zero] at *
  subst h1
  exact ⟨h3, h2, h4, h5⟩
end Go.Proofs.YtngcicclaehpbaaDoorA
namespace Go.Proofs.YtngcicclaehpbaaDoorA
open Go Go.Proofs Go.RowKit
set_option linter.unusedVariables false
set_option linter.unusedSimpArgs false
/-! ### texts -/
def esc : List Int → List Int
  | [] => []
  | c :: l => if c = 0 then 0 :: 255 :: esc l else c :: esc l
theorem esc_app (a b : List Int) : esc (a ++ b) = esc a ++ esc b := by
  induction a with
  | nil => rfl
  | cons c a ih => simp only [List.cons_append, esc]; split <;> simp [ih]
theorem bt_esc {l : List Int} (h : Bt l) : Bt (esc l) := by
  induction l with
  | nil => exact Bt.nil
  | cons c l ih =>
    simp only [esc]
    split
    · exact Bt.cons (by omega) (Bt.cons (by omega) (ih h.tail))
    · exact Bt.cons h.head (ih h.tail)
theorem esc_len (l : List Int) : (esc l).length ≤ 2 * l.length := by
  induction l with
  | nil => simp [esc]
  | cons c l ih => simp only [esc]; split <;> simp <;> omega
def keyText : List Int → Option (List Int × List Int)
  | [] => none
  | [_] => none
  | x :: y :: l => if x ≠ 0 then (keyText (y :: l)).map fun q => (x :: q.1, q.2) else if y = 1 then some ([], l) else if y = 255 then (keyText l).map fun q => (0 :: q.1, q.2) else none
theorem keyText_esc (s r : List Int) : keyText (esc s ++ 0 :: 1 :: r) = some (s, r) := by
  induction s with
  | nil => simp [esc, keyText]
  | cons c s ih =>
    simp only [esc]
    split
    · rename_i h; subst h
      simp only [List.cons_append, keyText, ih]; simp
    · rename_i h
      simp only [List.cons_append]
      cases hs : esc s ++ 0 :: 1 :: r with
      | nil => simp at hs
      | cons y l =>
        rw [keyText, if_pos h, ← hs, ih]; rfl
theorem esc_keyText : ∀ (b : List Int) {s r : List Int}, keyText b = some (s, r) → b = esc s ++ 0 :: 1 :: r
  | [], s, r, h => by simp [keyText] at h
  | [_], s, r, h => by simp [keyText] at h
  | x :: y :: l, s, r, h => by
    rw [keyText] at h
    split at h
    · rename_i hx
      cases hk : keyText (y :: l) with
      | none => rw [hk] at h; cases h
      | some q =>
        obtain ⟨s1, r1⟩ := q
        rw [hk] at h
        simp only [Option.map_some, Option.some.injEq, Prod.mk.injEq] at h
        obtain ⟨rfl, rfl⟩ := h
        rw [esc_keyText (y :: l) hk]
        simp [esc, hx]
    · rename_i hx
      have hx : x = 0 := by simpa using hx
      subst hx
      split at h
      · rename_i hy
        simp only [Option.some.injEq, Prod.mk.injEq] at h
        obtain ⟨rfl, rfl⟩ := h
        subst hy; simp [esc]
      · split at h
        · rename_i hy1 hy
          cases hk : keyText l with
          | none => rw [hk] at h; cases h
          | some q =>
            obtain ⟨s1, r1⟩ := q
            rw [hk] at h
            simp only [Option.map_some, Option.some.injEq, Prod.mk.injEq] at h
            obtain ⟨rfl, rfl⟩ := h
            rw [esc_keyText l hk]
            subst hy; simp [esc]
        · cases h
/-! ### keys -/
def keyV (v : Vl) : List Int := if v.kind = 0 then 1 :: be8 (v.int + 9223372036854775808) else if v.kind = 1 then 2 :: (esc v.text ++ [0, 1]) else [3, v.int % 256]
def keyL (l : List Vl) : List Int := l.flatMap keyV
def encKey (l : List Vl) : List Int := if l.all validV then keyL l else []
def dec1 : List Int → Option (Vl × List Int)
  | [] => none
  | t :: r => if t = 1 then (if 8 ≤ r.length then some (⟨0, un8 (r.take 8) - 9223372036854775808, []⟩, r.drop 8) else none) else if t = 2 then (keyText r).map fun q => (⟨1, 0, q.1⟩, q.2) else if t = 3 then (match r with
    | [] => none
    | x :: r' => some (⟨2, x, []⟩, r')) else none
/-- A chain of values at the beginning of bytes. -/
inductive Dec (d : List Int → Option (Vl × List Int)) : List Int → List Vl → List Int → Prop
  | nil (b : List Int) : Dec d b [] b
  | cons {b r e : List Int} {v : Vl} {l : List Vl} (h1 : d b = some (v, r)) (h2 : validV v = true) (h3 : Dec d r l e) : Dec d b (v :: l) e
theorem Dec.snoc {d : List Int → Option (Vl × List Int)} {b r e : List Int} {v : Vl} {l : List Vl} (h : Dec d b l r) (h1 : d r = some (v, e)) (h2 : validV v = true) : Dec d b (l ++ [v]) e := by
  induction h with
  | nil b => exact .cons h1 h2 (.nil e)
  | cons q1 q2 q3 ih => exact .cons q1 q2 (ih h1)
theorem Dec.det {d : List Int → Option (Vl × List Int)} {b r e : List Int} {l m : List Vl} (h : Dec d b l r) (h2 : Dec d b m e) (hl : l.length = m.length) : l = m ∧ r = e := by
  induction h generalizing m with
  | nil b => cases h2 with
    | nil => exact ⟨rfl, rfl⟩
    | cons => simp at hl
  | cons q1 q2 q3 ih =>
    cases h2 with
    | nil => simp at hl
    | cons p1 p2 p3 =>
      rw [q1] at p1
      simp only [Option.some.injEq, Prod.mk.injEq] at p1
      obtain ⟨rfl, rfl⟩ := p1
      obtain ⟨rfl, rfl⟩ := ih p3 (by simpa using hl)
      exact ⟨rfl, rfl⟩
theorem dec1_key {v : Vl} (hv : validV v = true) (hg : v.G) (r : List Int) : dec1 (keyV v ++ r) = some (v, r) := by
  have hi := hg.2.1
  rcases valid_cases hv with ⟨h1, h2⟩ | ⟨h1, h2, h3⟩ | ⟨h1, h2, h3⟩
  · rw [keyV, if_pos h1]
    have hl : (be8 (v.int + 9223372036854775808)).length = 8 := rfl
    simp only [List.cons_append, dec1, if_true]
    rw [if_pos (by rw [List.length_append, hl]; omega), List.take_left' hl, List.drop_left' hl, un8_be8 (by omega) (by omega)]
    simp only [Option.some.injEq, Prod.mk.injEq, and_true]
    exact Vl.ext' h1.symm (by simp only; omega) h2.symm
  · rw [keyV, if_neg (by omega), if_pos h1]
    simp only [List.cons_append, dec1]
    rw [if_neg (by decide), if_pos trivial]
    have e : esc v.text ++ [0, 1] ++ r = esc v.text ++ 0 :: 1 :: r := by simp
    rw [e, keyText_esc]
    simp only [Option.map_some, Option.some.injEq, Prod.mk.injEq, and_true]
    exact Vl.ext' h1.symm h2.symm rfl
  · rw [keyV, if_neg (by omega), if_neg (by omega)]
    simp only [List.cons_append, List.nil_append, dec1]
    rw [if_neg (by decide), if_neg (by decide), if_pos trivial]
    simp only [Option.some.injEq, Prod.mk.injEq, and_true]
    exact Vl.ext' h1.symm (by simp only; omega) h2.symm
theorem key_dec1 {b r : List Int} {v : Vl} (hb : Bt b) (h : dec1 b = some (v, r)) (hv : validV v = true) : b = keyV v ++ r := by
  cases b with
  | nil => cases h
  | cons t b =>
    simp only [dec1] at h
    split at h
    · rename_i ht
      split at h
      · rename_i h8
        simp only [Option.some.injEq, Prod.mk.injEq] at h
        obtain ⟨rfl, rfl⟩ := h
        obtain ⟨e1, e2, e3⟩ := be8_un8 (hb.tail.take 8) (by rw [List.length_take]; omega)
        rw [keyV, if_pos rfl]
        simp only [Int.sub_add_cancel, e1, List.cons_append, List.take_append_drop, ht]
      · cases h
    · split at h
      · rename_i ht1 ht
        cases hk : keyText b with
        | none => rw [hk] at h; cases h
        | some q =>
          obtain ⟨s, r1⟩ := q
          rw [hk] at h
          simp only [Option.map_some, Option.some.injEq, Prod.mk.injEq] at h
          obtain ⟨rfl, rfl⟩ := h
          rw [keyV, if_neg (by simp), if_pos rfl, esc_keyText b hk, ht]
          simp
      · split at h
        · rename_i ht1 ht2 ht
          cases b with
          | nil => cases h
          | cons x b =>
            simp only [Option.some.injEq, Prod.mk.injEq] at h
            obtain ⟨rfl, rfl⟩ := h
            rcases valid_cases hv with ⟨h1, _⟩ | ⟨h1, _⟩ | ⟨_, _, h3⟩
            · cases h1
            · cases h1
            · rw [keyV, if_neg (by simp), if_neg (by simp), ht]
              simp only at h3
              simp only [List.cons_append, List.nil_append, List.cons.injEq, and_true, true_and]
              omega
        · cases h
theorem dec1_len {b r : List Int} {v : Vl} (h : dec1 b = some (v, r)) : r.length < b.length := by
  cases b with
  | nil => cases h
  | cons t b =>
    simp only [dec1] at h
    split at h
    · split at h
      · simp only [Option.some.injEq, Prod.mk.injEq] at h
        obtain ⟨_, rfl⟩ := h
        simp; omega
      · cases h
    · split at h
      · cases hk : keyText b with
        | none => rw [hk] at h; cases h
        | some q =>
          obtain ⟨s, r1⟩ := q
          rw [hk] at h
          simp only [Option.map_some, Option.some.injEq, Prod.mk.injEq] at h
          obtain ⟨_, rfl⟩ := h
          rw [esc_keyText b hk]; simp; omega
      · split at h
        · cases b with
          | nil => cases h
          | cons x b =>
            simp only [Option.some.injEq, Prod.mk.injEq] at h
            obtain ⟨_, rfl⟩ := h
            simp; omega
        · cases h
/-! ### rows -/
def zz (n : Int) : Nat := if 0 ≤ n then (2 * n).toNat else (-2 * n - 1).toNat
def unzz (n : Nat) : Int := if n % 2 = 0 then (n / 2 : Nat) else -((n / 2 : Nat) : Int) - 1
theorem unzz_zz (n : Int) : unzz (zz n) = n := by
  unfold unzz zz
  split <;> rename_i h
  · rw [if_pos (by omega)]; omega
  · rw [if_neg (by omega)]; omega
theorem zz_unzz (n : Nat) : zz (unzz n) = n := by
  unfold unzz
  split <;> rename_i h
  · unfold zz; rw [if_pos (by omega)]; omega
  · unfold zz; rw [if_neg (by omega)]; omega
theorem zz_lt {n : Int} (h0 : -9223372036854775808 ≤ n) (h1 : n ≤ 9223372036854775807) : zz n < 18446744073709551616 := by
  unfold zz; split <;> omega
theorem unzz_in {n : Nat} (h : n < 18446744073709551616) : -9223372036854775808 ≤ unzz n ∧ unzz n ≤ 9223372036854775807 := by
  unfold unzz; split <;> omega
def rowV (v : Vl) : List Int := v.kind % 256 :: (if v.kind = 0 then uenc (zz v.int) else if v.kind = 1 then uenc v.text.length ++ v.text else [v.int % 256])
def rowL (l : List Vl) : List Int := uenc l.length ++ l.flatMap rowV
def encRow (l : List Vl) : List Int := if l.all validV then rowL l else []
def str1 (b : List Int) : Option (List Int × Nat) := match udec b with
  | none => none
  | some (n, k) => if n ≤ b.length - k then some ((b.drop k).take n, k + n) else none
def drow1 : List Int → Option (Vl × List Int)
  | [] => none
  | t :: r => if t = 0 then (udec r).map fun q => (⟨0, unzz q.1, []⟩, r.drop q.2) else if t = 1 then (str1 r).map fun q => (⟨1, 0, q.1⟩, r.drop q.2) else if t = 2 then (match r with
    | [] => none
    | x :: r' => some (⟨2, x, []⟩, r')) else none
theorem str1_enc {s r : List Int} (h : s.length < 18446744073709551616) : str1 (uenc s.length ++ s ++ r) = some (s, (uenc s.length).length + s.length) := by
  unfold str1
  rw [List.append_assoc, udec_uenc h]
  simp only []
  rw [if_pos (by simp), List.drop_left' rfl, List.take_left' rfl]
theorem enc_str1 {b s : List Int} {k : Nat} (hb : Bt b) (h : str1 b = some (s, k)) : uenc s.length ++ s = b.take k ∧ k ≤ b.length ∧ 0 < k ∧ s.length < 18446744073709551616 := by
  unfold str1 at h
  cases hu : udec b with
  | none => rw [hu] at h; cases h
  | some q =>
    obtain ⟨n, j⟩ := q
    rw [hu] at h
    simp only at h
    split at h
    · rename_i hn
      simp only [Option.some.injEq, Prod.mk.injEq] at h
      obtain ⟨rfl, rfl⟩ := h
      obtain ⟨h1, h2, h3, h4⟩ := uenc_udec hb hu
      have hl : ((b.drop j).take n).length = n := by simp; omega
      rw [hl, h1, List.take_add]
      exact ⟨rfl, by omega, by omega, h4⟩
    · cases h
theorem drow1_row {v : Vl} (hv : validV v = true) (hg : v.G) (r : List Int) : drow1 (rowV v ++ r) = some (v, r) := by
  have hi := hg.2.1
  rcases valid_cases hv with ⟨h1, h2⟩ | ⟨h1, h2, h3⟩ | ⟨h1, h2, h3⟩
  · have hz := zz_lt hi.1 hi.2
    rw [rowV, if_pos h1]
    simp only [List.cons_append, drow1]
    rw [if_pos (by omega), udec_uenc hz]
    simp only [Option.map_some, Option.some.injEq, Prod.mk.injEq, List.drop_left' rfl, and_true]
    exact Vl.ext' h1.symm (unzz_zz _) h2.symm
  · rw [rowV, if_neg (by omega), if_pos h1]
    simp only [List.cons_append, drow1]
    rw [if_neg (by omega), if_pos (by omega), str1_enc (by omega)]
    simp only [Option.map_some, Option.some.injEq, Prod.mk.injEq]
    exact ⟨Vl.ext' h1.symm h2.symm rfl, List.drop_left' (by simp)⟩
  · rw [rowV, if_neg (by omega), if_neg (by omega)]
    simp only [List.cons_append, List.nil_append, drow1]
    rw [if_neg (by omega), if_neg (by omega), if_pos (by omega)]
    simp only [Option.some.injEq, Prod.mk.injEq, and_true]
    exact Vl.ext' h1.symm (by simp only; omega) h2.symm
theorem row_drow1 {b r : List Int} {v : Vl} (hb : Bt b) (h : drow1 b = some (v, r)) (hv : validV v = true) : b = rowV v ++ r := by
  cases b with
  | nil => cases h
  | cons t b =>
    have ht0 := hb.head
    simp only [drow1] at h
    split at h
    · rename_i ht
      cases hk : udec b with
      | none => rw [hk] at h; cases h
      | some q =>
        obtain ⟨n, k⟩ := q
        rw [hk] at h
        simp only [Option.map_some, Option.some.injEq, Prod.mk.injEq] at h
        obtain ⟨rfl, rfl⟩ := h
        obtain ⟨h1, h2, h3, h4⟩ := uenc_udec hb.tail hk
        rw [rowV, if_pos rfl]
        simp only [zz_unzz, h1, List.cons_append, List.take_append_drop, ht]
        rfl
    · split at h
      · rename_i ht1 ht
        cases hk : str1 b with
        | none => rw [hk] at h; cases h
        | some q =>
          obtain ⟨s, k⟩ := q
          rw [hk] at h
          simp only [Option.map_some, Option.some.injEq, Prod.mk.injEq] at h
          obtain ⟨rfl, rfl⟩ := h
          obtain ⟨h1, h2, h3, h4⟩ := enc_str1 hb.tail hk
          rw [rowV, if_neg (by simp), if_pos rfl]
          simp only [h1, List.cons_append, List.take_append_drop, ht]
          rfl
      · split at h
        · rename_i ht1 ht2 ht
          cases b with
          | nil => cases h
          | cons x b =>
            simp only [Option.some.injEq, Prod.mk.injEq] at h
            obtain ⟨rfl, rfl⟩ := h
            rcases valid_cases hv with ⟨h1, _⟩ | ⟨h1, _⟩ | ⟨_, _, h3⟩
            · cases h1
            · cases h1
            · rw [rowV, if_neg (by simp), if_neg (by simp), ht]
              simp only at h3
              simp only [List.cons_append, List.nil_append, List.cons.injEq, and_true]
              refine ⟨rfl, ?_⟩
              omega
        · cases h
theorem drow1_len {b r : List Int} {v : Vl} (hb : Bt b) (h : drow1 b = some (v, r)) : r.length < b.length := by
  cases b with
  | nil => cases h
  | cons t b =>
    simp only [drow1] at h
    split at h
    · cases hk : udec b with
      | none => rw [hk] at h; cases h
      | some q =>
        rw [hk] at h
        simp only [Option.map_some, Option.some.injEq, Prod.mk.injEq] at h
        obtain ⟨_, rfl⟩ := h
        simp; omega
    · split at h
      · cases hk : str1 b with
        | none => rw [hk] at h; cases h
        | some q =>
          rw [hk] at h
          simp only [Option.map_some, Option.some.injEq, Prod.mk.injEq] at h
          obtain ⟨_, rfl⟩ := h
          simp; omega
      · split at h
        · cases b with
          | nil => cases h
          | cons x b =>
            simp only [Option.some.injEq, Prod.mk.injEq] at h
            obtain ⟨_, rfl⟩ := h
            simp; omega
        · cases h
end Go.Proofs.YtngcicclaehpbaaDoorA
