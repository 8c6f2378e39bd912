/- Plain words of this session: the checksum CRC-32C, that it tells two byte lists apart which part at one place. -/
import Derived.Test.YtopbmpdcmnhfdaaPWords
namespace Go.Proofs.YtopbmpdcmnhfdaaH
open Go.RowKit Go.Proofs.YtopbmpdcmnhfdaaW.PrintWords Go.Proofs.YtopbmpdcmnhfdaaW.PrintLast Go.Proofs.YtopbmpdcmnhfdaaW.PrintMore
set_option linter.unusedVariables false

def crcRound (s : Int) : Int := if Go.bits .and .u32 s 1 = 1 then Go.bits .xor .u32 (s / 2) 2197175160 else s / 2
def crcRounds : Nat → Int → Int
  | 0, s => s
  | n + 1, s => crcRounds n (crcRound s)
def crcStep (s b : Int) : Int := crcRounds 8 (Go.bits .xor .u32 s (b % 4294967296))
def crcFold (s : Int) (l : List Int) : Int := l.foldl crcStep s
def crcS (l : List Int) : Int := Go.bits .xor .u32 4294967295 (crcFold 4294967295 l)
theorem bits_xor_comm (k : IntKind) (a b : Int) : Go.bits .xor k a b = Go.bits .xor k b a := by unfold Go.bits; simp only [BitVec.xor_comm]
theorem bits_u32_range (op : BinOp) (a b : Int) : 0 ≤ Go.bits op .u32 a b ∧ Go.bits op .u32 a b < 4294967296 := by
  unfold Go.bits
  rw [IntKind.wrap_u32]
  omega
theorem rounds_range (n : Nat) : ∀ s : Int, 0 ≤ s → s < 4294967296 → 0 ≤ crcRounds n s ∧ crcRounds n s < 4294967296 := by
  induction n with
  | zero => intro s h0 h1; exact ⟨h0, h1⟩
  | succ n ih =>
    intro s h0 h1
    have : 0 ≤ crcRound s ∧ crcRound s < 4294967296 := by
      unfold crcRound
      split
      · exact bits_u32_range _ _ _
      · omega
    exact ih _ this.1 this.2
theorem crcS_range (l : List Int) : 0 ≤ crcS l ∧ crcS l < 4294967296 := bits_u32_range _ _ _

theorem xor_nat {a b : Nat} (ha : a < 4294967296) (hb : b < 4294967296) : Go.bits .xor .u32 (a : Int) (b : Int) = ((a ^^^ b : Nat) : Int) := by
  unfold Go.bits
  rw [IntKind.wrap_u32]
  simp only [BitVec.ofInt_natCast, BitVec.toNat_xor, BitVec.toNat_ofNat, show IntKind.u32.bits = 32 from rfl]
  rw [Nat.mod_eq_of_lt (show a < 2 ^ 32 by omega), Nat.mod_eq_of_lt (show b < 2 ^ 32 by omega)]
  have : a ^^^ b < 2 ^ 32 := Nat.xor_lt_two_pow (by omega) (by omega)
  omega
theorem and_one {s : Int} (h0 : 0 ≤ s) (h1 : s < 4294967296) : Go.bits .and .u32 s 1 = s % 2 := bits_mask .u32 32 (by decide) (fun n h0 h1 => by rw [IntKind.wrap_u32]; omega) 1 (by decide) s h0 h1
theorem xor_cancel {a b c : Nat} (h : a ^^^ c = b ^^^ c) : a = b := by
  have := congrArg (· ^^^ c) h
  simpa [Nat.xor_assoc] using this
theorem xor_cancel' {a b c : Nat} (h : c ^^^ a = c ^^^ b) : a = b := by
  rw [Nat.xor_comm c a, Nat.xor_comm c b] at h
  exact xor_cancel h
theorem xor_top {a : Nat} (h : a < 2147483648) : 2147483648 ≤ a ^^^ 2197175160 := by
  rcases Nat.lt_or_ge (a ^^^ 2197175160) 2147483648 with h1 | h1
  · have h2 : a ^^^ (a ^^^ 2197175160) < 2 ^ 31 := Nat.xor_lt_two_pow (by omega) (by omega)
    rw [← Nat.xor_assoc, Nat.xor_self, Nat.zero_xor] at h2
    omega
  · exact h1
theorem round_inj {s t : Int} (hs0 : 0 ≤ s) (hs1 : s < 4294967296) (ht0 : 0 ≤ t) (ht1 : t < 4294967296) (h : crcRound s = crcRound t) : s = t := by
  obtain ⟨a, rfl⟩ := Int.eq_ofNat_of_zero_le hs0
  obtain ⟨b, rfl⟩ := Int.eq_ofNat_of_zero_le ht0
  have ha : ((a : Int) / 2) = ((a / 2 : Nat) : Int) := by omega
  have hb : ((b : Int) / 2) = ((b / 2 : Nat) : Int) := by omega
  have hp : (2197175160 : Int) = ((2197175160 : Nat) : Int) := rfl
  unfold crcRound at h
  rw [and_one hs0 hs1, and_one ht0 ht1, ha, hb, hp, xor_nat (by omega) (by omega), xor_nat (by omega) (by omega)] at h
  have ta := xor_top (show a / 2 < 2147483648 by omega)
  have tb := xor_top (show b / 2 < 2147483648 by omega)
  by_cases h1 : (a : Int) % 2 = 1
  · by_cases h2 : (b : Int) % 2 = 1
    · rw [if_pos h1, if_pos h2] at h
      have := xor_cancel (show a / 2 ^^^ 2197175160 = b / 2 ^^^ 2197175160 by omega)
      omega
    · rw [if_pos h1, if_neg h2] at h
      omega
  · by_cases h2 : (b : Int) % 2 = 1
    · rw [if_neg h1, if_pos h2] at h
      omega
    · rw [if_neg h1, if_neg h2] at h
      omega
theorem round_range {s : Int} (h0 : 0 ≤ s) (h1 : s < 4294967296) : 0 ≤ crcRound s ∧ crcRound s < 4294967296 := by
  unfold crcRound
  split
  · exact bits_u32_range _ _ _
  · omega
theorem rounds_inj (n : Nat) : ∀ {s t : Int}, 0 ≤ s → s < 4294967296 → 0 ≤ t → t < 4294967296 → crcRounds n s = crcRounds n t → s = t := by
  induction n with
  | zero => intro s t _ _ _ _ h; exact h
  | succ n ih =>
    intro s t hs0 hs1 ht0 ht1 h
    have h2 := round_range hs0 hs1
    have h3 := round_range ht0 ht1
    exact round_inj hs0 hs1 ht0 ht1 (ih h2.1 h2.2 h3.1 h3.2 h)
theorem step_range (s b : Int) : 0 ≤ crcStep s b ∧ crcStep s b < 4294967296 := by
  have h := bits_u32_range .xor s (b % 4294967296)
  exact rounds_range 8 _ h.1 h.2
theorem step_inj {s t b : Int} (hs0 : 0 ≤ s) (hs1 : s < 4294967296) (ht0 : 0 ≤ t) (ht1 : t < 4294967296) (h : crcStep s b = crcStep t b) : s = t := by
  have h1 := bits_u32_range .xor s (b % 4294967296)
  have h2 := bits_u32_range .xor t (b % 4294967296)
  have h3 := rounds_inj 8 h1.1 h1.2 h2.1 h2.2 h
  obtain ⟨a, rfl⟩ := Int.eq_ofNat_of_zero_le hs0
  obtain ⟨c, rfl⟩ := Int.eq_ofNat_of_zero_le ht0
  obtain ⟨d, hd⟩ := Int.eq_ofNat_of_zero_le (show 0 ≤ b % 4294967296 by omega)
  rw [hd, xor_nat (by omega) (by omega), xor_nat (by omega) (by omega)] at h3
  have := xor_cancel (show a ^^^ d = c ^^^ d by omega)
  omega
theorem step_byte {s x y : Int} (hs0 : 0 ≤ s) (hs1 : s < 4294967296) (hx : 0 ≤ x ∧ x ≤ 255) (hy : 0 ≤ y ∧ y ≤ 255) (h : crcStep s x = crcStep s y) : x = y := by
  have h1 := bits_u32_range .xor s (x % 4294967296)
  have h2 := bits_u32_range .xor s (y % 4294967296)
  have h3 := rounds_inj 8 h1.1 h1.2 h2.1 h2.2 h
  obtain ⟨a, rfl⟩ := Int.eq_ofNat_of_zero_le hs0
  obtain ⟨c, rfl⟩ := Int.eq_ofNat_of_zero_le hx.1
  obtain ⟨d, rfl⟩ := Int.eq_ofNat_of_zero_le hy.1
  rw [show (c : Int) % 4294967296 = (c : Int) by omega, show (d : Int) % 4294967296 = (d : Int) by omega, xor_nat (by omega) (by omega), xor_nat (by omega) (by omega)] at h3
  have := xor_cancel' (show a ^^^ c = a ^^^ d by omega)
  omega
theorem fold_range (l : List Int) : ∀ {s : Int}, 0 ≤ s → s < 4294967296 → 0 ≤ crcFold s l ∧ crcFold s l < 4294967296 := by
  induction l with
  | nil => intro s h0 h1; exact ⟨h0, h1⟩
  | cons b l ih => intro s h0 h1; have h := step_range s b; exact ih h.1 h.2
theorem fold_inj (l : List Int) : ∀ {s t : Int}, 0 ≤ s → s < 4294967296 → 0 ≤ t → t < 4294967296 → crcFold s l = crcFold t l → s = t := by
  induction l with
  | nil => intro s t _ _ _ _ h; exact h
  | cons b l ih =>
    intro s t hs0 hs1 ht0 ht1 h
    have h1 := step_range s b
    have h2 := step_range t b
    exact step_inj hs0 hs1 ht0 ht1 (ih h1.1 h1.2 h2.1 h2.2 h)
theorem crcFold_append (s : Int) (l m : List Int) : crcFold s (l ++ m) = crcFold (crcFold s l) m := List.foldl_append
theorem not_inj {a b : Int} (ha0 : 0 ≤ a) (ha1 : a < 4294967296) (hb0 : 0 ≤ b) (hb1 : b < 4294967296) (h : Go.bits .xor .u32 4294967295 a = Go.bits .xor .u32 4294967295 b) : a = b := by
  obtain ⟨c, rfl⟩ := Int.eq_ofNat_of_zero_le ha0
  obtain ⟨d, rfl⟩ := Int.eq_ofNat_of_zero_le hb0
  have e : (4294967295 : Int) = ((4294967295 : Nat) : Int) := rfl
  rw [e, xor_nat (by omega) (by omega), xor_nat (by omega) (by omega)] at h
  have := xor_cancel' (show 4294967295 ^^^ c = 4294967295 ^^^ d by omega)
  omega
/-- Two byte lists that part at one place alone have two checksums. -/
theorem crcS_parts (a b : List Int) {x y : Int} (hx : 0 ≤ x ∧ x ≤ 255) (hy : 0 ≤ y ∧ y ≤ 255) (h : crcS (a ++ x :: b) = crcS (a ++ y :: b)) : x = y := by
  unfold crcS at h
  rw [crcFold_append, crcFold_append] at h
  have h0 := fold_range a (s := 4294967295) (by omega) (by omega)
  have hx1 := step_range (crcFold 4294967295 a) x
  have hy1 := step_range (crcFold 4294967295 a) y
  have hx2 := fold_range b hx1.1 hx1.2
  have hy2 := fold_range b hy1.1 hy1.2
  have h1 := not_inj hx2.1 hx2.2 hy2.1 hy2.2 h
  have h2 := fold_inj b hx1.1 hx1.2 hy1.1 hy1.2 h1
  exact step_byte h0.1 h0.2 hx hy h2
theorem set_parts (l : List Int) (i : Nat) (hi : i < l.length) (x : Int) : l = l.take i ++ l[i] :: l.drop (i + 1) ∧ l.set i x = l.take i ++ x :: l.drop (i + 1) := by
  constructor
  · conv => lhs; rw [← List.take_append_drop i l, List.drop_eq_getElem_cons hi]
  · rw [List.set_eq_take_append_cons_drop, if_pos hi]
theorem crcS_set (l : List Int) (hb : Bytes l) (i : Nat) (hi : i < l.length) {x : Int} (hx : 0 ≤ x ∧ x ≤ 255) (h : crcS (l.set i x) = crcS l) : x = l[i] := by
  obtain ⟨e1, e2⟩ := set_parts l i hi x
  rw [e2] at h
  have h2 : crcS l = crcS (l.take i ++ l[i] :: l.drop (i + 1)) := congrArg crcS e1
  rw [h2] at h
  exact crcS_parts _ _ hx (hb _ (List.getElem_mem hi)) h
end Go.Proofs.YtopbmpdcmnhfdaaH
