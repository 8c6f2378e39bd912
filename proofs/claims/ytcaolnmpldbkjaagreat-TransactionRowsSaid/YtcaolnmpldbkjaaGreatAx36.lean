/- Words of this session: appending to a slice of the call's own, as one word; shifts and bits. -/
import Derived.Test.YtcaolnmpldbkjaaGreatAx35
namespace Go.Proofs.YtcaolnmpldbkjaaGreatA
open Go Go.RowKit
set_option linter.unusedVariables false
set_option linter.unusedSimpArgs false
/-- What comes of appending: the slice holds zs, is the call's own, and nothing that it did not lie in has changed. -/
def App {α : Type} (b : Nat) (h : Heap) (oid : Option Nat) (sz : Nat) (enc : α → List V) (zs : List α) (r : V) (h' : Heap) : Prop :=
  ∃ p' c' oid', r = .slice p' zs.length c' ∧ Gr b h' p' c' oid' sz enc zs ∧ (oid' = oid ∨ ∃ k, oid' = some k ∧ h.length ≤ k) ∧ h.length ≤ h'.length ∧ ∀ i, oid ≠ some i → i < h.length → h'[i]? = h[i]?
theorem App.of {α : Type} {b : Nat} {h : Heap} {p : Option (Nat × Nat)} {c oid : Option Nat} {sz : Nat} {enc : α → List V} {ys : List α} (g : Gr b h p c oid sz enc ys) : App b h oid sz enc ys (.slice p ys.length c) h :=
  ⟨p, c, oid, rfl, g, .inl rfl, Nat.le_refl _, fun _ _ _ => rfl⟩
/-- First one, then the other. -/
theorem App.trans {α : Type} {b : Nat} {h h1 : Heap} {oid oid1 : Option Nat} {sz : Nat} {enc : α → List V} {zs : List α} {r : V} {h' : Heap} (ho : oid1 = oid ∨ ∃ k, oid1 = some k ∧ h.length ≤ k) (hl : h.length ≤ h1.length) (hk : ∀ i, oid ≠ some i → i < h.length → h1[i]? = h[i]?) (a : App b h1 oid1 sz enc zs r h') : App b h oid sz enc zs r h' := by
  obtain ⟨p', c', oid', e, g, o, l, k⟩ := a
  refine ⟨p', c', oid', e, g, ?_, by omega, fun i hi hl2 => ?_⟩
  · rcases o with o | ⟨k2, o, o2⟩
    · rw [o]; exact ho
    · exact .inr ⟨k2, o, by omega⟩
  · rw [k i (fun q => ?_) (by omega), hk i hi hl2]
    rcases ho with ho | ⟨k2, ho, ho2⟩
    · exact hi (by rw [← ho, q])
    · rw [ho] at q; cases q; omega
theorem App.base {α : Type} {b : Nat} {h h1 : Heap} {oid : Option Nat} {sz : Nat} {enc : α → List V} {zs : List α} {r : V} {h' : Heap} (e : Ext h h1) (a : App b h1 oid sz enc zs r h') : App b h oid sz enc zs r h' :=
  App.trans (.inl rfl) e.le (fun i _ hi => by have := e _ _ (List.getElem?_eq_getElem hi); rw [this, List.getElem?_eq_getElem hi]) a
/-- Where nothing was appended to, all stays. -/
theorem App.ext {α : Type} {b : Nat} {h : Heap} {oid : Option Nat} {sz : Nat} {enc : α → List V} {zs : List α} {r : V} {h' h0 : Heap} (a : App b h oid sz enc zs r h') (e : Ext h0 h) (hb : ∀ i, oid = some i → h0.length ≤ i) : Ext h0 h' := by
  obtain ⟨p', c', oid', _, g, o, l, k⟩ := a
  refine ⟨fun i o hi => ?_⟩
  have h1 := e _ _ hi
  have := lt_of_some hi
  rw [k i (fun q => by have := hb i q; omega) (lt_of_some h1)]
  exact h1
section
variable {α : Type} {b : Nat} {h : Heap} {p : Option (Nat × Nat)} {c oid : Option Nat} {sz : Nat} {enc : α → List V} {ys : List α}
theorem Gr.wrV (g : Gr b h p c oid sz enc ys) (hb : b ≤ h.length) {hh : Heap} (e : Ext h hh) {zs : List α} {x : V} {n bytes : Nat} (hn : n = zs.length) (hx : firstV sz n hh x = some (zs.flatMap enc)) (hw : ∀ y ∈ zs, (enc y).length = sz) (hl : ∀ y ∈ zs, (enc y).all V.leaf = true)
    (hB : (ys.length + zs.length) * bytes ≤ 140737488355328) (hS : ys.length + zs.length ≤ 140737488355328) : WR (apv sz bytes p ys.length c x n hh) (App b h oid sz enc (ys ++ zs)) := by
  have := e.le
  obtain ⟨p', c', oid', h', hap, gr, ho, hle, hk1, hk2⟩ := (g.ext e).append (by omega) hn hx hw hl hB hS
  rw [hap, WR_some]
  refine ⟨p', c', oid', rfl, gr, ?_, by omega, fun i hi hl2 => ?_⟩
  · rcases ho with ho | ho
    · exact .inl ho
    · exact .inr ⟨_, ho, by omega⟩
  · rw [hk1 i hi (by omega)]
    have h1 : h[i]? = some h[i] := List.getElem?_eq_getElem hl2
    rw [h1]; exact e _ _ h1
/-- A row of a block is appended. -/
theorem Gr.wrB (g : Gr b h p c oid sz enc ys) (hb : b ≤ h.length) {hh : Heap} (e : Ext h hh) (zs : List α) {q : Nat} {vc : Option Nat} {k : Kd} {n bytes : Nat} (hq : hh[q]? = some (.cells (zs.flatMap enc) k)) (hn : n = zs.length) (hw : ∀ y ∈ zs, (enc y).length = sz) (hl : ∀ y ∈ zs, (enc y).all V.leaf = true)
    (hB : (ys.length + zs.length) * bytes ≤ 140737488355328) (hS : ys.length + zs.length ≤ 140737488355328) : WR (apv sz bytes p ys.length c (.slice (some (q, 0)) n vc) n hh) (App b h oid sz enc (ys ++ zs)) := by
  refine g.wrV hb e hn ?_ hw hl hB hS
  show loadN hh q 0 (n * sz) = _
  have hfl := flatMap_len hw
  rw [loadN_of hq (by rw [hfl, hn]; omega), List.drop_zero, List.take_of_length_le (by rw [hfl, hn]; omega)]
/-- Another slice is appended. -/
theorem Gr.wrS (g : Gr b h p c oid sz enc ys) (hb : b ≤ h.length) {hh : Heap} (e : Ext h hh) {zs : List α} {q : Option (Nat × Nat)} {vc : Option Nat} {bytes : Nat} (s : Sl hh q sz enc zs) (hl : ∀ y ∈ zs, (enc y).all V.leaf = true)
    (hB : (ys.length + zs.length) * bytes ≤ 140737488355328) (hS : ys.length + zs.length ≤ 140737488355328) : WR (apv sz bytes p ys.length c (.slice q zs.length vc) zs.length hh) (App b h oid sz enc (ys ++ zs)) := by
  refine g.wrV hb e rfl ?_ s.width hl hB hS
  have hf := s.first vc (Nat.le_refl _) zs.length
  rwa [List.take_of_length_le (Nat.le_refl _)] at hf
end
/-- Bytes of a literal, told for reading alone. -/
theorem conv_ss {P : Program} {t e : TypeId} (ht : P.underlying t = some (.slice e)) (he : P.underlying e = some (.int .u8)) {h : Heap} {id off len n : Nat} {cs : List V} (hc : h[id]? = some (.cells cs .rw)) (hn : ¬ (len = 0 ∧ n = 0)) : convV P t t (.slice (some (id, off)) len (some n)) h = some (.slice (some (h.length, off)) len (some n), h.set id .dead ++ [.cells cs .ro]) := by
  have hz : (!(len == 0 && some n == some 0)) = true := by
    simp only [Bool.not_eq_true', Bool.and_eq_false_iff, beq_eq_false_iff_ne, ne_eq, Option.some.injEq]
    omega
  unfold convV
  simp only [ht, he, hc, beq_self_eq_true, hz, Bool.and_self, newC_eq]
theorem eb_w (zs : List Int) : ∀ y ∈ zs, (eb y).length = 1 := fun _ _ => rfl
theorem eb_l (zs : List Int) : ∀ y ∈ zs, (eb y).all V.leaf = true := fun _ _ => rfl
/-- The bytes of a string are appended. -/
theorem Gr.wrT {b : Nat} {h : Heap} {p : Option (Nat × Nat)} {c oid : Option Nat} {ys : List Int} (g : Gr b h p c oid 1 eb ys) (hb : b ≤ h.length) {hh : Heap} (e : Ext h hh) {s : List Int} {bytes : Nat} (hB : (ys.length + s.length) * bytes ≤ 140737488355328) (hS : ys.length + s.length ≤ 140737488355328) :
    WR (apv 1 bytes p ys.length c (.str s) s.length hh) (App b h oid 1 eb (ys ++ s)) := by
  refine g.wrV hb e rfl ?_ (eb_w _) (eb_l _) hB hS
  rw [← map_eb]
  show some ((s.take s.length).map _) = _
  rw [List.take_length]
/-! ### shifts and bits -/
theorem shr_of {P : Program} {ty : TypeId} {x y : Operand} {k k' : IntKind} {a b : Int} (hb : 0 ≤ b) : binV P .shr ty x y (.int k a) (.int k' b) = some (.int k (a.fdiv (2 ^ (min b.toNat k.bits)))) := by
  show shiftV .shr k a b = _
  unfold shiftV
  rw [if_neg (by omega)]
theorem shl_of {P : Program} {ty : TypeId} {x y : Operand} {k k' : IntKind} {a b : Int} (hb : 0 ≤ b) : binV P .shl ty x y (.int k a) (.int k' b) = some (.int k (k.wrap (a * 2 ^ (min b.toNat k.bits)))) := by
  show shiftV .shl k a b = _
  unfold shiftV
  rw [if_neg (by omega)]
theorem w_u64 (n : Int) : IntKind.u64.wrap n = n % 18446744073709551616 := by simp [IntKind.wrap, IntKind.bits, IntKind.signed]
theorem w_u32 (n : Int) : IntKind.u32.wrap n = n % 4294967296 := by simp [IntKind.wrap, IntKind.bits, IntKind.signed]
theorem w_u16 (n : Int) : IntKind.u16.wrap n = n % 65536 := by simp [IntKind.wrap, IntKind.bits, IntKind.signed]
theorem w_u8 (n : Int) : IntKind.u8.wrap n = n % 256 := by simp [IntKind.wrap, IntKind.bits, IntKind.signed]
theorem ofInt_nat (w : Nat) {a : Nat} (ha : a < 2 ^ w) : (BitVec.ofInt w (a : Int)).toNat = a := by
  rw [BitVec.toNat_ofInt, ← Int.natCast_emod, Int.toNat_natCast, Nat.mod_eq_of_lt ha]
theorem and_u64 {a b : Nat} (ha : a < 18446744073709551616) (hb : b < 18446744073709551616) : IntKind.u64.wrap ((BitVec.ofInt IntKind.u64.bits (a : Int) &&& BitVec.ofInt IntKind.u64.bits (b : Int)).toNat : Int) = ((a &&& b : Nat) : Int) := by
  rw [BitVec.toNat_and, ofInt_nat _ (by exact ha), ofInt_nat _ (by exact hb), w_u64]
  have : a &&& b ≤ a := Nat.and_le_left
  omega
theorem or_u64 {a b : Nat} (ha : a < 18446744073709551616) (hb : b < 18446744073709551616) : IntKind.u64.wrap ((BitVec.ofInt IntKind.u64.bits (a : Int) ||| BitVec.ofInt IntKind.u64.bits (b : Int)).toNat : Int) = ((a ||| b : Nat) : Int) := by
  rw [BitVec.toNat_or, ofInt_nat _ (by exact ha), ofInt_nat _ (by exact hb), w_u64]
  have : a ||| b < 2 ^ 64 := Nat.or_lt_two_pow ha hb
  omega
theorem xor_u64 {a b : Nat} (ha : a < 18446744073709551616) (hb : b < 18446744073709551616) : IntKind.u64.wrap ((BitVec.ofInt IntKind.u64.bits (a : Int) ^^^ BitVec.ofInt IntKind.u64.bits (b : Int)).toNat : Int) = ((a ^^^ b : Nat) : Int) := by
  rw [BitVec.toNat_xor, ofInt_nat _ (by exact ha), ofInt_nat _ (by exact hb), w_u64]
  have : a ^^^ b < 2 ^ 64 := Nat.xor_lt_two_pow ha hb
  omega
theorem and_u8 {a b : Nat} (ha : a < 256) (hb : b < 256) : IntKind.u8.wrap ((BitVec.ofInt IntKind.u8.bits (a : Int) &&& BitVec.ofInt IntKind.u8.bits (b : Int)).toNat : Int) = ((a &&& b : Nat) : Int) := by
  rw [BitVec.toNat_and, ofInt_nat _ (by exact ha), ofInt_nat _ (by exact hb), w_u8]
  have : a &&& b ≤ a := Nat.and_le_left
  omega
theorem or_u8 {a b : Nat} (ha : a < 256) (hb : b < 256) : IntKind.u8.wrap ((BitVec.ofInt IntKind.u8.bits (a : Int) ||| BitVec.ofInt IntKind.u8.bits (b : Int)).toNat : Int) = ((a ||| b : Nat) : Int) := by
  rw [BitVec.toNat_or, ofInt_nat _ (by exact ha), ofInt_nat _ (by exact hb), w_u8]
  have : a ||| b < 2 ^ 8 := Nat.or_lt_two_pow ha hb
  omega
theorem and_127 (a : Nat) : a &&& 127 = a % 128 := Nat.and_two_pow_sub_one_eq_mod a 7
theorem and_255 (a : Nat) : a &&& 255 = a % 256 := Nat.and_two_pow_sub_one_eq_mod a 8
theorem and_1 (a : Nat) : a &&& 1 = a % 2 := Nat.and_two_pow_sub_one_eq_mod a 1
theorem or_128 {a : Nat} (h : a < 256) : a ||| 128 = a % 128 + 128 := by
  have : ∀ x : Fin 256, x.val ||| 128 = x.val % 128 + 128 := by decide +kernel
  exact this ⟨a, h⟩
end Go.Proofs.YtcaolnmpldbkjaaGreatA
