/- Words of this session: slices that are read and cut; copying into a block. -/
import Derived.Test.YtcaolnmpldbkjaaGreatAx36
namespace Go.Proofs.YtcaolnmpldbkjaaGreatA
open Go Go.RowKit
set_option linter.unusedVariables false
set_option linter.unusedSimpArgs false
/-- A slice that may be read and cut. -/
structure Rs {α : Type} (h : Heap) (p : Option (Nat × Nat)) (c : Option Nat) (sz : Nat) (enc : α → List V) (ys : List α) : Prop where
  sl : Sl h p sz enc ys
  room : ∀ n, c = some n → ys.length ≤ n
  fit : Fit h sz p c
section
variable {α : Type} {h : Heap} {p : Option (Nat × Nat)} {c : Option Nat} {sz : Nat} {enc : α → List V} {ys : List α}
theorem Rs.ext (r : Rs h p c sz enc ys) {hh : Heap} (e : Ext h hh) : Rs hh p c sz enc ys := ⟨r.sl.ext e, r.room, r.fit.ext e⟩
theorem Rs.nil (h : Heap) (sz : Nat) (enc : α → List V) : Rs h none (some 0) sz enc ([] : List α) := ⟨.nil0 h sz enc, fun _ _ => Nat.zero_le _, Fit.some _ _ _ _⟩
theorem Rs.ofSome {n : Nat} (s : Sl h p sz enc ys) (hl : ys.length ≤ n) : Rs h p (some n) sz enc ys := ⟨s, fun m e => by cases e; exact hl, Fit.some _ _ _ _⟩
theorem Gr.rs {b : Nat} {oid : Option Nat} (g : Gr b h p c oid sz enc ys) : Rs h p c sz enc ys := ⟨g.sl, g.room, g.fit⟩
theorem fits_adv {q : Option (Nat × Nat)} {a : Nat} (hf : fitsV h sz q = true) : fitsV h sz (advV sz a q) = true := by
  cases q with
  | none => rfl
  | some x => exact hf
theorem Rs.fit' (r : Rs h p c sz enc ys) (a : Nat) : Fit h sz (if c = some a then p else advV sz a p) (c.map (· - a)) := by
  intro hc
  have : c = none := by cases c with
    | none => rfl
    | some n => cases hc
  subst this
  rw [if_neg (by simp)]
  exact fits_adv (r.fit rfl)
theorem Rs.cut (r : Rs h p c sz enc ys) {a b : Nat} (hab : a ≤ b) (hb : b ≤ ys.length) :
    ∃ p2 c2, (∀ (hh : Heap) (k k' : IntKind), Ext h hh → sliceV hh sz p ys.length c (some (.int k (a : Int))) (some (.int k' (b : Int))) none = some (.slice p2 (b - a) c2)) ∧ Rs h p2 c2 sz enc ((ys.take b).drop a) := by
  refine ⟨if c = some a then p else advV sz a p, c.map (· - a), fun hh k k' e => ?_, ⟨r.sl.cut c r.room hab hb, fun n hn => ?_, r.fit' a⟩⟩
  · rw [sliceV_in (by omega) (by omega) (by omega) r.room (r.fit.ext e), Int.toNat_natCast, Int.toNat_natCast]
  · cases c with
    | none => cases hn
    | some m =>
      have := r.room m rfl
      simp only [Option.map_some, Option.some.injEq] at hn
      simp only [List.length_drop, List.length_take]; omega
theorem Rs.lo (r : Rs h p c sz enc ys) {a : Nat} (ha : a ≤ ys.length) :
    ∃ p2 c2, (∀ (hh : Heap) (k : IntKind), Ext h hh → sliceV hh sz p ys.length c (some (.int k (a : Int))) none none = some (.slice p2 (ys.length - a) c2)) ∧ Rs h p2 c2 sz enc (ys.drop a) := by
  have hc := r.sl.cut c r.room ha (Nat.le_refl _)
  rw [List.take_length] at hc
  refine ⟨if c = some a then p else advV sz a p, c.map (· - a), fun hh k e => ?_, ⟨hc, fun n hn => ?_, r.fit' a⟩⟩
  · rw [sliceV_lo (by omega) (by omega) r.room (r.fit.ext e), Int.toNat_natCast]
  · cases c with
    | none => cases hn
    | some m =>
      have := r.room m rfl
      simp only [Option.map_some, Option.some.injEq] at hn
      simp only [List.length_drop]; omega
theorem Rs.hi (r : Rs h p c sz enc ys) {b : Nat} (hb : b ≤ ys.length) :
    (∀ (hh : Heap) (k : IntKind), Ext h hh → sliceV hh sz p ys.length c none (some (.int k (b : Int))) none = some (.slice p b c)) ∧ Rs h p c sz enc (ys.take b) := by
  have h2 := r.sl.part (Nat.zero_le b) hb
  rw [advV_zero, List.drop_zero] at h2
  refine ⟨fun hh k e => ?_, ⟨h2, fun n hn => ?_, r.fit⟩⟩
  · rw [sliceV_hi (by omega) (by omega) r.room (r.fit.ext e), Int.toNat_natCast]
  · have := r.room n hn
    simp only [List.length_take]; omega
end
/-- A slice of a whole block, cut from a place on. -/
theorem Blk.lo {sz t o0 L a : Nat} (ha : a ≤ L) : ∃ o, (∀ (hh : Heap) (k : IntKind), sliceV hh sz (some (t, o0)) L (some L) (some (.int k (a : Int))) none none = some (.slice (some (t, o)) (L - a) (some (L - a)))) ∧ (a = L ∨ o = o0 + a * sz) := by
  by_cases e : a = L
  · subst e
    refine ⟨o0, fun hh k => ?_, .inl rfl⟩
    rw [sliceV_lo (by omega) (by omega) (fun n q => by cases q; exact Nat.le_refl _) (fun q => by cases q), Int.toNat_natCast, if_pos rfl]; rfl
  · refine ⟨o0 + a * sz, fun hh k => ?_, .inr rfl⟩
    rw [sliceV_lo (by omega) (by omega) (fun n q => by cases q; exact Nat.le_refl _) (fun q => by cases q), Int.toNat_natCast, if_neg (by simp; omega)]; rfl
theorem set_self' {h : Heap} {id : Nat} {o : O} (hb : h[id]? = some o) : h.set id o = h := by
  have hlt := lt_of_some hb
  refine List.ext_getElem? fun j => ?_
  by_cases e : id = j
  · subst e; rw [List.getElem?_set_self hlt, hb]
  · rw [List.getElem?_set_ne e]
/-- A slice is copied into a block. -/
theorem Blk.copy {α : Type} {enc : α → List V} {h : Heap} {id sz o a dl : Nat} {D zs : List α} {k : Kd} {q : Option (Nat × Nat)} {xc : Option Nat} (hb : h[id]? = some (.cells (D.flatMap enc) k)) (hk : k ≠ .ro) (hw : ∀ y ∈ D, (enc y).length = sz) (s : Sl h q sz enc zs) (hl : ∀ y ∈ zs, (enc y).all V.leaf = true)
    (ho : zs = [] ∨ o = a * sz) (hd : zs.length ≤ dl) (ha : a + zs.length ≤ D.length) (hz : 1 ≤ sz) :
    cpv sz (some (id, o)) dl (.slice q zs.length xc) zs.length h = some (.int .i64 zs.length, h.set id (.cells ((D.take a ++ zs ++ D.drop (a + zs.length)).flatMap enc) k)) := by
  have hf := s.first xc (Nat.le_refl _) zs.length
  rw [List.take_of_length_le (Nat.le_refl _)] at hf
  unfold cpv
  rw [show Nat.min zs.length dl = zs.length from Nat.min_eq_left hd, hf]
  simp only []
  by_cases h0 : zs = []
  · subst h0
    simp only [List.flatMap_nil, if_true, List.length_nil, Nat.add_zero, List.append_nil, List.take_append_drop]
    rw [set_self' hb]
  · have ho' := ho.resolve_left h0
    have hfl := flatMap_len s.width
    have hpos : 1 ≤ zs.length := Nat.pos_of_ne_zero fun e => h0 (List.eq_nil_of_length_eq_zero e)
    have hne : ¬ zs.flatMap enc = [] := fun e => by
      have := congrArg List.length e
      rw [hfl] at this
      have h1 : 1 * 1 ≤ zs.length * sz := Nat.mul_le_mul hpos hz
      rw [List.length_nil] at this; omega
    rw [if_neg hne, storeN_of hb hk (by rw [ho', hfl, flatMap_len hw, ← Nat.add_mul]; exact Nat.mul_le_mul_right _ ha) (all_leaf hl)]
    simp only [Option.map_some, Option.some.injEq, Prod.mk.injEq, true_and]
    congr 2
    unfold splice
    rw [ho', flatMap_take hw, hfl, ← Nat.add_mul, flatMap_drop hw, List.flatMap_append, List.flatMap_append]
end Go.Proofs.YtcaolnmpldbkjaaGreatA
