/- Words of this session: slices that are appended to, cut, copied: rules of no program. -/
import Derived.Test.YtcaolnmpldbkjaaGreatAx26
namespace Go.Proofs.YtcaolnmpldbkjaaGreatA
open Go Go.RowKit
set_option linter.unusedVariables false
set_option linter.unusedSimpArgs false

/-! ### cells in line -/
theorem flatMap_len {α : Type} {enc : α → List V} {sz : Nat} : ∀ {ys : List α}, (∀ y ∈ ys, (enc y).length = sz) → (ys.flatMap enc).length = ys.length * sz
  | [], _ => by simp
  | y :: ys, h => by
    rw [List.flatMap_cons, List.length_append, h y (by simp), flatMap_len fun z hz => h z (by simp [hz]), List.length_cons, Nat.add_mul]; omega
theorem flatMap_take {α : Type} {enc : α → List V} {sz : Nat} : ∀ {ys : List α} (_ : ∀ y ∈ ys, (enc y).length = sz) (n : Nat), (ys.flatMap enc).take (n * sz) = (ys.take n).flatMap enc
  | [], _, n => by simp
  | y :: ys, h, 0 => by simp
  | y :: ys, h, n + 1 => by
    have hy := h y (by simp)
    rw [List.flatMap_cons, List.take_succ_cons, List.flatMap_cons, List.take_append, List.take_of_length_le (by rw [hy, Nat.add_mul]; omega), hy, show (n + 1) * sz - sz = n * sz by rw [Nat.add_mul]; omega, flatMap_take (fun z hz => h z (by simp [hz])) n]
theorem flatMap_drop {α : Type} {enc : α → List V} {sz : Nat} : ∀ {ys : List α} (_ : ∀ y ∈ ys, (enc y).length = sz) (n : Nat), (ys.flatMap enc).drop (n * sz) = (ys.drop n).flatMap enc
  | [], _, n => by simp
  | y :: ys, h, 0 => by simp
  | y :: ys, h, n + 1 => by
    have hy := h y (by simp)
    rw [List.flatMap_cons, List.drop_succ_cons, List.drop_append, List.drop_of_length_le (by rw [hy, Nat.add_mul]; omega), hy, show (n + 1) * sz - sz = n * sz by rw [Nat.add_mul]; omega, flatMap_drop (fun z hz => h z (by simp [hz])) n, List.nil_append]
theorem flatMap_at {α : Type} {enc : α → List V} {sz : Nat} {ys : List α} (h : ∀ y ∈ ys, (enc y).length = sz) {i : Nat} {y : α} (hi : ys[i]? = some y) : ((ys.flatMap enc).drop (i * sz)).take sz = enc y := by
  rw [flatMap_drop h]
  have hlt := (List.getElem?_eq_some_iff.1 hi).1
  rw [List.drop_eq_getElem_cons hlt, List.flatMap_cons]
  have : ys[i] = y := (List.getElem?_eq_some_iff.1 hi).2
  rw [this, List.take_left' (h y (by rw [← this]; exact List.getElem_mem hlt))]
theorem flat_of_reads {α : Type} {enc : α → List V} {sz : Nat} {C : List V} : ∀ {ys : List α} {b : Nat}, (∀ y ∈ ys, (enc y).length = sz) → b + ys.length * sz ≤ C.length → (∀ i y, ys[i]? = some y → (C.drop (b + i * sz)).take sz = enc y) → (C.drop b).take (ys.length * sz) = ys.flatMap enc
  | [], b, _, _, _ => by simp
  | y :: ys, b, hw, hl, hr => by
    have hy := hw y (by simp)
    have h0 := hr 0 y rfl
    rw [Nat.zero_mul, Nat.add_zero] at h0
    have ih := flat_of_reads (C := C) (ys := ys) (b := b + sz) (fun z hz => hw z (by simp [hz])) (by rw [List.length_cons, Nat.add_mul, Nat.one_mul] at hl; omega) (fun i z hz => by
      have := hr (i + 1) z (by simpa using hz)
      rw [← this, Nat.add_mul, Nat.one_mul, Nat.add_assoc, Nat.add_comm sz])
    rw [List.flatMap_cons, ← ih, ← h0, List.length_cons, Nat.add_mul, Nat.one_mul, Nat.add_comm (ys.length * sz) sz, List.take_add, List.drop_drop]
/-- All the cells of a slice. -/
theorem Sl.all {α : Type} {h : Heap} {p : Option (Nat × Nat)} {sz : Nat} {enc : α → List V} {ys : List α} (s : Sl h p sz enc ys) {a b : Nat} (hp : p = some (a, b)) : loadN h a b (ys.length * sz) = some (ys.flatMap enc) := by
  obtain ⟨C, k, h1, h2, h3⟩ := s.reads a b hp
  rw [loadN_of h1 h2, flat_of_reads s.width h2 h3]
theorem Sl.first {α : Type} {h : Heap} {p : Option (Nat × Nat)} {sz : Nat} {enc : α → List V} {ys : List α} (s : Sl h p sz enc ys) (c : Option Nat) {n : Nat} (hn : n ≤ ys.length) (m : Nat) : firstV sz n h (.slice p m c) = some ((ys.take n).flatMap enc) := by
  cases p with
  | none =>
    have := s.nil rfl
    subst this; simp [firstV]
  | some q =>
    obtain ⟨a, b⟩ := q
    obtain ⟨C, k, h1, h2, h3⟩ := s.reads a b rfl
    have h4 : n * sz ≤ ys.length * sz := Nat.mul_le_mul_right _ hn
    show loadN h a b (n * sz) = _
    rw [loadN_of h1 (by omega)]
    have := flat_of_reads s.width h2 h3
    rw [← flatMap_take s.width n, ← this, List.take_take, Nat.min_eq_left h4]
/-- A block that holds the elements from a place on. -/
theorem Sl.at {α : Type} {h : Heap} {a b sz : Nat} {enc : α → List V} {ys : List α} {C : List V} {k : Kd} (hc : h[a]? = some (.cells C k)) (hw : ∀ y ∈ ys, (enc y).length = sz) (hl : b + ys.length * sz ≤ C.length) (hC : (C.drop b).take (ys.length * sz) = ys.flatMap enc) (hs : ys.length ≤ 140737488355328) : Sl h (some (a, b)) sz enc ys := by
  refine ⟨fun e => (by cases e), hw, fun a' b' e => ?_, hs⟩
  cases e
  refine ⟨C, k, hc, hl, fun i y hy => ?_⟩
  have h1 := flatMap_at hw hy
  have hlt := (List.getElem?_eq_some_iff.1 hy).1
  have h2 : (i + 1) * sz ≤ ys.length * sz := Nat.mul_le_mul_right _ hlt
  rw [Nat.add_mul, Nat.one_mul] at h2
  rw [← h1, ← hC, List.drop_take, List.take_take, List.drop_drop, Nat.min_eq_left (by omega)]
theorem Sl.nil0 {α : Type} (h : Heap) (sz : Nat) (enc : α → List V) : Sl h none sz enc [] := ⟨fun _ => rfl, by simp, fun a b e => (by cases e), by simp⟩
/-- A part of a slice. -/
theorem Sl.part {α : Type} {h : Heap} {p : Option (Nat × Nat)} {sz : Nat} {enc : α → List V} {ys : List α} (s : Sl h p sz enc ys) {a b : Nat} (hab : a ≤ b) (hb : b ≤ ys.length) : Sl h (advV sz a p) sz enc ((ys.take b).drop a) := by
  refine ⟨fun e => ?_, fun y hy => s.width y (List.mem_of_mem_take (List.mem_of_mem_drop hy)), fun a' b' e => ?_, by simp only [List.length_drop, List.length_take]; have := s.small; omega⟩
  · have : p = none := by cases p with
      | none => rfl
      | some q => cases e
    rw [s.nil this]; simp
  · cases p with
    | none => cases e
    | some q =>
      obtain ⟨i, o⟩ := q
      simp only [advV, Option.some.injEq, Prod.mk.injEq] at e
      obtain ⟨rfl, rfl⟩ := e
      obtain ⟨C, k, h1, h2, h3⟩ := s.reads i o rfl
      have h4 : b * sz ≤ ys.length * sz := Nat.mul_le_mul_right _ hb
      have h5 : a * sz + (b - a) * sz = b * sz := by rw [← Nat.add_mul]; congr 1; omega
      refine ⟨C, k, h1, ?_, fun j y hy => ?_⟩
      · simp only [List.length_drop, List.length_take, Nat.min_eq_left hb]; omega
      · rw [List.getElem?_drop, List.getElem?_take] at hy
        split at hy
        · rw [← h3 _ _ hy, Nat.add_mul]; congr 2; omega
        · cases hy
theorem Sl.empty {α : Type} {h : Heap} {p : Option (Nat × Nat)} {sz : Nat} {enc : α → List V} {ys : List α} (s : Sl h p sz enc ys) : Sl h p sz enc ([] : List α) := by
  refine ⟨fun _ => rfl, by simp, fun a b e => ?_, by simp⟩
  obtain ⟨C, k, h1, h2, h3⟩ := s.reads a b e
  exact ⟨C, k, h1, by simp only [List.length_nil, Nat.zero_mul]; omega, by simp⟩
theorem sliceV_in {h : Heap} {sz : Nat} {p : Option (Nat × Nat)} {len : Nat} {c : Option Nat} {k k' : IntKind} {a b : Int} (h0 : 0 ≤ a) (hab : a ≤ b) (hb : b ≤ len) (hc : ∀ n, c = some n → len ≤ n) (hf : c = none → fitsV h sz p = true) :
    sliceV h sz p len c (some (.int k a)) (some (.int k' b)) none = some (.slice (if c = some a.toNat then p else advV sz a.toNat p) (b.toNat - a.toNat) (c.map (· - a.toNat))) := by
  unfold sliceV
  cases c with
  | none =>
    have : (b : Int) ≤ (len : Int) := hb
    simp only [boundV, Option.getD_none]
    rw [if_pos ⟨by omega, hb⟩]
    simp only []
    rw [if_pos ⟨h0, by omega⟩]
    simp [hf rfl]
  | some n =>
    have := hc n rfl
    simp only [boundV, Option.getD_some]
    rw [if_pos ⟨by omega, by omega⟩]
    simp only []
    rw [if_pos ⟨h0, by omega⟩]
    simp
theorem sliceV_lo {h : Heap} {sz : Nat} {p : Option (Nat × Nat)} {len : Nat} {c : Option Nat} {k : IntKind} {a : Int} (h0 : 0 ≤ a) (hb : a ≤ len) (hc : ∀ n, c = some n → len ≤ n) (hf : c = none → fitsV h sz p = true) :
    sliceV h sz p len c (some (.int k a)) none none = some (.slice (if c = some a.toNat then p else advV sz a.toNat p) (len - a.toNat) (c.map (· - a.toNat))) := by
  unfold sliceV
  cases c with
  | none =>
    simp only [boundV, Option.getD_none]
    rw [if_pos ⟨h0, hb⟩]
    simp [hf rfl]
  | some n =>
    have := hc n rfl
    simp only [boundV, Option.getD_some]
    rw [if_pos ⟨h0, hb⟩]
    simp
theorem advV_zero (sz : Nat) (p : Option (Nat × Nat)) : advV sz 0 p = p := by cases p with
  | none => rfl
  | some q => obtain ⟨a, b⟩ := q; simp [advV]
theorem sliceV_hi {h : Heap} {sz : Nat} {p : Option (Nat × Nat)} {len : Nat} {c : Option Nat} {k : IntKind} {b : Int} (h0 : 0 ≤ b) (hb : b ≤ len) (hc : ∀ n, c = some n → len ≤ n) (hf : c = none → fitsV h sz p = true) :
    sliceV h sz p len c none (some (.int k b)) none = some (.slice p b.toNat c) := by
  unfold sliceV
  cases c with
  | none =>
    simp only [boundV, Option.getD_none]
    rw [if_pos ⟨h0, hb⟩]
    simp [hf rfl, advV_zero]
  | some n =>
    have := hc n rfl
    simp only [boundV, Option.getD_some]
    rw [if_pos ⟨h0, by omega⟩]
    simp [advV_zero]
theorem sliceV_all {h : Heap} {sz : Nat} {p : Option (Nat × Nat)} {len : Nat} {c : Option Nat} (hf : c = none → fitsV h sz p = true) :
    sliceV h sz p len c none none none = some (.slice p len c) := by
  unfold sliceV
  cases c with
  | none => simp [boundV, hf rfl, advV_zero]
  | some n => simp [boundV, advV_zero]
/-- The place and the room of a part. -/
def cutP (sz : Nat) (p : Option (Nat × Nat)) (c : Option Nat) (a : Nat) : Option (Nat × Nat) := if c = some a then p else advV sz a p
theorem Sl.cut {α : Type} {h : Heap} {p : Option (Nat × Nat)} {sz : Nat} {enc : α → List V} {ys : List α} (s : Sl h p sz enc ys) (c : Option Nat) (hc : ∀ n, c = some n → ys.length ≤ n) {a b : Nat} (hab : a ≤ b) (hb : b ≤ ys.length) : Sl h (cutP sz p c a) sz enc ((ys.take b).drop a) := by
  unfold cutP
  split
  · rename_i e
    have := hc a e
    have : a = b := by omega
    subst this
    have e2 : (ys.take a).drop a = [] := by apply List.drop_of_length_le; simp; omega
    rw [e2]; exact s.empty
  · exact s.part hab hb
def Fit (h : Heap) (sz : Nat) (p : Option (Nat × Nat)) (c : Option Nat) : Prop := c = none → fitsV h sz p = true
theorem Fit.some (h : Heap) (sz : Nat) (p : Option (Nat × Nat)) (c : Nat) : Fit h sz p (some c) := fun e => by cases e
theorem fits_gr {h : Heap} {sz : Nat} {a b : Nat} {C : List V} (hc : h[a]? = some (.cells C (.gr sz))) : fitsV h sz (some (a, b)) = true := by simp [fitsV, hc]
theorem Fit.ext {h hh : Heap} {sz : Nat} {p : Option (Nat × Nat)} {c : Option Nat} (f : Fit h sz p c) (e : Ext h hh) : Fit hh sz p c := fun hc => by
  have := f hc
  unfold fitsV at this ⊢
  cases p with
  | none => rfl
  | some q =>
    obtain ⟨a, b⟩ := q
    simp only at this ⊢
    cases hh' : h[a]? with
    | none => rw [hh'] at this; cases this
    | some o => rw [hh'] at this; rw [e _ _ hh']; exact this

/-! ### append -/
noncomputable def apv (size bytes : Nat) (p : Option (Nat × Nat)) (len : Nat) (cap : Option Nat) (x : V) (n : Nat) (h : Heap) : Option (V × Heap) :=
  if n = 0 then some (.slice p len cap, h) else match firstV size n h x with
    | none => none
    | some new => appRest h size bytes p len cap n new
theorem append_as {P : Program} {st xt e : TypeId} {size bytes : Nat} {z : List V} (he : elemT P st = some e) (hr : rowT P xt = true) (hs : szT P e = some size) (hb : byT P e = some bytes) (hz : zerosT P e = some z) (p : Option (Nat × Nat)) (len : Nat) (cap : Option Nat) (h : Heap) :
    (∀ q n c, appendV P st xt (.slice p len cap) (.slice q n c) h = apv size bytes p len cap (.slice q n c) n h) ∧ ∀ s, appendV P st xt (.slice p len cap) (.str s) h = apv size bytes p len cap (.str s) s.length h := by
  constructor
  · intro q n c; unfold appendV apv; simp only [he, hr, hs, hb, hz, lenV]; rfl
  · intro s; unfold appendV apv; simp only [he, hr, hs, hb, hz, lenV]; rfl
/-- A slice of the call's own that may be appended to: oid is the block that it lies in, b and more. -/
structure Gr {α : Type} (b : Nat) (h : Heap) (p : Option (Nat × Nat)) (c : Option Nat) (oid : Option Nat) (sz : Nat) (enc : α → List V) (ys : List α) : Prop where
  sl : Sl h p sz enc ys
  kind : (p = none ∧ c = some 0 ∧ oid = none) ∨ ∃ id off C k, p = some (id, off) ∧ oid = some id ∧ h[id]? = some (.cells C k) ∧ ((c = some ys.length ∧ k ≠ .ro) ∨ (c = none ∧ k = .gr sz ∧ off + ys.length * sz = C.length))
  base : ∀ id, oid = some id → b ≤ id
  leaf : ∀ y ∈ ys, (enc y).all V.leaf = true
theorem Gr.nil {α : Type} (b : Nat) (h : Heap) (sz : Nat) (enc : α → List V) : Gr b h none (some 0) none sz enc ([] : List α) :=
  ⟨.nil0 h sz enc, .inl ⟨rfl, rfl, rfl⟩, fun _ e => (by cases e), by simp⟩
theorem Gr.built {α : Type} {b : Nat} {h : Heap} {id sz : Nat} {enc : α → List V} {ys : List α} {C : List V} (hc : h[id]? = some (.cells C .rw)) (hC : C = ys.flatMap enc) (hb : b ≤ id) (hw : ∀ y ∈ ys, (enc y).length = sz) (hl : ∀ y ∈ ys, (enc y).all V.leaf = true) (hs : ys.length ≤ 140737488355328) {n : Nat} (hn : n = ys.length) : Gr b h (some (id, 0)) (some n) (some id) sz enc ys :=
  ⟨.whole hc hw hC hs, .inr ⟨id, 0, C, .rw, rfl, rfl, hc, .inl ⟨by rw [hn], by simp⟩⟩, fun i e => (by cases e; exact hb), hl⟩
theorem Gr.keep {α : Type} {b : Nat} {h hh : Heap} {p : Option (Nat × Nat)} {c oid : Option Nat} {sz : Nat} {enc : α → List V} {ys : List α} (g : Gr b h p c oid sz enc ys) (hk : ∀ id, oid = some id → hh[id]? = h[id]?) : Gr b hh p c oid sz enc ys := by
  refine ⟨⟨g.sl.nil, g.sl.width, fun a o hp => ?_, g.sl.small⟩, ?_, g.base, g.leaf⟩
  · rcases g.kind with ⟨e, _⟩ | ⟨id, off, C, k, e, e2, e3, _⟩
    · rw [e] at hp; cases hp
    · rw [e] at hp; cases hp
      obtain ⟨C', k', h1, h2⟩ := g.sl.reads a o e
      exact ⟨C', k', by rw [hk a e2]; exact h1, h2⟩
  · rcases g.kind with e | ⟨id, off, C, k, e, e2, e3, e4⟩
    · exact .inl e
    · exact .inr ⟨id, off, C, k, e, e2, by rw [hk id e2]; exact e3, e4⟩
theorem Gr.lt {α : Type} {b : Nat} {h : Heap} {p : Option (Nat × Nat)} {c oid : Option Nat} {sz : Nat} {enc : α → List V} {ys : List α} (g : Gr b h p c oid sz enc ys) {id : Nat} (e : oid = some id) : id < h.length := by
  rcases g.kind with ⟨_, _, q⟩ | ⟨i, off, C, k, _, e2, e3, _⟩
  · rw [q] at e; cases e
  · rw [e2] at e; cases e; exact lt_of_some e3
theorem Gr.ext {α : Type} {b : Nat} {h hh : Heap} {p : Option (Nat × Nat)} {c oid : Option Nat} {sz : Nat} {enc : α → List V} {ys : List α} (g : Gr b h p c oid sz enc ys) (e : Ext h hh) : Gr b hh p c oid sz enc ys :=
  g.keep fun id hi => by
    have := g.lt hi
    rw [e _ _ (List.getElem?_eq_getElem this), List.getElem?_eq_getElem this]
theorem Gr.fit {α : Type} {b : Nat} {h : Heap} {p : Option (Nat × Nat)} {c oid : Option Nat} {sz : Nat} {enc : α → List V} {ys : List α} (g : Gr b h p c oid sz enc ys) : Fit h sz p c := by
  intro hc
  rcases g.kind with ⟨e, e2, _⟩ | ⟨i, off, C, k, e, e2, e3, e4⟩
  · rw [e]; rfl
  · rcases e4 with ⟨e4, _⟩ | ⟨_, rfl, _⟩
    · rw [e4] at hc; cases hc
    · rw [e]; exact fits_gr e3
theorem Gr.room {α : Type} {b : Nat} {h : Heap} {p : Option (Nat × Nat)} {c oid : Option Nat} {sz : Nat} {enc : α → List V} {ys : List α} (g : Gr b h p c oid sz enc ys) : ∀ n, c = some n → ys.length ≤ n := by
  intro n hc
  rcases g.kind with ⟨e, e2, _⟩ | ⟨i, off, C, k, e, e2, e3, e4⟩
  · rw [g.sl.nil e]; simp
  · rcases e4 with ⟨e4, _⟩ | ⟨e4, _⟩
    · rw [e4] at hc; cases hc; exact Nat.le_refl _
    · rw [e4] at hc; cases hc
theorem all_leaf {α : Type} {enc : α → List V} {ys : List α} (h : ∀ y ∈ ys, (enc y).all V.leaf = true) : (ys.flatMap enc).all V.leaf = true := by
  rw [List.all_eq_true]
  intro v hv
  obtain ⟨y, hy, hv⟩ := List.mem_flatMap.1 hv
  exact List.all_eq_true.1 (h y hy) v hv
/-- What append gives to a slice of the call's own. -/
theorem Gr.append {α : Type} {b : Nat} {h : Heap} {p : Option (Nat × Nat)} {c oid : Option Nat} {sz : Nat} {enc : α → List V} {ys zs : List α} (g : Gr b h p c oid sz enc ys) (hb : b ≤ h.length) {x : V} {n bytes : Nat} (hn : n = zs.length) (hx : firstV sz n h x = some (zs.flatMap enc))
    (hw : ∀ y ∈ zs, (enc y).length = sz) (hl : ∀ y ∈ zs, (enc y).all V.leaf = true) (hB : (ys.length + zs.length) * bytes ≤ 140737488355328) (hS : ys.length + zs.length ≤ 140737488355328) :
    ∃ p' c' oid' h', apv sz bytes p ys.length c x n h = some (.slice p' (ys ++ zs).length c', h') ∧ Gr b h' p' c' oid' sz enc (ys ++ zs) ∧ (oid' = oid ∨ oid' = some h.length) ∧ (h.length ≤ h'.length) ∧ (∀ i, oid ≠ some i → i < h.length → h'[i]? = h[i]?) ∧ (∀ i, i < b → h'[i]? = h[i]?) := by
  subst hn
  unfold apv
  by_cases h0 : zs.length = 0
  · have : zs = [] := List.eq_nil_of_length_eq_zero h0
    subst this
    rw [if_pos h0]
    exact ⟨p, c, oid, h, by simp, by simpa using g, .inl rfl, Nat.le_refl _, fun _ _ _ => rfl, fun _ _ => rfl⟩
  rw [if_neg h0, hx]
  have hlen := flatMap_len hw
  have hlf := all_leaf hl
  unfold appRest
  have hc1 : ¬ ((zs.flatMap enc).length ≠ zs.length * sz ∨ (zs.flatMap enc).all V.leaf = false ∨ ys.length + zs.length > 2 ^ 47) := by
    rw [hlen, hlf]; simp; omega
  simp only []
  rw [if_neg hc1]
  have hw2 : ∀ y ∈ ys ++ zs, (enc y).length = sz := fun y hy => (List.mem_append.1 hy).elim (g.sl.width y) (hw y)
  have hl2 : ∀ y ∈ ys ++ zs, (enc y).all V.leaf = true := fun y hy => (List.mem_append.1 hy).elim (g.leaf y) (hl y)
  have hs2 : (ys ++ zs).length ≤ 140737488355328 := by rw [List.length_append]; exact hS
  have hnew : ∀ hh : Heap, hh.length = h.length → Gr b (hh ++ [.cells (ys.flatMap enc ++ zs.flatMap enc) (.gr sz)]) (some (h.length, 0)) none (some h.length) sz enc (ys ++ zs) := by
    intro hh hhl
    have hc : (hh ++ [O.cells (ys.flatMap enc ++ zs.flatMap enc) (.gr sz)])[h.length]? = some (.cells (ys.flatMap enc ++ zs.flatMap enc) (.gr sz)) := snoc_last _ hhl.symm
    refine ⟨.whole hc hw2 (by rw [List.flatMap_append]) hs2, .inr ⟨_, 0, _, _, rfl, rfl, hc, .inr ⟨rfl, rfl, ?_⟩⟩, fun id e => (by cases e; exact hb), hl2⟩
    rw [← List.flatMap_append, flatMap_len hw2]; omega
  have hgrow : ∀ s : V, firstV sz ys.length h s = some (ys.flatMap enc) → growV h sz bytes s ys.length zs.length (zs.flatMap enc) = some (.slice (some (h.length, 0)) (ys.length + zs.length) none, h ++ [.cells (ys.flatMap enc ++ zs.flatMap enc) (.gr sz)]) := by
    intro s hs
    unfold growV
    rw [if_neg (by omega), hs]
    simp only []
    rw [if_pos (all_leaf g.leaf)]
    simp
  rcases g.kind with ⟨rfl, rfl, ho⟩ | ⟨id, off, C, k, rfl, rfl, e3, e4⟩
  · have hy : ys = [] := g.sl.nil rfl
    simp only []
    rw [if_neg (by omega), hgrow _ (by subst hy; rfl)]
    exact ⟨_, _, _, _, by rw [List.length_append], hnew h rfl, .inr rfl, by simp, fun i _ hi => List.getElem?_append_left hi, fun i hi => List.getElem?_append_left (by omega)⟩
  · rcases e4 with ⟨rfl, hk⟩ | ⟨rfl, rfl, hend⟩
    · simp only []
      rw [if_neg (by omega), hgrow _ (by have := g.sl.first (some ys.length) (Nat.le_refl _) ys.length; rwa [List.take_of_length_le (Nat.le_refl _)] at this)]
      exact ⟨_, _, _, _, by rw [List.length_append], hnew h rfl, .inr rfl, by simp, fun i _ hi => List.getElem?_append_left hi, fun i hi => List.getElem?_append_left (by omega)⟩
    · simp only []
      unfold ontoV
      rw [if_neg (by omega), e3, g.sl.all rfl]
      simp only []
      rw [if_pos ⟨hend, all_leaf g.leaf, trivial⟩]
      have hlt := lt_of_some e3
      have hbi := g.base id rfl
      simp only [newC_eq, List.length_set]
      refine ⟨_, _, _, _, by rw [List.length_append], hnew (h.set id .dead) (by simp), .inr rfl, by simp, fun i hi hil => ?_, fun i hi => ?_⟩
      · rw [List.getElem?_append_left (by simpa using hil), List.getElem?_set_ne (fun e => hi (by rw [e]))]
      · rw [List.getElem?_append_left (by simp; omega), List.getElem?_set_ne (by omega)]
/-- What lies below b stays. -/
theorem Ext.below {h0 h hh : Heap} {b : Nat} (e : Ext h0 h) (hb : h0.length ≤ b) (hk : ∀ i, i < b → hh[i]? = h[i]?) : Ext h0 hh := ⟨fun i o hi => by
  have := lt_of_some hi
  rw [hk i (by omega)]; exact e _ _ hi⟩
/-- An element is stored to. -/
theorem Gr.store {α : Type} {b : Nat} {h : Heap} {p : Option (Nat × Nat)} {c oid : Option Nat} {sz : Nat} {enc : α → List V} {ys : List α} (g : Gr b h p c oid sz enc ys) {i : Nat} (hi : i < ys.length) {o : Nat} {vs : List V} (ho : o + vs.length ≤ sz) (hv : vs.all V.leaf = true) (y : α) (hy : enc y = splice (enc ys[i]) o vs) :
    ∃ h', storeN h (sid p) (fld (soff p + i * sz) o) vs = some h' ∧ Gr b h' p c oid sz enc (ys.set i y) ∧ h'.length = h.length ∧ (∀ j, oid ≠ some j → h'[j]? = h[j]?) ∧ (∀ j, j < b → h'[j]? = h[j]?) := by
  rcases g.kind with ⟨rfl, _, _⟩ | ⟨id, off, C, k, rfl, rfl, e3, e4⟩
  · have := g.sl.nil rfl; subst this; simp at hi
  obtain ⟨C', k', h1, h2, h3⟩ := g.sl.reads id off rfl
  rw [e3] at h1
  cases h1
  have hk : k ≠ .ro := by rcases e4 with ⟨_, q⟩ | ⟨_, rfl, _⟩
                          · exact q
                          · simp
  have hle : (i + 1) * sz ≤ ys.length * sz := Nat.mul_le_mul_right _ hi
  rw [Nat.add_mul, Nat.one_mul] at hle
  have hlt := lt_of_some e3
  have hwi := g.sl.width ys[i] (List.getElem_mem hi)
  have hsl : ∀ (cs : List V) (q : Nat), q + vs.length ≤ cs.length → (splice cs q vs).length = cs.length := fun cs q hq => by
    unfold splice; simp only [List.length_append, List.length_take, List.length_drop]; omega
  have hwy : (enc y).length = sz := by rw [hy, hsl _ _ (by omega), hwi]
  have hst : storeN h id (off + i * sz + o) vs = some (h.set id (.cells (splice C (off + i * sz + o) vs) k)) := storeN_of e3 hk (by omega) hv
  have hw2 : ∀ z ∈ ys.set i y, (enc z).length = sz := fun z hz => (List.mem_or_eq_of_mem_set hz).elim (g.sl.width z) fun e => by rw [e]; exact hwy
  have hc : (h.set id (O.cells (splice C (off + i * sz + o) vs) k))[id]? = some (.cells (splice C (off + i * sz + o) vs) k) := set_same _ hlt
  refine ⟨_, hst, ⟨⟨fun e => (by cases e), hw2, fun a b' e => ?_, by rw [List.length_set]; exact g.sl.small⟩, .inr ⟨id, off, _, k, rfl, rfl, hc, ?_⟩, g.base, ?_⟩, by simp, ?_, ?_⟩
  · cases e
    refine ⟨_, k, hc, by rw [List.length_set, hsl _ _ (by omega)]; exact h2, fun j z hz => ?_⟩
    rw [List.getElem?_set] at hz
    have hlj : ∀ {j : Nat} {z : α}, ys[j]? = some z → (j + 1) * sz ≤ ys.length * sz := fun hz => Nat.mul_le_mul_right _ (List.getElem?_eq_some_iff.1 hz).1
    split at hz
    · rename_i hij
      subst hij
      try rw [if_pos hi] at hz
      cases hz
      have h4 := h3 i ys[i] (List.getElem?_eq_getElem hi)
      rw [hy, ← h4]
      apply List.ext_getElem?
      intro q
      unfold splice
      simp only [List.getElem?_take, List.getElem?_drop, List.getElem?_append, List.length_take, List.length_append, List.length_drop]
      by_cases hq : q < sz
      · simp only [hq, if_true]
        by_cases h5 : q < o
        · rw [if_pos (by omega), if_pos (by omega), if_pos (by omega), if_pos (by omega), if_pos (by omega), if_pos (by omega)]
        · by_cases h6 : q < o + vs.length
          · rw [if_pos (by omega), if_neg (by omega), if_pos (by omega), if_neg (by omega)]
            congr 1; omega
          · rw [if_neg (by omega), if_neg (by omega), if_pos (by omega)]
            congr 1; omega
      · rw [if_neg hq]
        symm
        split
        · rename_i h7; split
          · rename_i h8; rw [if_neg (by omega)]
          · rw [List.getElem?_eq_none (by omega)]
        · rw [if_neg (by omega)]
    · rename_i hij
      have hz' := h3 j z hz
      rw [← hz']
      apply List.ext_getElem?
      intro q
      simp only [List.getElem?_take, List.getElem?_drop]
      by_cases hq : q < sz
      · rw [if_pos hq, if_pos hq]
        unfold splice
        have hjl := hlj hz
        rw [Nat.add_mul, Nat.one_mul] at hjl
        rcases Nat.lt_or_gt_of_ne hij with hlt' | hgt
        · have : (i + 1) * sz ≤ j * sz := Nat.mul_le_mul_right _ hlt'
          rw [Nat.add_mul, Nat.one_mul] at this
          rw [List.getElem?_append_right (by simp only [List.length_append, List.length_take]; omega), List.getElem?_drop]
          congr 1
          simp only [List.length_append, List.length_take]; omega
        · have : (j + 1) * sz ≤ i * sz := Nat.mul_le_mul_right _ hgt
          rw [Nat.add_mul, Nat.one_mul] at this
          rw [List.append_assoc, List.getElem?_append_left (by simp only [List.length_take]; omega), List.getElem?_take, if_pos (by omega)]
      · rw [if_neg hq, if_neg hq]
  · rw [List.length_set, hsl _ _ (by omega)]; exact e4
  · intro z hz
    rcases List.mem_or_eq_of_mem_set hz with e | e
    · exact g.leaf z e
    · rw [e, hy, List.all_eq_true]
      intro v hv'
      unfold splice at hv'
      simp only [List.mem_append] at hv'
      have hgl := g.leaf ys[i] (List.getElem_mem hi)
      rcases hv' with (hv' | hv') | hv'
      · exact List.all_eq_true.1 hgl v (List.mem_of_mem_take hv')
      · exact List.all_eq_true.1 hv v hv'
      · exact List.all_eq_true.1 hgl v (List.mem_of_mem_drop hv')
  · intro j hj; exact List.getElem?_set_ne (fun e => hj (by rw [e]))
  · intro j hj; have := g.base id rfl; exact List.getElem?_set_ne (by omega)
end Go.Proofs.YtcaolnmpldbkjaaGreatA
