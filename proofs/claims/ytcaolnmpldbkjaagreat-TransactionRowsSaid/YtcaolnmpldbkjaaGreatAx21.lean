/- Words of this session: heaps that grow; slices that are read; what a type's rules are. -/
import Derived.Test.YtcaolnmpldbkjaaGreatAx20
namespace Go.Proofs.YtcaolnmpldbkjaaGreatA
open Go Go.RowKit
set_option linter.unusedVariables false
set_option linter.unusedSimpArgs false

/-! ### heaps that grow -/
structure Ext (h hh : Heap) : Prop where
  get : ∀ (i : Nat) (o : O), h[i]? = some o → hh[i]? = some o
instance {h hh : Heap} : CoeFun (Ext h hh) (fun _ => ∀ (i : Nat) (o : O), h[i]? = some o → hh[i]? = some o) := ⟨Ext.get⟩
theorem Ext.refl (h : Heap) : Ext h h := ⟨fun _ _ x => x⟩
theorem Ext.trans {a b c : Heap} (x : Ext a b) (y : Ext b c) : Ext a c := ⟨fun i o h => y i o (x i o h)⟩
theorem lt_of_some {h : Heap} {i : Nat} {o : O} (e : h[i]? = some o) : i < h.length := (List.getElem?_eq_some_iff.1 e).1
theorem Ext.le {a b : Heap} (x : Ext a b) : a.length ≤ b.length := by
  rcases Nat.eq_zero_or_pos a.length with h | h
  · omega
  · have : a[a.length - 1]? = some a[a.length - 1] := List.getElem?_eq_getElem (by omega)
    have := lt_of_some (x _ _ this)
    omega
theorem Ext.app {a b : Heap} (x : Ext a b) (g : Heap) : Ext a (b ++ g) := ⟨fun i o h => by
  have h2 := x i o h
  rw [List.getElem?_append_left (lt_of_some h2)]; exact h2⟩
theorem Ext.set {a b : Heap} (x : Ext a b) {i : Nat} (hi : a.length ≤ i) (o : O) : Ext a (b.set i o) := ⟨fun j q h => by
  have := lt_of_some h
  rw [List.getElem?_set_ne (by omega)]; exact x j q h⟩
theorem snoc_last {h : Heap} {i : Nat} (o : O) (hi : i = h.length) : (h ++ [o])[i]? = some o := by subst hi; simp
theorem snoc_old {h : Heap} {i : Nat} (o : O) (hi : i < h.length) : (h ++ [o])[i]? = h[i]? := List.getElem?_append_left hi
theorem set_same {h : Heap} {i : Nat} (o : O) (hi : i < h.length) : (h.set i o)[i]? = some o := List.getElem?_set_self hi
theorem set_other {h : Heap} {i j : Nat} (o : O) (hi : ¬ j = i) : (h.set i o)[j]? = h[j]? := List.getElem?_set_ne (Ne.symm hi)
theorem set_last {h : Heap} {i : Nat} (x y : O) (hi : i = h.length) : (h ++ [x]).set i y = h ++ [y] := by subst hi; simp
theorem set_old {h : Heap} {i : Nat} (x y : O) (hi : i < h.length) : (h ++ [x]).set i y = h.set i y ++ [x] := List.set_append_left _ _ hi
theorem loadN_of {h : Heap} {id off n : Nat} {cs : List V} {k : Kd} (hh : h[id]? = some (.cells cs k)) (hl : off + n ≤ cs.length) : loadN h id off n = some ((cs.drop off).take n) := by
  unfold loadN; rw [hh]; simp [hl]
theorem storeN_of {h : Heap} {id off : Nat} {vs cs : List V} {k : Kd} (hh : h[id]? = some (.cells cs k)) (hk : k ≠ .ro) (hl : off + vs.length ≤ cs.length) (hv : vs.all V.leaf = true) : storeN h id off vs = some (h.set id (.cells (splice cs off vs) k)) := by
  unfold storeN; rw [hh]; simp only [hk, ne_eq, not_false_eq_true, hl, hv, and_self, if_true, forceL_eq, setK_eq]

def ldc (cs : List V) (off m : Nat) : Option (List V) := if off + m ≤ cs.length then some ((cs.drop off).take m) else none
theorem loadN_last {h : Heap} {cs : List V} {k : Kd} {i : Nat} (off m : Nat) (hi : i = h.length) : loadN (h ++ [.cells cs k]) i off m = ldc cs off m := by
  unfold loadN ldc; rw [snoc_last _ hi]
theorem loadN_old {h : Heap} {o : O} {i : Nat} (off m : Nat) (hi : i < h.length) : loadN (h ++ [o]) i off m = loadN h i off m := by
  unfold loadN; rw [snoc_old _ hi]
theorem loadN_set {h : Heap} {cs : List V} {k : Kd} {i : Nat} (off m : Nat) (hi : i < h.length) : loadN (h.set i (.cells cs k)) i off m = ldc cs off m := by
  unfold loadN ldc; rw [set_same _ hi]
theorem loadN_other {h : Heap} {o : O} {i j : Nat} (off m : Nat) (hi : ¬ i = j) : loadN (h.set j o) i off m = loadN h i off m := by
  unfold loadN; rw [set_other _ hi]
theorem loadN_fact {h : Heap} {cs : List V} {k : Kd} {i : Nat} (hf : h[i]? = some (.cells cs k)) (off m : Nat) : loadN h i off m = ldc cs off m := by
  unfold loadN ldc; rw [hf]
/-- The cells with vs from off on, where they may be so. -/
def stc (cs : List V) (off : Nat) (vs : List V) (f : List V → Heap) : Option Heap := if off + vs.length ≤ cs.length ∧ vs.all V.leaf = true then some (f (splice cs off vs)) else none
theorem stc_ok {cs : List V} {off : Nat} {vs : List V} {f : List V → Heap} (h1 : off + vs.length ≤ cs.length) (h2 : vs.all V.leaf = true) : stc cs off vs f = some (f (splice cs off vs)) := by
  simp [stc, h1, h2]
theorem storeN_fact {h : Heap} {cs : List V} {k : Kd} {i : Nat} (hf : h[i]? = some (.cells cs k)) (hk : k ≠ .ro) (off : Nat) (vs : List V) : storeN h i off vs = stc cs off vs fun cs => h.set i (.cells cs k) := by
  unfold storeN stc; rw [hf]; simp only [hk, ne_eq, not_false_eq_true, true_and, forceL_eq, setK_eq]
theorem storeN_last {h : Heap} {cs : List V} {i : Nat} (off : Nat) (vs : List V) (hi : i = h.length) : storeN (h ++ [.cells cs .rw]) i off vs = stc cs off vs fun cs => h ++ [.cells cs .rw] := by
  rw [storeN_fact (snoc_last _ hi) (by simp)]
  subst hi
  congr 1
  funext cs'
  simp
theorem storeN_old {h : Heap} {o : O} {i : Nat} (off : Nat) (vs : List V) (hi : i < h.length) : storeN (h ++ [o]) i off vs = (storeN h i off vs).map (· ++ [o]) := by
  unfold storeN
  rw [snoc_old _ hi]
  split
  · split
    · simp only [forceL_eq, setK_eq, Option.map_some, List.set_append_left _ _ hi]
    · rfl
  · rfl
theorem storeN_set {h : Heap} {cs : List V} {i : Nat} (off : Nat) (vs : List V) (hi : i < h.length) : storeN (h.set i (.cells cs .rw)) i off vs = stc cs off vs fun cs => h.set i (.cells cs .rw) := by
  rw [storeN_fact (set_same _ hi) (by simp)]
  congr 1
  funext cs'
  simp
theorem storeN_other {h : Heap} {o : O} {i j : Nat} (off : Nat) (vs : List V) (hi : ¬ i = j) : storeN (h.set j o) i off vs = (storeN h i off vs).map (·.set j o) := by
  unfold storeN
  rw [set_other _ hi]
  split
  · split
    · simp only [forceL_eq, setK_eq, Option.map_some]; rw [List.set_comm _ _ hi]
    · rfl
  · rfl
/-- A place o cells on. -/
def fld (a o : Nat) : Nat := a + o
theorem fld_fld (a o q : Nat) : fld (fld a o) q = fld a (o + q) := by simp [fld, Nat.add_assoc]
theorem fld_zero (o : Nat) : fld 0 o = o := by simp [fld]
/-! ### slices -/
def sid (p : Option (Nat × Nat)) : Nat := (p.getD (0, 0)).1
def soff (p : Option (Nat × Nat)) : Nat := (p.getD (0, 0)).2
theorem sid_some (a b : Nat) : sid (some (a, b)) = a := (rfl)
theorem soff_some (a b : Nat) : soff (some (a, b)) = b := (rfl)
/-- The slice at p, of as many elements as ys has, holds ys. -/
structure Sl {α : Type} (h : Heap) (p : Option (Nat × Nat)) (sz : Nat) (enc : α → List V) (ys : List α) : Prop where
  nil : p = none → ys = []
  width : ∀ y ∈ ys, (enc y).length = sz
  reads : ∀ a b, p = some (a, b) → ∃ C k, h[a]? = some (.cells C k) ∧ b + ys.length * sz ≤ C.length ∧ ∀ i y, ys[i]? = some y → (C.drop (b + i * sz)).take sz = enc y
  small : ys.length ≤ 140737488355328
theorem Sl.nil' {α : Type} {h : Heap} {p : Option (Nat × Nat)} {sz : Nat} {enc : α → List V} {ys : List α} (s : Sl h p sz enc ys) : p = none → ys.length = 0 := fun e => by rw [s.nil e]; rfl
theorem Sl.ext {α : Type} {h hh : Heap} {p : Option (Nat × Nat)} {sz : Nat} {enc : α → List V} {ys : List α} (s : Sl h p sz enc ys) (e : Ext h hh) : Sl hh p sz enc ys :=
  ⟨s.nil, s.width, fun a b hp => let ⟨C, k, h1, h2⟩ := s.reads a b hp; ⟨C, k, e _ _ h1, h2⟩, s.small⟩
/-- A block that holds the elements from its beginning. -/
theorem Sl.whole {α : Type} {h : Heap} {a sz : Nat} {enc : α → List V} {ys : List α} {C : List V} {k : Kd} (hc : h[a]? = some (.cells C k)) (hw : ∀ y ∈ ys, (enc y).length = sz) (hC : C = ys.flatMap enc) (hs : ys.length ≤ 140737488355328) : Sl h (some (a, 0)) sz enc ys := by
  have key : ∀ (ys : List α), (∀ y ∈ ys, (enc y).length = sz) → (ys.flatMap enc).length = ys.length * sz ∧ ∀ i y, ys[i]? = some y → ((ys.flatMap enc).drop (i * sz)).take sz = enc y := by
    intro ys
    induction ys with
    | nil => intro _; exact ⟨by simp, fun i y h => by simp at h⟩
    | cons x ys ih =>
      intro hw
      have hx := hw x (by simp)
      obtain ⟨h1, h2⟩ := ih fun y hy => hw y (by simp [hy])
      refine ⟨by rw [List.flatMap_cons, List.length_append, h1, hx, List.length_cons, Nat.add_mul]; omega, fun i y hy => ?_⟩
      rw [List.flatMap_cons]
      cases i with
      | zero =>
        simp only [List.getElem?_cons_zero, Option.some.injEq] at hy
        subst hy
        rw [Nat.zero_mul, List.drop_zero, List.take_left' hx]
      | succ i =>
        rw [List.drop_append, hx, List.drop_of_length_le (by rw [hx, Nat.add_mul]; omega), List.nil_append, show (i + 1) * sz - sz = i * sz by rw [Nat.add_mul]; omega]
        exact h2 i y (by simpa using hy)
  obtain ⟨h1, h2⟩ := key ys hw
  refine ⟨fun e => (by cases e), hw, fun a' b e => ?_, hs⟩
  cases e
  exact ⟨C, k, hc, by rw [hC, h1]; omega, fun i y hy => by rw [hC, Nat.zero_add]; exact h2 i y hy⟩
theorem Sl.load {α : Type} {h : Heap} {p : Option (Nat × Nat)} {sz : Nat} {enc : α → List V} {ys : List α} (s : Sl h p sz enc ys) {hh : Heap} (e : Ext h hh) {i : Nat} (hi : i < ys.length) {o m : Nat} (hm : o + m ≤ sz) :
    loadN hh (sid p) (fld (soff p + i * sz) o) m = some (((enc ys[i]).drop o).take m) := by
  unfold fld
  cases p with
  | none => have := s.nil' rfl; omega
  | some q =>
    obtain ⟨a, b⟩ := q
    obtain ⟨C, k, h1, h2, h3⟩ := s.reads a b rfl
    have h4 := h3 i ys[i] (List.getElem?_eq_getElem hi)
    have h5 := s.width ys[i] (List.getElem_mem hi)
    have h6 : (i + 1) * sz ≤ ys.length * sz := Nat.mul_le_mul_right _ hi
    rw [Nat.add_mul] at h6
    show loadN hh a (b + i * sz + o) m = _
    rw [loadN_of (e _ _ h1) (by omega), ← h4, List.drop_take, List.take_take, List.drop_drop, Nat.min_eq_left (by omega)]
theorem Sl.load0 {α : Type} {h : Heap} {p : Option (Nat × Nat)} {sz : Nat} {enc : α → List V} {ys : List α} (s : Sl h p sz enc ys) {hh : Heap} (e : Ext h hh) {i : Nat} (hi : i < ys.length) {m : Nat} (hm : m ≤ sz) :
    loadN hh (sid p) (soff p + i * sz) m = some ((enc ys[i]).take m) := by
  have := s.load e hi (o := 0) (m := m) (by omega)
  simpa [fld] using this

/-! ### values -/
theorem bytesOf_nil : bytesOf ⟨#[]⟩ = [] := (rfl)
theorem flat_agg (cs : List V) : V.flat (.agg cs) = cs := (rfl)
theorem flat_int (k : IntKind) (i : Int) : V.flat (.int k i) = [.int k i] := (rfl)
theorem flat_bool (b : Bool) : V.flat (.bool b) = [.bool b] := (rfl)
theorem flat_str (s : List Int) : V.flat (.str s) = [.str s] := (rfl)
theorem flat_ptr (p : Option (Nat × Nat)) : V.flat (.ptr p) = [.ptr p] := (rfl)
theorem flat_slice (p : Option (Nat × Nat)) (n : Nat) (c : Option Nat) : V.flat (.slice p n c) = [.slice p n c] := (rfl)
theorem flat_map (p : Option Nat) : V.flat (.map p) = [.map p] := (rfl)
theorem flat_func (f : FuncId) (a b : List V) : V.flat (.func f a b) = [.func f a b] := (rfl)
theorem leaf_int (k : IntKind) (i : Int) : V.leaf (.int k i) = true := (rfl)
theorem leaf_bool (b : Bool) : V.leaf (.bool b) = true := (rfl)
theorem leaf_str (s : List Int) : V.leaf (.str s) = true := (rfl)
theorem leaf_ptr (p : Option (Nat × Nat)) : V.leaf (.ptr p) = true := (rfl)
theorem leaf_slice (p : Option (Nat × Nat)) (n : Nat) (c : Option Nat) : V.leaf (.slice p n c) = true := (rfl)
theorem leaf_map (p : Option Nat) : V.leaf (.map p) = true := (rfl)
theorem leaf_func (f : FuncId) (a b : List V) : V.leaf (.func f a b) = true := (rfl)
def pickV (v : V) (x y : Option V) : Option V := match v with
  | .bool true => x
  | .bool false => y
  | _ => none
theorem pv_pick' (P : Program) (C : CallF) (h : Heap) (d : Option Tmp) (ty : TypeId) (pos : String) (after : Array Edge) (g : Option (Nat × Bool)) (t : List V) (c a b : Operand) :
    primV P C ⟨d, .pick c a b, ty, pos, after, g⟩ t h = (ev t c).bind fun v => (pickV v (ev t a) (ev t b)).map fun v => (v, h) := by
  show p_pick P t h c a b = _
  unfold p_pick pickV
  cases ev t c with
  | none => rfl
  | some v =>
    cases v <;> try rfl
    rename_i q; cases q <;> rfl
theorem pick_true (x y : Option V) : pickV (.bool true) x y = x := (rfl)
theorem pick_false (x y : Option V) : pickV (.bool false) x y = y := (rfl)
theorem bin_seql (P : Program) (ty : TypeId) (x y : Operand) (a b : List Int) : binV P .eql ty x y (.str a) (.str b) = some (.bool (decide (a = b))) := by
  simp only [binV, strV]; by_cases h : a = b <;> simp [h]
theorem bin_sneq (P : Program) (ty : TypeId) (x y : Operand) (a b : List Int) : binV P .neq ty x y (.str a) (.str b) = some (.bool (decide (¬ a = b))) := by
  simp only [binV, strV]; by_cases h : a = b <;> simp [h]
theorem bin_slss (P : Program) (ty : TypeId) (x y : Operand) (a b : List Int) : binV P .lss ty x y (.str a) (.str b) = some (.bool (lessL a b)) := by simp only [binV, strV]
/-! ### a type's rules -/
theorem ixa {P : Program} {t e : TypeId} {sz : Nat} (ht : P.underlying t = some (.slice e)) (hs : szT P e = some sz) {p : Option (Nat × Nat)} {n : Nat} {c : Option Nat} {k : IntKind} {i : Int} (hp : p = none → n = 0) (h0 : 0 ≤ i) (h1 : i < n) :
    indexAddrV P t (.slice p n c) (.int k i) = some (.ptr (some (sid p, soff p + i.toNat * sz))) := by
  cases p with
  | none => have := hp rfl; omega
  | some q =>
    obtain ⟨a, b⟩ := q
    simp only [indexAddrV, idxOf, ht, hs, h0, h1, and_self, if_true]; rfl
theorem index_str {P : Program} {t : TypeId} (ht : P.underlying t = some .string) {s : List Int} {k : IntKind} {i : Int} (h0 : 0 ≤ i) : indexV P t (.str s) (.int k i) = (s[i.toNat]?).map (.int .u8) := by
  simp only [indexV, idxOf, ht, h0, if_true]
theorem ixr {P : Program} {t e : TypeId} {sz len : Nat} (ht : P.underlying t = some (.array len e)) (hs : szT P e = some sz) {id off : Nat} {k : IntKind} {i : Int} (h0 : 0 ≤ i) (h1 : i < len) :
    indexAddrV P t (.ptr (some (id, off))) (.int k i) = some (.ptr (some (id, off + i.toNat * sz))) := by
  simp only [indexAddrV, idxOf, ht, hs, h0, h1, and_self, if_true]
theorem len_slice {P : Program} {t e : TypeId} (ht : P.underlying t = some (.slice e)) (p : Option (Nat × Nat)) (n : Nat) (c : Option Nat) (h : Heap) : lenB P t (.slice p n c) h = some (.int .i64 n) := by simp [lenB, ht]
theorem len_str {P : Program} {t : TypeId} (ht : P.underlying t = some .string) (s : List Int) (h : Heap) : lenB P t (.str s) h = some (.int .i64 s.length) := by simp [lenB, ht]
def fAt (P : Program) (s : TypeId) (f : Nat) : Option Nat := match fieldOf P s f with
  | some fd => match szT P fd.type with
    | some (_ + 1) => some fd.offset
    | _ => none
  | none => none
noncomputable def fAddrV (P : Program) (s : TypeId) (f : Nat) : V → Option V
  | .ptr (some (id, off)) => match fieldOf P s f with
    | some fd => match szT P fd.type with
      | some (n + 1) => some (.ptr (some (id, off + fd.offset)))
      | _ => none
    | none => none
  | _ => none
noncomputable def fieldV (P : Program) (s : TypeId) (f : Nat) : V → Option V
  | .agg cs => match fieldOf P s f with
    | some fd => partV P fd.type cs fd.offset
    | none => none
  | _ => none
theorem pv_fieldAddr' (P : Program) (C : CallF) (h : Heap) (d : Option Tmp) (ty : TypeId) (pos : String) (after : Array Edge) (g : Option (Nat × Bool)) (t : List V) (s : TypeId) (x : Operand) (f : Nat) :
    primV P C ⟨d, .fieldAddr s x f, ty, pos, after, g⟩ t h = (ev t x).bind fun v => (fAddrV P s f v).map fun v => (v, h) := by
  show p_fieldAddr P t h s x f = _
  unfold p_fieldAddr
  cases ev t x with
  | none => rfl
  | some v =>
    simp only [Option.bind_some]
    unfold fAddrV
    split
    · rename_i id off fd h1 h2
      simp only [Option.some.injEq] at h1; subst h1
      simp only [h2]
      cases szT P fd.type with
      | none => rfl
      | some m => cases m <;> rfl
    · rename_i hne
      split
      · rename_i id off
        cases hf : fieldOf P s f with
        | none => rfl
        | some fd => exact absurd hf (hne id off fd rfl)
      · rfl
theorem pv_field' (P : Program) (C : CallF) (h : Heap) (d : Option Tmp) (ty : TypeId) (pos : String) (after : Array Edge) (g : Option (Nat × Bool)) (t : List V) (s : TypeId) (x : Operand) (f : Nat) :
    primV P C ⟨d, .field s x f, ty, pos, after, g⟩ t h = (ev t x).bind fun v => (fieldV P s f v).map fun v => (v, h) := by
  show p_field P t h s x f = _
  unfold p_field
  cases ev t x with
  | none => rfl
  | some v =>
    simp only [Option.bind_some]
    unfold fieldV
    split
    · rename_i cs fd h1 h2
      simp only [Option.some.injEq] at h1; subst h1
      simp only [h2]
    · rename_i hne
      split
      · rename_i cs
        cases hf : fieldOf P s f with
        | none => rfl
        | some fd => exact absurd hf (hne cs fd rfl)
      · rfl
theorem fAddr_at {P : Program} {s : TypeId} {f o : Nat} (hf : fAt P s f = some o) (id off : Nat) : fAddrV P s f (.ptr (some (id, off))) = some (.ptr (some (id, fld off o))) := by
  unfold fAddrV fld
  unfold fAt at hf
  split at hf
  · rename_i fd hfd
    cases hm : szT P fd.type with
    | none => rw [hm] at hf; cases hf
    | some m =>
      rw [hm] at hf
      cases m with
      | zero => cases hf
      | succ m =>
        simp only [Option.some.injEq] at hf
        simp only [hfd, hm, hf]
  · cases hf
/-- A field's place and its type. -/
def fTy (P : Program) (s : TypeId) (f : Nat) : Option (Nat × Nat) := (fieldOf P s f).map fun fd => (fd.offset, fd.type)
theorem fieldV_one {P : Program} {s : TypeId} {f o e : Nat} (hf : fTy P s f = some (o, e)) (ha : aggT P e = some false) (cs : List V) : fieldV P s f (.agg cs) = cs[o]? := by
  unfold fieldV
  unfold fTy at hf
  cases hq : fieldOf P s f with
  | none => rw [hq] at hf; cases hf
  | some fd =>
    rw [hq] at hf
    simp only [Option.map_some, Option.some.injEq, Prod.mk.injEq] at hf
    obtain ⟨rfl, rfl⟩ := hf
    simp only [partV, ha]
theorem fieldV_agg {P : Program} {s : TypeId} {f o e n : Nat} (hf : fTy P s f = some (o, e)) (ha : aggT P e = some true) (hs : szT P e = some n) (cs : List V) : fieldV P s f (.agg cs) = some (.agg ((cs.drop o).take n)) := by
  unfold fieldV
  unfold fTy at hf
  cases hq : fieldOf P s f with
  | none => rw [hq] at hf; cases hf
  | some fd =>
    rw [hq] at hf
    simp only [Option.map_some, Option.some.injEq, Prod.mk.injEq] at hf
    obtain ⟨rfl, rfl⟩ := hf
    simp only [partV, ha, hs]
def placesT (P : Program) (t : TypeId) (i : Nat) : Option (Nat × Nat) := match P.underlying t with
  | some (.struct fs) => places P fs.toList i
  | _ => none
theorem build_as {P : Program} {t : TypeId} {z : List V} {fs : Array Field} (hz : zerosT P t = some z) (ht : P.underlying t = some (.struct fs)) (ha : (fs.toList.all fun f => (szT P f.type).isSome) = true) (parts : List (Nat × V)) :
    buildV P t parts = (fillV (placesT P t) z parts).map .agg := by
  have : places P fs.toList = placesT P t := funext fun i => by unfold placesT; rw [ht]
  unfold buildV
  simp only [hz, ht, ha, if_true, this]
def mapPut (k v : V) (id : Nat) (h : Heap) : Option O → Option Heap
  | some (.map es clock) => match findV k es 0 with
    | some (some (i, _, b)) => some (h.set id (.map (es.set i (k, v, b)) clock))
    | some none => some (h.set id (.map (es ++ [(k, v, clock)]) (clock + 1)))
    | none => none
  | _ => none
theorem mapUpdate_as {P : Program} {t kt et : TypeId} (ht : P.underlying t = some (.map kt et)) {k : V} (hk : keyOk P kt k = true) (id : Nat) (v : V) (h : Heap) : mapUpdateV P t (.map (some id)) k v h = mapPut k v id h h[id]? := by
  unfold mapUpdateV mapPut
  simp only [ht, hk, if_true]
  cases h[id]? with
  | none => rfl
  | some o => cases o <;> rfl
def mapGet (k z : V) (ok : Bool) : Option (List (V × V × Nat)) → Option V
  | some es => match findV k es 0 with
    | some (some (_, v, _)) => some (if ok then .tuple [v, .bool true] else v)
    | some none => some (if ok then .tuple [z, .bool false] else z)
    | none => none
  | none => none
def entsOf : Option O → Option (List (V × V × Nat))
  | some (.map es _) => some es
  | _ => none
theorem lookup_as {P : Program} {t kt et : TypeId} {z : V} (ht : P.underlying t = some (.map kt et)) (hz : zeroT P et = some z) {k : V} (hk : keyOk P kt k = true) (id : Nat) (ok : Bool) (h : Heap) : lookupV P t (.map (some id)) k ok h = mapGet k z ok (entsOf h[id]?) := by
  unfold lookupV mapGet entsOf
  simp only [ht, hk, if_true, hz]
  cases h[id]? with
  | none => rfl
  | some o => cases o <;> rfl
/-- One cell. -/
def load1 (h : Heap) (id off : Nat) : Option V := match loadN h id off 1 with
  | some [v] => some v
  | _ => none
theorem loadV_one {P : Program} {t : TypeId} (ha : aggT P t = some false) (h : Heap) (id off : Nat) : loadV P t h id off = load1 h id off := by
  unfold loadV load1; rw [ha]; cases szT P t <;> rfl
theorem loadV_agg {P : Program} {t : TypeId} {n : Nat} (ha : aggT P t = some true) (hs : szT P t = some n) (h : Heap) (id off : Nat) : loadV P t h id off = (loadN h id off n).map .agg := by
  unfold loadV; rw [ha, hs]
theorem storeV_as {P : Program} {t : TypeId} {n : Nat} (hs : szT P t = some n) (h : Heap) (id off : Nat) (v : V) : storeV P t h id off v = if v.flat.length = n then storeN h id off v.flat else none := by
  unfold storeV; rw [hs]
theorem zeros_as {P : Program} {t : TypeId} {z : List V} (hz : zerosT P t = some z) {tt : List V} {h : Heap} : p_alloc P tt h t = some (.ptr (some (h.length, 0)), h ++ [.cells z .rw]) := by
  unfold p_alloc; rw [hz]; simp
end Go.Proofs.YtcaolnmpldbkjaaGreatA
