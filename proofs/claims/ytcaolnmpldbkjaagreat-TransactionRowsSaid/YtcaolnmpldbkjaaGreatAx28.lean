/- Words of this session: more rules of types: equality, conversion, cutting, copying, making. -/
import Derived.Test.YtcaolnmpldbkjaaGreatAx27
namespace Go.Proofs.YtcaolnmpldbkjaaGreatA
open Go Go.RowKit
set_option linter.unusedVariables false
set_option linter.unusedSimpArgs false
section
variable {P : Program}
/-! ### equality -/
theorem eqFs_nil (d : Nat) (xs ys : List V) : eqFs P d [] xs ys = some true := by cases d <;> rfl
theorem eqFs_cons (d : Nat) (f : Field) (fs : List Field) (xs ys : List V) (hn : ¬ f.name = "_") : eqFs P (d + 1) (f :: fs) xs ys = match partV P f.type xs f.offset, partV P f.type ys f.offset with
    | some a, some b => match eqT P d f.type a b with
      | some true => eqFs P d fs xs ys
      | r => r
    | _, _ => none := by
  simp only [eqFs, hn, if_false]
  cases partV P f.type xs f.offset with
  | none => rfl
  | some a => cases partV P f.type ys f.offset with
    | none => rfl
    | some b => rfl
theorem eqT_struct {t : TypeId} {fs : Array Field} (ht : P.underlying t = some (.struct fs)) (hs : P.stoodInHeld t = false) (d : Nat) (xs ys : List V) : eqT P (d + 1) t (.agg xs) (.agg ys) = eqFs P d fs.toList xs ys := by
  simp only [eqT, ht, hs]; rfl
theorem eqT_int {t : TypeId} {k0 : IntKind} (ht : P.underlying t = some (.int k0)) {d : Nat} (hd : 1 ≤ d) (k : IntKind) (a b : Int) : eqT P d t (.int k a) (.int k b) = some (decide (a = b)) := by
  obtain ⟨e, rfl⟩ : ∃ e, d = e + 1 := ⟨d - 1, by omega⟩
  simp only [eqT, ht, if_true]; congr 1
theorem eqT_str {t : TypeId} (ht : P.underlying t = some .string) {d : Nat} (hd : 1 ≤ d) (a b : List Int) : eqT P d t (.str a) (.str b) = some (decide (a = b)) := by
  obtain ⟨e, rfl⟩ : ∃ e, d = e + 1 := ⟨d - 1, by omega⟩
  simp only [eqT, ht]; by_cases h : a = b <;> simp [h]
theorem eqT_bool {t : TypeId} (ht : P.underlying t = some .bool) {d : Nat} (hd : 1 ≤ d) (a b : Bool) : eqT P d t (.bool a) (.bool b) = some (decide (a = b)) := by
  obtain ⟨e, rfl⟩ : ∃ e, d = e + 1 := ⟨d - 1, by omega⟩
  simp only [eqT, ht]; by_cases h : a = b <;> simp [h]
theorem eq_and (p q : Prop) [Decidable p] [Decidable q] : (match some (decide p) with
    | some true => some (decide q)
    | r => r) = some (decide (p ∧ q)) := by by_cases h : p <;> simp [h]
theorem eq_last (p : Prop) [Decidable p] : (match some (decide p) with
    | some true => some true
    | r => r) = some (decide p) := by by_cases h : p <;> simp [h]
theorem partV_one {t : TypeId} (ha : aggT P t = some false) (cs : List V) (off : Nat) : partV P t cs off = cs[off]? := by unfold partV; rw [ha]
theorem partV_agg {t : TypeId} {n : Nat} (ha : aggT P t = some true) (hs : szT P t = some n) (cs : List V) (off : Nat) : partV P t cs off = some (.agg ((cs.drop off).take n)) := by unfold partV; rw [ha, hs]
theorem bin_eql_agg {t : TypeId} (hg : (!P.eqGuardType P.depth t) = true) (x y : Operand) (a b : List V) : binV P .eql t x y (.agg a) (.agg b) = (eqT P 40 t (.agg a) (.agg b)).map .bool := by
  unfold binV; simp only [guardV, hg, if_true]
theorem bin_neq_agg {t : TypeId} (hg : (!P.eqGuardType P.depth t) = true) (x y : Operand) (a b : List V) : binV P .neq t x y (.agg a) (.agg b) = (eqT P 40 t (.agg a) (.agg b)).map fun r => .bool !r := by
  unfold binV; simp only [guardV, hg, if_true]
theorem bin_eql_bool {t : TypeId} (ht : P.underlying t = some .bool) (x y : Operand) (a b : Bool) : binV P .eql t x y (.bool a) (.bool b) = some (.bool (decide (a = b))) := by
  unfold binV; simp only [guardV, if_true, eqT_bool ht (by decide : 1 ≤ 40), Option.map_some]
theorem bin_neq_bool {t : TypeId} (ht : P.underlying t = some .bool) (x y : Operand) (a b : Bool) : binV P .neq t x y (.bool a) (.bool b) = some (.bool (decide (¬ a = b))) := by
  unfold binV; simp only [guardV, if_true, eqT_bool ht (by decide : 1 ≤ 40), Option.map_some, not_dec]
theorem bin_eql_nils {t e : TypeId} (ht : P.underlying t = some (.slice e)) (x y : Operand) (p : Option (Nat × Nat)) (n : Nat) (c : Option Nat) : binV P .eql t x y (.slice p n c) (.slice none 0 (some 0)) = some (.bool (decide (p = none))) := by
  unfold binV; simp only [guardV, if_true]; simp only [eqT, ht]; cases p <;> simp [eqT, ht]
theorem bin_neq_nils {t e : TypeId} (ht : P.underlying t = some (.slice e)) (x y : Operand) (p : Option (Nat × Nat)) (n : Nat) (c : Option Nat) : binV P .neq t x y (.slice p n c) (.slice none 0 (some 0)) = some (.bool (decide (¬ p = none))) := by
  unfold binV; simp only [guardV, if_true]; simp only [eqT, ht]; cases p <;> simp [eqT, ht]
theorem bin_eql_nilp {t e : TypeId} (ht : P.underlying t = some (.pointer e)) (x y : Operand) (p : Option (Nat × Nat)) : binV P .eql t x y (.ptr p) (.ptr none) = some (.bool (decide (p = none))) := by
  unfold binV; simp only [guardV, if_true]; simp only [eqT, ht]; cases p <;> simp [eqT, ht]
theorem bin_neq_nilp {t e : TypeId} (ht : P.underlying t = some (.pointer e)) (x y : Operand) (p : Option (Nat × Nat)) : binV P .neq t x y (.ptr p) (.ptr none) = some (.bool (decide (¬ p = none))) := by
  unfold binV; simp only [guardV, if_true]; simp only [eqT, ht]; cases p <;> simp [eqT, ht]
/-! ### conversion -/
def eb (b : Int) : List V := [.int .u8 b]
theorem bytesIn_eb : ∀ {s : List Int}, (∀ b ∈ s, 0 ≤ b ∧ b < 256) → bytesIn (s.flatMap eb) = some s
  | [], _ => rfl
  | b :: s, h => by
    have hb := h b (by simp)
    simp only [List.flatMap_cons, eb, List.singleton_append, bytesIn, hb, and_self, if_true]
    have := bytesIn_eb (s := s) fun c hc => h c (by simp [hc])
    show Option.map _ (bytesIn (List.flatMap eb s)) = _
    rw [this]; rfl
theorem conv_int {src dst : TypeId} {d : TypeDesc} {k' : IntKind} (hs : P.underlying src = some d) (hd : P.underlying dst = some (.int k')) (k : IntKind) (n : Int) (h : Heap) : convV P src dst (.int k n) h = some (.int k' (k'.wrap n), h) := by
  unfold convV; simp only [hs, hd]
theorem conv_str {src dst : TypeId} {d : TypeDesc} (hs : P.underlying src = some d) (hd : P.underlying dst = some .string) (s : List Int) (h : Heap) : convV P src dst (.str s) h = some (.str s, h) := by
  unfold convV; simp only [hs, hd]
theorem conv_bs {src dst e : TypeId} (hs : P.underlying src = some (.slice e)) (he : P.underlying e = some (.int .u8)) (hd : P.underlying dst = some .string) {p : Option (Nat × Nat)} {c : Option Nat} {h h0 : Heap} {s : List Int} (sl : Sl h0 p 1 eb s) (hx : Ext h0 h) (hb : ∀ b ∈ s, 0 ≤ b ∧ b < 256) : convV P src dst (.slice p s.length c) h = some (.str s, h) := by
  have sl := sl.ext hx
  unfold convV
  simp only [hs, hd, he]
  cases p with
  | none => rw [sl.nil rfl]
  | some q =>
    obtain ⟨a, b⟩ := q
    have := sl.all rfl
    rw [Nat.mul_one] at this
    simp only [this, bytesIn_eb hb, Option.map_some]
theorem conv_sb {src dst e : TypeId} {d : TypeDesc} (hs : P.underlying src = some d) (hd : P.underlying dst = some (.slice e)) (he : P.underlying e = some (.int .u8)) (s : List Int) (h : Heap) : convV P src dst (.str s) h = some (.slice (some (h.length, 0)) s.length none, h ++ [.cells (s.map (.int .u8)) (.gr 1)]) := by
  unfold convV; simp only [hs, hd, he, newC_eq]
theorem map_eb (s : List Int) : s.map (V.int .u8) = s.flatMap eb := by induction s with
  | nil => rfl
  | cons b s ih => rw [List.map_cons, ih, List.flatMap_cons]; rfl
/-! ### cutting -/
theorem slice_as {t e : TypeId} {n : Nat} (ht : P.underlying t = some (.slice e)) (hs : szT P e = some n) (h : Heap) (p : Option (Nat × Nat)) (len : Nat) (cap : Option Nat) (lo hi mx : Option V) : sliceOp P h t (.slice p len cap) lo hi mx = sliceV h n p len cap lo hi mx := by
  unfold sliceOp; simp only [ht, hs]
theorem slice_arr {t e : TypeId} {n len : Nat} (ht : P.underlying t = some (.array len e)) (hs : szT P e = some n) (h : Heap) (id off : Nat) (lo hi mx : Option V) : sliceOp P h t (.ptr (some (id, off))) lo hi mx = sliceV h n (some (id, off)) len (some len) lo hi mx := by
  unfold sliceOp; simp only [ht, hs]
/-- A part of a string. -/
def strCut (s : List Int) (lo hi : Option V) : Option V := match boundV hi s.length s.length with
  | some hh => match boundV lo 0 hh with
    | some l => some (.str ((s.take hh).drop l))
    | none => none
  | none => none
theorem slice_str {t : TypeId} (ht : P.underlying t = some .string) (h : Heap) (s : List Int) (lo hi : Option V) : sliceOp P h t (.str s) lo hi none = strCut s lo hi := by
  unfold sliceOp strCut; simp only [ht]; cases boundV hi s.length s.length <;> rfl
theorem strCut_in {s : List Int} {k k' : IntKind} {a b : Int} (h0 : 0 ≤ a) (hab : a ≤ b) (hb : b ≤ s.length) : strCut s (some (.int k a)) (some (.int k' b)) = some (.str ((s.take b.toNat).drop a.toNat)) := by
  unfold strCut; simp only [boundV]; rw [if_pos ⟨by omega, hb⟩]; simp only []; rw [if_pos ⟨h0, by omega⟩]
theorem strCut_lo {s : List Int} {k : IntKind} {a : Int} (h0 : 0 ≤ a) (hb : a ≤ s.length) : strCut s (some (.int k a)) none = some (.str (s.drop a.toNat)) := by
  unfold strCut; simp only [boundV]; rw [if_pos ⟨h0, hb⟩]; simp
theorem strCut_hi {s : List Int} {k : IntKind} {b : Int} (h0 : 0 ≤ b) (hb : b ≤ s.length) : strCut s none (some (.int k b)) = some (.str (s.take b.toNat)) := by
  unfold strCut; simp only [boundV]; rw [if_pos ⟨h0, hb⟩]; simp
/-! ### copying -/
noncomputable def cpv (size : Nat) (p : Option (Nat × Nat)) (dlen : Nat) (x : V) (xl : Nat) (h : Heap) : Option (V × Heap) :=
  match firstV size (Nat.min xl dlen) h x with
  | some cs => match p with
    | some (id, off) => if cs = [] then some (.int .i64 (Nat.min xl dlen), h) else (storeN h id off cs).map fun h' => (.int .i64 (Nat.min xl dlen), h')
    | none => some (.int .i64 (Nat.min xl dlen), h)
  | none => none
theorem copy_as {dt e : TypeId} {size : Nat} (he : elemT P dt = some e) (hs : szT P e = some size) (p : Option (Nat × Nat)) (len : Nat) (cap : Option Nat) (h : Heap) :
    (∀ q n c, copyV P dt (.slice p len cap) (.slice q n c) h = cpv size p len (.slice q n c) n h) ∧ ∀ s, copyV P dt (.slice p len cap) (.str s) h = cpv size p len (.str s) s.length h := by
  constructor
  · intro q n c; unfold copyV cpv; simp only [he, hs, lenV]; rfl
  · intro s; unfold copyV cpv; simp only [he, hs, lenV]; rfl
/-! ### making -/
theorem build_arr {t e : TypeId} {n sz : Nat} {z : List V} (hz : zerosT P t = some z) (ht : P.underlying t = some (.array n e)) (hs : szT P e = some sz) (parts : List (Nat × V)) : buildV P t parts = (fillV (fun i => some (i * sz, sz)) z parts).map .agg := by
  unfold buildV; simp only [hz, ht, hs]
theorem makeSlice_as {t e : TypeId} {bytes : Nat} {z : List V} (he : elemT P t = some e) (hb : byT P e = some bytes) (hz : zerosT P e = some z) {k k' : IntKind} {l c : Int} (h : Heap) (h0 : 0 ≤ l) (hlc : l ≤ c) (hc : c ≤ 9223372036854775807) (hB : (bytes : Int) * c ≤ 281474976710656) :
    makeSliceV P t (.int k l) (.int k' c) h = some (.slice (some (h.length, 0)) l.toNat (some c.toNat), h ++ [.cells (reps c.toNat z) .rw]) := by
  unfold makeSliceV
  simp only [he, hb, hz]
  rw [wrap_in (by omega) (by omega), wrap_in (by omega) (by omega), if_neg (by simp; omega)]
  simp
end
theorem Gr.muts {α : Type} {b : Nat} {h : Heap} {p : Option (Nat × Nat)} {c oid : Option Nat} {sz : Nat} {enc : α → List V} {ys : List α} (g : Gr b h p c oid sz enc ys) (x : V) (f : Nat → Bool) (hf : ∀ id, oid = some id → f id = true) : (touchApp (.slice p ys.length c) x).2.all f = true := by
  rcases g.kind with ⟨rfl, rfl, _⟩ | ⟨i, off, C, k, rfl, e2, e3, e4⟩
  · unfold touchApp
    cases lenV x with
    | none => rfl
    | some n => simp only; split <;> rfl
  · rcases e4 with ⟨rfl, _⟩ | ⟨rfl, _, _⟩
    · rw [touchApp_full]; rfl
    · exact touchApp_open _ _ _ _ _ (hf i e2)
theorem Gr.store0 {α : Type} {b : Nat} {h : Heap} {p : Option (Nat × Nat)} {c oid : Option Nat} {sz : Nat} {enc : α → List V} {ys : List α} (g : Gr b h p c oid sz enc ys) {i : Nat} (hi : i < ys.length) (y : α) (hw : (enc y).length = sz) (hv : (enc y).all V.leaf = true) :
    ∃ h', storeN h (sid p) (soff p + i * sz) (enc y) = some h' ∧ Gr b h' p c oid sz enc (ys.set i y) ∧ h'.length = h.length ∧ (∀ j, oid ≠ some j → h'[j]? = h[j]?) ∧ (∀ j, j < b → h'[j]? = h[j]?) := by
  have := g.store hi (o := 0) (vs := enc y) (by omega) hv y (by
    have h1 := g.sl.width ys[i] (List.getElem_mem hi)
    unfold splice
    rw [List.take_zero, List.nil_append, Nat.zero_add, hw, List.drop_of_length_le (by omega), List.append_nil])
  simpa [fld] using this
theorem Sl.loadz {α : Type} {h : Heap} {a sz : Nat} {enc : α → List V} {ys : List α} (s : Sl h (some (a, 0)) sz enc ys) {hh : Heap} (e : Ext h hh) {i : Nat} (hi : i < ys.length) {o m : Nat} (hm : o + m ≤ sz) : loadN hh a (fld (i * sz) o) m = some (((enc ys[i]).drop o).take m) := by
  have := s.load e hi hm
  simpa [sid, soff] using this
theorem Sl.loadz0 {α : Type} {h : Heap} {a sz : Nat} {enc : α → List V} {ys : List α} (s : Sl h (some (a, 0)) sz enc ys) {hh : Heap} (e : Ext h hh) {i : Nat} (hi : i < ys.length) {m : Nat} (hm : m ≤ sz) : loadN hh a (i * sz) m = some ((enc ys[i]).take m) := by
  have := s.load0 e hi hm
  simpa [sid, soff] using this
end Go.Proofs.YtcaolnmpldbkjaaGreatA
