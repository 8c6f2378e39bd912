/- Words of this session: facts of blocks that hold in every later heap; slices' copies. -/
import Derived.Test.YtcaolnmpldbkjaaGreatAx34
namespace Go.Proofs.YtcaolnmpldbkjaaGreatA
open Go Go.RowKit
set_option linter.unusedVariables false
set_option linter.unusedSimpArgs false
/-- A block of an earlier heap, loaded from a later one. -/
theorem ldx {h0 : Heap} {id : Nat} {cs : List V} {k : Kd} (hb : h0[id]? = some (.cells cs k)) {hh : Heap} (e : Ext h0 hh) (off n : Nat) : loadN hh id off n = ldc cs off n := by
  unfold loadN ldc; rw [e _ _ hb]
theorem Ext.of_keep {h hh : Heap} (hk : ∀ i, i < h.length → hh[i]? = h[i]?) : Ext h hh := ⟨fun i o hi => by rw [hk i (lt_of_some hi)]; exact hi⟩
theorem Sl.keep {α : Type} {h hh : Heap} {p : Option (Nat × Nat)} {sz : Nat} {enc : α → List V} {ys : List α} (s : Sl h p sz enc ys) (hk : ∀ a o, p = some (a, o) → hh[a]? = h[a]?) : Sl hh p sz enc ys :=
  ⟨s.nil, s.width, fun a b hp => let ⟨C, k, h1, h2⟩ := s.reads a b hp; ⟨C, k, by rw [hk a b hp]; exact h1, h2⟩, s.small⟩
theorem Sl.lt {α : Type} {h : Heap} {p : Option (Nat × Nat)} {sz : Nat} {enc : α → List V} {ys : List α} (s : Sl h p sz enc ys) {a o : Nat} (e : p = some (a, o)) : a < h.length := by
  obtain ⟨C, k, h1, _⟩ := s.reads a o e
  exact lt_of_some h1
/-- A slice of the call's own lies at its block. -/
theorem Gr.at {α : Type} {b : Nat} {h : Heap} {p : Option (Nat × Nat)} {c oid : Option Nat} {sz : Nat} {enc : α → List V} {ys : List α} (g : Gr b h p c oid sz enc ys) {a o : Nat} (e : p = some (a, o)) : oid = some a := by
  rcases g.kind with ⟨q, _⟩ | ⟨id, off, C, k, q, q2, _⟩
  · rw [q] at e; cases e
  · rw [q] at e; cases e; exact q2
/-- One element is appended. -/
theorem Gr.push {α : Type} {b : Nat} {h : Heap} {p : Option (Nat × Nat)} {c oid : Option Nat} {sz : Nat} {enc : α → List V} {ys : List α} (g : Gr b h p c oid sz enc ys) (hb : b ≤ h.length) {y : α} {q : Nat} {vc : Option Nat} {k : Kd} {bytes : Nat}
    (hq : h[q]? = some (.cells (enc y) k)) (hw : (enc y).length = sz) (hl : (enc y).all V.leaf = true) (hB : (ys.length + 1) * bytes ≤ 140737488355328) (hS : ys.length + 1 ≤ 140737488355328) :
    ∃ p' c' oid' h', apv sz bytes p ys.length c (.slice (some (q, 0)) 1 vc) 1 h = some (.slice p' (ys.length + 1) c', h') ∧ Gr b h' p' c' oid' sz enc (ys ++ [y]) ∧ (oid' = oid ∨ oid' = some h.length) ∧ (h.length ≤ h'.length) ∧ (∀ i, oid ≠ some i → i < h.length → h'[i]? = h[i]?) ∧ (∀ i, i < b → h'[i]? = h[i]?) := by
  have hf : firstV sz 1 h (.slice (some (q, 0)) 1 vc) = some ([y].flatMap enc) := by
    show loadN h q 0 (1 * sz) = _
    rw [loadN_of hq (by omega), List.drop_zero, Nat.one_mul, ← hw, List.take_length]; simp
  have := g.append hb (zs := [y]) (x := .slice (some (q, 0)) 1 vc) (n := 1) (bytes := bytes) rfl hf (by simpa using hw) (by simpa using hl) (by simpa using hB) (by simpa using hS)
  simpa only [List.length_append, List.length_cons, List.length_nil, Nat.zero_add] using this
/-- A copy of a slice, appended to an empty one. -/
theorem clone_app {α : Type} {h : Heap} {p : Option (Nat × Nat)} {c : Option Nat} {sz bytes : Nat} {enc : α → List V} {ys : List α} (s : Sl h p sz enc ys) {q : Nat} (hq : h[q]? = some (.cells [] .rw)) {b : Nat} (hb : b ≤ q) (hl : ∀ y ∈ ys, (enc y).all V.leaf = true) (hB : ys.length * bytes ≤ 140737488355328) :
    ∃ p' c' oid' h', apv sz bytes (some (q, 0)) 0 (some 0) (.slice p ys.length c) ys.length h = some (.slice p' ys.length c', h') ∧ Gr b h' p' c' oid' sz enc ys ∧ (oid' = some q ∨ oid' = some h.length) ∧ (h.length ≤ h'.length) ∧ (∀ i, i ≠ q → i < h.length → h'[i]? = h[i]?) := by
  have hf := s.first c (Nat.le_refl _) ys.length
  rw [List.take_of_length_le (Nat.le_refl _)] at hf
  have hlt := lt_of_some hq
  obtain ⟨p', c', oid, h2, hap, gr, ho, hle, hk1, hk2⟩ := Gr.append (b := b) (ys := ([] : List α)) (zs := ys) (n := ys.length) (bytes := bytes) (sz := sz) (enc := enc) (Gr.built (C := []) hq rfl hb (by simp) (by simp) (by simp) (n := 0) rfl) (by omega) rfl hf s.width hl (by simpa using hB) (by simpa using s.small)
  simp only [List.nil_append, List.length_nil] at hap gr
  exact ⟨p', c', oid, h2, hap, gr, ho, hle, fun i hi hl => hk1 i (fun e => hi (by cases e; rfl)) hl⟩
/-- An element of a slice, whole or in part, in a later heap. -/
theorem Sl.ld {α : Type} {h : Heap} {p : Option (Nat × Nat)} {sz : Nat} {enc : α → List V} {ys : List α} (s : Sl h p sz enc ys) :
    (∀ {hh : Heap} (_ : Ext h hh) {i : Nat} (hi : i < ys.length) {o m : Nat} (_ : o + m ≤ sz), loadN hh (sid p) (fld (soff p + i * sz) o) m = some (((enc ys[i]).drop o).take m)) ∧
    (∀ {hh : Heap} (_ : Ext h hh) {i : Nat} (hi : i < ys.length) {m : Nat} (_ : m ≤ sz), loadN hh (sid p) (soff p + i * sz) m = some ((enc ys[i]).take m)) :=
  ⟨fun e _ hi _ _ hm => s.load e hi hm, fun e _ hi _ hm => s.load0 e hi hm⟩
/-- The block of a slice that is read stays as it is. -/
theorem Sl.so {α : Type} {h : Heap} {p : Option (Nat × Nat)} {sz : Nat} {enc : α → List V} {ys : List α} (s : Sl h p sz enc ys) {i : Nat} (hi : i < ys.length) {a b : Heap} (e : Ext h a) (e2 : Ext a b) : sameO a[sid p]? b[sid p]? = true := by
  cases p with
  | none => have := s.nil' rfl; omega
  | some q =>
    obtain ⟨id, o⟩ := q
    obtain ⟨C, k, h1, _⟩ := s.reads id o rfl
    show sameO a[id]? b[id]? = true
    rw [e _ _ h1, e2 _ _ (e _ _ h1)]; exact sameO_refl _
section
variable {P : Program} {H : Hooks} {n : Nat}
/-- A part of the code that is left through one door: what it hands on is told. -/
theorem wpc_cutT {a : Code} {Q : Post} {τ : Tp} {h : Heap} (M : Tp → Heap → Prop) (h1 : wpc P H n a (thenQ M Q) τ h) (h2 : ∀ τ h, M τ h → Q .norm τ h) : wpc P H n a Q τ h :=
  wpc_mono a _ _ (fun e τ h => by cases e <;> first | exact h2 τ h | exact id) τ h h1
end
end Go.Proofs.YtcaolnmpldbkjaaGreatA
