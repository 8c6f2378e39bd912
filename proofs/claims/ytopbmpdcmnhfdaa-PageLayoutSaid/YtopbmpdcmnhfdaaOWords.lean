/- Words of this session: an argument of whatever plain type (numbers, bools, strings, slices and structs of these, nested) as it is read by a row, told as one of the printer's kinds. -/
import Derived.Test.YtopbmpdcmnhfdaaHWords
import Derived.ProofKit
import Derived.OpenShut
import Derived.ShutString
import Derived.ChangeOld
import Derived.SizedLaws
import Derived.ChangeArms
import Derived.Deep.Slices
import Derived.WideShapes
namespace Go.Proofs.YtopbmpdcmnhfdaaH
open Go.RowKit Go.Proofs.YtopbmpdcmnhfdaaW.PrintWords Go.Proofs.YtopbmpdcmnhfdaaW.PrintLast Go.Proofs.YtopbmpdcmnhfdaaW.PrintMore
set_option linter.unusedVariables false

/-- What a type's readings are, told by a kind; G: what is known of each. -/
structure Opens {α : Type} (P : Program) (t : TypeId) (d : Kd α) (G : α → Prop) : Prop where
  sz : P.cellsOf t = d.sz
  reads : ∀ {H : Type} {enc : TypeId × Value → H} {w : World} {fuel : Nat} {cs : List Value} {x : DataW H × List MemPlace},
    DataW.trod enc P w 0 (fun _ => true) true fuel t cs = some x → (x.1.weights P t).all (· ≤ reachBytes) = true → ∃ y : α, d.K w y cs ∧ G y
theorem Opens.int {P : Program} {t : TypeId} {k : IntKind} (ht : P.underlying t = some (.int k)) (hc : P.cellsOf t = 1) : Opens P t (Kd.int k) (fun y => (Lit.int k y).wf = true) :=
  ⟨hc, fun h _ => by
    obtain ⟨n, rfl, _, hw⟩ := DataW.trod_int ht h
    exact ⟨n, rfl, hw⟩⟩
theorem Opens.bool {P : Program} {t : TypeId} (ht : P.underlying t = some .bool) (hc : P.cellsOf t = 1) : Opens P t Kd.bool (fun _ => True) :=
  ⟨hc, fun h _ => by
    obtain ⟨b, rfl, _⟩ := DataW.trod_bool ht h
    exact ⟨b, rfl, trivial⟩⟩
theorem Opens.string {P : Program} {t : TypeId} (ht : P.underlying t = some .string) (hc : P.cellsOf t = 1) : Opens P t Kd.string (fun s => s.size ≤ 140737488351232) :=
  ⟨hc, fun h hs => by
    obtain ⟨s, rfl, rfl, _⟩ := DataW.trod_string ht h
    refine ⟨s, rfl, ?_⟩
    simp only [DataW.weights, List.all_cons, List.all_nil, Bool.and_true, decide_eq_true_eq] at hs
    rw [data_length] at hs
    exact hs⟩
theorem weightsAll_get {H : Type} {P : Program} {e : TypeId} : ∀ {ds : List (DataW H)} {i : Nat} {d : DataW H}, (DataW.weightsAll P e ds).all (· ≤ reachBytes) = true → ds[i]? = some d → (d.weights P e).all (· ≤ reachBytes) = true
  | [], _, _, _, h => by simp at h
  | d' :: r, 0, d, hs, h => by
    simp only [List.getElem?_cons_zero, Option.some.injEq] at h
    subst h
    simp only [DataW.weightsAll, List.all_append, Bool.and_eq_true] at hs
    exact hs.1
  | d' :: r, i + 1, d, hs, h => by
    simp only [List.getElem?_cons_succ] at h
    simp only [DataW.weightsAll, List.all_append, Bool.and_eq_true] at hs
    exact weightsAll_get hs.2 h
theorem list_of_index {α : Type} (n : Nat) (p : Nat → α → Prop) (h : ∀ i, i < n → ∃ y, p i y) : ∃ ys : List α, ys.length = n ∧ ∀ i y, ys[i]? = some y → p i y := by
  induction n with
  | zero => exact ⟨[], rfl, fun i y hy => by simp at hy⟩
  | succ n ih =>
    obtain ⟨ys, hl, hy⟩ := ih (fun i hi => h i (by omega))
    obtain ⟨y, hyn⟩ := h n (by omega)
    refine ⟨ys ++ [y], by simp [hl], fun i z hz => ?_⟩
    rcases Nat.lt_or_ge i ys.length with hi | hi
    · rw [List.getElem?_append_left hi] at hz
      exact hy i z hz
    · rw [List.getElem?_append_right hi] at hz
      have : i - ys.length = 0 := by
        rcases Nat.eq_zero_or_pos (i - ys.length) with h0 | h0
        · exact h0
        · rw [List.getElem?_eq_none (by simp; omega)] at hz; cases hz
      rw [this] at hz
      simp at hz
      subst hz
      rw [show i = n by omega]
      exact hyn
theorem cells_at {w : World} {base n : Nat} {a : Addr} {cs : List Value} (h : w.cells? base a n = some cs) : cs.length = n ∧ ∀ i u, cs[i]? = some u → w.cell? (a.add i) = some u := by
  obtain ⟨_, hl, hc⟩ := World.cells?_some h
  refine ⟨hl, fun i u hu => ?_⟩
  have hi : i < n := by rcases Nat.lt_or_ge i cs.length with h1 | h1; · omega
                        · rw [List.getElem?_eq_none h1] at hu; cases hu
  rw [hc i hi, hu]
theorem Opens.slice {α : Type} {P : Program} {t e : TypeId} {d : Kd α} {G : α → Prop} (ht : P.underlying t = some (.slice e)) (hc : P.cellsOf t = 1) {B : Nat} (hB : P.bytesOf e = B) (h : Opens P e d G) :
    Opens P t (Kd.slice e d) (fun ys => ys.length ≤ maxLen ∧ ys.length * B ≤ 140737488351232 ∧ ∀ y ∈ ys, G y) :=
  ⟨hc, fun {H enc w fuel cs x} hx hs => by
    rcases DataW.trod_slice ht hx with ⟨rfl, rfl⟩ | ⟨a, len, cap, elems, rest, n, _, rfl, rfl, _, hlc, hcm, hel, hat, _, _⟩
    · exact ⟨[], ⟨none, 0, rfl, Nat.le_refl _, Kd.C_nil d w⟩, by simp, by simp, by simp⟩
    · simp only [DataW.weights, ht, List.all_cons, List.all_append, Bool.and_eq_true, decide_eq_true_eq, List.length_map] at hs
      have each : ∀ i, i < len → ∃ y : α, G y ∧ ∃ c, c.length = d.sz ∧ d.K w y c ∧ ∀ j u, c[j]? = some u → w.cell? (a.add (i * d.sz + j)) = some u := by
        intro i hi
        have h1 := hat i hi
        obtain ⟨z, hz⟩ : ∃ z, elems[i]? = some z := ⟨_, List.getElem?_eq_getElem (by omega)⟩
        rw [hz] at h1
        obtain ⟨c, hc1, hc2⟩ := Option.bind_eq_some_iff.1 h1
        obtain ⟨hl, hcell⟩ := cells_at hc1
        have hw : (z.1.weights P e).all (· ≤ reachBytes) = true := weightsAll_get (i := i) hs.2.1 (by rw [List.getElem?_map, hz]; rfl)
        obtain ⟨y, hK, hG⟩ := h.reads hc2 hw
        rw [h.sz] at hl
        refine ⟨y, hG, c, hl, hK, fun j u hu => ?_⟩
        have := hcell j u hu
        rw [h.sz] at this
        rwa [Addr.add_add] at this
      obtain ⟨ys, hyl, hy⟩ := list_of_index len _ each
      refine ⟨ys, ⟨some a, cap, by rw [hyl], by omega, ?_⟩, by omega, ?_, fun y hym => ?_⟩
      · refine ⟨rfl, by rw [hyl]; exact Nat.le_trans hlc hcm, fun _ => ⟨a, rfl, fun j p hp => (hy j p hp).2⟩⟩
      · have h3 : (elems.length + rest.length) * P.bytesOf e ≤ reachBytes := hs.1
        rw [hB] at h3
        have h4 : ys.length * B ≤ (elems.length + rest.length) * B := Nat.mul_le_mul_right _ (by omega)
        exact Nat.le_trans h4 h3
      · obtain ⟨i, hi, rfl⟩ := List.getElem_of_mem hym
        exact (hy i _ (List.getElem?_eq_getElem hi)).1⟩
/-- Fields in line, from a place on. -/
def OpensF {α : Type} (P : Program) (fs : List Field) (off : Nat) (d : Kd α) (G : α → Prop) : Prop :=
  ∀ {H : Type} {enc : TypeId × Value → H} {w : World} {n : Nat} {cs : List Value} {xs : List (DataW H × List MemPlace)}, cs.length = off + d.sz → xs.length = fs.length →
    (∀ (i : Nat) (f : Field), fs[i]? = some f → DataW.trod enc P w 0 (fun _ => true) true n f.type ((cs.drop f.offset).take (P.cellsOf f.type)) = xs[i]?) →
    (DataW.weightsEach P (fs.map (·.type)) (xs.map (·.1))).all (· ≤ reachBytes) = true → ∃ y : α, d.K w y (cs.drop off) ∧ G y
theorem OpensF.one {α : Type} {P : Program} {f : Field} {off : Nat} {d : Kd α} {G : α → Prop} (ho : f.offset = off) (h : Opens P f.type d G) : OpensF P [f] off d G := by
  intro H enc w n cs xs hl hx hat hs
  match xs, hx with
  | [x], _ =>
    have h1 := hat 0 f rfl
    rw [ho, h.sz, List.take_of_length_le (by rw [List.length_drop]; omega)] at h1
    simp only [List.map_cons, List.map_nil, DataW.weightsEach, List.append_nil] at hs
    exact h.reads h1 hs
theorem OpensF.cons {α β : Type} {P : Program} {f : Field} {fs : List Field} {off : Nat} {a : Kd α} {b : Kd β} {Ga : α → Prop} {Gb : β → Prop} (ho : f.offset = off) (h : Opens P f.type a Ga) (k : OpensF P fs (off + a.sz) b Gb) : OpensF P (f :: fs) off (Kd.pair a b) (fun y => Ga y.1 ∧ Gb y.2) := by
  intro H enc w n cs xs hl hx hat hs
  have hsz : (Kd.pair a b).sz = a.sz + b.sz := rfl
  match xs, hx with
  | x :: xs, hx =>
    have h1 := hat 0 f rfl
    rw [ho, h.sz] at h1
    simp only [List.map_cons, DataW.weightsEach, List.all_append, Bool.and_eq_true] at hs
    obtain ⟨y1, hK1, hG1⟩ := h.reads h1 hs.1
    obtain ⟨y2, hK2, hG2⟩ := k (enc := enc) (w := w) (n := n) (cs := cs) (xs := xs) (by omega) (by simpa using hx) (fun i g hg => hat (i + 1) g hg) hs.2
    refine ⟨(y1, y2), ⟨_, _, ?_, hK1, hK2⟩, hG1, hG2⟩
    rw [← List.drop_drop, List.take_append_drop]
theorem Opens.struct {α : Type} {P : Program} {t : TypeId} {fs : Array Field} {d : Kd α} {G : α → Prop} (ht : P.underlying t = some (.struct fs)) (hc : P.cellsOf t = d.sz) (h : OpensF P fs.toList 0 d G) : Opens P t d G :=
  ⟨hc, fun hx hs => by
    obtain ⟨xs, n, _, rfl, hl, hxl, hat⟩ := DataW.trod_struct ht hx
    simp only [DataW.weights, ht] at hs
    have := h (by omega) (by simpa using hxl) (fun i f hf => hat i f (by simpa using hf)) hs
    simpa using this⟩
theorem Opens.iso {α β : Type} {P : Program} {t : TypeId} {d : Kd α} {G : α → Prop} (h : Opens P t d G) (f : β → α) (g : α → β) (hfg : ∀ y, f (g y) = y) : Opens P t (Kd.iso d f) (fun x => G (f x)) :=
  ⟨h.sz, fun hx hs => by
    obtain ⟨y, hK, hG⟩ := h.reads hx hs
    exact ⟨g y, by show d.K _ (f (g y)) _; rw [hfg]; exact hK, by rw [hfg]; exact hG⟩⟩
theorem Opens.imp {α : Type} {P : Program} {t : TypeId} {d : Kd α} {G G' : α → Prop} (h : Opens P t d G) (hG : ∀ y, G y → G' y) : Opens P t d G' :=
  ⟨h.sz, fun hx hs => let ⟨y, hK, hg⟩ := h.reads hx hs; ⟨y, hK, hG y hg⟩⟩
/-! ### an argument -/
theorem sized_cons {H : Type} {P : Program} {t : TypeId} {ts : List TypeId} {d : DataW H} {ds : List (DataW H)} (h : (DataW.weightsEach P (t :: ts) (d :: ds)).all (· ≤ reachBytes) = true) :
    (d.weights P t).all (· ≤ reachBytes) = true ∧ (DataW.weightsEach P ts ds).all (· ≤ reachBytes) = true := by
  simp only [DataW.weightsEach, List.all_append, Bool.and_eq_true] at h
  exact h
theorem Opens.arg {α : Type} {P : Program} {t : TypeId} {d : Kd α} {G : α → Prop} (h : Opens P t d G) {H : Type} {enc : TypeId × Value → H} {w : World} {v : Value} {x : DataW H} {ps : List MemPlace}
    (hx : DataW.Trod enc P w 0 (fun _ => true) true t v x ps) (hs : (x.weights P t).all (· ≤ reachBytes) = true) : ∃ y : α, d.K w y v.cells.toList ∧ G y := by
  obtain ⟨fuel, hf⟩ := hx
  exact h.reads hf hs
theorem arg_int {w : World} {k : IntKind} {y n : Int} (h : (Kd.int k).K w y (Value.int k n).cells.toList) : n = y := by
  have h1 : [Value.int k n] = [Value.int k y] := h
  simpa using h1
theorem arg_bool {w : World} {y n : Bool} (h : Kd.bool.K w y (Value.bool n).cells.toList) : n = y := by
  have h1 : [Value.bool n] = [Value.bool y] := h
  simpa using h1
theorem arg_string {w : World} {y n : ByteArray} (h : Kd.string.K w y (Value.string n).cells.toList) : n = y := by
  have h1 : [Value.string n] = [Value.string y] := h
  simpa using h1
theorem arg_agg {α : Type} {w : World} {d : Kd α} {cs : Array Value} {y : α} (h : d.K w y (Value.agg cs).cells.toList) : d.K w y cs.toList := h
/-- A slice that is handed in. -/
theorem arg_slice {α : Type} {w : World} {e : TypeId} {d : Kd α} {ys : List α} {a : Option Addr} {len cap : Nat} (h : (Kd.slice e d).K w ys (Value.slice a len cap).cells.toList) : len = ys.length ∧ ys.length ≤ cap ∧ d.C w a ys.length ys := by
  obtain ⟨A, c, he, hl, hC⟩ := h
  simp only [Value.cells, List.cons.injEq, and_true, Value.slice.injEq] at he
  obtain ⟨rfl, rfl, rfl⟩ := he
  exact ⟨rfl, hl, hC⟩
end Go.Proofs.YtopbmpdcmnhfdaaH
