/- Words of this session: how the second reading's values and blocks stand to the model's memory. -/
import Derived.Test.YtcaolnmpldbkjaaGreatAx1
import Derived.Laws.Cells
import Derived.Laws.CopyRow
import Derived.Laws.Rows
import Derived.Laws.StructEq
import Derived.Laws.AppendOwn
namespace Go.Proofs.YtcaolnmpldbkjaaGreatA
open Go Go.RowKit
set_option linter.unusedVariables false
set_option linter.unusedSimpArgs false

/-- Where a block lies: its place in memory, how many cells there are from there on, the cells of an element. -/
structure Pl where
  blk : Nat
  off : Nat
  tot : Nat
  esz : Nat
  gr : Bool
@[reducible] def Mp := Nat → Option Pl
def SliceOk (pl : Pl) (off len : Nat) (cap : Option Nat) (c : Nat) (a : Addr) : Prop :=
  (len = 0 ∧ cap = some 0 ∧ c = 0) ∨ (a.block = pl.blk ∧ a.spot = none ∧ match cap with
    | some n => c = n ∧ len ≤ n ∧ (n = 0 ∨ a.off = pl.off + off)
    | none => (a.off = pl.off + off ∧ len ≤ c ∧ (pl.gr = true → off + c * pl.esz = pl.tot)) ∨ (len = 0 ∧ c = 0))

inductive RV (ι : Mp) : V → Value → Prop
  | bool (b : Bool) : RV ι (.bool b) (.bool b)
  | int (k : IntKind) (n : Int) : RV ι (.int k n) (.int k n)
  | str (s : List Int) (b : ByteArray) (h : bytesOf b = s) : RV ι (.str s) (.string b)
  | ptrN : RV ι (.ptr none) (.pointer none)
  | ptr (id off : Nat) (pl : Pl) (h : ι id = some pl) : RV ι (.ptr (some (id, off))) (.pointer (some ⟨pl.blk, pl.off + off, none⟩))
  | sliceN : RV ι (.slice none 0 (some 0)) (.slice none 0 0)
  | slice (id off len : Nat) (cap : Option Nat) (c : Nat) (a : Addr) (pl : Pl) (h : ι id = some pl) (hs : SliceOk pl off len cap c a) : RV ι (.slice (some (id, off)) len cap) (.slice (some a) len c)
  | mapN : RV ι (.map none) (.map none)
  | map (id : Nat) (pl : Pl) (h : ι id = some pl) : RV ι (.map (some id)) (.map (some pl.blk))
  | func (f : FuncId) (a b : List V) (A B : Array Value) (ha : a.length = A.size) (hb : b.length = B.size) (h1 : ∀ (i : Nat) (v : V) (c : Value), a[i]? = some v → A[i]? = some c → RV ι v c) (h2 : ∀ (i : Nat) (v : V) (c : Value), b[i]? = some v → B[i]? = some c → RV ι v c) : RV ι (.func f a b) (.func (.func f) A B)
  | nilFunc : RV ι .nilFunc .nilFunc
  | iface (t : TypeId) (v : V) (x : Value) (h : RV ι v x) : RV ι (.iface t v) (.iface t x)
  | nilIface : RV ι .nilIface .nilIface
  | agg (cs : List V) (C : Array Value) (hl : cs.length = C.size) (h : ∀ (i : Nat) (v : V) (c : Value), cs[i]? = some v → C[i]? = some c → RV ι v c) : RV ι (.agg cs) (.agg C)
  | tuple (cs : List V) (C : Array Value) (hl : cs.length = C.size) (h : ∀ (i : Nat) (v : V) (c : Value), cs[i]? = some v → C[i]? = some c → RV ι v c) : RV ι (.tuple cs) (.tuple C)
def RVs (ι : Mp) (cs : List V) (C : List Value) : Prop := cs.length = C.length ∧ ∀ (i : Nat) (v : V) (c : Value), cs[i]? = some v → C[i]? = some c → RV ι v c
def Sub (ι κ : Mp) : Prop := ∀ id pl, ι id = some pl → κ id = some pl
theorem Sub.refl (ι : Mp) : Sub ι ι := fun _ _ h => h
theorem Sub.trans {a b c : Mp} (h : Sub a b) (k : Sub b c) : Sub a c := fun _ _ x => k _ _ (h _ _ x)

theorem RV.mono {ι κ : Mp} (hs : Sub ι κ) {v : V} {c : Value} (h : RV ι v c) : RV κ v c := by
  induction h with
  | bool b => exact .bool b
  | int k n => exact .int k n
  | str s b h => exact .str s b h
  | ptrN => exact .ptrN
  | ptr id off pl h => exact .ptr id off pl (hs _ _ h)
  | sliceN => exact .sliceN
  | slice id off len cap c a pl h h2 => exact .slice id off len cap c a pl (hs _ _ h) h2
  | mapN => exact .mapN
  | map id pl h => exact .map id pl (hs _ _ h)
  | func f a b A B ha hb _ _ h1 h2 => exact .func f a b A B ha hb h1 h2
  | nilFunc => exact .nilFunc
  | iface t v x _ h => exact .iface t v x h
  | nilIface => exact .nilIface
  | agg cs C hl _ h => exact .agg cs C hl h
  | tuple cs C hl _ h => exact .tuple cs C hl h
theorem RVs.mono {ι κ : Mp} (hs : Sub ι κ) {v : List V} {c : List Value} (h : RVs ι v c) : RVs κ v c := ⟨h.1, fun i v c a b => (h.2 i v c a b).mono hs⟩
theorem RVs.nil (ι : Mp) : RVs ι [] [] := ⟨rfl, fun i v c h => by simp at h⟩
theorem RVs.cons {ι : Mp} {v : V} {c : Value} {vs : List V} {cs : List Value} (h : RV ι v c) (hs : RVs ι vs cs) : RVs ι (v :: vs) (c :: cs) :=
  ⟨by simp [hs.1], fun i v c a b => by
    cases i with
    | zero => simp at a b; subst a; subst b; exact h
    | succ i => simp at a b; exact hs.2 i v c a b⟩
theorem RVs.get {ι : Mp} {vs : List V} {cs : List Value} (h : RVs ι vs cs) {i : Nat} {v : V} (hi : vs[i]? = some v) : ∃ c, cs[i]? = some c ∧ RV ι v c := by
  have hlt : i < vs.length := by
    by_cases hh : i < vs.length
    · exact hh
    · rw [List.getElem?_eq_none (by omega)] at hi; cases hi
  have hlt' : i < cs.length := by rw [← h.1]; exact hlt
  exact ⟨cs[i], List.getElem?_eq_getElem hlt', h.2 i v _ hi (List.getElem?_eq_getElem hlt')⟩
theorem RVs.head {ι : Mp} {v : V} {vs : List V} {cs : List Value} (h : RVs ι (v :: vs) cs) : ∃ c cs', cs = c :: cs' ∧ RV ι v c ∧ RVs ι vs cs' := by
  cases cs with
  | nil => have := h.1; simp at this
  | cons c cs => exact ⟨c, cs, rfl, h.2 0 v c rfl rfl, by have := h.1; simp at this; exact this, fun i v c a b => h.2 (i + 1) v c (by simpa using a) (by simpa using b)⟩
theorem RVs.nil_inv {ι : Mp} {cs : List Value} (h : RVs ι [] cs) : cs = [] := by
  have := h.1; simp at this; exact List.eq_nil_of_length_eq_zero this.symm
theorem RVs.append {ι : Mp} {a b : List V} {A B : List Value} (h : RVs ι a A) (k : RVs ι b B) : RVs ι (a ++ b) (A ++ B) :=
  ⟨by simp [h.1, k.1], fun i v c x y => by
    by_cases hi : i < a.length
    · rw [List.getElem?_append_left hi] at x
      rw [List.getElem?_append_left (by rw [← h.1]; exact hi)] at y
      exact h.2 i v c x y
    · rw [List.getElem?_append_right (by omega)] at x
      rw [List.getElem?_append_right (by rw [← h.1]; omega), ← h.1] at y
      exact k.2 _ v c x y⟩
theorem RVs.take {ι : Mp} {a : List V} {A : List Value} (h : RVs ι a A) (n : Nat) : RVs ι (a.take n) (A.take n) :=
  ⟨by simp [h.1], fun i v c x y => by
    rw [List.getElem?_take] at x y
    split at x
    · rename_i hi; rw [if_pos hi] at y; exact h.2 i v c x y
    · cases x⟩
theorem RVs.drop {ι : Mp} {a : List V} {A : List Value} (h : RVs ι a A) (n : Nat) : RVs ι (a.drop n) (A.drop n) :=
  ⟨by simp [h.1], fun i v c x y => by
    rw [List.getElem?_drop] at x y
    exact h.2 _ v c x y⟩
theorem RVs.set {ι : Mp} {a : List V} {A : List Value} (h : RVs ι a A) (n : Nat) {v : V} {c : Value} (hv : RV ι v c) : RVs ι (a.set n v) (A.set n c) :=
  ⟨by simp [h.1], fun i v' c' x y => by
    rw [List.getElem?_set] at x y
    split at x
    · rename_i hi
      rw [if_pos hi] at y
      split at x
      · rename_i h2
        rw [if_pos (by rw [← h.1]; exact h2)] at y
        cases x; cases y; exact hv
      · cases x
    · rename_i hi
      rw [if_neg hi] at y
      exact h.2 i v' c' x y⟩
theorem RVs.replicate {ι : Mp} {v : V} {c : Value} (h : RV ι v c) (n : Nat) : RVs ι (List.replicate n v) (List.replicate n c) :=
  ⟨by simp, fun i v' c' x y => by
    rw [List.getElem?_replicate] at x y
    split at x
    · rename_i hi; rw [if_pos hi] at y; cases x; cases y; exact h
    · cases x⟩
theorem RVs.append_inv {ι : Mp} {a b : List V} {C : List Value} (h : RVs ι (a ++ b) C) : RVs ι a (C.take a.length) ∧ RVs ι b (C.drop a.length) := by
  have h1 := h.take a.length
  have h2 := h.drop a.length
  rw [List.take_left] at h1
  rw [List.drop_left] at h2
  exact ⟨h1, h2⟩
theorem RVs.getD {ι : Mp} {vs : List V} {cs : List Value} (h : RVs ι vs cs) (i : Nat) : RV ι (vs.getD i undefV) (cs.getD i undef) := by
  by_cases hi : i < vs.length
  · have := h.2 i vs[i] (cs[i]'(by rw [← h.1]; exact hi)) (List.getElem?_eq_getElem hi) (List.getElem?_eq_getElem _)
    simpa [List.getD, List.getElem?_eq_getElem hi, List.getElem?_eq_getElem (show i < cs.length by rw [← h.1]; exact hi)] using this
  · have h2 : ¬ i < cs.length := by rw [← h.1]; exact hi
    simp only [List.getD, List.getElem?_eq_none (Nat.le_of_not_lt hi), List.getElem?_eq_none (Nat.le_of_not_lt h2), Option.getD_none]
    exact .tuple [] #[] rfl fun i v c h => by simp at h
theorem RV.leaf_one {ι : Mp} {v : V} {c : Value} (h : RV ι v c) (hl : v.leaf = true) : c.oneCell' = true := by
  cases h <;> first | rfl | (simp [V.leaf] at hl)
theorem RV.flat {ι : Mp} {v : V} {c : Value} (h : RV ι v c) : RVs ι v.flat c.cells.toList := by
  have one : ∀ {v : V} {c : Value}, RV ι v c → RVs ι [v] [c] := fun h => .cons h (.nil ι)
  cases h with
  | agg cs C hl h => exact ⟨by simpa [V.flat, Value.cells] using hl, fun i v c a b => h i v c a (by simpa [Value.cells] using b)⟩
  | tuple cs C hl h => exact one (.tuple cs C hl h)
  | bool b => exact one (.bool b)
  | int k n => exact one (.int k n)
  | str s b h => exact one (.str s b h)
  | ptrN => exact one .ptrN
  | ptr id off pl h => exact one (.ptr id off pl h)
  | sliceN => exact one .sliceN
  | slice id off len cap c a pl h h2 => exact one (.slice id off len cap c a pl h h2)
  | mapN => exact one .mapN
  | map id pl h => exact one (.map id pl h)
  | func f a b A B ha hb h1 h2 => exact one (.func f a b A B ha hb h1 h2)
  | nilFunc => exact one .nilFunc
  | iface t v x h => exact one (.iface t v x h)
  | nilIface => exact one .nilIface

theorem RV.slice_at {ι : Mp} {id off len : Nat} {cap : Option Nat} {X : Value} (h : RV ι (.slice (some (id, off)) len cap) X) :
    ∃ A c pl, X = .slice (some A) len c ∧ ι id = some pl ∧ (¬ (len = 0 ∧ cap = some 0) → A.block = pl.blk) ∧ (¬ (len = 0 ∧ cap = some 0) → A.spot = none) ∧ len ≤ c ∧ (0 < len → A = ⟨pl.blk, pl.off + off, none⟩) := by
  cases h with
  | slice _ _ _ _ c A pl hi hs =>
    refine ⟨A, c, pl, rfl, hi, ?_⟩
    rcases hs with ⟨h1, h2, h3⟩ | hs
    · exact ⟨fun h => absurd ⟨h1, h2⟩ h, fun h => absurd ⟨h1, h2⟩ h, by omega, by omega⟩
    refine ⟨fun _ => hs.1, fun _ => hs.2.1, ?_⟩
    obtain ⟨hb, hsp, hs⟩ := hs
    have hA : A.off = pl.off + off → A = ⟨pl.blk, pl.off + off, none⟩ := fun e => by cases A; simp at hb hsp e; simp [hb, hsp, e]
    cases cap with
    | some n => exact ⟨by omega, fun h0 => hA (by omega)⟩
    | none => exact ⟨by omega, fun h0 => hA (by omega)⟩

/-! ### memory -/
/-- What lies behind a block that may grow: cells that stand for no block. -/
def Spare (n off top : Nat) (C : Array Value) : Prop := ∀ j, off + n ≤ j → j < off + top → ∃ (v : V) (c : Value), v.leaf = true ∧ C[j]? = some c ∧ RV (fun _ => none) v c
def OK (ι : Mp) (w : World) (pl : Pl) : O → Prop
  | .dead => True
  | .cells cs k => ∃ C E fz, w.heap[pl.blk]? = some (.cells C E fz) ∧ (∀ (i : Nat) (v : V), cs[i]? = some v → v.leaf = true ∧ ∃ c, C[pl.off + i]? = some c ∧ RV ι v c) ∧
      (k ≠ .ro → fz.1 = fz.2 ∨ (C.size ≤ fz.1 ∧ k ≠ .rw)) ∧ (k = .ro → pl.gr = false) ∧ (∀ e, k = .gr e → pl.gr = true ∧ pl.esz = e ∧ pl.off + pl.tot ≤ C.size ∧ Spare cs.length pl.off pl.tot C)
  | .map es cl => ∃ ES, w.heap[pl.blk]? = some (.map ES cl) ∧ es.length = ES.size ∧ ∀ (i : Nat) (k v : V) (b : Nat) (e : MapEntry), es[i]? = some (k, v, b) → ES[i]? = some e → RV ι k e.key ∧ RV ι v e.val ∧ e.born = b
structure Rel (ι : Mp) (h : Heap) (w : World) : Prop where
  ok : ∀ id pl o, ι id = some pl → h[id]? = some o → OK ι w pl o
  sep : ∀ i j pi pj oi oj, i ≠ j → ι i = some pi → ι j = some pj → h[i]? = some oi → h[j]? = some oj → oi.wr = true → oj.alive = true → pi.blk ≠ pj.blk
/-- Block b of memory is one that may be written. -/
def Wr (ι : Mp) (h : Heap) (b : Nat) : Prop := ∃ id pl o, ι id = some pl ∧ h[id]? = some o ∧ o.wr = true ∧ pl.blk = b
def Al (ι : Mp) (h : Heap) (b : Nat) : Prop := ∃ id pl o, ι id = some pl ∧ h[id]? = some o ∧ o.alive = true ∧ pl.blk = b
def Free (ι : Mp) (m n : Nat) : Prop := ∀ id, m ≤ id → id < n → ι id = none
structure Stp (ι : Mp) (h : Heap) (w : World) (κ : Mp) (h' : Heap) (w' : World) : Prop where
  sub : Sub ι κ
  fresh : ∀ id pl, κ id = some pl → ι id = some pl ∨ (h.length ≤ id ∧ id < h'.length)
  rel : Rel κ h' w'
  own : ∀ b, Wr κ h' b → Wr ι h b ∨ w.heap.size ≤ b
  alv : ∀ b, Al κ h' b → Al ι h b ∨ w.heap.size ≤ b
  os : w'.os = w.os
  tape : w'.tape = w.tape
  output : w'.output = w.output
  size : w.heap.size ≤ w'.heap.size
  frame : ∀ b, b < w.heap.size → ¬ Wr ι h b → w'.heap[b]? = w.heap[b]?
  len : h.length ≤ h'.length
  drawn : w.drawn ≤ w'.drawn
theorem Stp.refl {ι : Mp} {h : Heap} {w : World} (hr : Rel ι h w) : Stp ι h w ι h w :=
  ⟨.refl ι, fun _ _ x => .inl x, hr, fun _ x => .inl x, fun _ x => .inl x, rfl, rfl, rfl, Nat.le_refl _, fun _ _ _ => rfl, Nat.le_refl _, Nat.le_refl _⟩
theorem Stp.trans {a b c : Mp} {h1 h2 h3 : Heap} {w1 w2 w3 : World} (s : Stp a h1 w1 b h2 w2) (t : Stp b h2 w2 c h3 w3) : Stp a h1 w1 c h3 w3 where
  sub := s.sub.trans t.sub
  fresh := fun id pl h => (t.fresh id pl h).elim (fun x => (s.fresh id pl x).imp (fun z => z) fun ⟨p, q⟩ => ⟨p, Nat.lt_of_lt_of_le q t.len⟩) fun ⟨p, q⟩ => .inr ⟨Nat.le_trans s.len p, q⟩
  rel := t.rel
  own := fun b h => (t.own b h).elim (fun x => s.own b x) fun x => .inr (Nat.le_trans s.size x)
  alv := fun b h => (t.alv b h).elim (fun x => s.alv b x) fun x => .inr (Nat.le_trans s.size x)
  os := t.os.trans s.os
  tape := t.tape.trans s.tape
  output := t.output.trans s.output
  size := Nat.le_trans s.size t.size
  frame := fun b hb hn => by
    rw [t.frame b (Nat.lt_of_lt_of_le hb s.size) (fun hw => (s.own b hw).elim hn fun x => absurd x (by omega)), s.frame b hb hn]
  len := Nat.le_trans s.len t.len
  drawn := Nat.le_trans s.drawn t.drawn
/-- A draw turns nothing. -/
theorem Rel.drew {ι : Mp} {h : Heap} {w : World} (hr : Rel ι h w) : Rel ι h w.drew :=
  ⟨fun id pl o a b => by have := hr.ok id pl o a b; cases o <;> first | exact this | trivial, hr.sep⟩
theorem Stp.drew {ι : Mp} {h : Heap} {w : World} (hr : Rel ι h w) : Stp ι h w ι h w.drew :=
  ⟨.refl ι, fun _ _ x => .inl x, hr.drew, fun _ x => .inl x, fun _ x => .inl x, rfl, rfl, rfl, Nat.le_refl _, fun _ _ _ => rfl, Nat.le_refl _, Nat.le_succ _⟩
theorem OK.mono {ι κ : Mp} {w w' : World} {pl : Pl} {o : O} (hs : Sub ι κ) (hb : o.alive = true → w'.heap[pl.blk]? = w.heap[pl.blk]?) (h : OK ι w pl o) : OK κ w' pl o := by
  cases o with
  | dead => trivial
  | cells cs k =>
    obtain ⟨C, E, fz, h1, h2, h3, h4, h5⟩ := h
    exact ⟨C, E, fz, by rw [hb rfl]; exact h1, fun i v hv => let ⟨a, c, hc, hr⟩ := h2 i v hv; ⟨a, c, hc, hr.mono hs⟩, h3, h4, fun e he => h5 e he⟩
  | map es cl =>
    obtain ⟨ES, h1, h2, h3⟩ := h
    exact ⟨ES, by rw [hb rfl]; exact h1, h2, fun i k v b e x y => let ⟨p, q, r⟩ := h3 i k v b e x y; ⟨p.mono hs, q.mono hs, r⟩⟩
theorem OK.lt {ι : Mp} {w : World} {pl : Pl} {o : O} (h : OK ι w pl o) (ha : o.alive = true) : pl.blk < w.heap.size := by
  have aux : ∀ x, w.heap[pl.blk]? = some x → pl.blk < w.heap.size := fun x hx => by
    by_cases hh : pl.blk < w.heap.size
    · exact hh
    · rw [Array.getElem?_eq_none (by omega)] at hx; cases hx
  cases o with
  | dead => cases ha
  | cells cs k => obtain ⟨C, E, fz, h1, _⟩ := h; exact aux _ h1
  | map es cl => obtain ⟨ES, h1, _⟩ := h; exact aux _ h1
theorem O.wr_alive {o : O} (h : o.wr = true) : o.alive = true := by cases o <;> first | rfl | cases h

def ext (ι : Mp) (n : Nat) (pl : Pl) : Mp := fun id => if id = n then some pl else ι id
theorem ext_new (ι : Mp) (n : Nat) (pl : Pl) : ext ι n pl n = some pl := by simp [ext]
theorem ext_sub {ι : Mp} {n : Nat} {pl : Pl} (h : ι n = none) : Sub ι (ext ι n pl) := fun id q hq => by
  unfold ext
  split
  · rename_i e; subst e; rw [h] at hq; cases hq
  · exact hq
theorem getElem?_push_lt {h : Heap} {o : O} {id : Nat} (hi : id < h.length) : (h ++ [o])[id]? = h[id]? := List.getElem?_append_left hi
theorem getElem?_push_self {h : Heap} {o : O} : (h ++ [o])[h.length]? = some o := by simp

/-- A new block at the end of memory. -/
theorem Stp.new {ι : Mp} {h : Heap} {w : World} (hr : Rel ι h w) (hf : ι h.length = none) (o : O) (x : Obj) (pl : Pl) (hb : pl.blk = w.heap.size)
    (hok : OK (ext ι h.length pl) (w.alloc x) pl o) : Stp ι h w (ext ι h.length pl) (h ++ [o]) (w.alloc x) := by
  have hsub := ext_sub (pl := pl) hf
  have old : ∀ b, b < w.heap.size → (w.alloc x).heap[b]? = w.heap[b]? := fun b hb => heap_alloc_old w x b hb
  have hcase : ∀ id q y, ext ι h.length pl id = some q → (h ++ [o])[id]? = some y → (id = h.length ∧ q = pl ∧ y = o) ∨ (ι id = some q ∧ h[id]? = some y ∧ id ≠ h.length) := by
    intro id q y h1 h2
    by_cases e : id = h.length
    · subst e
      rw [ext_new] at h1
      rw [getElem?_push_self] at h2
      cases h1; cases h2
      exact .inl ⟨rfl, rfl, rfl⟩
    · right
      have h3 : ι id = some q := by simpa [ext, e] using h1
      have hlt : id < h.length := by
        have := (List.getElem?_eq_some_iff.1 h2).1
        simp at this; omega
      rw [getElem?_push_lt hlt] at h2
      exact ⟨h3, h2, e⟩
  refine ⟨hsub, ?_, ⟨?_, ?_⟩, ?_, ?_, rfl, rfl, rfl, by simp, fun b hb _ => old b hb, by simp, Nat.le_refl _⟩
  · intro id q hq
    by_cases e : id = h.length
    · exact .inr ⟨by omega, by simp; omega⟩
    · exact .inl (by simpa [ext, e] using hq)
  · intro id q y h1 h2
    rcases hcase id q y h1 h2 with ⟨_, rfl, rfl⟩ | ⟨a, b, _⟩
    · exact hok
    · exact (hr.ok id q y a b).mono hsub fun ha => old _ ((hr.ok id q y a b).lt ha)
  · intro i j pi pj oi oj hij h1 h2 h3 h4 hw ha
    rcases hcase i pi oi h1 h3 with ⟨e1, rfl, rfl⟩ | ⟨a1, b1, _⟩ <;> rcases hcase j pj oj h2 h4 with ⟨e2, rfl, rfl⟩ | ⟨a2, b2, _⟩
    · omega
    · have := (hr.ok j pj oj a2 b2).lt ha; omega
    · have := (hr.ok i pi oi a1 b1).lt (O.wr_alive hw); omega
    · exact hr.sep i j pi pj oi oj hij a1 a2 b1 b2 hw ha
  · rintro b ⟨id, q, y, h1, h2, h3, h4⟩
    rcases hcase id q y h1 h2 with ⟨_, rfl, rfl⟩ | ⟨a1, b1, _⟩
    · exact .inr (by omega)
    · exact .inl ⟨id, q, y, a1, b1, h3, h4⟩
  · rintro b ⟨id, q, y, h1, h2, h3, h4⟩
    rcases hcase id q y h1 h2 with ⟨_, rfl, rfl⟩ | ⟨a1, b1, _⟩
    · exact .inr (by omega)
    · exact .inl ⟨id, q, y, a1, b1, h3, h4⟩

/-- A block that may be written takes other contents. -/
theorem Stp.upd {ι : Mp} {h : Heap} {w : World} (hr : Rel ι h w) {id : Nat} {pl : Pl} {o o' : O} (hi : ι id = some pl) (ho : h[id]? = some o) (hw : o.wr = true) {x : Obj}
    (hok : OK ι { w with heap := w.heap.setIfInBounds pl.blk x } pl o') : Stp ι h w ι (h.set id o') { w with heap := w.heap.setIfInBounds pl.blk x } := by
  have hlt := (List.getElem?_eq_some_iff.1 ho).1
  have hbl := (hr.ok id pl o hi ho).lt (O.wr_alive hw)
  have other : ∀ b, b ≠ pl.blk → (w.heap.setIfInBounds pl.blk x)[b]? = w.heap[b]? := fun b hb => by
    rw [Array.getElem?_setIfInBounds_ne (Ne.symm hb)]
  have hcase : ∀ j y, (h.set id o')[j]? = some y → (j = id ∧ y = o') ∨ (j ≠ id ∧ h[j]? = some y) := by
    intro j y hy
    by_cases e : j = id
    · subst e; rw [List.getElem?_set_self hlt] at hy; cases hy; exact .inl ⟨rfl, rfl⟩
    · rw [List.getElem?_set_ne (Ne.symm e)] at hy; exact .inr ⟨e, hy⟩
  refine ⟨.refl ι, fun _ _ x => .inl x, ⟨?_, ?_⟩, ?_, ?_, rfl, rfl, rfl, by simp, ?_, by simp, Nat.le_refl _⟩
  · intro j q y h1 h2
    rcases hcase j y h2 with ⟨rfl, rfl⟩ | ⟨e, h3⟩
    · rw [hi] at h1; cases h1; exact hok
    · exact (hr.ok j q y h1 h3).mono (.refl ι) fun ha => other _ (Ne.symm (hr.sep id j pl q o y (Ne.symm e) hi h1 ho h3 hw ha))
  · intro i j pi pj oi oj hij h1 h2 h3 h4 hwi haj
    rcases hcase i oi h3 with ⟨rfl, rfl⟩ | ⟨e1, g1⟩ <;> rcases hcase j oj h4 with ⟨rfl, rfl⟩ | ⟨e2, g2⟩
    · exact absurd rfl hij
    · exact hr.sep i j pi pj o oj hij h1 h2 ho g2 hw haj
    · exact Ne.symm (hr.sep j i pj pi o oi (Ne.symm hij) h2 h1 ho g1 hw (O.wr_alive hwi))
    · exact hr.sep i j pi pj oi oj hij h1 h2 g1 g2 hwi haj
  · rintro b ⟨j, q, y, h1, h2, h3, h4⟩
    rcases hcase j y h2 with ⟨rfl, rfl⟩ | ⟨e, h5⟩
    · rw [hi] at h1; cases h1; exact .inl ⟨j, pl, o, hi, ho, hw, h4⟩
    · exact .inl ⟨j, q, y, h1, h5, h3, h4⟩
  · rintro b ⟨j, q, y, h1, h2, h3, h4⟩
    rcases hcase j y h2 with ⟨rfl, rfl⟩ | ⟨e, h5⟩
    · rw [hi] at h1; cases h1; exact .inl ⟨j, pl, o, hi, ho, O.wr_alive hw, h4⟩
    · exact .inl ⟨j, q, y, h1, h5, h3, h4⟩
  · intro b hb hn
    exact other b fun e => hn ⟨id, pl, o, hi, ho, hw, e.symm⟩

/-! ### loads and stores -/
theorem addr_add (b o i : Nat) : (⟨b, o, none⟩ : Addr).add i = ⟨b, o + i, none⟩ := by unfold Addr.add; split <;> simp_all
theorem loadN_run {P : Program} {ι : Mp} {h : Heap} {w : World} (hr : Rel ι h w) {id off n : Nat} {vs : List V} (hl : loadN h id off n = some vs) {pl : Pl} (hi : ι id = some pl) :
    ∃ cs : List Value, (loadCells ⟨pl.blk, pl.off + off, none⟩ n).run P w = .ok cs.toArray w ∧ RVs ι vs cs ∧ vs.length = n ∧ (∀ v ∈ vs, v.leaf = true) := by
  unfold loadN at hl
  split at hl
  · rename_i cs k hc
    split at hl
    · rename_i hle
      cases hl
      obtain ⟨C, E, fz, h1, h2, h3, h4⟩ := hr.ok id pl _ hi hc
      have hlen : ((cs.drop off).take n).length = n := by simp; omega
      have hg : ∀ i, i < n → ∃ c, C[pl.off + off + i]? = some c ∧ RV ι (((cs.drop off).take n).getD i undefV) c ∧ (((cs.drop off).take n).getD i undefV).leaf = true := by
        intro i hin
        have hv : cs[off + i]? = some (((cs.drop off).take n).getD i undefV) := by
          simp only [List.getD, List.getElem?_take, if_pos hin, List.getElem?_drop]
          rw [List.getElem?_eq_getElem (by omega)]; rfl
        obtain ⟨lf, c, hc, hrv⟩ := h2 _ _ hv
        exact ⟨c, by rw [Nat.add_assoc]; exact hc, hrv, lf⟩
      refine ⟨(List.range n).map fun i => (C[pl.off + off + i]?).getD undef, ?_, ⟨by rw [hlen]; simp, ?_⟩, hlen, ?_⟩
      · have := run_loadCells_list (P := P) w ⟨pl.blk, pl.off + off, none⟩ ((List.range n).map fun i => (C[pl.off + off + i]?).getD undef) (by
          intro j v hj
          rw [List.getElem?_map] at hj
          by_cases hjn : j < n
          · rw [List.getElem?_range hjn] at hj
            obtain ⟨c, hc, _⟩ := hg j hjn
            simp [hc] at hj
            subst hj
            rw [addr_add, cell_of_row w _ _ _ _ _ h1, hc]
          · rw [List.getElem?_eq_none (by simp; omega)] at hj
            simp at hj)
        simpa using this
      · intro i v c hv hc
        by_cases hin : i < n
        · obtain ⟨c', hc', hrv, _⟩ := hg i hin
          rw [List.getElem?_map, List.getElem?_range hin] at hc
          simp [hc'] at hc
          subst hc
          have : v = ((cs.drop off).take n).getD i undefV := by simp [List.getD, hv]
          rw [this]; exact hrv
        · rw [List.getElem?_eq_none (by rw [hlen]; omega)] at hv; cases hv
      · intro v hv
        obtain ⟨i, hi1, hi2⟩ := List.getElem_of_mem hv
        rw [hlen] at hi1
        obtain ⟨_, _, _, lf⟩ := hg i hi1
        rw [← hi2]
        simpa [List.getD, List.getElem?_eq_getElem (show i < ((cs.drop off).take n).length by omega)] using lf
    · cases hl
  · cases hl

theorem run_storeCells_fz (P : Program) (g o : Nat) (t : TypeId) (fz : Nat × Nat) : ∀ (vs : List Value) (i : Nat) (cur : Array Value) (w : World), w.heap[g]? = some (.cells cur t fz) → (fz.1 = fz.2 ∨ cur.size ≤ fz.1) → o + i + vs.length ≤ cur.size → (∀ v ∈ vs, v.oneCell' = true) →
    (storeCells ⟨g, o, none⟩ vs i).run P w = .ok () { w with heap := w.heap.setIfInBounds g (.cells (cur.toList.take (o + i) ++ vs ++ cur.toList.drop (o + i + vs.length)).toArray t fz) }
  | [], i, cur, w, hg, hz, hl, _ => by
    simp only [storeCells, List.append_nil, List.length_nil, Nat.add_zero, List.take_append_drop, Array.toArray_toList]
    show Result.ok () w = _
    congr 1
    cases w with | mk heap tape drawn os output =>
    simp only at hg ⊢
    congr 1
    apply Array.ext_getElem?
    intro j
    by_cases hj : g = j
    · subst hj
      have hlt : g < heap.size := (Array.getElem?_eq_some_iff.1 hg).1
      rw [Array.getElem?_setIfInBounds_self_of_lt hlt, hg]
    · rw [Array.getElem?_setIfInBounds_ne hj]
  | v :: rest, i, cur, w, hg, hz, hl, h1 => by
    have hlt : g < w.heap.size := (Array.getElem?_eq_some_iff.1 hg).1
    have hi : o + i < cur.size := by simp at hl; omega
    have hcell : w.cell? ⟨g, o + i, none⟩ = some cur[o + i] := by simp [World.cell?, hg, hi]
    have hfro : w.frozen? ⟨g, o + i, none⟩ = false := by
      simp only [World.frozen?, hg]
      rcases hz with hz | hz
      · simp [hz]
      · simp only [Bool.and_eq_false_iff, decide_eq_false_iff_not]
        left; omega
    have hset : w.setCell ⟨g, o + i, none⟩ v = { w with heap := w.heap.setIfInBounds g (.cells (cur.setIfInBounds (o + i) v) t fz) } := by
      unfold World.setCell
      congr 1
      apply Array.ext_getElem?
      intro j
      simp only [Array.getElem?_modify]
      by_cases hj : g = j
      · subst hj
        rw [if_pos rfl, Array.getElem?_setIfInBounds_self_of_lt hlt, hg]
        rfl
      · rw [if_neg hj, Array.getElem?_setIfInBounds_ne hj]
    have hst : (store ((⟨g, o, none⟩ : Addr).add i) v).run P w = .ok () { w with heap := w.heap.setIfInBounds g (.cells (cur.setIfInBounds (o + i) v) t fz) } := by
      rw [addr_add, run_store P w _ v _ (h1 v (by simp)), hcell]
      simp [hfro, hset]
    have ih := run_storeCells_fz P g o t fz rest (i + 1) (cur.setIfInBounds (o + i) v) { w with heap := w.heap.setIfInBounds g (.cells (cur.setIfInBounds (o + i) v) t fz) }
      (by simp only; rw [Array.getElem?_setIfInBounds_self_of_lt hlt]) (by simpa using hz) (by simp at hl ⊢; omega) (fun u hu => h1 u (by simp [hu]))
    simp only [storeCells, Sem.run_bind, hst, Result.andThen_ok, ih]
    congr 1
    cases w with | mk heap tape drawn os output =>
    simp only
    congr 1
    rw [Array.setIfInBounds_setIfInBounds]
    congr 2
    congr 1
    have e1 : o + (i + 1) = o + i + 1 := by omega
    rw [e1, Array.toList_setIfInBounds, List.drop_set_of_lt (by omega), List.take_succ_eq_append_getElem (by simp; exact hi)]
    simp [List.take_set_of_le (Nat.le_refl _), Nat.add_assoc, Nat.add_comm 1]

end Go.Proofs.YtcaolnmpldbkjaaGreatA
