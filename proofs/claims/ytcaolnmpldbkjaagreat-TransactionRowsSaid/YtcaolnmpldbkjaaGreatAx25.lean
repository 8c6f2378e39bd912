/- Words of this session: an argument of a plain type (numbers, bools, strings, slices and structs of these, nested) as it is read by a row, told in the second reading: read-only blocks. -/
import Derived.Test.YtcaolnmpldbkjaaGreatAx24
import Derived.ProofKit
import Derived.OpenShut
import Derived.ShutString
import Derived.ChangeOld
import Derived.SizedLaws
import Derived.ChangeArms
import Derived.Deep.Slices
import Derived.WideShapes
namespace Go.Proofs.YtcaolnmpldbkjaaGreatA
open Go Go.RowKit Go.WideShapes
set_option linter.unusedVariables false
set_option linter.unusedSimpArgs false

/-- The shape of a type. -/
inductive Kn where
  | int (k : IntKind)
  | bool
  | str
  | slice (sz B : Nat) (e : Kn)
  | cat (a b : Kn)
/-- Cells that hold a value of a shape. -/
def Vw (h : Heap) : Kn → List V → Prop
  | .int k, vs => ∃ n, vs = [.int k n] ∧ (Lit.int k n).wf = true
  | .bool, vs => ∃ b, vs = [.bool b]
  | .str, vs => ∃ s : List Int, vs = [.str s] ∧ s.length ≤ 140737488351232 ∧ ∀ c ∈ s, 0 ≤ c ∧ c ≤ 255
  | .slice sz B e, vs => ∃ (p : Option (Nat × Nat)) (c : Nat) (rows : List (List V)), vs = [.slice p rows.length (some c)] ∧ rows.length ≤ c ∧ c ≤ maxLen ∧ c * B ≤ 140737488351232 ∧ (p = none → rows = [] ∧ c = 0) ∧
      (∀ a b, p = some (a, b) → b = 0 ∧ h[a]? = some (.cells rows.flatten .ro)) ∧ ∀ r ∈ rows, r.length = sz ∧ Vw h e r
  | .cat a b, vs => ∃ x y, vs = x ++ y ∧ Vw h a x ∧ Vw h b y
theorem Vw.ext {h hh : Heap} (e : Ext h hh) : ∀ {k : Kn} {vs : List V}, Vw h k vs → Vw hh k vs
  | .int k, vs, q => q
  | .bool, vs, q => q
  | .str, vs, q => q
  | .slice sz B k, vs, ⟨p, c, rows, h1, h2, h3, h4, h5, h6, h7⟩ => ⟨p, c, rows, h1, h2, h3, h4, h5, fun a b hp => ⟨(h6 a b hp).1, e _ _ (h6 a b hp).2⟩, fun r hr => ⟨(h7 r hr).1, Vw.ext e (h7 r hr).2⟩⟩
  | .cat a b, vs, ⟨x, y, h1, h2, h3⟩ => ⟨x, y, h1, h2.ext e, h3.ext e⟩

structure Cx (ι : Mp) (h : Heap) (w : World) : Prop where
  rel : Rel ι h w
  free : ∀ id, h.length ≤ id → ι id = none
  ro : AllRo h
theorem Cx.nil (w : World) : Cx (fun _ => none) [] w := ⟨⟨fun id pl o h => (by cases h), fun i j pi pj oi oj _ h => (by cases h)⟩, fun _ _ => rfl, .nil⟩
/-- There is a block of cells. -/
def HB (w : World) : Prop := ∃ (b : Nat) (C : Array Value) (E : TypeId) (fz : Nat × Nat), w.heap[b]? = some (.cells C E fz)
theorem HB.of_cell {w : World} {a : Addr} {v : Value} (h : w.cell? a = some v) : HB w := by
  unfold World.cell? at h
  split at h
  · rename_i c E fz hc; exact ⟨_, _, _, _, hc⟩
  · cases h
theorem spot_of_cell {w : World} {a : Addr} {v : Value} (h : w.cell? a = some v) : a.spot = none := by
  unfold World.cell? at h
  split at h
  · split at h
    · cases h
    · rename_i q; simpa using q
  · cases h
theorem Cx.new {ι : Mp} {h : Heap} {w : World} (c : Cx ι h w) (cs : List V) (pl : Pl) (ok : OK (ext ι h.length pl) w pl (.cells cs .ro)) :
    Cx (ext ι h.length pl) (h ++ [.cells cs .ro]) w ∧ Sub ι (ext ι h.length pl) ∧ Ext h (h ++ [.cells cs .ro]) := by
  have hsub := ext_sub (pl := pl) (c.free _ (Nat.le_refl _))
  have hro : AllRo (h ++ [O.cells cs .ro]) := c.ro.app fun i o q => by
    cases i with
    | zero => simp at q; subst q; rfl
    | succ i => simp at q
  refine ⟨⟨⟨?_, ?_⟩, ?_, hro⟩, hsub, Ext.app (.refl h) _⟩
  · intro id q o h1 h2
    by_cases e : id = h.length
    · subst e
      rw [ext_new] at h1
      rw [getElem?_push_self] at h2
      cases h1; cases h2; exact ok
    · have h3 : ι id = some q := by simpa [Go.Proofs.YtcaolnmpldbkjaaGreatA.ext, e] using h1
      have hlt : id < h.length := by have := lt_of_some h2; simp at this; omega
      rw [getElem?_push_lt hlt] at h2
      exact (c.rel.ok id q o h3 h2).mono hsub fun _ => rfl
  · intro i j pi pj oi oj hij h1 h2 h3 h4 hw ha
    rw [hro i oi h3] at hw; cases hw
  · intro id hid
    simp at hid
    have : ¬ id = h.length := by omega
    simp [Go.Proofs.YtcaolnmpldbkjaaGreatA.ext, this]
    exact c.free id (by omega)

/-- What a type's readings are. -/
structure Opn (P : Program) (t : TypeId) (k : Kn) : Prop where
  reads : ∀ {H : Type} {enc : TypeId × Value → H} {w : World} {fuel : Nat} {cs : List Value} {x : DataW H × List MemPlace},
    DataW.trod enc P w 0 (fun _ => true) true fuel t cs = some x → (x.1.weights P t).all (· ≤ reachBytes) = true → (∀ (i : Nat) a l c, cs[i]? = some (.slice (some a) l c) → HB w) →
    ∀ {ι : Mp} {h : Heap}, Cx ι h w → ∃ (ι' : Mp) (h' : Heap) (vs : List V), Cx ι' h' w ∧ Sub ι ι' ∧ Ext h h' ∧ RVs ι' vs cs ∧ (∀ v ∈ vs, v.leaf = true) ∧ Vw h' k vs
theorem Opn.one {P : Program} {w : World} {ι : Mp} {h : Heap} {k : Kn} (c : Cx ι h w) {v : V} {x : Value} (hv : RV ι v x) (hl : v.leaf = true) (hk : Vw h k [v]) :
    ∃ (ι' : Mp) (h' : Heap) (vs : List V), Cx ι' h' w ∧ Sub ι ι' ∧ Ext h h' ∧ RVs ι' vs [x] ∧ (∀ v ∈ vs, v.leaf = true) ∧ Vw h' k vs :=
  ⟨ι, h, [v], c, .refl ι, .refl h, .cons hv (.nil ι), by simpa using hl, hk⟩
theorem Opn.int {P : Program} {t : TypeId} {k : IntKind} (ht : P.underlying t = some (.int k)) : Opn P t (.int k) :=
  ⟨fun {H enc w fuel cs x} h _ _ {ι hh} c => by
    obtain ⟨n, rfl, _, hw⟩ := DataW.trod_int ht h
    exact Opn.one (P := P) c (.int k n) rfl ⟨n, rfl, hw⟩⟩
theorem Opn.bool {P : Program} {t : TypeId} (ht : P.underlying t = some .bool) : Opn P t .bool :=
  ⟨fun {H enc w fuel cs x} h _ _ {ι hh} c => by
    obtain ⟨b, rfl, _⟩ := DataW.trod_bool ht h
    exact Opn.one (P := P) c (.bool b) rfl ⟨b, rfl⟩⟩
theorem bytesOf_range (s : ByteArray) : ∀ c ∈ bytesOf s, 0 ≤ c ∧ c ≤ 255 := by
  intro c hc
  unfold bytesOf at hc
  simp only [List.mem_map] at hc
  obtain ⟨b, _, rfl⟩ := hc
  have := b.toNat_lt
  omega
theorem Opn.str {P : Program} {t : TypeId} (ht : P.underlying t = some .string) : Opn P t .str :=
  ⟨fun {H enc w fuel cs x} h hs _ {ι hh} c => by
    obtain ⟨s, rfl, rfl, _⟩ := DataW.trod_string ht h
    refine Opn.one (P := P) c (.str _ s rfl) rfl ⟨_, rfl, ?_, bytesOf_range s⟩
    simp only [DataW.weights, List.all_cons, List.all_nil, Bool.and_true, decide_eq_true_eq] at hs
    rw [bytesOf, List.length_map]
    exact hs⟩
theorem weightsAll_get' {H : Type} {P : Program} {e : TypeId} : ∀ {ds : List (DataW H)} {i : Nat} {d : DataW H}, (DataW.weightsAll P e ds).all (· ≤ reachBytes) = true → ds[i]? = some d → (d.weights P e).all (· ≤ reachBytes) = true
  | [], _, _, _, h => by simp at h
  | d' :: r, 0, d, hs, h => by
    simp only [List.getElem?_cons_zero, Option.some.injEq] at h
    subst h
    simp only [DataW.weightsAll, List.all_append, Bool.and_eq_true] at hs
    exact hs.1
  | d' :: r, i + 1, d, hs, h => by
    simp only [List.getElem?_cons_succ] at h
    simp only [DataW.weightsAll, List.all_append, Bool.and_eq_true] at hs
    exact weightsAll_get' hs.2 h
theorem cells_at' {w : World} {base n : Nat} {a : Addr} {cs : List Value} (h : w.cells? base a n = some cs) : cs.length = n ∧ ∀ i u, cs[i]? = some u → w.cell? (a.add i) = some u := by
  obtain ⟨_, hl, hc⟩ := World.cells?_some h
  refine ⟨hl, fun i u hu => ?_⟩
  have hi : i < n := by rcases Nat.lt_or_ge i cs.length with h1 | h1; · omega
                        · rw [List.getElem?_eq_none h1] at hu; cases hu
  rw [hc i hi, hu]
theorem flatten_get {α : Type} {sz : Nat} : ∀ {rows : List (List α)}, (∀ r ∈ rows, r.length = sz) → ∀ {q : Nat} {v : α}, rows.flatten[q]? = some v → ∃ (i j : Nat) (r : List α), rows[i]? = some r ∧ r[j]? = some v ∧ q = i * sz + j
  | [], _, q, v, h => by simp at h
  | r :: rows, hw, q, v, h => by
    have hr := hw r (by simp)
    rw [List.flatten_cons] at h
    by_cases hq : q < sz
    · rw [List.getElem?_append_left (by omega)] at h
      exact ⟨0, q, r, rfl, h, by omega⟩
    · rw [List.getElem?_append_right (by omega), hr] at h
      obtain ⟨i, j, r', h1, h2, h3⟩ := flatten_get (fun r hr => hw r (by simp [hr])) h
      exact ⟨i + 1, j, r', by simpa using h1, h2, by rw [Nat.add_mul]; omega⟩
theorem RVs.leaf {ι : Mp} {vs : List V} {cs : List Value} (h : RVs ι vs cs) : True := trivial
theorem Opn.slice {P : Program} {t e : TypeId} {k : Kn} {sz B : Nat} (ht : P.underlying t = some (.slice e)) (hsz : P.cellsOf e = sz) (hsz0 : 0 < sz) (hB : P.bytesOf e = B) (he : Opn P e k) : Opn P t (.slice sz B k) :=
  ⟨fun {H enc w fuel cs x} hx hs hb {ι h} c => by
    rcases DataW.trod_slice ht hx with ⟨rfl, rfl⟩ | ⟨a, len, cap, elems, rest, n, _, rfl, rfl, _, hlc, hcm, hel, hat, hrest, _⟩
    · exact Opn.one (P := P) c .sliceN rfl ⟨none, 0, [], rfl, by simp, by simp [maxLen], by simp, fun _ => ⟨rfl, rfl⟩, fun _ _ h => (by cases h), fun r hr => (by cases hr)⟩
    obtain ⟨hrl, hrat⟩ := hrest rfl
    rw [hsz] at hat hrat
    simp only [DataW.weights, ht, List.all_cons, List.all_append, Bool.and_eq_true, decide_eq_true_eq, List.length_map] at hs
    have hcB : cap * B ≤ 140737488351232 := by
      have h3 : (elems.length + rest.length) * P.bytesOf e ≤ reachBytes := hs.1
      rw [hB, hel, hrl, show len + (cap - len) = cap by omega] at h3
      exact h3
    by_cases hc0 : cap = 0
    · subst hc0
      obtain rfl : len = 0 := by omega
      obtain ⟨b, C, E, fz, hbb⟩ := hb 0 a 0 0 rfl
      obtain ⟨c', s', e'⟩ := c.new [] ⟨b, 0, 0, 0, false⟩ ⟨C, E, fz, hbb, fun i v hv => by simp at hv, fun q => absurd rfl q, fun _ => rfl, fun _ q => by cases q⟩
      refine ⟨_, _, [.slice (some (h.length, 0)) 0 (some 0)], c', s', e', .cons (.slice _ _ _ _ _ _ _ (ext_new _ _ _) (.inl ⟨rfl, rfl, rfl⟩)) (.nil _), fun v hv => by simp at hv; subst hv; rfl, ?_⟩
      exact ⟨_, 0, [], rfl, by simp, by simp [maxLen], by simp, fun q => (by cases q), fun a b q => by cases q; exact ⟨rfl, snoc_last _ rfl⟩, fun r hr => by cases hr⟩
    -- the block that is read
    have hcell : ∃ v, w.cell? a = some v := by
      have go : ∀ {i : Nat} {z : DataW H × List MemPlace}, i = 0 → (w.cells? 0 (a.add (i * sz)) sz).bind (DataW.trod enc P w 0 (fun _ => true) true n e) = some z → ∃ v, w.cell? a = some v := by
        intro i z hi hz
        subst hi
        obtain ⟨c1, hc1, _⟩ := Option.bind_eq_some_iff.1 hz
        obtain ⟨hl1, hc2⟩ := cells_at' hc1
        have h3 := hc2 0 c1[0] (List.getElem?_eq_getElem (by omega))
        simp [Addr.add] at h3
        exact ⟨_, h3⟩
      by_cases hl : 0 < len
      · have h1 := hat 0 hl
        rw [List.getElem?_eq_getElem (by omega)] at h1
        exact go rfl h1
      · have h1 := hrat 0 (by omega)
        rw [List.getElem?_eq_getElem (by omega)] at h1
        exact go (by omega) h1
    obtain ⟨v0, hv0⟩ := hcell
    have hspot := spot_of_cell hv0
    have hB0 := HB.of_cell hv0
    obtain ⟨C, E, fz, hblk⟩ : ∃ C E fz, w.heap[a.block]? = some (.cells C E fz) := by
      unfold World.cell? at hv0
      split at hv0
      · rename_i c0 E fz hc; exact ⟨_, _, _, hc⟩
      · cases hv0
    -- its rows, one by one
    have rows : ∀ m, m ≤ len → ∃ (ι' : Mp) (h' : Heap) (rs : List (List V)), Cx ι' h' w ∧ Sub ι ι' ∧ Ext h h' ∧ rs.length = m ∧ (∀ r ∈ rs, r.length = sz ∧ Vw h' k r) ∧
        ∀ (i : Nat) (r : List V), rs[i]? = some r → ∃ cs, w.cells? 0 (a.add (i * sz)) sz = some cs ∧ RVs ι' r cs ∧ ∀ v ∈ r, v.leaf = true := by
      intro m
      induction m with
      | zero => intro _; exact ⟨ι, h, [], c, .refl _, .refl _, rfl, fun r hr => (by cases hr), fun i r q => by simp at q⟩
      | succ m ih =>
        intro hm
        obtain ⟨ι1, h1, rs, c1, s1, e1, l1, w1, r1⟩ := ih (by omega)
        have h2 := hat m (by omega)
        obtain ⟨z, hz⟩ : ∃ z, elems[m]? = some z := ⟨_, List.getElem?_eq_getElem (by omega)⟩
        rw [hz] at h2
        obtain ⟨cc, hc1, hc2⟩ := Option.bind_eq_some_iff.1 h2
        have hw : (z.1.weights P e).all (· ≤ reachBytes) = true := weightsAll_get' (i := m) hs.2.1 (by rw [List.getElem?_map, hz]; rfl)
        obtain ⟨ι2, h3, vs, c2, s2, e2, rv2, lf2, vw2⟩ := he.reads hc2 hw (fun _ _ _ _ _ => hB0) c1
        refine ⟨ι2, h3, rs ++ [vs], c2, s1.trans s2, e1.trans e2, by simp [l1], ?_, ?_⟩
        · intro r hr
          simp only [List.mem_append, List.mem_singleton] at hr
          rcases hr with hr | rfl
          · exact ⟨(w1 r hr).1, (w1 r hr).2.ext e2⟩
          · exact ⟨by rw [rv2.1, (cells_at' hc1).1], vw2⟩
        · intro i r hr
          by_cases hi : i < rs.length
          · rw [List.getElem?_append_left hi] at hr
            obtain ⟨cs, q1, q2, q3⟩ := r1 i r hr
            exact ⟨cs, q1, q2.mono s2, q3⟩
          · rw [List.getElem?_append_right (by omega)] at hr
            have : i - rs.length = 0 := by
              have := (List.getElem?_eq_some_iff.1 hr).1
              simp at this; omega
            rw [this] at hr
            simp at hr
            subst hr
            obtain rfl : i = m := by omega
            exact ⟨cc, hc1, rv2, lf2⟩
    obtain ⟨ι1, h1, rs, c1, s1, e1, l1, w1, r1⟩ := rows len (Nat.le_refl _)
    have hrs : ∀ r ∈ rs, r.length = sz := fun r hr => (w1 r hr).1
    have ea : a = ⟨a.block, a.off, none⟩ := by cases a; simp at hspot; simp [hspot]
    have hok : ∀ κ, Sub ι1 κ → OK κ w ⟨a.block, a.off, 0, 0, false⟩ (.cells rs.flatten .ro) := by
      intro κ sk
      refine ⟨C, E, fz, hblk, ?_, fun q => absurd rfl q, fun _ => rfl, fun _ q => by cases q⟩
      intro q v hv
      obtain ⟨i, j, r, h2, h3, rfl⟩ := flatten_get hrs hv
      obtain ⟨cs, q1, q2, q3⟩ := r1 i r h2
      obtain ⟨cv, h4, h5⟩ := q2.get h3
      have h6 := (cells_at' q1).2 j cv h4
      refine ⟨q3 v (List.mem_of_getElem? h3), cv, ?_, h5.mono sk⟩
      rw [ea, addr_add, addr_add] at h6
      unfold World.cell? at h6
      rw [hblk] at h6
      simpa [Nat.add_assoc] using h6
    obtain ⟨c2, s2, e2⟩ := c1.new rs.flatten ⟨a.block, a.off, 0, 0, false⟩ (hok _ (ext_sub (c1.free _ (Nat.le_refl _))))
    refine ⟨_, _, [.slice (some (h1.length, 0)) len (some cap)], c2, s1.trans s2, e1.trans e2, .cons (.slice _ _ _ _ _ _ _ (ext_new _ _ _) (.inr ⟨rfl, hspot, rfl, hlc, .inr rfl⟩)) (.nil _), fun v hv => by simp at hv; subst hv; rfl, ?_⟩
    exact ⟨_, cap, rs, by rw [l1], by omega, hcm, hcB, fun q => (by cases q), fun a b q => by cases q; exact ⟨rfl, snoc_last _ rfl⟩, fun r hr => ⟨(w1 r hr).1, (w1 r hr).2.ext e2⟩⟩⟩
/-- Fields in line, from a place on. -/
structure OpnF (P : Program) (fs : List Field) (off sz : Nat) (k : Kn) : Prop where
  out : ∀ {H : Type} {enc : TypeId × Value → H} {w : World} {n : Nat} {cs : List Value} {xs : List (DataW H × List MemPlace)}, cs.length = off + sz → xs.length = fs.length →
    (∀ (i : Nat) (f : Field), fs[i]? = some f → DataW.trod enc P w 0 (fun _ => true) true n f.type ((cs.drop f.offset).take (P.cellsOf f.type)) = xs[i]?) →
    (DataW.weightsEach P (fs.map (·.type)) (xs.map (·.1))).all (· ≤ reachBytes) = true → (∀ (i : Nat) a l c, cs[i]? = some (.slice (some a) l c) → HB w) →
    ∀ {ι : Mp} {h : Heap}, Cx ι h w → ∃ (ι' : Mp) (h' : Heap) (vs : List V), Cx ι' h' w ∧ Sub ι ι' ∧ Ext h h' ∧ RVs ι' vs (cs.drop off) ∧ (∀ v ∈ vs, v.leaf = true) ∧ Vw h' k vs
theorem sub_hb {w : World} {cs : List Value} (hb : ∀ (i : Nat) a l c, cs[i]? = some (.slice (some a) l c) → HB w) (o m : Nat) : ∀ (i : Nat) a l c, ((cs.drop o).take m)[i]? = some (.slice (some a) l c) → HB w := fun i a l c h => by
  rw [List.getElem?_take] at h
  split at h
  · rw [List.getElem?_drop] at h; exact hb _ a l c h
  · cases h
theorem OpnF.one {P : Program} {f : Field} {off sz : Nat} {k : Kn} (ho : f.offset = off) (hsz : P.cellsOf f.type = sz) (h : Opn P f.type k) : OpnF P [f] off sz k := by
  constructor
  intro H enc w n cs xs hl hx hat hs hb ι hh c
  match xs, hx with
  | [x], _ =>
    have h1 := hat 0 f rfl
    have hb' := sub_hb hb f.offset (P.cellsOf f.type)
    rw [ho, hsz, List.take_of_length_le (by rw [List.length_drop]; omega)] at h1 hb'
    simp only [List.map_cons, List.map_nil, DataW.weightsEach, List.append_nil] at hs
    exact h.reads h1 hs hb' c
theorem OpnF.cons {P : Program} {f : Field} {fs : List Field} {off s1 s2 : Nat} {a b : Kn} (ho : f.offset = off) (hsz : P.cellsOf f.type = s1) (h : Opn P f.type a) (k : OpnF P fs (off + s1) s2 b) : OpnF P (f :: fs) off (s1 + s2) (.cat a b) := by
  constructor
  intro H enc w n cs xs hl hx hat hs hb ι hh c
  match xs, hx with
  | x :: xs, hx =>
    have h1 := hat 0 f rfl
    have hb' := sub_hb hb f.offset (P.cellsOf f.type)
    rw [ho, hsz] at h1 hb'
    simp only [List.map_cons, DataW.weightsEach, List.all_append, Bool.and_eq_true] at hs
    obtain ⟨ι1, g1, v1, c1, q1, e1, r1, l1, w1⟩ := h.reads h1 hs.1 hb' c
    obtain ⟨ι2, g2, v2, c2, q2, e2, r2, l2, w2⟩ := k.out (enc := enc) (w := w) (n := n) (cs := cs) (xs := xs) (by omega) (by simpa using hx) (fun i g hg => hat (i + 1) g hg) hs.2 hb c1
    refine ⟨ι2, g2, v1 ++ v2, c2, q1.trans q2, e1.trans e2, ?_, ?_, v1, v2, rfl, w1.ext e2, w2⟩
    · have := (r1.mono q2).append r2
      rwa [← List.drop_drop, List.take_append_drop] at this
    · intro v hv
      simp only [List.mem_append] at hv
      exact hv.elim (l1 v) (l2 v)
theorem Opn.struct {P : Program} {t : TypeId} {fs : Array Field} {sz : Nat} {k : Kn} (ht : P.underlying t = some (.struct fs)) (hc : P.cellsOf t = sz) (h : OpnF P fs.toList 0 sz k) : Opn P t k :=
  ⟨fun {H enc w fuel cs x} hx hs hb {ι hh} c => by
    obtain ⟨xs, n, _, rfl, hl, hxl, hat⟩ := DataW.trod_struct ht hx
    simp only [DataW.weights, ht] at hs
    have := h.out (by omega) (by simpa using hxl) (fun i f hf => hat i f (by simpa using hf)) hs hb c
    simpa using this⟩

/-! ### arguments -/
theorem sized_cons' {H : Type} {P : Program} {t : TypeId} {ts : List TypeId} {d : DataW H} {ds : List (DataW H)} (h : (DataW.weightsEach P (t :: ts) (d :: ds)).all (· ≤ reachBytes) = true) :
    (d.weights P t).all (· ≤ reachBytes) = true ∧ (DataW.weightsEach P ts ds).all (· ≤ reachBytes) = true := by
  simp only [DataW.weightsEach, List.all_append, Bool.and_eq_true] at h
  exact h
theorem cell_hb {P : Program} {w : World} {r : Reach} {base : Nat} {t : TypeId} {a : Addr} {l c : Nat} (h : Cell.okWide P w r base t (.slice (some a) l c)) : HB w := by
  have aux : ∀ e n, w.has P r base a e n → HB w := by
    intro e n ⟨_, _, row, cells, hs, _⟩
    unfold World.shape? at hs
    split at hs
    · rename_i c E fz hc; exact ⟨_, _, _, _, hc⟩
    · cases hs
  unfold Cell.okWide at h
  split at h <;> try simp_all
  unfold Cell.ok at h
  split at h <;> simp_all
  exact aux _ _ h.2.2
/-- A value that is handed in, as it is told. -/
def ArgV : Bool → Kn → Heap → V → Prop
  | true, k, h, v => ∃ vs, v = .agg vs ∧ Vw h k vs
  | false, k, h, v => Vw h k [v]
theorem ArgV.ext {h hh : Heap} (e : Ext h hh) {b : Bool} {k : Kn} {v : V} (q : ArgV b k h v) : ArgV b k hh v := by
  cases b
  · exact Vw.ext e q
  · obtain ⟨vs, h1, h2⟩ := q; exact ⟨vs, h1, h2.ext e⟩
theorem Opn.argS {P : Program} {t : TypeId} {fs : Array Field} {k : Kn} (ht : P.underlying t = some (.struct fs)) (h : Opn P t k) {H : Type} {enc : TypeId × Value → H} {w : World} {r : Reach} {base : Nat} {v : Value} {x : DataW H} {ps : List MemPlace}
    (hok : Value.okWide P w r base t v) (hx : DataW.Trod enc P w 0 (fun _ => true) true t v x ps) (hs : (x.weights P t).all (· ≤ reachBytes) = true) {ι : Mp} {hh : Heap} (c : Cx ι hh w) :
    ∃ (ι' : Mp) (h' : Heap) (u : V), Cx ι' h' w ∧ Sub ι ι' ∧ Ext hh h' ∧ RV ι' u v ∧ ArgV true k h' u := by
  obtain ⟨fuel, hf⟩ := hx
  simp only [Value.okWide, ht] at hok
  obtain ⟨cs, rfl, hsz, ts, h1, h2, h3⟩ := hok
  have hcs : (Value.agg cs).cells.toList = cs.toList := rfl
  rw [hcs] at hf
  obtain ⟨ι', h', vs, c', s', e', r', l', w'⟩ := h.reads hf hs (fun i a l c' hi => by
    obtain ⟨u, _, hu⟩ := h3 i _ (by simpa using hi)
    exact cell_hb hu) c
  exact ⟨ι', h', .agg vs, c', s', e', .agg vs cs (by simpa using r'.1) (fun i v c a b => r'.2 i v c a (by simpa using b)), vs, rfl, w'⟩
theorem Opn.argL {P : Program} {t : TypeId} {k : Kn} {D : TypeDesc} (ht : P.underlying t = some D) (hD : aggD D = false) (h : Opn P t k) {H : Type} {enc : TypeId × Value → H} {w : World} {r : Reach} {base : Nat} {v : Value} {x : DataW H} {ps : List MemPlace}
    (hok : Value.okWide P w r base t v) (hx : DataW.Trod enc P w 0 (fun _ => true) true t v x ps) (hs : (x.weights P t).all (· ≤ reachBytes) = true) (hone : v.cells = #[v]) {ι : Mp} {hh : Heap} (c : Cx ι hh w) :
    ∃ (ι' : Mp) (h' : Heap) (u : V), Cx ι' h' w ∧ Sub ι ι' ∧ Ext hh h' ∧ RV ι' u v ∧ ArgV false k h' u := by
  obtain ⟨fuel, hf⟩ := hx
  rw [hone] at hf
  obtain ⟨ι', h', vs, c', s', e', r', l', w'⟩ := h.reads hf hs (fun i a l c' hi => by
    cases i with
    | zero =>
      simp at hi
      subst hi
      unfold Value.okWide at hok
      rw [ht] at hok
      cases D <;> first | (simp [aggD] at hD; done) | exact cell_hb hok
    | succ i => simp at hi) c
  have hl := r'.1
  simp at hl
  obtain ⟨u, rfl⟩ : ∃ u, vs = [u] := by
    match vs, hl with
    | [u], _ => exact ⟨u, rfl⟩
  exact ⟨ι', h', u, c', s', e', r'.2 0 u v rfl (by simp), w'⟩
end Go.Proofs.YtcaolnmpldbkjaaGreatA
