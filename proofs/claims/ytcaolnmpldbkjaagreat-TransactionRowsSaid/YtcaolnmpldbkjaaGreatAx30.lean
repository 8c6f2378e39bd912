/- Words of this session: a slice of open capacity, told again as one of known capacity, and told back: for functions of Go's library that look at capacities. -/
import Derived.Test.YtcaolnmpldbkjaaGreatAx29
namespace Go.Proofs.YtcaolnmpldbkjaaGreatA
open Go Go.RowKit
set_option linter.unusedVariables false
set_option linter.unusedSimpArgs false
theorem RV.keep {ι κ : Mp} (hs : Sub ι κ) {v : V} {c : Value} (h : RV κ v c) : ∀ {c0 : Value}, RV ι v c0 → RV ι v c := by
  induction h with
  | bool b => intro c0 _; exact .bool b
  | int k n => intro c0 _; exact .int k n
  | str s b h => intro c0 _; exact .str s b h
  | ptrN => intro c0 _; exact .ptrN
  | ptr id off pl h =>
    intro c0 h0
    cases h0 with
    | ptr _ _ pl0 h1 =>
      have := hs _ _ h1
      rw [h] at this; cases this
      exact .ptr id off pl h1
  | sliceN => intro c0 _; exact .sliceN
  | slice id off len cap c a pl h h2 =>
    intro c0 h0
    cases h0 with
    | slice _ _ _ _ _ _ pl0 h1 _ =>
      have := hs _ _ h1
      rw [h] at this; cases this
      exact .slice id off len cap c a pl h1 h2
  | mapN => intro c0 _; exact .mapN
  | map id pl h =>
    intro c0 h0
    cases h0 with
    | map _ pl0 h1 =>
      have := hs _ _ h1
      rw [h] at this; cases this
      exact .map id pl h1
  | func f a b A B ha hb h1 h2 i1 i2 =>
    intro c0 h0
    cases h0 with
    | func _ _ _ A0 B0 ha0 hb0 g1 g2 =>
      refine .func f a b A B ha hb (fun i v c x y => ?_) (fun i v c x y => ?_)
      · have hi : i < A0.size := by rw [← ha0]; exact (List.getElem?_eq_some_iff.1 x).1
        exact i1 i v c x y (g1 i v A0[i] x (Array.getElem?_eq_getElem hi))
      · have hi : i < B0.size := by rw [← hb0]; exact (List.getElem?_eq_some_iff.1 x).1
        exact i2 i v c x y (g2 i v B0[i] x (Array.getElem?_eq_getElem hi))
  | nilFunc => intro c0 _; exact .nilFunc
  | iface t v x h ih =>
    intro c0 h0
    cases h0 with
    | iface _ _ _ h1 => exact .iface t v x (ih h1)
  | nilIface => intro c0 _; exact .nilIface
  | agg cs C hl h ih =>
    intro c0 h0
    cases h0 with
    | agg _ C0 hl0 h1 =>
      refine .agg cs C hl fun i v c x y => ?_
      have hi : i < C0.size := by rw [← hl0]; exact (List.getElem?_eq_some_iff.1 x).1
      exact ih i v c x y (h1 i v C0[i] x (Array.getElem?_eq_getElem hi))
  | tuple cs C hl h ih =>
    intro c0 h0
    cases h0 with
    | tuple _ C0 hl0 h1 =>
      refine .tuple cs C hl fun i v c x y => ?_
      have hi : i < C0.size := by rw [← hl0]; exact (List.getElem?_eq_some_iff.1 x).1
      exact ih i v c x y (h1 i v C0[i] x (Array.getElem?_eq_getElem hi))
/-- A cell that stands for no block. -/
def Cst (v : V) : Prop := v.leaf = true ∧ ∃ c, RV (fun _ => none) v c
theorem none_sub (ι : Mp) : Sub (fun _ => none) ι := fun _ _ h => by cases h
theorem Cst.rv {v : V} (h : Cst v) (ι : Mp) : ∃ c, RV ι v c := let ⟨c, q⟩ := h.2; ⟨c, q.mono (none_sub ι)⟩
/-- What a block of cells stands for is known. -/
theorem block_known {ι : Mp} {h : Heap} {w : World} (hr : Rel ι h w) {i : Nat} {pl : Pl} (hi : ι i = some pl) {cs : List V} {k : Kd} (hb : h[i]? = some (.cells cs k)) : ∀ v ∈ cs, ∃ x, RV ι v x := by
  intro v hv
  obtain ⟨C, E, fz, _, h2, _⟩ := hr.ok i pl _ hi hb
  obtain ⟨j, hj, rfl⟩ := List.getElem_of_mem hv
  obtain ⟨_, c, _, hc⟩ := h2 j _ (List.getElem?_eq_getElem hj)
  exact ⟨c, hc⟩
/-- A slice at the end of a block that may grow, told as one of known capacity. -/
theorem opened {ι : Mp} {h : Heap} {w : World} (hr : Rel ι h w) {id off len e : Nat} {cs : List V} (hb : h[id]? = some (.cells cs (.gr e))) (hend : off + len * e = cs.length) {X : Value} (hX : RV ι (.slice (some (id, off)) len none) X) :
    ∃ A c sp pl, X = .slice (some A) len c ∧ ι id = some pl ∧ len ≤ c ∧ off + c * e ≤ (cs ++ sp).length ∧ (∀ v ∈ sp, Cst v) ∧ RV ι (.slice (some (id, off)) len (some c)) X ∧ Rel ι (h.set id (.cells (cs ++ sp) (.gr e))) w ∧
      (1 ≤ c → A = ⟨pl.blk, pl.off + off, none⟩ ∧ off + c * e = pl.tot ∧ (cs ++ sp).length = pl.tot) := by
  cases hX with
  | slice _ _ _ _ c A pl hi hs =>
    have hs := hs.resolve_left (by rintro ⟨_, q, _⟩; cases q)
    obtain ⟨hA1, hA2, hs⟩ := hs
    obtain ⟨C, E, fz, h1, h2, h3, h4, h5⟩ := hr.ok id pl _ hi hb
    obtain ⟨g1, g2, g3, g4⟩ := h5 e rfl
    subst g2
    -- the cells behind
    have hsp : ∃ sp : List V, sp.length = pl.tot - cs.length ∧ ∀ i v, sp[i]? = some v → v.leaf = true ∧ ∃ x, C[pl.off + cs.length + i]? = some x ∧ RV (fun _ => none) v x := by
      have : ∀ n, n ≤ pl.tot - cs.length → ∃ sp : List V, sp.length = n ∧ ∀ i v, sp[i]? = some v → v.leaf = true ∧ ∃ x, C[pl.off + cs.length + i]? = some x ∧ RV (fun _ => none) v x := by
        intro n
        induction n with
        | zero => intro _; exact ⟨[], rfl, fun i v q => by simp at q⟩
        | succ n ih =>
          intro hn
          obtain ⟨sp, l, hsp⟩ := ih (by omega)
          obtain ⟨v, x, hv1, hv2, hv3⟩ := g4 (pl.off + cs.length + n) (by omega) (by omega)
          refine ⟨sp ++ [v], by simp [l], fun i u hu => ?_⟩
          by_cases hi' : i < sp.length
          · rw [List.getElem?_append_left hi'] at hu; exact hsp i u hu
          · rw [List.getElem?_append_right (by omega)] at hu
            have : i - sp.length = 0 := by
              have := (List.getElem?_eq_some_iff.1 hu).1
              simp at this; omega
            rw [this] at hu
            simp at hu
            subst hu
            obtain rfl : i = n := by omega
            exact ⟨hv1, x, hv2, hv3⟩
      exact this _ (Nat.le_refl _)
    obtain ⟨sp, hsl, hsp⟩ := hsp
    have hlt := lt_of_some hb
    have hcl : cs.length ≤ pl.tot → (cs ++ sp).length = pl.tot := fun q => by rw [List.length_append, hsl]; omega
    have hcap : len ≤ c ∧ off + c * pl.esz ≤ (cs ++ sp).length := by
      rcases hs with ⟨_, q2, q3⟩ | ⟨q1, q2⟩
      · have h9 := q3 g1
        have : len * pl.esz ≤ c * pl.esz := Nat.mul_le_mul_right _ q2
        exact ⟨q2, by rw [hcl (by omega), h9]; exact Nat.le_refl _⟩
      · subst q1; subst q2
        refine ⟨Nat.le_refl _, ?_⟩
        rw [hend, List.length_append]; omega
    refine ⟨A, c, sp, pl, rfl, hi, hcap.1, hcap.2, ?_, ?_, ?_, ?_⟩
    · intro v hv
      obtain ⟨j, hj, rfl⟩ := List.getElem_of_mem hv
      obtain ⟨a, x, _, b⟩ := hsp j _ (List.getElem?_eq_getElem hj)
      exact ⟨a, x, b⟩
    · refine .slice _ _ _ _ _ _ pl hi ?_
      rcases hs with ⟨q1, q2, q3⟩ | ⟨q1, q2⟩
      · exact .inr ⟨hA1, hA2, rfl, q2, .inr q1⟩
      · subst q1; subst q2; exact .inl ⟨rfl, rfl, rfl⟩
    · have hcase : ∀ j y, (h.set id (.cells (cs ++ sp) (.gr pl.esz)))[j]? = some y → (j = id ∧ y = .cells (cs ++ sp) (.gr pl.esz)) ∨ (j ≠ id ∧ h[j]? = some y) := by
        intro j y hy
        by_cases e : j = id
        · subst e; rw [List.getElem?_set_self hlt] at hy; cases hy; exact .inl ⟨rfl, rfl⟩
        · rw [List.getElem?_set_ne (Ne.symm e)] at hy; exact .inr ⟨e, hy⟩
      refine ⟨fun j q y f1 f2 => ?_, fun i j pi pj oi oj hij f1 f2 f3 f4 f5 f6 => ?_⟩
      · rcases hcase j y f2 with ⟨rfl, rfl⟩ | ⟨_, f3⟩
        · rw [hi] at f1; cases f1
          refine ⟨C, E, fz, h1, fun i v hv => ?_, fun _ => h3 (by simp), (fun q => by cases q), fun e' he' => ?_⟩
          · by_cases hic : i < cs.length
            · rw [List.getElem?_append_left hic] at hv; exact h2 i v hv
            · rw [List.getElem?_append_right (by omega)] at hv
              obtain ⟨a, x, b, d⟩ := hsp _ v hv
              exact ⟨a, x, by rw [← b]; congr 1; omega, d.mono (none_sub ι)⟩
          cases he'
          exact ⟨g1, rfl, g3, fun j hj hjt => by rw [List.length_append, hsl] at hj; omega⟩
        · exact hr.ok j q y f1 f3
      · have aux : ∀ (j : Nat) (y : O), (h.set id (.cells (cs ++ sp) (.gr pl.esz)))[j]? = some y → ∃ y' : O, h[j]? = some y' ∧ (y.wr = true → y'.wr = true) ∧ (y.alive = true → y'.alive = true) := by
          intro j y hy
          rcases hcase j y hy with ⟨rfl, rfl⟩ | ⟨_, q⟩
          · exact ⟨_, hb, fun _ => rfl, fun _ => rfl⟩
          · exact ⟨y, q, fun z => z, fun z => z⟩
        obtain ⟨oi', a1, a2, _⟩ := aux i oi f3
        obtain ⟨oj', b1, _, b3⟩ := aux j oj f4
        exact hr.sep i j pi pj oi' oj' hij f1 f2 a1 b1 (a2 f5) (b3 f6)
    · intro hc1
      rcases hs with ⟨q1, q2, q3⟩ | ⟨q1, q2⟩
      · have h9 := q3 g1
        have : len * pl.esz ≤ c * pl.esz := Nat.mul_le_mul_right _ q2
        refine ⟨?_, h9, hcl (by omega)⟩
        cases A; simp at hA1 hA2 q1; simp [hA1, hA2, q1]
      · omega
/-- What must come of the walk for every capacity. -/
structure Came (h : Heap) (id off len e : Nat) (cs sp : List V) (c m : Nat) (new : List V) (r : V) (h' : Heap) : Prop where
  short : h'.length ≤ h.length + 1
  old : ∀ i, i < h.length → i ≠ id → h'[i]? = h[i]?
  came : (r = .slice (some (id, off)) m (some c) ∧ m ≤ c ∧ ∃ cs2, h'[id]? = some (.cells cs2 (.gr e)) ∧ cs2.length = (cs ++ sp).length ∧ (cs2.drop off).take (m * e) = new ∧ ∀ v ∈ cs2.drop (off + m * e), Cst v) ∨
    (∃ j, r = .slice (some (j, 0)) m none ∧ h.length ≤ j ∧ h'[j]? = some (.cells new (.gr e)))
section
variable {P : Program} {H0 : Hooks}
theorem sound_of (hm : P.follows .mixedOrders = true) (hN : Named P) (hH : SoundH P H0) : SoundC P (callE P H0) := by
  intro f args h v h' hq
  obtain ⟨n, hn⟩ := callE_cont hq
  exact hookV_sound hH (callV_sound hN fun c s r hr => code_goes hN hH (drawV_sound hm) n c s r hr) f args h v h' hn
/-- The block that holds a result takes a name of its own; what else the walk made is left. -/
theorem finish {h h1 h' : Heap} {id id1 : Nat} {ι κ : Mp} {w w' : World} {pl1 : Pl} {o1 : O} {C1 : Array Value} {E1 : TypeId} {fz1 : Nat × Nat} {off1 tot1 e : Nat} {new : List V} (hr : Rel ι h w) (hlt : id < h.length)
    (ho : ∀ (j : Nat) (y : O), h1[j]? = some y → ∃ y' : O, h[j]? = some y' ∧ y.wr = y'.wr ∧ y.alive = y'.alive) (st : Stp ι h1 w κ h' w') (hold : ∀ i, i < h.length → i ≠ id → h'[i]? = h[i]?) (hfr : ι h.length = none)
    (k1 : κ id1 = some pl1) (k2 : h'[id1]? = some o1) (k3 : o1.wr = true) (k4 : w'.heap[pl1.blk]? = some (.cells C1 E1 fz1)) (k5 : id1 = id ∨ h.length ≤ id1)
    (k6 : ∀ (i : Nat) (v : V), new[i]? = some v → v.leaf = true ∧ ∃ u, C1[pl1.off + off1 + i]? = some u ∧ RV κ v u) (k7 : fz1.1 = fz1.2 ∨ C1.size ≤ fz1.1) (k8 : pl1.off + off1 + tot1 ≤ C1.size) (k9 : Spare new.length (pl1.off + off1) tot1 C1) (hknown : ∀ v ∈ new, ∃ x, RV ι v x) :
    Stp ι h w (ext ι h.length ⟨pl1.blk, pl1.off + off1, tot1, e, true⟩) (h.set id .dead ++ [.cells new (.gr e)]) w' := by
  have hlen2 : (h.set id .dead).length = h.length := by simp
  have hsub := ext_sub (pl := ⟨pl1.blk, pl1.off + off1, tot1, e, true⟩) hfr
  have hcase : ∀ (j : Nat) (q : Pl) (y : O), ext ι h.length ⟨pl1.blk, pl1.off + off1, tot1, e, true⟩ j = some q → (h.set id .dead ++ [O.cells new (.gr e)])[j]? = some y →
      (j = h.length ∧ q = ⟨pl1.blk, pl1.off + off1, tot1, e, true⟩ ∧ y = .cells new (.gr e)) ∨ (j = id ∧ y = .dead) ∨ (j < h.length ∧ j ≠ id ∧ ι j = some q ∧ h[j]? = some y ∧ h'[j]? = some y) := by
    intro j q y h3 h4
    by_cases e1 : j = h.length
    · subst e1
      rw [ext_new] at h3
      rw [snoc_last _ hlen2.symm] at h4
      cases h3; cases h4
      exact .inl ⟨rfl, rfl, rfl⟩
    · right
      have hj : j < h.length := by have := lt_of_some h4; simp at this; omega
      have h5 : ι j = some q := by simpa [Go.Proofs.YtcaolnmpldbkjaaGreatA.ext, e1] using h3
      rw [snoc_old _ (by omega)] at h4
      by_cases e2 : j = id
      · subst e2
        rw [set_same _ hlt] at h4
        cases h4; exact .inl ⟨rfl, rfl⟩
      · rw [set_other _ e2] at h4
        exact .inr ⟨hj, e2, h5, h4, by rw [hold j hj e2]; exact h4⟩
  have hwr : ∀ b, Wr ι h1 b → Wr ι h b := by
    rintro b ⟨j, q, y, a1, a2, a3, a4⟩
    obtain ⟨y', b1, b2, _⟩ := ho j y a2
    exact ⟨j, q, y', a1, b1, by rw [← b2]; exact a3, a4⟩
  have hal : ∀ b, Al ι h1 b → Al ι h b := by
    rintro b ⟨j, q, y, a1, a2, a3, a4⟩
    obtain ⟨y', b1, _, b2⟩ := ho j y a2
    exact ⟨j, q, y', a1, b1, by rw [← b2]; exact a3, a4⟩
  refine ⟨hsub, ?_, ⟨?_, ?_⟩, ?_, ?_, st.os, st.tape, st.output, st.size, fun b hb hn => st.frame b hb fun q => hn (hwr b q), by simp, st.drawn⟩
  · intro j q hq
    by_cases e1 : j = h.length
    · exact .inr ⟨by omega, by simp; omega⟩
    · exact .inl (by simpa [Go.Proofs.YtcaolnmpldbkjaaGreatA.ext, e1] using hq)
  · intro j q y h3 h4
    rcases hcase j q y h3 h4 with ⟨_, rfl, rfl⟩ | ⟨_, rfl⟩ | ⟨hj, hne, h5, h6, h7⟩
    · refine ⟨C1, E1, fz1, k4, fun i v hv => ?_, fun _ => k7.imp_right fun q => ⟨q, by simp⟩, (fun q => by cases q), fun e' he => ?_⟩
      · obtain ⟨ul, u, u1, u2⟩ := k6 i v hv
        obtain ⟨x, hx⟩ := hknown v (List.mem_of_getElem? hv)
        exact ⟨ul, u, u1, (u2.keep st.sub hx).mono hsub⟩
      · cases he; exact ⟨rfl, rfl, k8, k9⟩
    · trivial
    · have ok1 := st.rel.ok j q y (st.sub _ _ h5) h7
      have ok0 := hr.ok j q y h5 h6
      cases y with
      | dead => trivial
      | cells cs k =>
        obtain ⟨C, E, fz, a1, a2, a3⟩ := ok1
        obtain ⟨C0, E0, fz0, b1, b2, _⟩ := ok0
        refine ⟨C, E, fz, a1, fun i v hv => ?_, a3⟩
        obtain ⟨ul, u, u1, u2⟩ := a2 i v hv
        obtain ⟨_, x, _, hx⟩ := b2 i v hv
        exact ⟨ul, u, u1, (u2.keep st.sub hx).mono hsub⟩
      | map es cl =>
        obtain ⟨ES, a1, a2, a3⟩ := ok1
        obtain ⟨ES0, b1, b2, b3⟩ := ok0
        refine ⟨ES, a1, a2, fun i k v b e' x y => ?_⟩
        obtain ⟨p1, p2, p3⟩ := a3 i k v b e' x y
        have hi : i < ES0.size := by rw [← b2]; exact (List.getElem?_eq_some_iff.1 x).1
        obtain ⟨q1, q2, _⟩ := b3 i k v b ES0[i] x (Array.getElem?_eq_getElem hi)
        exact ⟨(p1.keep st.sub q1).mono hsub, (p2.keep st.sub q2).mono hsub, p3⟩
  · intro i j pi pj oi oj hij h3 h4 h5 h6 h7 h8
    rcases hcase i pi oi h3 h5 with ⟨e1, rfl, rfl⟩ | ⟨_, rfl⟩ | ⟨ai, hni, a1, a2, a3⟩
    · rcases hcase j pj oj h4 h6 with ⟨e2, rfl, rfl⟩ | ⟨_, rfl⟩ | ⟨bj, hnj, b1, b2, b3⟩
      · omega
      · cases h8
      · exact st.rel.sep id1 j pl1 pj o1 oj (by rcases k5 with q | q <;> omega) k1 (st.sub _ _ b1) k2 b3 k3 h8
    · cases h7
    · rcases hcase j pj oj h4 h6 with ⟨e2, rfl, rfl⟩ | ⟨_, rfl⟩ | ⟨bj, hnj, b1, b2, b3⟩
      · exact st.rel.sep i id1 pi pl1 oi o1 (by rcases k5 with q | q <;> omega) (st.sub _ _ a1) k1 a3 k2 h7 (O.wr_alive k3)
      · cases h8
      · exact st.rel.sep i j pi pj oi oj hij (st.sub _ _ a1) (st.sub _ _ b1) a3 b3 h7 h8
  · rintro b ⟨j, q, y, h3, h4, h5, h6⟩
    rcases hcase j q y h3 h4 with ⟨_, rfl, rfl⟩ | ⟨_, rfl⟩ | ⟨_, _, b1, b2, b3⟩
    · exact (st.own b ⟨id1, pl1, o1, k1, k2, k3, h6⟩).imp (hwr b) fun z => z
    · cases h5
    · exact .inl ⟨j, q, y, b1, b2, h5, h6⟩
  · rintro b ⟨j, q, y, h3, h4, h5, h6⟩
    rcases hcase j q y h3 h4 with ⟨_, rfl, rfl⟩ | ⟨_, rfl⟩ | ⟨_, _, b1, b2, b3⟩
    · exact (st.alv b ⟨id1, pl1, o1, k1, k2, O.wr_alive k3, h6⟩).imp (hal b) fun z => z
    · cases h5
    · exact .inl ⟨j, q, y, b1, b2, h5, h6⟩
theorem open_sound (hm : P.follows .mixedOrders = true) (hN : Named P) (hH : SoundH P H0) {f : FuncId} {rest : List V} {h : Heap} {id off len e m : Nat} {cs new : List V} (hb : h[id]? = some (.cells cs (.gr e))) (he : 1 ≤ e) (hend : off + len * e = cs.length) (hpos : 1 ≤ len ∨ 1 ≤ m) (hnl : new.length = m * e)
    (hrun : ∀ sp c, len ≤ c → off + c * e ≤ (cs ++ sp).length → (∀ v ∈ sp, Cst v) → WR (callE P H0 f (.slice (some (id, off)) len (some c) :: rest) (h.set id (.cells (cs ++ sp) (.gr e)))) (Came h id off len e cs sp c m new))
    {ι : Mp} {w : World} {A : Array Value} (hr : Rel ι h w) (ha : RVs ι (.slice (some (id, off)) len none :: rest) A.toList) (hfree : Free ι h.length (h.length + 1)) (hknown : ∀ v ∈ new, ∃ x, RV ι v x) :
    CallsTo P f A w fun x w' => ∃ κ, RV κ (.slice (some (h.length, 0)) m none) x ∧ Stp ι h w κ (h.set id .dead ++ [.cells new (.gr e)]) w' := by
  obtain ⟨X, As, hAs, hX, hrest⟩ := ha.head
  obtain ⟨Aa, c, sp, pl, rfl, hi, hlc, hfit, hsp, hX', hr', hbig⟩ := opened hr hb hend hX
  obtain ⟨r, h', hq, hcame⟩ := hrun sp c hlc hfit hsp
  have hlt := lt_of_some hb
  obtain ⟨hshort, hold, hcame⟩ := hcame
  have hs := sound_of hm hN hH f _ _ r h' hq ι w A hr' (by rw [hAs]; exact .cons hX' hrest) (fun i h1 h2 => hfree i (by simpa using h1) (by omega))
  have ho : ∀ (j : Nat) (y : O), (h.set id (.cells (cs ++ sp) (.gr e)))[j]? = some y → ∃ y' : O, h[j]? = some y' ∧ (y.wr = y'.wr) ∧ (y.alive = y'.alive) := by
    intro j y hy
    by_cases e : j = id
    · subst e; rw [List.getElem?_set_self hlt] at hy; cases hy; exact ⟨_, hb, rfl, rfl⟩
    · rw [List.getElem?_set_ne (Ne.symm e)] at hy; exact ⟨y, hy, rfl, rfl⟩
  have hfr : ι h.length = none := hfree _ (Nat.le_refl _) (by omega)
  have key : ∀ x w', (∃ κ, RV κ r x ∧ Stp ι (h.set id (.cells (cs ++ sp) (.gr e))) w κ h' w') → ∃ κ, RV κ (.slice (some (h.length, 0)) m none) x ∧ Stp ι h w κ (h.set id .dead ++ [.cells new (.gr e)]) w' := by
    rintro x w' ⟨κ, hx, st⟩
    rcases hcame with ⟨rfl, hmc, cs2, g1, g2, g3, g4⟩ | ⟨j, rfl, g1, g2⟩
    · -- in place
      have hc1 : 1 ≤ c := by omega
      obtain ⟨hAa, hct, hcl⟩ := hbig hc1
      cases hx with
      | slice _ _ _ _ c' a pl2 p1 p2 =>
        have := st.sub _ _ hi
        rw [p1] at this; cases this
        obtain ⟨q1, q2, q3, q4, q5⟩ := p2.resolve_left (by rintro ⟨_, q, _⟩; cases q; omega)
        subst q3
        obtain ⟨C, E, fz, f1, f2, f3, _, _⟩ := st.rel.ok id pl _ p1 g1
        have hce : 1 * 1 ≤ c' * e := Nat.mul_le_mul hc1 he
        have hmce : m * e ≤ c' * e := Nat.mul_le_mul_right _ hmc
        have hsz : pl.off + pl.tot ≤ C.size := by
          obtain ⟨_, u, hu, _⟩ := f2 (cs2.length - 1) cs2[cs2.length - 1] (List.getElem?_eq_getElem (by omega))
          have := (Array.getElem?_eq_some_iff.1 hu).1
          omega
        have fin := finish (e := e) (new := new) (off1 := off) (tot1 := pl.tot - off) hr hlt ho st hold hfr p1 g1 rfl f1 (.inl rfl) (fun i v hv => by
          rw [← g3] at hv
          rw [List.getElem?_take] at hv
          split at hv
          · rw [List.getElem?_drop] at hv
            obtain ⟨ul, u, hu, hu2⟩ := f2 _ v hv
            exact ⟨ul, u, by rw [Nat.add_assoc]; exact hu, hu2⟩
          · cases hv) ((f3 (by simp)).imp_right And.left) (by omega) (fun j hj hjt => by
          have hjl : j - pl.off < cs2.length := by rw [g2, hcl]; omega
          obtain ⟨_, u, hu, hu2⟩ := f2 (j - pl.off) cs2[j - pl.off] (List.getElem?_eq_getElem hjl)
          have hmem : cs2[j - pl.off] ∈ cs2.drop (off + m * e) := by
            rw [hnl] at hj
            refine List.mem_of_getElem? (i := j - pl.off - (off + m * e)) ?_
            rw [List.getElem?_drop, show off + m * e + (j - pl.off - (off + m * e)) = j - pl.off by omega]
            exact List.getElem?_eq_getElem hjl
          obtain ⟨hl, x, hx⟩ := g4 _ hmem
          exact ⟨_, u, hl, by rw [show j = pl.off + (j - pl.off) by rw [hnl] at hj; omega]; exact hu, hu2.keep (none_sub κ) hx⟩) hknown
        refine ⟨_, .slice _ _ _ _ _ _ _ (ext_new ι h.length ⟨pl.blk, pl.off + off, pl.tot - off, e, true⟩) (.inr ⟨q1, q2, .inl ⟨?_, q4, fun _ => ?_⟩⟩), fin⟩
        · show a.off = pl.off + off + 0
          omega
        · show 0 + c' * e = pl.tot - off
          omega
    · -- grown
      cases hx with
      | slice _ _ _ _ c' a pl2 p1 p2 =>
        have p2 := p2.resolve_left (by rintro ⟨_, q, _⟩; cases q)
        obtain ⟨C, E, fz, f1, f2, f3, f4, f5⟩ := st.rel.ok j pl2 _ p1 g2
        obtain ⟨f5a, f5b, f5c, f5d⟩ := f5 e rfl
        have fin := finish (e := e) (new := new) (off1 := 0) (tot1 := pl2.tot) hr hlt ho st hold hfr p1 g2 rfl f1 (.inr g1) (fun i v hv => by
          obtain ⟨ul, u, hu, hu2⟩ := f2 i v hv
          exact ⟨ul, u, by simpa using hu, hu2⟩) ((f3 (by simp)).imp_right And.left) (by simpa using f5c) (by simpa using f5d) hknown
        refine ⟨_, .slice _ _ _ _ _ _ _ (ext_new ι h.length ⟨pl2.blk, pl2.off + 0, pl2.tot, e, true⟩) ?_, fin⟩
        refine .inr ⟨p2.1, p2.2.1, ?_⟩
        rcases p2.2.2 with ⟨t1, t2, t3⟩ | t
        · exact .inl ⟨by simpa using t1, t2, fun _ => by have := t3 f5a; rw [f5b] at this; exact this⟩
        · exact .inr t
  rcases hs with ⟨hc, hs⟩ | ⟨x, w', hc, hs⟩
  · exact .inl ⟨hc, hs.mono fun e' w' ⟨x, he, hh⟩ => ⟨x, he, key x w' hh⟩⟩
  · exact .inr ⟨x, w', hc, key x w' hs⟩
end
end Go.Proofs.YtcaolnmpldbkjaaGreatA
