/- Words of this session: what holds while a statement is carried out in whatever order. -/
import Derived.Test.YtcaolnmpldbkjaaGreatAx15
namespace Go.Proofs.YtcaolnmpldbkjaaGreatA
open Go Go.RowKit
set_option linter.unusedVariables false
set_option linter.unusedSimpArgs false

structure Inv (ops : Array Oper) (plan : List Nat) (ss : Nat → St) (ι0 : Mp) (w0 : World) (S : Nat → Prop) (ι : Mp) (Q R : Nat → Nat) (a : Act) (w : World) : Prop where
  sub : Sub ι0 ι
  dom : ∀ id pl, ι id = some pl → ι0 id = some pl ∨ ∃ p, p < plan.length ∧ S p ∧ (ss p).h.length ≤ id ∧ id < (ss (p + 1)).h.length
  q : ∀ id pl, ι id = some pl → id < (ss plan.length).h.length → Q id ≤ plan.length ∧ id < (ss (Q id)).h.length ∧ ∀ m, m < plan.length → Mut ss m id → (S m ↔ m < Q id)
  ok : ∀ id pl o, ι id = some pl → id < (ss plan.length).h.length → (ss (Q id)).h[id]? = some o → OK ι w pl o
  sep : ∀ i j pi pj oi oj, i ≠ j → ι i = some pi → ι j = some pj → i < (ss plan.length).h.length → j < (ss plan.length).h.length → (ss (Q i)).h[i]? = some oi → (ss (Q j)).h[j]? = some oj → oi.wr = true → oj.alive = true → pi.blk ≠ pj.blk
  own : ∀ id pl o, ι id = some pl → id < (ss plan.length).h.length → (ss (Q id)).h[id]? = some o → o.wr = true → Wr ι0 (ss 0).h pl.blk ∨ w0.heap.size ≤ pl.blk
  alv : ∀ id pl o, ι id = some pl → id < (ss plan.length).h.length → (ss (Q id)).h[id]? = some o → o.alive = true → Al ι0 (ss 0).h pl.blk ∨ w0.heap.size ≤ pl.blk
  r : ∀ d, R d ≤ plan.length ∧ ∀ m, m < plan.length → Wt ops plan m d → (S m ↔ m < R d)
  t : ∀ d, RV ι ((ss (R d)).t.getD d undefV) (a.tmps.getD d undef)
  tl : a.tmps.size = (ss 0).t.length
  defers : a.defers = []
  os : w.os = w0.os
  tape : w.tape = w0.tape
  output : w.output = w0.output
  size : w0.heap.size ≤ w.heap.size
  frame : ∀ b, b < w0.heap.size → ¬ Wr ι0 (ss 0).h b → w.heap[b]? = w0.heap[b]?
  drawn : w0.drawn ≤ w.drawn

section
variable {P : Program} {C : CallF} {ops : Array Oper} {bef plan : List Nat} {ss : Nat → St} {rc : Nat → Rc} {ι0 ι : Mp} {w0 w : World} {S : Nat → Prop} {Q R : Nat → Nat} {a : Act}
/-- The slots as they stand now. -/
def slots (ss : Nat → St) (R : Nat → Nat) : List V := (List.range (ss 0).t.length).map fun d => (ss (R d)).t.getD d undefV
theorem getD_none {l : List V} {d : Nat} (h : l.length ≤ d) : l.getD d undefV = undefV := by simp [List.getD, List.getElem?_eq_none h]
theorem slots_get (tr : Tr P C ops bef plan ss rc) {d : Nat} (hR : R d ≤ plan.length) : (slots ss R).getD d undefV = (ss (R d)).t.getD d undefV := by
  by_cases h : d < (ss 0).t.length
  · simp [slots, List.getD, h]
  · rw [getD_none (by simp [slots]; omega), getD_none (by rw [tr.tlen hR]; omega)]
theorem rvs_of_getD {t : List V} {A : Array Value} (hl : A.size = t.length) (h : ∀ d, RV ι (t.getD d undefV) (A.getD d undef)) : RVs ι t A.toList := by
  refine ⟨by simp [hl], fun i v c hv hc => ?_⟩
  have := h i
  have hv' : t.getD i undefV = v := by simp [List.getD, hv]
  have hc' : A.getD i undef = c := by
    have : A[i]? = some c := by simpa using hc
    simp [Array.getD_eq_getD_getElem?, this]
  rw [hv', hc'] at this
  exact this
theorem Inv.slots (inv : Inv ops plan ss ι0 w0 S ι Q R a w) (tr : Tr P C ops bef plan ss rc) : RVs ι (slots ss R) a.tmps.toList := by
  refine rvs_of_getD (by rw [inv.tl]; simp [Go.Proofs.YtcaolnmpldbkjaaGreatA.slots]) fun d => ?_
  rw [slots_get tr (inv.r d).1]
  exact inv.t d
/-- An operation finds the slots that it looks at as they stood on the way that was gone. -/
theorem Inv.look (inv : Inv ops plan ss ι0 w0 S ι Q R a w) (tr : Tr P C ops bef plan ss rc) {p : Nat} (hp : p < plan.length) (hS : ¬ S p) (hord : ∀ m, m < plan.length → m ≠ p → Ord bef plan m p ∨ Ord bef plan p m → (m < p → S m) ∧ (p < m → ¬ S m))
    {d : Nat} (hd : ClaimT ops plan p d) : (Go.Proofs.YtcaolnmpldbkjaaGreatA.slots ss R).getD d undefV = (ss p).t.getD d undefV := by
  obtain ⟨h1, h2⟩ := inv.r d
  rw [slots_get tr h1]
  refine chain (fun k => (ss k).t.getD d undefV) (fun m => Wt ops plan m d) S 0 plan.length (R d) p (Nat.zero_le _) (Nat.zero_le _) h1 hp ?_ h2 (fun m hm hne hw => hord m hm hne (tr.claimsT hm hp hne hw hd)) hS
  intro k _ hk hnw
  have hput : ∀ (t : List V) (dst : Option Tmp) (v : V), dst ≠ some d → (putV t dst v).getD d undefV = t.getD d undefV := by
    intro t dst v hne
    cases dst with
    | none => rfl
    | some e => simp only [putV, List.getD]; rw [List.getElem?_set_ne (fun x => hne (by rw [x]))]
  obtain ⟨o, ho, h | h⟩ := tr.step k plan[k] (List.getElem?_eq_getElem hk)
  · obtain ⟨_, v, _, e, _⟩ := h
    simp only [e]
    exact hput _ _ _ fun x => hnw ⟨_, o, List.getElem?_eq_getElem hk, ho, x⟩
  · obtain ⟨_, e1, e⟩ := h
    simp only [e1]
    exact hput _ _ _ fun x => hnw ⟨_, o, List.getElem?_eq_getElem hk, ho, x⟩
/-- And the blocks that it claims. -/
theorem Inv.block (hM : MonoC C) (inv : Inv ops plan ss ι0 w0 S ι Q R a w) (tr : Tr P C ops bef plan ss rc) {p : Nat} (hp : p < plan.length) (hS : ¬ S p) (hord : ∀ m, m < plan.length → m ≠ p → Ord bef plan m p ∨ Ord bef plan p m → (m < p → S m) ∧ (p < m → ¬ S m))
    {id : Nat} {pl : Pl} (hi : ι id = some pl) (hlt : id < (ss p).h.length) (hcl : Claim ss rc p id) : (ss (Q id)).h[id]? = (ss p).h[id]? := by
  have hN : (ss p).h.length ≤ (ss plan.length).h.length := (tr.mono hM (by omega) (Nat.le_refl _)).1
  obtain ⟨h1, h2, h3⟩ := inv.q id pl hi (by omega)
  refine chain (fun k => (ss k).h[id]?) (fun m => Mut ss m id) S (min (Q id) p) plan.length (Q id) p (Nat.min_le_left _ _) (Nat.min_le_right _ _) h1 hp ?_ h3 (fun m hm hne hw => hord m hm hne (tr.claims hM hm hp hne hw hcl)) hS
  intro k hk hkn hnm
  have hlen : id < (ss k).h.length := by
    rcases Nat.le_total (Q id) p with e | e
    · rw [Nat.min_eq_left e] at hk
      exact Nat.lt_of_lt_of_le h2 (tr.mono hM hk (by omega)).1
    · rw [Nat.min_eq_right e] at hk
      exact Nat.lt_of_lt_of_le hlt (tr.mono hM hk (by omega)).1
  exact Classical.byContradiction fun hne => hnm ⟨hlen, hne⟩

def maskH (N : List Nat) (h : Heap) : Heap := (List.range h.length).map fun id => if id ∈ N then (h[id]?).getD .dead else .dead
theorem maskH_length (N : List Nat) (h : Heap) : (maskH N h).length = h.length := by simp [maskH]
theorem maskH_get {N : List Nat} {h : Heap} {id : Nat} (hl : id < h.length) : (maskH N h)[id]? = if id ∈ N then h[id]? else some .dead := by
  simp only [maskH, List.getElem?_map, List.getElem?_range hl, Option.map_some]
  split
  · rw [List.getElem?_eq_getElem hl]; rfl
  · rfl

/-- One operation, in whatever order. -/
theorem Inv.exec (hC : SoundC P C) (hM : MonoC C) (hfree : Free ι0 (ss 0).h.length (ss plan.length).h.length) (inv : Inv ops plan ss ι0 w0 S ι Q R a w) (tr : Tr P C ops bef plan ss rc) {p i : Nat} (hp : p < plan.length) (hi : plan[p]? = some i) (hS : ¬ S p) (hord : ∀ m, m < plan.length → m ≠ p → Ord bef plan m p ∨ Ord bef plan p m → (m < p → S m) ∧ (p < m → ¬ S m))
    {K : Act → World → Prop} {Qx : Exit → Act → World → Prop} (hK : ∀ ι' Q' R' a' w', Inv ops plan ss ι0 w0 (fun m => S m ∨ m = p) ι' Q' R' a' w' → K a' w') : wpOp P ops Qx i K a w := by
  obtain ⟨o, ho, hstep⟩ := tr.step p i hi
  have hsl := inv.slots tr
  have hlook : ∀ d, d ∈ o.looksAt ops ∨ o.dst = some d → (Go.Proofs.YtcaolnmpldbkjaaGreatA.slots ss R).getD d undefV = (ss p).t.getD d undefV := fun d hd => inv.look tr hp hS hord ⟨i, o, hi, ho, hd⟩
  -- the guard
  have hyield : yieldV ops (Go.Proofs.YtcaolnmpldbkjaaGreatA.slots ss R) = yielded ops a.tmps := yield_eq hsl ops
  have hwant : Region.wanted o (yielded ops a.tmps) = Region.wanted o (yieldV ops (ss p).t) := by
    rw [← hyield]
    unfold Region.wanted
    cases hg : o.guard with
    | none => rfl
    | some gw =>
      obtain ⟨g, want⟩ := gw
      have : yieldV ops (Go.Proofs.YtcaolnmpldbkjaaGreatA.slots ss R) g = yieldV ops (ss p).t g := by
        unfold yieldV
        cases ht : (ops[g]?).bind (·.dst) with
        | none => rfl
        | some t =>
          have hl : t ∈ o.looksAt ops := by simp [Oper.looksAt, hg, ht]
          have e := hlook t (.inl hl)
          simp only [Option.bind_some]
          have hlen : (Go.Proofs.YtcaolnmpldbkjaaGreatA.slots ss R).length = (ss p).t.length := by rw [tr.tlen (by omega)]; simp [Go.Proofs.YtcaolnmpldbkjaaGreatA.slots]
          by_cases htl : t < (ss p).t.length
          · have e1 : (Go.Proofs.YtcaolnmpldbkjaaGreatA.slots ss R)[t]? = some ((Go.Proofs.YtcaolnmpldbkjaaGreatA.slots ss R).getD t undefV) := by simp [List.getD, List.getElem?_eq_getElem (show t < (Go.Proofs.YtcaolnmpldbkjaaGreatA.slots ss R).length by rw [hlen]; exact htl)]
            have e2 : (ss p).t[t]? = some ((ss p).t.getD t undefV) := by simp [List.getD, List.getElem?_eq_getElem htl]
            rw [e1, e2, e]
          · rw [List.getElem?_eq_none (by rw [hlen]; exact Nat.le_of_not_lt htl), List.getElem?_eq_none (Nat.le_of_not_lt htl)]
      simp only [this]
  have hN : (ss p).h.length ≤ (ss plan.length).h.length := (tr.mono hM (by omega) (Nat.le_refl _)).1
  have hN1 : (ss (p + 1)).h.length ≤ (ss plan.length).h.length := (tr.mono hM (by omega) (Nat.le_refl _)).1
  have hm1 := tr.mono1 hM hp
  -- the slots behind it
  have putGet : ∀ (t : List V) (v : V) (d : Nat), o.dst ≠ some d → (putV t o.dst v).getD d undefV = t.getD d undefV := by
    intro t v d hne
    cases hd : o.dst with
    | none => rfl
    | some e => simp only [putV, List.getD]; rw [List.getElem?_set_ne (fun x => hne (by rw [hd, x]))]
  let R' : Nat → Nat := fun d => if o.dst = some d then p + 1 else R d
  have hR' : ∀ d, R' d ≤ plan.length ∧ ∀ m, m < plan.length → Wt ops plan m d → ((S m ∨ m = p) ↔ m < R' d) := by
    intro d
    simp only [R']
    split
    · rename_i hd
      refine ⟨by omega, fun m hm hw => ?_⟩
      by_cases e : m = p
      · subst e; exact ⟨fun _ => by omega, fun _ => .inr rfl⟩
      · obtain ⟨h1, h2⟩ := hord m hm e (tr.claimsT hm hp e hw ⟨i, o, hi, ho, .inr hd⟩)
        constructor
        · rintro (h | h)
          · exact Classical.byContradiction fun hc => h2 (by omega) h
          · omega
        · intro h; exact .inl (h1 (by omega))
    · rename_i hd
      obtain ⟨h1, h2⟩ := inv.r d
      refine ⟨h1, fun m hm hw => ?_⟩
      have e : m ≠ p := by
        rintro rfl
        obtain ⟨j, o', k1, k2, k3⟩ := hw
        rw [hi] at k1; cases k1
        rw [ho] at k2; cases k2
        exact hd k3
      exact ⟨fun h => (h2 m hm hw).1 (h.resolve_right e), fun h => .inl ((h2 m hm hw).2 h)⟩
  have slotsPut : ∀ (v : V) (t1 : List V), t1 = putV (ss p).t o.dst v → ∀ (s1 : St), s1 = ss (p + 1) → s1.t = t1 → ∀ d, (putV (Go.Proofs.YtcaolnmpldbkjaaGreatA.slots ss R) o.dst v).getD d undefV = (ss (R' d)).t.getD d undefV := by
    intro v t1 e1 s1 e2 e3 d
    simp only [R']
    split
    · rename_i hd
      rw [← e2, e3, e1, hd]
      simp only [putV]
      have hlen : (Go.Proofs.YtcaolnmpldbkjaaGreatA.slots ss R).length = (ss p).t.length := by rw [tr.tlen (by omega)]; simp [Go.Proofs.YtcaolnmpldbkjaaGreatA.slots]
      by_cases hl : d < (ss p).t.length
      · simp only [List.getD]
        rw [List.getElem?_set_self (by omega), List.getElem?_set_self hl]
      · rw [getD_none (by simp; omega), getD_none (by simp; omega)]
    · rename_i hd
      rw [putGet _ _ _ hd, slots_get tr (inv.r d).1]
  unfold wpOp
  rw [ho]
  simp only
  rcases hstep with ⟨hw, v, hprim, ht1, hrc⟩ | ⟨hw, hs1, hrc⟩
  · -- it is carried out
    rw [hwant, if_pos hw]
    left
    -- what it sees
    let vis : Nat → Prop := fun id => (isCall o = false ∧ (id ∈ (touchV o (ss p).t).1 ∨ id ∈ (touchV o (ss p).t).2)) ∨ (isCall o = true ∧ ∃ y, (ss p).h[id]? = some y ∧ y ≠ .dead)
    have hclaim : ∀ id, vis id → Claim ss rc p id := by
      intro id hv
      rcases hv with ⟨h1, h2⟩ | ⟨h1, h2⟩
      · left; rw [hrc]; exact ⟨h1, h2⟩
      · right; left; rw [hrc]; exact ⟨h1, h2⟩
    have hop : ∀ x ∈ o.op.operands, ev (ss p).t x = ev (Go.Proofs.YtcaolnmpldbkjaaGreatA.slots ss R) x := by
      intro x hx
      cases x with
      | tmp d =>
        have := hlook d (.inl (List.mem_append_left _ (List.mem_filterMap.2 ⟨.tmp d, by simpa using hx, rfl⟩)))
        simp only [ev, getL_eq, this]
      | const c => rfl
      | func f => rfl
      | global g => rfl
    have hprim' : primV P C o (Go.Proofs.YtcaolnmpldbkjaaGreatA.slots ss R) (ss p).h = some (v, (ss (p + 1)).h) := by rw [← primV_congr _ hop]; exact hprim
    -- the heap that it sees, and the one that it leaves
    obtain ⟨g, g', hg, hgl, hg1, hgl', hg2, hg3⟩ : ∃ g g' : Heap, primV P C o (Go.Proofs.YtcaolnmpldbkjaaGreatA.slots ss R) g = some (v, g') ∧ g.length = (ss p).h.length ∧
        (∀ id, id < (ss p).h.length → g[id]? = some .dead ∨ (vis id ∧ g[id]? = (ss p).h[id]?)) ∧ g'.length = (ss (p + 1)).h.length ∧
        (∀ id, vis id → g[id]? = (ss p).h[id]? ∧ g'[id]? = (ss (p + 1)).h[id]?) ∧ (∀ id, (ss p).h.length ≤ id → g'[id]? = (ss (p + 1)).h[id]?) := by
      cases hcall : isCall o with
      | true =>
        refine ⟨(ss p).h, (ss (p + 1)).h, hprim', rfl, fun id hl => ?_, rfl, fun id _ => ⟨rfl, rfl⟩, fun id _ => rfl⟩
        by_cases hd : (ss p).h[id]? = some .dead
        · exact .inl hd
        · exact .inr ⟨.inr ⟨hcall, (ss p).h[id], List.getElem?_eq_getElem hl, fun e => hd (by rw [List.getElem?_eq_getElem hl, e])⟩, rfl⟩
      | false =>
        have hloc := prim_loc (P := P) (C := C) (o := o) hcall (t := (ss p).t) (ss p).h v (ss (p + 1)).h hprim
        let N := (touchV o (ss p).t).1 ++ (touchV o (ss p).t).2
        obtain ⟨g', e1, e2, e3⟩ := hloc.2 (maskH N (ss p).h) (maskH_length _ _) (fun id hid => by
          by_cases hl : id < (ss p).h.length
          · rw [maskH_get hl, if_pos (List.mem_append.2 hid)]
          · rw [List.getElem?_eq_none (by rw [maskH_length]; omega), List.getElem?_eq_none (by omega)])
        refine ⟨maskH N (ss p).h, g', by rw [← primV_congr _ hop]; exact e1, maskH_length _ _, fun id hl => ?_, e2, fun id hv => ?_, fun id hl => e3 id (.inr hl)⟩
        · rw [maskH_get hl]
          split
          · rename_i hin; exact .inr ⟨.inl ⟨hcall, List.mem_append.1 hin⟩, rfl⟩
          · exact .inl rfl
        · rcases hv with ⟨_, h2⟩ | ⟨h1, _⟩
          · refine ⟨?_, e3 id (.inl h2)⟩
            by_cases hl : id < (ss p).h.length
            · rw [maskH_get hl, if_pos (List.mem_append.2 h2)]
            · rw [List.getElem?_eq_none (by rw [maskH_length]; omega), List.getElem?_eq_none (by omega)]
          · rw [hcall] at h1; cases h1
    -- what is alive in it stands so in memory now
    have hcur : ∀ id pl y, ι id = some pl → g[id]? = some y → y ≠ .dead → id < (ss p).h.length ∧ vis id ∧ (ss p).h[id]? = some y ∧ (ss (Q id)).h[id]? = some y := by
      intro id pl y h1 h2 h3
      have hl : id < (ss p).h.length := by rw [← hgl]; exact (List.getElem?_eq_some_iff.1 h2).1
      rcases hg1 id hl with e | ⟨hv, e⟩
      · rw [e] at h2; cases h2; exact absurd rfl h3
      · rw [e] at h2
        exact ⟨hl, hv, h2, by rw [inv.block hM tr hp hS hord h1 hl (hclaim id hv)]; exact h2⟩
    have hrel : Rel ι g w := by
      refine ⟨fun id pl y h1 h2 => ?_, fun x y px py ox oy hxy h1 h2 h3 h4 h5 h6 => ?_⟩
      · by_cases hd : y = .dead
        · subst hd; trivial
        · obtain ⟨hl, _, _, hq⟩ := hcur id pl y h1 h2 hd
          exact inv.ok id pl y h1 (by omega) hq
      · obtain ⟨hl1, _, _, hq1⟩ := hcur x px ox h1 h3 (fun e => by subst e; cases h5)
        obtain ⟨hl2, _, _, hq2⟩ := hcur y py oy h2 h4 (fun e => by subst e; cases h6)
        exact inv.sep x y px py ox oy hxy h1 h2 (by omega) (by omega) hq1 hq2 h5 h6
    have hfr : Free ι g.length g'.length := by
      intro id h1 h2
      rw [hgl] at h1
      rw [hgl'] at h2
      cases hid : ι id with
      | none => rfl
      | some pl =>
        exfalso
        rcases inv.dom id pl hid with h | ⟨m, hm, hSm, h3, h4⟩
        · have h0 : (ss 0).h.length ≤ (ss p).h.length := (tr.mono hM (Nat.zero_le _) (by omega)).1
          rw [hfree id (by omega) (by omega)] at h; cases h
        · have hne : m ≠ p := fun e => hS (e ▸ hSm)
          rcases Nat.lt_or_gt_of_ne hne with e | e
          · have := (tr.mono hM (show m + 1 ≤ p by omega) (by omega)).1; omega
          · have := (tr.mono hM (show p + 1 ≤ m by omega) (by omega)).1; omega
    refine op_goes hC (s := ⟨Go.Proofs.YtcaolnmpldbkjaaGreatA.slots ss R, g⟩) hg hrel hsl inv.defers hfr fun κ a' w' ht' hd' hx hst => ?_
    obtain ⟨x, rfl, hxv⟩ := hx
    dsimp only at hst ht'
    -- a block that is not seen
    have hidden : ∀ id pl y, ι id = some pl → id < (ss plan.length).h.length → (ss (Q id)).h[id]? = some y → y.alive = true → ¬ (∃ z, g[id]? = some z ∧ z ≠ .dead) → pl.blk < w.heap.size ∧ ¬ Wr ι g pl.blk ∧ ¬ (y.wr = true ∧ Al ι g pl.blk) := by
      intro id pl y h1 h2 h3 h4 h5
      refine ⟨(inv.ok id pl y h1 h2 h3).lt h4, ?_, ?_⟩
      · rintro ⟨z, pz, oz, k1, k2, k3, k4⟩
        have hz : oz ≠ .dead := fun e => by subst e; cases k3
        obtain ⟨hl, _, _, hq⟩ := hcur z pz oz k1 k2 hz
        have hne : z ≠ id := fun e => h5 ⟨oz, e ▸ k2, hz⟩
        exact inv.sep z id pz pl oz y hne k1 h1 (by omega) h2 hq h3 k3 h4 k4
      · rintro ⟨hy, z, pz, oz, k1, k2, k3, k4⟩
        have hz : oz ≠ .dead := fun e => by subst e; cases k3
        obtain ⟨hl, _, _, hq⟩ := hcur z pz oz k1 k2 hz
        have hne : id ≠ z := fun e => h5 ⟨oz, e ▸ k2, hz⟩
        exact inv.sep id z pl pz y oz hne h1 k1 h2 (by omega) h3 hq hy k3 k4.symm
    -- the marks behind it
    let turned : Nat → Prop := fun id => Mut ss p id ∨ ((ss p).h.length ≤ id ∧ id < (ss (p + 1)).h.length)
    have hturn : ∀ id, turned id → Claim ss rc p id ∧ id < (ss (p + 1)).h.length ∧ g'[id]? = (ss (p + 1)).h[id]? := by
      intro id hid
      rcases hid with hmut | ⟨h1, h2⟩
      · have hv : vis id := by
          cases hcall : isCall o with
          | false =>
            left
            refine ⟨hcall, .inr ?_⟩
            have := tr.muts hM hp (by rw [hrc]; exact hcall) hmut
            rw [hrc] at this; exact this
          | true =>
            right
            refine ⟨hcall, (ss p).h[id]'hmut.1, List.getElem?_eq_getElem hmut.1, fun e => hmut.2 ?_⟩
            have hd : (ss p).h[id]? = some .dead := by rw [List.getElem?_eq_getElem hmut.1, e]
            rw [hd]; exact hm1.2 id hd
        exact ⟨hclaim id hv, Nat.lt_of_lt_of_le hmut.1 hm1.1, (hg2 id hv).2⟩
      · exact ⟨.inr (.inr ⟨h1, h2⟩), h2, hg3 id h1⟩
    let Q' : Nat → Nat := fun id => @ite _ (turned id) (Classical.propDecidable _) (p + 1) (Q id)
    have hQt : ∀ id, turned id → Q' id = p + 1 := fun id h => by simp only [Q']; rw [if_pos h]
    have hQn : ∀ id, ¬ turned id → Q' id = Q id := fun id h => by simp only [Q']; rw [if_neg h]
    have hold : ∀ id pl, κ id = some pl → ¬ turned id → ι id = some pl := by
      intro id pl h1 h2
      rcases hst.fresh id pl h1 with h | ⟨h3, h4⟩
      · exact h
      · exact absurd (.inr ⟨by rw [← hgl]; exact h3, by rw [← hgl']; exact h4⟩) h2
    -- either it lies in what the operation leaves, or it was not seen and stands as it stood
    have split2 : ∀ id pl y, κ id = some pl → id < (ss plan.length).h.length → (ss (Q' id)).h[id]? = some y → g'[id]? = some y ∨ (ι id = some pl ∧ (ss (Q id)).h[id]? = some y ∧ ¬ (∃ z, g[id]? = some z ∧ z ≠ .dead)) := by
      intro id pl y h1 h2 h3
      by_cases ht : turned id
      · rw [hQt id ht] at h3
        left; rw [(hturn id ht).2.2]; exact h3
      · rw [hQn id ht] at h3
        have hi := hold id pl h1 ht
        by_cases hz : ∃ z, g[id]? = some z ∧ z ≠ .dead
        · obtain ⟨z, z1, z2⟩ := hz
          obtain ⟨hl, hv, e1, e2⟩ := hcur id pl z hi z1 z2
          left
          rw [h3] at e2; cases e2
          have hnm : (ss (p + 1)).h[id]? = (ss p).h[id]? := Classical.byContradiction fun hne => ht (.inl ⟨hl, hne⟩)
          rw [(hg2 id hv).2, hnm]; exact e1
        · exact .inr ⟨hi, h3, hz⟩
    refine hK κ Q' R' _ w' ?_
    refine ⟨inv.sub.trans hst.sub, ?_, ?_, ?_, ?_, ?_, ?_, hR', ?_, ?_, hd', hst.os.trans inv.os, hst.tape.trans inv.tape, hst.output.trans inv.output, Nat.le_trans inv.size hst.size, ?_, Nat.le_trans inv.drawn hst.drawn⟩
    · -- dom
      intro id pl h
      rcases hst.fresh id pl h with h | ⟨h1, h2⟩
      · rcases inv.dom id pl h with h | ⟨m, a1, a2, a3, a4⟩
        · exact .inl h
        · exact .inr ⟨m, a1, .inl a2, a3, a4⟩
      · exact .inr ⟨p, hp, .inr rfl, by rw [← hgl]; exact h1, by rw [← hgl']; exact h2⟩
    · -- q
      intro id pl h1 h2
      by_cases ht : turned id
      · rw [hQt id ht]
        refine ⟨by omega, (hturn id ht).2.1, fun m hm hmut => ?_⟩
        by_cases e : m = p
        · subst e; exact ⟨fun _ => by omega, fun _ => .inr rfl⟩
        · obtain ⟨k1, k2⟩ := hord m hm e (tr.claims hM hm hp e hmut (hturn id ht).1)
          constructor
          · rintro (h | h)
            · exact Classical.byContradiction fun hc => k2 (by omega) h
            · omega
          · intro h; exact .inl (k1 (by omega))
      · rw [hQn id ht]
        obtain ⟨k1, k2, k3⟩ := inv.q id pl (hold id pl h1 ht) h2
        refine ⟨k1, k2, fun m hm hmut => ?_⟩
        have e : m ≠ p := by rintro rfl; exact ht (.inl hmut)
        exact ⟨fun h => (k3 m hm hmut).1 (h.resolve_right e), fun h => .inl ((k3 m hm hmut).2 h)⟩
    · -- ok
      intro id pl y h1 h2 h3
      rcases split2 id pl y h1 h2 h3 with h | ⟨hi, hq, hz⟩
      · exact hst.rel.ok id pl y h1 h
      · by_cases ha : y.alive = true
        · obtain ⟨k1, k2, _⟩ := hidden id pl y hi h2 hq ha hz
          exact (inv.ok id pl y hi h2 hq).mono hst.sub fun _ => hst.frame _ k1 k2
        · cases y <;> first | trivial | exact absurd rfl ha
    · -- sep
      intro x y px py ox oy hxy h1 h2 h3 h4 h5 h6 h7 h8
      rcases split2 x px ox h1 h3 h5 with ex | ⟨ix, qx, zx⟩ <;> rcases split2 y py oy h2 h4 h6 with ey | ⟨iy, qy, zy⟩
      · exact hst.rel.sep x y px py ox oy hxy h1 h2 ex ey h7 h8
      · obtain ⟨k1, k2, _⟩ := hidden y py oy iy h4 qy h8 zy
        intro e
        rcases hst.own px.blk ⟨x, px, ox, h1, ex, h7, rfl⟩ with h | h
        · exact k2 (e ▸ h)
        · omega
      · obtain ⟨k1, k2, k3⟩ := hidden x px ox ix h3 qx (O.wr_alive h7) zx
        intro e
        rcases hst.alv py.blk ⟨y, py, oy, h2, ey, h8, rfl⟩ with h | h
        · exact k3 ⟨h7, e ▸ h⟩
        · omega
      · exact inv.sep x y px py ox oy hxy ix iy h3 h4 qx qy h7 h8
    · -- own
      intro id pl y h1 h2 h3 h4
      rcases split2 id pl y h1 h2 h3 with h | ⟨hi, hq, hz⟩
      · rcases hst.own pl.blk ⟨id, pl, y, h1, h, h4, rfl⟩ with ⟨z, pz, oz, k1, k2, k3, k4⟩ | h
        · obtain ⟨hl, _, _, hqz⟩ := hcur z pz oz k1 k2 (fun e => by subst e; cases k3)
          rw [← k4]
          exact inv.own z pz oz k1 (by omega) hqz k3
        · exact .inr (Nat.le_trans inv.size h)
      · exact inv.own id pl y hi h2 hq h4
    · -- alv
      intro id pl y h1 h2 h3 h4
      rcases split2 id pl y h1 h2 h3 with h | ⟨hi, hq, hz⟩
      · rcases hst.alv pl.blk ⟨id, pl, y, h1, h, h4, rfl⟩ with ⟨z, pz, oz, k1, k2, k3, k4⟩ | h
        · obtain ⟨hl, _, _, hqz⟩ := hcur z pz oz k1 k2 (fun e => by subst e; cases k3)
          rw [← k4]
          exact inv.alv z pz oz k1 (by omega) hqz k3
        · exact .inr (Nat.le_trans inv.size h)
      · exact inv.alv id pl y hi h2 hq h4
    · -- t
      intro d
      have := ht'.getD d
      have e : ((a.put o.dst x).tmps.toList).getD d undef = (a.put o.dst x).tmps.getD d undef := by simp [List.getD, Array.getD_eq_getD_getElem?]
      rw [e, slotsPut v _ rfl _ rfl ht1 d] at this
      exact this
    · -- tl
      have : (a.put o.dst x).tmps.size = a.tmps.size := by cases o.dst <;> simp [Act.put]
      rw [this]; exact inv.tl
    · -- frame
      intro b hb hn
      rw [hst.frame b (Nat.lt_of_lt_of_le hb inv.size) ?_, inv.frame b hb hn]
      rintro ⟨z, pz, oz, k1, k2, k3, k4⟩
      obtain ⟨hl, _, _, hqz⟩ := hcur z pz oz k1 k2 (fun e => by subst e; cases k3)
      rcases inv.own z pz oz k1 (by omega) hqz k3 with h | h
      · exact hn (k4 ▸ h)
      · omega
  · -- it is passed by
    rw [hwant, if_neg (by simp [hw])]
    have hh : (ss (p + 1)).h = (ss p).h := by rw [hs1]
    have hnm : ∀ id, ¬ Mut ss p id := fun id h => h.2 (by rw [hh])
    refine hK ι Q R' _ w ⟨inv.sub, ?_, ?_, inv.ok, inv.sep, inv.own, inv.alv, hR', ?_, ?_, put_defers inv.defers, inv.os, inv.tape, inv.output, inv.size, inv.frame, inv.drawn⟩
    · intro id pl h
      rcases inv.dom id pl h with h | ⟨m, a1, a2, a3, a4⟩
      · exact .inl h
      · exact .inr ⟨m, a1, .inl a2, a3, a4⟩
    · intro id pl h1 h2
      obtain ⟨k1, k2, k3⟩ := inv.q id pl h1 h2
      refine ⟨k1, k2, fun m hm hmut => ?_⟩
      have e : m ≠ p := by rintro rfl; exact hnm id hmut
      exact ⟨fun h => (k3 m hm hmut).1 (h.resolve_right e), fun h => .inl ((k3 m hm hmut).2 h)⟩
    · intro d
      have := (put_rv (dst := o.dst) hsl (undef_rv ι)).getD d
      have e : ((a.put o.dst undef).tmps.toList).getD d undef = (a.put o.dst undef).tmps.getD d undef := by simp [List.getD, Array.getD_eq_getD_getElem?]
      rw [e, slotsPut undefV _ rfl _ rfl (by rw [hs1]) d] at this
      exact this
    · have : (a.put o.dst undef).tmps.size = a.tmps.size := by cases o.dst <;> simp [Act.put]
      rw [this]; exact inv.tl
end
end Go.Proofs.YtcaolnmpldbkjaaGreatA
