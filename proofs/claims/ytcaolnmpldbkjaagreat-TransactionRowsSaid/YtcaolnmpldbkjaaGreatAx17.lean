/- Words of this session: a statement whose order is open comes, in every order, to what the second reading says. -/
import Derived.Test.YtcaolnmpldbkjaaGreatAx16
namespace Go.Proofs.YtcaolnmpldbkjaaGreatA
open Go Go.RowKit
set_option linter.unusedVariables false
set_option linter.unusedSimpArgs false

theorem countP_lt {α : Type} {p q : α → Bool} : ∀ {l : List α}, (∀ x ∈ l, p x = true → q x = true) → (∃ x ∈ l, q x = true ∧ p x = false) → l.countP p < l.countP q
  | [], _, h => by obtain ⟨x, hx, _⟩ := h; cases hx
  | y :: l, h1, h2 => by
    have hle : l.countP p ≤ l.countP q := List.countP_mono_left fun x hx => h1 x (by simp [hx])
    obtain ⟨x, hx, a, b⟩ := h2
    rcases List.mem_cons.1 hx with rfl | hx
    · rw [List.countP_cons_of_pos a, List.countP_cons_of_neg (by simp [b])]; omega
    · have ih := countP_lt (fun x hx => h1 x (by simp [hx])) ⟨x, hx, a, b⟩
      by_cases hp : p y = true
      · rw [List.countP_cons_of_pos hp, List.countP_cons_of_pos (h1 y (by simp) hp)]; omega
      · rw [List.countP_cons_of_neg hp]
        by_cases hq : q y = true
        · rw [List.countP_cons_of_pos hq]; omega
        · rw [List.countP_cons_of_neg hq]; exact ih

theorem drawV_sound {P : Program} (hm : P.follows .mixedOrders = true) : SoundD P (drawV P) := by
  refine ⟨fun C hM ops s s' h => ?_, ?_⟩
  · unfold drawV at h
    split at h
    · exact drawGo_mono hM h
    · cases h
  · intro C hC hM id ops s s' h ι0 w a hr ht hd hf Q hQ
    unfold drawV at h
    split at h
    · rename_i hok
      generalize planV ops = plan at h hok
      generalize hbef : befL ops.toList = bef at h
      obtain ⟨ss, rc, e0, en, tr, _⟩ := drawGo_tr h
      simp only [planOK, Bool.and_eq_true] at hok
      obtain ⟨⟨hlin, hall⟩, _⟩ := hok
      have hspec := linOK_spec hlin
      have huniq : ∀ (p q i : Nat), plan[p]? = some i → plan[q]? = some i → p = q := by
        intro p q i h1 h2
        by_cases e : q = p
        · exact e.symm
        · exact absurd rfl ((hspec p i h1).2.1 q i h2 e)
      have hcover : ∀ i : Nat, i < ops.size → ∃ p : Nat, p < plan.length ∧ plan[p]? = some i := by
        intro i hi
        have := List.all_eq_true.1 hall i (List.mem_range.2 hi)
        have hmem : i ∈ plan := by simpa using this
        obtain ⟨p, hp, e⟩ := List.getElem_of_mem hmem
        exact ⟨p, hp, by rw [List.getElem?_eq_getElem hp, e]⟩
      subst e0
      have hbefs : ∀ (L : Nat → Prop), (∀ (i : Nat) (o : Oper), ops[i]? = some o → L i → ∀ e ∈ o.after, Region.binds .any e = true → L e.on) → ∀ (i : Nat) (o : Oper), ops[i]? = some o → (∀ e ∈ o.after, Region.binds .any e = true → L e.on) → ∀ j, (bef.getD i 0).testBit j = true → L j := by
        intro L hL i o ho hpre j hj
        rw [← hbef] at hj
        exact befL_spec (ops := ops.toList) (L := L) (fun i o ho => hL i o (by simpa using ho)) i o (by simpa using ho) hpre j hj
      -- what stands before stands before on the plan
      have hpos : ∀ m p, Ord bef plan m p → m < p := by
        rintro m p ⟨i, j, h1, h2, h3⟩
        obtain ⟨_, _, o, ho, hedge⟩ := hspec p j h2
        have := hbefs (fun i => ∃ q : Nat, q < p ∧ plan[q]? = some i) (by
          rintro i' o' ho' ⟨q, hq, hq2⟩ e he hb
          obtain ⟨_, _, o2, ho2, hedge2⟩ := hspec q i' hq2
          rw [ho'] at ho2; cases ho2
          rcases hedge2 e he hb with x | ⟨q', h4, h5⟩
          · cases x
          · exact ⟨q', by omega, h5⟩) j o ho (by
          intro e he hb
          rcases hedge e he hb with x | ⟨q', h4, h5⟩
          · cases x
          · exact ⟨q', h4, h5⟩) i h3
        obtain ⟨q, hq, hq2⟩ := this
        have := huniq m q i h1 hq2
        omega
      let SL : Array Bool → Nat → Prop := fun listed p => ∃ i : Nat, plan[p]? = some i ∧ listed.getD i false = true
      let Closed : Array Bool → Prop := fun listed => ∀ (i : Nat) (o : Oper), ops[i]? = some o → listed.getD i false = true → ∀ e ∈ o.after, Region.binds .any e = true → listed.getD e.on false = true
      -- the end
      have hend : ∀ listed a' w' ι Qf Rf, Inv ops plan ss ι0 w (SL listed) ι Qf Rf a' w' → (∀ p, p < plan.length → SL listed p) → Q .normal a' w' := by
        intro listed a' w' ι Qf Rf inv hS
        have hcur : ∀ id pl, ι id = some pl → id < (ss plan.length).h.length → (ss plan.length).h[id]? = (ss (Qf id)).h[id]? := by
          intro id pl h1 h2
          obtain ⟨k1, k2, k3⟩ := inv.q id pl h1 h2
          refine still (fun k => (ss k).h[id]?) (fun _ => True) (Qf id) plan.length k1 fun k g1 g2 => Classical.byContradiction fun hne => ?_
          have := (k3 k g2 ⟨Nat.lt_of_lt_of_le k2 (tr.mono hM g1 (by omega)).1, hne⟩).1 (hS k g2)
          omega
        refine hQ ι a' w' ?_ inv.defers ?_
        · rw [← en]
          refine rvs_of_getD (by rw [inv.tl, tr.tlen (Nat.le_refl _)]) fun d => ?_
          have := inv.t d
          obtain ⟨k1, k2⟩ := inv.r d
          have e : (ss plan.length).t.getD d undefV = (ss (Rf d)).t.getD d undefV := by
            refine still (fun k => (ss k).t.getD d undefV) (fun _ => True) (Rf d) plan.length k1 fun k g1 g2 => Classical.byContradiction fun hne => ?_
            have hput : ∀ (t : List V) (dst : Option Tmp) (v : V), dst ≠ some d → (putV t dst v).getD d undefV = t.getD d undefV := by
              intro t dst v hne
              cases dst with
              | none => rfl
              | some e => simp only [putV, List.getD]; rw [List.getElem?_set_ne (fun x => hne (by rw [x]))]
            have hw : Wt ops plan k d := by
              obtain ⟨o, ho, h | h⟩ := tr.step k plan[k] (List.getElem?_eq_getElem g2)
              · obtain ⟨_, v, _, e, _⟩ := h
                refine ⟨_, o, List.getElem?_eq_getElem g2, ho, Classical.byContradiction fun hx => hne ?_⟩
                simp only [e]; exact hput _ _ _ hx
              · obtain ⟨_, e1, e⟩ := h
                refine ⟨_, o, List.getElem?_eq_getElem g2, ho, Classical.byContradiction fun hx => hne ?_⟩
                simp only [e1]; exact hput _ _ _ hx
            have := (k2 k g2 hw).1 (hS k g2)
            omega
          rw [e]; exact this
        · rw [← en]
          refine ⟨inv.sub, ?_, ⟨?_, ?_⟩, ?_, ?_, inv.os, inv.tape, inv.output, inv.size, inv.frame, (tr.mono hM (Nat.zero_le _) (Nat.le_refl _)).1, inv.drawn⟩
          · intro id pl h
            rcases inv.dom id pl h with h | ⟨p, a1, _, a3, a4⟩
            · exact .inl h
            · exact .inr ⟨Nat.le_trans (tr.mono hM (Nat.zero_le _) (by omega)).1 a3, Nat.lt_of_lt_of_le a4 (tr.mono hM (by omega) (Nat.le_refl _)).1⟩
          · intro id pl o h1 h2
            have hl := (List.getElem?_eq_some_iff.1 h2).1
            exact inv.ok id pl o h1 hl (by rw [← hcur id pl h1 hl]; exact h2)
          · intro i j pi pj oi oj hij h1 h2 h3 h4 h5 h6
            have hl1 := (List.getElem?_eq_some_iff.1 h3).1
            have hl2 := (List.getElem?_eq_some_iff.1 h4).1
            exact inv.sep i j pi pj oi oj hij h1 h2 hl1 hl2 (by rw [← hcur i pi h1 hl1]; exact h3) (by rw [← hcur j pj h2 hl2]; exact h4) h5 h6
          · rintro b ⟨id, pl, o, h1, h2, h3, h4⟩
            have hl := (List.getElem?_eq_some_iff.1 h2).1
            rw [← h4]
            exact inv.own id pl o h1 hl (by rw [← hcur id pl h1 hl]; exact h2) h3
          · rintro b ⟨id, pl, o, h1, h2, h3, h4⟩
            have hl := (List.getElem?_eq_some_iff.1 h2).1
            rw [← h4]
            exact inv.alv id pl o h1 hl (by rw [← hcur id pl h1 hl]; exact h2) h3
      -- where nothing can go on, all is done
      have hdone : ∀ listed : Array Bool, listed.size = ops.size → Region.ready .any ops listed = [] → ∀ p, p < plan.length → SL listed p := by
        intro listed hsz hready p
        induction p using Nat.strongRecOn with
        | _ p ih =>
          intro hp
          have hpi : plan[p]? = some plan[p] := List.getElem?_eq_getElem hp
          refine ⟨plan[p], hpi, Classical.byContradiction fun hno => ?_⟩
          obtain ⟨_, _, o, ho, hedge⟩ := hspec p _ hpi
          have hlt : plan[p] < ops.size := (Array.getElem?_eq_some_iff.1 ho).1
          have : plan[p] ∈ Region.ready .any ops listed := by
            unfold Region.ready
            rw [List.mem_filter]
            refine ⟨List.mem_range.2 hlt, ?_⟩
            rw [Bool.and_eq_true]
            constructor
            · have hl : plan[p] < listed.size := by omega
              have e1 : listed.getD plan[p] true = listed.getD plan[p] false := by simp [Array.getD_eq_getD_getElem?, hl]
              rw [e1]; simpa using hno
            · simp only [ho, Option.map_some, Option.getD_some]
              rw [Array.all_eq_true']
              intro e he
              by_cases hb : Region.binds .any e = true
              · rcases hedge e he hb with x | ⟨q, hq, hq2⟩
                · cases x
                · obtain ⟨i, h1, h2⟩ := ih q hq (by omega)
                  rw [hq2] at h1; cases h1
                  simp [h2]
              · simp [hb]
          rw [hready] at this; cases this
      -- round after round
      have main : ∀ fuel (listed : Array Bool) a' w' ι Qf Rf, listed.size = ops.size → Closed listed → (List.range ops.size).countP (fun i => !listed.getD i true) ≤ fuel → Inv ops plan ss ι0 w (SL listed) ι Qf Rf a' w' → wpAny P .any ops Q fuel listed a' w' := by
        intro fuel
        induction fuel with
        | zero =>
          intro listed a' w' ι Qf Rf hsz hcl hcnt inv
          have hnil : Region.ready .any ops listed = [] := by
            cases hq : Region.ready .any ops listed with
            | nil => rfl
            | cons i l =>
              exfalso
              have hmem : i ∈ Region.ready .any ops listed := by rw [hq]; simp
              unfold Region.ready at hmem
              rw [List.mem_filter, Bool.and_eq_true] at hmem
              have : 0 < (List.range ops.size).countP (fun i => !listed.getD i true) := List.countP_pos_iff.2 ⟨i, hmem.1, hmem.2.1⟩
              omega
          exact ⟨hnil, hend listed a' w' ι Qf Rf inv (hdone listed hsz hnil)⟩
        | succ fuel ih =>
          intro listed a' w' ι Qf Rf hsz hcl hcnt inv
          refine ⟨fun hnil => hend listed a' w' ι Qf Rf inv (hdone listed hsz hnil), fun i hi => ?_⟩
          unfold Region.ready at hi
          rw [List.mem_filter, Bool.and_eq_true] at hi
          obtain ⟨hi1, hi2, hi3⟩ := hi
          have hilt : i < ops.size := List.mem_range.1 hi1
          obtain ⟨o, ho⟩ : ∃ o, ops[i]? = some o := ⟨ops[i], Array.getElem?_eq_getElem hilt⟩
          obtain ⟨p, hp, hpi⟩ := hcover i hilt
          have hil : i < listed.size := by omega
          have hun : listed.getD i false = false := by
            have e1 : listed.getD i true = listed.getD i false := by simp [Array.getD_eq_getD_getElem?, hil]
            rw [← e1]; simpa using hi2
          have hpre : ∀ e ∈ o.after, Region.binds .any e = true → listed.getD e.on false = true := by
            intro e he hb
            simp only [ho, Option.map_some, Option.getD_some] at hi3
            have := Array.all_eq_true'.1 hi3 e he
            simpa [hb] using this
          have hSp : ¬ SL listed p := by
            rintro ⟨j, h1, h2⟩
            rw [hpi] at h1; cases h1
            rw [hun] at h2; cases h2
          have hord : ∀ m, m < plan.length → m ≠ p → Ord bef plan m p ∨ Ord bef plan p m → (m < p → SL listed m) ∧ (p < m → ¬ SL listed m) := by
            intro m hm hne hor
            rcases hor with hor | hor
            · have hlt := hpos m p hor
              refine ⟨fun _ => ?_, fun h => by omega⟩
              obtain ⟨im, ip, h1, h2, h3⟩ := hor
              rw [hpi] at h2; cases h2
              exact ⟨im, h1, hbefs (fun i => listed.getD i false = true) hcl i o ho hpre im h3⟩
            · have hlt := hpos p m hor
              refine ⟨fun h => by omega, fun _ => ?_⟩
              rintro ⟨im, h1, h2⟩
              obtain ⟨ip, jm, k1, k2, k3⟩ := hor
              rw [hpi] at k1; cases k1
              rw [h1] at k2; cases k2
              obtain ⟨_, _, om, hom, _⟩ := hspec m im h1
              have := hbefs (fun i => listed.getD i false = true) hcl im om hom (hcl im om hom h2) i k3
              rw [hun] at this; cases this
          refine inv.exec hC hM (by rw [en]; exact hf) tr hp hpi hSp hord fun ι' Q' R' a'' w'' inv' => ?_
          have hgetset : ∀ j, (listed.setIfInBounds i true).getD j false = true ↔ (listed.getD j false = true ∨ j = i) := by
            intro j
            simp only [Array.getD_eq_getD_getElem?, Array.getElem?_setIfInBounds]
            by_cases e : i = j
            · subst e; simp [hil]
            · simp [e, Ne.symm e]
          have hS' : (fun m => SL listed m ∨ m = p) = SL (listed.setIfInBounds i true) := by
            funext m
            apply propext
            constructor
            · rintro (⟨j, h1, h2⟩ | rfl)
              · exact ⟨j, h1, (hgetset j).2 (.inl h2)⟩
              · exact ⟨i, hpi, (hgetset i).2 (.inr rfl)⟩
            · rintro ⟨j, h1, h2⟩
              rcases (hgetset j).1 h2 with h2 | rfl
              · exact .inl ⟨j, h1, h2⟩
              · exact .inr (huniq m p j h1 hpi)
          refine ih (listed.setIfInBounds i true) a'' w'' ι' Q' R' (by simpa using hsz) ?_ ?_ (hS' ▸ inv')
          · intro j oj hoj hj e he hb
            rw [hgetset]
            rcases (hgetset j).1 hj with hj | rfl
            · exact .inl (hcl j oj hoj hj e he hb)
            · rw [ho] at hoj; cases hoj
              exact .inl (hpre e he hb)
          · have : (List.range ops.size).countP (fun j => !(listed.setIfInBounds i true).getD j true) < (List.range ops.size).countP (fun j => !listed.getD j true) := by
              refine countP_lt (fun j hj hx => ?_) ⟨i, hi1, hi2, ?_⟩
              · simp only [Array.getD_eq_getD_getElem?, Array.getElem?_setIfInBounds] at hx ⊢
                by_cases e : i = j
                · subst e; simp [hil] at hx
                · simpa [e] using hx
              · simp [Array.getD_eq_getD_getElem?, Array.getElem?_setIfInBounds, hil]
            omega
      -- the start
      have hrep : ∀ i, (Array.replicate ops.size false).getD i false = false := by
        intro i
        simp only [Array.getD_eq_getD_getElem?, Array.getElem?_replicate]
        split <;> rfl
      refine wp_region_any hm ?_
      refine main ops.size (Array.replicate ops.size false) a { w with drawn := w.drawn + 1 } ι0 (fun _ => 0) (fun _ => 0) (by simp) ?_ ?_ ?_
      · intro i o ho hi
        rw [hrep] at hi; cases hi
      · exact Nat.le_trans List.countP_le_length (by simp)
      · have hnoS : ∀ p, ¬ SL (Array.replicate ops.size false) p := by
          rintro p ⟨i, _, h⟩
          rw [hrep] at h; cases h
        have hrd := hr.drew
        refine ⟨.refl ι0, fun id pl h => .inl h, ?_, ?_, ?_, ?_, ?_, ?_, ?_, ?_, hd, rfl, rfl, rfl, Nat.le_refl _, fun _ _ _ => rfl, Nat.le_succ _⟩
        · intro id pl h1 h2
          have hlt : id < (ss 0).h.length := by
            by_cases hc : id < (ss 0).h.length
            · exact hc
            · rw [hf id (by omega) (by rw [← en]; exact h2)] at h1; cases h1
          exact ⟨Nat.zero_le _, hlt, fun m hm _ => ⟨fun h => absurd h (hnoS m), fun h => by omega⟩⟩
        · intro id pl o h1 _ h2
          exact hrd.ok id pl o h1 h2
        · intro i j pi pj oi oj hij h1 h2 _ _ h3 h4
          exact hrd.sep i j pi pj oi oj hij h1 h2 h3 h4
        · intro id pl o h1 _ h2 h3
          exact .inl ⟨id, pl, o, h1, h2, h3, rfl⟩
        · intro id pl o h1 _ h2 h3
          exact .inl ⟨id, pl, o, h1, h2, h3, rfl⟩
        · intro d
          exact ⟨Nat.zero_le _, fun m hm _ => ⟨fun h => absurd h (hnoS m), fun h => by omega⟩⟩
        · intro d
          have := ht.getD d
          have e : (a.tmps.toList).getD d undef = a.tmps.getD d undef := by simp [List.getD, Array.getD_eq_getD_getElem?]
          rw [e] at this
          exact this
        · have := ht.1; simpa using this.symm
    · cases h
end Go.Proofs.YtcaolnmpldbkjaaGreatA
