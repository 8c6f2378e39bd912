/- Words of this session: whatever order the model draws, it comes to what the one order that was gone through gives. -/
import Derived.Test.YtcaolnmpldbkjaaGreatAx14
namespace Go.Proofs.YtcaolnmpldbkjaaGreatA
open Go Go.RowKit
set_option linter.unusedVariables false
set_option linter.unusedSimpArgs false

theorem still {α : Type} (c : Nat → α) (M : Nat → Prop) (a b : Nat) (hab : a ≤ b) (h : ∀ k, a ≤ k → k < b → c (k + 1) = c k) : c b = c a := by
  induction b with
  | zero => have : a = 0 := by omega
            subst this; rfl
  | succ b ih =>
    by_cases e : a = b + 1
    · subst e; rfl
    · rw [h b (by omega) (by omega)]
      exact ih (by omega) fun k h1 h2 => h k h1 (by omega)
theorem chain {α : Type} (c : Nat → α) (M S : Nat → Prop) (lo n q p : Nat) (hq : lo ≤ q) (hp : lo ≤ p) (hqn : q ≤ n) (hpn : p < n) (hstep : ∀ k, lo ≤ k → k < n → ¬ M k → c (k + 1) = c k)
    (hS : ∀ m, m < n → M m → (S m ↔ m < q)) (h1 : ∀ m, m < n → m ≠ p → M m → (m < p → S m) ∧ (p < m → ¬ S m)) (h2 : ¬ S p) : c q = c p := by
  rcases Nat.le_total q p with h | h
  · refine (still c M q p h fun k a b => hstep k (by omega) (by omega) fun hm => ?_).symm
    have := (hS k (by omega) hm).1 ((h1 k (by omega) (by omega) hm).1 b)
    omega
  · refine still c M p q h fun k a b => hstep k (by omega) (by omega) fun hm => ?_
    have hk := (hS k (by omega) hm).2 b
    by_cases e : k = p
    · subst e; exact h2 hk
    · exact (h1 k (by omega) e hm).2 (by omega) hk

section
variable {P : Program} {C : CallF} {ops : Array Oper} {bef plan : List Nat} {ss : Nat → St} {rc : Nat → Rc}
def Mut (ss : Nat → St) (p id : Nat) : Prop := id < (ss p).h.length ∧ (ss (p + 1)).h[id]? ≠ (ss p).h[id]?
def Claim (ss : Nat → St) (rc : Nat → Rc) (p id : Nat) : Prop :=
  ((rc p).call = false ∧ (id ∈ (rc p).reads ∨ id ∈ (rc p).muts)) ∨ ((rc p).call = true ∧ ∃ o, (ss p).h[id]? = some o ∧ o ≠ .dead) ∨ ((ss p).h.length ≤ id ∧ id < (ss (p + 1)).h.length)
def Wt (ops : Array Oper) (plan : List Nat) (p d : Nat) : Prop := ∃ i o, plan[p]? = some i ∧ ops[i]? = some o ∧ o.dst = some d
def ClaimT (ops : Array Oper) (plan : List Nat) (p d : Nat) : Prop := ∃ i o, plan[p]? = some i ∧ ops[i]? = some o ∧ (d ∈ o.looksAt ops ∨ o.dst = some d)
def Ord (bef plan : List Nat) (a b : Nat) : Prop := ∃ i j, plan[a]? = some i ∧ plan[b]? = some j ∧ (bef.getD j 0).testBit i = true

theorem Tr.at (tr : Tr P C ops bef plan ss rc) {p : Nat} (hp : p < plan.length) : (rc p).h0 = (ss p).h ∧ (rc p).h1 = (ss (p + 1)).h ∧ plan[p]? = some (rc p).i := by
  obtain ⟨o, ho, h | h⟩ := tr.step p plan[p] (List.getElem?_eq_getElem hp)
  · obtain ⟨_, v, _, _, e⟩ := h; rw [e]; exact ⟨rfl, rfl, List.getElem?_eq_getElem hp⟩
  · obtain ⟨_, e1, e⟩ := h; rw [e, e1]; exact ⟨rfl, rfl, List.getElem?_eq_getElem hp⟩
theorem Tr.mono1 (hM : MonoC C) (tr : Tr P C ops bef plan ss rc) {p : Nat} (hp : p < plan.length) : Mono (ss p).h (ss (p + 1)).h := by
  obtain ⟨o, ho, h | h⟩ := tr.step p plan[p] (List.getElem?_eq_getElem hp)
  · obtain ⟨_, v, h1, _, e⟩ := h; exact primV_mono (fun f args r => hM f args _ r) h1
  · obtain ⟨_, e1, e⟩ := h; rw [e1]; exact .refl _
theorem Tr.mono (hM : MonoC C) (tr : Tr P C ops bef plan ss rc) {p q : Nat} (hpq : p ≤ q) (hq : q ≤ plan.length) : Mono (ss p).h (ss q).h := by
  induction q with
  | zero => have : p = 0 := by omega
            subst this; exact .refl _
  | succ q ih =>
    by_cases e : p = q + 1
    · subst e; exact .refl _
    · exact (ih (by omega) (by omega)).trans (tr.mono1 hM (by omega))
theorem Tr.tlen (tr : Tr P C ops bef plan ss rc) {p : Nat} (hp : p ≤ plan.length) : (ss p).t.length = (ss 0).t.length := by
  induction p with
  | zero => rfl
  | succ p ih =>
    rw [← ih (by omega)]
    have pl : ∀ (t : List V) (d : Option Tmp) (v : V), (putV t d v).length = t.length := fun t d v => by cases d <;> simp [putV]
    obtain ⟨o, ho, h | h⟩ := tr.step p plan[p] (List.getElem?_eq_getElem (by omega))
    · obtain ⟨_, v, _, e, _⟩ := h; rw [e, pl]
    · obtain ⟨_, e1, e⟩ := h; rw [e1]; exact pl _ _ _
theorem Tr.muts (hM : MonoC C) (tr : Tr P C ops bef plan ss rc) {p id : Nat} (hp : p < plan.length) (hc : (rc p).call = false) (hm : Mut ss p id) : id ∈ (rc p).muts := by
  obtain ⟨o, ho, h | h⟩ := tr.step p plan[p] (List.getElem?_eq_getElem hp)
  · obtain ⟨_, v, h1, _, e⟩ := h
    rw [e] at hc ⊢
    have := (prim_loc (P := P) (C := C) (t := (ss p).t) hc (ss p).h v (ss (p + 1)).h h1).1 id hm.1
    by_cases hin : id ∈ (touchV o (ss p).t).2
    · exact hin
    · exact absurd (this hin) hm.2
  · obtain ⟨_, e1, e⟩ := h; exact absurd (by rw [e1]) hm.2
theorem disj_spec {a b : List Nat} (h : disj a b = true) {x : Nat} (hx : x ∈ a) : x ∉ b := by
  have := List.all_eq_true.1 h x hx
  simpa using this
theorem Tr.claims (hM : MonoC C) (tr : Tr P C ops bef plan ss rc) {m p id : Nat} (hm : m < plan.length) (hp : p < plan.length) (hne : m ≠ p) (hmut : Mut ss m id) (hcl : Claim ss rc p id) : Ord bef plan m p ∨ Ord bef plan p m := by
  obtain ⟨m0, m1, mi⟩ := tr.at hm
  obtain ⟨p0, p1, pi⟩ := tr.at hp
  have hmm := tr.mono1 hM hm
  rcases Nat.lt_or_gt_of_ne hne with hlt | hlt
  · have hc := tr.compat p m hlt hp
    unfold compatB at hc
    rw [Bool.or_eq_true] at hc
    rcases hc with hc | hc
    · exact .inl ⟨_, _, mi, pi, hc⟩
    · exfalso
      rw [Bool.and_eq_true] at hc
      have hc := hc.2
      have hle : (ss m).h.length ≤ (ss p).h.length := (tr.mono hM (show m ≤ p by omega) (by omega)).1
      have hidp : id < (ss p).h.length := Nat.lt_of_lt_of_le hmut.1 hle
      cases em : (rc m).call <;> cases ep : (rc p).call <;> simp only [minds, em, ep, Bool.and_eq_true] at hc
      · have hin := tr.muts hM hm em hmut
        rcases hcl with ⟨_, h | h⟩ | ⟨h, _⟩ | ⟨h, _⟩
        · exact disj_spec hc.1.2 hin h
        · exact disj_spec hc.1.1 h (List.mem_append.2 (.inr hin))
        · rw [ep] at h; cases h
        · omega
      · have hin := tr.muts hM hm em hmut
        have hd := isDead_eq (List.all_eq_true.1 hc.1.2 id hin)
        rw [p0] at hd
        rcases hcl with ⟨h, _⟩ | ⟨_, o, h1, h2⟩ | ⟨h, _⟩
        · rw [ep] at h; cases h
        · rw [hd] at h1; cases h1; exact h2 rfl
        · omega
      · rcases hcl with ⟨_, h | h⟩ | ⟨h, _⟩ | ⟨h, _⟩
        · have := List.all_eq_true.1 hc.2 id h
          simp only [Bool.or_eq_true, decide_eq_true_eq, m0, m1] at this
          rcases this with this | this
          · have := hmm.1; have := hmut.1; omega
          · exact hmut.2 (sameO_eq this).symm
        · have : (rc p).muts = [] := by simpa using hc.1
          rw [this] at h; cases h
        · rw [ep] at h; cases h
        · omega
      · cases hc
  · have hc := tr.compat m p hlt hm
    unfold compatB at hc
    rw [Bool.or_eq_true] at hc
    rcases hc with hc | hc
    · exact .inr ⟨_, _, pi, mi, hc⟩
    · exfalso
      rw [Bool.and_eq_true] at hc
      have hc := hc.2
      cases ep : (rc p).call <;> cases em : (rc m).call <;> simp only [minds, em, ep, Bool.and_eq_true] at hc
      · have hin := tr.muts hM hm em hmut
        rcases hcl with ⟨_, h | h⟩ | ⟨h, _⟩ | ⟨h1, h2⟩
        · exact disj_spec hc.1.1 hin (List.mem_append.2 (.inl h))
        · exact disj_spec hc.1.1 hin (List.mem_append.2 (.inr h))
        · rw [ep] at h; cases h
        · have := List.all_eq_true.1 hc.2 id (List.mem_append.2 (.inr hin))
          simp only [Bool.or_eq_true, decide_eq_true_eq, p0, p1] at this
          omega
      · rcases hcl with ⟨_, h | h⟩ | ⟨h, _⟩ | ⟨h1, h2⟩
        · have := sameO_eq (List.all_eq_true.1 hc.1.1 id h)
          rw [m0, m1] at this
          exact hmut.2 this.symm
        · have := isDead_eq (List.all_eq_true.1 hc.1.2 id h)
          rw [m0] at this
          exact hmut.2 (by rw [hmm.2 id this, this])
        · rw [ep] at h; cases h
        · have := sameO_eq (List.all_eq_true.1 hc.2 id (by rw [p0, p1, List.mem_range'_1]; omega))
          rw [m0, m1] at this
          exact hmut.2 this.symm
      · have hin := tr.muts hM hm em hmut
        have : (rc m).muts = [] := by simpa using hc.1
        rw [this] at hin; cases hin
      · cases hc
theorem Tr.claimsT (tr : Tr P C ops bef plan ss rc) {m p d : Nat} (hm : m < plan.length) (hp : p < plan.length) (hne : m ≠ p) (hw : Wt ops plan m d) (hcl : ClaimT ops plan p d) : Ord bef plan m p ∨ Ord bef plan p m := by
  obtain ⟨im, om, hm1, hm2, hm3⟩ := hw
  obtain ⟨ip, op, hp1, hp2, hp3⟩ := hcl
  obtain ⟨_, _, mi⟩ := tr.at hm
  obtain ⟨_, _, pi⟩ := tr.at hp
  have em : (rc m).i = im := by rw [mi] at hm1; cases hm1; rfl
  have ep : (rc p).i = ip := by rw [pi] at hp1; cases hp1; rfl
  rcases Nat.lt_or_gt_of_ne hne with hlt | hlt
  · have hc := tr.compat p m hlt hp
    unfold compatB at hc
    rw [Bool.or_eq_true] at hc
    rcases hc with hc | hc
    · exact .inl ⟨_, _, mi, pi, hc⟩
    · exfalso
      rw [Bool.and_eq_true] at hc
      have ha := hc.1
      simp only [apartOf, em, ep, hm2, hp2] at ha
      obtain ⟨s1, s2, s3⟩ := Oper.apart_spec ha
      rcases hp3 with h | h
      · exact s1 d hm3 h
      · exact s2 d hm3 h
  · have hc := tr.compat m p hlt hm
    unfold compatB at hc
    rw [Bool.or_eq_true] at hc
    rcases hc with hc | hc
    · exact .inr ⟨_, _, pi, mi, hc⟩
    · exfalso
      rw [Bool.and_eq_true] at hc
      have ha := hc.1
      simp only [apartOf, em, ep, hm2, hp2] at ha
      obtain ⟨s1, s2, s3⟩ := Oper.apart_spec ha
      rcases hp3 with h | h
      · exact s3 d hm3 h
      · exact s2 d h hm3
end
end Go.Proofs.YtcaolnmpldbkjaaGreatA
