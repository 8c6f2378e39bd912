/- Words of this session: loops over a list, as a fold. -/
import Derived.Test.YtcaolnmpldbkjaaGreatAx25
namespace Go.Proofs.YtcaolnmpldbkjaaGreatA
open Go Go.RowKit
set_option linter.unusedVariables false
set_option linter.unusedSimpArgs false
section
variable {P : Program} {H : Hooks} {n : Nat}
theorem W.mono {c : Code} {Q Q' : Post} {τ : Tp} {h : Heap} (hq : ∀ e τ h, Q e τ h → Q' e τ h) : W P H n c Q τ h → W P H n c Q' τ h := fun ⟨e, τ', h', q, k⟩ => ⟨e, τ', h', q, hq _ _ _ k⟩
theorem wpo_mono {ops : Array Oper} : ∀ {l : List Oper} {K K' : Tp → Heap → Prop} {τ : Tp} {h : Heap}, (∀ τ h, K τ h → K' τ h) → wpo' P H n ops l K τ h → wpo' P H n ops l K' τ h
  | [], K, K', τ, h, hk, q => hk _ _ q
  | o :: l, K, K', τ, h, hk, q => by
    unfold wpo' at q ⊢
    cases hg : o.guard with
    | none =>
      simp only [hg] at q ⊢
      exact q.mono fun v h => wpo_mono hk
    | some g =>
      obtain ⟨j, b⟩ := g
      simp only [hg] at q ⊢
      rcases q with ⟨e, q⟩ | ⟨e, q⟩
      · exact .inl ⟨e, q.mono fun v h => wpo_mono hk⟩
      · exact .inr ⟨e, wpo_mono hk q⟩
theorem wpc_mono : ∀ (c : Code) (Q Q' : Post) (_ : ∀ e τ h, Q e τ h → Q' e τ h) (τ : Tp) (h : Heap), wpc' P H n c Q τ h → wpc' P H n c Q' τ h := by
  intro c
  induction c with
  | skip => intro Q Q' hq τ h q; exact hq _ _ _ q
  | label l => intro Q Q' hq τ h q; exact hq _ _ _ q
  | ret => intro Q Q' hq τ h q; exact hq _ _ _ q
  | exit i => intro Q Q' hq τ h q; exact hq _ _ _ q
  | seq a b iha ihb =>
    intro Q Q' hq τ h q
    refine iha _ _ (fun e τ h k => ?_) τ h q
    cases e with
    | norm => exact ihb _ _ hq τ h k
    | ret => exact hq _ _ _ k
    | exit i => exact hq _ _ _ k
  | cond c a b iha ihb =>
    intro Q Q' hq τ h q
    obtain ⟨v, hv, q⟩ := q
    refine ⟨v, hv, ?_⟩
    rcases q with ⟨e, q⟩ | ⟨e, q⟩
    · exact .inl ⟨e, iha _ _ hq τ h q⟩
    · exact .inr ⟨e, ihb _ _ hq τ h q⟩
  | block id b ih =>
    intro Q Q' hq τ h q
    refine ih _ _ (fun e τ h k => ?_) τ h q
    cases e with
    | norm => exact hq _ _ _ k
    | ret => exact hq _ _ _ k
    | exit i =>
      simp only [outQ] at k ⊢
      by_cases hi : i = id
      · rw [if_pos hi] at k ⊢; exact hq _ _ _ k
      · rw [if_neg hi] at k ⊢; exact hq _ _ _ k
  | loop b ih => intro Q Q' hq τ h q; exact W.mono hq q
  | region i ops d =>
    intro Q Q' hq τ h q
    cases d with
    | true => exact W.mono hq q
    | false => exact wpo_mono (fun τ h => hq .norm τ h) q
  | _ => intro Q Q' hq τ h q; exact q.elim
theorem wpd_mono {ops : Array Oper} : ∀ {tab : List (Nat × List Nat)} {K K' : Tp → Heap → Prop} {rs : List Rc} {τ : Tp} {h : Heap}, (∀ τ h, K τ h → K' τ h) → wpd' P H n ops tab K rs τ h → wpd' P H n ops tab K' rs τ h
  | [], K, K', rs, τ, h, hk, q => hk _ _ q
  | (i, need) :: l, K, K', rs, τ, h, hk, q => by
    unfold wpd' at q ⊢
    split at q
    · exact q.elim
    · rename_i o ho
      cases hg : o.guard with
      | none =>
        simp only [hg] at q ⊢
        exact q.mono fun v h k => ⟨k.1, wpd_mono hk k.2⟩
      | some g =>
        obtain ⟨j, b⟩ := g
        simp only [hg] at q ⊢
        rcases q with ⟨e, q⟩ | ⟨e, q⟩
        · exact .inl ⟨e, q.mono fun v h k => ⟨k.1, wpd_mono hk k.2⟩⟩
        · exact .inr ⟨e, q.1, wpd_mono hk q.2⟩
theorem wpo_cut {ops : Array Oper} {l : List Oper} {K : Tp → Heap → Prop} {τ : Tp} {h : Heap} (M : Tp → Heap → Prop) (h1 : wpo P H n ops l M τ h) (h2 : ∀ τ h, M τ h → K τ h) : wpo P H n ops l K τ h := wpo_mono h2 h1
theorem wpd_cut {ops : Array Oper} {tab : List (Nat × List Nat)} {K : Tp → Heap → Prop} {rs : List Rc} {τ : Tp} {h : Heap} (M : Tp → Heap → Prop) (h1 : wpd P H n ops tab M rs τ h) (h2 : ∀ τ h, M τ h → K τ h) : wpd P H n ops tab K rs τ h := wpd_mono h2 h1
theorem wpc_cut {a b : Code} {Q : Post} {τ : Tp} {h : Heap} (M : Tp → Heap → Prop) (h1 : wpc P H n a (thenQ M Q) τ h) (h2 : ∀ τ h, M τ h → wpc P H n b Q τ h) : wpc P H n (.seq a b) Q τ h :=
  wpc_mono a _ _ (fun e τ h => by cases e <;> first | exact h2 τ h | exact id) τ h h1
/-- The temporaries, told anew. -/
theorem cut_wpo {ops : Array Oper} {l : List Oper} {K : Tp → Heap → Prop} {τ : Tp} {h : Heap} (k : ∀ τ', τ = τ' → wpo P H n ops l K τ' h) : wpo P H n ops l K τ h := k τ rfl
theorem cut_wpc {c : Code} {Q : Post} {τ : Tp} {h : Heap} (k : ∀ τ', τ = τ' → wpc P H n c Q τ' h) : wpc P H n c Q τ h := k τ rfl
theorem cut_wpd {ops : Array Oper} {tab : List (Nat × List Nat)} {K : Tp → Heap → Prop} {rs : List Rc} {τ : Tp} {h : Heap} (k : ∀ τ', τ = τ' → wpd P H n ops tab K rs τ' h) : wpd P H n ops tab K rs τ h := k τ rfl
theorem cut_W {c : Code} {Q : Post} {τ : Tp} {h : Heap} (k : ∀ τ', τ = τ' → W P H n c Q τ' h) : W P H n c Q τ h := k τ rfl
theorem all_tt (l : List Nat) : (l.all fun _ => true) = true := by simp
theorem touchApp_full (p : Option (Nat × Nat)) (len : Nat) (x : V) : (touchApp (.slice p len (some len)) x).2 = [] := by
  unfold touchApp
  cases hn : lenV x with
  | none => rfl
  | some n =>
    simp only
    by_cases h0 : n = 0
    · simp [h0]
    · rw [if_neg h0]
      cases p with
      | none => rfl
      | some q => obtain ⟨a, b⟩ := q; simp only; rw [if_neg (by omega)]
theorem touchApp_open (a b : Nat) (len : Nat) (x : V) (f : Nat → Bool) (h : f a = true) : (touchApp (.slice (some (a, b)) len none) x).2.all f = true := by
  unfold touchApp
  cases hn : lenV x with
  | none => rfl
  | some n =>
    simp only
    by_cases h0 : n = 0
    · simp [h0]
    · rw [if_neg h0]; simp [h]
/-- A loop over a list's elements: I tells the state ahead of each round. -/
theorem W.fold {α σ : Type} {b : Code} {Q : Post} (ys : List α) (f : σ → α → σ) (s0 : σ) (I : Nat → σ → Tp → Heap → Prop)
    (round : ∀ (i : Nat) (s : σ) (τ : Tp) (h : Heap), i ≤ ys.length → I i s τ h → s = (ys.take i).foldl f s0 → wpc P H n b (thenQ (fun τ h => ∃ hi : i < ys.length, I (i + 1) (f s ys[i]) τ h) Q) τ h)
    {τ : Tp} {h : Heap} (h0 : I 0 s0 τ h) : W P H n (.loop b) Q τ h := by
  refine W.loop (fun m τ h => ∃ i, m + i = ys.length ∧ I i ((ys.take i).foldl f s0) τ h) ?_ (m := ys.length) ⟨0, by simp, by simpa using h0⟩
  rintro m τ h ⟨i, hm, hI⟩
  have := round i _ τ h (by omega) hI rfl
  have key : ∀ (c : Code) (K K' : Tp → Heap → Prop) (τ : Tp) (h : Heap), (∀ τ h, K τ h → K' τ h) → wpc P H n c (thenQ K Q) τ h → wpc P H n c (thenQ K' Q) τ h := by
    intro c K K' τ h hk hw
    exact wpc_mono c _ _ (fun e τ h => by cases e <;> first | exact hk τ h | exact id) τ h hw
  refine key b _ _ τ h ?_ this
  rintro τ h ⟨hi, hI⟩
  refine ⟨m - 1, by omega, i + 1, by omega, ?_⟩
  rw [List.take_succ_eq_append_getElem hi, List.foldl_append]
  exact hI
end
end Go.Proofs.YtcaolnmpldbkjaaGreatA
