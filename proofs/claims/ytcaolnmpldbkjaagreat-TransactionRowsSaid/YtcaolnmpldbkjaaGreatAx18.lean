/- Words of this session: the second reading without a number of rounds: one equation for each form of code. -/
import Derived.Test.YtcaolnmpldbkjaaGreatAx17
namespace Go.Proofs.YtcaolnmpldbkjaaGreatA
open Go Go.RowKit
set_option linter.unusedVariables false
set_option linter.unusedSimpArgs false

def LeF (C C' : CallF) : Prop := ∀ f a h r, C f a h = some r → C' f a h = some r
def LeR (R R' : RunF) : Prop := ∀ c s r, R c s = some r → R' c s = some r
theorem LeR.refl (R : RunF) : LeR R R := fun _ _ _ h => h
section
variable {P : Program}
theorem primV_nocall {C C' : CallF} {o : Oper} (ho : isCall o = false) (t : List V) (h : Heap) : primV P C o t h = primV P C' o t h := by
  obtain ⟨dst, op, ty, pos, after, guard⟩ := o
  cases op <;> (try rfl)
  case call c =>
    simp only [primV]
    unfold p_call
    split
    · rfl
    · rename_i f hb; simp [isCall, hb] at ho
    · rfl
  case makeFunc fn first cap => cases fn <;> rfl
  case makeMap ty r => cases r <;> rfl
theorem primV_call {C : CallF} {o : Oper} (ho : isCall o = true) {t : List V} {h : Heap} {r : V × Heap} (hp : primV P C o t h = some r) : ∃ f args, C f args h = some r ∧ ∀ C' : CallF, C' f args h = some r → primV P C' o t h = some r := by
  obtain ⟨dst, op, ty, pos, after, guard⟩ := o
  cases op <;> simp only [isCall] at ho <;> (try cases ho)
  rename_i c
  simp only [primV, p_call] at hp ⊢
  split at hp
  · rename_i b hb; simp [hb] at ho
  · rename_i f hb
    split at hp
    · rename_i fv hfv
      unfold argsV at hp
      split at hp
      · rename_i f' first cap args hargs
        exact ⟨f', _, hp, fun C' h => by simp only [hargs, argsV]; exact h⟩
      · cases hp
    · cases hp
  · cases hp
theorem primV_le {C C' : CallF} (hC : LeF C C') {o : Oper} {t : List V} {h : Heap} {r : V × Heap} (hp : primV P C o t h = some r) : primV P C' o t h = some r := by
  cases ho : isCall o with
  | false => rw [primV_nocall ho (C' := C)]; exact hp
  | true => obtain ⟨f, args, h1, h2⟩ := primV_call ho hp; exact h2 C' (hC _ _ _ _ h1)
theorem stepV_le {C C' : CallF} (hC : LeF C C') {ops : Array Oper} {o : Oper} {s s' : St} (hp : stepV P C ops o s = some s') : stepV P C' ops o s = some s' := by
  unfold stepV at hp ⊢
  split at hp
  · rename_i hw
    (try simp only [hw])
    split at hp
    · rename_i r hr
      rw [primV_le hC hr]; exact hp
    · cases hp
  · rename_i hw
    (try simp only [hw]); exact hp
theorem opsV_le {C C' : CallF} (hC : LeF C C') {ops : Array Oper} : ∀ {l : List Oper} {s s' : St}, opsV P C ops l s = some s' → opsV P C' ops l s = some s'
  | [], s, s', h => h
  | o :: l, s, s', h => by
    rw [opsV_cons] at h ⊢
    split at h
    · rename_i s1 h1; rw [stepV_le hC h1]; exact opsV_le hC h
    · cases h
theorem drawGo_le {C C' : CallF} (hC : LeF C C') {ops : Array Oper} {bef : List Nat} : ∀ {l : List Nat} {s : St} {rs : List Rc} {s' : St}, drawGo P C ops bef l s rs = some s' → drawGo P C' ops bef l s rs = some s'
  | [], s, rs, s', h => h
  | i :: l, s, rs, s', h => by
    unfold drawGo at h ⊢
    split at h
    · cases h
    · rename_i o ho
      (try simp only [ho])
      split at h
      · rename_i hw
        (try simp only [hw])
        split at h
        · rename_i r hr
          rw [primV_le hC hr]
          simp only
          split at h
          · rename_i hall
            rw [if_pos hall]
            simp only [doneV_eq] at h ⊢
            exact drawGo_le hC h
          · cases h
        · cases h
      · rename_i hw
        (try simp only [hw])
        split at h
        · rename_i hall
          rw [if_pos hall]
          exact drawGo_le hC h
        · cases h
theorem drawV_le {C C' : CallF} (hC : LeF C C') {ops : Array Oper} {s s' : St} (h : drawV P C ops s = some s') : drawV P C' ops s = some s' := by
  unfold drawV at h ⊢
  split at h
  · rename_i hok; rw [if_pos hok]; exact drawGo_le hC h
  · cases h
theorem callV_le {R R' : RunF} (hR : LeR R R') : LeF (callV P R) (callV P R') := by
  intro f a h r hq
  unfold callV at hq ⊢
  split at hq
  · rename_i fn hfn
    (try simp only [hfn])
    split at hq
    · rename_i c hc
      (try simp only [hc])
      rw [forceL_eq] at hq ⊢
      unfold backV at hq
      split at hq
      · rename_i s hs; rw [hR _ _ _ hs]; exact hq
      · rename_i s hs; rw [hR _ _ _ hs]; exact hq
      · cases hq
    · cases hq
  · cases hq
theorem hookV_le {H : Hooks} {C C' : CallF} (hC : LeF C C') : LeF (hookV H C) (hookV H C') := by
  intro f a h r hq
  unfold hookV at hq ⊢
  split at hq
  · rename_i g hg; (try simp only [hg]); exact hq
  · rename_i hg; (try simp only [hg]); exact hC _ _ _ _ hq
theorem codeV_le {H : Hooks} {R R' : RunF} (hR : LeR R R') : LeR (codeV P H (drawV P) R) (codeV P H (drawV P) R') := by
  intro c s r h
  have hC : LeF (hookV H (callV P R)) (hookV H (callV P R')) := hookV_le (callV_le hR)
  cases c <;> simp only [codeV] at h ⊢ <;> (try (exact h))
  case seq a b =>
    unfold thenV at h ⊢
    split at h
    · rename_i s1 h1; rw [hR _ _ _ h1]; exact hR _ _ _ h
    · rename_i hne
      cases hq : R a s with
      | none => rw [hq] at h; cases h
      | some q =>
        rw [hR _ _ _ hq]
        rw [hq] at h hne
        obtain ⟨e, s1⟩ := q
        cases e with
        | norm => exact absurd rfl (hne s1)
        | ret => exact h
        | exit i => exact h
  case cond c a b =>
    unfold condV at h ⊢
    split at h
    · exact hR _ _ _ h
    · exact hR _ _ _ h
    · cases h
  case block id b =>
    cases hq : R b s with
    | none => rw [hq] at h; cases h
    | some q => rw [hR _ _ _ hq, ← hq]; exact h
  case loop b =>
    unfold thenV at h ⊢
    split at h
    · rename_i s1 h1; rw [hR _ _ _ h1]; exact hR _ _ _ h
    · rename_i hne
      cases hq : R b s with
      | none => rw [hq] at h; cases h
      | some q =>
        rw [hR _ _ _ hq]
        rw [hq] at h hne
        obtain ⟨e, s1⟩ := q
        cases e with
        | norm => exact absurd rfl (hne s1)
        | ret => exact h
        | exit i => exact h
  case region id ops draw =>
    cases draw <;> simp only [codeV] at h ⊢
    · unfold normV at h ⊢
      split at h
      · rename_i s1 h1; rw [opsV_le hC h1]; exact h
      · cases h
    · unfold normV at h ⊢
      split at h
      · rename_i s1 h1; rw [drawV_le hC h1]; exact h
      · cases h
theorem runV_le1 {H : Hooks} (k : Nat) : LeR (runV P H (drawV P) k) (runV P H (drawV P) (k + 1)) := by
  induction k with
  | zero => intro c s r h; rw [runV_zero] at h; cases h
  | succ k ih => intro c s r h; rw [runV_succ] at h ⊢; exact codeV_le ih _ _ _ h
theorem runV_le {H : Hooks} {k k' : Nat} (h : k ≤ k') : LeR (runV P H (drawV P) k) (runV P H (drawV P) k') := by
  induction h with
  | refl => exact .refl _
  | step h ih => exact fun c s r q => runV_le1 _ _ _ _ (ih _ _ _ q)

/-- What code comes to. -/
noncomputable def evalC (P : Program) (H : Hooks) (c : Code) (s : St) : Option (Ex × St) :=
  @dite _ (∃ r, ∃ k, runV P H (drawV P) k c s = some r) (Classical.propDecidable _) (fun h => some (Classical.choose h)) fun _ => none
theorem evalC_iff {H : Hooks} {c : Code} {s : St} {r : Ex × St} : evalC P H c s = some r ↔ ∃ k, runV P H (drawV P) k c s = some r := by
  unfold evalC
  by_cases h : ∃ r, ∃ k, runV P H (drawV P) k c s = some r
  · rw [dif_pos h]
    have hc := Classical.choose_spec h
    obtain ⟨k, hk⟩ := hc
    constructor
    · intro e; simp only [Option.some.injEq] at e; subst e; exact ⟨k, hk⟩
    · rintro ⟨k', hk'⟩
      have h1 := runV_le (Nat.le_max_left k k') _ _ _ hk
      have h2 := runV_le (Nat.le_max_right k k') _ _ _ hk'
      rw [h1] at h2
      exact h2
  · rw [dif_neg h]
    exact ⟨fun e => (by cases e), fun ⟨k, hk⟩ => absurd ⟨r, k, hk⟩ h⟩
noncomputable def callE (P : Program) (H : Hooks) : CallF := hookV H (callV P (evalC P H))
@[reducible] noncomputable def callK (P : Program) (H : Hooks) (k : Nat) : CallF := hookV H (callV P (runV P H (drawV P) k))
theorem callK_le {H : Hooks} {k k' : Nat} (h : k ≤ k') : LeF (callK P H k) (callK P H k') := hookV_le (callV_le (runV_le h))
theorem callK_callE {H : Hooks} (k : Nat) : LeF (callK P H k) (callE P H) := hookV_le (callV_le fun c s r h => evalC_iff.2 ⟨k, h⟩)
theorem callE_cont {H : Hooks} {f : FuncId} {a : List V} {h : Heap} {r : V × Heap} (hq : callE P H f a h = some r) : ∃ k, callK P H k f a h = some r := by
  unfold callE hookV at hq
  unfold callK hookV
  split at hq
  · rename_i g hg; exact ⟨0, hq⟩
  · rename_i hg
    try simp only [hg]
    unfold callV at hq
    split at hq
    · rename_i fn hfn
      split at hq
      · rename_i c hc
        rw [forceL_eq] at hq
        have key : ∀ s e, evalC P H c ⟨a ++ List.replicate (fn.ntmps - a.length) undefV, h⟩ = some (e, s) → ∃ k, runV P H (drawV P) k c ⟨a ++ List.replicate (fn.ntmps - a.length) undefV, h⟩ = some (e, s) := fun s e h => evalC_iff.1 h
        unfold backV at hq
        split at hq
        · rename_i s hs
          obtain ⟨k, hk⟩ := key _ _ hs
          refine ⟨k, ?_⟩
          simp only [callV, hfn, hc, forceL_eq, hk, backV]; exact hq
        · rename_i s hs
          obtain ⟨k, hk⟩ := key _ _ hs
          refine ⟨k, ?_⟩
          simp only [callV, hfn, hc, forceL_eq, hk, backV]; exact hq
        · cases hq
      · cases hq
    · cases hq
theorem primV_cont {H : Hooks} {o : Oper} {t : List V} {h : Heap} {r : V × Heap} (hp : primV P (callE P H) o t h = some r) : ∃ k, primV P (callK P H k) o t h = some r := by
  cases ho : isCall o with
  | false => exact ⟨0, by rw [primV_nocall ho (C' := callE P H)]; exact hp⟩
  | true =>
    obtain ⟨f, args, h1, h2⟩ := primV_call ho hp
    obtain ⟨k, hk⟩ := callE_cont h1
    exact ⟨k, h2 _ hk⟩
theorem stepV_cont {H : Hooks} {ops : Array Oper} {o : Oper} {s s' : St} (hp : stepV P (callE P H) ops o s = some s') : ∃ k, stepV P (callK P H k) ops o s = some s' := by
  unfold stepV at hp
  split at hp
  · rename_i hw
    split at hp
    · rename_i r hr
      obtain ⟨k, hk⟩ := primV_cont hr
      exact ⟨k, by unfold stepV; simp only [hw, hk]; exact hp⟩
    · cases hp
  · rename_i hw
    exact ⟨0, by unfold stepV; simp only [hw]; exact hp⟩
theorem opsV_cont {H : Hooks} {ops : Array Oper} : ∀ {l : List Oper} {s s' : St}, opsV P (callE P H) ops l s = some s' → ∃ k, opsV P (callK P H k) ops l s = some s'
  | [], s, s', h => ⟨0, h⟩
  | o :: l, s, s', h => by
    rw [opsV_cons] at h
    split at h
    · rename_i s1 h1
      obtain ⟨k1, hk1⟩ := stepV_cont h1
      obtain ⟨k2, hk2⟩ := opsV_cont h
      refine ⟨max k1 k2, ?_⟩
      rw [opsV_cons, stepV_le (callK_le (Nat.le_max_left k1 k2)) hk1]
      exact opsV_le (callK_le (Nat.le_max_right k1 k2)) hk2
    · cases h
theorem drawGo_cont {H : Hooks} {ops : Array Oper} {bef : List Nat} : ∀ {l : List Nat} {s : St} {rs : List Rc} {s' : St}, drawGo P (callE P H) ops bef l s rs = some s' → ∃ k, drawGo P (callK P H k) ops bef l s rs = some s'
  | [], s, rs, s', h => ⟨0, h⟩
  | i :: l, s, rs, s', h => by
    unfold drawGo at h
    split at h
    · cases h
    · rename_i o ho
      split at h
      · rename_i hw
        split at h
        · rename_i r hr
          split at h
          · rename_i hall
            simp only [doneV_eq] at h
            obtain ⟨k1, hk1⟩ := primV_cont hr
            obtain ⟨k2, hk2⟩ := drawGo_cont h
            refine ⟨max k1 k2, ?_⟩
            unfold drawGo
            simp only [ho, hw, primV_le (callK_le (Nat.le_max_left k1 k2)) hk1, doneV_eq]
            rw [if_pos hall]
            exact drawGo_le (callK_le (Nat.le_max_right k1 k2)) hk2
          · cases h
        · cases h
      · rename_i hw
        split at h
        · rename_i hall
          obtain ⟨k, hk⟩ := drawGo_cont h
          refine ⟨k, ?_⟩
          unfold drawGo
          simp only [ho, hw]
          rw [if_pos hall]
          exact hk
        · cases h
theorem drawV_cont {H : Hooks} {ops : Array Oper} {s s' : St} (h : drawV P (callE P H) ops s = some s') : ∃ k, drawV P (callK P H k) ops s = some s' := by
  unfold drawV at h
  split at h
  · rename_i hok
    obtain ⟨k, hk⟩ := drawGo_cont h
    exact ⟨k, by unfold drawV; rw [if_pos hok]; exact hk⟩
  · cases h
theorem evalC_mem {H : Hooks} {c : Code} {s : St} {r : Ex × St} (h : evalC P H c s = some r) : ∃ k0, ∀ k, k0 ≤ k → runV P H (drawV P) k c s = some r :=
  let ⟨k, hk⟩ := evalC_iff.1 h
  ⟨k, fun k' hk' => runV_le hk' _ _ _ hk⟩
theorem codeV_cont {H : Hooks} {c : Code} {s : St} {r : Ex × St} (h : codeV P H (drawV P) (evalC P H) c s = some r) : ∃ k, codeV P H (drawV P) (runV P H (drawV P) k) c s = some r := by
  cases c <;> simp only [codeV] at h ⊢ <;> (try (exact ⟨0, h⟩))
  case seq a b =>
    unfold thenV at h ⊢
    split at h
    · rename_i s1 h1
      obtain ⟨k1, hk1⟩ := evalC_mem h1
      obtain ⟨k2, hk2⟩ := evalC_mem h
      exact ⟨max k1 k2, by rw [hk1 _ (Nat.le_max_left ..)]; exact hk2 _ (Nat.le_max_right ..)⟩
    · rename_i hne
      cases hq : evalC P H a s with
      | none => rw [hq] at h; cases h
      | some q =>
        obtain ⟨k1, hk1⟩ := evalC_mem hq
        rw [hq] at h hne
        refine ⟨k1, ?_⟩
        rw [hk1 _ (Nat.le_refl _)]
        obtain ⟨e, s1⟩ := q
        cases e with
        | norm => exact absurd rfl (hne s1)
        | ret => exact h
        | exit i => exact h
  case cond c a b =>
    unfold condV at h ⊢
    split at h
    · exact evalC_iff.1 h
    · exact evalC_iff.1 h
    · cases h
  case block id b =>
    cases hq : evalC P H b s with
    | none => rw [hq] at h; cases h
    | some q =>
      obtain ⟨k1, hk1⟩ := evalC_mem hq
      exact ⟨k1, by rw [hk1 _ (Nat.le_refl _), ← hq]; exact h⟩
  case loop b =>
    unfold thenV at h ⊢
    split at h
    · rename_i s1 h1
      obtain ⟨k1, hk1⟩ := evalC_mem h1
      obtain ⟨k2, hk2⟩ := evalC_mem h
      exact ⟨max k1 k2, by rw [hk1 _ (Nat.le_max_left ..)]; exact hk2 _ (Nat.le_max_right ..)⟩
    · rename_i hne
      cases hq : evalC P H b s with
      | none => rw [hq] at h; cases h
      | some q =>
        obtain ⟨k1, hk1⟩ := evalC_mem hq
        rw [hq] at h hne
        refine ⟨k1, ?_⟩
        rw [hk1 _ (Nat.le_refl _)]
        obtain ⟨e, s1⟩ := q
        cases e with
        | norm => exact absurd rfl (hne s1)
        | ret => exact h
        | exit i => exact h
  case region id ops draw =>
    cases draw <;> simp only [codeV] at h ⊢
    · unfold normV at h ⊢
      split at h
      · rename_i s1 h1
        obtain ⟨k, hk⟩ := opsV_cont h1
        exact ⟨k, by rw [hk]; exact h⟩
      · cases h
    · unfold normV at h ⊢
      split at h
      · rename_i s1 h1
        obtain ⟨k, hk⟩ := drawV_cont h1
        exact ⟨k, by rw [hk]; exact h⟩
      · cases h
/-- What code comes to, by its form. -/
theorem evalC_eq {H : Hooks} (c : Code) (s : St) : evalC P H c s = codeV P H (drawV P) (evalC P H) c s := by
  apply Option.ext
  intro r
  constructor
  · intro h
    obtain ⟨k, hk⟩ := evalC_iff.1 h
    have hk' := runV_le1 k _ _ _ hk
    rw [runV_succ] at hk'
    exact codeV_le (fun c s r h => evalC_iff.2 ⟨k, h⟩) _ _ _ hk'
  · intro h
    obtain ⟨k, hk⟩ := codeV_cont h
    exact evalC_iff.2 ⟨k + 1, by rw [runV_succ]; exact hk⟩
end
end Go.Proofs.YtcaolnmpldbkjaaGreatA
