/- Words of this session: code and calls of the second reading hold of the model. -/
import Derived.Test.YtcaolnmpldbkjaaGreatAx10
namespace Go.Proofs.YtcaolnmpldbkjaaGreatA
open Go Go.RowKit
set_option linter.unusedVariables false
set_option linter.unusedSimpArgs false

section
variable {P : Program}
/-- A call of f on these arguments comes to R. -/
def CallsTo (P : Program) (f : FuncId) (A : Array Value) (w : World) (R : Value → World → Prop) : Prop :=
  ((callFunc f A).run P w = .ok (.enter f A) w ∧ Calls P f A w fun e w' => ∃ v, e = .returned v ∧ R v w') ∨ ∃ v w', (callFunc f A).run P w = .ok (.value v) w' ∧ R v w'
def SoundC (P : Program) (C : CallF) : Prop := ∀ f args h v h', C f args h = some (v, h') → ∀ (ι : Mp) (w : World) (A : Array Value), Rel ι h w → RVs ι args A.toList → Free ι h.length h'.length →
  CallsTo P f A w fun x w' => ∃ κ, RV κ v x ∧ Stp ι h w κ h' w'
def MonoC (C : CallF) : Prop := ∀ f args h r, C f args h = some r → Mono h r.2
/-- What code gives, whatever follows. -/
def Goes (P : Program) (c : Code) (s : St) (e : Ex) (s' : St) : Prop := ∀ (ι : Mp) (w : World) (a : Act), Rel ι s.h w → RVs ι s.t a.tmps.toList → a.defers = [] → Free ι s.h.length s'.h.length →
  ∀ Q : Exit → Act → World → Prop, (∀ κ a' w', RVs κ s'.t a'.tmps.toList → a'.defers = [] → Stp ι s.h w κ s'.h w' → Q (match e with | .norm => .normal | .ret => .ret | .exit i => .exit i) a' w') → c.wp P Q a w
structure SoundD (P : Program) (D : DrawF) : Prop where
  mono : ∀ C, MonoC C → ∀ ops s s', D C ops s = some s' → Mono s.h s'.h
  goes : ∀ C, SoundC P C → MonoC C → ∀ id ops s s', D C ops s = some s' → Goes P (.region id ops true) s .norm s'

theorem Free.mono {ι : Mp} {m m' n n' : Nat} (h : Free ι m n) (h1 : m ≤ m') (h2 : n' ≤ n) : Free ι m' n' := fun id a b => h id (by omega) (by omega)
theorem Stp.free {ι κ : Mp} {h h' : Heap} {w w' : World} (s : Stp ι h w κ h' w') {n : Nat} (hf : Free ι h'.length n) : Free κ h'.length n := fun id a b => by
  cases hq : κ id with
  | none => rfl
  | some pl => rcases s.fresh id pl hq with x | ⟨_, x⟩
               · rw [hf id a b] at x; cases x
               · omega
theorem put_rv {ι : Mp} {t : List V} {a : Act} {dst : Option Tmp} {v : V} {x : Value} (ht : RVs ι t a.tmps.toList) (hv : RV ι v x) : RVs ι (putV t dst v) (a.put dst x).tmps.toList := by
  cases dst with
  | none => exact ht
  | some d => simp only [putV, Act.put, Array.toList_setIfInBounds]; exact ht.set d hv
theorem put_defers {a : Act} {dst : Option Tmp} {x : Value} (h : a.defers = []) : (a.put dst x).defers = [] := by cases dst <;> exact h
theorem undef_rv (ι : Mp) : RV ι undefV undef := .tuple [] #[] rfl fun i v c h => by simp at h
theorem yield_eq {ι : Mp} {t : List V} {a : Act} (ht : RVs ι t a.tmps.toList) (ops : Array Oper) : yieldV ops t = yielded ops a.tmps := by
  funext j
  unfold yieldV yielded
  cases hd : (ops[j]?).bind (·.dst) with
  | none => rfl
  | some d =>
    simp only [Option.bind_some]
    have hl : t.length = a.tmps.size := by simpa using ht.1
    cases hv : t[d]? with
    | none =>
      have : a.tmps[d]? = none := Array.getElem?_eq_none (by rw [← hl]; simpa using hv)
      rw [this]
    | some v =>
      obtain ⟨c, h1, h2⟩ := ht.get hv
      have h1' : a.tmps[d]? = some c := by simpa using h1
      rw [h1']
      cases h2 <;> rfl

/-- One operation. -/
theorem op_goes {C : CallF} (hC : SoundC P C) {o : Oper} {s : St} {r : V × Heap} (hp : primV P C o s.t s.h = some r) {ι : Mp} {w : World} {a : Act} (hr : Rel ι s.h w) (ht : RVs ι s.t a.tmps.toList) (hd : a.defers = []) (hf : Free ι s.h.length r.2.length)
    {K : Act → World → Prop} {Q : Exit → Act → World → Prop} (hK : ∀ κ a' w' , RVs κ (putV s.t o.dst r.1) a'.tmps.toList → a'.defers = [] → (∃ x, a' = a.put o.dst x ∧ RV κ r.1 x) → Stp ι s.h w κ r.2 w' → K a' w') : o.wp P a w K Q := by
  have hval : ∀ κ w' x, RV κ r.1 x → Stp ι s.h w κ r.2 w' → K (a.put o.dst x) w' := fun κ w' x h1 h2 => hK κ _ w' (put_rv (ht.mono h2.sub) h1) (put_defers hd) ⟨x, rfl, h1⟩ h2
  cases hc : isCall o with
  | false =>
    obtain ⟨κ, w', n, hrun, hn, hst⟩ := prim_out hr ht hc hp hf
    unfold Oper.wp
    rw [hrun]
    rcases hn with ⟨x, rfl, hx⟩ | ⟨rfl, hv⟩
    · rw [Oper.upon_value]; exact hval κ w' x hx hst
    · rw [Oper.upon_skip]; exact hval κ w' undef (hv ▸ undef_rv κ) hst
  | true =>
    obtain ⟨dst, op, ty, pos, after, guard⟩ := o
    cases op <;> simp only [isCall] at hc <;> (try cases hc)
    rename_i c
    simp only [primV, p_call] at hp
    split at hp
    · rename_i b hb; simp [hb] at hc
    · rename_i f hb
      split at hp
      · rename_i fv hfv
        unfold argsV at hp
        split at hp
        · rename_i f' first cap args hargs
          have e1 := ev_rv ht hfv
          have e2 := evs_rv ht hargs
          generalize hF : a.eval f = F at e1
          cases e1 with
          | func _ _ _ A B ha hb' h1 h2 =>
            have hA : RVs ι first A.toList := ⟨by simpa using ha, fun i v c p q => h1 i v c p (by simpa using q)⟩
            have hB : RVs ι cap B.toList := ⟨by simpa using hb', fun i v c p q => h2 i v c p (by simpa using q)⟩
            have hall : RVs ι (first ++ args ++ cap) (A ++ c.args.map a.eval ++ B).toList := by
              rw [Array.toList_append, Array.toList_append, Array.toList_map]
              exact (hA.append e2).append hB
            have hres := hC f' _ s.h r.1 r.2 hp ι w _ hr hall hf
            have hexec : execOp a.eval ⟨dst, .call c, ty, pos, after, guard⟩ = callFunc f' (A ++ c.args.map a.eval ++ B) := by
              simp only [execOp, resolve, hb, hF, Deferred.ofValue]
              rfl
            unfold Oper.wp
            rw [hexec]
            rcases hres with ⟨h1, h2⟩ | ⟨x, w', h1, κ, h2, h3⟩
            · rw [h1, Oper.upon_enter]
              refine h2.mono ?_
              rintro e w' ⟨x, rfl, κ, h3, h4⟩
              exact hval κ w' x h3 h4
            · rw [h1, Oper.upon_value]
              exact hval κ w' x h2 h3
        · cases hp
      · cases hp
    · cases hp
theorem stepV_mono {C : CallF} (hC : MonoC C) {ops : Array Oper} {o : Oper} {s s' : St} (h : stepV P C ops o s = some s') : Mono s.h s'.h := by
  unfold stepV at h
  split at h
  · split at h
    · rename_i r hr
      simp at h; subst h
      exact primV_mono (fun f args r => hC f args _ r) hr
    · cases h
  · cases h; exact .refl _
theorem opsV_mono {C : CallF} (hC : MonoC C) {ops : Array Oper} : ∀ {l : List Oper} {s s' : St}, opsV P C ops l s = some s' → Mono s.h s'.h
  | [], s, s', h => by rw [opsV_nil] at h; cases h; exact .refl _
  | o :: l, s, s', h => by
    rw [opsV_cons] at h
    split at h
    · rename_i s1 h1; exact (stepV_mono hC h1).trans (opsV_mono hC h)
    · cases h
theorem ops_goes {C : CallF} (hC : SoundC P C) (hM : MonoC C) {ops : Array Oper} {Q : Exit → Act → World → Prop} : ∀ {l : List Oper} {s s' : St}, opsV P C ops l s = some s' → ∀ {ι : Mp} {w : World} {a : Act}, Rel ι s.h w → RVs ι s.t a.tmps.toList → a.defers = [] → Free ι s.h.length s'.h.length →
    (∀ κ a' w', RVs κ s'.t a'.tmps.toList → a'.defers = [] → Stp ι s.h w κ s'.h w' → Q .normal a' w') → wpList P ops Q l a w
  | [], s, s', h, ι, w, a, hr, ht, hd, hf, hQ => by
    rw [opsV_nil] at h; cases h
    exact hQ ι a w ht hd (.refl hr)
  | o :: l, s, s', h, ι, w, a, hr, ht, hd, hf, hQ => by
    rw [opsV_cons] at h
    split at h
    · rename_i s1 h1
      have m1 := stepV_mono hM h1
      have m2 := opsV_mono hM h
      refine wpList_step fun K hK => ?_
      have hy := yield_eq ht ops
      unfold stepV at h1
      split at h1
      · rename_i hw
        rw [hy] at hw
        rw [if_pos hw]
        split at h1
        · rename_i r hp
          simp at h1; subst h1
          refine op_goes hC hp hr ht hd (hf.mono (Nat.le_refl _) m2.1) fun κ a' w' g1 g2 _ g3 => hK _ _ ?_
          refine ops_goes hC hM h g3.rel g1 g2 (g3.free (hf.mono m1.1 (Nat.le_refl _))) fun κ' a'' w'' k1 k2 k3 => hQ κ' a'' w'' k1 k2 (g3.trans k3)
        · cases h1
      · rename_i hw
        rw [hy] at hw
        cases h1
        rw [if_neg (by simp [hw])]
        exact hK _ _ (ops_goes hC hM h hr (put_rv ht (undef_rv ι)) (put_defers hd) hf hQ)
    · cases h

/-! ### results -/
theorem resV_run {ι : Mp} {t : List V} {h : Heap} {w : World} (hr : Rel ι h w) {T : Array Value} (ht : RVs ι t T.toList) : ∀ {l : List ResultVar} {vs : List V}, resV P t h l = some vs →
    ∃ xs : List Value, (l.mapM fun
      | .tmp t => pure (T.getD t undef)
      | .cell a t => do loadVar t (← asAddr (T.getD a undef)) : Sem (List Value)).run P w = .ok xs w ∧ RVs ι vs xs
  | [], vs, hq => by cases hq; exact ⟨[], by simp, .nil ι⟩
  | .tmp i :: l, vs, hq => by
    unfold resV at hq
    cases hl : resV P t h l with
    | none => simp [hl] at hq
    | some vs' =>
      simp [hl] at hq; subst hq
      obtain ⟨xs, h1, h2⟩ := resV_run hr ht hl
      have hv : RV ι (getL t i) (T.getD i undef) := evTmp_rv (a := ⟨T, []⟩) ht i
      exact ⟨T.getD i undef :: xs, by rw [List.mapM_cons]; simp only [Sem.run_bind, Sem.run_pure, Result.andThen_ok, h1], .cons hv h2⟩
  | .cell i ty :: l, vs, hq => by
    unfold resV at hq
    split at hq
    · rename_i id off hp
      split at hq
      · rename_i v vs' hv hl
        cases hq
        obtain ⟨xs, h1, h2⟩ := resV_run hr ht hl
        have hv' : RV ι (getL t i) (T.getD i undef) := evTmp_rv (a := ⟨T, []⟩) ht i
        rw [hp] at hv'
        generalize hX : T.getD i undef = X at hv'
        cases hv' with
        | ptr _ _ pl hpl =>
          obtain ⟨x, g1, g2⟩ := loadV_run (P := P) hr hv hpl
          have hA : (asAddr (T.getD i undef)).run P w = .ok ⟨pl.blk, pl.off + off, none⟩ w := by rw [hX]; rfl
          exact ⟨x :: xs, by rw [List.mapM_cons]; simp only [Sem.run_bind, hA, Sem.run_pure, Result.andThen_ok, g1, h1], .cons g2 h2⟩
      · cases hq
    · cases hq
theorem results_run {ι : Mp} {t : List V} {h : Heap} {w : World} (hr : Rel ι h w) {T : Array Value} (ht : RVs ι t T.toList) {fn : Func} {vs : List V} (hq : resV P t h fn.results.toList = some vs) : ∃ x, (results fn T).run P w = .ok x w ∧ RV ι (oneV vs) x := by
  obtain ⟨xs, h1, h2⟩ := resV_run (P := P) hr ht hq
  have h3 : (results fn T).run P w = .ok (if h : xs.toArray.size = 1 then xs.toArray[0] else .tuple xs.toArray) w := by
    unfold results
    rw [Array.mapM_eq_mapM_toList]
    simp only [Sem.run_bind, Sem.run_map]
    erw [h1]
    rfl
  refine ⟨_, h3, ?_⟩
  match vs, xs, h2 with
  | [v], xs, h2 =>
    obtain ⟨c, xs', rfl, hc, hx⟩ := RVs.head h2
    obtain rfl := hx.nil_inv
    exact hc
  | [], xs, h2 =>
    obtain rfl := h2.nil_inv
    exact .tuple [] #[] rfl fun i v c h => by simp at h
  | v :: u :: vs, xs, h2 =>
    obtain ⟨c, xs', rfl, hc, hx⟩ := RVs.head h2
    obtain ⟨d, xs'', rfl, hc', hx'⟩ := RVs.head hx
    rw [dif_neg (by simp)]
    exact .tuple _ _ h2.1 fun i v c p q => h2.2 i v c p (by simpa using q)

/-! ### code -/
theorem runV_mono {H : Hooks} {D : DrawF} (hH : ∀ f g, H f = some g → ∀ args h r, g args h = some r → Mono h r.2) (hD : SoundD P D) : ∀ (k : Nat) (c : Code) (s : St) (r : Ex × St), runV P H D k c s = some r → Mono s.h r.2.h
  | 0, c, s, r, h => by rw [runV_zero] at h; cases h
  | k + 1, c, s, r, h => by
    have ih := runV_mono hH hD k
    have hC : MonoC (hookV H (callV P (runV P H D k))) := by
      intro f args h r hq
      unfold hookV at hq
      split at hq
      · exact hH _ _ (by assumption) _ _ _ hq
      · unfold callV at hq
        split at hq
        · split at hq
          · rw [forceL_eq] at hq
            unfold backV at hq
            split at hq
            · rename_i s' hs
              have := ih _ _ _ hs
              cases hr : resV P s'.t s'.h (‹Func›).results.toList with
              | none => simp [hr] at hq
              | some vs => simp [hr] at hq; subst hq; exact this
            · rename_i s' hs
              have := ih _ _ _ hs
              cases hr : resV P s'.t s'.h (‹Func›).results.toList with
              | none => simp [hr] at hq
              | some vs => simp [hr] at hq; subst hq; exact this
            · cases hq
          · cases hq
        · cases hq
    rw [runV_succ] at h
    cases c <;> simp only [codeV] at h <;> (try (cases h; done))
    case skip => cases h; exact .refl _
    case label => cases h; exact .refl _
    case ret => cases h; exact .refl _
    case exit => cases h; exact .refl _
    case seq a b =>
      unfold thenV at h
      split at h
      · rename_i s1 h1; exact (ih _ _ _ h1).trans (ih _ _ _ h)
      · exact ih _ _ _ h
    case cond c a b =>
      unfold condV at h
      split at h
      · exact ih _ _ _ h
      · exact ih _ _ _ h
      · cases h
    case block id b =>
      unfold outV at h
      split at h
      · rename_i i s1 h1
        have := ih _ _ _ h1
        split at h <;> cases h <;> exact this
      · exact ih _ _ _ h
    case loop b =>
      unfold thenV at h
      split at h
      · rename_i s1 h1; exact (ih _ _ _ h1).trans (ih _ _ _ h)
      · exact ih _ _ _ h
    case region id ops draw =>
      cases draw <;> simp only [codeV] at h
      · unfold normV at h
        split at h
        · rename_i s1 h1; cases h; exact opsV_mono hC h1
        · cases h
      · unfold normV at h
        split at h
        · rename_i s1 h1; cases h; exact hD.mono _ hC _ _ _ h1
        · cases h

/-- A loop, once round and then itself again, as often as a number says. -/
theorem wp_loop_ghost {c : Code} {Q : Exit → Act → World → Prop} (I : Nat → Act → World → Prop) (round : ∀ n a w, I n a w → c.wp P (Exit.then (fun a' w' => ∃ m, m < n ∧ I m a' w') Q) a w) {n : Nat} {a : Act} {w : World} (h0 : I n a w) : (Code.loop c).wp P Q a w := by
  intro b k cs
  have key : ∀ n a w, I n a w → ∃ e a' w', Q e a' w' ∧ Arrives P (lone (b.at a (.code c :: .inLoop c :: k)) cs w) b k cs e a' w' := by
    intro n
    induction n using Nat.strongRecOn with
    | _ n ih =>
      intro a w hI
      obtain ⟨e, a₁, w₁, hq, harr⟩ := round n a w hI b (.inLoop c :: k) cs
      cases e with
      | normal =>
        obtain ⟨m, hlt, hI₁⟩ := hq
        obtain ⟨e₂, a₂, w₂, hq₂, harr₂⟩ := ih m hlt a₁ w₁ hI₁
        exact ⟨e₂, a₂, w₂, hq₂, .of_steps (Steps.trans harr (.one step_inLoop)) harr₂⟩
      | exit id => exact ⟨_, a₁, w₁, hq, .pass (x := .inLoop c) rfl (fun _ _ => .inl (by simp)) harr⟩
      | goto l => exact ⟨_, a₁, w₁, hq, .pass (x := .inLoop c) rfl (fun _ _ => .inl (by simp)) harr⟩
      | ret => exact ⟨_, a₁, w₁, hq, .pass (x := .inLoop c) rfl (fun _ _ => .inl (by simp)) harr⟩
      | panic ch => exact ⟨_, a₁, w₁, hq, .pass (x := .inLoop c) rfl (fun _ _ => .inl (by simp)) harr⟩
      | outgrown => exact ⟨_, a₁, w₁, hq, .pass (x := .inLoop c) rfl (fun _ _ => .inl (by simp)) harr⟩
  obtain ⟨e, a', w', hq, harr⟩ := key n a w h0
  exact ⟨e, a', w', hq, .of_steps (.one step_loop) harr⟩

/-- What is told of the hooks. -/
structure SoundH (P : Program) (H : Hooks) : Prop where
  mono : ∀ f g, H f = some g → ∀ args h r, g args h = some r → Mono h r.2
  goes : ∀ f g, H f = some g → ∀ args h v h', g args h = some (v, h') → ∀ (ι : Mp) (w : World) (A : Array Value), Rel ι h w → RVs ι args A.toList → Free ι h.length h'.length →
    CallsTo P f A w fun x w' => ∃ κ, RV κ v x ∧ Stp ι h w κ h' w'
def Named (P : Program) : Prop := ∀ (f : FuncId) (fn : Func), P.funcs[f]? = some fn → fn.name ≠ "runtime.NumGoroutine"
theorem callV_sound {rec : RunF} (hN : Named P) (hrec : ∀ c s r, rec c s = some r → Goes P c s r.1 r.2) : SoundC P (callV P rec) := by
  intro f args h v h' hq ι w A hr ha hf
  unfold callV at hq
  split at hq
  · rename_i fn hfn
    split at hq
    · rename_i c hc
      rw [forceL_eq] at hq
      left
      have hlen : args.length = A.size := by simpa using ha.1
      refine ⟨?_, ?_⟩
      · have hn := hN f fn hfn
        simp [callFunc, hfn, hc, hn]
      · refine calls_of_wp hfn hc ?_
        have htm : RVs ι (args ++ List.replicate (fn.ntmps - args.length) undefV) (A ++ Array.replicate (fn.ntmps - A.size) undef).toList := by
          rw [Array.toList_append, Array.toList_replicate, hlen]
          exact ha.append (RVs.replicate (undef_rv ι) _)
        have fin : ∀ s' : St, (resV P s'.t s'.h fn.results.toList).map (fun vs => (oneV vs, s'.h)) = some (v, h') → s'.h = h' ∧ ∀ κ (T : Array Value) w', RVs κ s'.t T.toList → Rel κ s'.h w' → ∃ x, (results fn T).run P w' = .ok x w' ∧ RV κ v x := by
          intro s' hs
          cases hres : resV P s'.t s'.h fn.results.toList with
          | none => simp [hres] at hs
          | some vs =>
            simp [hres] at hs
            obtain ⟨rfl, rfl⟩ := hs
            exact ⟨rfl, fun κ T w' h1 h2 => results_run h2 h1 hres⟩
        unfold backV at hq
        split at hq
        · rename_i s' hs
          obtain ⟨rfl, hres⟩ := fin s' hq
          refine hrec _ _ _ hs ι w _ hr htm rfl hf _ fun κ a' w' g1 g2 g3 => ?_
          obtain ⟨x, k1, k2⟩ := hres κ a'.tmps w' g1 g3.rel
          exact ⟨g2, x, k1, x, rfl, κ, k2, g3⟩
        · rename_i s' hs
          obtain ⟨rfl, hres⟩ := fin s' hq
          refine hrec _ _ _ hs ι w _ hr htm rfl hf _ fun κ a' w' g1 g2 g3 => ?_
          obtain ⟨x, k1, k2⟩ := hres κ a'.tmps w' g1 g3.rel
          exact ⟨g2, x, k1, x, rfl, κ, k2, g3⟩
        · cases hq
    · cases hq
  · cases hq
theorem hookV_sound {H : Hooks} (hH : SoundH P H) {C : CallF} (hC : SoundC P C) : SoundC P (hookV H C) := by
  intro f args h v h' hq
  unfold hookV at hq
  split at hq
  · exact hH.goes _ _ (by assumption) _ _ _ _ hq
  · exact hC _ _ _ _ _ hq
theorem callV_mono {rec : RunF} (hrec : ∀ c s r, rec c s = some r → Mono s.h r.2.h) : MonoC (callV P rec) := by
  intro f args h r hq
  unfold callV at hq
  split at hq
  · split at hq
    · rw [forceL_eq] at hq
      have fin : ∀ (fn : Func) (s' : St), (resV P s'.t s'.h fn.results.toList).map (fun vs => (oneV vs, s'.h)) = some r → r.2 = s'.h := by
        intro fn s' hs
        cases hres : resV P s'.t s'.h fn.results.toList with
        | none => simp [hres] at hs
        | some vs => simp [hres] at hs; subst hs; rfl
      unfold backV at hq
      split at hq
      · rename_i s' hs; rw [fin _ _ hq]; exact hrec _ _ _ hs
      · rename_i s' hs; rw [fin _ _ hq]; exact hrec _ _ _ hs
      · cases hq
    · cases hq
  · cases hq
theorem hookV_mono {H : Hooks} (hH : SoundH P H) {C : CallF} (hC : MonoC C) : MonoC (hookV H C) := by
  intro f args h r hq
  unfold hookV at hq
  split at hq
  · exact hH.mono _ _ (by assumption) _ _ _ hq
  · exact hC _ _ _ _ hq

theorem code_goes {H : Hooks} {D : DrawF} (hN : Named P) (hH : SoundH P H) (hD : SoundD P D) (k : Nat) : ∀ (c : Code) (s : St) (r : Ex × St), runV P H D k c s = some r → Goes P c s r.1 r.2 := by
  induction k using Nat.strongRecOn with
  | _ k ihk =>
  cases k with
  | zero => intro c s r h; rw [runV_zero] at h; cases h
  | succ k =>
    intro c s r h
    have ih := ihk k (Nat.lt_succ_self k)
    have mono := runV_mono hH.mono hD
    have hC := hookV_sound hH (callV_sound hN ih)
    have hM : MonoC (hookV H (callV P (runV P H D k))) := hookV_mono hH (callV_mono (fun c s r => mono k c s r))
    rw [runV_succ] at h
    intro ι w a hr ht hd hf Q hQ
    cases c <;> simp only [codeV] at h <;> (try (cases h; done))
    case skip => cases h; exact wp_skip (hQ ι a w ht hd (.refl hr))
    case label => cases h; exact wp_label (hQ ι a w ht hd (.refl hr))
    case ret => cases h; exact wp_ret (hQ ι a w ht hd (.refl hr))
    case exit => cases h; exact wp_exit (hQ ι a w ht hd (.refl hr))
    case seq x y =>
      unfold thenV at h
      split at h
      · rename_i s1 h1
        have m1 := mono k _ _ _ h1
        have m2 := mono k _ _ _ h
        refine wp_seq ?_
        refine ih _ _ _ h1 ι w a hr ht hd (hf.mono (Nat.le_refl _) m2.1) _ fun κ a' w' g1 g2 g3 => ?_
        refine ih _ _ _ h κ w' a' g3.rel g1 g2 (g3.free (hf.mono m1.1 (Nat.le_refl _))) _ fun κ' a'' w'' k1 k2 k3 => hQ κ' a'' w'' k1 k2 (g3.trans k3)
      · rename_i hne
        refine wp_seq ?_
        refine ih _ _ _ h ι w a hr ht hd hf _ fun κ a' w' g1 g2 g3 => ?_
        have := hQ κ a' w' g1 g2 g3
        obtain ⟨e, s1⟩ := r
        cases e with
        | norm => exact absurd h (hne s1)
        | ret => exact this
        | exit i => exact this
    case cond c x y =>
      unfold condV at h
      split at h
      · rename_i hc
        have hv := ev_rv ht hc
        have hb : a.eval c = .bool true := by generalize a.eval c = q at hv; cases hv; rfl
        exact wp_cond_true hb (ih _ _ _ h ι w a hr ht hd hf _ hQ)
      · rename_i hc
        have hv := ev_rv ht hc
        have hb : a.eval c = .bool false := by generalize a.eval c = q at hv; cases hv; rfl
        exact wp_cond_false hb (ih _ _ _ h ι w a hr ht hd hf _ hQ)
      · cases h
    case block id b =>
      unfold outV at h
      refine wp_block ?_
      split at h
      · rename_i i s1 h1
        split at h
        · rename_i e
          cases h
          refine ih _ _ _ h1 ι w a hr ht hd hf _ fun κ a' w' g1 g2 g3 => ?_
          have := hQ κ a' w' g1 g2 g3
          simp only [Exit.inBlock, e, if_true]
          exact this
        · rename_i e
          cases h
          refine ih _ _ _ h1 ι w a hr ht hd hf _ fun κ a' w' g1 g2 g3 => ?_
          have := hQ κ a' w' g1 g2 g3
          simp only [Exit.inBlock, e, if_false]
          exact this
      · rename_i hne
        refine ih _ _ _ h ι w a hr ht hd hf _ fun κ a' w' g1 g2 g3 => ?_
        have := hQ κ a' w' g1 g2 g3
        obtain ⟨e, s1⟩ := r
        cases e with
        | norm => exact this
        | ret => exact this
        | exit i => exact absurd h (hne i s1)
    case loop b =>
      -- the rounds are numbered by the second reading's own depth
      refine wp_loop_ghost (fun n a' w' => ∃ κ s1, n ≤ k + 1 ∧ runV P H D n (.loop b) s1 = some r ∧ RVs κ s1.t a'.tmps.toList ∧ a'.defers = [] ∧ Stp ι s.h w κ s1.h w') ?_ (n := k + 1) ⟨ι, s, Nat.le_refl _, h, ht, hd, .refl hr⟩
      rintro n a1 w1 ⟨κ, s1, hn, hrun, g1, g2, g3⟩
      cases n with
      | zero => rw [runV_zero] at hrun; cases hrun
      | succ n =>
        have ihn := ihk n (by omega)
        have hall := mono (n + 1) _ _ _ hrun
        rw [runV_succ] at hrun
        simp only [codeV, thenV] at hrun
        split at hrun
        · rename_i s2 h2
          have m1 := mono n _ _ _ h2
          have m2 := mono n _ _ _ hrun
          refine ihn _ _ _ h2 κ w1 a1 g3.rel g1 g2 (g3.free (hf.mono g3.len m2.1)) _ fun κ' a' w' k1 k2 k3 => ?_
          exact ⟨n, Nat.lt_succ_self n, κ', s2, by omega, hrun, k1, k2, g3.trans k3⟩
        · rename_i hne
          refine ihn _ _ _ hrun κ w1 a1 g3.rel g1 g2 (g3.free (hf.mono g3.len (Nat.le_refl _))) _ fun κ' a' w' k1 k2 k3 => ?_
          have := hQ κ' a' w' k1 k2 (g3.trans k3)
          obtain ⟨e, s3⟩ := r
          cases e with
          | norm => exact absurd hrun (hne s3)
          | ret => exact this
          | exit i => exact this
    case region id ops draw =>
      cases draw <;> simp only [codeV] at h
      · unfold normV at h
        split at h
        · rename_i s1 h1
          cases h
          refine wp_region_list ?_
          exact ops_goes hC hM h1 hr ht hd hf hQ
        · cases h
      · unfold normV at h
        split at h
        · rename_i s1 h1
          cases h
          exact hD.goes _ hC hM id ops s s1 h1 ι w a hr ht hd hf Q hQ
        · cases h
end
end Go.Proofs.YtcaolnmpldbkjaaGreatA
