/- Words of this session: a statement whose operations may be carried out in more than one order: one order is gone through, and it is asked of each two operations that the order leaves open that neither minds the other. -/
import Derived.Test.YtcaolnmpldbkjaaGreatAx13
namespace Go.Proofs.YtcaolnmpldbkjaaGreatA
open Go Go.RowKit
set_option linter.unusedVariables false
set_option linter.unusedSimpArgs false

structure Rc where
  i : Nat
  call : Bool
  reads : List Nat
  muts : List Nat
  h0 : Heap
  h1 : Heap
def entsSame : List (V × V × Nat) → List (V × V × Nat) → Bool
  | [], [] => true
  | (a, b, n) :: x, (c, d, m) :: y => V.same a c && V.same b d && n == m && entsSame x y
  | _, _ => false
def sameO : Option O → Option O → Bool
  | some (.cells a j), some (.cells b k) => decide (j = k) && V.sames a b
  | some (.map es c), some (.map fs d) => c == d && entsSame es fs
  | some .dead, some .dead => true
  | none, none => true
  | _, _ => false
def isDead : Option O → Bool
  | some .dead => true
  | _ => false
mutual
theorem same_eq : ∀ {a b : V}, V.same a b = true → a = b
  | .bool a, b, h => by cases b <;> simp [V.same] at h; rw [h]
  | .int j a, b, h => by cases b <;> simp [V.same] at h; rw [h.1, h.2]
  | .str a, b, h => by cases b <;> simp [V.same] at h; rw [h]
  | .ptr p, b, h => by cases b <;> simp [V.same] at h; rw [h]
  | .slice p l c, b, h => by cases b <;> simp [V.same] at h; rw [h.1.1, h.1.2, h.2]
  | .map a, b, h => by cases b <;> simp [V.same] at h; rw [h]
  | .func f x y, b, h => by cases b <;> simp [V.same] at h; rw [h.1.1, sames_eq h.1.2, sames_eq h.2]
  | .nilFunc, b, h => by cases b <;> simp [V.same] at h; rfl
  | .iface t v, b, h => by cases b <;> simp [V.same] at h; rw [h.1, same_eq h.2]
  | .nilIface, b, h => by cases b <;> simp [V.same] at h; rfl
  | .agg a, b, h => by cases b <;> simp [V.same] at h; rw [sames_eq h]
  | .tuple a, b, h => by cases b <;> simp [V.same] at h; rw [sames_eq h]
theorem sames_eq : ∀ {a b : List V}, V.sames a b = true → a = b
  | [], b, h => by cases b <;> simp [V.sames] at h; rfl
  | x :: a, b, h => by
    cases b with
    | nil => simp [V.sames] at h
    | cons y b => simp [V.sames] at h; rw [same_eq h.1, sames_eq h.2]
end
mutual
theorem same_refl : ∀ (a : V), V.same a a = true
  | .bool a => by simp [V.same]
  | .int j a => by simp [V.same]
  | .str a => by simp [V.same]
  | .ptr p => by simp [V.same]
  | .slice p l c => by simp [V.same]
  | .map a => by simp [V.same]
  | .func f x y => by simp [V.same, sames_refl x, sames_refl y]
  | .nilFunc => by simp [V.same]
  | .iface t v => by simp [V.same, same_refl v]
  | .nilIface => by simp [V.same]
  | .agg a => by simp [V.same, sames_refl a]
  | .tuple a => by simp [V.same, sames_refl a]
theorem sames_refl : ∀ (a : List V), V.sames a a = true
  | [] => rfl
  | x :: a => by simp [V.sames, same_refl x, sames_refl a]
end
theorem ents_eq : ∀ {x y : List (V × V × Nat)}, entsSame x y = true → x = y
  | [], y, h => by cases y <;> simp [entsSame] at h; rfl
  | (a, b, n) :: x, y, h => by
    cases y with
    | nil => simp [entsSame] at h
    | cons q y => obtain ⟨c, d, m⟩ := q; simp [entsSame] at h; rw [same_eq h.1.1.1, same_eq h.1.1.2, h.1.2, ents_eq h.2]
theorem ents_refl : ∀ (x : List (V × V × Nat)), entsSame x x = true
  | [] => rfl
  | (a, b, n) :: x => by simp [entsSame, same_refl, ents_refl x]
theorem sameO_eq {a b : Option O} (h : sameO a b = true) : a = b := by
  unfold sameO at h
  split at h
  · simp at h; rw [h.1, sames_eq h.2]
  · simp at h; rw [h.1, ents_eq h.2]
  · rfl
  · rfl
  · cases h
@[simp] theorem sameO_refl (a : Option O) : sameO a a = true := by
  cases a with
  | none => rfl
  | some o => cases o <;> simp [sameO, sames_refl, ents_refl]
theorem isDead_eq {a : Option O} (h : isDead a = true) : a = some .dead := by
  unfold isDead at h
  split at h
  · rfl
  · cases h

def befL (ops : List Oper) : List Nat := ops.foldl (fun acc o => acc ++ [o.after.toList.foldl (fun s e => if Region.binds .any e then s ||| 2 ^ e.on ||| acc.getD e.on 0 else s) 0]) []
def disj (a b : List Nat) : Bool := a.all fun x => !b.contains x
def apartOf (ops : Array Oper) (i j : Nat) : Bool := match ops[i]?, ops[j]? with
  | some x, some y => Oper.apart ops x y
  | _, _ => false
def minds (r t : Rc) : Bool :=
  match r.call, t.call with
  | false, false => disj t.muts (r.reads ++ r.muts) && disj r.muts t.reads && (t.reads ++ t.muts).all fun id => decide (id < r.h0.length) || decide (r.h1.length ≤ id)
  | true, false => t.muts.isEmpty && t.reads.all fun id => decide (r.h1.length ≤ id) || sameO (r.h0[id]?) (r.h1[id]?)
  | false, true => (r.reads.all fun id => sameO (t.h0[id]?) (t.h1[id]?)) && (r.muts.all fun id => isDead (t.h0[id]?)) && (List.range' r.h0.length (r.h1.length - r.h0.length)).all fun id => sameO (t.h0[id]?) (t.h1[id]?)
  | true, true => false
def compatB (bef : List Nat) (ops : Array Oper) (r t : Rc) : Bool := (bef.getD t.i 0).testBit r.i || (apartOf ops r.i t.i && minds r t)
noncomputable def drawGo (P : Program) (C : CallF) (ops : Array Oper) (bef : List Nat) : List Nat → St → List Rc → Option St
  | [], s, _ => some s
  | i :: l, s, rs => match ops[i]? with
    | none => none
    | some o => match Region.wanted o (yieldV ops s.t) with
      | true => match primV P C o s.t s.h with
        | some r =>
          if rs.all (fun q => compatB bef ops q ⟨i, isCall o, (touchV o s.t).1, (touchV o s.t).2, s.h, r.2⟩) then
            match doneV s.t o.dst r with
            | some s' => drawGo P C ops bef l s' (⟨i, isCall o, (touchV o s.t).1, (touchV o s.t).2, s.h, r.2⟩ :: rs)
            | none => none
          else none
        | none => none
      | false => if rs.all (fun q => compatB bef ops q ⟨i, false, [], [], s.h, s.h⟩) then drawGo P C ops bef l ⟨putV s.t o.dst undefV, s.h⟩ (⟨i, false, [], [], s.h, s.h⟩ :: rs) else none
/-- The plan: operations that are no calls first, wherever the order leaves it open. -/
def maskOf (o : Oper) : Nat := o.after.toList.foldl (fun s e => if Region.binds .any e then s ||| 2 ^ e.on else s) 0
def planGo (l : List (Nat × Nat × Bool)) : Nat → Nat → List Nat
  | 0, _ => []
  | n + 1, d => match l.find? (fun p => !d.testBit p.1 && p.2.1 &&& d == p.2.1 && !p.2.2) with
    | some p => p.1 :: planGo l n (d ||| 2 ^ p.1)
    | none => match l.find? (fun p => !d.testBit p.1 && p.2.1 &&& d == p.2.1) with
      | some p => p.1 :: planGo l n (d ||| 2 ^ p.1)
      | none => []
def planV (ops : Array Oper) : List Nat := planGo (ops.toList.zipIdx.map fun p => (p.2, maskOf p.1, isCall p.1)) ops.size 0
def linOK (ops : Array Oper) : List Nat → List Nat → Bool
  | [], _ => true
  | i :: l, d => (match ops[i]? with
    | some o => o.after.all fun e => !Region.binds .any e || d.contains e.on
    | none => false) && !d.contains i && linOK ops l (i :: d)
def planOK (ops : Array Oper) (plan : List Nat) : Bool := linOK ops plan [] && (List.range ops.size).all (plan.contains ·) && Region.noSelect ops
noncomputable def drawV (P : Program) : DrawF := fun C ops s => if planOK ops (planV ops) then drawGo P C ops (befL ops.toList) (planV ops) s [] else none

/-! ### the way that was gone -/
structure Tr (P : Program) (C : CallF) (ops : Array Oper) (bef plan : List Nat) (ss : Nat → St) (rc : Nat → Rc) : Prop where
  step : ∀ p i, plan[p]? = some i → ∃ o, ops[i]? = some o ∧
    ((Region.wanted o (yieldV ops (ss p).t) = true ∧ ∃ v, primV P C o (ss p).t (ss p).h = some (v, (ss (p + 1)).h) ∧ (ss (p + 1)).t = putV (ss p).t o.dst v ∧ rc p = ⟨i, isCall o, (touchV o (ss p).t).1, (touchV o (ss p).t).2, (ss p).h, (ss (p + 1)).h⟩) ∨
     (Region.wanted o (yieldV ops (ss p).t) = false ∧ ss (p + 1) = ⟨putV (ss p).t o.dst undefV, (ss p).h⟩ ∧ rc p = ⟨i, false, [], [], (ss p).h, (ss p).h⟩))
  compat : ∀ p q, q < p → p < plan.length → compatB bef ops (rc q) (rc p) = true
theorem drawGo_tr {P : Program} {C : CallF} {ops : Array Oper} {bef : List Nat} : ∀ {plan : List Nat} {s : St} {rs : List Rc} {s' : St}, drawGo P C ops bef plan s rs = some s' →
    ∃ ss rc, ss 0 = s ∧ ss plan.length = s' ∧ Tr P C ops bef plan ss rc ∧ ∀ p, p < plan.length → ∀ q ∈ rs, compatB bef ops q (rc p) = true
  | [], s, rs, s', h => by
    cases h
    exact ⟨fun _ => s, fun _ => ⟨0, false, [], [], [], []⟩, rfl, rfl, ⟨fun p i h => by simp at h, fun p q _ h => by simp at h⟩, fun p h => by simp at h⟩
  | i :: plan, s, rs, s', h => by
    unfold drawGo at h
    have build : ∀ (s1 : St) (r : Rc), (∃ o, ops[i]? = some o ∧
        ((Region.wanted o (yieldV ops s.t) = true ∧ ∃ v, primV P C o s.t s.h = some (v, s1.h) ∧ s1.t = putV s.t o.dst v ∧ r = ⟨i, isCall o, (touchV o s.t).1, (touchV o s.t).2, s.h, s1.h⟩) ∨
         (Region.wanted o (yieldV ops s.t) = false ∧ s1 = ⟨putV s.t o.dst undefV, s.h⟩ ∧ r = ⟨i, false, [], [], s.h, s.h⟩))) → rs.all (fun q => compatB bef ops q r) = true → drawGo P C ops bef plan s1 (r :: rs) = some s' →
        ∃ ss rc, ss 0 = s ∧ ss (i :: plan).length = s' ∧ Tr P C ops bef (i :: plan) ss rc ∧ ∀ p, p < (i :: plan).length → ∀ q ∈ rs, compatB bef ops q (rc p) = true := by
      intro s1 r hst hall hgo
      obtain ⟨ss, rc, e0, en, tr, hc⟩ := drawGo_tr hgo
      refine ⟨fun n => match n with | 0 => s | n + 1 => ss n, fun n => match n with | 0 => r | n + 1 => rc n, rfl, en, ⟨?_, ?_⟩, ?_⟩
      · intro p j hj
        cases p with
        | zero =>
          simp at hj; subst hj
          simp only [e0]
          exact hst
        | succ p => exact tr.step p j (by simpa using hj)
      · intro p q hq hp
        cases p with
        | zero => omega
        | succ p =>
          cases q with
          | zero => exact hc p (by simpa using hp) r (by simp)
          | succ q => exact tr.compat p q (by omega) (by simpa using hp)
      · intro p hp q hq
        cases p with
        | zero => exact List.all_eq_true.1 hall q hq
        | succ p => exact hc p (by simpa using hp) q (by simp [hq])
    split at h
    · cases h
    · rename_i o ho
      split at h
      · rename_i hw
        split at h
        · rename_i r hr
          split at h
          · rename_i hall
            simp only [doneV_eq] at h
            exact build ⟨putV s.t o.dst r.1, r.2⟩ _ ⟨o, ho, .inl ⟨hw, r.1, hr, rfl, rfl⟩⟩ hall h
          · cases h
        · cases h
      · rename_i hw
        split at h
        · rename_i hall
          exact build _ _ ⟨o, ho, .inr ⟨hw, rfl, rfl⟩⟩ hall h
        · cases h
theorem drawGo_mono {P : Program} {C : CallF} (hC : MonoC C) {ops : Array Oper} {bef : List Nat} : ∀ {plan : List Nat} {s : St} {rs : List Rc} {s' : St}, drawGo P C ops bef plan s rs = some s' → Mono s.h s'.h
  | [], s, rs, s', h => by cases h; exact .refl _
  | i :: plan, s, rs, s', h => by
    unfold drawGo at h
    split at h
    · cases h
    · split at h
      · split at h
        · rename_i r hr
          split at h
          · simp only [doneV_eq] at h
            exact (primV_mono (fun f args r => hC f args _ r) hr).trans (drawGo_mono hC h)
          · cases h
        · cases h
      · split at h
        · have := drawGo_mono hC h; exact this
        · cases h

/-! ### the plan and the edges -/
theorem linOK_spec {ops : Array Oper} : ∀ {plan d : List Nat}, linOK ops plan d = true → (∀ (p i : Nat), plan[p]? = some i → i ∉ d ∧ (∀ (q j : Nat), plan[q]? = some j → q ≠ p → j ≠ i) ∧ ∃ o, ops[i]? = some o ∧ ∀ e ∈ o.after, Region.binds .any e = true → e.on ∈ d ∨ ∃ q : Nat, q < p ∧ plan[q]? = some e.on)
  | [], d, h, p, i, hp => by simp at hp
  | j :: plan, d, h, p, i, hp => by
    simp only [linOK, Bool.and_eq_true, Bool.not_eq_true'] at h
    obtain ⟨⟨h1, h2⟩, h3⟩ := h
    have ih := linOK_spec h3
    have hnot : j ∉ d := by simpa using h2
    cases p with
    | zero =>
      simp at hp; subst hp
      refine ⟨hnot, fun q k hq hne => ?_, ?_⟩
      · cases q with
        | zero => omega
        | succ q =>
          have := (ih q k (by simpa using hq)).1
          intro e; subst e; exact this (by simp)
      · split at h1
        · rename_i o ho
          refine ⟨o, ho, fun e he hb => ?_⟩
          have := Array.all_eq_true'.1 h1 e he
          simp [hb] at this
          exact .inl this
        · cases h1
    | succ p =>
      have hp' : plan[p]? = some i := by simpa using hp
      obtain ⟨a, b, o, ho, c⟩ := ih p i hp'
      refine ⟨fun hi => a (by simp [hi]), fun q k hq hne => ?_, o, ho, fun e he hb => ?_⟩
      · cases q with
        | zero => simp at hq; subst hq; intro e; subst e; exact a (by simp)
        | succ q => exact b q k (by simpa using hq) (by omega)
      · rcases c e he hb with x | ⟨q, hq, x⟩
        · rcases List.mem_cons.1 x with x | x
          · exact .inr ⟨0, by omega, by simp [x]⟩
          · exact .inl x
        · exact .inr ⟨q + 1, by omega, by simpa using x⟩
/-- What stands before an operation is in every set that holds it and is closed under its edges. -/
theorem befL_spec {ops : List Oper} {L : Nat → Prop} (hL : ∀ (i : Nat) (o : Oper), ops[i]? = some o → L i → ∀ e ∈ o.after, Region.binds .any e = true → L e.on) :
    ∀ (i : Nat) (o : Oper), ops[i]? = some o → (∀ e ∈ o.after, Region.binds .any e = true → L e.on) → ∀ j, ((befL ops).getD i 0).testBit j = true → L j := by
  -- by the list's front
  have key : ∀ (l acc : List Nat) , True := fun _ _ => trivial
  have main : ∀ (rest done : List Oper) (acc : List Nat), ops = done ++ rest → acc.length = done.length →
      (∀ (i : Nat) (o : Oper), done[i]? = some o → (∀ e ∈ o.after, Region.binds .any e = true → L e.on) → ∀ j, (acc.getD i 0).testBit j = true → L j) →
      ∀ (i : Nat) (o : Oper), ops[i]? = some o → (∀ e ∈ o.after, Region.binds .any e = true → L e.on) → ∀ j, ((rest.foldl (fun acc o => acc ++ [o.after.toList.foldl (fun s e => if Region.binds .any e then s ||| 2 ^ e.on ||| acc.getD e.on 0 else s) 0]) acc).getD i 0).testBit j = true → L j := by
    intro rest
    induction rest with
    | nil =>
      intro done acc he hl hacc i o ho hpre j hj
      rw [List.append_nil] at he
      subst he
      exact hacc i o ho hpre j hj
    | cons x rest ih =>
      intro done acc he hl hacc
      simp only [List.foldl_cons]
      refine ih (done ++ [x]) _ (by rw [he]; simp) (by simp [hl]) ?_
      intro i o ho hpre j hj
      by_cases hi : i < done.length
      · rw [List.getElem?_append_left hi] at ho
        have : (acc ++ [x.after.toList.foldl (fun s e => if Region.binds .any e then s ||| 2 ^ e.on ||| acc.getD e.on 0 else s) 0]).getD i 0 = acc.getD i 0 := by
          simp only [List.getD, List.getElem?_append_left (show i < acc.length by omega)]
        rw [this] at hj
        exact hacc i o ho hpre j hj
      · have hie : i = done.length := by
          have := (List.getElem?_eq_some_iff.1 ho).1
          simp at this; omega
        subst hie
        have hox : o = x := by simpa using ho.symm
        subst hox
        have : (acc ++ [o.after.toList.foldl (fun s e => if Region.binds .any e then s ||| 2 ^ e.on ||| acc.getD e.on 0 else s) 0]).getD done.length 0 = o.after.toList.foldl (fun s e => if Region.binds .any e then s ||| 2 ^ e.on ||| acc.getD e.on 0 else s) 0 := by
          simp [List.getD, ← hl]
        rw [this] at hj
        -- the fold over the edges
        have edges : ∀ (es : List Edge) (s : Nat), (∀ e ∈ es, e ∈ o.after) → (∀ j, s.testBit j = true → L j) → ∀ j, (es.foldl (fun s e => if Region.binds .any e then s ||| 2 ^ e.on ||| acc.getD e.on 0 else s) s).testBit j = true → L j := by
          intro es
          induction es with
          | nil => intro s _ hs j hj; exact hs j hj
          | cons e es ihe =>
            intro s hes hs j hj
            simp only [List.foldl_cons] at hj
            refine ihe _ (fun e' he' => hes e' (by simp [he'])) ?_ j hj
            intro k hk
            split at hk
            · rename_i hb
              simp only [Nat.testBit_or, Bool.or_eq_true, Nat.testBit_two_pow, decide_eq_true_eq] at hk
              have hLe := hpre e (hes e (by simp)) hb
              rcases hk with (hk | hk) | hk
              · exact hs k hk
              · subst hk; exact hLe
              · by_cases hlt : e.on < done.length
                · have hd : ∃ oe, done[e.on]? = some oe := ⟨done[e.on], List.getElem?_eq_getElem hlt⟩
                  obtain ⟨oe, hoe⟩ := hd
                  have hoe' : ops[e.on]? = some oe := by rw [he, List.getElem?_append_left hlt]; exact hoe
                  exact hacc e.on oe hoe (hL e.on oe hoe' hLe) k hk
                · have : acc.getD e.on 0 = 0 := by simp [List.getD, List.getElem?_eq_none (show acc.length ≤ e.on by omega)]
                  rw [this] at hk; simp at hk
            · exact hs k hk
        exact edges o.after.toList 0 (fun e he => by simpa using he) (fun j hj => by simp at hj) j hj
  exact main ops [] [] rfl rfl (fun i o h => by simp at h)
end Go.Proofs.YtcaolnmpldbkjaaGreatA
