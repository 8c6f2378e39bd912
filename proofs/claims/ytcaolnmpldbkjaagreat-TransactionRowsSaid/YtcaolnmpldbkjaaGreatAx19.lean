/- Words of this session: walking the second reading: what must hold before a code so that it comes to an end with what is asked. -/
import Derived.Test.YtcaolnmpldbkjaaGreatAx18
namespace Go.Proofs.YtcaolnmpldbkjaaGreatA
open Go Go.RowKit
set_option linter.unusedVariables false
set_option linter.unusedSimpArgs false

@[reducible] def Tp := Nat → V
def T (n : Nat) (τ : Tp) : List V := (List.range n).map τ
def upd (τ : Tp) (d : Nat) (v : V) : Tp := fun i => if i = d then v else τ i
def putF (τ : Tp) : Option Tmp → V → Tp
  | some d, v => upd τ d v
  | none, _ => τ
def argF (l : List V) : Tp := fun i => l.getD i undefV
theorem T_get {n i : Nat} {τ : Tp} (hi : i < n) : getL (T n τ) i = τ i := by
  rw [getL_eq, T, List.getD_eq_getElem?_getD, List.getElem?_map, List.getElem?_range hi]; rfl
theorem T_get? {n i : Nat} {τ : Tp} (hi : i < n) : (T n τ)[i]? = some (τ i) := by
  rw [T, List.getElem?_map, List.getElem?_range hi]; rfl
theorem T_set (n : Nat) (τ : Tp) (d : Nat) (v : V) : (T n τ).set d v = T n (upd τ d v) := by
  apply List.ext_getElem?
  intro i
  rw [List.getElem?_set]
  by_cases hi : i < n
  · rw [T_get? hi, T_get? hi]
    unfold upd
    by_cases e : d = i
    · subst e; simp [T, hi]
    · rw [if_neg e, if_neg (Ne.symm e)]
  · have e1 : (T n τ)[i]? = none := by rw [List.getElem?_eq_none]; simp [T]; omega
    have e2 : (T n (upd τ d v))[i]? = none := by rw [List.getElem?_eq_none]; simp [T]; omega
    rw [e1, e2]
    split
    · rename_i e; subst e; simp [T, hi]
    · rfl
theorem T_put (n : Nat) (τ : Tp) (dst : Option Tmp) (v : V) : putV (T n τ) dst v = T n (putF τ dst v) := by
  cases dst
  · rfl
  · exact T_set n τ _ v
theorem T_args {l : List V} {n : Nat} (h : l.length ≤ n) : l ++ List.replicate (n - l.length) undefV = T n (argF l) := by
  apply List.ext_getElem?
  intro i
  by_cases hi : i < n
  · rw [T_get? hi]
    by_cases h2 : i < l.length
    · rw [List.getElem?_append_left h2]; simp [argF, List.getElem?_eq_getElem h2]
    · rw [List.getElem?_append_right (by omega), List.getElem?_replicate, if_pos (by omega)]; simp [argF, List.getElem?_eq_none (Nat.le_of_not_lt h2)]
  · rw [List.getElem?_eq_none (by simp; omega), List.getElem?_eq_none (by simp [T]; omega)]

@[reducible] def Post := Ex → Tp → Heap → Prop
/-- Where a term is named so, rewriting does not look into it. -/
structure Tag.{w} {α : Sort w} (a : α) : Type where
/-- What a call or an operation gives, and what is asked of it. -/
def WR (r : Option (V × Heap)) (K : V → Heap → Prop) (_ : Tag K := ⟨⟩) : Prop := ∃ v h, r = some (v, h) ∧ K v h
theorem WR_some (v : V) (h : Heap) (K : V → Heap → Prop) : WR (some (v, h)) K = K v h := by
  apply propext; constructor
  · rintro ⟨v', h', e, k⟩; simp only [Option.some.injEq, Prod.mk.injEq] at e; obtain ⟨rfl, rfl⟩ := e; exact k
  · exact fun k => ⟨v, h, rfl, k⟩
theorem WR.mono {r : Option (V × Heap)} {K K' : V → Heap → Prop} (h : WR r K) (k : ∀ v h, K v h → K' v h) : WR r K' :=
  let ⟨v, h', e, q⟩ := h
  ⟨v, h', e, k _ _ q⟩
/-- A condition. -/
def WC (v : V) (A B : Prop) (_ : Tag A := ⟨⟩) (_ : Tag B := ⟨⟩) : Prop := (v = .bool true ∧ A) ∨ (v = .bool false ∧ B)
theorem WC_true (A B : Prop) : WC (.bool true) A B = A := by simp [WC]
theorem WC_false (A B : Prop) : WC (.bool false) A B = B := by simp [WC]
theorem WC_bool {b : Bool} {A B : Prop} (h1 : b = true → A) (h2 : b = false → B) : WC (.bool b) A B := by
  cases b
  · exact .inr ⟨rfl, h2 rfl⟩
  · exact .inl ⟨rfl, h1 rfl⟩
theorem WC_dec {p : Prop} {ip : Decidable p} {A B : Prop} (h1 : p → A) (h2 : ¬ p → B) : WC (.bool (decide p)) A B :=
  WC_bool (fun h => h1 (of_decide_eq_true h)) fun h => h2 (of_decide_eq_false h)

/-- An operation that is guarded. -/
def WG (v : V) (b : Bool) (A B : Prop) (_ : Tag A := ⟨⟩) (_ : Tag B := ⟨⟩) : Prop := (v = .bool b ∧ A) ∨ (v ≠ .bool b ∧ B)
theorem WG_true (x : Bool) (A B : Prop) : WG (.bool x) true A B = WC (.bool x) A B := by cases x <;> simp [WG, WC]
theorem WG_false (x : Bool) (A B : Prop) : WG (.bool x) false A B = WC (.bool x) B A := by cases x <;> simp [WG, WC]
theorem WG_undef (b : Bool) (A B : Prop) : WG undefV b A B = B := by simp [WG]
section
variable (P : Program) (H : Hooks) (n : Nat)
def W (c : Code) (Q : Post) (τ : Tp) (h : Heap) (_ : Tag c := ⟨⟩) (_ : Tag Q := ⟨⟩) : Prop := ∃ e τ' h', evalC P H c ⟨T n τ, h⟩ = some (e, ⟨T n τ', h'⟩) ∧ Q e τ' h'
def dstOf (ops : Array Oper) (j : Nat) : Option Tmp := (ops[j]?).bind (·.dst)
/-- What a guard looks at. -/
def gV (τ : Tp) (ops : Array Oper) (j : Nat) : V := match dstOf ops j with
  | some d => if d < n then τ d else undefV
  | none => undefV
/-- Operations in line. -/
def wpo' (ops : Array Oper) : List Oper → (Tp → Heap → Prop) → Tp → Heap → Prop
  | [], K => K
  | o :: l, K => fun τ h => match o.guard with
    | none => WR (primV P (callE P H) o (T n τ) h) fun v h => wpo' ops l K (putF τ o.dst v) h
    | some (j, b) => WG (gV n τ ops j) b (WR (primV P (callE P H) o (T n τ) h) fun v h => wpo' ops l K (putF τ o.dst v) h) (wpo' ops l K (putF τ o.dst undefV) h)
def wpo (ops : Array Oper) (l : List Oper) (K : Tp → Heap → Prop) (τ : Tp) (h : Heap) (_ : Tag ops := ⟨⟩) (_ : Tag l := ⟨⟩) (_ : Tag K := ⟨⟩) : Prop := wpo' P H n ops l K τ h
def thenQ (K : Tp → Heap → Prop) (Q : Post) : Post := fun e τ h => match e with
  | .norm => K τ h
  | e => Q e τ h
def outQ (id : Nat) (Q : Post) : Post := fun e τ h => match e with
  | .exit i => if i = id then Q .norm τ h else Q (.exit i) τ h
  | e => Q e τ h
def opF (τ : Tp) : Operand → Option V
  | .tmp i => if i < n then some (τ i) else none
  | .const v => constV v
  | _ => none
/-- What must hold ahead of a code. -/
def wpc' : Code → Post → Tp → Heap → Prop
  | .skip, Q | .label _, Q => Q .norm
  | .ret, Q => Q .ret
  | .exit i, Q => Q (.exit i)
  | .seq a b, Q => wpc' a (thenQ (wpc' b Q) Q)
  | .cond c a b, Q => fun τ h => ∃ v, opF n τ c = some v ∧ WC v (wpc' a Q τ h) (wpc' b Q τ h)
  | .block id b, Q => wpc' b (outQ id Q)
  | .loop b, Q => fun τ h => W P H n (.loop b) Q τ h
  | .region i ops false, Q => wpo' P H n ops ops.toList (Q .norm)
  | .region i ops true, Q => fun τ h => W P H n (.region i ops true) Q τ h
  | _, _ => fun _ _ => False
def wpc (c : Code) (Q : Post) (τ : Tp) (h : Heap) (_ : Tag c := ⟨⟩) (_ : Tag Q := ⟨⟩) : Prop := wpc' P H n c Q τ h
end
section
variable {P : Program} {H : Hooks} {n : Nat}
theorem opF_ev {τ : Tp} {x : Operand} {v : V} (h : opF n τ x = some v) : ev (T n τ) x = some v := by
  cases x <;> simp only [opF] at h
  · split at h
    · rename_i hi; rw [ev, T_get hi]; exact h
    · cases h
  · exact h
  · cases h
  · cases h
theorem wpo_ok {ops : Array Oper} : ∀ {l : List Oper} {K : Tp → Heap → Prop} {τ : Tp} {h : Heap}, wpo' P H n ops l K τ h → ∃ τ' h', opsV P (callE P H) ops l ⟨T n τ, h⟩ = some ⟨T n τ', h'⟩ ∧ K τ' h'
  | [], K, τ, h, q => ⟨τ, h, rfl, q⟩
  | o :: l, K, τ, h, q => by
    have run : Region.wanted o (yieldV ops (T n τ)) = true → (WR (primV P (callE P H) o (T n τ) h) fun v h => wpo' P H n ops l K (putF τ o.dst v) h) → ∃ τ' h', opsV P (callE P H) ops (o :: l) ⟨T n τ, h⟩ = some ⟨T n τ', h'⟩ ∧ K τ' h' := by
      rintro hw ⟨v, h1, e, k⟩
      obtain ⟨τ', h', e2, k2⟩ := wpo_ok k
      refine ⟨τ', h', ?_, k2⟩
      rw [opsV_cons]
      unfold stepV
      simp only [hw, e, doneV_eq, T_put]
      exact e2
    have skip : Region.wanted o (yieldV ops (T n τ)) = false → wpo' P H n ops l K (putF τ o.dst undefV) h → ∃ τ' h', opsV P (callE P H) ops (o :: l) ⟨T n τ, h⟩ = some ⟨T n τ', h'⟩ ∧ K τ' h' := by
      intro hw k
      obtain ⟨τ', h', e2, k2⟩ := wpo_ok k
      refine ⟨τ', h', ?_, k2⟩
      rw [opsV_cons]
      unfold stepV
      simp only [hw, T_put]
      exact e2
    unfold wpo' at q
    cases hg : o.guard with
    | none =>
      simp only [hg] at q
      exact run (by unfold Region.wanted; rw [hg]) q
    | some g =>
      obtain ⟨j, b⟩ := g
      simp only [hg] at q
      have hy : ∀ b, gV n τ ops j = .bool b ↔ yieldV ops (T n τ) j = some b := by
        intro b
        unfold yieldV gV dstOf
        cases hd : (ops[j]?).bind (·.dst) with
        | none => simp
        | some d =>
          simp only [Option.bind_some]
          by_cases hn : d < n
          · rw [T_get? hn, if_pos hn]
            cases τ d <;> simp
          · rw [if_neg hn, show (T n τ)[d]? = none from List.getElem?_eq_none (by simp [T]; exact Nat.le_of_not_lt hn)]; simp
      rcases q with ⟨e, hq⟩ | ⟨e, hq⟩
      · exact run (by unfold Region.wanted; rw [hg]; simp [(hy b).1 e]) hq
      · refine skip ?_ hq
        unfold Region.wanted
        rw [hg]
        simp only [beq_eq_false_iff_ne, ne_eq]
        exact fun h => e ((hy b).2 h)
theorem wpc_ok (hH : ∀ f, H f = H f) : ∀ {c : Code} {Q : Post} {τ : Tp} {h : Heap}, wpc' P H n c Q τ h → W P H n c Q τ h := by
  intro c
  induction c with
  | skip => intro Q τ h q; exact ⟨.norm, τ, h, by rw [evalC_eq]; rfl, q⟩
  | label l => intro Q τ h q; exact ⟨.norm, τ, h, by rw [evalC_eq]; rfl, q⟩
  | ret => intro Q τ h q; exact ⟨.ret, τ, h, by rw [evalC_eq]; rfl, q⟩
  | exit i => intro Q τ h q; exact ⟨.exit i, τ, h, by rw [evalC_eq]; rfl, q⟩
  | seq a b iha ihb =>
    intro Q τ h q
    obtain ⟨e, τ1, h1, e1, q1⟩ := iha q
    cases e with
    | norm =>
      obtain ⟨e2, τ2, h2, e3, q2⟩ := ihb q1
      exact ⟨e2, τ2, h2, by rw [evalC_eq]; simp only [codeV, e1, thenV]; exact e3, q2⟩
    | ret => exact ⟨.ret, τ1, h1, by rw [evalC_eq]; simp only [codeV, e1, thenV], q1⟩
    | exit i => exact ⟨.exit i, τ1, h1, by rw [evalC_eq]; simp only [codeV, e1, thenV], q1⟩
  | cond c a b iha ihb =>
    intro Q τ h q
    obtain ⟨v, hv, hq⟩ := q
    have he := opF_ev hv
    rcases hq with ⟨rfl, hq⟩ | ⟨rfl, hq⟩
    · obtain ⟨e, τ1, h1, e1, q1⟩ := iha hq
      exact ⟨e, τ1, h1, by rw [evalC_eq]; simp only [codeV, he, condV]; exact e1, q1⟩
    · obtain ⟨e, τ1, h1, e1, q1⟩ := ihb hq
      exact ⟨e, τ1, h1, by rw [evalC_eq]; simp only [codeV, he, condV]; exact e1, q1⟩
  | block id b ih =>
    intro Q τ h q
    obtain ⟨e, τ1, h1, e1, q1⟩ := ih q
    cases e with
    | norm => exact ⟨.norm, τ1, h1, by rw [evalC_eq]; simp only [codeV, e1, outV], q1⟩
    | ret => exact ⟨.ret, τ1, h1, by rw [evalC_eq]; simp only [codeV, e1, outV], q1⟩
    | exit i =>
      simp only [outQ] at q1
      by_cases hi : i = id
      · rw [if_pos hi] at q1
        exact ⟨.norm, τ1, h1, by rw [evalC_eq]; simp only [codeV, e1, outV, if_pos hi], q1⟩
      · rw [if_neg hi] at q1
        exact ⟨.exit i, τ1, h1, by rw [evalC_eq]; simp only [codeV, e1, outV, if_neg hi], q1⟩
  | loop b ih => intro Q τ h q; exact q
  | region i ops d =>
    intro Q τ h q
    cases d with
    | true => exact q
    | false =>
      obtain ⟨τ', h', e, q'⟩ := wpo_ok q
      exact ⟨.norm, τ', h', by rw [evalC_eq]; simp only [codeV]; exact (by rw [show opsV P (hookV H (callV P (evalC P H))) ops ops.toList ⟨T n τ, h⟩ = _ from e]; rfl), q'⟩
  | _ => intro Q τ h q; exact q.elim
/-- A loop: a number that sinks with each round. -/
theorem W.loop {b : Code} {Q : Post} (I : Nat → Tp → Heap → Prop) (round : ∀ m τ h, I m τ h → wpc P H n b (thenQ (fun τ h => ∃ m', m' < m ∧ I m' τ h) Q) τ h) : ∀ {m : Nat} {τ : Tp} {h : Heap}, I m τ h → W P H n (.loop b) Q τ h := by
  intro m
  induction m using Nat.strongRecOn with
  | _ m ih =>
    intro τ h hi
    obtain ⟨e, τ1, h1, e1, q1⟩ := wpc_ok (fun _ => rfl) (round m τ h hi)
    cases e with
    | norm =>
      obtain ⟨m', hm, hi'⟩ := q1
      obtain ⟨e2, τ2, h2, e3, q2⟩ := ih m' hm hi'
      exact ⟨e2, τ2, h2, by rw [evalC_eq]; simp only [codeV, e1, thenV]; exact e3, q2⟩
    | ret => exact ⟨.ret, τ1, h1, by rw [evalC_eq]; simp only [codeV, e1, thenV], q1⟩
    | exit i => exact ⟨.exit i, τ1, h1, by rw [evalC_eq]; simp only [codeV, e1, thenV], q1⟩
/-- A loop that nothing asks again after one round. -/
theorem W.once {b : Code} {Q : Post} {τ : Tp} {h : Heap} (hb : wpc P H n b (thenQ (fun τ h => W P H n (.loop b) Q τ h) Q) τ h) : W P H n (.loop b) Q τ h := by
  obtain ⟨e, τ1, h1, e1, q1⟩ := wpc_ok (fun _ => rfl) hb
  cases e with
  | norm =>
    obtain ⟨e2, τ2, h2, e3, q2⟩ := q1
    exact ⟨e2, τ2, h2, by rw [evalC_eq]; simp only [codeV, e1, thenV]; exact e3, q2⟩
  | ret => exact ⟨.ret, τ1, h1, by rw [evalC_eq]; simp only [codeV, e1, thenV], q1⟩
  | exit i => exact ⟨.exit i, τ1, h1, by rw [evalC_eq]; simp only [codeV, e1, thenV], q1⟩
/-- What a function hands back. -/
def backQ (P : Program) (n : Nat) (rs : List ResultVar) (K : V → Heap → Prop) : Post := fun e τ h => match e with
  | .exit _ => False
  | _ => ∃ vs, resV P (T n τ) h rs = some vs ∧ K (oneV vs) h
theorem WR.call {f : FuncId} {fn : Func} {c : Code} {rs : List ResultVar} {args : List V} {h : Heap} {K : V → Heap → Prop} (hH : H f = none) (hf : P.funcs[f]? = some fn) (hb : fn.body = some c) (hn : fn.ntmps = n) (hr : fn.results = rs.toArray) (hl : args.length ≤ n)
    (hw : wpc P H n c (backQ P n rs K) (argF args) h) : WR (callE P H f args h) K := by
  obtain ⟨e, τ1, h1, e1, q1⟩ := wpc_ok (fun _ => rfl) hw
  unfold callE hookV
  simp only [hH]
  unfold callV
  simp only [hf, hb, forceL_eq, hn, T_args hl, e1]
  cases e with
  | norm => obtain ⟨vs, hv, k⟩ := q1; exact ⟨oneV vs, h1, by simp only [backV, hr, List.toList_toArray, hv, Option.map_some], k⟩
  | ret => obtain ⟨vs, hv, k⟩ := q1; exact ⟨oneV vs, h1, by simp only [backV, hr, List.toList_toArray, hv, Option.map_some], k⟩
  | exit i => exact q1.elim
end
end Go.Proofs.YtcaolnmpldbkjaaGreatA
