/- Words of this session: walking a statement that draws its order: one way is gone; what is left open is asked for. -/
import Derived.Test.YtcaolnmpldbkjaaGreatAx21
namespace Go.Proofs.YtcaolnmpldbkjaaGreatA
open Go Go.RowKit
set_option linter.unusedVariables false
set_option linter.unusedSimpArgs false

/-- None of the operations gone through that are named minds this one. -/
def MindQ (need : List Nat) (rs : List Rc) (t : Rc) : Prop := ∀ q ∈ rs, need.contains q.i = true → minds q t = true
theorem MindQ_nil (need : List Nat) (t : Rc) : MindQ need [] t = True := by simp [MindQ]
theorem MindQ_cons (need : List Nat) (q : Rc) (rs : List Rc) (t : Rc) : MindQ need (q :: rs) t = ((need.contains q.i = true → minds q t = true) ∧ MindQ need rs t) := by
  simp [MindQ, List.forall_mem_cons]
theorem MindQ_none (rs : List Rc) (t : Rc) : MindQ [] rs t = True := by simp [MindQ]
def tabGo (ops : Array Oper) (bef : List Nat) : List (Nat × List Nat) → List Nat → Bool
  | [], _ => true
  | (i, need) :: l, done => (done.all fun j => (bef.getD i 0).testBit j || (apartOf ops j i && need.contains j)) && tabGo ops bef l (i :: done)
def tabOK (ops : Array Oper) (tab : List (Nat × List Nat)) : Bool := planOK ops (planV ops) && decide (planV ops = tab.map (·.1)) && tabGo ops (befL ops.toList) tab []
section
variable (P : Program) (H : Hooks) (n : Nat)
noncomputable def rcOf (o : Oper) (i : Nat) (τ : Tp) (h h1 : Heap) : Rc := ⟨i, isCall o, (touchV o (T n τ)).1, (touchV o (T n τ)).2, h, h1⟩
def wpd' (ops : Array Oper) : List (Nat × List Nat) → (Tp → Heap → Prop) → List Rc → Tp → Heap → Prop
  | [], K => fun rs τ h => K τ h
  | (i, need) :: l, K => fun rs τ h => match ops[i]? with
    | none => False
    | some o => match o.guard with
      | none => WR (primV P (callE P H) o (T n τ) h) fun v h1 => MindQ need rs (rcOf n o i τ h h1) ∧ wpd' ops l K (rcOf n o i τ h h1 :: rs) (putF τ o.dst v) h1
      | some (j, b) => WG (gV n τ ops j) b (WR (primV P (callE P H) o (T n τ) h) fun v h1 => MindQ need rs (rcOf n o i τ h h1) ∧ wpd' ops l K (rcOf n o i τ h h1 :: rs) (putF τ o.dst v) h1)
          (MindQ need rs ⟨i, false, [], [], h, h⟩ ∧ wpd' ops l K (⟨i, false, [], [], h, h⟩ :: rs) (putF τ o.dst undefV) h)
def wpd (ops : Array Oper) (tab : List (Nat × List Nat)) (K : Tp → Heap → Prop) (rs : List Rc) (τ : Tp) (h : Heap) (_ : Tag ops := ⟨⟩) (_ : Tag tab := ⟨⟩) (_ : Tag K := ⟨⟩) (_ : Tag rs := ⟨⟩) : Prop := wpd' P H n ops tab K rs τ h
end
section
variable {P : Program} {H : Hooks} {n : Nat}
theorem gV_yield {τ : Tp} {ops : Array Oper} {j : Nat} (b : Bool) : gV n τ ops j = .bool b ↔ yieldV ops (T n τ) j = some b := by
  unfold yieldV gV dstOf
  cases hd : (ops[j]?).bind (·.dst) with
  | none => simp
  | some d =>
    simp only [Option.bind_some]
    by_cases hn : d < n
    · rw [T_get? hn, if_pos hn]
      cases τ d <;> simp
    · rw [if_neg hn, show (T n τ)[d]? = none from List.getElem?_eq_none (by simp [T]; exact Nat.le_of_not_lt hn)]; simp
theorem all_compat {ops : Array Oper} {bef : List Nat} {need done : List Nat} {i : Nat} {rs : List Rc} {t : Rc} (hi : t.i = i) (hd : (done.all fun j => (bef.getD i 0).testBit j || (apartOf ops j i && need.contains j)) = true) (hr : ∀ q ∈ rs, q.i ∈ done) (hm : MindQ need rs t) : rs.all (fun q => compatB bef ops q t) = true := by
  rw [List.all_eq_true]
  intro q hq
  have h1 := List.all_eq_true.1 hd _ (hr q hq)
  unfold compatB
  rw [hi]
  simp only [Bool.or_eq_true, Bool.and_eq_true] at h1 ⊢
  rcases h1 with h1 | ⟨h1, h2⟩
  · exact .inl h1
  · exact .inr ⟨h1, hm q hq h2⟩
theorem wpd_ok {ops : Array Oper} {bef : List Nat} : ∀ {tab : List (Nat × List Nat)} {done : List Nat} {K : Tp → Heap → Prop} {rs : List Rc} {τ : Tp} {h : Heap}, tabGo ops bef tab done = true → (∀ q ∈ rs, q.i ∈ done) → wpd' P H n ops tab K rs τ h →
    ∃ τ' h', drawGo P (callE P H) ops bef (tab.map (·.1)) ⟨T n τ, h⟩ rs = some ⟨T n τ', h'⟩ ∧ K τ' h'
  | [], done, K, rs, τ, h, ht, hr, q => ⟨τ, h, rfl, q⟩
  | (i, need) :: l, done, K, rs, τ, h, ht, hr, q => by
    simp only [tabGo, Bool.and_eq_true] at ht
    have hr' : ∀ t : Rc, t.i = i → ∀ q ∈ t :: rs, q.i ∈ i :: done := by
      intro t hti q hq
      simp only [List.mem_cons] at hq ⊢
      rcases hq with rfl | hq
      · exact .inl hti
      · exact .inr (hr q hq)
    unfold wpd' at q
    split at q
    · exact q.elim
    · rename_i o ho
      have run : Region.wanted o (yieldV ops (T n τ)) = true → (WR (primV P (callE P H) o (T n τ) h) fun v h1 => MindQ need rs (rcOf n o i τ h h1) ∧ wpd' P H n ops l K (rcOf n o i τ h h1 :: rs) (putF τ o.dst v) h1) →
          ∃ τ' h', drawGo P (callE P H) ops bef (i :: l.map (·.1)) ⟨T n τ, h⟩ rs = some ⟨T n τ', h'⟩ ∧ K τ' h' := by
        rintro hw ⟨v, h1, e, hm, k⟩
        obtain ⟨τ', h', e2, k2⟩ := wpd_ok ht.2 (hr' (rcOf n o i τ h h1) rfl) k
        refine ⟨τ', h', ?_, k2⟩
        have hall := all_compat (t := rcOf n o i τ h h1) rfl ht.1 hr hm
        unfold drawGo
        simp only [ho, hw, e, doneV_eq, T_put]
        rw [show (rs.all fun q => compatB bef ops q ⟨i, isCall o, (touchV o (T n τ)).1, (touchV o (T n τ)).2, h, h1⟩) = true from hall]
        exact e2
      have skip : Region.wanted o (yieldV ops (T n τ)) = false → (MindQ need rs ⟨i, false, [], [], h, h⟩ ∧ wpd' P H n ops l K (⟨i, false, [], [], h, h⟩ :: rs) (putF τ o.dst undefV) h) →
          ∃ τ' h', drawGo P (callE P H) ops bef (i :: l.map (·.1)) ⟨T n τ, h⟩ rs = some ⟨T n τ', h'⟩ ∧ K τ' h' := by
        rintro hw ⟨hm, k⟩
        obtain ⟨τ', h', e2, k2⟩ := wpd_ok ht.2 (hr' ⟨i, false, [], [], h, h⟩ rfl) k
        refine ⟨τ', h', ?_, k2⟩
        have hall := all_compat (t := ⟨i, false, [], [], h, h⟩) rfl ht.1 hr hm
        unfold drawGo
        simp only [ho, hw, T_put]
        rw [if_pos hall]
        exact e2
      cases hg : o.guard with
      | none =>
        simp only [hg] at q
        exact run (by unfold Region.wanted; rw [hg]) q
      | some g =>
        obtain ⟨j, b⟩ := g
        simp only [hg] at q
        rcases q with ⟨e, hq⟩ | ⟨e, hq⟩
        · exact run (by unfold Region.wanted; rw [hg]; simp [(gV_yield b).1 e]) hq
        · refine skip ?_ hq
          unfold Region.wanted
          rw [hg]
          simp only [beq_eq_false_iff_ne, ne_eq]
          exact fun h => e ((gV_yield b).2 h)
/-- A statement that draws its order. -/
theorem W.drawn {i : Nat} {ops : Array Oper} {Q : Post} {τ : Tp} {h : Heap} (tab : List (Nat × List Nat)) (ht : tabOK ops tab = true) (hw : wpd P H n ops tab (Q .norm) [] τ h) : W P H n (.region i ops true) Q τ h := by
  simp only [tabOK, Bool.and_eq_true, decide_eq_true_eq] at ht
  obtain ⟨⟨h1, h2⟩, h3⟩ := ht
  obtain ⟨τ', h', e, k⟩ := wpd_ok h3 (by simp) hw
  refine ⟨.norm, τ', h', ?_, k⟩
  rw [evalC_eq]
  simp only [codeV]
  have : drawV P (hookV H (callV P (evalC P H))) ops ⟨T n τ, h⟩ = some ⟨T n τ', h'⟩ := by
    unfold drawV
    rw [if_pos h1, h2]
    exact e
  rw [this]; rfl
/-! ### rules -/
theorem wpd_nil (ops : Array Oper) (K : Tp → Heap → Prop) (rs : List Rc) (τ : Tp) (h : Heap) : wpd P H n ops [] K rs τ h = K τ h := (rfl)
/-- The operation at a place, and what comes of it. -/
def wps (P : Program) (H : Hooks) (n : Nat) (ops : Array Oper) (o : Option Oper) (i : Nat) (need : List Nat) (l : List (Nat × List Nat)) (K : Tp → Heap → Prop) (rs : List Rc) (τ : Tp) (h : Heap) (_ : Tag ops := ⟨⟩) (_ : Tag need := ⟨⟩) (_ : Tag l := ⟨⟩) (_ : Tag K := ⟨⟩) (_ : Tag rs := ⟨⟩) : Prop := match o with
  | none => False
  | some o => match o.guard with
    | none => WR (primV P (callE P H) o (T n τ) h) fun v h1 => MindQ need rs (rcOf n o i τ h h1) ∧ wpd' P H n ops l K (rcOf n o i τ h h1 :: rs) (putF τ o.dst v) h1
    | some (j, b) => WG (gV n τ ops j) b (WR (primV P (callE P H) o (T n τ) h) fun v h1 => MindQ need rs (rcOf n o i τ h h1) ∧ wpd' P H n ops l K (rcOf n o i τ h h1 :: rs) (putF τ o.dst v) h1)
        (MindQ need rs ⟨i, false, [], [], h, h⟩ ∧ wpd' P H n ops l K (⟨i, false, [], [], h, h⟩ :: rs) (putF τ o.dst undefV) h)
theorem wpd_cons (lo : List Oper) (i : Nat) (need : List Nat) (l : List (Nat × List Nat)) (K : Tp → Heap → Prop) (rs : List Rc) (τ : Tp) (h : Heap) :
    wpd P H n lo.toArray ((i, need) :: l) K rs τ h = wps P H n lo.toArray lo[i]? i need l K rs τ h := by
  show wpd' P H n lo.toArray ((i, need) :: l) K rs τ h = _
  unfold wps
  rw [wpd', List.getElem?_toArray]
theorem wps_plain (ops : Array Oper) (d : Option Tmp) (op : Op) (ty : TypeId) (pos : String) (after : Array Edge) (i : Nat) (need : List Nat) (l : List (Nat × List Nat)) (K : Tp → Heap → Prop) (rs : List Rc) (τ : Tp) (h : Heap) :
    wps P H n ops (some ⟨d, op, ty, pos, after, none⟩) i need l K rs τ h = WR (primV P (callE P H) ⟨d, op, ty, pos, after, none⟩ (T n τ) h) fun v h1 => MindQ need rs (rcOf n ⟨d, op, ty, pos, after, none⟩ i τ h h1) ∧ wpd P H n ops l K (rcOf n ⟨d, op, ty, pos, after, none⟩ i τ h h1 :: rs) (putF τ d v) h1 := (rfl)
theorem wps_guard (ops : Array Oper) (d : Option Tmp) (op : Op) (ty : TypeId) (pos : String) (after : Array Edge) (j : Nat) (b : Bool) (i : Nat) (need : List Nat) (l : List (Nat × List Nat)) (K : Tp → Heap → Prop) (rs : List Rc) (τ : Tp) (h : Heap) :
    wps P H n ops (some ⟨d, op, ty, pos, after, some (j, b)⟩) i need l K rs τ h = WG (gV n τ ops j) b (WR (primV P (callE P H) ⟨d, op, ty, pos, after, none⟩ (T n τ) h) fun v h1 => MindQ need rs (rcOf n ⟨d, op, ty, pos, after, none⟩ i τ h h1) ∧ wpd P H n ops l K (rcOf n ⟨d, op, ty, pos, after, none⟩ i τ h h1 :: rs) (putF τ d v) h1)
      (MindQ need rs ⟨i, false, [], [], h, h⟩ ∧ wpd P H n ops l K (⟨i, false, [], [], h, h⟩ :: rs) (putF τ d undefV) h) := (rfl)
theorem or_lt {a b : Nat} (h : a < b) (x : Bool) : (decide (a < b) || x) = true := by simp [h]
theorem or_le {a b : Nat} (h : a ≤ b) (x : Bool) : (x || decide (a ≤ b)) = true := by simp [h]
theorem le_or {a b : Nat} (h : a ≤ b) (x : Bool) : (decide (a ≤ b) || x) = true := by simp [h]
theorem or_tri (a b : Nat) : (decide (a < b) || decide (b ≤ a)) = true := by by_cases h : a < b <;> simp [h]; omega
theorem or_tri' (a b : Nat) : (decide (b ≤ a) || decide (a < b)) = true := by by_cases h : a < b <;> simp [h]; omega
theorem range'_self (a : Nat) : List.range' a (a - a) = [] := by simp
theorem sameO_ext {a b : Heap} {i : Nat} (e : Ext a b) (hi : i < a.length) : sameO a[i]? b[i]? = true := by
  have h1 : a[i]? = some a[i] := List.getElem?_eq_getElem hi
  rw [e _ _ h1, h1]; exact sameO_refl _
end
end Go.Proofs.YtcaolnmpldbkjaaGreatA
