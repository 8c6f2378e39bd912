/- Words of this session: chapter 47: the reference's rows, in plain Lean. Words of this session: chapter 47: the reference's steps and rows, in memory. -/
import Derived.Test.YtcaolnmpldbkjaaGreatPG
import Derived.Test.YtcaolnmpldbkjaaGreatPJ
namespace Go.Proofs.YtcaolnmpldbkjaaGreatA
open Go Go.Proofs Go.RowKit
set_option linter.unusedVariables false
set_option linter.unusedSimpArgs false
def ltK (x y : Key) : Prop := x.a < y.a ∨ x.a = y.a ∧ x.b < y.b
instance (x y : Key) : Decidable (ltK x y) := by unfold ltK; exact inferInstance
def insK : List Key → Key → List Key
  | [], k => [k]
  | x :: l, k => if ltK x k then x :: insK l k else if x.rid = k.rid then x :: l else k :: x :: l
theorem rid_iff {x y : Key} : x.rid = y.rid ↔ x.a = y.a ∧ x.b = y.b := by
  unfold Key.rid; simp only [Rid.mk.injEq]
theorem insK_at {k : Key} : ∀ {l : List Key} {i : Nat}, i ≤ l.length → (∀ j (hj : j < l.length), j < i → ltK l[j] k) → (∀ (h : i < l.length), ¬ ltK l[i] k) → insK l k = if (match l[i]? with | some x => decide (x.rid = k.rid) | none => false) = true then l else l.take i ++ [k] ++ l.drop i
  | [], i, h1, _, _ => by
    have : i = 0 := by simpa using h1
    subst this; rfl
  | x :: l, 0, h1, h2, h3 => by
    have h4 := h3 (by simp)
    simp only [List.getElem_cons_zero] at h4
    unfold insK
    rw [if_neg h4]
    by_cases c : x.rid = k.rid
    · rw [if_pos c]; simp [c]
    · rw [if_neg c]; simp [c]
  | x :: l, i + 1, h1, h2, h3 => by
    have h4 := h2 0 (by simp) (by omega)
    simp only [List.getElem_cons_zero] at h4
    have ih := insK_at (k := k) (l := l) (i := i) (by simpa using h1) (fun j hj hji => h2 (j + 1) (by simpa using hj) (by omega)) (fun h => h3 (by simpa using h))
    unfold insK
    rw [if_pos h4, ih]
    rw [List.getElem?_cons_succ]
    generalize (match l[i]? with | some x => decide (x.rid = k.rid) | none => false) = b
    cases b <;> simp
theorem ltK_tr {x y z : Key} (h1 : ltK x y) (h2 : ltK y z) : ltK x z := by unfold ltK at *; omega
theorem ltK_tri {x y : Key} (h1 : ¬ ltK x y) (h2 : x.rid ≠ y.rid) : ltK y x := by
  rw [Ne, rid_iff] at h2
  unfold ltK at *; omega
theorem insK_mem {k z : Key} : ∀ {l : List Key}, z ∈ insK l k → z = k ∨ z ∈ l
  | [], h => .inl (by simpa [insK] using h)
  | x :: l, h => by
    unfold insK at h
    split at h
    · rcases List.mem_cons.1 h with h | h
      · exact .inr (by simp [h])
      · rcases insK_mem h with q | q
        · exact .inl q
        · exact .inr (List.mem_cons_of_mem _ q)
    · split at h
      · exact .inr h
      · rcases List.mem_cons.1 h with h | h
        · exact .inl h
        · exact .inr h
theorem insK_sorted {k : Key} : ∀ {l : List Key}, l.Pairwise ltK → (insK l k).Pairwise ltK
  | [], _ => by simp [insK]
  | x :: l, h => by
    obtain ⟨h1, h2⟩ := List.pairwise_cons.1 h
    unfold insK
    split
    · rename_i c
      refine List.pairwise_cons.2 ⟨fun z hz => ?_, insK_sorted h2⟩
      rcases insK_mem hz with rfl | q
      · exact c
      · exact h1 z q
    · rename_i c
      split
      · exact h
      · rename_i c2
        have c3 := ltK_tri c c2
        refine List.pairwise_cons.2 ⟨fun z hz => ?_, h⟩
        rcases List.mem_cons.1 hz with rfl | q
        · exact c3
        · exact ltK_tr c3 (h1 z q)
theorem insK_perm {k : Key} : ∀ {l : List Key}, l.Pairwise ltK → (insK l k).Perm (if k.rid ∈ l.map Key.rid then l else l ++ [k])
  | [], _ => by simp [insK]
  | x :: l, h => by
    obtain ⟨h1, h2⟩ := List.pairwise_cons.1 h
    have ih := insK_perm (k := k) h2
    unfold insK
    by_cases c : ltK x k
    · rw [if_pos c]
      have hne : k.rid ≠ x.rid := fun e => by rw [rid_iff] at e; unfold ltK at c; omega
      by_cases c2 : k.rid ∈ l.map Key.rid
      · rw [if_pos c2] at ih
        rw [if_pos (by rw [List.map_cons]; exact List.mem_cons_of_mem _ c2)]
        exact ih.cons x
      · rw [if_neg c2] at ih
        rw [if_neg (by rw [List.map_cons, List.mem_cons]; exact fun q => q.elim hne c2)]
        exact ih.cons x
    · rw [if_neg c]
      by_cases c2 : x.rid = k.rid
      · rw [if_pos c2, if_pos (by rw [List.map_cons, c2]; exact List.mem_cons_self)]
      · have c3 := ltK_tri c c2
        rw [if_neg c2, if_neg]
        · exact (List.perm_append_singleton k (x :: l)).symm
        · rw [List.map_cons, List.mem_cons]
          rintro (q | q)
          · exact c2 q.symm
          · obtain ⟨z, hz, e⟩ := List.mem_map.1 q
            have := ltK_tr c3 (h1 z hz)
            rw [rid_iff] at e
            unfold ltK at this; omega
theorem addK_perm {table : Int} {a b : List Key} (p : a.Perm b) (k : Key) : (addK table a k).Perm (addK table b k) := by
  have hm : k.rid ∈ a.map Key.rid ↔ k.rid ∈ b.map Key.rid := (p.map Key.rid).mem_iff
  unfold addK
  by_cases c : k.a = table ∧ k.rid ∉ a.map Key.rid
  · rw [if_pos c, if_pos ⟨c.1, fun q => c.2 (hm.2 q)⟩]; exact p.append_right _
  · rw [if_neg c, if_neg (fun q => c ⟨q.1, fun z => q.2 (hm.1 z)⟩)]; exact p
theorem foldl_put {table : Int} : ∀ {l a b : List Key}, a.Pairwise ltK → a.Perm b → (∀ k ∈ l, k.a = table) → (l.foldl insK a).Pairwise ltK ∧ (l.foldl insK a).Perm (l.foldl (addK table) b)
  | [], a, b, h1, h2, _ => ⟨h1, h2⟩
  | k :: l, a, b, h1, h2, h3 => by
    rw [List.foldl_cons, List.foldl_cons]
    refine foldl_put (insK_sorted h1) ?_ fun z hz => h3 z (List.mem_cons_of_mem _ hz)
    refine (insK_perm h1).trans (List.Perm.trans ?_ (addK_perm h2 k))
    have := h3 k List.mem_cons_self
    unfold addK
    by_cases c : k.rid ∈ a.map Key.rid
    · rw [if_pos c, if_neg (fun q => q.2 c)]
    · rw [if_neg c, if_pos ⟨this, c⟩]
theorem foldl_table {table : Int} : ∀ {l a : List Key}, l.foldl (addK table) a = (l.filter fun k => decide (k.a = table)).foldl (addK table) a
  | [], a => rfl
  | k :: l, a => by
    rw [List.foldl_cons, List.filter_cons]
    by_cases c : k.a = table
    · rw [if_pos (decide_eq_true c), List.foldl_cons]; exact foldl_table
    · rw [if_neg (by rw [decide_eq_false c]; exact Bool.false_ne_true)]
      have : addK table a k = a := by unfold addK; rw [if_neg (fun q => c q.1)]
      rw [this]; exact foldl_table
/-! ### logs -/
def Lo.co (o : Lo) : Bool × Key := (o.del, o.key)
def goneC (cs : List (Bool × Key)) (a b : Int) : Bool := cs.any fun c => decide (c.2.a = a ∧ c.2.b = b) && c.1
theorem gone_co (ops : List Lo) (a b : Int) : gone ops a b = goneC (ops.map Lo.co) a b := by unfold gone goneC; rw [List.any_map]; rfl
/-- What the reference's Own and Rows give. -/
def ownC (cs : List (Bool × Key)) (table : Int) : List Key := ((cs.filter fun c => !c.1 && decide (c.2.a = table) && !goneC cs c.2.a c.2.b).map Prod.snd).foldl insK []
def rowsC (cs : List (Bool × Key)) (snap table : Int) (ks : List Key) : List Key := (ownC cs table).foldl insK ((ks.filter fun k => decide (k.a = table) && sees k.cr k.dl snap && !goneC cs k.a k.b).foldl insK [])
theorem rows_eq {ds : List Td} {ops : List Lo} {snap table : Int} {ys zs : List Ver} (r : RowsR ds ops snap table ys zs) (hl : LogOK ops) (hd : ∀ o ∈ ops, (ds.any fun d => decide (d.id = o.a)) = true) : zs.map Ver.key = rowsC (ops.map Lo.co) snap table (ys.map Ver.key) := by
  have hst := r.strict
  obtain ⟨O, p, q, _⟩ := r
  have hown := hl.own
  -- the own rows
  have e1 : (((ops.map Lo.co).filter fun c => !c.1 && decide (c.2.a = table) && !goneC (ops.map Lo.co) c.2.a c.2.b).map Prod.snd) = (ownK ops).filter fun k => decide (k.a = table) := by
    unfold ownK
    rw [List.filter_map, List.filter_map, List.map_map, List.filter_filter]
    have : ∀ l : List Lo, l.map (Prod.snd ∘ Lo.co) = l.map Lo.key := fun l => rfl
    rw [this]
    congr 1
    refine List.filter_congr fun o _ => ?_
    simp only [Function.comp]
    show (!o.del && decide (o.a = table) && !goneC (ops.map Lo.co) o.a o.b) = (decide (o.a = table) && (!o.del && !gone ops o.a o.b))
    rw [gone_co]
    cases o.del <;> cases decide (o.a = table) <;> rfl
  have hot : ∀ k ∈ (ownK ops).filter fun k => decide (k.a = table), k.a = table := fun k hk => by simpa using (List.mem_filter.1 hk).2
  have hon : (((ownK ops).filter fun k => decide (k.a = table)).map Key.rid).Nodup := List.Nodup.sublist (List.Sublist.map _ List.filter_sublist) hown
  obtain ⟨o1, o2⟩ := foldl_put (table := table) (a := []) (b := []) List.Pairwise.nil (List.Perm.refl _) hot
  rw [foldl_distinct table _ [] hon, List.nil_append] at o2
  have o3 : (((ownK ops).filter fun k => decide (k.a = table)).filter fun k => decide (k.a = table) && decide (k.rid ∉ ([] : List Key).map Key.rid)) = (ownK ops).filter fun k => decide (k.a = table) := by
    rw [List.filter_filter]
    refine List.filter_congr fun k _ => ?_
    cases decide (k.a = table) <;> simp
  rw [o3] at o2
  have hoc : ownC (ops.map Lo.co) table = ((ownK ops).filter fun k => decide (k.a = table)).foldl insK [] := by unfold ownC; rw [e1]
  -- the committed rows
  have e2 : ((ys.map Ver.key).filter fun k => decide (k.a = table) && sees k.cr k.dl snap && !goneC (ops.map Lo.co) k.a k.b) = (seenK ds ops snap table (ys.map Ver.key)).filter fun k => decide (k.a = table) := by
    unfold seenK
    rw [List.filter_filter, List.filter_filter]
    refine List.filter_congr fun k _ => ?_
    rw [← gone_co]
    by_cases c : k.a = table
    · rw [decide_eq_true c]
      have hno : (ds.any fun d => decide (d.id = table)) = false → gone ops k.a k.b = false := fun hq => by
        rw [Bool.eq_false_iff]
        intro hg
        unfold gone at hg
        obtain ⟨o, ho, h1⟩ := List.any_eq_true.1 hg
        have h2 := hd o ho
        simp at h1
        rw [h1.1.1, c] at h2
        rw [hq] at h2; cases h2
      cases hq : (ds.any fun d => decide (d.id = table))
      · rw [hno hq]; cases sees k.cr k.dl snap <;> rfl
      · cases sees k.cr k.dl snap <;> cases gone ops k.a k.b <;> rfl
    · rw [decide_eq_false c]; simp
  obtain ⟨s1, s2⟩ := foldl_put (table := table) (a := []) (b := []) List.Pairwise.nil (List.Perm.refl _) (l := (seenK ds ops snap table (ys.map Ver.key)).filter fun k => decide (k.a = table)) (fun k hk => by simpa using (List.mem_filter.1 hk).2)
  rw [← foldl_table] at s2
  have hrc : rowsC (ops.map Lo.co) snap table (ys.map Ver.key) = (((ownK ops).filter fun k => decide (k.a = table)).foldl insK []).foldl insK (((seenK ds ops snap table (ys.map Ver.key)).filter fun k => decide (k.a = table)).foldl insK []) := by
    unfold rowsC; rw [hoc, e2]
  obtain ⟨t1, t2⟩ := foldl_put (table := table) s1 s2 (l := ((ownK ops).filter fun k => decide (k.a = table)).foldl insK []) (fun k hk => hot k (o2.mem_iff.1 hk))
  rw [hrc]
  have fin : (zs.map Ver.key).Perm ((((ownK ops).filter fun k => decide (k.a = table)).foldl insK []).foldl insK (((seenK ds ops snap table (ys.map Ver.key)).filter fun k => decide (k.a = table)).foldl insK [])) := by
    refine q.trans (List.Perm.trans ?_ t2.symm)
    rw [List.foldl_append, foldl_table (l := O)]
    have pO : (O.filter fun k => decide (k.a = table)).Perm (((ownK ops).filter fun k => decide (k.a = table)).foldl insK []) := (p.filter _).trans o2.symm
    rw [foldl_distinct table _ _ ((((p.filter fun k => decide (k.a = table)).map Key.rid).nodup_iff).2 hon), foldl_distinct table _ _ (((o2.map Key.rid).nodup_iff).2 hon)]
    exact (pO.filter _).append_left _
  refine fin.eq_of_pairwise (le := ltK) (fun a b _ _ h1 h2 => ?_) ?_ t1
  · unfold ltK at h1 h2; omega
  · rw [List.pairwise_map]; exact hst
theorem StepQ.def {ds : List Td} {ops ops' : List Lo} {o : Oq} (q : StepQ ds ops o ops') (h : ∀ o ∈ ops, (ds.any fun d => decide (d.id = o.a)) = true) : ∀ o ∈ ops', (ds.any fun d => decide (d.id = o.a)) = true := by
  have snoc : ∀ x : Lo, (ds.any fun d => decide (d.id = x.a)) = true → ∀ o ∈ ops ++ [x], (ds.any fun d => decide (d.id = o.a)) = true := fun x hx o ho => by
    rcases List.mem_append.1 ho with ho | ho
    · exact h o ho
    · rw [List.mem_singleton] at ho; subst ho; exact hx
  unfold StepQ at q
  split at q
  · obtain ⟨r, ⟨_, _, rfl⟩ | ⟨_, _, _, rfl⟩ | ⟨hi, hk, _, p, c, rfl⟩⟩ := q
    · exact h
    · exact h
    · refine snoc _ ?_
      unfold okIns at hi
      cases hf : ds.find? (fun d => decide (d.id = o.v.a)) with
      | none => rw [hf] at hi; simp at hi
      | some d =>
        have h9 := List.find?_some hf
        exact List.any_eq_true.2 ⟨d, List.mem_of_find?_eq_some hf, by simpa using h9⟩
  · split at q
    · obtain ⟨r, ⟨_, _, rfl⟩ | ⟨_, _, _, rfl⟩ | ⟨hi, _, _, rfl⟩⟩ := q
      · exact h
      · exact h
      · refine snoc _ ?_
        simp only [Bool.and_eq_true] at hi
        exact hi.2
    · split at q
      · obtain ⟨r, ⟨_, _, rfl⟩ | ⟨_, _, _, rfl⟩⟩ := q
        · exact h
        · exact fun x hx => h x (List.mem_of_mem_take hx)
      · subst q; exact h
/-- A step of the reference's log. -/
def StepC (ds : List Td) (cs : List (Bool × Key)) (o : Oq) : List (Bool × Key) :=
  if o.kind = 0 ∨ o.kind = 1 ∨ o.kind = 2 then (if okIns ds [] o.v && !(cs.any fun c => decide (c.2.a = o.v.a ∧ c.2.b = o.v.b)) then cs ++ [(false, o.v.key)] else cs)
  else if o.kind = 3 ∨ o.kind = 4 then (if (decide (1 ≤ o.v.a) && decide (1 ≤ o.v.b) && ds.any fun d => decide (d.id = o.v.a)) && !goneC cs o.v.a o.v.b then cs ++ [(true, ⟨o.v.a, o.v.b, [], 0, 0⟩)] else cs)
  else if o.kind = 5 then (if o.n < 0 ∨ (cs.length : Int) < o.n then cs else cs.take o.n.toNat) else cs
theorem StepQ.co {ds : List Td} {ops ops' : List Lo} {o : Oq} (q : StepQ ds ops o ops') : ops'.map Lo.co = StepC ds (ops.map Lo.co) o := by
  unfold StepQ at q
  unfold StepC
  split at q
  · rename_i c
    rw [if_pos c]
    have hk : ((ops.map Lo.co).any fun c => decide (c.2.a = o.v.a ∧ c.2.b = o.v.b)) = known ops o.v.a o.v.b := by unfold known; rw [List.any_map]; rfl
    rw [hk]
    have ho : okIns ds [] o.v = okIns ds ops o.v := rfl
    rw [ho]
    obtain ⟨r, ⟨h1, _, rfl⟩ | ⟨h1, h2, _, rfl⟩ | ⟨h1, h2, _, p, c, rfl⟩⟩ := q
    · rw [h1]; rfl
    · rw [h1, h2]; rfl
    · rw [h1, h2, List.map_append]
      have hcd : o.v.cr = 0 ∧ o.v.dl = 0 := by
        unfold okIns at h1
        simp only [Bool.and_eq_true, decide_eq_true_eq] at h1
        exact ⟨h1.1.1.2, h1.1.2⟩
      have : Lo.co ⟨false, o.v.a, o.v.b, p, c, o.v.vals⟩ = (false, o.v.key) := by
        unfold Lo.co Lo.key Ver.key
        rw [hcd.1, hcd.2]
      rw [List.map_singleton, this]; rfl
  · rename_i c
    rw [if_neg c]
    split at q
    · rename_i c2
      rw [if_pos c2, ← gone_co]
      obtain ⟨r, ⟨h1, _, rfl⟩ | ⟨h1, h2, _, rfl⟩ | ⟨h1, h2, _, rfl⟩⟩ := q
      · rw [h1]; rfl
      · rw [h1, h2]; rfl
      · rw [h1, h2, List.map_append]; rfl
    · rename_i c2
      rw [if_neg c2]
      split at q
      · rename_i c3
        rw [if_pos c3]
        obtain ⟨r, ⟨h1, _, rfl⟩ | ⟨h1, h2, _, rfl⟩⟩ := q
        · rw [if_pos (by rw [List.length_map]; exact h1)]
        · rw [if_neg (by rw [List.length_map]; omega), List.map_take]
      · rename_i c3
        rw [if_neg c3]; subst q; rfl
theorem StepsQ.co {ds : List Td} : ∀ {os : List Oq} {a b : List Lo}, StepsQ ds a os b → b.map Lo.co = os.foldl (StepC ds) (a.map Lo.co)
  | [], a, b, h => by cases h; rfl
  | x :: os, a, b, ⟨mid, h1, h2⟩ => by rw [StepsQ.co h2, h1.co]; rfl
theorem StepsQ.def {ds : List Td} : ∀ {os : List Oq} {a b : List Lo}, StepsQ ds a os b → (∀ o ∈ a, (ds.any fun d => decide (d.id = o.a)) = true) → ∀ o ∈ b, (ds.any fun d => decide (d.id = o.a)) = true
  | [], a, b, h, q => by cases h; exact q
  | x :: os, a, b, ⟨mid, h1, h2⟩, q => StepsQ.def h2 (h1.def q)
/-- Definitions with the same hearts do the same. -/
theorem core_any {ds ds' : List Td} (h : ds'.map Td.core = ds.map Td.core) (t : Int) : (ds'.any fun d => decide (d.id = t)) = ds.any fun d => decide (d.id = t) := by
  have e : ∀ l : List Td, (l.any fun d => decide (d.id = t)) = (l.map Td.core).any fun c => decide (c.1 = t) := fun l => by rw [List.any_map]; rfl
  rw [e, e, h]
theorem core_ok {ds ds' : List Td} (h : ds'.map Td.core = ds.map Td.core) (v : Ver) : okIns ds' [] v = okIns ds [] v := by
  have e : ∀ l : List Td, (l.map Td.core).find? (fun c => decide (c.1 = v.a)) = (l.find? (fun d => decide (d.id = v.a))).map Td.core := fun l => by rw [List.find?_map]; rfl
  have h2 := e ds'
  rw [h, e ds] at h2
  unfold okIns
  cases h3 : ds'.find? (fun d => decide (d.id = v.a)) with
  | none =>
    cases h4 : ds.find? (fun d => decide (d.id = v.a)) with
    | none => rfl
    | some d => rw [h3, h4] at h2; cases h2
  | some d' =>
    cases h4 : ds.find? (fun d => decide (d.id = v.a)) with
    | none => rw [h3, h4] at h2; cases h2
    | some d =>
      rw [h3, h4] at h2
      have h5 : d.core = d'.core := Option.some.inj h2
      have h6 : d.cols = d'.cols := congrArg (fun c : Int × List Col × List Int => c.2.1) h5
      have h7 : fitsD d' v.vals = fitsD d v.vals := by unfold fitsD; rw [h6]
      simp only [h7]
theorem core_step {ds ds' : List Td} (h : ds'.map Td.core = ds.map Td.core) : StepC ds' = StepC ds := by
  funext cs o
  unfold StepC
  rw [core_ok h, core_any h]
end Go.Proofs.YtcaolnmpldbkjaaGreatA
namespace Go.Proofs.YtcaolnmpldbkjaaGreatA
open Go Go.Proofs Go.RowKit
set_option linter.unusedVariables false
set_option linter.unusedSimpArgs false
set_option maxRecDepth 10000
set_option maxHeartbeats 4000000
def Ro.co (o : Ro) : Bool × Key := (!o.ins, o.v.key)
theorem goneC_co (L : List Ro) (a b : Int) : (L.any fun o => decide (o.v.a = a ∧ o.v.b = b) && decide (o.ins = false)) = goneC (L.map Ro.co) a b := by
  unfold goneC
  rw [List.any_map]
  congr 1
  funext o
  show (decide (o.v.a = a ∧ o.v.b = b) && decide (o.ins = false)) = (decide (o.v.a = a ∧ o.v.b = b) && !o.ins)
  cases o.ins <;> rfl
theorem ro_clip {h : Heap} {p : Option (Nat × Nat)} {c : Option Nat} {L : List Ro} (r : Rs h p c 6 Ro.enc L) {n : Nat} (hn : n ≤ L.length) {hh : Heap} (e : Ext h hh) : sliceV hh 6 p L.length c none (some (.int .i64 (n : Int))) (some (.int .i64 (n : Int))) = some (.slice p n (some n)) := by
  unfold sliceV
  cases c with
  | none => simp [boundV, (r.fit.ext e) rfl, advV_zero, hn]
  | some m =>
    have := r.room m rfl
    have h2 : (n : Int) ≤ (m : Int) := by omega
    simp [boundV, advV_zero, h2]
theorem want_ok {h : Heap} {snap : Int} {dp lp : Option (Nat × Nat)} {dc lc : Option Nat} {ds : List Td} {L : List Ro} (hs : Tds h dp ds) (hL : RL h lp L) (hR : Rs h lp lc 6 Ro.enc L) (hB : L.length ≤ 1000) (o : Oq) (hv : VOK h o.v) :
    WR (callE Tryz.prog hk 8 [.agg (rtx snap dp ds dc lp L lc), .agg o.enc] h) fun r h' => ∃ L', RTx h snap dp ds dc lp L' r h' ∧ L'.map Ro.co = StepC ds (L.map Ro.co) o ∧ L'.length ≤ L.length + 1 ∧ ∀ h0, (∀ x ∈ L, VOK h0 x.v) → VOK h0 o.v → ∀ x ∈ L', VOK h0 x.v := by
  have hnL := hL.sl.nil'
  have hlL := hL.sl.small
  refine WR.call (hH := rfl) Tryz.func8 rfl (n := 51) rfl rfl (by simp) ?_
  obtain ⟨g, hg, gt, gv, gr, ex, hgl⟩ : ∃ g, h ++ [O.cells (rtx snap dp ds dc lp L lc) .rw] ++ [O.cells o.enc .rw] ++ [O.cells [.int .i64 0, .slice none 0 (some 0), .slice none 0 (some 0)] .rw] = g ∧ g[h.length]? = some (O.cells (rtx snap dp ds dc lp L lc) .rw) ∧ g[h.length + 1]? = some (O.cells o.enc .rw) ∧ g[h.length + 1 + 1]? = some (O.cells [.int .i64 0, .slice none 0 (some 0), .slice none 0 (some 0)] .rw) ∧ Ext h g ∧ g.length = h.length + 3 := ⟨_, rfl, by simp, by simp, snoc_last _ (by simp), (by (repeat (first | assumption | apply Ext.refl | apply Ext.app | (apply Ext.set <;> omega) | exact Ext.trans (by assumption) (by assumption) | (refine Ext.trans ?_ (by assumption))))), by simp⟩
  have hins := rinsert_ok (h := g) (snap := snap) (dc := dc) (hs.ext ex) (hL.ext ex) (hR.ext ex) hB (v := o.v) (Sl.ext hv ex)
  have hdel := rdelete_ok (h := g) (snap := snap) (dc := dc) (hs.ext ex) (hL.ext ex) (hR.ext ex) hB o.v.a o.v.b
  simp only [rtx] at hg gt hins hdel
  simp only [Ver.enc] at hins
  simp only [Oq.enc] at hg gv
  have hSame : (if okIns ds [] o.v && !(L.any fun x => decide (x.v.a = o.v.a ∧ x.v.b = o.v.b)) then L ++ [(⟨true, o.v⟩ : Ro)] else L).map Ro.co = (if okIns ds [] o.v && !((L.map Ro.co).any fun c => decide (c.2.a = o.v.a ∧ c.2.b = o.v.b)) then L.map Ro.co ++ [(false, o.v.key)] else L.map Ro.co) := by
    have : ((L.map Ro.co).any fun c => decide (c.2.a = o.v.a ∧ c.2.b = o.v.b)) = L.any fun x => decide (x.v.a = o.v.a ∧ x.v.b = o.v.b) := by rw [List.any_map]; rfl
    rw [this]
    split
    · rw [List.map_append]; rfl
    · rfl
  have hSame2 : (if (decide (1 ≤ o.v.a) && decide (1 ≤ o.v.b) && ds.any fun d => decide (d.id = o.v.a)) && !(L.any fun x => decide (x.v.a = o.v.a ∧ x.v.b = o.v.b) && decide (x.ins = false)) then L ++ [(⟨false, ⟨o.v.a, o.v.b, none, some 0, [], 0, 0⟩⟩ : Ro)] else L).map Ro.co = (if (decide (1 ≤ o.v.a) && decide (1 ≤ o.v.b) && ds.any fun d => decide (d.id = o.v.a)) && !goneC (L.map Ro.co) o.v.a o.v.b then L.map Ro.co ++ [(true, ⟨o.v.a, o.v.b, [], 0, 0⟩)] else L.map Ro.co) := by
    rw [goneC_co]
    split
    · rw [List.map_append]; rfl
    · rfl
  have hlen1 : (if okIns ds [] o.v && !(L.any fun x => decide (x.v.a = o.v.a ∧ x.v.b = o.v.b)) then L ++ [(⟨true, o.v⟩ : Ro)] else L).length ≤ L.length + 1 := by split <;> simp
  have hlen2 : (if (decide (1 ≤ o.v.a) && decide (1 ≤ o.v.b) && ds.any fun d => decide (d.id = o.v.a)) && !(L.any fun x => decide (x.v.a = o.v.a ∧ x.v.b = o.v.b) && decide (x.ins = false)) then L ++ [(⟨false, ⟨o.v.a, o.v.b, none, some 0, [], 0, 0⟩⟩ : Ro)] else L).length ≤ L.length + 1 := by split <;> simp
  have hv1 : ∀ h0, (∀ x ∈ L, VOK h0 x.v) → VOK h0 o.v → ∀ x ∈ (if okIns ds [] o.v && !(L.any fun x => decide (x.v.a = o.v.a ∧ x.v.b = o.v.b)) then L ++ [(⟨true, o.v⟩ : Ro)] else L), VOK h0 x.v := fun h0 hL0 hv0 x hx => by
    split at hx
    · rcases List.mem_append.1 hx with hx | hx
      · exact hL0 x hx
      · rw [List.mem_singleton] at hx; subst hx; exact hv0
    · exact hL0 x hx
  have hv2 : ∀ h0, (∀ x ∈ L, VOK h0 x.v) → VOK h0 o.v → ∀ x ∈ (if (decide (1 ≤ o.v.a) && decide (1 ≤ o.v.b) && ds.any fun d => decide (d.id = o.v.a)) && !(L.any fun x => decide (x.v.a = o.v.a ∧ x.v.b = o.v.b) && decide (x.ins = false)) then L ++ [(⟨false, ⟨o.v.a, o.v.b, none, some 0, [], 0, 0⟩⟩ : Ro)] else L), VOK h0 x.v := fun h0 hL0 hv0 x hx => by
    split at hx
    · rcases List.mem_append.1 hx with hx | hx
      · exact hL0 x hx
      · rw [List.mem_singleton] at hx; subst hx; exact .nil0 _ _ _
    · exact hL0 x hx
  generalize (if okIns ds [] o.v && !(L.any fun x => decide (x.v.a = o.v.a ∧ x.v.b = o.v.b)) then L ++ [(⟨true, o.v⟩ : Ro)] else L) = L1 at hins hSame hlen1 hv1
  generalize (if (decide (1 ≤ o.v.a) && decide (1 ≤ o.v.b) && ds.any fun d => decide (d.id = o.v.a)) && !(L.any fun x => decide (x.v.a = o.v.a ∧ x.v.b = o.v.b) && decide (x.ins = false)) then L ++ [(⟨false, ⟨o.v.a, o.v.b, none, some 0, [], 0, 0⟩⟩ : Ro)] else L) = L2 at hdel hSame2 hlen2 hv2
  by_cases k012 : o.kind = 0 ∨ o.kind = 1 ∨ o.kind = 2
  · have hst : L1.map Ro.co = StepC ds (L.map Ro.co) o := by unfold StepC; rw [if_pos k012]; exact hSame
    rcases k012 with c0 | c0 | c0
    · simp -dsimp (disch := first | with_reducible assumption | omega | (intro h_; cases h_; done) | (simp only [LN] <;> omega) | (simp only [LF]; done) | (repeat (first | with_reducible assumption | apply Ext.refl | apply Ext.app | (apply Ext.set <;> omega) | (refine Ext.trans ?_ (by assumption))))) only [AX, TY, AD, mapPut, entsOf, oneV, builtinV, idsOf, mapId, touchB, Nat.reduceLT, Nat.reduceLeDiff, Nat.reduceEqDiff, Nat.reduceAdd, Nat.reduceMul, Int.reduceBEq, Int.reduceEq, Int.reduceNeg, Int.reduceLT, Int.reduceLE, Int.reduceAdd, Int.reduceSub, Int.reduceMul, Int.reduceToNat, Int.reduceGT, Nat.reduceBEq, Nat.reducePow, Nat.reduceGT, reduceCtorEq, ↓reduceIte, Oq.enc, hg, loadN_fact gt, loadN_fact gv, eq_true c0]
      refine hins.mono ?_
      rintro _ h2 ⟨e2, lp', lc', e', rfl, rl, rs, fr⟩
      have gr2 := e2 _ _ gr
      have e02 := ex.trans e2
      simp only [rtx]
      obtain ⟨h7, hh7, gy, k7⟩ : ∃ h7, List.set h2 (h.length + 1 + 1) (.cells (rtx snap dp ds dc lp' L1 lc') .rw) = h7 ∧ h7[h.length + 1 + 1]? = some (.cells (rtx snap dp ds dc lp' L1 lc') .rw) ∧ Ext h h7 := ⟨_, rfl, set_same _ (lt_of_some gr2), Ext.set e02 (by omega) _⟩
      have st := storeN_fact (vs := rtx snap dp ds dc lp' L1 lc') gr2 (by simp)
      simp only [rtx] at st hh7 gy
      simp -dsimp (disch := first | with_reducible assumption | omega | (intro h_; cases h_; done) | (simp only [LN] <;> omega) | (simp only [LF]; done) | (repeat (first | with_reducible assumption | apply Ext.refl | apply Ext.app | (apply Ext.set <;> omega) | (refine Ext.trans ?_ (by assumption))))) only [AX, TY, AD, mapPut, entsOf, oneV, builtinV, idsOf, mapId, touchB, Nat.reduceLT, Nat.reduceLeDiff, Nat.reduceEqDiff, Nat.reduceAdd, Nat.reduceMul, Int.reduceBEq, Int.reduceEq, Int.reduceNeg, Int.reduceLT, Int.reduceLE, Int.reduceAdd, Int.reduceSub, Int.reduceMul, Int.reduceToNat, Int.reduceGT, Nat.reduceBEq, Nat.reducePow, Nat.reduceGT, reduceCtorEq, ↓reduceIte, st, hh7, loadN_fact gy, gr2]
      have away : ∀ a o, lp' = some (a, o) → a ≠ h.length + 1 + 1 := fun a o z => by
        rcases fr with rfl | q
        · have := hL.sl.lt z; omega
        · have := q a o z; omega
      have k27 : ∀ a, a ≠ h.length + 1 + 1 → h7[a]? = h2[a]? := fun a ha => by rw [← hh7]; exact set_other _ ha
      have rl7 : RL h7 lp' L1 := ⟨rl.sl.keep fun a o z => k27 a (away a o z), fun x hx => Sl.ext (hv1 h hL.ok hv x hx) k7⟩
      have rs7 : Rs h7 lp' lc' 6 Ro.enc L1 := ⟨rl7.sl, rs.room, fun hc => by
        have := rs.fit hc
        cases lp' with
        | none => rfl
        | some q =>
          obtain ⟨a, o⟩ := q
          have q7 := k27 a (away a o rfl)
          simp only [fitsV] at this ⊢
          rw [q7]; exact this⟩
      exact ⟨L1, ⟨k7, lp', lc', e', rfl, rl7, rs7, by
        rcases fr with rfl | q
        · exact .inl rfl
        · exact .inr fun a o z => by have := q a o z; omega⟩, hst, hlen1, hv1⟩
    · have d0 : ¬ o.kind = 0 := by omega
      simp -dsimp (disch := first | with_reducible assumption | omega | (intro h_; cases h_; done) | (simp only [LN] <;> omega) | (simp only [LF]; done) | (repeat (first | with_reducible assumption | apply Ext.refl | apply Ext.app | (apply Ext.set <;> omega) | (refine Ext.trans ?_ (by assumption))))) only [AX, TY, AD, mapPut, entsOf, oneV, builtinV, idsOf, mapId, touchB, Nat.reduceLT, Nat.reduceLeDiff, Nat.reduceEqDiff, Nat.reduceAdd, Nat.reduceMul, Int.reduceBEq, Int.reduceEq, Int.reduceNeg, Int.reduceLT, Int.reduceLE, Int.reduceAdd, Int.reduceSub, Int.reduceMul, Int.reduceToNat, Int.reduceGT, Nat.reduceBEq, Nat.reducePow, Nat.reduceGT, reduceCtorEq, ↓reduceIte, Oq.enc, hg, loadN_fact gt, loadN_fact gv, d0, eq_true c0]
      refine hins.mono ?_
      rintro _ h2 ⟨e2, lp', lc', e', rfl, rl, rs, fr⟩
      have gr2 := e2 _ _ gr
      have e02 := ex.trans e2
      simp only [rtx]
      obtain ⟨h7, hh7, gy, k7⟩ : ∃ h7, List.set h2 (h.length + 1 + 1) (.cells (rtx snap dp ds dc lp' L1 lc') .rw) = h7 ∧ h7[h.length + 1 + 1]? = some (.cells (rtx snap dp ds dc lp' L1 lc') .rw) ∧ Ext h h7 := ⟨_, rfl, set_same _ (lt_of_some gr2), Ext.set e02 (by omega) _⟩
      have st := storeN_fact (vs := rtx snap dp ds dc lp' L1 lc') gr2 (by simp)
      simp only [rtx] at st hh7 gy
      simp -dsimp (disch := first | with_reducible assumption | omega | (intro h_; cases h_; done) | (simp only [LN] <;> omega) | (simp only [LF]; done) | (repeat (first | with_reducible assumption | apply Ext.refl | apply Ext.app | (apply Ext.set <;> omega) | (refine Ext.trans ?_ (by assumption))))) only [AX, TY, AD, mapPut, entsOf, oneV, builtinV, idsOf, mapId, touchB, Nat.reduceLT, Nat.reduceLeDiff, Nat.reduceEqDiff, Nat.reduceAdd, Nat.reduceMul, Int.reduceBEq, Int.reduceEq, Int.reduceNeg, Int.reduceLT, Int.reduceLE, Int.reduceAdd, Int.reduceSub, Int.reduceMul, Int.reduceToNat, Int.reduceGT, Nat.reduceBEq, Nat.reducePow, Nat.reduceGT, reduceCtorEq, ↓reduceIte, st, hh7, loadN_fact gy, gr2]
      have away : ∀ a o, lp' = some (a, o) → a ≠ h.length + 1 + 1 := fun a o z => by
        rcases fr with rfl | q
        · have := hL.sl.lt z; omega
        · have := q a o z; omega
      have k27 : ∀ a, a ≠ h.length + 1 + 1 → h7[a]? = h2[a]? := fun a ha => by rw [← hh7]; exact set_other _ ha
      have rl7 : RL h7 lp' L1 := ⟨rl.sl.keep fun a o z => k27 a (away a o z), fun x hx => Sl.ext (hv1 h hL.ok hv x hx) k7⟩
      have rs7 : Rs h7 lp' lc' 6 Ro.enc L1 := ⟨rl7.sl, rs.room, fun hc => by
        have := rs.fit hc
        cases lp' with
        | none => rfl
        | some q =>
          obtain ⟨a, o⟩ := q
          have q7 := k27 a (away a o rfl)
          simp only [fitsV] at this ⊢
          rw [q7]; exact this⟩
      exact ⟨L1, ⟨k7, lp', lc', e', rfl, rl7, rs7, by
        rcases fr with rfl | q
        · exact .inl rfl
        · exact .inr fun a o z => by have := q a o z; omega⟩, hst, hlen1, hv1⟩
    · have d0 : ¬ o.kind = 0 := by omega
      have d1 : ¬ o.kind = 1 := by omega
      simp -dsimp (disch := first | with_reducible assumption | omega | (intro h_; cases h_; done) | (simp only [LN] <;> omega) | (simp only [LF]; done) | (repeat (first | with_reducible assumption | apply Ext.refl | apply Ext.app | (apply Ext.set <;> omega) | (refine Ext.trans ?_ (by assumption))))) only [AX, TY, AD, mapPut, entsOf, oneV, builtinV, idsOf, mapId, touchB, Nat.reduceLT, Nat.reduceLeDiff, Nat.reduceEqDiff, Nat.reduceAdd, Nat.reduceMul, Int.reduceBEq, Int.reduceEq, Int.reduceNeg, Int.reduceLT, Int.reduceLE, Int.reduceAdd, Int.reduceSub, Int.reduceMul, Int.reduceToNat, Int.reduceGT, Nat.reduceBEq, Nat.reducePow, Nat.reduceGT, reduceCtorEq, ↓reduceIte, Oq.enc, hg, loadN_fact gt, loadN_fact gv, d0, d1, eq_true c0]
      refine hins.mono ?_
      rintro _ h2 ⟨e2, lp', lc', e', rfl, rl, rs, fr⟩
      have gr2 := e2 _ _ gr
      have e02 := ex.trans e2
      simp only [rtx]
      obtain ⟨h7, hh7, gy, k7⟩ : ∃ h7, List.set h2 (h.length + 1 + 1) (.cells (rtx snap dp ds dc lp' L1 lc') .rw) = h7 ∧ h7[h.length + 1 + 1]? = some (.cells (rtx snap dp ds dc lp' L1 lc') .rw) ∧ Ext h h7 := ⟨_, rfl, set_same _ (lt_of_some gr2), Ext.set e02 (by omega) _⟩
      have st := storeN_fact (vs := rtx snap dp ds dc lp' L1 lc') gr2 (by simp)
      simp only [rtx] at st hh7 gy
      simp -dsimp (disch := first | with_reducible assumption | omega | (intro h_; cases h_; done) | (simp only [LN] <;> omega) | (simp only [LF]; done) | (repeat (first | with_reducible assumption | apply Ext.refl | apply Ext.app | (apply Ext.set <;> omega) | (refine Ext.trans ?_ (by assumption))))) only [AX, TY, AD, mapPut, entsOf, oneV, builtinV, idsOf, mapId, touchB, Nat.reduceLT, Nat.reduceLeDiff, Nat.reduceEqDiff, Nat.reduceAdd, Nat.reduceMul, Int.reduceBEq, Int.reduceEq, Int.reduceNeg, Int.reduceLT, Int.reduceLE, Int.reduceAdd, Int.reduceSub, Int.reduceMul, Int.reduceToNat, Int.reduceGT, Nat.reduceBEq, Nat.reducePow, Nat.reduceGT, reduceCtorEq, ↓reduceIte, st, hh7, loadN_fact gy, gr2]
      have away : ∀ a o, lp' = some (a, o) → a ≠ h.length + 1 + 1 := fun a o z => by
        rcases fr with rfl | q
        · have := hL.sl.lt z; omega
        · have := q a o z; omega
      have k27 : ∀ a, a ≠ h.length + 1 + 1 → h7[a]? = h2[a]? := fun a ha => by rw [← hh7]; exact set_other _ ha
      have rl7 : RL h7 lp' L1 := ⟨rl.sl.keep fun a o z => k27 a (away a o z), fun x hx => Sl.ext (hv1 h hL.ok hv x hx) k7⟩
      have rs7 : Rs h7 lp' lc' 6 Ro.enc L1 := ⟨rl7.sl, rs.room, fun hc => by
        have := rs.fit hc
        cases lp' with
        | none => rfl
        | some q =>
          obtain ⟨a, o⟩ := q
          have q7 := k27 a (away a o rfl)
          simp only [fitsV] at this ⊢
          rw [q7]; exact this⟩
      exact ⟨L1, ⟨k7, lp', lc', e', rfl, rl7, rs7, by
        rcases fr with rfl | q
        · exact .inl rfl
        · exact .inr fun a o z => by have := q a o z; omega⟩, hst, hlen1, hv1⟩
  have d0 : ¬ o.kind = 0 := by omega
  have d1 : ¬ o.kind = 1 := by omega
  have d2 : ¬ o.kind = 2 := by omega
  by_cases k34 : o.kind = 3 ∨ o.kind = 4
  · have hst : L2.map Ro.co = StepC ds (L.map Ro.co) o := by unfold StepC; rw [if_neg k012, if_pos k34]; exact hSame2
    rcases k34 with c0 | c0
    · simp -dsimp (disch := first | with_reducible assumption | omega | (intro h_; cases h_; done) | (simp only [LN] <;> omega) | (simp only [LF]; done) | (repeat (first | with_reducible assumption | apply Ext.refl | apply Ext.app | (apply Ext.set <;> omega) | (refine Ext.trans ?_ (by assumption))))) only [AX, TY, AD, mapPut, entsOf, oneV, builtinV, idsOf, mapId, touchB, Nat.reduceLT, Nat.reduceLeDiff, Nat.reduceEqDiff, Nat.reduceAdd, Nat.reduceMul, Int.reduceBEq, Int.reduceEq, Int.reduceNeg, Int.reduceLT, Int.reduceLE, Int.reduceAdd, Int.reduceSub, Int.reduceMul, Int.reduceToNat, Int.reduceGT, Nat.reduceBEq, Nat.reducePow, Nat.reduceGT, reduceCtorEq, ↓reduceIte, Oq.enc, hg, loadN_fact gt, loadN_fact gv, d0, d1, d2, eq_true c0]
      refine hdel.mono ?_
      rintro _ h2 ⟨e2, lp', lc', e', rfl, rl, rs, fr⟩
      have gr2 := e2 _ _ gr
      have e02 := ex.trans e2
      simp only [rtx]
      obtain ⟨h7, hh7, gy, k7⟩ : ∃ h7, List.set h2 (h.length + 1 + 1) (.cells (rtx snap dp ds dc lp' L2 lc') .rw) = h7 ∧ h7[h.length + 1 + 1]? = some (.cells (rtx snap dp ds dc lp' L2 lc') .rw) ∧ Ext h h7 := ⟨_, rfl, set_same _ (lt_of_some gr2), Ext.set e02 (by omega) _⟩
      have st := storeN_fact (vs := rtx snap dp ds dc lp' L2 lc') gr2 (by simp)
      simp only [rtx] at st hh7 gy
      simp -dsimp (disch := first | with_reducible assumption | omega | (intro h_; cases h_; done) | (simp only [LN] <;> omega) | (simp only [LF]; done) | (repeat (first | with_reducible assumption | apply Ext.refl | apply Ext.app | (apply Ext.set <;> omega) | (refine Ext.trans ?_ (by assumption))))) only [AX, TY, AD, mapPut, entsOf, oneV, builtinV, idsOf, mapId, touchB, Nat.reduceLT, Nat.reduceLeDiff, Nat.reduceEqDiff, Nat.reduceAdd, Nat.reduceMul, Int.reduceBEq, Int.reduceEq, Int.reduceNeg, Int.reduceLT, Int.reduceLE, Int.reduceAdd, Int.reduceSub, Int.reduceMul, Int.reduceToNat, Int.reduceGT, Nat.reduceBEq, Nat.reducePow, Nat.reduceGT, reduceCtorEq, ↓reduceIte, st, hh7, loadN_fact gy, gr2]
      have away : ∀ a o, lp' = some (a, o) → a ≠ h.length + 1 + 1 := fun a o z => by
        rcases fr with rfl | q
        · have := hL.sl.lt z; omega
        · have := q a o z; omega
      have k27 : ∀ a, a ≠ h.length + 1 + 1 → h7[a]? = h2[a]? := fun a ha => by rw [← hh7]; exact set_other _ ha
      have rl7 : RL h7 lp' L2 := ⟨rl.sl.keep fun a o z => k27 a (away a o z), fun x hx => Sl.ext (hv2 h hL.ok hv x hx) k7⟩
      have rs7 : Rs h7 lp' lc' 6 Ro.enc L2 := ⟨rl7.sl, rs.room, fun hc => by
        have := rs.fit hc
        cases lp' with
        | none => rfl
        | some q =>
          obtain ⟨a, o⟩ := q
          have q7 := k27 a (away a o rfl)
          simp only [fitsV] at this ⊢
          rw [q7]; exact this⟩
      exact ⟨L2, ⟨k7, lp', lc', e', rfl, rl7, rs7, by
        rcases fr with rfl | q
        · exact .inl rfl
        · exact .inr fun a o z => by have := q a o z; omega⟩, hst, hlen2, hv2⟩
    · have d3 : ¬ o.kind = 3 := by omega
      simp -dsimp (disch := first | with_reducible assumption | omega | (intro h_; cases h_; done) | (simp only [LN] <;> omega) | (simp only [LF]; done) | (repeat (first | with_reducible assumption | apply Ext.refl | apply Ext.app | (apply Ext.set <;> omega) | (refine Ext.trans ?_ (by assumption))))) only [AX, TY, AD, mapPut, entsOf, oneV, builtinV, idsOf, mapId, touchB, Nat.reduceLT, Nat.reduceLeDiff, Nat.reduceEqDiff, Nat.reduceAdd, Nat.reduceMul, Int.reduceBEq, Int.reduceEq, Int.reduceNeg, Int.reduceLT, Int.reduceLE, Int.reduceAdd, Int.reduceSub, Int.reduceMul, Int.reduceToNat, Int.reduceGT, Nat.reduceBEq, Nat.reducePow, Nat.reduceGT, reduceCtorEq, ↓reduceIte, Oq.enc, hg, loadN_fact gt, loadN_fact gv, d0, d1, d2, d3, eq_true c0]
      refine hdel.mono ?_
      rintro _ h2 ⟨e2, lp', lc', e', rfl, rl, rs, fr⟩
      have gr2 := e2 _ _ gr
      have e02 := ex.trans e2
      simp only [rtx]
      obtain ⟨h7, hh7, gy, k7⟩ : ∃ h7, List.set h2 (h.length + 1 + 1) (.cells (rtx snap dp ds dc lp' L2 lc') .rw) = h7 ∧ h7[h.length + 1 + 1]? = some (.cells (rtx snap dp ds dc lp' L2 lc') .rw) ∧ Ext h h7 := ⟨_, rfl, set_same _ (lt_of_some gr2), Ext.set e02 (by omega) _⟩
      have st := storeN_fact (vs := rtx snap dp ds dc lp' L2 lc') gr2 (by simp)
      simp only [rtx] at st hh7 gy
      simp -dsimp (disch := first | with_reducible assumption | omega | (intro h_; cases h_; done) | (simp only [LN] <;> omega) | (simp only [LF]; done) | (repeat (first | with_reducible assumption | apply Ext.refl | apply Ext.app | (apply Ext.set <;> omega) | (refine Ext.trans ?_ (by assumption))))) only [AX, TY, AD, mapPut, entsOf, oneV, builtinV, idsOf, mapId, touchB, Nat.reduceLT, Nat.reduceLeDiff, Nat.reduceEqDiff, Nat.reduceAdd, Nat.reduceMul, Int.reduceBEq, Int.reduceEq, Int.reduceNeg, Int.reduceLT, Int.reduceLE, Int.reduceAdd, Int.reduceSub, Int.reduceMul, Int.reduceToNat, Int.reduceGT, Nat.reduceBEq, Nat.reducePow, Nat.reduceGT, reduceCtorEq, ↓reduceIte, st, hh7, loadN_fact gy, gr2]
      have away : ∀ a o, lp' = some (a, o) → a ≠ h.length + 1 + 1 := fun a o z => by
        rcases fr with rfl | q
        · have := hL.sl.lt z; omega
        · have := q a o z; omega
      have k27 : ∀ a, a ≠ h.length + 1 + 1 → h7[a]? = h2[a]? := fun a ha => by rw [← hh7]; exact set_other _ ha
      have rl7 : RL h7 lp' L2 := ⟨rl.sl.keep fun a o z => k27 a (away a o z), fun x hx => Sl.ext (hv2 h hL.ok hv x hx) k7⟩
      have rs7 : Rs h7 lp' lc' 6 Ro.enc L2 := ⟨rl7.sl, rs.room, fun hc => by
        have := rs.fit hc
        cases lp' with
        | none => rfl
        | some q =>
          obtain ⟨a, o⟩ := q
          have q7 := k27 a (away a o rfl)
          simp only [fitsV] at this ⊢
          rw [q7]; exact this⟩
      exact ⟨L2, ⟨k7, lp', lc', e', rfl, rl7, rs7, by
        rcases fr with rfl | q
        · exact .inl rfl
        · exact .inr fun a o z => by have := q a o z; omega⟩, hst, hlen2, hv2⟩
  have d3 : ¬ o.kind = 3 := by omega
  have d4 : ¬ o.kind = 4 := by omega
  by_cases c5 : o.kind = 5
  rotate_left
  · have hst : L.map Ro.co = StepC ds (L.map Ro.co) o := by unfold StepC; rw [if_neg k012, if_neg k34, if_neg c5]
    simp -dsimp (disch := first | with_reducible assumption | omega | (intro h_; cases h_; done) | (simp only [LN] <;> omega) | (simp only [LF]; done) | (repeat (first | with_reducible assumption | apply Ext.refl | apply Ext.app | (apply Ext.set <;> omega) | (refine Ext.trans ?_ (by assumption))))) only [AX, TY, AD, mapPut, entsOf, oneV, builtinV, idsOf, mapId, touchB, Nat.reduceLT, Nat.reduceLeDiff, Nat.reduceEqDiff, Nat.reduceAdd, Nat.reduceMul, Int.reduceBEq, Int.reduceEq, Int.reduceNeg, Int.reduceLT, Int.reduceLE, Int.reduceAdd, Int.reduceSub, Int.reduceMul, Int.reduceToNat, Int.reduceGT, Nat.reduceBEq, Nat.reducePow, Nat.reduceGT, reduceCtorEq, ↓reduceIte, Oq.enc, hg, loadN_fact gt, loadN_fact gv, d0, d1, d2, d3, d4, c5]
    obtain ⟨h7, hh7, gy, k7⟩ : ∃ h7, List.set g (h.length + 1 + 1) (.cells (rtx snap dp ds dc lp L lc) .rw) = h7 ∧ h7[h.length + 1 + 1]? = some (.cells (rtx snap dp ds dc lp L lc) .rw) ∧ Ext h h7 := ⟨_, rfl, set_same _ (lt_of_some gr), Ext.set ex (by omega) _⟩
    have st := storeN_fact (vs := rtx snap dp ds dc lp L lc) gr (by simp)
    simp only [rtx] at st hh7 gy
    simp -dsimp (disch := first | with_reducible assumption | omega | (intro h_; cases h_; done) | (simp only [LN] <;> omega) | (simp only [LF]; done) | (repeat (first | with_reducible assumption | apply Ext.refl | apply Ext.app | (apply Ext.set <;> omega) | (refine Ext.trans ?_ (by assumption))))) only [AX, TY, AD, mapPut, entsOf, oneV, builtinV, idsOf, mapId, touchB, Nat.reduceLT, Nat.reduceLeDiff, Nat.reduceEqDiff, Nat.reduceAdd, Nat.reduceMul, Int.reduceBEq, Int.reduceEq, Int.reduceNeg, Int.reduceLT, Int.reduceLE, Int.reduceAdd, Int.reduceSub, Int.reduceMul, Int.reduceToNat, Int.reduceGT, Nat.reduceBEq, Nat.reducePow, Nat.reduceGT, reduceCtorEq, ↓reduceIte, st, hh7, loadN_fact gy, loadN_fact gt]
    exact ⟨L, ⟨k7, lp, lc, _, rfl, hL.ext k7, hR.ext k7, .inl rfl⟩, hst, by omega, fun _ q _ => q⟩
  by_cases n0 : o.n < 0
  · have hst : L.map Ro.co = StepC ds (L.map Ro.co) o := by unfold StepC; rw [if_neg k012, if_neg k34, if_pos c5, if_pos (.inl n0)]
    simp -dsimp (disch := first | with_reducible assumption | omega | (intro h_; cases h_; done) | (simp only [LN] <;> omega) | (simp only [LF]; done) | (repeat (first | with_reducible assumption | apply Ext.refl | apply Ext.app | (apply Ext.set <;> omega) | (refine Ext.trans ?_ (by assumption))))) only [AX, TY, AD, mapPut, entsOf, oneV, builtinV, idsOf, mapId, touchB, Nat.reduceLT, Nat.reduceLeDiff, Nat.reduceEqDiff, Nat.reduceAdd, Nat.reduceMul, Int.reduceBEq, Int.reduceEq, Int.reduceNeg, Int.reduceLT, Int.reduceLE, Int.reduceAdd, Int.reduceSub, Int.reduceMul, Int.reduceToNat, Int.reduceGT, Nat.reduceBEq, Nat.reducePow, Nat.reduceGT, reduceCtorEq, ↓reduceIte, Oq.enc, hg, loadN_fact gt, loadN_fact gv, d0, d1, d2, d3, d4, eq_true c5, n0]
    obtain ⟨h7, hh7, gy, k7⟩ : ∃ h7, List.set g (h.length + 1 + 1) (.cells (rtx snap dp ds dc lp L lc) .rw) = h7 ∧ h7[h.length + 1 + 1]? = some (.cells (rtx snap dp ds dc lp L lc) .rw) ∧ Ext h h7 := ⟨_, rfl, set_same _ (lt_of_some gr), Ext.set ex (by omega) _⟩
    have st := storeN_fact (vs := rtx snap dp ds dc lp L lc) gr (by simp)
    simp only [rtx] at st hh7 gy
    simp -dsimp (disch := first | with_reducible assumption | omega | (intro h_; cases h_; done) | (simp only [LN] <;> omega) | (simp only [LF]; done) | (repeat (first | with_reducible assumption | apply Ext.refl | apply Ext.app | (apply Ext.set <;> omega) | (refine Ext.trans ?_ (by assumption))))) only [AX, TY, AD, mapPut, entsOf, oneV, builtinV, idsOf, mapId, touchB, Nat.reduceLT, Nat.reduceLeDiff, Nat.reduceEqDiff, Nat.reduceAdd, Nat.reduceMul, Int.reduceBEq, Int.reduceEq, Int.reduceNeg, Int.reduceLT, Int.reduceLE, Int.reduceAdd, Int.reduceSub, Int.reduceMul, Int.reduceToNat, Int.reduceGT, Nat.reduceBEq, Nat.reducePow, Nat.reduceGT, reduceCtorEq, ↓reduceIte, st, hh7, loadN_fact gy, loadN_fact gt]
    exact ⟨L, ⟨k7, lp, lc, _, rfl, hL.ext k7, hR.ext k7, .inl rfl⟩, hst, by omega, fun _ q _ => q⟩
  by_cases n1 : (L.length : Int) < o.n
  · have hst : L.map Ro.co = StepC ds (L.map Ro.co) o := by unfold StepC; rw [if_neg k012, if_neg k34, if_pos c5, if_pos (.inr (by rw [List.length_map]; exact n1))]
    simp -dsimp (disch := first | with_reducible assumption | omega | (intro h_; cases h_; done) | (simp only [LN] <;> omega) | (simp only [LF]; done) | (repeat (first | with_reducible assumption | apply Ext.refl | apply Ext.app | (apply Ext.set <;> omega) | (refine Ext.trans ?_ (by assumption))))) only [AX, TY, AD, mapPut, entsOf, oneV, builtinV, idsOf, mapId, touchB, Nat.reduceLT, Nat.reduceLeDiff, Nat.reduceEqDiff, Nat.reduceAdd, Nat.reduceMul, Int.reduceBEq, Int.reduceEq, Int.reduceNeg, Int.reduceLT, Int.reduceLE, Int.reduceAdd, Int.reduceSub, Int.reduceMul, Int.reduceToNat, Int.reduceGT, Nat.reduceBEq, Nat.reducePow, Nat.reduceGT, reduceCtorEq, ↓reduceIte, Oq.enc, hg, loadN_fact gt, loadN_fact gv, d0, d1, d2, d3, d4, eq_true c5, n0, n1]
    obtain ⟨h7, hh7, gy, k7⟩ : ∃ h7, List.set g (h.length + 1 + 1) (.cells (rtx snap dp ds dc lp L lc) .rw) = h7 ∧ h7[h.length + 1 + 1]? = some (.cells (rtx snap dp ds dc lp L lc) .rw) ∧ Ext h h7 := ⟨_, rfl, set_same _ (lt_of_some gr), Ext.set ex (by omega) _⟩
    have st := storeN_fact (vs := rtx snap dp ds dc lp L lc) gr (by simp)
    simp only [rtx] at st hh7 gy
    simp -dsimp (disch := first | with_reducible assumption | omega | (intro h_; cases h_; done) | (simp only [LN] <;> omega) | (simp only [LF]; done) | (repeat (first | with_reducible assumption | apply Ext.refl | apply Ext.app | (apply Ext.set <;> omega) | (refine Ext.trans ?_ (by assumption))))) only [AX, TY, AD, mapPut, entsOf, oneV, builtinV, idsOf, mapId, touchB, Nat.reduceLT, Nat.reduceLeDiff, Nat.reduceEqDiff, Nat.reduceAdd, Nat.reduceMul, Int.reduceBEq, Int.reduceEq, Int.reduceNeg, Int.reduceLT, Int.reduceLE, Int.reduceAdd, Int.reduceSub, Int.reduceMul, Int.reduceToNat, Int.reduceGT, Nat.reduceBEq, Nat.reducePow, Nat.reduceGT, reduceCtorEq, ↓reduceIte, st, hh7, loadN_fact gy, loadN_fact gt]
    exact ⟨L, ⟨k7, lp, lc, _, rfl, hL.ext k7, hR.ext k7, .inl rfl⟩, hst, by omega, fun _ q _ => q⟩
  obtain ⟨n, hn⟩ : ∃ n : Nat, o.n = n := ⟨o.n.toNat, by omega⟩
  have hst : (L.take n).map Ro.co = StepC ds (L.map Ro.co) o := by
    unfold StepC
    rw [if_neg k012, if_neg k34, if_pos c5, if_neg (by rw [List.length_map]; omega), hn, Int.toNat_natCast, List.map_take]
  have hln : (L.take n).length = n := by rw [List.length_take]; omega
  have hcl := ro_clip hR (n := n) (by omega) ex
  have hrl : RL h lp (L.take n) := by
    have h2 := hL.sl.part (Nat.zero_le n) (by omega)
    rw [advV_zero, List.drop_zero] at h2
    exact ⟨h2, fun x hx => hL.ok x (List.mem_of_mem_take hx)⟩
  have hrs : Rs h lp (some n) 6 Ro.enc (L.take n) := Rs.ofSome hrl.sl (by omega)
  rw [hn] at n0 n1
  simp only [hn] at hg gv
  obtain ⟨h5, hh5, gt5, kp5, l5⟩ : ∃ h5, g.set h.length (.cells (rtx snap dp ds dc lp (L.take n) (some n)) .rw) = h5 ∧ h5[h.length]? = some (.cells (rtx snap dp ds dc lp (L.take n) (some n)) .rw) ∧ (∀ a, a ≠ h.length → h5[a]? = g[a]?) ∧ h5.length = g.length := ⟨_, rfl, set_same _ (by omega), fun a ha => set_other _ ha, by simp⟩
  have gr5 := (kp5 (h.length + 1 + 1) (by omega)).trans gr
  have e5 : Ext h h5 := Ext.of_keep fun a ha => by rw [kp5 a (by omega)]; exact ex.same ha
  simp only [rtx, hln] at hh5 gt5
  simp -dsimp (disch := first | with_reducible assumption | omega | (intro h_; cases h_; done) | (simp only [LN] <;> omega) | (simp only [LF]; done) | (repeat (first | with_reducible assumption | apply Ext.refl | apply Ext.app | (apply Ext.set <;> omega) | (refine Ext.trans ?_ (by assumption))))) only [AX, TY, AD, mapPut, entsOf, oneV, builtinV, idsOf, mapId, touchB, Nat.reduceLT, Nat.reduceLeDiff, Nat.reduceEqDiff, Nat.reduceAdd, Nat.reduceMul, Int.reduceBEq, Int.reduceEq, Int.reduceNeg, Int.reduceLT, Int.reduceLE, Int.reduceAdd, Int.reduceSub, Int.reduceMul, Int.reduceToNat, Int.reduceGT, Nat.reduceBEq, Nat.reducePow, Nat.reduceGT, reduceCtorEq, ↓reduceIte, Oq.enc, hn, hg, loadN_fact gt, loadN_fact gv, d0, d1, d2, d3, d4, eq_true c5, n0, n1, hcl, storeN_fact gt (by simp), hh5]
  obtain ⟨h7, hh7, gy, k7⟩ : ∃ h7, List.set h5 (h.length + 1 + 1) (.cells (rtx snap dp ds dc lp (L.take n) (some n)) .rw) = h7 ∧ h7[h.length + 1 + 1]? = some (.cells (rtx snap dp ds dc lp (L.take n) (some n)) .rw) ∧ Ext h h7 := ⟨_, rfl, set_same _ (lt_of_some gr5), Ext.set e5 (by omega) _⟩
  simp only [rtx, hln] at hh7 gy
  simp -dsimp (disch := first | with_reducible assumption | omega | (intro h_; cases h_; done) | (simp only [LN] <;> omega) | (simp only [LF]; done) | (repeat (first | with_reducible assumption | apply Ext.refl | apply Ext.app | (apply Ext.set <;> omega) | (refine Ext.trans ?_ (by assumption))))) only [AX, TY, AD, mapPut, entsOf, oneV, builtinV, idsOf, mapId, touchB, Nat.reduceLT, Nat.reduceLeDiff, Nat.reduceEqDiff, Nat.reduceAdd, Nat.reduceMul, Int.reduceBEq, Int.reduceEq, Int.reduceNeg, Int.reduceLT, Int.reduceLE, Int.reduceAdd, Int.reduceSub, Int.reduceMul, Int.reduceToNat, Int.reduceGT, Nat.reduceBEq, Nat.reducePow, Nat.reduceGT, reduceCtorEq, ↓reduceIte, loadN_fact gt5, storeN_fact gr5 (by simp), hh7, loadN_fact gy]
  refine ⟨L.take n, ⟨k7, lp, some n, 0, ?_, hrl.ext k7, hrs.ext k7, .inl rfl⟩, hst, by omega, fun _ q _ x hx => q x (List.mem_of_mem_take hx)⟩
  simp only [rtx, hln]
end Go.Proofs.YtcaolnmpldbkjaaGreatA
