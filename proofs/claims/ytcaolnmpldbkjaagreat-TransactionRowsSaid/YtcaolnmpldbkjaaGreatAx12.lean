/- Words of this session: what an operation of the second reading looks at, and what it turns. -/
import Derived.Test.YtcaolnmpldbkjaaGreatAx11
namespace Go.Proofs.YtcaolnmpldbkjaaGreatA
open Go Go.RowKit
set_option linter.unusedVariables false
set_option linter.unusedSimpArgs false

/-! ### operands -/
theorem evs_congr {t t' : List V} : ∀ {xs : List Operand}, (∀ x ∈ xs, ev t x = ev t' x) → evs t xs = evs t' xs
  | [], _ => rfl
  | x :: xs, h => by rw [evs, evs, h x (by simp), evs_congr (xs := xs) fun y hy => h y (by simp [hy])]
theorem evParts_congr {t t' : List V} : ∀ {xs : List (Nat × Operand)}, (∀ x ∈ xs.map (·.2), ev t x = ev t' x) → evParts t xs = evParts t' xs
  | [], _ => rfl
  | (i, x) :: xs, h => by rw [evParts, evParts, h x (by simp), evParts_congr (xs := xs) fun y hy => h y (by simp at hy ⊢; exact .inr hy)]
theorem evO_congr {t t' : List V} {x : Option Operand} (h : ∀ y ∈ x.toArray, ev t y = ev t' y) : evO t x = evO t' x := by
  cases x with
  | none => rfl
  | some x => simp only [evO]; rw [h x (by simp)]
theorem primV_congr {P : Program} {C : CallF} {o : Oper} {t t' : List V} (h : Heap) (hx : ∀ x ∈ o.op.operands, ev t x = ev t' x) : primV P C o t h = primV P C o t' h := by
  obtain ⟨dst, op, ty, pos, after, guard⟩ := o
  cases op <;> simp only [primV] <;> simp only [Op.operands] at hx
  case move x => simp only [p_move, hx x (by simp)]
  case assign x => simp only [p_move, hx x (by simp)]
  case pick c a b => simp only [p_pick, hx c (by simp), hx a (by simp), hx b (by simp)]
  case box e x => simp only [p_box, hx x (by simp)]
  case build ty parts => simp only [p_build, evParts_congr (xs := parts.toList) (fun x h => hx x (by simpa using h))]
  case buildSlice ty n parts => simp only [p_buildSlice, evParts_congr (xs := parts.toList) (fun x h => hx x (by simpa using h))]
  case insert ty m k v => simp only [p_mapUpdate, hx m (by simp), hx k (by simp), hx v (by simp)]
  case mapUpdate ty m k v => simp only [p_mapUpdate, hx m (by simp), hx k (by simp), hx v (by simp)]
  case load ty x => simp only [p_load, hx x (by simp)]
  case store ty x y => simp only [p_store, hx x (by simp), hx y (by simp)]
  case nilCheck x => simp only [p_nilCheck, hx x (by simp)]
  case binOp op ty x y yt => simp only [p_binOp, hx x (by simp), hx y (by simp)]
  case unOp op ty x => simp only [p_unOp, hx x (by simp)]
  case convert src dst x => simp only [p_convert, hx x (by simp)]
  case makeInterface ty x => simp only [p_makeInterface, hx x (by simp)]
  case makeFunc fn a b =>
    cases fn <;> simp only
    simp only [p_makeFunc, evs_congr (xs := a.toList) (fun x h => hx x (by simp at h ⊢; exact .inl h)), evs_congr (xs := b.toList) (fun x h => hx x (by simp at h ⊢; exact .inr h))]
  case makeMap ty r => cases r <;> rfl
  case alloc e => rfl
  case makeSlice ty l c => simp only [p_makeSlice, hx l (by simp), hx c (by simp)]
  case slice ty x lo hi mx =>
    simp only [p_slice, hx x (by simp), evO_congr (x := lo) (fun y h => hx y (by simp at h ⊢; simp [h])), evO_congr (x := hi) (fun y h => hx y (by simp at h ⊢; simp [h])), evO_congr (x := mx) (fun y h => hx y (by simp at h ⊢; simp [h]))]
  case fieldAddr s x f => simp only [p_fieldAddr, hx x (by simp)]
  case field s x f => simp only [p_field, hx x (by simp)]
  case indexAddr ty x i => simp only [p_indexAddr, hx x (by simp), hx i (by simp)]
  case index ty x i => simp only [p_index, hx x (by simp), hx i (by simp)]
  case lookup ty m k ok => simp only [p_lookup, hx m (by simp), hx k (by simp)]
  case mapEntry ty m k => simp only [p_mapEntry, hx m (by simp), hx k (by simp)]
  case entryStore ty m s v => simp only [p_entryStore, hx m (by simp), hx s (by simp), hx v (by simp)]
  case extract x i => simp only [p_extract, hx x (by simp)]
  case call c =>
    simp only [p_call]
    have ha : evs t c.args.toList = evs t' c.args.toList := evs_congr fun x h => hx x (by simp [Call.operands]; exact .inr (by simpa using h))
    rw [ha]
    cases hc : c.callee with
    | value f => simp only [hx f (by simp [Call.operands, hc])]
    | invoke r m => rfl
    | builtin b => rfl

/-! ### blocks -/
def idsOf : Option V → List Nat
  | some (.ptr (some (id, _))) => [id]
  | some (.slice (some (id, _)) _ _) => [id]
  | some (.map (some id)) => [id]
  | _ => []
def mapId : Option V → List Nat
  | some (.map (some id)) => [id]
  | _ => []
def touchApp (s x : V) : List Nat × List Nat :=
  match s, lenV x with
  | .slice p len cap, some n => if n = 0 then ([], []) else
    match p, cap with
    | some (id, _), some c => if len + n ≤ c then (idsOf (some x), [id]) else (id :: idsOf (some x), [])
    | some (id, _), none => (idsOf (some x), [id])
    | none, _ => (idsOf (some x), [])
  | .slice p len cap, none => (idsOf (some (.slice p len cap)), [])
  | _, _ => ([], [])
def touchB (b : Builtin) (args : Option (List V)) : List Nat × List Nat :=
  match b, args with
  | .append, some [s, x] => touchApp s x
  | .copy, some [d, x] => (idsOf (some x), idsOf (some d))
  | .clear, some [x] => ([], idsOf (some x))
  | .len, some [x] => (mapId (some x), [])
  | .delete, some [m, _] => ([], mapId (some m))
  | _, _ => ([], [])
/-- The blocks that an operation reads, and those that it may turn. -/
noncomputable def touchV (o : Oper) (t : List V) : List Nat × List Nat :=
  match o.op with
  | .load _ x => (idsOf (ev t x), [])
  | .store _ x _ => ([], idsOf (ev t x))
  | .convert src dst x => if src = dst then ([], idsOf (ev t x)) else (idsOf (ev t x), [])
  | .slice _ x _ _ _ => (idsOf (ev t x), [])
  | .lookup _ m _ _ => (mapId (ev t m), [])
  | .mapUpdate _ m _ _ | .insert _ m _ _ => ([], mapId (ev t m))
  | .mapEntry _ m _ => ([], mapId (ev t m))
  | .entryStore _ m _ _ => ([], mapId (ev t m))
  | .call c => match c.callee with
    | .builtin b => touchB b (evs t c.args.toList)
    | _ => ([], [])
  | _ => ([], [])

/-- F looks at the blocks of N alone, and turns those of M alone. -/
def LocF (F : Heap → Option (V × Heap)) (N M : List Nat) : Prop := ∀ h v h', F h = some (v, h') →
  (∀ id : Nat, id < h.length → id ∉ M → h'[id]? = h[id]?) ∧ ∀ g : Heap, g.length = h.length → (∀ id : Nat, id ∈ N ∨ id ∈ M → g[id]? = h[id]?) → ∃ g', F g = some (v, g') ∧ g'.length = h'.length ∧ ∀ id : Nat, (id ∈ N ∨ id ∈ M) ∨ h.length ≤ id → g'[id]? = h'[id]?
section
variable {N M : List Nat}
theorem LocF.none : LocF (fun _ => Option.none) N M := fun h v h' q => by cases q
theorem LocF.read {f : Heap → Option V} (hf : ∀ g h : Heap, g.length = h.length → (∀ id : Nat, id ∈ N ∨ id ∈ M → g[id]? = h[id]?) → f g = f h) : LocF (fun h => (f h).map fun v => (v, h)) N M := by
  intro h v h' q
  cases hv : f h with
  | none => simp [hv] at q
  | some u =>
    simp [hv] at q
    obtain ⟨rfl, rfl⟩ := q
    refine ⟨fun _ _ _ => rfl, fun g hl hg => ⟨g, by simp [hf g h hl hg, hv], hl, fun id hid => ?_⟩⟩
    rcases hid with hid | hid
    · exact hg id hid
    · rw [List.getElem?_eq_none hid, List.getElem?_eq_none (by omega)]
theorem LocF.const (x : Option V) : LocF (fun h => x.map fun v => (v, h)) N M := .read fun _ _ _ _ => rfl
theorem LocF.push (o : O) (f : Nat → V) : LocF (fun h => some (f h.length, h ++ [o])) N M := by
  intro h v h' q
  simp at q
  obtain ⟨rfl, rfl⟩ := q
  refine ⟨fun id hl _ => List.getElem?_append_left hl, fun g hl hg => ⟨g ++ [o], by show some (f g.length, g ++ [o]) = _; rw [hl], by simp [hl], fun id hid => ?_⟩⟩
  by_cases e : id < h.length
  · rw [List.getElem?_append_left e, List.getElem?_append_left (by omega)]
    rcases hid with hid | hid
    · exact hg id hid
    · omega
  · rw [List.getElem?_append_right (by omega), List.getElem?_append_right (by omega), hl]
theorem LocF.if {c : Prop} [Decidable c] {F G : Heap → Option (V × Heap)} (hF : LocF F N M) (hG : LocF G N M) : LocF (fun h => if c then F h else G h) N M := by
  by_cases hc : c
  · simp only [hc, if_true]; exact hF
  · simp only [hc, if_false]; exact hG
/-- A block that is known to be looked at decides. -/
theorem LocF.at {id : Nat} (hid : id ∈ N ∨ id ∈ M) {F : Option O → Heap → Option (V × Heap)} (hF : ∀ o, LocF (F o) N M) : LocF (fun h => F (h[id]?) h) N M := by
  intro h v h' q
  obtain ⟨a, b⟩ := hF (h[id]?) h v h' q
  refine ⟨a, fun g hl hg => ?_⟩
  show ∃ g', F (g[id]?) g = some (v, g') ∧ _
  rw [hg id hid]
  exact b g hl hg
/-- The block id takes other contents. -/
theorem LocF.set {id : Nat} (hM : id ∈ M) (o : O) (v : V) : LocF (fun h => some (v, h.set id o)) N M := by
  intro h u h' q
  simp at q
  obtain ⟨rfl, rfl⟩ := q
  refine ⟨fun j hl hj => List.getElem?_set_ne (fun (e : id = j) => hj (e ▸ hM)), fun g hl hg => ⟨g.set id o, rfl, by simp [hl], fun j hj => ?_⟩⟩
  rw [List.getElem?_set, List.getElem?_set, hl]
  split
  · rfl
  · rcases hj with hj | hj
    · exact hg j hj
    · rw [List.getElem?_eq_none hj, List.getElem?_eq_none (by omega)]
theorem LocF.setPush {id : Nat} (hM : id ∈ M) (o o' : O) (f : Nat → V) : LocF (fun h => some (f h.length, h.set id o ++ [o'])) N M := by
  intro h u h' q
  simp at q
  obtain ⟨rfl, rfl⟩ := q
  refine ⟨fun j hl hj => ?_, fun g hl hg => ⟨g.set id o ++ [o'], by show some (f g.length, g.set id o ++ [o']) = _; rw [hl], by simp [hl], fun j hj => ?_⟩⟩
  · rw [List.getElem?_append_left (by simpa using hl), List.getElem?_set_ne (fun (e : id = j) => hj (e ▸ hM))]
  · by_cases e : j < h.length
    · have e1 : j < (g.set id o).length := by simp; omega
      have e2 : j < (h.set id o).length := by simpa using e
      rw [List.getElem?_append_left e1, List.getElem?_append_left e2, List.getElem?_set, List.getElem?_set, hl]
      split
      · rfl
      · rcases hj with hj | hj
        · exact hg j hj
        · omega
    · rw [List.getElem?_append_right (by simp; omega), List.getElem?_append_right (by simp; omega)]
      simp [hl]
theorem loadN_at (h : Heap) (id off n : Nat) : loadN h id off n = (match h[id]? with
  | some (.cells cs _) => if off + n ≤ cs.length then some ((cs.drop off).take n) else none
  | _ => none) := rfl
theorem loadN_congr {h g : Heap} {id : Nat} (e : g[id]? = h[id]?) (off n : Nat) : loadN g id off n = loadN h id off n := by unfold loadN; rw [e]
theorem LocF.store {id : Nat} (hM : id ∈ M) (off : Nat) (vs : List V) (v : V) : LocF (fun h => (storeN h id off vs).map fun h' => (v, h')) N M := by
  let F : Option O → Heap → Option (V × Heap) := fun o h => match o with
    | some (.cells cs k) => if k ≠ .ro ∧ off + vs.length ≤ cs.length ∧ vs.all V.leaf = true then some (v, h.set id (.cells (splice cs off vs) k)) else Option.none
    | _ => Option.none
  have e : (fun h : Heap => (storeN h id off vs).map fun h' => (v, h')) = fun h => F (h[id]?) h := by
    funext h
    simp only [F]
    unfold storeN
    cases hq : h[id]? with
    | none => rfl
    | some o => cases o with
      | dead => rfl
      | map es cl => rfl
      | cells cs k => simp only [forceL_eq, setK_eq]; split <;> rfl
  rw [e]
  refine LocF.at (F := F) (.inr hM) fun o => ?_
  cases o with
  | none => exact .none
  | some o => cases o with
    | dead => exact .none
    | map es cl => exact .none
    | cells cs k => exact .if (.set hM _ _) .none
end
end Go.Proofs.YtcaolnmpldbkjaaGreatA
