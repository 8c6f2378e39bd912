/- Words of this session: blocks are never taken back in the second reading; every operation of it holds of the model. -/
import Derived.Test.YtcaolnmpldbkjaaGreatAx9
namespace Go.Proofs.YtcaolnmpldbkjaaGreatA
open Go Go.RowKit
set_option linter.unusedVariables false
set_option linter.unusedSimpArgs false

/-- Blocks are added, and what is dead stays dead. -/
def Mono (h h' : Heap) : Prop := h.length ≤ h'.length ∧ ∀ id : Nat, h[id]? = some .dead → h'[id]? = some .dead
theorem Mono.refl (h : Heap) : Mono h h := ⟨Nat.le_refl _, fun _ x => x⟩
theorem Mono.trans {a b c : Heap} (x : Mono a b) (y : Mono b c) : Mono a c := ⟨Nat.le_trans x.1 y.1, fun id h => y.2 id (x.2 id h)⟩
theorem Mono.push (h l : Heap) : Mono h (h ++ l) := ⟨by simp, fun id x => by rw [List.getElem?_append_left (List.getElem?_eq_some_iff.1 x).1]; exact x⟩
theorem Mono.set {h : Heap} {id : Nat} {o o' : O} (hi : h[id]? = some o) (ha : o ≠ .dead) : Mono h (h.set id o') := ⟨by simp, fun j x => by
  by_cases e : id = j
  · subst e; rw [hi] at x; cases x; exact absurd rfl ha
  · rw [List.getElem?_set_ne e]; exact x⟩
theorem storeN_mono {h h' : Heap} {id off : Nat} {vs : List V} (hs : storeN h id off vs = some h') : Mono h h' := by
  unfold storeN at hs
  split at hs
  · rename_i cs k hi
    split at hs
    · simp at hs; subst hs; exact .set hi (by simp)
    · cases hs
  · cases hs
section
variable {P : Program} {C : FuncId → List V → Heap → Option (V × Heap)} {t : List V} {h : Heap} {r : V × Heap}
theorem map_mono {α : Type} {x : Option α} {f : α → V} (hp : x.map (fun v => (f v, h)) = some r) : Mono h r.2 := by
  cases x with
  | none => cases hp
  | some v => simp at hp; subst hp; exact .refl h
theorem mapH_mono {x : Option Heap} {v : V} (hx : ∀ h', x = some h' → Mono h h') (hp : x.map (fun h' => (v, h')) = some r) : Mono h r.2 := by
  cases x with
  | none => cases hp
  | some h' => simp at hp; subst hp; exact hx _ rfl
theorem newC_mono {h0 : Heap} {cs : List V} {k : Kd} {v : V} (hp : newC h0 cs k v = some r) : Mono h0 r.2 := by simp at hp; subst hp; exact .push _ _
theorem appendV_mono {st xt : TypeId} {s x : V} (hp : appendV P st xt s x h = some r) : Mono h r.2 := by
  unfold appendV at hp
  split at hp
  · split at hp
    · split at hp
      · cases hp; exact .refl h
      · split at hp
        · cases hp
        · unfold appRest at hp
          split at hp
          · cases hp
          · split at hp
            · split at hp
              · split at hp
                · exact mapH_mono (fun h' e => storeN_mono e) hp
                · cases hp
              · unfold growV at hp
                split at hp
                · cases hp
                · split at hp
                  · split at hp
                    · exact newC_mono hp
                    · cases hp
                  · cases hp
            · unfold ontoV at hp
              split at hp
              · cases hp
              · split at hp
                · rename_i hid _
                  split at hp
                  · exact (Mono.set hid (by simp)).trans (newC_mono hp)
                  · cases hp
                · cases hp
            · cases hp
    · cases hp
  · unfold appendZ at hp
    split at hp
    · split at hp
      · cases hp
      · unfold growV at hp
        split at hp
        · cases hp
        · split at hp
          · split at hp
            · exact newC_mono hp
            · cases hp
          · cases hp
    · cases hp
  · cases hp
theorem mapUpdateV_mono {ty : TypeId} {m k v : V} {h' : Heap} (hp : mapUpdateV P ty m k v h = some h') : Mono h h' := by
  unfold mapUpdateV at hp
  split at hp
  · split at hp
    · split at hp
      · rename_i hid
        split at hp
        · cases hp; exact .set hid (by simp)
        · cases hp; exact .set hid (by simp)
        · cases hp
      · cases hp
    · cases hp
  · cases hp
theorem builtinV_mono {b : Builtin} {ts : List TypeId} {args : List V} (hp : builtinV P b ts args h = some r) : Mono h r.2 := by
  unfold builtinV at hp
  split at hp
  · exact appendV_mono hp
  · unfold copyV at hp
    split at hp
    · split at hp
      · split at hp
        · split at hp
          · split at hp
            · cases hp; exact .refl h
            · exact mapH_mono (fun h' e => storeN_mono e) hp
          · cases hp; exact .refl h
        · cases hp
      · cases hp
    · cases hp
  · unfold clearV at hp
    split at hp
    · split at hp
      · cases hp; exact .refl h
      · split at hp
        · exact mapH_mono (fun h' e => storeN_mono e) hp
        · cases hp
    · cases hp
  · exact map_mono hp
  · split at hp
    · cases hp; exact .refl h
    · cases hp
  · exact map_mono hp
  · exact map_mono hp
  · unfold deleteV at hp
    split at hp
    · split at hp
      · cases hp; exact .refl h
      · cases hp
    · split at hp
      · split at hp
        · rename_i hid
          split at hp
          · cases hp; exact .set hid (by simp)
          · cases hp; exact .set hid (by simp)
          · cases hp
        · cases hp
      · cases hp
    · cases hp
  · cases hp
theorem primV_mono {o : Oper} (hC : ∀ f args r, C f args h = some r → Mono h r.2) (hp : primV P C o t h = some r) : Mono h r.2 := by
  obtain ⟨dst, op, ty, pos, after, guard⟩ := o
  cases op <;> simp only [primV] at hp <;> (try cases hp)
  case move x => exact map_mono hp
  case assign x => exact map_mono hp
  case pick c a b =>
    unfold p_pick at hp; split at hp
    · exact map_mono hp
    · exact map_mono hp
    · cases hp
  case alloc e =>
    unfold p_alloc at hp
    cases hz : zerosT P e with
    | none => simp [hz] at hp
    | some z => simp only [hz, Option.bind_some] at hp; exact newC_mono hp
  case box e x =>
    unfold p_box at hp; split at hp
    · split at hp
      · exact newC_mono hp
      · cases hp
    · cases hp
  case build ty parts =>
    unfold p_build at hp; split at hp
    · exact map_mono hp
    · cases hp
  case buildSlice ty n parts =>
    unfold p_buildSlice at hp; split at hp
    · unfold buildSliceV at hp; split at hp
      · split at hp
        · split at hp
          · cases hp
          · rename_i z sz _ _ _
            cases hq : fillV (fun i => some (i * sz, sz)) (reps n z) ‹List (Nat × V)› with
            | none => simp [hq] at hp
            | some cs => simp only [hq, Option.bind_some] at hp; exact newC_mono hp
        · cases hp
      · cases hp
    · cases hp
  case insert ty m k v =>
    unfold p_mapUpdate at hp; split at hp
    · exact mapH_mono (fun h' e => mapUpdateV_mono e) hp
    · cases hp
  case mapUpdate ty m k v =>
    unfold p_mapUpdate at hp; split at hp
    · exact mapH_mono (fun h' e => mapUpdateV_mono e) hp
    · cases hp
  case load ty x =>
    unfold p_load at hp; split at hp
    · exact map_mono hp
    · cases hp
  case store ty x y =>
    unfold p_store at hp; split at hp
    · refine mapH_mono (fun h' e => ?_) hp
      unfold storeV at e; split at e
      · split at e
        · exact storeN_mono e
        · cases e
      · cases e
    · cases hp
  case nilCheck x =>
    unfold p_nilCheck at hp; split at hp <;> cases hp; exact .refl h
  case binOp op ty x y yt =>
    unfold p_binOp at hp; split at hp
    · exact map_mono hp
    · cases hp
  case unOp op ty x =>
    unfold p_unOp at hp; split at hp
    · exact map_mono hp
    · cases hp
  case convert src dst x =>
    unfold p_convert at hp; split at hp
    · unfold convV at hp; split at hp
      · cases hp; exact .refl h
      · cases hp; exact .refl h
      · split at hp
        · exact newC_mono hp
        · cases hp
      · split at hp
        · cases hp; exact .refl h
        · split at hp
          · exact map_mono hp
          · cases hp
        · cases hp
      · split at hp
        · cases hp; exact .refl h
        · rename_i cs _ _ hid
          split at hp
          · simp only [newC_eq, Option.some.injEq] at hp
            subst hp
            exact (Mono.set hid (by simp)).trans (Mono.push _ _)
          · cases hp
        · cases hp
      · cases hp
    · cases hp
  case makeInterface ty x =>
    unfold p_makeInterface at hp; split at hp
    · split at hp
      · cases hp
      · cases hp; exact .refl h
    · cases hp
  case makeFunc fn first captured =>
    cases fn <;> simp only at hp <;> (try cases hp)
    unfold p_makeFunc at hp; split at hp
    · cases hp; exact .refl h
    · cases hp
  case makeMap ty r' =>
    cases r' <;> simp only at hp <;> (try cases hp)
    unfold p_makeMap at hp; simp at hp; subst hp; exact .push _ _
  case makeSlice ty l c =>
    unfold p_makeSlice at hp; split at hp
    · unfold makeSliceV at hp; split at hp
      · split at hp
        · dsimp only at hp
          split at hp
          · cases hp
          · exact newC_mono hp
        · cases hp
      · cases hp
    · cases hp
  case slice ty x lo hi mx =>
    unfold p_slice at hp; split at hp
    · exact map_mono hp
    · cases hp
  case fieldAddr s x f =>
    unfold p_fieldAddr at hp; split at hp
    · split at hp
      · cases hp; exact .refl h
      · cases hp
    · cases hp
  case field s x f =>
    unfold p_field at hp; split at hp
    · exact map_mono hp
    · cases hp
  case indexAddr ty x i =>
    unfold p_indexAddr at hp; split at hp
    · exact map_mono hp
    · cases hp
  case index ty x i =>
    unfold p_index at hp; split at hp
    · exact map_mono hp
    · cases hp
  case lookup ty m k ok =>
    unfold p_lookup at hp; split at hp
    · exact map_mono hp
    · cases hp
  case mapEntry ty m k =>
    unfold p_mapEntry at hp; split at hp
    · unfold mapEntryV at hp; split at hp
      · split at hp
        · split at hp
          · rename_i hid _
            split at hp
            · cases hp; exact .set hid (by simp)
            · cases hp; exact .set hid (by simp)
            · cases hp
          · cases hp
        · cases hp
      · cases hp
    · cases hp
  case entryStore ty m s v =>
    unfold p_entryStore at hp; split at hp
    · refine mapH_mono (fun h' e => ?_) hp
      unfold entryStoreV at e; split at e
      · split at e
        · rename_i hid
          split at e
          · split at e
            · cases e; exact .set hid (by simp)
            · cases e
          · cases e
        · cases e
      · cases e
    · cases hp
  case extract x i =>
    unfold p_extract at hp; split at hp
    · exact map_mono hp
    · cases hp
  case call c =>
    unfold p_call at hp; split at hp
    · split at hp
      · exact builtinV_mono hp
      · cases hp
    · split at hp
      · unfold argsV at hp; split at hp
        · exact hC _ _ _ hp
        · cases hp
      · cases hp
    · cases hp
end

section
variable {P : Program} {ι : Mp} {t : List V} {a : Act} {h h' : Heap} {w : World}
theorem builtin_out (hr : Rel ι h w) {b : Builtin} {ts : List TypeId} {args : List V} {A : List Value} (hA : RVs ι args A) {r : V × Heap} (hp : builtinV P b ts args h = some r) (hf : Free ι h.length r.2.length) (ty : TypeId) (consts : Array Bool) :
    Out P (builtin b ts.toArray ty consts A.toArray) w ι h r.1 r.2 := by
  have conv : ∀ {s : Sem Value} {v : V} {h' : Heap}, OutB P s w ι h v h' → Out P (do pure (.value (← s))) w ι h v h' := fun ⟨κ, w', y, a, b, c⟩ => .val' ⟨κ, w', y, a, b, c⟩
  unfold builtinV at hp
  split at hp
  · rename_i st xt s x
    obtain ⟨S, A', rfl, hS, hA⟩ := RVs.head hA
    obtain ⟨X, A', rfl, hX, hA⟩ := RVs.head hA
    obtain rfl := hA.nil_inv
    exact conv (append_out (ty := ty) hr hS hX hp hf)
  · rename_i dt ts d x
    obtain ⟨S, A', rfl, hS, hA⟩ := RVs.head hA
    obtain ⟨X, A', rfl, hX, hA⟩ := RVs.head hA
    obtain rfl := hA.nil_inv
    exact conv (copy_out (ty := ty) (ts := ts) hr hS hX hp)
  · rename_i st x
    obtain ⟨X, A', rfl, hX, hA⟩ := RVs.head hA
    obtain rfl := hA.nil_inv
    exact conv (clear_out (ty := ty) hr hX hp)
  · rename_i st x
    obtain ⟨X, A', rfl, hX, hA⟩ := RVs.head hA
    obtain rfl := hA.nil_inv
    cases hq : lenB P st x h with
    | none => simp [hq] at hp
    | some v => simp [hq] at hp; subst hp; exact conv (len_out (ty := ty) hr hX hq)
  · rename_i st p n c
    obtain ⟨X, A', rfl, hX, hA⟩ := RVs.head hA
    obtain rfl := hA.nil_inv
    split at hp
    · rename_i e hu
      cases hp
      obtain ⟨B, c', rfl, _, hc⟩ := slice_inv hX
      have : c' = c := by rcases hc with q | q <;> cases q; rfl
      subst this
      exact conv (OutB.same hr ⟨.int .i64 c', by simp [Builtin.cap_, run_underlying hu, goInt], .int _ _⟩)
    · cases hp
  · rename_i x l
    cases hq : foldV max2V x l with
    | none => simp [hq] at hp
    | some v => simp [hq] at hp; subst hp; exact conv (max_out hr hA hq)
  · rename_i x l
    cases hq : foldV min2V x l with
    | none => simp [hq] at hp
    | some v => simp [hq] at hp; subst hp; exact conv (min_out hr hA hq)
  · rename_i st ts m k
    obtain ⟨S, A', rfl, hS, hA⟩ := RVs.head hA
    obtain ⟨X, A', rfl, hX, hA⟩ := RVs.head hA
    obtain rfl := hA.nil_inv
    exact conv (delete_out (ty := ty) (ts := ts) hr hS hX hp)
  · cases hp
theorem prim_out (hr : Rel ι h w) (ht : RVs ι t a.tmps.toList) {C : FuncId → List V → Heap → Option (V × Heap)} {o : Oper} (ho : isCall o = false) {r : V × Heap} (hp : primV P C o t h = some r) (hf : Free ι h.length r.2.length) : Out P (execOp a.eval o) w ι h r.1 r.2 := by
  obtain ⟨dst, op, ty, pos, after, guard⟩ := o
  cases op <;> simp only [primV] at hp <;> (try cases hp)
  case move x => exact move_out hr ht hp
  case assign x => exact move_out hr ht hp
  case pick c a b => exact pick_out hr ht hp
  case alloc e => exact alloc_out hr hp hf
  case box e x => exact box_out hr ht hp hf
  case build ty parts => exact build_out hr ht hp
  case buildSlice ty n parts => exact buildSlice_out hr ht hp hf
  case insert ty m k v => exact mapUpdate_out hr ht hp
  case mapUpdate ty m k v => exact mapUpdate_out hr ht hp
  case load ty x => exact load_out hr ht hp
  case store ty x y => exact store_out hr ht hp
  case nilCheck x => exact nilCheck_out hr ht rfl hp
  case binOp op ty x y yt => exact binOp_out hr ht hp
  case unOp op ty x => exact unOp_out hr ht hp
  case convert src dst x => exact convert_out hr ht hp hf
  case makeInterface ty x => exact makeInterface_out hr ht hp
  case makeFunc fn first captured =>
    cases fn <;> simp only at hp <;> (try cases hp)
    exact makeFunc_out hr ht hp
  case makeMap ty r' =>
    cases r' <;> simp only at hp <;> (try cases hp)
    exact makeMap_out hr hp hf
  case makeSlice ty l c => exact makeSlice_out hr ht hp hf
  case slice ty x lo hi mx => exact slice_out hr ht hp
  case fieldAddr s x f => exact fieldAddr_out hr ht hp
  case field s x f => exact field_out hr ht hp
  case indexAddr ty x i => exact indexAddr_out hr ht hp
  case index ty x i => exact index_out hr ht hp
  case lookup ty m k ok => exact lookup_out hr ht hp
  case mapEntry ty m k => exact mapEntry_out hr ht hp
  case entryStore ty m s v => exact entryStore_out hr ht hp
  case extract x i => exact extract_out hr ht hp
  case call c =>
    unfold p_call at hp
    split at hp
    · rename_i b hb
      split at hp
      · rename_i args hargs
        have hA := evs_rv ht hargs
        have := builtin_out hr hA hp hf ty (c.args.map fun | .const _ => true | _ => false)
        have e : execOp a.eval ⟨dst, .call c, ty, pos, after, guard⟩ = builtin b c.argTypes ty (c.args.map fun | .const _ => true | _ => false) (c.args.map a.eval) := by
          simp only [execOp, resolve, hb]
          rfl
        rw [e]
        have e2 : (c.args.toList.map a.eval).toArray = c.args.map a.eval := by apply Array.toList_inj.1; rw [Array.toList_map]
        rw [e2] at this
        simpa using this
      · cases hp
    · rename_i f hb
      simp [isCall, hb] at ho
    · cases hp
end
end Go.Proofs.YtcaolnmpldbkjaaGreatA
