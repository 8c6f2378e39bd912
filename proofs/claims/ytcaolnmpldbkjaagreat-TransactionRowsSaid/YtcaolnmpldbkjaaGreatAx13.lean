/- Words of this session: each operation of the second reading looks at, and turns, the blocks that are named for it alone. -/
import Derived.Test.YtcaolnmpldbkjaaGreatAx12
namespace Go.Proofs.YtcaolnmpldbkjaaGreatA
open Go Go.RowKit
set_option linter.unusedVariables false
set_option linter.unusedSimpArgs false
section
variable {N M : List Nat} {P : Program}
theorem LocF.of_eq {F G : Heap → Option (V × Heap)} (h : LocF G N M) (e : ∀ h, F h = G h) : LocF F N M := by
  have : F = G := funext e
  rw [this]; exact h
theorem firstV_congr {size n : Nat} {x : V} {g h : Heap} (hg : ∀ id ∈ idsOf (some x), g[id]? = h[id]?) : firstV size n g x = firstV size n h x := by
  unfold firstV
  split
  · rename_i id off _ _; exact loadN_congr (hg id (by simp [idsOf])) _ _
  · rfl
  · rfl
  · rfl
theorem loadV_congr {ty : TypeId} {id off : Nat} {g h : Heap} (e : g[id]? = h[id]?) : loadV P ty g id off = loadV P ty h id off := by
  unfold loadV
  split
  · rw [loadN_congr e]
  · rw [loadN_congr e]
  · rfl
theorem LocF.newC (cs : List V) (k : Kd) (f : Nat → V) : LocF (fun h => newC h cs k (f h.length)) N M := (LocF.push (.cells cs k) f).of_eq fun h => by simp
/-- What is read first decides. -/
theorem LocF.bind {α : Type} {f : Heap → α} (hf : ∀ g h : Heap, (∀ id : Nat, id ∈ N ∨ id ∈ M → g[id]? = h[id]?) → f g = f h) {F : α → Heap → Option (V × Heap)} (hF : ∀ x, LocF (F x) N M) : LocF (fun h => F (f h) h) N M := by
  intro h v h' q
  obtain ⟨a, b⟩ := hF (f h) h v h' q
  refine ⟨a, fun g hl hg => ?_⟩
  show ∃ g', F (f g) g = some (v, g') ∧ _
  rw [hf g h hg]
  exact b g hl hg
theorem LocF.weak {N' M' : List Nat} {F : Heap → Option (V × Heap)} (h : LocF F N' M') (hN : ∀ id, id ∈ N' ∨ id ∈ M' → id ∈ N ∨ id ∈ M) (hM : ∀ id, id ∈ M' → id ∈ M) : True := trivial

theorem append_loc {st xt : TypeId} {s x : V} (hN : ∀ id, id ∈ (touchApp s x).1 → id ∈ N ∨ id ∈ M) (hM : ∀ id, id ∈ (touchApp s x).2 → id ∈ M) : LocF (fun h => appendV P st xt s x h) N M := by
  unfold appendV
  split
  · rename_i e p len cap _ _
    split
    · rename_i size bytes z n _ _ _ hln
      by_cases h0 : n = 0
      · simp only [h0, if_true]; exact (LocF.const (some (.slice p len cap))).of_eq fun h => rfl
      · simp only [h0, if_false]
        have hx : ∀ id, id ∈ idsOf (some x) → id ∈ N ∨ id ∈ M := fun id hid => hN id (by
          simp only [touchApp, hln, h0, if_false]
          cases p with
          | none => exact hid
          | some q => obtain ⟨i, o⟩ := q; cases cap with
            | none => exact hid
            | some c => simp only; split
                        · exact hid
                        · exact List.mem_cons_of_mem _ hid)
        refine LocF.bind (f := fun h => firstV size n h x) (F := fun o h => match o with
          | none => none
          | some new => appRest h size bytes p len cap n new) (fun g h hg => firstV_congr fun id hid => hg id (hx id hid)) fun o => ?_
        cases o with
        | none => exact .none
        | some new =>
          simp only
          unfold appRest
          refine .if .none ?_
          cases cap with
          | some c =>
            simp only
            by_cases hc : len + n ≤ c
            · simp only [hc, if_true]
              cases p with
              | none => exact .none
              | some q =>
                obtain ⟨id, off⟩ := q
                refine .store (hM id ?_) _ _ _
                simp [touchApp, hln, h0, hc]
            · simp only [hc, if_false]
              unfold growV
              refine .if .none ?_
              refine LocF.bind (f := fun h => firstV size len h (.slice p len (some c))) (F := fun o h => match o with
                | some old => if old.all V.leaf then newC h (old ++ new) (.gr size) (.slice (some (h.length, 0)) (len + n) none) else none
                | none => none) (fun g h hg => firstV_congr fun id hid => hg id ?_) fun o => ?_
              · cases p with
                | none => simp [idsOf] at hid
                | some q =>
                  obtain ⟨i, off⟩ := q
                  simp [idsOf] at hid
                  subst hid
                  exact hN id (by simp [touchApp, hln, h0, hc])
              · cases o with
                | none => exact .none
                | some old => exact .if (.newC _ _ fun m => .slice (some (m, 0)) (len + n) none) .none
          | none =>
            cases p with
            | none => exact .none
            | some q =>
              obtain ⟨id, off⟩ := q
              have hid : id ∈ M := hM id (by simp [touchApp, hln, h0])
              simp only
              unfold ontoV
              refine .if .none ?_
              refine LocF.bind (f := fun h => (h[id]?, loadN h id off (len * size))) (F := fun o h => match o.1, o.2 with
                | some (.cells cs (.gr e)), some old => if off + len * size = cs.length ∧ old.all V.leaf = true ∧ e = size then newC (h.set id .dead) (old ++ new) (.gr size) (.slice (some (h.length, 0)) (len + n) none) else none
                | _, _ => none) (fun g h hg => by simp only [hg id (.inr hid), loadN_congr (hg id (.inr hid))]) fun o => ?_
              obtain ⟨o1, o2⟩ := o
              simp only
              split
              · rename_i cs eg old
                exact .if ((LocF.setPush hid .dead (.cells (old ++ new) (.gr size)) fun m => .slice (some (m, 0)) (len + n) none).of_eq fun h => by simp) .none
              · exact .none
    · exact .none
  · rename_i e p len c _ _
    unfold appendZ
    split
    · rename_i k0 kx l size bytes z _ _ _ _
      refine .if .none ?_
      unfold growV
      refine .if .none ?_
      refine LocF.bind (f := fun h => firstV size len h (.slice p len (some c))) (F := fun o h => match o with
        | some old => if old.all V.leaf then newC h (old ++ reps (IntKind.i64.wrap l).toNat z) (.gr size) (.slice (some (h.length, 0)) (len + (IntKind.i64.wrap l).toNat) none) else none
        | none => none) (fun g h hg => firstV_congr fun id hid => hg id (hN id (by simpa [touchApp, lenV] using hid))) fun o => ?_
      cases o with
      | none => exact .none
      | some old => exact .if (.newC _ _ fun m => .slice (some (m, 0)) (len + (IntKind.i64.wrap l).toNat) none) .none
    · exact .none
  · exact .none
theorem mapUpdate_loc {ty : TypeId} {m k v u : V} (hM : ∀ id, id ∈ mapId (some m) → id ∈ M) : LocF (fun h => (mapUpdateV P ty m k v h).map fun h' => (u, h')) N M := by
  unfold mapUpdateV
  split
  · rename_i kt et id _
    have hid : id ∈ M := hM id (by simp [mapId])
    by_cases hk : keyOk P kt k = true
    · simp only [hk, if_true]
      refine (LocF.at (.inr hid) (F := fun o h => match o with
        | some (.map es clock) => match findV k es 0 with
          | some (some (i, _, b)) => some (u, h.set id (.map (es.set i (k, v, b)) clock))
          | some none => some (u, h.set id (.map (es ++ [(k, v, clock)]) (clock + 1)))
          | none => none
        | _ => none) fun o => ?_).of_eq fun h => ?_
      · cases o with
        | none => exact .none
        | some o => cases o with
          | dead => exact .none
          | cells cs k => exact .none
          | map es cl =>
            simp only
            split
            · exact .set hid _ _
            · exact .set hid _ _
            · exact .none
      · cases hq : h[id]? with
        | none => rfl
        | some o => cases o with
          | dead => rfl
          | cells cs k => rfl
          | map es cl => simp only; cases findV k es 0 with
            | none => rfl
            | some r => cases r with
              | none => rfl
              | some q => rfl
    · have hk' : keyOk P kt k = false := by simpa using hk
      simp only [hk', Bool.false_eq_true, if_false]
      exact LocF.none.of_eq fun h => rfl
  · exact LocF.none.of_eq fun h => rfl
theorem builtin_loc {b : Builtin} {ts : List TypeId} {args : List V} (hN : ∀ id, id ∈ (touchB b (some args)).1 → id ∈ N ∨ id ∈ M) (hM : ∀ id, id ∈ (touchB b (some args)).2 → id ∈ M) : LocF (fun h => builtinV P b ts args h) N M := by
  unfold builtinV
  split
  · exact append_loc hN hM
  · rename_i dt ts d x
    unfold copyV
    split
    · rename_i e p dlen cap xl _ _
      split
      · rename_i size _
        refine LocF.bind (f := fun h => firstV size (Nat.min xl dlen) h x) (F := fun o h => match o with
          | some cs => match (generalizing := false) p with
            | some (id, off) => if cs = [] then some (.int .i64 (Nat.min xl dlen), h) else (storeN h id off cs).map fun h' => (.int .i64 (Nat.min xl dlen), h')
            | none => some (.int .i64 (Nat.min xl dlen), h)
          | none => none) (fun g h hg => firstV_congr fun id hid => hg id (hN id hid)) fun o => ?_
        cases o with
        | none => exact .none
        | some cs =>
          cases p with
          | none => exact .const (some _)
          | some q =>
            obtain ⟨id, off⟩ := q
            exact .if (.const (some _)) (.store (hM id (by simp [touchB, idsOf])) _ _ _)
      · exact .none
    · exact .none
  · rename_i st x
    unfold clearV
    split
    · rename_i e p n cap _
      refine .if (.const (some _)) ?_
      split
      · rename_i z id off _; exact .store (hM id (by simp [touchB, idsOf])) _ _ _
      · exact .none
    · exact .none
  · rename_i st x
    refine .read fun g h hl hg => ?_
    unfold lenB
    split
    · rfl
    · rfl
    · rfl
    · rename_i id _; rw [hg id (hN id (by simp [touchB, mapId]))]
    · rfl
    · rfl
  · split
    · exact .const (some _)
    · exact .none
  · exact .const _
  · exact .const _
  · rename_i st ts m k
    unfold deleteV
    split
    · exact .if (.const (some _)) .none
    · rename_i kt et id _
      have hid : id ∈ M := hM id (by simp [touchB, mapId])
      refine .if ?_ .none
      refine LocF.at (.inr hid) (F := fun o h => match o with
        | some (.map es clock) => match findV k es 0 with
          | some (some (i, _, _)) => some (.tuple [], h.set id (.map (es.eraseIdx i) clock))
          | some none => some (.tuple [], h.set id (.map es clock))
          | none => none
        | _ => none) fun o => ?_
      cases o with
      | none => exact .none
      | some o => cases o with
        | dead => exact .none
        | cells cs k => exact .none
        | map es cl =>
          simp only
          split
          · exact .set hid _ _
          · exact .set hid _ _
          · exact .none
    · exact .none
  · exact .none
theorem prim_loc {C : CallF} {o : Oper} (ho : isCall o = false) {t : List V} : LocF (fun h => primV P C o t h) (touchV o t).1 (touchV o t).2 := by
  obtain ⟨dst, op, ty, pos, after, guard⟩ := o
  cases op <;> simp only [primV, touchV] <;> (try exact .none)
  case move x => exact .const _
  case assign x => exact .const _
  case pick c a b =>
    unfold p_pick; split
    · exact .const _
    · exact .const _
    · exact .none
  case alloc e =>
    unfold p_alloc
    cases zerosT P e with
    | none => exact LocF.none.of_eq fun h => rfl
    | some z => exact (LocF.newC z .rw fun m => .ptr (some (m, 0))).of_eq fun h => rfl
  case box e x =>
    unfold p_box; split
    · exact .if (.newC _ _ fun m => .ptr (some (m, 0))) .none
    · exact .none
  case build ty parts =>
    unfold p_build; split
    · exact .const _
    · exact .none
  case buildSlice ty n parts =>
    unfold p_buildSlice; split
    · rename_i l hl0
      unfold buildSliceV; split
      · split
        · refine .if .none ?_
          rename_i z sz _ _
          cases fillV (fun i => some (i * sz, sz)) (reps n z) l with
          | none => exact LocF.none.of_eq fun h => rfl
          | some cs => exact (LocF.newC cs .rw fun m => .slice (some (m, 0)) n (some n)).of_eq fun h => rfl
        · exact .none
      · exact .none
    · exact .none
  case insert ty m k v =>
    unfold p_mapUpdate; split
    · rename_i a b c hm _ _; exact mapUpdate_loc fun id hid => by rw [hm]; exact hid
    · exact .none
  case mapUpdate ty m k v =>
    unfold p_mapUpdate; split
    · rename_i a b c hm _ _; exact mapUpdate_loc fun id hid => by rw [hm]; exact hid
    · exact .none
  case load ty x =>
    unfold p_load; split
    · rename_i id off hx
      exact .read fun g h hl hg => loadV_congr (hg id (.inl (by rw [hx]; simp [idsOf])))
    · exact .none
  case store ty x y =>
    unfold p_store; split
    · rename_i id off v hx hy
      unfold storeV; split
      · split
        · exact .store (by rw [hx]; simp [idsOf]) _ _ _
        · exact LocF.none.of_eq fun h => rfl
      · exact LocF.none.of_eq fun h => rfl
    · exact .none
  case nilCheck x =>
    unfold p_nilCheck
    split
    · exact .none
    · exact .none
    · exact .none
    · exact .none
    · exact .const (some _)
  case binOp op ty x y yt =>
    unfold p_binOp; split
    · exact .const _
    · exact .none
  case unOp op ty x =>
    unfold p_unOp; split
    · exact .const _
    · exact .none
  case convert src dst x =>
    unfold p_convert; split
    · rename_i v hx
      have hin : ∀ id, id ∈ idsOf (some v) → id ∈ (if src = dst then ([], idsOf (ev t x)) else (idsOf (ev t x), [])).1 ∨ id ∈ (if src = dst then (([] : List Nat), idsOf (ev t x)) else (idsOf (ev t x), [])).2 := by
        intro id hid
        split
        · right; rw [hx]; exact hid
        · left; rw [hx]; exact hid
      unfold convV; split
      · exact .const (some _)
      · exact .const (some _)
      · split
        · rename_i s _ _ _ _; exact .newC _ _ fun m => .slice (some (m, 0)) s.length none
        · exact .none
      · split
        · exact .const (some _)
        · rename_i len c _ _ _ _ id off _
          refine LocF.bind (f := fun h => loadN h id off len) (F := fun o h => match o with
            | some cs => (bytesIn cs).map fun s => (.str s, h)
            | none => none) (fun g h hg => loadN_congr (hg id (hin id (by simp [idsOf]))) _ _) fun o => ?_
          cases o with
          | none => exact .none
          | some cs => exact (LocF.const ((bytesIn cs).map .str)).of_eq fun h => by show (bytesIn cs).map _ = _; cases bytesIn cs <;> rfl
        · exact .none
      · rename_i e1 e2 id off len c _ _
        refine LocF.bind (f := fun h => h[id]?) (F := fun o h => match src == dst && !(len == 0 && c == some 0), P.underlying e2, o with
          | true, some (.int .u8), some (.cells _ (.gr _)) => some (.slice (some (id, off)) len c, h)
          | true, some (.int .u8), some (.cells cs .rw) => match (generalizing := false) c with
            | some n => newC (h.set id .dead) cs .ro (.slice (some (h.length, off)) len (some n))
            | none => none
          | _, _, _ => none) (fun g h hg => hg id (hin id (by simp [idsOf]))) fun o => ?_
        split
        · exact .const (some _)
        · rename_i cs hsd _
          cases c with
          | none => exact .none
          | some n =>
            have hid : id ∈ (if src = dst then (([] : List Nat), idsOf (ev t x)) else (idsOf (ev t x), [])).2 := by
              have : src = dst := by
                simp only [Bool.and_eq_true, beq_iff_eq] at hsd; exact hsd.1
              rw [if_pos this, hx]; simp [idsOf]
            exact (LocF.setPush hid .dead (.cells cs .ro) fun m => .slice (some (m, off)) len (some n)).of_eq fun h => by simp
        · exact .none
      · exact .none
    · exact .none
  case makeInterface ty x =>
    unfold p_makeInterface; split
    · split
      · exact .none
      · exact .const (some _)
    · exact .none
  case makeFunc fn first captured =>
    cases fn <;> simp only <;> (try exact .none)
    unfold p_makeFunc; split
    · exact .const (some _)
    · exact .none
  case makeMap ty r' =>
    cases r' <;> simp only <;> (try exact .none)
    unfold p_makeMap
    exact (LocF.push (.map [] 0) fun m => .map (some m)).of_eq fun h => by simp
  case makeSlice ty l c =>
    unfold p_makeSlice; split
    · unfold makeSliceV; split
      · split
        · rename_i z _ _
          dsimp only
          exact .if .none (.newC _ _ fun m => .slice (some (m, 0)) _ _)
        · exact .none
      · exact .none
    · exact .none
  case slice ty x lo hi mx =>
    unfold p_slice; split
    · rename_i v a b c hx _ _ _
      refine .read fun g h hl hg => ?_
      unfold sliceOp; split
      · rfl
      · rename_i e p len cap _
        split
        · rename_i n _
          have hfit : fitsV g n p = fitsV h n p := by
            cases p with
            | none => rfl
            | some q => obtain ⟨id, off⟩ := q; simp only [fitsV, hg id (.inl (by rw [hx]; simp [idsOf]))]
          cases c with
          | some m => rfl
          | none => simp only [sliceV, hfit]
        · rfl
      · rename_i n e id off _
        split
        · cases c with
          | some m => rfl
          | none => rfl
        · rfl
      · rfl
    · exact .none
  case fieldAddr s x f =>
    unfold p_fieldAddr; split
    · split
      · exact .const (some _)
      · exact .none
    · exact .none
  case field s x f =>
    unfold p_field; split
    · exact .const _
    · exact .none
  case indexAddr ty x i =>
    unfold p_indexAddr; split
    · exact .const _
    · exact .none
  case index ty x i =>
    unfold p_index; split
    · exact .const _
    · exact .none
  case lookup ty m k ok =>
    unfold p_lookup; split
    · rename_i a b hm hk
      refine .read fun g h hl hg => ?_
      unfold lookupV
      split
      · split
        · cases a with
          | map q =>
            cases q with
            | none => rfl
            | some id => simp only [hg id (.inl (by rw [hm]; simp [mapId]))]
          | _ => rfl
        · rfl
      · rfl
    · exact .none
  case mapEntry ty m k =>
    unfold p_mapEntry; split
    · rename_i a b hm hk
      unfold mapEntryV; split
      · rename_i kt et id _
        have hid : id ∈ mapId (ev t m) := by rw [hm]; simp [mapId]
        refine .if ?_ .none
        refine LocF.at (id := id) (.inr hid) (F := fun o h => match o, zeroT P et with
          | some (.map es clock), some z => match findV b es 0 with
            | some (some (i, v, bb)) => some (.tuple [v, .int .i64 bb], h.set id (.map (es.set i (b, v, bb)) clock))
            | some none => some (.tuple [z, .int .i64 clock], h.set id (.map (es ++ [(b, z, clock)]) (clock + 1)))
            | none => none
          | _, _ => none) fun o => ?_
        split
        · split
          · exact .set hid _ _
          · exact .set hid _ _
          · exact .none
        · exact .none
      · exact .none
    · exact .none
  case entryStore ty m s v =>
    unfold p_entryStore; split
    · rename_i a b c hm hs hv
      unfold entryStoreV; split
      · rename_i id kk n
        have hid : id ∈ mapId (ev t m) := by rw [hm]; simp [mapId]
        refine (LocF.at (id := id) (.inr hid) (F := fun o h => match o with
          | some (.map es clock) => match es.findIdx? (fun e => (e.2.2 : Int) == n) with
            | some i => match es[i]? with
              | some (k, _, b) => some (undefV, h.set id (.map (es.set i (k, c, b)) clock))
              | none => none
            | none => none
          | _ => none) fun o => ?_).of_eq fun h => ?_
        · split
          · split
            · split
              · exact .set hid _ _
              · exact .none
            · exact .none
          · exact .none
        · cases hq : h[id]? with
          | none => rfl
          | some o => cases o with
            | dead => rfl
            | cells cs k => rfl
            | map es cl =>
              simp only
              cases hq1 : es.findIdx? (fun e => (e.2.2 : Int) == n) with
              | none => rfl
              | some i =>
                simp only
                cases hq2 : es[i]? with
                | none => rfl
                | some q => obtain ⟨k, v', b⟩ := q; rfl
      · exact LocF.none.of_eq fun h => rfl
    · exact .none
  case extract x i =>
    unfold p_extract; split
    · exact .const _
    · exact .none
  case call c =>
    unfold p_call
    split
    · rename_i b hb
      split
      · rename_i args hargs
        exact builtin_loc (fun id hid => .inl (by simpa [hb, hargs] using hid)) (fun id hid => by simpa [hb, hargs] using hid)
      · exact .none
    · rename_i f hb
      simp [isCall, hb] at ho
    · exact .none
end
end Go.Proofs.YtcaolnmpldbkjaaGreatA
