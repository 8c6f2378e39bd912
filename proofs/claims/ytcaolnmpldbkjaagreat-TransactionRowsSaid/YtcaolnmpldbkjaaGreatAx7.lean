/- Words of this session: making, building, and the builtins of the second reading hold of the model. -/
import Derived.Test.YtcaolnmpldbkjaaGreatAx6
import Derived.Laws.Tables
namespace Go.Proofs.YtcaolnmpldbkjaaGreatA
open Go Go.RowKit
set_option linter.unusedVariables false
set_option linter.unusedSimpArgs false

section
variable {P : Program} {ι : Mp} {t : List V} {a : Act} {h h' : Heap} {w : World}

/-! ### zeros -/
theorem reps_get {α : Type} (z : List α) : ∀ (n i : Nat), i < n * z.length → ((List.replicate n z).flatten)[i]? = z[i % z.length]?
  | 0, i, hi => by simp at hi
  | n + 1, i, hi => by
    rw [List.replicate_succ, List.flatten_cons]
    by_cases h : i < z.length
    · rw [List.getElem?_append_left h, Nat.mod_eq_of_lt h]
    · rw [List.getElem?_append_right (by omega), reps_get z n _ (by rw [Nat.add_mul] at hi; omega)]
      congr 1
      exact (Nat.mod_eq_sub_mod (by omega)).symm
theorem reps_length {α : Type} (z : List α) (n : Nat) : ((List.replicate n z).flatten).length = n * z.length := by simp
theorem reps_rv {z : List V} {Z : Array Value} (hz : RVs ι z Z.toList) (n : Nat) : RVs ι (reps n z) ((Array.range (n * Z.size)).map (Z[· % Z.size]!)).toList := by
  have hlen : z.length = Z.size := by simpa using hz.1
  refine ⟨by simp [reps, hlen], fun i v c hv hc => ?_⟩
  have hi : i < n * z.length := by
    have := (List.getElem?_eq_some_iff.1 hv).1
    simpa [reps] using this
  have hpos : 0 < z.length := by
    rcases Nat.eq_zero_or_pos z.length with h0 | h0
    · rw [h0] at hi; simp at hi
    · exact h0
  unfold reps at hv
  rw [reps_get z n i hi] at hv
  have hm : i % Z.size < Z.size := Nat.mod_lt _ (by omega)
  have hcc : c = Z[i % Z.size]! := by
    simp only [Array.toList_map, List.getElem?_map, Array.toList_range] at hc
    rw [List.getElem?_range (by rw [← hlen]; exact hi)] at hc
    simpa using hc.symm
  refine hz.2 (i % z.length) v c hv ?_
  rw [hcc, hlen, getElem!_pos Z _ hm]
  simp [hm]
theorem reps_leaf {z : List V} (hz : ∀ v ∈ z, v.leaf = true) (n : Nat) : ∀ v ∈ reps n z, v.leaf = true := by
  intro v hv
  simp only [reps, List.mem_flatten, List.mem_replicate] at hv
  obtain ⟨l, ⟨_, rfl⟩, hv⟩ := hv
  exact hz v hv

theorem makeSlice_out (hr : Rel ι h w) (ht : RVs ι t a.tmps.toList) {ty : TypeId} {x y : Operand} {r : V × Heap} (hp : p_makeSlice P t h ty x y = some r) (hf : Free ι h.length r.2.length) : Out P (do pure (.value (← Instr.makeSlice ty (a.eval x) (a.eval y)))) w ι h r.1 r.2 := by
  unfold p_makeSlice at hp
  split at hp
  · rename_i v u hx hy
    unfold makeSliceV at hp
    split at hp
    · rename_i e k1 len k2 cap he
      split at hp
      · rename_i bytes z hb hz
        dsimp only at hp
        split at hp
        · cases hp
        · rename_i hc
          have h1 := ev_rv ht hx
          have h2 := ev_rv ht hy
          generalize hX : a.eval x = X at h1
          generalize hY : a.eval y = Y at h2
          cases h1; cases h2
          have hu : P.underlying ty = some (.slice e) := by
            unfold elemT at he
            split at he
            · rename_i e' q; cases he; exact q
            · cases he
          obtain ⟨i, zv, hi, hzero, hrv, hlen, hlf, hrunz⟩ := zerosT_run hz ι
          obtain ⟨i', hi', hbi⟩ := byT_run hb w
          rw [hi] at hi'; cases hi'
          have hZ : zv.cells.size = i.size := by rw [← hlen]; have := hrv.1; simpa using this.symm
          generalize hl : IntKind.i64.wrap len = l at hc hp
          generalize hcp : IntKind.i64.wrap cap = c at hc hp
          have n1 : ¬ c < 0 := by omega
          have n2 : ¬ ((2:Int) ^ 48 < (i.bytes : Int) * c) := by rw [hbi]; omega
          have n3 : ¬ l < 0 := by omega
          have n4 : ¬ c < l := by omega
          let C : Array Value := (Array.range (c.toNat * zv.cells.size)).map (zv.cells[· % zv.cells.size]!)
          have hst := newC_out hr (by simp) hp hf C e (cells_of (reps_rv hrv _) (reps_leaf hlf _))
          refine .val' ⟨_, _, .slice (some ⟨w.heap.size, 0, none⟩) l.toNat c.toNat, ?_, ?_, hst⟩
          · simp only [show ((2:Int) ^ 48) = 281474976710656 by decide] at n2
            by_cases hn : c.toNat * i.size = 0
            · have hC : C = #[] := by simp only [C, hZ, hn, Array.range_zero', Array.map_empty]
              simp [Instr.makeSlice, run_underlying hu, asInt, asIntOf, typeInfo, hi, sizeOf, hl, hcp, n1, n2, n3, n4, hn, newRow, hC, Array.range_zero']
            · simp [Instr.makeSlice, run_underlying hu, asInt, asIntOf, typeInfo, hi, sizeOf, zeroValue, hzero, hl, hcp, n1, n2, n3, n4, hn, newRow, C, hZ]
          · simp at hp; subst hp
            exact .slice _ _ _ _ _ _ _ (ext_new _ _ _) (.inr ⟨rfl, rfl, rfl, by omega, .inr rfl⟩)
      · cases hp
    · cases hp
  · cases hp

/-! ### building -/
theorem foldl_set (off : Nat) : ∀ (vs : List Value) (k : Nat) (C : Array Value), off + k + vs.length ≤ C.size →
    ((vs.zipIdx k).foldl (fun cs p => cs.setIfInBounds (off + p.2) p.1) C).toList = C.toList.take (off + k) ++ vs ++ C.toList.drop (off + k + vs.length)
  | [], k, C, h => by simp
  | v :: vs, k, C, h => by
    simp only [List.zipIdx_cons, List.foldl_cons]
    simp only [List.length_cons] at h
    rw [foldl_set off vs (k + 1) _ (by simp; omega)]
    have e1 : off + (k + 1) = off + k + 1 := by omega
    rw [e1, Array.toList_setIfInBounds, List.drop_set_of_lt (by omega), List.take_succ_eq_append_getElem (by simp; omega)]
    simp [List.take_set_of_le (Nat.le_refl _), Nat.add_assoc, Nat.add_comm 1]
theorem splice_rv {cs vs : List V} {C U : List Value} (hc : RVs ι cs C) (hv : RVs ι vs U) (off : Nat) : RVs ι (splice cs off vs) (C.take off ++ U ++ C.drop (off + U.length)) := by
  unfold splice
  rw [hv.1]
  exact ((hc.take off).append hv).append (hc.drop _)
theorem fillV_run {p1 : Nat → Option (Nat × Nat)} {p2 : Nat → Option (Nat × Nat)} (hp12 : ∀ i r, p1 i = some r → p2 i = some r) : ∀ {parts : List (Nat × V)} {cells out : List V}, fillV p1 cells parts = some out → ∀ {C : Array Value}, RVs ι cells C.toList → (∀ v ∈ cells, v.leaf = true) →
    ∀ {PC : List (Nat × Value)}, parts.map (·.1) = PC.map (·.1) → RVs ι (parts.map (·.2)) (PC.map (·.2)) → ∃ D, Instr.fill p2 C PC = some D ∧ RVs ι out D.toList ∧ (∀ v ∈ out, v.leaf = true)
  | [], cells, out, hq, C, hC, hl, PC, h1, h2 => by
    cases hq
    cases PC with
    | nil => exact ⟨C, rfl, hC, hl⟩
    | cons p PC => simp at h1
  | (i, v) :: parts, cells, out, hq, C, hC, hl, PC, h1, h2 => by
    cases PC with
    | nil => simp at h1
    | cons p PC =>
      obtain ⟨j, u⟩ := p
      simp only [List.map_cons, List.cons.injEq] at h1
      obtain ⟨rfl, h1⟩ := h1
      simp only [List.map_cons] at h2
      obtain ⟨c', cs', e, hvu, h2⟩ := RVs.head h2
      cases e
      unfold fillV at hq
      split at hq
      · cases hq
      · rename_i off size hpl
        split at hq
        · cases hq
        · rename_i hcond
          have hfl := hvu.flat
          have hvl : v.flat.length = u.cells.size := by simpa using hfl.1
          have hCl : cells.length = C.size := by simpa using hC.1
          have g1 : v.flat.length = size := by omega
          have g2 : off + v.flat.length ≤ cells.length := by omega
          have g3 : v.flat.all V.leaf = true := by
            cases hb : v.flat.all V.leaf with
            | true => rfl
            | false => exact absurd (.inr (.inr hb)) hcond
          have hfold : (u.cells.zipIdx.foldl (fun cs (x : Value × Nat) => cs.setIfInBounds (off + x.2) x.1) C).toList = C.toList.take off ++ u.cells.toList ++ C.toList.drop (off + u.cells.toList.length) := by
            rw [← Array.foldl_toList, Array.toList_zipIdx]
            have := foldl_set off u.cells.toList 0 C (by simp; omega)
            simpa using this
          have hsp := splice_rv hC hfl off
          rw [← hfold] at hsp
          have hlsp : ∀ x ∈ splice cells off v.flat, x.leaf = true := by
            intro x hx
            simp only [splice, List.mem_append] at hx
            rcases hx with (hx | hx) | hx
            · exact hl x (List.mem_of_mem_take hx)
            · exact List.all_eq_true.1 g3 x hx
            · exact hl x (List.mem_of_mem_drop hx)
          obtain ⟨D, hD, hrest⟩ := fillV_run hp12 hq hsp hlsp h1 h2
          refine ⟨D, ?_, hrest⟩
          simp only [Instr.fill, hp12 _ _ hpl]
          rw [if_neg (by simp; omega)]
          exact hD
theorem places_run {fields : Array Field} (hall : fields.toList.all (fun f => (szT P f.type).isSome) = true) (w : World) :
    ∃ pl : Array (Nat × Nat), (fields.mapM fun f => do pure (f.offset, ← sizeOf f.type) : Sem (Array (Nat × Nat))).run P w = .ok pl w ∧ ∀ i r, places P fields.toList i = some r → pl[i]? = some r := by
  have key : ∀ fs : List Field, fs.all (fun f => (szT P f.type).isSome) = true → ∃ pl : List (Nat × Nat), (fs.mapM fun f => do pure (f.offset, ← sizeOf f.type) : Sem (List (Nat × Nat))).run P w = .ok pl w ∧ ∀ i r, places P fs i = some r → pl[i]? = some r := by
    intro fs
    induction fs with
    | nil => intro _; exact ⟨[], by simp, fun i r h => by simp [places] at h⟩
    | cons f fs ih =>
      intro hall
      simp only [List.all_cons, Bool.and_eq_true] at hall
      obtain ⟨pl, h1, h2⟩ := ih hall.2
      obtain ⟨n, hn⟩ := Option.isSome_iff_exists.1 hall.1
      refine ⟨(f.offset, n) :: pl, ?_, ?_⟩
      · rw [List.mapM_cons]
        simp only [Sem.run_bind, szT_run hn, Result.andThen_ok, Sem.run_pure, h1]
      · intro i r hi
        cases i with
        | zero => simp [places, hn] at hi; subst hi; rfl
        | succ i => simp only [List.getElem?_cons_succ]; exact h2 i r (by simpa [places] using hi)
  obtain ⟨pl, h1, h2⟩ := key fields.toList hall
  refine ⟨pl.toArray, ?_, fun i r h => by simpa using h2 i r h⟩
  rw [Array.mapM_eq_mapM_toList, Sem.run_map, h1]
  rfl
theorem agg_rv {cs : List V} {C : Array Value} (h : RVs ι cs C.toList) : RV ι (.agg cs) (.agg C) :=
  .agg _ _ (by simpa using h.1) fun i v c a b => h.2 i v c a (by simpa using b)
theorem build_out (hr : Rel ι h w) (ht : RVs ι t a.tmps.toList) {ty : TypeId} {parts : Array (Nat × Operand)} {r : V × Heap} (hp : p_build P t h ty parts = some r) :
    Out P (do pure (.value (← Instr.build ty (parts.map fun (i, x) => (i, a.eval x))))) w ι h r.1 r.2 := by
  unfold p_build at hp
  split at hp
  · rename_i l hl
    cases hq : buildV P ty l with
    | none => simp [hq] at hp
    | some v =>
      simp [hq] at hp; subst hp
      refine .val hr ?_
      obtain ⟨e1, e2⟩ := evParts_rv ht hl
      have hpc : (parts.map fun (x : Nat × Operand) => (x.1, a.eval x.2)).toList = parts.toList.map fun x => (x.1, a.eval x.2) := by simp
      have g1 : l.map (·.1) = (parts.toList.map fun x => (x.1, a.eval x.2)).map (·.1) := by rw [e1]; simp
      have g2 : RVs ι (l.map (·.2)) ((parts.toList.map fun x => (x.1, a.eval x.2)).map (·.2)) := by simpa [Function.comp_def] using e2
      unfold buildV at hq
      split at hq
      · rename_i z fields hz hu
        split at hq
        · rename_i hall
          cases hf : fillV (places P fields.toList) z l with
          | none => simp [hf] at hq
          | some out =>
            simp [hf] at hq; subst hq
            obtain ⟨i, zv, hi, hzero, hrv, hlen, hlf, hrunz⟩ := zerosT_run hz ι
            obtain ⟨pl, hpl, hpl2⟩ := places_run (P := P) hall w
            obtain ⟨D, hD, hrD, _⟩ := fillV_run hpl2 hf hrv hlf g1 g2
            refine ⟨.agg D, ?_, agg_rv hrD⟩
            simp only [Instr.build, Sem.run_bind, hrunz, Result.andThen_ok, under_run hu, hpl, hpc]
            rw [hD]; rfl
        · cases hq
      · rename_i z n e hz hu
        split at hq
        · rename_i sz hsz
          cases hf : fillV (fun i => some (i * sz, sz)) z l with
          | none => simp [hf] at hq
          | some out =>
            simp [hf] at hq; subst hq
            obtain ⟨i, zv, hi, hzero, hrv, hlen, hlf, hrunz⟩ := zerosT_run hz ι
            obtain ⟨D, hD, hrD, _⟩ := fillV_run (p2 := fun i => some (i * sz, sz)) (fun i r h => h) hf hrv hlf g1 g2
            refine ⟨.agg D, ?_, agg_rv hrD⟩
            simp only [Instr.build, Sem.run_bind, hrunz, Result.andThen_ok, under_run hu, szT_run hsz, hpc]
            rw [hD]; rfl
        · cases hq
      · cases hq
  · cases hp
theorem elemT_under {ty e : TypeId} (he : elemT P ty = some e) : P.underlying ty = some (.slice e) := by
  unfold elemT at he
  split at he
  · rename_i e' q; cases he; exact q
  · cases he
theorem buildSlice_out (hr : Rel ι h w) (ht : RVs ι t a.tmps.toList) {ty : TypeId} {n : Nat} {parts : Array (Nat × Operand)} {r : V × Heap} (hp : p_buildSlice P t h ty n parts = some r) (hf : Free ι h.length r.2.length) :
    Out P (do pure (.value (← Instr.buildSlice ty n (parts.map fun (i, x) => (i, a.eval x))))) w ι h r.1 r.2 := by
  unfold p_buildSlice at hp
  split at hp
  · rename_i l hl
    obtain ⟨e1, e2⟩ := evParts_rv ht hl
    have hpc : (parts.map fun (x : Nat × Operand) => (x.1, a.eval x.2)).toList = parts.toList.map fun x => (x.1, a.eval x.2) := by simp
    have g1 : l.map (·.1) = (parts.toList.map fun x => (x.1, a.eval x.2)).map (·.1) := by rw [e1]; simp
    have g2 : RVs ι (l.map (·.2)) ((parts.toList.map fun x => (x.1, a.eval x.2)).map (·.2)) := by simpa [Function.comp_def] using e2
    unfold buildSliceV at hp
    split at hp
    · rename_i e he
      have hu := elemT_under he
      split at hp
      · rename_i z sz hz hsz
        split at hp
        · cases hp
        · rename_i hbig
          cases hq : fillV (fun i => some (i * sz, sz)) (reps n z) l with
          | none => simp [hq] at hp
          | some out =>
            simp only [hq, Option.bind_some] at hp
            obtain ⟨i, zv, hi, hzero, hrv, hlen, hlf, hrunz⟩ := zerosT_run hz ι
            have hsi : i.size = sz := by simpa [szT, hi] using hsz
            have hZ : zv.cells.size = sz := by rw [← hsi, ← hlen]; have := hrv.1; simpa using this.symm
            obtain ⟨D, hD, hrD, hlD⟩ := fillV_run (p2 := fun i => some (i * sz, sz)) (fun i r h => h) hq (reps_rv hrv n) (reps_leaf hlf n) g1 g2
            have hst := newC_out hr (by simp) hp hf D e (cells_of hrD hlD)
            refine .val' ⟨_, _, .slice (some ⟨w.heap.size, 0, none⟩) n n, ?_, ?_, hst⟩
            · rw [hZ] at hD
              by_cases h0 : n * sz = 0
              · have hD' : Instr.fill (fun i => some (i * sz, sz)) #[] (parts.toList.map fun x => (x.1, a.eval x.2)) = some D := by
                  rw [h0] at hD
                  simpa [Array.range_zero'] using hD
                simp only [Instr.buildSlice, Sem.run_bind, under_run hu, Result.andThen_ok, szT_run hsz, h0, hpc]
                simp [Array.range_zero', hD', newRow]
              · simp only [Instr.buildSlice, Sem.run_bind, under_run hu, Result.andThen_ok, szT_run hsz, hpc]
                have hb : ¬ (n * sz > 2 ^ 24) := hbig
                simp [hb, h0, hrunz, newRow, hZ, hD]
            · simp at hp; subst hp
              exact .slice _ _ _ _ _ _ _ (ext_new _ _ _) (.inr ⟨rfl, rfl, rfl, Nat.le_refl _, .inr rfl⟩)
      · cases hp
    · cases hp
  · cases hp
end
end Go.Proofs.YtcaolnmpldbkjaaGreatA
