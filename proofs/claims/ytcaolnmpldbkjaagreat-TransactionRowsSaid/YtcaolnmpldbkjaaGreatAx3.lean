/- Words of this session: loads, stores, new blocks, numbers and equality of the second reading hold of the model. -/
import Derived.Test.YtcaolnmpldbkjaaGreatAx2
namespace Go.Proofs.YtcaolnmpldbkjaaGreatA
open Go Go.RowKit
set_option linter.unusedVariables false
set_option linter.unusedSimpArgs false

theorem splice_get {α : Type} (cs : List α) (off : Nat) (vs : List α) (h : off + vs.length ≤ cs.length) (i : Nat) :
    (cs.take off ++ vs ++ cs.drop (off + vs.length))[i]? = if off ≤ i ∧ i < off + vs.length then vs[i - off]? else cs[i]? := by
  have h1 : (cs.take off).length = off := by simp; omega
  by_cases a : i < off
  · rw [if_neg (by omega), List.append_assoc, List.getElem?_append_left (by omega), List.getElem?_take, if_pos a]
  · by_cases b : i < off + vs.length
    · rw [if_pos ⟨by omega, b⟩, List.append_assoc, List.getElem?_append_right (by omega), h1, List.getElem?_append_left (by omega)]
    · rw [if_neg (by omega), List.getElem?_append_right (by simp; omega), List.getElem?_drop]
      congr 1
      simp; omega
theorem splice_length {α : Type} (cs : List α) (off : Nat) (vs : List α) (h : off + vs.length ≤ cs.length) : (cs.take off ++ vs ++ cs.drop (off + vs.length)).length = cs.length := by simp; omega
theorem set_self {α : Type} (l : List α) (i : Nat) (a : α) (h : l[i]? = some a) : l.set i a = l := by
  apply List.ext_getElem?
  intro j
  by_cases e : i = j
  · subst e
    rw [List.getElem?_set_self (List.getElem?_eq_some_iff.1 h).1, h]
  · rw [List.getElem?_set_ne e]

theorem storeN_run {P : Program} {ι : Mp} {h h' : Heap} {w : World} (hr : Rel ι h w) {id off : Nat} {vs : List V} (hs : storeN h id off vs = some h') {pl : Pl} (hi : ι id = some pl) {cs : List Value} (hv : RVs ι vs cs) :
    ∃ w', (storeCells ⟨pl.blk, pl.off + off, none⟩ cs).run P w = .ok () w' ∧ Stp ι h w ι h' w' := by
  unfold storeN at hs
  split at hs
  · rename_i cells k hc
    split at hs
    · rename_i hcond
      obtain ⟨hk, hle, hlf⟩ := hcond
      simp only [forceL_eq, setK_eq, Option.some.injEq] at hs
      subst hs
      obtain ⟨C, E, fz, h1, h2, h3, h4⟩ := hr.ok id pl _ hi hc
      cases vs with
      | nil =>
        obtain rfl := hv.nil_inv
        refine ⟨w, rfl, ?_⟩
        have : splice cells off [] = cells := by simp [splice]
        rw [this, set_self _ _ _ hc]
        exact .refl hr
      | cons v0 vs0 =>
        generalize hvs : v0 :: vs0 = vs at *
        have hpos : 0 < vs.length := by subst hvs; simp
        have hCl : pl.off + off + vs.length ≤ C.size := by
          obtain ⟨_, c, hc', _⟩ := h2 (off + vs.length - 1) (cells[off + vs.length - 1]'(by omega)) (List.getElem?_eq_getElem _)
          have := (Array.getElem?_eq_some_iff.1 hc').1
          omega
        have h1c : ∀ u ∈ cs, u.oneCell' = true := by
          intro u hu
          obtain ⟨i, hi1, hi2⟩ := List.getElem_of_mem hu
          have hiv : i < vs.length := by rw [hv.1]; exact hi1
          have hlf' : vs[i].leaf = true := List.all_eq_true.1 hlf _ (List.getElem_mem hiv)
          exact (hv.2 i vs[i] u (List.getElem?_eq_getElem hiv) (by rw [← hi2]; exact List.getElem?_eq_getElem hi1)).leaf_one hlf'
        have hrun := run_storeCells_fz P pl.blk (pl.off + off) E fz cs 0 C w h1 ((h3 hk).imp_right And.left) (by rw [← hv.1]; omega) h1c
        rw [Nat.add_zero] at hrun
        refine ⟨_, hrun, ?_⟩
        have hblt : pl.blk < w.heap.size := (Array.getElem?_eq_some_iff.1 h1).1
        refine Stp.upd hr hi hc (by cases k <;> first | rfl | exact absurd rfl hk) ?_
        have hCl2 : pl.off + off + cs.length ≤ C.toList.length := by rw [← hv.1]; simpa using hCl
        refine ⟨_, E, fz, Array.getElem?_setIfInBounds_self_of_lt hblt, ?_, ?_, h4.1, ?_⟩
        · intro i v hv'
          unfold splice at hv'
          rw [splice_get _ _ _ hle] at hv'
          rw [List.getElem?_toArray, splice_get _ _ _ hCl2]
          split at hv'
          · rename_i hin
            rw [if_pos ⟨by omega, by rw [← hv.1]; omega⟩]
            obtain ⟨c, hc1, hc2⟩ := hv.get hv'
            have hmem : v ∈ vs := List.mem_of_getElem? hv'
            exact ⟨List.all_eq_true.1 hlf _ hmem, c, by rw [show pl.off + i - (pl.off + off) = i - off by omega]; exact hc1, hc2⟩
          · rename_i hin
            rw [if_neg (by rw [← hv.1]; omega)]
            simpa using h2 i v hv'
        · intro hk'
          rcases h3 hk with e | e
          · exact .inl e
          · right
            rw [List.size_toArray, splice_length _ _ _ hCl2]
            exact ⟨by simpa using e.1, e.2⟩
        · intro e hg
          obtain ⟨p1, p2, p3, q3⟩ := h4.2 e hg
          have hsl : (splice cells off vs).length = cells.length := by unfold splice; exact splice_length _ _ _ hle
          refine ⟨p1, p2, by rw [List.size_toArray, splice_length _ _ _ hCl2]; simpa using p3, fun j hj hlt => ?_⟩
          rw [hsl] at hj
          obtain ⟨v, c, hl, hc1, hc2⟩ := q3 j hj hlt
          refine ⟨v, c, hl, ?_, hc2⟩
          rw [List.getElem?_toArray, splice_get _ _ _ hCl2, if_neg (by rw [← hv.1]; omega)]
          simpa using hc1
    · cases hs
  · cases hs

def Kd.sz : Kd → Nat
  | .gr e => e
  | _ => 0
theorem newC_run {ι : Mp} {h : Heap} {w : World} (hr : Rel ι h w) (hf : ι h.length = none) (cs : List V) (k : Kd) (hk : k ≠ .ro) (C : Array Value) (E : TypeId) (fz : Nat × Nat) (hfz : fz.1 = fz.2 ∨ (C.size ≤ fz.1 ∧ k ≠ .rw))
    (hcs : ∀ (i : Nat) (v : V), cs[i]? = some v → v.leaf = true ∧ ∃ c, C[i]? = some c ∧ RV ι v c) (hz : ∀ e, k = .gr e → Spare cs.length 0 C.size C) :
    Stp ι h w (ext ι h.length ⟨w.heap.size, 0, C.size, k.sz, true⟩) (h ++ [.cells cs k]) (w.alloc (.cells C E fz)) := by
  refine Stp.new hr hf _ _ _ rfl ⟨C, E, fz, heap_alloc_new w _, ?_, fun _ => hfz, fun e => absurd e hk, fun e he => ⟨rfl, by subst he; rfl, by simp, hz e he⟩⟩
  intro i v hv
  obtain ⟨a, c, b, d⟩ := hcs i v hv
  exact ⟨a, c, by simpa using b, d.mono (ext_sub hf)⟩

/-! ### tables -/
theorem szT_run {P : Program} {t : TypeId} {n : Nat} (h : szT P t = some n) (w : World) : (sizeOf t).run P w = .ok n w := by
  unfold szT at h
  cases hq : P.info? t with
  | none => simp [hq] at h
  | some i => simp [hq] at h; simp [sizeOf, typeInfo, hq, h]
theorem byT_run {P : Program} {t : TypeId} {n : Nat} (h : byT P t = some n) (w : World) : ∃ i, P.info? t = some i ∧ i.bytes = n := by
  unfold byT at h
  cases hq : P.info? t with
  | none => simp [hq] at h
  | some i => simp [hq] at h; exact ⟨i, rfl, h⟩
theorem under_run {P : Program} {t : TypeId} {d : TypeDesc} (h : P.underlying t = some d) (w : World) : (underlying t).run P w = .ok d w := run_underlying h w
theorem aggT_run {P : Program} {t : TypeId} {b : Bool} (h : aggT P t = some b) (w : World) : (isAgg t).run P w = .ok b w := by
  unfold aggT at h
  cases hq : P.underlying t with
  | none => simp [hq] at h
  | some d =>
    simp [hq] at h
    subst h
    simp only [isAgg, Sem.run_bind, under_run hq, Result.andThen_ok]
    cases d <;> rfl
theorem leafV_rv {ι : Mp} {v : Value} {x : V} (h : leafV v = some x) : RV ι x v := by
  unfold leafV at h
  split at h <;> cases h
  · exact .bool _
  · exact .int _ _
  · exact .str _ _ rfl
  · exact .ptrN
  · exact .sliceN
  · exact .mapN
  · exact .nilFunc
  · exact .nilIface
theorem leavesV_rv {ι : Mp} : ∀ {vs : List Value} {xs : List V}, leavesV vs = some xs → RVs ι xs vs
  | [], xs, h => by cases h; exact .nil ι
  | v :: vs, xs, h => by
    unfold leavesV at h
    split at h
    · rename_i x xs' h1 h2
      cases h
      exact .cons (leafV_rv h1) (leavesV_rv h2)
    · cases h
theorem constV_rv {ι : Mp} {v : Value} {x : V} (h : constV v = some x) : RV ι x v := by
  unfold constV at h
  split at h
  · rename_i cs
    cases hq : leavesV cs.toList with
    | none => simp [hq] at h
    | some xs =>
      simp [hq] at h; subst h
      have := leavesV_rv (ι := ι) hq
      exact .agg _ _ (by simpa using this.1) fun i v c a b => this.2 i v c a (by simpa using b)
  · rename_i cs
    cases hq : leavesV cs.toList with
    | none => simp [hq] at h
    | some xs =>
      simp [hq] at h; subst h
      have := leavesV_rv (ι := ι) hq
      exact .tuple _ _ (by simpa using this.1) fun i v c a b => this.2 i v c a (by simpa using b)
  · exact leafV_rv h
theorem zeroT_run {P : Program} {t : TypeId} {z : V} (h : zeroT P t = some z) (ι : Mp) : ∃ i zv, P.info? t = some i ∧ i.zero = some zv ∧ RV ι z zv ∧ ∀ w, (zeroValue t).run P w = .ok zv w := by
  unfold zeroT at h
  cases hq : P.info? t with
  | none => simp [hq] at h
  | some i =>
    cases hz : i.zero with
    | none => simp [hq, hz] at h
    | some zv =>
      simp [hq, hz] at h
      exact ⟨i, zv, rfl, hz, constV_rv h, fun w => by simp [zeroValue, typeInfo, hq, hz]⟩
theorem zerosT_run {P : Program} {t : TypeId} {z : List V} (h : zerosT P t = some z) (ι : Mp) : ∃ i zv, P.info? t = some i ∧ i.zero = some zv ∧ RVs ι z zv.cells.toList ∧ z.length = i.size ∧ (∀ v ∈ z, v.leaf = true) ∧ ∀ w, (zeroValue t).run P w = .ok zv w := by
  unfold zerosT at h
  split at h
  · rename_i z' n h1 h2
    split at h
    · rename_i hc
      cases h
      obtain ⟨i, zv, a, b, c, d⟩ := zeroT_run h1 ι
      refine ⟨i, zv, a, b, c.flat, ?_, fun v hv => List.all_eq_true.1 hc.2 v hv, d⟩
      rw [hc.1]
      simp [szT, a] at h2
      exact h2.symm
    · cases h
  · cases h

end Go.Proofs.YtcaolnmpldbkjaaGreatA
