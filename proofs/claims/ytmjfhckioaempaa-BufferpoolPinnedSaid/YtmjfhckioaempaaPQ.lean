/- Words of this session: chapter 16: BufferpoolPinned. -/
import Derived.Test.YtmjfhckioaempaaPZ
import Derived.Test.YtmjfhckioaempaaAx42
namespace Go.Proofs.YtmjfhckioaempaaA
open Go Go.Proofs Go.RowKit
set_option linter.unusedVariables false
set_option linter.unusedSimpArgs false
set_option maxRecDepth 10000
set_option maxHeartbeats 4000000
/-! ### how often pages are pinned -/
theorem pinsOf_map {S S' : Bp} (h1 : S'.frames.map Fr.page = S.frames.map Fr.page) (h2 : S'.frames.map Fr.pins = S.frames.map Fr.pins) (k : Int) : pinsOf S' k = pinsOf S k := by
  unfold pinsOf
  rw [findF_map, h1, ← findF_map]
  cases findF k S.frames with
  | none => rfl
  | some i => simp only [← List.getElem?_map, h2]
theorem pinsOf_of {S : Bp} {N : Nat} (v : PIn S N) {k : Int} {i : Nat} (hi : i < S.frames.length) (hk : (S.frames[i]).page = k) (h0 : 0 ≤ k) : pinsOf S k = (S.frames[i]).pins := by
  obtain ⟨j, hj⟩ := findF_ex (page := k) h0 (List.getElem_mem hi) hk
  obtain ⟨hl, _, h1, _⟩ := findF_some hj
  have := v.dis j i hl hi (by rw [h1]; exact h0) (by rw [h1, hk])
  subst this
  exact pinsOf_at hj hl
theorem pinsOf_no {S : Bp} {k : Int} (h : ∀ f ∈ S.frames, f.page ≠ k) : pinsOf S k = 0 := by
  cases q : findF k S.frames with
  | none => unfold pinsOf; rw [q]
  | some i =>
    obtain ⟨hl, _, h1, _⟩ := findF_some q
    exact absurd h1 (h _ (List.getElem_mem hl))
theorem pinsOf_neg {S : Bp} {k : Int} (h : k < 0) : pinsOf S k = 0 := by
  cases q : findF k S.frames with
  | none => unfold pinsOf; rw [q]
  | some i => obtain ⟨_, h0, _, _⟩ := findF_some q; omega
theorem pinsOf_range {S : Bp} {N : Nat} (v : PIn S N) (k : Int) : 0 ≤ pinsOf S k ∧ pinsOf S k ≤ N := by
  cases q : findF k S.frames with
  | none =>
    have : pinsOf S k = 0 := by unfold pinsOf; rw [q]
    rw [this]; exact ⟨by omega, by omega⟩
  | some i =>
    obtain ⟨hl, _, _, _⟩ := findF_some q
    rw [pinsOf_at q hl]
    exact ⟨(v.fr i hl).1, (v.fr i hl).2.1⟩
theorem pinsOf_set {S S' : Bp} {i : Nat} (hi : i < S.frames.length) {f : Fr} (hf : S'.frames = S.frames.set i f) (hp : f.page = (S.frames[i]).page) (k : Int) : pinsOf S' k = if findF k S.frames = some i then f.pins else pinsOf S k := by
  have hm : S'.frames.map Fr.page = S.frames.map Fr.page := by rw [hf]; exact set_page hi hp
  have hff : findF k S'.frames = findF k S.frames := by rw [findF_map, hm, ← findF_map]
  cases q : findF k S.frames with
  | none =>
    rw [if_neg (by simp)]
    unfold pinsOf; rw [hff, q]
  | some j =>
    obtain ⟨hl, _⟩ := findF_some q
    have hl' : j < S'.frames.length := by rw [hf, List.length_set]; exact hl
    rw [pinsOf_at (hff.trans q) hl', pinsOf_at q hl]
    by_cases c : i = j
    · subst c; simp [hf]
    · rw [if_neg (by simp; exact Ne.symm c)]
      simp only [hf, List.getElem_set_ne c]
theorem fl_pins {S' : Bp} {e : Int} : ∀ {zs : List Int} {S : Bp}, FlR zs S S' e → ∀ k, pinsOf S' k = pinsOf S k
  | [], S, h, k => by obtain ⟨rfl, rfl⟩ := h; rfl
  | z :: zs, S, h, k => by
    obtain ⟨i, hi, off, D1, e1, h1, h2, wo, ⟨he, rfl, rfl⟩ | ⟨rfl, h3⟩⟩ := h
    · rfl
    · rw [fl_pins h3 k]
      refine (pinsOf_set (f := ?f) hi ?hf ?hp k).trans ?_
      case hf => rfl
      case hp => rfl
      split
      · rename_i q; rw [pinsOf_at q hi]
      · rfl
theorem up_pins {S S' : Bp} {page e : Int} {data : List Int} (u : UpR S page data S' e) (k : Int) : pinsOf S' k = pinsOf S k := by
  rcases u with ⟨h1, rfl, rfl⟩ | ⟨h1, h2, rfl, rfl⟩ | ⟨i, hi, h1, h2, rfl, p', c', rfl⟩
  · rfl
  · rfl
  · refine (pinsOf_set (f := ?f) hi ?hf ?hp k).trans ?_
    case hf => rfl
    case hp => rfl
    split
    · rename_i q; rw [pinsOf_at q hi]
    · rfl
theorem un_pins {S S' : Bp} {N : Nat} {page e : Int} (v : PIn S N) (u : UnR S page S' e) (k : Int) : pinsOf S' k = pinsOf S k - if e = 0 ∧ page = k then 1 else 0 := by
  rcases u with ⟨h1, rfl, rfl⟩ | ⟨i, hi, h2, rfl, rfl⟩
  · rw [if_neg (fun q => by have := q.1; omega)]; omega
  · obtain ⟨h3, _, hp⟩ := pinF_some h2
    refine (pinsOf_set (f := ?f) hi ?hf ?hp k).trans ?_
    case hf => rfl
    case hp => rfl
    by_cases c : page = k
    · subst c
      rw [if_pos h3, if_pos ⟨rfl, rfl⟩, pinsOf_at h3 hi]
    · rw [if_neg (c := _ ∧ _) (fun q => c q.2), if_neg]
      · omega
      · intro q
        obtain ⟨_, _, z, _⟩ := findF_some q
        obtain ⟨_, _, z2, _⟩ := findF_some h3
        exact c (by rw [← z, ← z2])
theorem pin_pins {S S' : Bp} {N : Nat} {page e : Int} {dd : List Int} (v : PIn S N) (hN : N + 1 ≤ 1000) (u : PinR S page S' e dd) (k : Int) : pinsOf S' k = pinsOf S k + if e = 0 ∧ page = k then 1 else 0 := by
  have v' := (pin_keeps v hN u).1
  rcases u with ⟨h1, rfl, rfl, rfl⟩ | ⟨h1, h2, i, hi, h3, rfl, rfl, rfl⟩ | ⟨n, rfl, h1, h2, r, rs, lo, h3⟩
  · rw [if_neg (fun q => by have := q.1; omega)]; omega
  · refine (pinsOf_set (f := ?f) hi ?hf ?hp k).trans ?_
    case hf => rfl
    case hp => rfl
    by_cases c : page = k
    · subst c
      rw [if_pos h3, if_pos ⟨rfl, rfl⟩, pinsOf_at h3 hi]
    · rw [if_neg (c := _ ∧ _) (fun q => c q.2), if_neg]
      · omega
      · intro q
        obtain ⟨_, _, z, _⟩ := findF_some q
        obtain ⟨_, _, z2, _⟩ := findF_some h3
        exact c (by rw [← z, ← z2])
  · have lk := (lo_keeps v hN h1 h2 lo).2.2.2.2
    have hn0 := findF_none h2 (by omega)
    rcases h3 with ⟨rfl, he, _⟩ | ⟨p, c, rfl, rfl⟩
    · rcases lk with ⟨_, hf, _⟩ | ⟨p, c, dd', z, _⟩
      · rw [if_neg (fun q => he q.1)]
        rw [pinsOf_map (S := S) (by rw [hf]) (by rw [hf])]; omega
      · cases z
    · rcases lk with ⟨z, _⟩ | ⟨p, c, dd', z, _, _, _, _, j, a, hnew, hvic⟩
      · cases z
      · have hjl : j < S'.frames.length := by rw [a.len]; exact a.jl
        by_cases c : (n : Int) = k
        · subst c
          rw [if_pos ⟨rfl, rfl⟩, pinsOf_of v' hjl (by rw [hnew]) (by omega), hnew, pinsOf_no fun f hf => hn0 f hf]; rfl
        · rw [if_neg (fun q => c q.2)]
          by_cases hk : k < 0
          · rw [pinsOf_neg hk, pinsOf_neg hk]; rfl
          by_cases hex : ∃ i, ∃ hi : i < S.frames.length, (S.frames[i]).page = k
          · obtain ⟨i, hi, hp⟩ := hex
            have hi' : i < S'.frames.length := by rw [a.len]; exact hi
            rw [pinsOf_of v hi hp (by omega)]
            by_cases hij : i = j
            · subst hij
              have hz : (S.frames[i]).pins = 0 := by
                rcases hvic with q | q
                · omega
                · exact q.2
              rw [hz, pinsOf_no]; rfl
              intro f hf
              obtain ⟨m, hm, rfl⟩ := List.getElem_of_mem hf
              have hm' : m < S.frames.length := by rw [← a.len]; exact hm
              by_cases hmi : m = i
              · subst hmi; rw [hnew]; exact c
              · rw [(a.eq m hm' hmi).1]
                exact fun q => hmi (v.dis m i hm' hi (by rw [q]; omega) (by rw [q, hp]))
            · have := a.eq i hi hij
              rw [pinsOf_of v' hi' (by rw [this.1, hp]) (by omega), this.2.2.1]; omega
          · have hno : ∀ f ∈ S.frames, f.page ≠ k := fun f hf q => by
              obtain ⟨i, hi, rfl⟩ := List.getElem_of_mem hf
              exact hex ⟨i, hi, q⟩
            rw [pinsOf_no hno, pinsOf_no]; rfl
            intro f hf
            obtain ⟨m, hm, rfl⟩ := List.getElem_of_mem hf
            have hm' : m < S.frames.length := by rw [← a.len]; exact hm
            by_cases hmi : m = j
            · subst hmi; rw [hnew]; exact c
            · rw [(a.eq m hm' hmi).1]
              exact hno _ (List.getElem_mem hm')
theorem call_pins {S S' : Bp} {N : Nat} {c : Cl} {e : Int} {dd : List Int} (v : PIn S N) (hN : N + 1 ≤ 1000) (cr : CallR S c S' e dd) (k : Int) :
    pinsOf S' k = pinsOf S k + (if c.kind = 0 ∧ e = 0 ∧ c.page = k then 1 else 0) - (if c.kind = 2 ∧ e = 0 ∧ c.page = k then 1 else 0) := by
  unfold CallR at cr
  by_cases c0 : c.kind = 0
  · rw [if_pos c0] at cr
    rw [pin_pins v hN cr k, if_neg (c := c.kind = 2 ∧ _) (fun q => by have := q.1; omega)]
    simp only [c0, true_and]; omega
  rw [if_neg c0] at cr
  rw [if_neg (c := c.kind = 0 ∧ _) (fun q => c0 q.1)]
  obtain ⟨_, cr⟩ := cr
  by_cases c2 : c.kind = 2
  · rw [if_neg (by omega), if_pos c2] at cr
    rw [un_pins v cr k]
    simp only [c2, true_and]; omega
  rw [if_neg (c := c.kind = 2 ∧ _) (fun q => c2 q.1)]
  suffices h : pinsOf S' k = pinsOf S k by rw [h]; omega
  by_cases c1 : c.kind = 1
  · rw [if_pos c1] at cr; exact up_pins cr k
  rw [if_neg c1, if_neg c2] at cr
  by_cases c3 : c.kind = 3
  · rw [if_pos c3] at cr
    obtain ⟨zs, _, _, fl⟩ := cr
    exact fl_pins fl k
  rw [if_neg c3] at cr
  by_cases c4 : c.kind = 4
  · rw [if_pos c4] at cr; obtain ⟨rfl, _⟩ := cr; rfl
  rw [if_neg c4] at cr
  by_cases c5 : c.kind = 5
  · rw [if_pos c5] at cr; obtain ⟨rfl, _⟩ := cr; rfl
  rw [if_neg c5] at cr
  by_cases c6 : c.kind = 6
  · rw [if_pos c6] at cr; exact up_pins cr k
  rw [if_neg c6] at cr; obtain ⟨rfl, _⟩ := cr; rfl
def encI (n : Int) : V := .int .i64 n
def encB (b : Bool) : V := .bool b
theorem MapP.kp {β : Type} {enc : β → V} {h1 h2 : Heap} {mb cl : Nat} {o1 o2 : Nat → Prop} {ms : List (Ge β)} (m : MapP enc h1 mb o1 ms cl) (k : Kp h1 h2 o1 o2) : MapP enc h2 mb o2 ms cl :=
  ⟨k.get m.blk m.no, m.ok, k.not (lt_of_some m.blk) m.no⟩
/-- The map of pins is right. -/
def Pns (S : Bp) (ms : List (Ge Int)) : Prop := ∀ k, (getG k ms).getD 0 = pinsOf S k
theorem Pns.put {S S' : Bp} {ms : List (Ge Int)} {cl : Nat} (g : GOk ms cl) (p : Pns S ms) {k v : Int} (h1 : pinsOf S' k = v) (h2 : ∀ k', k' ≠ k → pinsOf S' k' = pinsOf S k') : Pns S' (putG cl k v ms) := fun k' => by
  rw [getG_put g]
  by_cases c : k' = k
  · rw [if_pos c, c, h1]; rfl
  · rw [if_neg c, h2 k' c]; exact p k'
theorem lst_len (q : Fr → Bool) (fs : List Fr) : (lstP q fs).length ≤ fs.length := by
  unfold lstP
  rw [List.length_map]
  exact List.length_filter_le _ _
theorem Sl.neMapE {α : Type} {enc : α → List V} {h : Heap} {mb cl : Nat} {es : List (V × V × Nat)} (hm : h[mb]? = some (.map es cl)) {p : Option (Nat × Nat)} {ys : List α} (s : Sl h p 1 enc ys) : ∀ a o, p = some (a, o) → a ≠ mb := fun a o z e => by
  obtain ⟨C, k, h1, _⟩ := s.reads a o z
  rw [e, hm] at h1; cases h1
theorem law8_ok {h : Heap} {p : Option (Nat × Nat)} {c : Option Nat} {l : List Cl} (hs : Sl h p 4 Cl.enc l) (hcn : ∀ c ∈ l, c.n ≤ 9223372036854775807) (pages frames : Int) :
    SR Try.prog 8 [.int .i64 pages, .int .i64 frames, .slice p l.length c] h fun r h' => r = .bool true := by
  have hn := hs.nil'
  have hl := hs.small
  refine SR.call Try.func8 rfl (n := 135) rfl rfl (by simp) ?_
  refine SW.seq (SW.of (P := Try.prog) (Checked.mixed Try.checked) named hk_sound ?_)
  simp -dsimp (disch := first | with_reducible assumption | omega | (intro h_; cases h_; done) | (simp only [LN] <;> omega) | (simp only [LF]; done) | (repeat (first | with_reducible assumption | apply Ext.refl | apply Ext.app | (apply Ext.set <;> omega) | (refine Ext.trans ?_ (by assumption))))) only [AX, TY, AD, mapPut, entsOf, oneV, builtinV, idsOf, mapId, touchB, Nat.reduceLT, Nat.reduceLeDiff, Nat.reduceEqDiff, Nat.reduceAdd, Nat.reduceMul, Int.reduceBEq, Int.reduceEq, Int.reduceNeg, Int.reduceLT, Int.reduceLE, Int.reduceAdd, Int.reduceSub, Int.reduceMul, Int.reduceToNat, Int.reduceGT, Nat.reduceBEq, Nat.reducePow, Nat.reduceGT, reduceCtorEq, ↓reduceIte]
  refine SW.seq (SW.of (P := Try.prog) (Checked.mixed Try.checked) named hk_sound ?_)
  simp -dsimp (disch := first | with_reducible assumption | omega | (intro h_; cases h_; done) | (simp only [LN] <;> omega) | (simp only [LF]; done) | (repeat (first | with_reducible assumption | apply Ext.refl | apply Ext.app | (apply Ext.set <;> omega) | (refine Ext.trans ?_ (by assumption))))) only [AX, TY, AD, mapPut, entsOf, oneV, builtinV, idsOf, mapId, touchB, Nat.reduceLT, Nat.reduceLeDiff, Nat.reduceEqDiff, Nat.reduceAdd, Nat.reduceMul, Int.reduceBEq, Int.reduceEq, Int.reduceNeg, Int.reduceLT, Int.reduceLE, Int.reduceAdd, Int.reduceSub, Int.reduceMul, Int.reduceToNat, Int.reduceGT, Nat.reduceBEq, Nat.reducePow, Nat.reduceGT, reduceCtorEq, ↓reduceIte]
  refine (few16_ok hs pages frames).mono ?_
  rintro _ _ ⟨rfl, fb, rfl, hfb⟩
  cases fb
  · simp -dsimp (disch := first | with_reducible assumption | omega | (intro h_; cases h_; done) | (simp only [LN] <;> omega) | (simp only [LF]; done) | (repeat (first | with_reducible assumption | apply Ext.refl | apply Ext.app | (apply Ext.set <;> omega) | (refine Ext.trans ?_ (by assumption))))) only [AX, TY, AD, mapPut, entsOf, oneV, builtinV, idsOf, mapId, touchB, Nat.reduceLT, Nat.reduceLeDiff, Nat.reduceEqDiff, Nat.reduceAdd, Nat.reduceMul, Int.reduceBEq, Int.reduceEq, Int.reduceNeg, Int.reduceLT, Int.reduceLE, Int.reduceAdd, Int.reduceSub, Int.reduceMul, Int.reduceToNat, Int.reduceGT, Nat.reduceBEq, Nat.reducePow, Nat.reduceGT, reduceCtorEq, ↓reduceIte]
    refine awake_ok.mono ?_
    rintro _ h3 rfl
    simp -dsimp (disch := first | with_reducible assumption | omega | (intro h_; cases h_; done) | (simp only [LN] <;> omega) | (simp only [LF]; done) | (repeat (first | with_reducible assumption | apply Ext.refl | apply Ext.app | (apply Ext.set <;> omega) | (refine Ext.trans ?_ (by assumption))))) only [AX, TY, AD, mapPut, entsOf, oneV, builtinV, idsOf, mapId, touchB, Nat.reduceLT, Nat.reduceLeDiff, Nat.reduceEqDiff, Nat.reduceAdd, Nat.reduceMul, Int.reduceBEq, Int.reduceEq, Int.reduceNeg, Int.reduceLT, Int.reduceLE, Int.reduceAdd, Int.reduceSub, Int.reduceMul, Int.reduceToNat, Int.reduceGT, Nat.reduceBEq, Nat.reducePow, Nat.reduceGT, reduceCtorEq, ↓reduceIte]
  obtain ⟨b1, b2, b3, b4, b5, b6⟩ := hfb rfl
  obtain ⟨pages, rfl⟩ := Int.eq_ofNat_of_zero_le (show 0 ≤ pages by omega)
  obtain ⟨frames, rfl⟩ := Int.eq_ofNat_of_zero_le (show 0 ≤ frames by omega)
  simp -dsimp (disch := first | with_reducible assumption | omega | (intro h_; cases h_; done) | (simp only [LN] <;> omega) | (simp only [LF]; done) | (repeat (first | with_reducible assumption | apply Ext.refl | apply Ext.app | (apply Ext.set <;> omega) | (refine Ext.trans ?_ (by assumption))))) only [AX, TY, AD, mapPut, entsOf, oneV, builtinV, idsOf, mapId, touchB, Nat.reduceLT, Nat.reduceLeDiff, Nat.reduceEqDiff, Nat.reduceAdd, Nat.reduceMul, Int.reduceBEq, Int.reduceEq, Int.reduceNeg, Int.reduceLT, Int.reduceLE, Int.reduceAdd, Int.reduceSub, Int.reduceMul, Int.reduceToNat, Int.reduceGT, Nat.reduceBEq, Nat.reducePow, Nat.reduceGT, reduceCtorEq, ↓reduceIte]
  refine SW.seq (SW.of (P := Try.prog) (Checked.mixed Try.checked) named hk_sound ?_)
  simp -dsimp (disch := first | with_reducible assumption | omega | (intro h_; cases h_; done) | (simp only [LN] <;> omega) | (simp only [LF]; done) | (repeat (first | with_reducible assumption | apply Ext.refl | apply Ext.app | (apply Ext.set <;> omega) | (refine Ext.trans ?_ (by assumption))))) only [AX, TY, AD, mapPut, entsOf, oneV, builtinV, idsOf, mapId, touchB, Nat.reduceLT, Nat.reduceLeDiff, Nat.reduceEqDiff, Nat.reduceAdd, Nat.reduceMul, Int.reduceBEq, Int.reduceEq, Int.reduceNeg, Int.reduceLT, Int.reduceLE, Int.reduceAdd, Int.reduceSub, Int.reduceMul, Int.reduceToNat, Int.reduceGT, Nat.reduceBEq, Nat.reducePow, Nat.reduceGT, reduceCtorEq, ↓reduceIte]
  refine (open_ok pages frames (by omega) (by omega) (by omega) (by omega)).mono ?_
  rintro _ h1 ⟨I, D, rfl, d1, hD1, hD2, hD3, hD4, hD5, e1, hb1, hb2, hb3⟩
  obtain ⟨h0, hh0, x0, e0, hl0⟩ : ∃ h0, h1 ++ [O.cells [V.ptr (some (I.di, 0)), V.ptr (some (I.pi, 0))] .rw] = h0 ∧ h0[h1.length]? = some (O.cells [V.ptr (some (I.di, 0)), V.ptr (some (I.pi, 0))] .rw) ∧ Ext h1 h0 ∧ h0.length = h1.length + 1 := ⟨_, rfl, snoc_last _ rfl, (by (repeat (first | assumption | apply Ext.refl | apply Ext.app | (apply Ext.set <;> omega) | exact Ext.trans (by assumption) (by assumption) | (refine Ext.trans ?_ (by assumption))))), by simp⟩
  have m0 : Mid h.length h0 I pages frames 0 ⟨D, pages, List.replicate frames emptyFr, 0, 0⟩ none h0 := ⟨d1.ext e0, .init hD1 hD4 (by omega) hD2 (by omega) (by omega), rfl, by simp, Kp.ext (.refl _) _⟩
  have hs0 := hs.ext (e1.trans e0)
  have hnx : ¬ ownP I none h1.length := fun q => by have := d1.lt q; omega
  have slK : ∀ {i : Nat} {S : Bp} {oid : Option Nat} {hh : Heap}, Mid h.length h0 I pages frames i S oid hh → Sl hh p 4 Cl.enc l ∧ hh[h1.length]? = some (O.cells [V.ptr (some (I.di, 0)), V.ptr (some (I.pi, 0))] .rw) := fun {i S oid hh} m => ⟨hs0.keep fun a o z => m.kp.fr a (hs0.lt z) (m0.at'.own_base hb1 hb3 (hs.lt z)), m.kp.get x0 hnx⟩
  have mm0 : Mid h.length h0 I pages frames 0 ⟨D, pages, List.replicate frames emptyFr, 0, 0⟩ none (h0 ++ [O.map [] 0]) := m0.ext (by (repeat (first | assumption | apply Ext.refl | apply Ext.app | (apply Ext.set <;> omega) | exact Ext.trans (by assumption) (by assumption) | (refine Ext.trans ?_ (by assumption)))))
  have mp0 : MapP encI (h0 ++ [O.map [] 0]) h0.length (ownP I none) [] 0 := ⟨snoc_last _ rfl, .nil, fun q => by have := m0.at'.lt q; omega⟩
  have pn0 : Pns ⟨D, pages, List.replicate frames emptyFr, 0, 0⟩ [] := fun k => by
    rw [zero_all (fun f hf => by obtain ⟨_, rfl⟩ := List.mem_replicate.1 hf; rfl)]; rfl
  simp -dsimp (disch := first | with_reducible assumption | omega | (intro h_; cases h_; done) | (simp only [LN] <;> omega) | (simp only [LF]; done) | (repeat (first | with_reducible assumption | apply Ext.refl | apply Ext.app | (apply Ext.set <;> omega) | (refine Ext.trans ?_ (by assumption))))) only [AX, TY, AD, mapPut, entsOf, oneV, builtinV, idsOf, mapId, touchB, Nat.reduceLT, Nat.reduceLeDiff, Nat.reduceEqDiff, Nat.reduceAdd, Nat.reduceMul, Int.reduceBEq, Int.reduceEq, Int.reduceNeg, Int.reduceLT, Int.reduceLE, Int.reduceAdd, Int.reduceSub, Int.reduceMul, Int.reduceToNat, Int.reduceGT, Nat.reduceBEq, Nat.reducePow, Nat.reduceGT, reduceCtorEq, ↓reduceIte, hh0]
  refine SW.seq (SW.of (P := Try.prog) (Checked.mixed Try.checked) named hk_sound ?_)
  simp -dsimp (disch := first | with_reducible assumption | omega | (intro h_; cases h_; done) | (simp only [LN] <;> omega) | (simp only [LF]; done) | (repeat (first | with_reducible assumption | apply Ext.refl | apply Ext.app | (apply Ext.set <;> omega) | (refine Ext.trans ?_ (by assumption))))) only [AX, TY, AD, mapPut, entsOf, oneV, builtinV, idsOf, mapId, touchB, Nat.reduceLT, Nat.reduceLeDiff, Nat.reduceEqDiff, Nat.reduceAdd, Nat.reduceMul, Int.reduceBEq, Int.reduceEq, Int.reduceNeg, Int.reduceLT, Int.reduceLE, Int.reduceAdd, Int.reduceSub, Int.reduceMul, Int.reduceToNat, Int.reduceGT, Nat.reduceBEq, Nat.reducePow, Nat.reduceGT, reduceCtorEq, ↓reduceIte]
  refine SW.seq (SW.of (P := Try.prog) (Checked.mixed Try.checked) named hk_sound ?_)
  simp -dsimp (disch := first | with_reducible assumption | omega | (intro h_; cases h_; done) | (simp only [LN] <;> omega) | (simp only [LF]; done) | (repeat (first | with_reducible assumption | apply Ext.refl | apply Ext.app | (apply Ext.set <;> omega) | (refine Ext.trans ?_ (by assumption))))) only [AX, TY, AD, mapPut, entsOf, oneV, builtinV, idsOf, mapId, touchB, Nat.reduceLT, Nat.reduceLeDiff, Nat.reduceEqDiff, Nat.reduceAdd, Nat.reduceMul, Int.reduceBEq, Int.reduceEq, Int.reduceNeg, Int.reduceLT, Int.reduceLE, Int.reduceAdd, Int.reduceSub, Int.reduceMul, Int.reduceToNat, Int.reduceGT, Nat.reduceBEq, Nat.reducePow, Nat.reduceGT, reduceCtorEq, ↓reduceIte]
  refine SW.seq (SW.seq (SW.of (P := Try.prog) (Checked.mixed Try.checked) named hk_sound ?_))
  simp -dsimp (disch := first | with_reducible assumption | omega | (intro h_; cases h_; done) | (simp only [LN] <;> omega) | (simp only [LF]; done) | (repeat (first | with_reducible assumption | apply Ext.refl | apply Ext.app | (apply Ext.set <;> omega) | (refine Ext.trans ?_ (by assumption))))) only [AX, TY, AD, mapPut, entsOf, oneV, builtinV, idsOf, mapId, touchB, Nat.reduceLT, Nat.reduceLeDiff, Nat.reduceEqDiff, Nat.reduceAdd, Nat.reduceMul, Int.reduceBEq, Int.reduceEq, Int.reduceNeg, Int.reduceLT, Int.reduceLE, Int.reduceAdd, Int.reduceSub, Int.reduceMul, Int.reduceToNat, Int.reduceGT, Nat.reduceBEq, Nat.reducePow, Nat.reduceGT, reduceCtorEq, ↓reduceIte]
  refine SW.block (SW.loop (fun m τ hh => ∃ (i : Nat) (S : Bp) (oid : Option Nat) (ms : List (Ge Int)) (cl : Nat), m + i = l.length ∧ τ 1 = .int .i64 frames ∧ τ 7 = .ptr (some (h1.length, 0)) ∧ τ 9 = .map (some h0.length) ∧ τ 36 = .slice p l.length c ∧ τ 37 = .int .i64 l.length ∧ τ 38 = .int .i64 i ∧ Mid h.length h0 I pages frames i S oid hh ∧ MapP encI hh h0.length (ownP I oid) ms cl ∧ Pns S ms) ?_ (m := l.length) ?_)
  rotate_left
  · refine ⟨0, ⟨D, pages, List.replicate frames emptyFr, 0, 0⟩, none, [], 0, ?_⟩
    simp -dsimp (disch := first | with_reducible assumption | omega | (intro h_; cases h_; done) | (simp only [LN] <;> omega) | (simp only [LF]; done) | (repeat (first | with_reducible assumption | apply Ext.refl | apply Ext.app | (apply Ext.set <;> omega) | (refine Ext.trans ?_ (by assumption))))) only [AX, TY, AD, mapPut, entsOf, oneV, builtinV, idsOf, mapId, touchB, Nat.reduceLT, Nat.reduceLeDiff, Nat.reduceEqDiff, Nat.reduceAdd, Nat.reduceMul, Int.reduceBEq, Int.reduceEq, Int.reduceNeg, Int.reduceLT, Int.reduceLE, Int.reduceAdd, Int.reduceSub, Int.reduceMul, Int.reduceToNat, Int.reduceGT, Nat.reduceBEq, Nat.reducePow, Nat.reduceGT, reduceCtorEq, ↓reduceIte]
    repeat' (first | assumption | refine And.intro ?_ ?_)
    all_goals first | rfl | omega | (simp; done) | (simp; omega; done) | skip
  rintro m τ hh ⟨i, S, oid, ms, cl, hm, t1, t7, t9, t36, t37, t38, mid, mp, hpn⟩
  obtain ⟨sl, hx⟩ := slK mid
  refine SW.seq (SW.of (P := Try.prog) (Checked.mixed Try.checked) named hk_sound ?_)
  by_cases h2 : (i : Int) < (l.length : Int)
  rotate_left
  · simp -dsimp (disch := first | with_reducible assumption | omega | (intro h_; cases h_; done) | (simp only [LN] <;> omega) | (simp only [LF]; done) | (repeat (first | with_reducible assumption | apply Ext.refl | apply Ext.app | (apply Ext.set <;> omega) | (refine Ext.trans ?_ (by assumption))))) only [AX, TY, AD, mapPut, entsOf, oneV, builtinV, idsOf, mapId, touchB, Nat.reduceLT, Nat.reduceLeDiff, Nat.reduceEqDiff, Nat.reduceAdd, Nat.reduceMul, Int.reduceBEq, Int.reduceEq, Int.reduceNeg, Int.reduceLT, Int.reduceLE, Int.reduceAdd, Int.reduceSub, Int.reduceMul, Int.reduceToNat, Int.reduceGT, Nat.reduceBEq, Nat.reducePow, Nat.reduceGT, reduceCtorEq, ↓reduceIte, t1, t7, t9, t36, t37, t38, h2]
    refine SW.seq (SW.of (P := Try.prog) (Checked.mixed Try.checked) named hk_sound ?_)
    simp -dsimp (disch := first | with_reducible assumption | omega | (intro h_; cases h_; done) | (simp only [LN] <;> omega) | (simp only [LF]; done) | (repeat (first | with_reducible assumption | apply Ext.refl | apply Ext.app | (apply Ext.set <;> omega) | (refine Ext.trans ?_ (by assumption))))) only [AX, TY, AD, mapPut, entsOf, oneV, builtinV, idsOf, mapId, touchB, Nat.reduceLT, Nat.reduceLeDiff, Nat.reduceEqDiff, Nat.reduceAdd, Nat.reduceMul, Int.reduceBEq, Int.reduceEq, Int.reduceNeg, Int.reduceLT, Int.reduceLE, Int.reduceAdd, Int.reduceSub, Int.reduceMul, Int.reduceToNat, Int.reduceGT, Nat.reduceBEq, Nat.reducePow, Nat.reduceGT, reduceCtorEq, ↓reduceIte, t1, t7, t9, t36, t37, t38, h2]
    refine SW.of (P := Try.prog) (Checked.mixed Try.checked) named hk_sound ?_
    simp -dsimp (disch := first | with_reducible assumption | omega | (intro h_; cases h_; done) | (simp only [LN] <;> omega) | (simp only [LF]; done) | (repeat (first | with_reducible assumption | apply Ext.refl | apply Ext.app | (apply Ext.set <;> omega) | (refine Ext.trans ?_ (by assumption))))) only [AX, TY, AD, mapPut, entsOf, oneV, builtinV, idsOf, mapId, touchB, Nat.reduceLT, Nat.reduceLeDiff, Nat.reduceEqDiff, Nat.reduceAdd, Nat.reduceMul, Int.reduceBEq, Int.reduceEq, Int.reduceNeg, Int.reduceLT, Int.reduceLE, Int.reduceAdd, Int.reduceSub, Int.reduceMul, Int.reduceToNat, Int.reduceGT, Nat.reduceBEq, Nat.reducePow, Nat.reduceGT, reduceCtorEq, ↓reduceIte]
    refine awake_ok.mono ?_
    rintro _ h3 rfl
    simp -dsimp (disch := first | with_reducible assumption | omega | (intro h_; cases h_; done) | (simp only [LN] <;> omega) | (simp only [LF]; done) | (repeat (first | with_reducible assumption | apply Ext.refl | apply Ext.app | (apply Ext.set <;> omega) | (refine Ext.trans ?_ (by assumption))))) only [AX, TY, AD, mapPut, entsOf, oneV, builtinV, idsOf, mapId, touchB, Nat.reduceLT, Nat.reduceLeDiff, Nat.reduceEqDiff, Nat.reduceAdd, Nat.reduceMul, Int.reduceBEq, Int.reduceEq, Int.reduceNeg, Int.reduceLT, Int.reduceLE, Int.reduceAdd, Int.reduceSub, Int.reduceMul, Int.reduceToNat, Int.reduceGT, Nat.reduceBEq, Nat.reducePow, Nat.reduceGT, reduceCtorEq, ↓reduceIte]
  have hi : i < l.length := by omega
  have hla := sl.load0 (.refl _) hi (m := 4) (by decide)
  have hmem := List.getElem_mem hi
  generalize l[i] = x at hla hmem
  simp only [Cl.enc, List.take] at hla
  obtain ⟨g, hg, gx, eg, hgl⟩ : ∃ g, hh ++ [O.cells (Cl.enc x) .rw] = g ∧ g[hh.length]? = some (O.cells (Cl.enc x) .rw) ∧ Ext hh g ∧ g.length = hh.length + 1 := ⟨_, rfl, snoc_last _ rfl, (by (repeat (first | assumption | apply Ext.refl | apply Ext.app | (apply Ext.set <;> omega) | exact Ext.trans (by assumption) (by assumption) | (refine Ext.trans ?_ (by assumption))))), by simp⟩
  simp only [Cl.enc] at hg gx
  have midg := mid.ext eg
  have hxg := eg _ _ hx
  have hcall := midg.call (by omega) x (b6 x hmem) (hcn x hmem)
  simp only [Cl.enc] at hcall
  simp -dsimp (disch := first | with_reducible assumption | omega | (intro h_; cases h_; done) | (simp only [LN] <;> omega) | (simp only [LF]; done) | (repeat (first | with_reducible assumption | apply Ext.refl | apply Ext.app | (apply Ext.set <;> omega) | (refine Ext.trans ?_ (by assumption))))) only [AX, TY, AD, mapPut, entsOf, oneV, builtinV, idsOf, mapId, touchB, Nat.reduceLT, Nat.reduceLeDiff, Nat.reduceEqDiff, Nat.reduceAdd, Nat.reduceMul, Int.reduceBEq, Int.reduceEq, Int.reduceNeg, Int.reduceLT, Int.reduceLE, Int.reduceAdd, Int.reduceSub, Int.reduceMul, Int.reduceToNat, Int.reduceGT, Nat.reduceBEq, Nat.reducePow, Nat.reduceGT, reduceCtorEq, ↓reduceIte, t1, t7, t9, t36, t37, t38, h2]
  refine SW.seq (SW.of (P := Try.prog) (Checked.mixed Try.checked) named hk_sound ?_)
  simp -dsimp (disch := first | with_reducible assumption | omega | (intro h_; cases h_; done) | (simp only [LN] <;> omega) | (simp only [LF]; done) | (repeat (first | with_reducible assumption | apply Ext.refl | apply Ext.app | (apply Ext.set <;> omega) | (refine Ext.trans ?_ (by assumption))))) only [AX, TY, AD, mapPut, entsOf, oneV, builtinV, idsOf, mapId, touchB, Nat.reduceLT, Nat.reduceLeDiff, Nat.reduceEqDiff, Nat.reduceAdd, Nat.reduceMul, Int.reduceBEq, Int.reduceEq, Int.reduceNeg, Int.reduceLT, Int.reduceLE, Int.reduceAdd, Int.reduceSub, Int.reduceMul, Int.reduceToNat, Int.reduceGT, Nat.reduceBEq, Nat.reducePow, Nat.reduceGT, reduceCtorEq, ↓reduceIte, t1, t7, t9, t36, t37, t38, h2]
  refine SW.seqK (fun τ hh => ∃ (S : Bp) (oid : Option Nat) (ms : List (Ge Int)) (cl : Nat), τ 1 = .int .i64 frames ∧ τ 7 = .ptr (some (h1.length, 0)) ∧ τ 9 = .map (some h0.length) ∧ τ 36 = .slice p l.length c ∧ τ 37 = .int .i64 l.length ∧ τ 38 = .int .i64 i ∧ Mid h.length h0 I pages frames (i + 1) S oid hh ∧ MapP encI hh h0.length (ownP I oid) ms cl ∧ Pns S ms) ?_ ?_
  rotate_left
  · rintro τ2 hh2 ⟨S2, oid2, ms2, cl2, t1, t7, t9, t36, t37, t38, mid2, mp2, hpn2⟩
    refine SW.of (P := Try.prog) (Checked.mixed Try.checked) named hk_sound ?_
    simp -dsimp (disch := first | with_reducible assumption | omega | (intro h_; cases h_; done) | (simp only [LN] <;> omega) | (simp only [LF]; done) | (repeat (first | with_reducible assumption | apply Ext.refl | apply Ext.app | (apply Ext.set <;> omega) | (refine Ext.trans ?_ (by assumption))))) only [AX, TY, AD, mapPut, entsOf, oneV, builtinV, idsOf, mapId, touchB, Nat.reduceLT, Nat.reduceLeDiff, Nat.reduceEqDiff, Nat.reduceAdd, Nat.reduceMul, Int.reduceBEq, Int.reduceEq, Int.reduceNeg, Int.reduceLT, Int.reduceLE, Int.reduceAdd, Int.reduceSub, Int.reduceMul, Int.reduceToNat, Int.reduceGT, Nat.reduceBEq, Nat.reducePow, Nat.reduceGT, reduceCtorEq, ↓reduceIte, t1, t7, t9, t36, t37, t38, wrap_in]
    refine ⟨m - 1, by omega, i + 1, S2, oid2, ms2, cl2, ?_⟩
    repeat' (first | assumption | refine And.intro ?_ ?_)
    all_goals first | rfl | omega | (simp; done) | (simp; omega; done) | skip
  refine SW.block ?_
  refine SW.seq (SW.of (P := Try.prog) (Checked.mixed Try.checked) named hk_sound ?_)
  simp -dsimp (disch := first | with_reducible assumption | omega | (intro h_; cases h_; done) | (simp only [LN] <;> omega) | (simp only [LF]; done) | (repeat (first | with_reducible assumption | apply Ext.refl | apply Ext.app | (apply Ext.set <;> omega) | (refine Ext.trans ?_ (by assumption))))) only [AX, TY, AD, mapPut, entsOf, oneV, builtinV, idsOf, mapId, touchB, Nat.reduceLT, Nat.reduceLeDiff, Nat.reduceEqDiff, Nat.reduceAdd, Nat.reduceMul, Int.reduceBEq, Int.reduceEq, Int.reduceNeg, Int.reduceLT, Int.reduceLE, Int.reduceAdd, Int.reduceSub, Int.reduceMul, Int.reduceToNat, Int.reduceGT, Nat.reduceBEq, Nat.reducePow, Nat.reduceGT, reduceCtorEq, ↓reduceIte, t1, t7, t9, t36, t37, t38, hla, hg]
  refine SW.seq (SW.of (P := Try.prog) (Checked.mixed Try.checked) named hk_sound ?_)
  simp -dsimp (disch := first | with_reducible assumption | omega | (intro h_; cases h_; done) | (simp only [LN] <;> omega) | (simp only [LF]; done) | (repeat (first | with_reducible assumption | apply Ext.refl | apply Ext.app | (apply Ext.set <;> omega) | (refine Ext.trans ?_ (by assumption))))) only [AX, TY, AD, mapPut, entsOf, oneV, builtinV, idsOf, mapId, touchB, Nat.reduceLT, Nat.reduceLeDiff, Nat.reduceEqDiff, Nat.reduceAdd, Nat.reduceMul, Int.reduceBEq, Int.reduceEq, Int.reduceNeg, Int.reduceLT, Int.reduceLE, Int.reduceAdd, Int.reduceSub, Int.reduceMul, Int.reduceToNat, Int.reduceGT, Nat.reduceBEq, Nat.reducePow, Nat.reduceGT, reduceCtorEq, ↓reduceIte, t1, t7, t9, t36, t37, t38, loadN_fact gx, loadN_fact hxg]
  refine hcall.mono ?_
  rintro _ h6 ⟨S', oid', e, dd, cr, mid6, k6, pr, cr', rfl, slr, hpr⟩
  have hx6 := (slK mid6).2
  have gx6 := k6.get gx (fun q => by have := mid.at'.lt q; omega)
  have mp6 := (mp.ext eg).kp k6
  have hcp := call_pins mid.inv (by omega) cr
  have hpr0 := pinsOf_range mid.inv x.page
  have hbig := mid.inv.big
  simp -dsimp (disch := first | with_reducible assumption | omega | (intro h_; cases h_; done) | (simp only [LN] <;> omega) | (simp only [LF]; done) | (repeat (first | with_reducible assumption | apply Ext.refl | apply Ext.app | (apply Ext.set <;> omega) | (refine Ext.trans ?_ (by assumption))))) only [AX, TY, AD, mapPut, entsOf, oneV, builtinV, idsOf, mapId, touchB, Nat.reduceLT, Nat.reduceLeDiff, Nat.reduceEqDiff, Nat.reduceAdd, Nat.reduceMul, Int.reduceBEq, Int.reduceEq, Int.reduceNeg, Int.reduceLT, Int.reduceLE, Int.reduceAdd, Int.reduceSub, Int.reduceMul, Int.reduceToNat, Int.reduceGT, Nat.reduceBEq, Nat.reducePow, Nat.reduceGT, reduceCtorEq, ↓reduceIte, t1, t7, t9, t36, t37, t38]
  refine SW.seq2K (fun τ hh => ∃ (ms : List (Ge Int)) (cl : Nat), τ 1 = .int .i64 frames ∧ τ 7 = .ptr (some (h1.length, 0)) ∧ τ 9 = .map (some h0.length) ∧ τ 36 = .slice p l.length c ∧ τ 37 = .int .i64 l.length ∧ τ 38 = .int .i64 i ∧ Mid h.length h0 I pages frames (i + 1) S' oid' hh ∧ MapP encI hh h0.length (ownP I oid') ms cl ∧ Pns S' ms) ?_ ?_
  · have hne : ¬ hh.length = h0.length := fun q => by have := mp6.blk; rw [← q, gx6] at this; cases this
    have hget := mp6.get (k := x.page) (z := 0) (hpn x.page)
    simp only [encI] at hget
    have hw1 : IntKind.i64.wrap (pinsOf S x.page + 1) = pinsOf S x.page + 1 := by rw [IntKind.wrap_i64]; omega
    have hw2 : IntKind.i64.wrap (pinsOf S x.page - 1) = pinsOf S x.page - 1 := by rw [IntKind.wrap_i64]; omega
    by_cases c0 : x.kind = 0 ∧ e = 0
    · obtain ⟨c0, rfl⟩ := c0
      have hput := mapPut_g mp6.blk x.page (pinsOf S x.page + 1)
      have mp7 := mp6.put x.page (pinsOf S x.page + 1)
      have mid7 := mid6.put (es' := gents encI (putG cl x.page (pinsOf S x.page + 1) ms)) (cl' := clG cl x.page ms) mp6.blk mp6.no (Nat.le_refl _)
      have gx7 := (set_other (h := h6) (i := h0.length) (j := hh.length) (.map (gents encI (putG cl x.page (pinsOf S x.page + 1) ms)) (clG cl x.page ms)) hne).trans gx6
      have hpn7 : Pns S' (putG cl x.page (pinsOf S x.page + 1) ms) := hpn.put mp6.ok (by rw [hcp, if_pos ⟨c0, rfl, rfl⟩, if_neg (fun q => by have := q.1; omega)]; omega) fun k' hk' => by
        rw [hcp, if_neg (fun q => hk' q.2.2.symm), if_neg (fun q => hk' q.2.2.symm)]; omega
      have hk0 : ¬ x.kind = 2 := by omega
      have enc1 : encI (pinsOf S x.page + 1) = .int .i64 (pinsOf S x.page + 1) := rfl
      rw [enc1] at hput
      refine SW.of (P := Try.prog) (Checked.mixed Try.checked) named hk_sound ?_
      simp -dsimp (disch := first | with_reducible assumption | omega | (intro h_; cases h_; done) | (simp only [LN] <;> omega) | (simp only [LF]; done) | (repeat (first | with_reducible assumption | apply Ext.refl | apply Ext.app | (apply Ext.set <;> omega) | (refine Ext.trans ?_ (by assumption))))) only [AX, TY, AD, mapPut, entsOf, oneV, builtinV, idsOf, mapId, touchB, Nat.reduceLT, Nat.reduceLeDiff, Nat.reduceEqDiff, Nat.reduceAdd, Nat.reduceMul, Int.reduceBEq, Int.reduceEq, Int.reduceNeg, Int.reduceLT, Int.reduceLE, Int.reduceAdd, Int.reduceSub, Int.reduceMul, Int.reduceToNat, Int.reduceGT, Nat.reduceBEq, Nat.reducePow, Nat.reduceGT, reduceCtorEq, ↓reduceIte, t1, t7, t9, t36, t37, t38, loadN_fact gx6, eq_true c0, c0, mp6.blk, hget, hw1, -mapPut, ↓hput]
      refine SW.of (P := Try.prog) (Checked.mixed Try.checked) named hk_sound ?_
      simp -dsimp (disch := first | with_reducible assumption | omega | (intro h_; cases h_; done) | (simp only [LN] <;> omega) | (simp only [LF]; done) | (repeat (first | with_reducible assumption | apply Ext.refl | apply Ext.app | (apply Ext.set <;> omega) | (refine Ext.trans ?_ (by assumption))))) only [AX, TY, AD, mapPut, entsOf, oneV, builtinV, idsOf, mapId, touchB, Nat.reduceLT, Nat.reduceLeDiff, Nat.reduceEqDiff, Nat.reduceAdd, Nat.reduceMul, Int.reduceBEq, Int.reduceEq, Int.reduceNeg, Int.reduceLT, Int.reduceLE, Int.reduceAdd, Int.reduceSub, Int.reduceMul, Int.reduceToNat, Int.reduceGT, Nat.reduceBEq, Nat.reducePow, Nat.reduceGT, reduceCtorEq, ↓reduceIte, t1, t7, t9, t36, t37, t38, loadN_fact gx7, hk0]
      refine ⟨putG cl x.page (pinsOf S x.page + 1) ms, clG cl x.page ms, ?_⟩
      repeat' (first | assumption | refine And.intro ?_ ?_)
      all_goals first | rfl | omega | (simp; done) | (simp; omega; done) | skip
    by_cases c2 : x.kind = 2 ∧ e = 0
    · obtain ⟨c2, rfl⟩ := c2
      have hput := mapPut_g mp6.blk x.page (pinsOf S x.page - 1)
      have mp7 := mp6.put x.page (pinsOf S x.page - 1)
      have mid7 := mid6.put (es' := gents encI (putG cl x.page (pinsOf S x.page - 1) ms)) (cl' := clG cl x.page ms) mp6.blk mp6.no (Nat.le_refl _)
      have hpn7 : Pns S' (putG cl x.page (pinsOf S x.page - 1) ms) := hpn.put mp6.ok (by rw [hcp, if_pos (c := x.kind = 2 ∧ _) ⟨c2, rfl, rfl⟩, if_neg (fun q => by have := q.1; omega)]; omega) fun k' hk' => by
        rw [hcp, if_neg (fun q => hk' q.2.2.symm), if_neg (fun q => hk' q.2.2.symm)]; omega
      have hk0 : ¬ x.kind = 0 := by omega
      have enc1 : encI (pinsOf S x.page - 1) = .int .i64 (pinsOf S x.page - 1) := rfl
      rw [enc1] at hput
      refine SW.of (P := Try.prog) (Checked.mixed Try.checked) named hk_sound ?_
      simp -dsimp (disch := first | with_reducible assumption | omega | (intro h_; cases h_; done) | (simp only [LN] <;> omega) | (simp only [LF]; done) | (repeat (first | with_reducible assumption | apply Ext.refl | apply Ext.app | (apply Ext.set <;> omega) | (refine Ext.trans ?_ (by assumption))))) only [AX, TY, AD, mapPut, entsOf, oneV, builtinV, idsOf, mapId, touchB, Nat.reduceLT, Nat.reduceLeDiff, Nat.reduceEqDiff, Nat.reduceAdd, Nat.reduceMul, Int.reduceBEq, Int.reduceEq, Int.reduceNeg, Int.reduceLT, Int.reduceLE, Int.reduceAdd, Int.reduceSub, Int.reduceMul, Int.reduceToNat, Int.reduceGT, Nat.reduceBEq, Nat.reducePow, Nat.reduceGT, reduceCtorEq, ↓reduceIte, t1, t7, t9, t36, t37, t38, loadN_fact gx6, hk0]
      refine SW.of (P := Try.prog) (Checked.mixed Try.checked) named hk_sound ?_
      simp -dsimp (disch := first | with_reducible assumption | omega | (intro h_; cases h_; done) | (simp only [LN] <;> omega) | (simp only [LF]; done) | (repeat (first | with_reducible assumption | apply Ext.refl | apply Ext.app | (apply Ext.set <;> omega) | (refine Ext.trans ?_ (by assumption))))) only [AX, TY, AD, mapPut, entsOf, oneV, builtinV, idsOf, mapId, touchB, Nat.reduceLT, Nat.reduceLeDiff, Nat.reduceEqDiff, Nat.reduceAdd, Nat.reduceMul, Int.reduceBEq, Int.reduceEq, Int.reduceNeg, Int.reduceLT, Int.reduceLE, Int.reduceAdd, Int.reduceSub, Int.reduceMul, Int.reduceToNat, Int.reduceGT, Nat.reduceBEq, Nat.reducePow, Nat.reduceGT, reduceCtorEq, ↓reduceIte, t1, t7, t9, t36, t37, t38, loadN_fact gx6, eq_true c2, c2, mp6.blk, hget, hw2, -mapPut, ↓hput]
      refine ⟨putG cl x.page (pinsOf S x.page - 1) ms, clG cl x.page ms, ?_⟩
      repeat' (first | assumption | refine And.intro ?_ ?_)
      all_goals first | rfl | omega | (simp; done) | (simp; omega; done) | skip
    have hpn7 : Pns S' ms := fun k => by
      rw [hcp, if_neg (fun q => c0 ⟨q.1, q.2.1⟩), if_neg (fun q => c2 ⟨q.1, q.2.1⟩), hpn k]; omega
    by_cases he : e = 0
    · have k0 : ¬ x.kind = 0 := fun q => c0 ⟨q, he⟩
      have k2 : ¬ x.kind = 2 := fun q => c2 ⟨q, he⟩
      refine SW.of (P := Try.prog) (Checked.mixed Try.checked) named hk_sound ?_
      simp -dsimp (disch := first | with_reducible assumption | omega | (intro h_; cases h_; done) | (simp only [LN] <;> omega) | (simp only [LF]; done) | (repeat (first | with_reducible assumption | apply Ext.refl | apply Ext.app | (apply Ext.set <;> omega) | (refine Ext.trans ?_ (by assumption))))) only [AX, TY, AD, mapPut, entsOf, oneV, builtinV, idsOf, mapId, touchB, Nat.reduceLT, Nat.reduceLeDiff, Nat.reduceEqDiff, Nat.reduceAdd, Nat.reduceMul, Int.reduceBEq, Int.reduceEq, Int.reduceNeg, Int.reduceLT, Int.reduceLE, Int.reduceAdd, Int.reduceSub, Int.reduceMul, Int.reduceToNat, Int.reduceGT, Nat.reduceBEq, Nat.reducePow, Nat.reduceGT, reduceCtorEq, ↓reduceIte, t1, t7, t9, t36, t37, t38, loadN_fact gx6, he, k0, k2]
      refine SW.of (P := Try.prog) (Checked.mixed Try.checked) named hk_sound ?_
      simp -dsimp (disch := first | with_reducible assumption | omega | (intro h_; cases h_; done) | (simp only [LN] <;> omega) | (simp only [LF]; done) | (repeat (first | with_reducible assumption | apply Ext.refl | apply Ext.app | (apply Ext.set <;> omega) | (refine Ext.trans ?_ (by assumption))))) only [AX, TY, AD, mapPut, entsOf, oneV, builtinV, idsOf, mapId, touchB, Nat.reduceLT, Nat.reduceLeDiff, Nat.reduceEqDiff, Nat.reduceAdd, Nat.reduceMul, Int.reduceBEq, Int.reduceEq, Int.reduceNeg, Int.reduceLT, Int.reduceLE, Int.reduceAdd, Int.reduceSub, Int.reduceMul, Int.reduceToNat, Int.reduceGT, Nat.reduceBEq, Nat.reducePow, Nat.reduceGT, reduceCtorEq, ↓reduceIte, t1, t7, t9, t36, t37, t38, loadN_fact gx6, he, k0, k2]
      refine ⟨ms, cl, ?_⟩
      repeat' (first | assumption | refine And.intro ?_ ?_)
      all_goals first | rfl | omega | (simp; done) | (simp; omega; done) | skip
    · refine SW.of (P := Try.prog) (Checked.mixed Try.checked) named hk_sound ?_
      simp -dsimp (disch := first | with_reducible assumption | omega | (intro h_; cases h_; done) | (simp only [LN] <;> omega) | (simp only [LF]; done) | (repeat (first | with_reducible assumption | apply Ext.refl | apply Ext.app | (apply Ext.set <;> omega) | (refine Ext.trans ?_ (by assumption))))) only [AX, TY, AD, mapPut, entsOf, oneV, builtinV, idsOf, mapId, touchB, Nat.reduceLT, Nat.reduceLeDiff, Nat.reduceEqDiff, Nat.reduceAdd, Nat.reduceMul, Int.reduceBEq, Int.reduceEq, Int.reduceNeg, Int.reduceLT, Int.reduceLE, Int.reduceAdd, Int.reduceSub, Int.reduceMul, Int.reduceToNat, Int.reduceGT, Nat.reduceBEq, Nat.reducePow, Nat.reduceGT, reduceCtorEq, ↓reduceIte, t1, t7, t9, t36, t37, t38, loadN_fact gx6, he]
      refine SW.of (P := Try.prog) (Checked.mixed Try.checked) named hk_sound ?_
      simp -dsimp (disch := first | with_reducible assumption | omega | (intro h_; cases h_; done) | (simp only [LN] <;> omega) | (simp only [LF]; done) | (repeat (first | with_reducible assumption | apply Ext.refl | apply Ext.app | (apply Ext.set <;> omega) | (refine Ext.trans ?_ (by assumption))))) only [AX, TY, AD, mapPut, entsOf, oneV, builtinV, idsOf, mapId, touchB, Nat.reduceLT, Nat.reduceLeDiff, Nat.reduceEqDiff, Nat.reduceAdd, Nat.reduceMul, Int.reduceBEq, Int.reduceEq, Int.reduceNeg, Int.reduceLT, Int.reduceLE, Int.reduceAdd, Int.reduceSub, Int.reduceMul, Int.reduceToNat, Int.reduceGT, Nat.reduceBEq, Nat.reducePow, Nat.reduceGT, reduceCtorEq, ↓reduceIte, t1, t7, t9, t36, t37, t38, loadN_fact gx6, he]
      refine ⟨ms, cl, ?_⟩
      repeat' (first | assumption | refine And.intro ?_ ?_)
      all_goals first | rfl | omega | (simp; done) | (simp; omega; done) | skip
  clear hla hg gx eg hgl midg hxg hcall hx6 gx6 mp6 mid6 hcp hpr0 k6 slr hpr mp hpn t1 t7 t9 t36 t37 t38 hx sl mid cr hmem
  rintro τ2 hh2 ⟨ms2, cl2, t1, t7, t9, t36, t37, t38, mid2, mp2, hpn2⟩
  have mid3 := mid2.ext (h2 := hh2 ++ [.map [] 0]) (by (repeat (first | assumption | apply Ext.refl | apply Ext.app | (apply Ext.set <;> omega) | exact Ext.trans (by assumption) (by assumption) | (refine Ext.trans ?_ (by assumption)))))
  have mp3 := mp2.ext (h2 := hh2 ++ [.map [] 0]) (by (repeat (first | assumption | apply Ext.refl | apply Ext.app | (apply Ext.set <;> omega) | exact Ext.trans (by assumption) (by assumption) | (refine Ext.trans ?_ (by assumption)))))
  have mc3 : MapP encB (hh2 ++ [.map [] 0]) hh2.length (ownP I oid') [] 0 := ⟨snoc_last _ rfl, .nil, fun q => by have := mid2.at'.lt q; omega⟩
  have hx3 := (slK mid3).2
  generalize hh3 : hh2 ++ [O.map [] 0] = h3 at mid3 mp3 mc3 hx3
  refine SW.seq (SW.of (P := Try.prog) (Checked.mixed Try.checked) named hk_sound ?_)
  simp -dsimp (disch := first | with_reducible assumption | omega | (intro h_; cases h_; done) | (simp only [LN] <;> omega) | (simp only [LF]; done) | (repeat (first | with_reducible assumption | apply Ext.refl | apply Ext.app | (apply Ext.set <;> omega) | (refine Ext.trans ?_ (by assumption))))) only [AX, TY, AD, mapPut, entsOf, oneV, builtinV, idsOf, mapId, touchB, Nat.reduceLT, Nat.reduceLeDiff, Nat.reduceEqDiff, Nat.reduceAdd, Nat.reduceMul, Int.reduceBEq, Int.reduceEq, Int.reduceNeg, Int.reduceLT, Int.reduceLE, Int.reduceAdd, Int.reduceSub, Int.reduceMul, Int.reduceToNat, Int.reduceGT, Nat.reduceBEq, Nat.reducePow, Nat.reduceGT, reduceCtorEq, ↓reduceIte, t1, t7, t9, t36, t37, t38, hh3]
  refine SW.seq (SW.of (P := Try.prog) (Checked.mixed Try.checked) named hk_sound ?_)
  simp -dsimp (disch := first | with_reducible assumption | omega | (intro h_; cases h_; done) | (simp only [LN] <;> omega) | (simp only [LF]; done) | (repeat (first | with_reducible assumption | apply Ext.refl | apply Ext.app | (apply Ext.set <;> omega) | (refine Ext.trans ?_ (by assumption))))) only [AX, TY, AD, mapPut, entsOf, oneV, builtinV, idsOf, mapId, touchB, Nat.reduceLT, Nat.reduceLeDiff, Nat.reduceEqDiff, Nat.reduceAdd, Nat.reduceMul, Int.reduceBEq, Int.reduceEq, Int.reduceNeg, Int.reduceLT, Int.reduceLE, Int.reduceAdd, Int.reduceSub, Int.reduceMul, Int.reduceToNat, Int.reduceGT, Nat.reduceBEq, Nat.reducePow, Nat.reduceGT, reduceCtorEq, ↓reduceIte, t1, t7, t9, t36, t37, t38, loadN_fact hx3]
  refine (cached_ok mid3.at' (mid3.inv.lst _)).mono ?_
  rintro _ h4 ⟨e4, p4, c4, ys, rfl, sl4, _, hp4, _⟩
  have mid4 := mid3.ext e4
  have mp4 := mp3.ext e4
  have mc4 := mc3.ext e4
  have hny := sl4.nil'
  have hly := sl4.small
  simp -dsimp (disch := first | with_reducible assumption | omega | (intro h_; cases h_; done) | (simp only [LN] <;> omega) | (simp only [LF]; done) | (repeat (first | with_reducible assumption | apply Ext.refl | apply Ext.app | (apply Ext.set <;> omega) | (refine Ext.trans ?_ (by assumption))))) only [AX, TY, AD, mapPut, entsOf, oneV, builtinV, idsOf, mapId, touchB, Nat.reduceLT, Nat.reduceLeDiff, Nat.reduceEqDiff, Nat.reduceAdd, Nat.reduceMul, Int.reduceBEq, Int.reduceEq, Int.reduceNeg, Int.reduceLT, Int.reduceLE, Int.reduceAdd, Int.reduceSub, Int.reduceMul, Int.reduceToNat, Int.reduceGT, Nat.reduceBEq, Nat.reducePow, Nat.reduceGT, reduceCtorEq, ↓reduceIte, t1, t7, t9, t36, t37, t38]
  refine W.loop (fun m2 τ hh => ∃ (k : Nat) (CM : List (Ge Bool)) (ccl : Nat), m2 + k = ys.length ∧ τ 1 = .int .i64 frames ∧ τ 7 = .ptr (some (h1.length, 0)) ∧ τ 9 = .map (some h0.length) ∧ τ 14 = .map (some hh2.length) ∧ τ 36 = .slice p l.length c ∧ τ 37 = .int .i64 l.length ∧ τ 38 = .int .i64 i ∧ τ 75 = .slice p4 ys.length c4 ∧ τ 76 = .int .i64 ys.length ∧ τ 77 = .int .i64 k ∧ Mid h.length h0 I pages frames (i + 1) S' oid' hh ∧ MapP encI hh h0.length (ownP I oid') ms2 cl2 ∧ MapP encB hh hh2.length (ownP I oid') CM ccl ∧ Sl hh p4 1 ei ys ∧ CM.length ≤ k ∧ ∀ z ∈ ys.take k, getG z CM = some true) ?_ (m := ys.length) ?_
  rotate_left
  · refine ⟨0, [], 0, ?_⟩
    simp -dsimp (disch := first | with_reducible assumption | omega | (intro h_; cases h_; done) | (simp only [LN] <;> omega) | (simp only [LF]; done) | (repeat (first | with_reducible assumption | apply Ext.refl | apply Ext.app | (apply Ext.set <;> omega) | (refine Ext.trans ?_ (by assumption))))) only [AX, TY, AD, mapPut, entsOf, oneV, builtinV, idsOf, mapId, touchB, Nat.reduceLT, Nat.reduceLeDiff, Nat.reduceEqDiff, Nat.reduceAdd, Nat.reduceMul, Int.reduceBEq, Int.reduceEq, Int.reduceNeg, Int.reduceLT, Int.reduceLE, Int.reduceAdd, Int.reduceSub, Int.reduceMul, Int.reduceToNat, Int.reduceGT, Nat.reduceBEq, Nat.reducePow, Nat.reduceGT, reduceCtorEq, ↓reduceIte, t1, t7, t9, t36, t37, t38]
    repeat' (first | assumption | refine And.intro ?_ ?_)
    all_goals first | rfl | omega | (simp; done) | (simp; omega; done) | skip
  clear t1 t7 t9 t36 t37 t38
  rintro m2 τ3 hh5 ⟨k, CM, ccl, hm2, t1, t7, t9, t14, t36, t37, t38, t75, t76, t77, mid5, mp5, mc5, sl5, hcl, hcm⟩
  by_cases h5 : (k : Int) < (ys.length : Int)
  · have hk : k < ys.length := by omega
    have hlb := sl5.load0 (.refl _) hk (m := 1) (by decide)
    have htk := List.take_succ_eq_append_getElem hk
    generalize ys[k] = z at hlb htk
    simp only [ei, List.take] at hlb
    have hput := mapPut_g mc5.blk z true
    have enc1 : encB true = .bool true := rfl
    rw [enc1] at hput
    have hne : h0.length ≠ hh2.length := fun q => by have h1 := mp2.blk; have := lt_of_some h1; omega
    have mc6 := mc5.put z true
    have mp6 := mp5.other (.map (gents encB (putG ccl z true CM)) (clG ccl z CM)) hne
    have mid6 := mid5.put (es' := gents encB (putG ccl z true CM)) (cl' := clG ccl z CM) mc5.blk mc5.no (by have := lt_of_some mp2.blk; omega)
    have sl6 : Sl (hh5.set hh2.length (.map (gents encB (putG ccl z true CM)) (clG ccl z CM))) p4 1 ei ys := sl5.keep fun a o w => set_other _ (Sl.neMapE mc5.blk sl5 a o w)
    have hcm6 : ∀ y ∈ ys.take (k + 1), getG y (putG ccl z true CM) = some true := fun y hy => by
      rw [getG_put mc5.ok]
      by_cases c : y = z
      · rw [if_pos c]
      · rw [if_neg c]
        rw [htk] at hy
        rcases List.mem_append.1 hy with hy | hy
        · exact hcm y hy
        · exact absurd (List.mem_singleton.1 hy) c
    have hcl6 : (putG ccl z true CM).length ≤ k + 1 := Nat.le_trans putG_len (by omega)
    simp -dsimp (disch := first | with_reducible assumption | omega | (intro h_; cases h_; done) | (simp only [LN] <;> omega) | (simp only [LF]; done) | (repeat (first | with_reducible assumption | apply Ext.refl | apply Ext.app | (apply Ext.set <;> omega) | (refine Ext.trans ?_ (by assumption))))) only [AX, TY, AD, mapPut, entsOf, oneV, builtinV, idsOf, mapId, touchB, Nat.reduceLT, Nat.reduceLeDiff, Nat.reduceEqDiff, Nat.reduceAdd, Nat.reduceMul, Int.reduceBEq, Int.reduceEq, Int.reduceNeg, Int.reduceLT, Int.reduceLE, Int.reduceAdd, Int.reduceSub, Int.reduceMul, Int.reduceToNat, Int.reduceGT, Nat.reduceBEq, Nat.reducePow, Nat.reduceGT, reduceCtorEq, ↓reduceIte, t1, t7, t9, t14, t36, t37, t38, t75, t76, t77, h5, hlb, -mapPut, ↓hput, wrap_in]
    refine ⟨m2 - 1, by omega, k + 1, putG ccl z true CM, clG ccl z CM, ?_⟩
    repeat' (first | assumption | refine And.intro ?_ ?_)
    all_goals first | rfl | omega | (simp; done) | (simp; omega; done) | skip
  have hky : ys.take k = ys := List.take_of_length_le (by omega)
  rw [hky] at hcm
  have hlen : lenB Try.prog 70 (.map (some hh2.length)) hh5 = some (.int .i64 CM.length) := by
    unfold lenB
    simp only [Try.underlying70, mc5.blk, gents_len]
  have hyl : ys.length ≤ frames := by rw [hp4.length_eq, ← mid3.frames]; exact lst_len _ _
  have hle : ¬ ((frames : Int) < (CM.length : Int)) := by omega
  have hx5 := (slK mid5).2
  simp -dsimp (disch := first | with_reducible assumption | omega | (intro h_; cases h_; done) | (simp only [LN] <;> omega) | (simp only [LF]; done) | (repeat (first | with_reducible assumption | apply Ext.refl | apply Ext.app | (apply Ext.set <;> omega) | (refine Ext.trans ?_ (by assumption))))) only [AX, TY, AD, mapPut, entsOf, oneV, builtinV, idsOf, mapId, touchB, Nat.reduceLT, Nat.reduceLeDiff, Nat.reduceEqDiff, Nat.reduceAdd, Nat.reduceMul, Int.reduceBEq, Int.reduceEq, Int.reduceNeg, Int.reduceLT, Int.reduceLE, Int.reduceAdd, Int.reduceSub, Int.reduceMul, Int.reduceToNat, Int.reduceGT, Nat.reduceBEq, Nat.reducePow, Nat.reduceGT, reduceCtorEq, ↓reduceIte, t1, t7, t9, t14, t36, t37, t38, t75, t76, t77, h5]
  refine SW.seq (SW.of (P := Try.prog) (Checked.mixed Try.checked) named hk_sound ?_)
  simp -dsimp (disch := first | with_reducible assumption | omega | (intro h_; cases h_; done) | (simp only [LN] <;> omega) | (simp only [LF]; done) | (repeat (first | with_reducible assumption | apply Ext.refl | apply Ext.app | (apply Ext.set <;> omega) | (refine Ext.trans ?_ (by assumption))))) only [AX, TY, AD, mapPut, entsOf, oneV, builtinV, idsOf, mapId, touchB, Nat.reduceLT, Nat.reduceLeDiff, Nat.reduceEqDiff, Nat.reduceAdd, Nat.reduceMul, Int.reduceBEq, Int.reduceEq, Int.reduceNeg, Int.reduceLT, Int.reduceLE, Int.reduceAdd, Int.reduceSub, Int.reduceMul, Int.reduceToNat, Int.reduceGT, Nat.reduceBEq, Nat.reducePow, Nat.reduceGT, reduceCtorEq, ↓reduceIte, t1, t7, t9, t14, t36, t37, t38, hlen, hle]
  refine SW.seq (SW.of (P := Try.prog) (Checked.mixed Try.checked) named hk_sound ?_)
  simp -dsimp (disch := first | with_reducible assumption | omega | (intro h_; cases h_; done) | (simp only [LN] <;> omega) | (simp only [LF]; done) | (repeat (first | with_reducible assumption | apply Ext.refl | apply Ext.app | (apply Ext.set <;> omega) | (refine Ext.trans ?_ (by assumption))))) only [AX, TY, AD, mapPut, entsOf, oneV, builtinV, idsOf, mapId, touchB, Nat.reduceLT, Nat.reduceLeDiff, Nat.reduceEqDiff, Nat.reduceAdd, Nat.reduceMul, Int.reduceBEq, Int.reduceEq, Int.reduceNeg, Int.reduceLT, Int.reduceLE, Int.reduceAdd, Int.reduceSub, Int.reduceMul, Int.reduceToNat, Int.reduceGT, Nat.reduceBEq, Nat.reducePow, Nat.reduceGT, reduceCtorEq, ↓reduceIte, t1, t7, t9, t14, t36, t37, t38, loadN_fact hx5]
  refine (dirty_ok mid5.at' (mid5.inv.lst _)).mono ?_
  rintro _ h7 ⟨e7, p7, c7, zs, rfl, sl7, _, hp7, _⟩
  have mid7 := mid5.ext e7
  have mp7 := mp5.ext e7
  have mc7 := mc5.ext e7
  have hnz := sl7.nil'
  have hlz := sl7.small
  have hzy : ∀ z ∈ zs, getG z CM = some true := fun z hz => by
    refine hcm z (hp4.mem_iff.2 ?_)
    have := hp7.mem_iff.1 hz
    unfold lstP lstQ at this ⊢
    obtain ⟨f, hf, rfl⟩ := List.mem_map.1 this
    obtain ⟨h1, h2⟩ := List.mem_filter.1 hf
    simp only [Bool.and_eq_true, decide_eq_true_eq] at h2
    exact List.mem_map.2 ⟨f, List.mem_filter.2 ⟨h1, by simp [h2.1]⟩, rfl⟩
  simp -dsimp (disch := first | with_reducible assumption | omega | (intro h_; cases h_; done) | (simp only [LN] <;> omega) | (simp only [LF]; done) | (repeat (first | with_reducible assumption | apply Ext.refl | apply Ext.app | (apply Ext.set <;> omega) | (refine Ext.trans ?_ (by assumption))))) only [AX, TY, AD, mapPut, entsOf, oneV, builtinV, idsOf, mapId, touchB, Nat.reduceLT, Nat.reduceLeDiff, Nat.reduceEqDiff, Nat.reduceAdd, Nat.reduceMul, Int.reduceBEq, Int.reduceEq, Int.reduceNeg, Int.reduceLT, Int.reduceLE, Int.reduceAdd, Int.reduceSub, Int.reduceMul, Int.reduceToNat, Int.reduceGT, Nat.reduceBEq, Nat.reducePow, Nat.reduceGT, reduceCtorEq, ↓reduceIte, t1, t7, t9, t14, t36, t37, t38]
  refine W.loop (fun m2 τ hh => h7 = hh ∧ ∃ k : Nat, m2 + k = zs.length ∧ τ 1 = .int .i64 frames ∧ τ 7 = .ptr (some (h1.length, 0)) ∧ τ 9 = .map (some h0.length) ∧ τ 14 = .map (some hh2.length) ∧ τ 36 = .slice p l.length c ∧ τ 37 = .int .i64 l.length ∧ τ 38 = .int .i64 i ∧ τ 90 = .slice p7 zs.length c7 ∧ τ 91 = .int .i64 zs.length ∧ τ 92 = .int .i64 k) ?_ (m := zs.length) ?_
  rotate_left
  · refine ⟨rfl, 0, ?_⟩
    simp -dsimp (disch := first | with_reducible assumption | omega | (intro h_; cases h_; done) | (simp only [LN] <;> omega) | (simp only [LF]; done) | (repeat (first | with_reducible assumption | apply Ext.refl | apply Ext.app | (apply Ext.set <;> omega) | (refine Ext.trans ?_ (by assumption))))) only [AX, TY, AD, mapPut, entsOf, oneV, builtinV, idsOf, mapId, touchB, Nat.reduceLT, Nat.reduceLeDiff, Nat.reduceEqDiff, Nat.reduceAdd, Nat.reduceMul, Int.reduceBEq, Int.reduceEq, Int.reduceNeg, Int.reduceLT, Int.reduceLE, Int.reduceAdd, Int.reduceSub, Int.reduceMul, Int.reduceToNat, Int.reduceGT, Nat.reduceBEq, Nat.reducePow, Nat.reduceGT, reduceCtorEq, ↓reduceIte, t1, t7, t9, t14, t36, t37, t38]
    repeat' (first | assumption | refine And.intro ?_ ?_)
    all_goals first | rfl | omega | (simp; done) | (simp; omega; done) | skip
  clear t1 t7 t9 t14 t36 t37 t38 t75 t76 t77
  rintro m3 τ4 _ ⟨rfl, k2, hm3, t1, t7, t9, t14, t36, t37, t38, t90, t91, t92⟩
  by_cases h6 : (k2 : Int) < (zs.length : Int)
  · have hk : k2 < zs.length := by omega
    have hlb := sl7.load0 (.refl _) hk (m := 1) (by decide)
    have hz := hzy _ (List.getElem_mem hk)
    generalize zs[k2] = z at hlb hz
    simp only [ei, List.take] at hlb
    have hget := mc7.get (k := z) (z := false) (w := true) (by rw [hz]; rfl)
    simp only [encB] at hget
    have hb7 := mc7.blk
    simp -dsimp (disch := first | with_reducible assumption | omega | (intro h_; cases h_; done) | (simp only [LN] <;> omega) | (simp only [LF]; done) | (repeat (first | with_reducible assumption | apply Ext.refl | apply Ext.app | (apply Ext.set <;> omega) | (refine Ext.trans ?_ (by assumption))))) only [AX, TY, AD, mapPut, entsOf, oneV, builtinV, idsOf, mapId, touchB, Nat.reduceLT, Nat.reduceLeDiff, Nat.reduceEqDiff, Nat.reduceAdd, Nat.reduceMul, Int.reduceBEq, Int.reduceEq, Int.reduceNeg, Int.reduceLT, Int.reduceLE, Int.reduceAdd, Int.reduceSub, Int.reduceMul, Int.reduceToNat, Int.reduceGT, Nat.reduceBEq, Nat.reducePow, Nat.reduceGT, reduceCtorEq, ↓reduceIte, t1, t7, t9, t14, t36, t37, t38, t90, t91, t92, h6, hlb, hb7, hget, wrap_in]
    refine ⟨m3 - 1, by omega, k2 + 1, ?_⟩
    repeat' (first | assumption | refine And.intro ?_ ?_)
    all_goals first | rfl | omega | (simp; done) | (simp; omega; done) | skip
  simp -dsimp (disch := first | with_reducible assumption | omega | (intro h_; cases h_; done) | (simp only [LN] <;> omega) | (simp only [LF]; done) | (repeat (first | with_reducible assumption | apply Ext.refl | apply Ext.app | (apply Ext.set <;> omega) | (refine Ext.trans ?_ (by assumption))))) only [AX, TY, AD, mapPut, entsOf, oneV, builtinV, idsOf, mapId, touchB, Nat.reduceLT, Nat.reduceLeDiff, Nat.reduceEqDiff, Nat.reduceAdd, Nat.reduceMul, Int.reduceBEq, Int.reduceEq, Int.reduceNeg, Int.reduceLT, Int.reduceLE, Int.reduceAdd, Int.reduceSub, Int.reduceMul, Int.reduceToNat, Int.reduceGT, Nat.reduceBEq, Nat.reducePow, Nat.reduceGT, reduceCtorEq, ↓reduceIte, t1, t7, t9, t14, t36, t37, t38, t90, t91, t92, h6]
  refine SW.range (P := Try.prog) (H := hk) (pre := [_]) (Checked.mixed Try.checked) named hk_sound rfl rfl rfl rfl Try.underlying69 rfl rfl rfl rfl rfl rfl rfl rfl rfl rfl rfl (by decide) (by decide) (by decide) (by decide) (by decide) (by decide) ?_
  simp -dsimp (disch := first | with_reducible assumption | omega | (intro h_; cases h_; done) | (simp only [LN] <;> omega) | (simp only [LF]; done) | (repeat (first | with_reducible assumption | apply Ext.refl | apply Ext.app | (apply Ext.set <;> omega) | (refine Ext.trans ?_ (by assumption))))) only [AX, TY, AD, mapPut, entsOf, oneV, builtinV, idsOf, mapId, touchB, Nat.reduceLT, Nat.reduceLeDiff, Nat.reduceEqDiff, Nat.reduceAdd, Nat.reduceMul, Int.reduceBEq, Int.reduceEq, Int.reduceNeg, Int.reduceLT, Int.reduceLE, Int.reduceAdd, Int.reduceSub, Int.reduceMul, Int.reduceToNat, Int.reduceGT, Nat.reduceBEq, Nat.reducePow, Nat.reduceGT, reduceCtorEq, ↓reduceIte, t1, t7, t9, t14, t36, t37, t38]
  refine ⟨h0.length, gents encI ms2, cl2, fun done τ hh => τ 1 = .int .i64 frames ∧ τ 7 = .ptr (some (h1.length, 0)) ∧ τ 9 = .map (some h0.length) ∧ τ 14 = .map (some hh2.length) ∧ τ 36 = .slice p l.length c ∧ τ 37 = .int .i64 l.length ∧ τ 38 = .int .i64 i ∧ τ 102 = .ptr (some (h7.length, 0)) ∧ Mid h.length h0 I pages frames (i + 1) S' oid' hh ∧ MapP encI hh h0.length (ownP I oid') ms2 cl2 ∧ MapP encB hh hh2.length (ownP I oid') CM ccl ∧ hh[h7.length]? = some .dead, ?_, mp7.blk, mp7.ok.ents _, ?_, ?_⟩
  · simp -dsimp (disch := first | with_reducible assumption | omega | (intro h_; cases h_; done) | (simp only [LN] <;> omega) | (simp only [LF]; done) | (repeat (first | with_reducible assumption | apply Ext.refl | apply Ext.app | (apply Ext.set <;> omega) | (refine Ext.trans ?_ (by assumption))))) only [AX, TY, AD, mapPut, entsOf, oneV, builtinV, idsOf, mapId, touchB, Nat.reduceLT, Nat.reduceLeDiff, Nat.reduceEqDiff, Nat.reduceAdd, Nat.reduceMul, Int.reduceBEq, Int.reduceEq, Int.reduceNeg, Int.reduceLT, Int.reduceLE, Int.reduceAdd, Int.reduceSub, Int.reduceMul, Int.reduceToNat, Int.reduceGT, Nat.reduceBEq, Nat.reducePow, Nat.reduceGT, reduceCtorEq, ↓reduceIte, t1, t7, t9, t14, t36, t37, t38]
  · have mid8 := mid7.ext (h2 := h7 ++ [.dead]) (by (repeat (first | assumption | apply Ext.refl | apply Ext.app | (apply Ext.set <;> omega) | exact Ext.trans (by assumption) (by assumption) | (refine Ext.trans ?_ (by assumption)))))
    have mp8 := mp7.ext (h2 := h7 ++ [.dead]) (by (repeat (first | assumption | apply Ext.refl | apply Ext.app | (apply Ext.set <;> omega) | exact Ext.trans (by assumption) (by assumption) | (refine Ext.trans ?_ (by assumption)))))
    have mc8 := mc7.ext (h2 := h7 ++ [.dead]) (by (repeat (first | assumption | apply Ext.refl | apply Ext.app | (apply Ext.set <;> omega) | exact Ext.trans (by assumption) (by assumption) | (refine Ext.trans ?_ (by assumption)))))
    have hd8 : (h7 ++ [O.dead])[h7.length]? = some .dead := snoc_last _ rfl
    simp -dsimp (disch := first | with_reducible assumption | omega | (intro h_; cases h_; done) | (simp only [LN] <;> omega) | (simp only [LF]; done) | (repeat (first | with_reducible assumption | apply Ext.refl | apply Ext.app | (apply Ext.set <;> omega) | (refine Ext.trans ?_ (by assumption))))) only [AX, TY, AD, mapPut, entsOf, oneV, builtinV, idsOf, mapId, touchB, Nat.reduceLT, Nat.reduceLeDiff, Nat.reduceEqDiff, Nat.reduceAdd, Nat.reduceMul, Int.reduceBEq, Int.reduceEq, Int.reduceNeg, Int.reduceLT, Int.reduceLE, Int.reduceAdd, Int.reduceSub, Int.reduceMul, Int.reduceToNat, Int.reduceGT, Nat.reduceBEq, Nat.reducePow, Nat.reduceGT, reduceCtorEq, ↓reduceIte, t1, t7, t9, t14, t36, t37, t38]
    repeat' (first | assumption | refine And.intro ?_ ?_)
    all_goals first | rfl | omega | (simp; done) | (simp; omega; done) | skip
  clear t1 t7 t9 t14 t36 t37 t38 t90 t91 t92
  rintro done τ5 hh8 ⟨t1, t7, t9, t14, t36, t37, t38, t102, mid8, mp8, mc8, hd8⟩
  have hx8 := (slK mid8).2
  refine ⟨t102, mp8.blk, hd8, fun en hen hnd => ?_, fun hall => ?_⟩
  rotate_left
  · simp only [outQ_norm, thenQ_norm]
    simp -dsimp (disch := first | with_reducible assumption | omega | (intro h_; cases h_; done) | (simp only [LN] <;> omega) | (simp only [LF]; done) | (repeat (first | with_reducible assumption | apply Ext.refl | apply Ext.app | (apply Ext.set <;> omega) | (refine Ext.trans ?_ (by assumption))))) only [AX, TY, AD, mapPut, entsOf, oneV, builtinV, idsOf, mapId, touchB, Nat.reduceLT, Nat.reduceLeDiff, Nat.reduceEqDiff, Nat.reduceAdd, Nat.reduceMul, Int.reduceBEq, Int.reduceEq, Int.reduceNeg, Int.reduceLT, Int.reduceLE, Int.reduceAdd, Int.reduceSub, Int.reduceMul, Int.reduceToNat, Int.reduceGT, Nat.reduceBEq, Nat.reducePow, Nat.reduceGT, reduceCtorEq, ↓reduceIte, t1, t7, t9, t14, t36, t37, t38]
    refine ⟨S', oid', ms2, cl2, ?_⟩
    repeat' (first | assumption | refine And.intro ?_ ?_)
    all_goals first | rfl | omega | (simp; done) | (simp; omega; done) | skip
  obtain ⟨m, hm, rfl⟩ := List.mem_map.1 hen
  have hgm := getG_mem mp8.ok hm
  have hpv := hpn2 m.k
  rw [hgm] at hpv
  have hpv' : pinsOf S' m.k = m.v := hpv.symm
  have hpc := pins_c mid8.at' m.k
  rw [hpv'] at hpc
  have hr0 := (pinsOf_range mid8.inv m.k).1
  rw [hpv'] at hr0
  have hneg : ¬ m.v < 0 := by omega
  simp -dsimp (disch := first | with_reducible assumption | omega | (intro h_; cases h_; done) | (simp only [LN] <;> omega) | (simp only [LF]; done) | (repeat (first | with_reducible assumption | apply Ext.refl | apply Ext.app | (apply Ext.set <;> omega) | (refine Ext.trans ?_ (by assumption))))) only [AX, TY, AD, mapPut, entsOf, oneV, builtinV, idsOf, mapId, touchB, Nat.reduceLT, Nat.reduceLeDiff, Nat.reduceEqDiff, Nat.reduceAdd, Nat.reduceMul, Int.reduceBEq, Int.reduceEq, Int.reduceNeg, Int.reduceLT, Int.reduceLE, Int.reduceAdd, Int.reduceSub, Int.reduceMul, Int.reduceToNat, Int.reduceGT, Nat.reduceBEq, Nat.reducePow, Nat.reduceGT, reduceCtorEq, ↓reduceIte, t1, t7, t9, t14, t36, t37, t38, t102, encI]
  refine SW.of (P := Try.prog) (Checked.mixed Try.checked) named hk_sound ?_
  simp -dsimp (disch := first | with_reducible assumption | omega | (intro h_; cases h_; done) | (simp only [LN] <;> omega) | (simp only [LF]; done) | (repeat (first | with_reducible assumption | apply Ext.refl | apply Ext.app | (apply Ext.set <;> omega) | (refine Ext.trans ?_ (by assumption))))) only [AX, TY, AD, mapPut, entsOf, oneV, builtinV, idsOf, mapId, touchB, Nat.reduceLT, Nat.reduceLeDiff, Nat.reduceEqDiff, Nat.reduceAdd, Nat.reduceMul, Int.reduceBEq, Int.reduceEq, Int.reduceNeg, Int.reduceLT, Int.reduceLE, Int.reduceAdd, Int.reduceSub, Int.reduceMul, Int.reduceToNat, Int.reduceGT, Nat.reduceBEq, Nat.reducePow, Nat.reduceGT, reduceCtorEq, ↓reduceIte, t1, t7, t9, t14, t36, t37, t38, t102, loadN_fact hx8]
  refine hpc.mono ?_
  rintro _ h9 ⟨e9, rfl⟩
  have mid9 := mid8.ext e9
  have mp9 := mp8.ext e9
  have mc9 := mc8.ext e9
  have hd9 := e9 _ _ hd8
  by_cases hpos : 0 < m.v
  · have hin : getG m.k CM = some true := by
      refine hcm _ (hp4.mem_iff.2 (mem_cached.2 ?_))
      cases q : findF m.k S'.frames with
      | none =>
        have : pinsOf S' m.k = 0 := by unfold pinsOf; rw [q]
        omega
      | some j => exact ⟨j, rfl⟩
    have hget := mc9.get (k := m.k) (z := false) (w := true) (by rw [hin]; rfl)
    simp only [encB] at hget
    have hb9 := mc9.blk
    simp -dsimp (disch := first | with_reducible assumption | omega | (intro h_; cases h_; done) | (simp only [LN] <;> omega) | (simp only [LF]; done) | (repeat (first | with_reducible assumption | apply Ext.refl | apply Ext.app | (apply Ext.set <;> omega) | (refine Ext.trans ?_ (by assumption))))) only [AX, TY, AD, mapPut, entsOf, oneV, builtinV, idsOf, mapId, touchB, Nat.reduceLT, Nat.reduceLeDiff, Nat.reduceEqDiff, Nat.reduceAdd, Nat.reduceMul, Int.reduceBEq, Int.reduceEq, Int.reduceNeg, Int.reduceLT, Int.reduceLE, Int.reduceAdd, Int.reduceSub, Int.reduceMul, Int.reduceToNat, Int.reduceGT, Nat.reduceBEq, Nat.reducePow, Nat.reduceGT, reduceCtorEq, ↓reduceIte, t1, t7, t9, t14, t36, t37, t38, t102, eq_true hpos, hpos, hneg, hb9, hget]
    repeat' (first | assumption | refine And.intro ?_ ?_)
    all_goals first | rfl | omega | (simp; done) | (simp; omega; done) | skip
  · simp -dsimp (disch := first | with_reducible assumption | omega | (intro h_; cases h_; done) | (simp only [LN] <;> omega) | (simp only [LF]; done) | (repeat (first | with_reducible assumption | apply Ext.refl | apply Ext.app | (apply Ext.set <;> omega) | (refine Ext.trans ?_ (by assumption))))) only [AX, TY, AD, mapPut, entsOf, oneV, builtinV, idsOf, mapId, touchB, Nat.reduceLT, Nat.reduceLeDiff, Nat.reduceEqDiff, Nat.reduceAdd, Nat.reduceMul, Int.reduceBEq, Int.reduceEq, Int.reduceNeg, Int.reduceLT, Int.reduceLE, Int.reduceAdd, Int.reduceSub, Int.reduceMul, Int.reduceToNat, Int.reduceGT, Nat.reduceBEq, Nat.reducePow, Nat.reduceGT, reduceCtorEq, ↓reduceIte, t1, t7, t9, t14, t36, t37, t38, t102, hpos, hneg]
    repeat' (first | assumption | refine And.intro ?_ ?_)
    all_goals first | rfl | omega | (simp; done) | (simp; omega; done) | skip
theorem row8 {h : Heap} (a0 a1 a2 : V) (v0 : ArgV false (.int .i64) h a0) (v1 : ArgV false (.int .i64) h a1) (v2 : ArgV false (.slice 4 32 kCl) h a2) : SR Try.prog 8 [a0, a1, a2] h fun r h' => r = .bool true := by
  obtain ⟨a, rfl, _⟩ := v0.int
  obtain ⟨b, rfl, _⟩ := v1.int
  obtain ⟨p, c, l, rfl, hs, hc⟩ := v2.cls
  exact law8_ok hs (fun c hc' => (hc c hc').1) a b
end Go.Proofs.YtmjfhckioaempaaA
