/- Words of this session: chapter 16: maps of pages; BufferpoolContents. Words of this session: chapter 16: BufferpoolSurvives. Words of this session: chapter 16: BufferpoolSurvives. -/
import Derived.Test.YtmjfhckioaempaaPV
namespace Go.Proofs.YtmjfhckioaempaaA
open Go Go.Proofs Go.RowKit
set_option linter.unusedVariables false
set_option linter.unusedSimpArgs false
set_option maxRecDepth 10000
set_option maxHeartbeats 4000000
/-- An entry of a map of pages. -/
structure Me where
  p : Option (Nat × Nat)
  c : Option Nat
  data : List Int
  born : Nat
theorem keySame_int (a b : Int) : keySame (.int .i64 a) (.int .i64 b) = some (a == b) := by unfold keySame; exact if_pos rfl
def entsV : Nat → List Me → List (V × V × Nat)
  | _, [] => []
  | k, m :: ms => (.int .i64 k, .slice m.p m.data.length m.c, m.born) :: entsV (k + 1) ms
theorem entsV_app (k : Nat) (a : List Me) (b : Me) : entsV k (a ++ [b]) = entsV k a ++ [(.int .i64 ((k + a.length : Nat) : Int), .slice b.p b.data.length b.c, b.born)] := by
  induction a generalizing k with
  | nil => rfl
  | cons m a ih =>
    show _ :: entsV (k + 1) (a ++ [b]) = _
    rw [ih, List.length_cons, show k + 1 + a.length = k + (a.length + 1) by omega]
    rfl
theorem entsV_len (k : Nat) (a : List Me) : (entsV k a).length = a.length := by
  induction a generalizing k with
  | nil => rfl
  | cons m a ih => show (entsV (k + 1) a).length + 1 = _; rw [ih]; rfl
theorem find_in {k n i : Nat} {ms : List Me} (h1 : k ≤ n) (h2 : n - k < ms.length) : findV (.int .i64 (n : Int)) (entsV k ms) i = some (some (i + (n - k), .slice (ms[n - k]).p (ms[n - k]).data.length (ms[n - k]).c, (ms[n - k]).born)) := by
  induction ms generalizing k i with
  | nil => simp at h2
  | cons m ms ih =>
    show (match keySame (.int .i64 (n : Int)) (.int .i64 (k : Int)) with
      | some true => some (some (i, V.slice m.p m.data.length m.c, m.born))
      | some false => findV (.int .i64 (n : Int)) (entsV (k + 1) ms) (i + 1)
      | none => none) = _
    rw [keySame_int]
    by_cases c : n = k
    · subst c
      simp
    · have : ((n : Int) == (k : Int)) = false := by simp; omega
      rw [this]
      simp only []
      rw [ih (by omega) (by simp at h2; omega)]
      have e : n - k = (n - (k + 1)) + 1 := by omega
      simp only [e, List.getElem_cons_succ]
      congr 3; omega
theorem find_out {k : Nat} {n : Int} {i : Nat} {ms : List Me} (h : n < k ∨ (k + ms.length : Int) ≤ n) : findV (.int .i64 n) (entsV k ms) i = some none := by
  induction ms generalizing k i with
  | nil => rfl
  | cons m ms ih =>
    show (match keySame (.int .i64 n) (.int .i64 (k : Int)) with
      | some true => some (some (i, V.slice m.p m.data.length m.c, m.born))
      | some false => findV (.int .i64 n) (entsV (k + 1) ms) (i + 1)
      | none => none) = _
    rw [keySame_int]
    rw [List.length_cons] at h
    have : (n == (k : Int)) = false := by simp; omega
    rw [this]
    simp only []
    exact ih (by omega)
theorem entsV_set {k j : Nat} {ms : List Me} {m : Me} (hj : j < ms.length) (hb : m.born = (ms[j]).born) : (entsV k ms).set j (.int .i64 ((k + j : Nat) : Int), .slice m.p m.data.length m.c, (ms[j]).born) = entsV k (ms.set j m) := by
  induction ms generalizing k j with
  | nil => simp at hj
  | cons x ms ih =>
    cases j with
    | zero =>
      show (V.int .i64 ((k + 0 : Nat) : Int), V.slice m.p m.data.length m.c, x.born) :: entsV (k + 1) ms = _
      show _ = (V.int .i64 (k : Int), V.slice m.p m.data.length m.c, m.born) :: entsV (k + 1) ms
      rw [hb]; rfl
    | succ j =>
      show (V.int .i64 (k : Int), V.slice x.p x.data.length x.c, x.born) :: (entsV (k + 1) ms).set j (V.int .i64 ((k + (j + 1) : Nat) : Int), V.slice m.p m.data.length m.c, (ms[j]'(by simp at hj; omega)).born) = _
      have := ih (k := k + 1) (j := j) (by simp at hj; omega) hb
      rw [show k + 1 + j = k + (j + 1) by omega] at this
      rw [this]; rfl
/-- A map of pages in memory; its blocks are none of the pool's. -/
structure MapAt (hh : Heap) (mb : Nat) (own : Nat → Prop) (ms : List Me) : Prop where
  blk : ∃ clock, hh[mb]? = some (.map (entsV 0 ms) clock)
  no : ¬ own mb
  dat : ∀ m ∈ ms, Sl hh m.p 1 eb m.data ∧ ∀ a o, m.p = some (a, o) → ¬ own a
theorem MapAt.kp {h1 h2 : Heap} {mb : Nat} {o1 o2 : Nat → Prop} {ms : List Me} (m : MapAt h1 mb o1 ms) (k : Kp h1 h2 o1 o2) : MapAt h2 mb o2 ms := by
  obtain ⟨⟨cl, h⟩, hn, hd⟩ := m
  exact ⟨⟨cl, k.get h hn⟩, k.not (lt_of_some h) hn, fun x hx => ⟨(hd x hx).1.keep fun a o z => k.fr a ((hd x hx).1.lt z) ((hd x hx).2 a o z), fun a o z => k.not ((hd x hx).1.lt z) ((hd x hx).2 a o z)⟩⟩
theorem MapAt.ext {h1 h2 : Heap} {mb : Nat} {o1 : Nat → Prop} {ms : List Me} (m : MapAt h1 mb o1 ms) (e : Ext h1 h2) : MapAt h2 mb o1 ms := m.kp (Kp.ext e _)
theorem Sl.neMap {h : Heap} {mb cl : Nat} {es : List (V × V × Nat)} (hm : h[mb]? = some (.map es cl)) {p : Option (Nat × Nat)} {ys : List Int} (s : Sl h p 1 eb ys) : ∀ a o, p = some (a, o) → a ≠ mb := fun a o z e => by
  obtain ⟨C, k, h1, _⟩ := s.reads a o z
  rw [e, hm] at h1; cases h1
/-- The map's block is stored to. -/
theorem Mid.put {b : Nat} {h0 : Heap} {I : Ids} {pages frames i : Nat} {S : Bp} {oid : Option Nat} {hh : Heap} (m : Mid b h0 I pages frames i S oid hh) {mb cl cl' : Nat} {es es' : List (V × V × Nat)} (hm : hh[mb]? = some (.map es cl)) (hn : ¬ ownP I oid mb) (h0m : h0.length ≤ mb) :
    Mid b h0 I pages frames i S oid (hh.set mb (.map es' cl')) := by
  refine ⟨m.at'.keepX (x := mb) (by rw [List.length_set]; exact Nat.le_refl _) (fun j _ hj => set_other _ hj) hn (fun f hf => Sl.neMap hm (m.at'.dat f hf).1.sl) (fun w hw => Sl.neMap hm (m.at'.dk.dat w hw).1.sl), m.inv, m.pages, m.frames, ⟨by rw [List.length_set]; exact m.kp.le, fun j hj hn' => ?_, m.kp.ow⟩⟩
  rw [set_other _ (by omega)]; exact m.kp.fr j hj hn'
/-- An entry is written anew. -/
theorem MapAt.put {hh : Heap} {mb n : Nat} {own : Nat → Prop} {ms : List Me} (m : MapAt hh mb own ms) {cl : Nat} (hb : hh[mb]? = some (.map (entsV 0 ms) cl)) (hn : n < ms.length) {p : Option (Nat × Nat)} {c : Option Nat} {data : List Int} (hd : Sl hh p 1 eb data) (hp : ∀ a o, p = some (a, o) → ¬ own a) :
    MapAt (hh.set mb (.map ((entsV 0 ms).set n (.int .i64 (n : Int), .slice p data.length c, (ms[n]).born)) cl)) mb own (ms.set n ⟨p, c, data, (ms[n]).born⟩) := by
  have hlt := lt_of_some hb
  refine ⟨⟨cl, ?_⟩, m.no, fun x hx => ?_⟩
  · rw [set_same _ hlt]
    have := entsV_set (k := 0) hn (m := ⟨p, c, data, (ms[n]).born⟩) rfl
    rw [Nat.zero_add] at this
    rw [← this]
  · rcases List.mem_or_eq_of_mem_set hx with hx | rfl
    · exact ⟨(m.dat x hx).1.keep fun a o z => set_other _ (Sl.neMap hb (m.dat x hx).1 a o z), (m.dat x hx).2⟩
    · exact ⟨hd.keep fun a o z => set_other _ (Sl.neMap hb hd a o z), hp⟩
theorem MapAt.add {hh : Heap} {mb : Nat} {own : Nat → Prop} {ms : List Me} (m : MapAt hh mb own ms) {cl : Nat} (hb : hh[mb]? = some (.map (entsV 0 ms) cl)) {p : Option (Nat × Nat)} {c : Option Nat} {data : List Int} (hd : Sl hh p 1 eb data) (hp : ∀ a o, p = some (a, o) → ¬ own a) :
    MapAt (hh.set mb (.map (entsV 0 ms ++ [(.int .i64 (ms.length : Int), .slice p data.length c, cl)]) (cl + 1))) mb own (ms ++ [⟨p, c, data, cl⟩]) := by
  have hlt := lt_of_some hb
  refine ⟨⟨cl + 1, ?_⟩, m.no, fun x hx => ?_⟩
  · rw [set_same _ hlt, entsV_app, Nat.zero_add]
  · rcases List.mem_append.1 hx with hx | hx
    · exact ⟨(m.dat x hx).1.keep fun a o z => set_other _ (Sl.neMap hb (m.dat x hx).1 a o z), (m.dat x hx).2⟩
    · rw [List.mem_singleton] at hx
      subst hx
      exact ⟨hd.keep fun a o z => set_other _ (Sl.neMap hb hd a o z), hp⟩
theorem holds_init {D : Dk} {pages frames k : Nat} (h1 : D.pend = []) (h2 : ∀ k, k < pages → pg D.dur k = fillB k) (hk : k < pages) : Holds ⟨D, pages, List.replicate frames emptyFr, 0, 0⟩ k (fillB k) := by
  refine .inr ⟨fun f hf q => ?_, ?_⟩
  · obtain ⟨_, rfl⟩ := List.mem_replicate.1 hf
    have : (-1 : Int) = (k : Int) := q
    omega
  · show _ = pg (cur D) k
    unfold cur
    rw [h1]
    exact (h2 k hk).symm
theorem law4_ok {h : Heap} {p : Option (Nat × Nat)} {c : Option Nat} {l : List Cl} (hs : Sl h p 4 Cl.enc l) (hcn : ∀ c ∈ l, c.n ≤ 9223372036854775807) (pages frames : Int) :
    WR (callE Try.prog hk 4 [.int .i64 pages, .int .i64 frames, .slice p l.length c] h) fun r h' => r = .bool true := by
  have hn := hs.nil'
  have hl := hs.small
  refine WR.call (hH := rfl) Try.func4 rfl (n := 98) rfl rfl (by simp) ?_
  simp -dsimp (disch := first | with_reducible assumption | omega | (intro h_; cases h_; done) | (simp only [LN] <;> omega) | (simp only [LF]; done) | (repeat (first | with_reducible assumption | apply Ext.refl | apply Ext.app | (apply Ext.set <;> omega) | (refine Ext.trans ?_ (by assumption))))) only [AX, TY, gV, dstOf, p_makeFunc, p_mapUpdate, mapPut, entsOf, p_lookup, p_extract, p_nilCheck, oneV, p_load, p_store, p_binOp, p_unOp, p_indexAddr, p_index, p_box, p_build, evParts, builtinV, load1, ldc, splice, minds, disj, rcOf, isCall, touchV, idsOf, mapId, touchB, p_buildSlice, buildSliceV, reps, fillV, p_convert, p_slice, evO, p_makeSlice, sid_some, soff_some, Nat.reduceLT, Nat.reduceLeDiff, Nat.reduceEqDiff, Nat.reduceAdd, Nat.reduceMul, Int.reduceBEq, Int.reduceEq, Int.reduceNeg, Int.reduceLT, Int.reduceLE, Int.reduceAdd, Int.reduceSub, Int.reduceMul, Int.reduceToNat, Int.reduceGT, Nat.reduceBEq, Nat.reducePow, Nat.reduceGT, reduceCtorEq, ↓reduceIte]
  refine (few16_ok hs pages frames).mono ?_
  rintro _ _ ⟨rfl, fb, rfl, hfb⟩
  cases fb
  · simp -dsimp (disch := first | with_reducible assumption | omega | (intro h_; cases h_; done) | (simp only [LN] <;> omega) | (simp only [LF]; done) | (repeat (first | with_reducible assumption | apply Ext.refl | apply Ext.app | (apply Ext.set <;> omega) | (refine Ext.trans ?_ (by assumption))))) only [AX, TY, gV, dstOf, p_makeFunc, p_mapUpdate, mapPut, entsOf, p_lookup, p_extract, p_nilCheck, oneV, p_load, p_store, p_binOp, p_unOp, p_indexAddr, p_index, p_box, p_build, evParts, builtinV, load1, ldc, splice, minds, disj, rcOf, isCall, touchV, idsOf, mapId, touchB, p_buildSlice, buildSliceV, reps, fillV, p_convert, p_slice, evO, p_makeSlice, sid_some, soff_some, Nat.reduceLT, Nat.reduceLeDiff, Nat.reduceEqDiff, Nat.reduceAdd, Nat.reduceMul, Int.reduceBEq, Int.reduceEq, Int.reduceNeg, Int.reduceLT, Int.reduceLE, Int.reduceAdd, Int.reduceSub, Int.reduceMul, Int.reduceToNat, Int.reduceGT, Nat.reduceBEq, Nat.reducePow, Nat.reduceGT, reduceCtorEq, ↓reduceIte]
    refine awake_ok.mono ?_
    rintro _ h3 rfl
    simp -dsimp (disch := first | with_reducible assumption | omega | (intro h_; cases h_; done) | (simp only [LN] <;> omega) | (simp only [LF]; done) | (repeat (first | with_reducible assumption | apply Ext.refl | apply Ext.app | (apply Ext.set <;> omega) | (refine Ext.trans ?_ (by assumption))))) only [AX, TY, gV, dstOf, p_makeFunc, p_mapUpdate, mapPut, entsOf, p_lookup, p_extract, p_nilCheck, oneV, p_load, p_store, p_binOp, p_unOp, p_indexAddr, p_index, p_box, p_build, evParts, builtinV, load1, ldc, splice, minds, disj, rcOf, isCall, touchV, idsOf, mapId, touchB, p_buildSlice, buildSliceV, reps, fillV, p_convert, p_slice, evO, p_makeSlice, sid_some, soff_some, Nat.reduceLT, Nat.reduceLeDiff, Nat.reduceEqDiff, Nat.reduceAdd, Nat.reduceMul, Int.reduceBEq, Int.reduceEq, Int.reduceNeg, Int.reduceLT, Int.reduceLE, Int.reduceAdd, Int.reduceSub, Int.reduceMul, Int.reduceToNat, Int.reduceGT, Nat.reduceBEq, Nat.reducePow, Nat.reduceGT, reduceCtorEq, ↓reduceIte]
  obtain ⟨b1, b2, b3, b4, b5, b6⟩ := hfb rfl
  obtain ⟨pages, rfl⟩ := Int.eq_ofNat_of_zero_le (show 0 ≤ pages by omega)
  obtain ⟨frames, rfl⟩ := Int.eq_ofNat_of_zero_le (show 0 ≤ frames by omega)
  simp -dsimp (disch := first | with_reducible assumption | omega | (intro h_; cases h_; done) | (simp only [LN] <;> omega) | (simp only [LF]; done) | (repeat (first | with_reducible assumption | apply Ext.refl | apply Ext.app | (apply Ext.set <;> omega) | (refine Ext.trans ?_ (by assumption))))) only [AX, TY, gV, dstOf, p_makeFunc, p_mapUpdate, mapPut, entsOf, p_lookup, p_extract, p_nilCheck, oneV, p_load, p_store, p_binOp, p_unOp, p_indexAddr, p_index, p_box, p_build, evParts, builtinV, load1, ldc, splice, minds, disj, rcOf, isCall, touchV, idsOf, mapId, touchB, p_buildSlice, buildSliceV, reps, fillV, p_convert, p_slice, evO, p_makeSlice, sid_some, soff_some, Nat.reduceLT, Nat.reduceLeDiff, Nat.reduceEqDiff, Nat.reduceAdd, Nat.reduceMul, Int.reduceBEq, Int.reduceEq, Int.reduceNeg, Int.reduceLT, Int.reduceLE, Int.reduceAdd, Int.reduceSub, Int.reduceMul, Int.reduceToNat, Int.reduceGT, Nat.reduceBEq, Nat.reducePow, Nat.reduceGT, reduceCtorEq, ↓reduceIte]
  refine (open_ok pages frames (by omega) (by omega) (by omega) (by omega)).mono ?_
  rintro _ h1 ⟨I, D, rfl, d1, hD1, hD2, hD3, hD4, hD5, e1, hb1, hb2, hb3⟩
  obtain ⟨h0, hh0, x0, e0, hl0⟩ : ∃ h0, h1 ++ [O.cells [V.ptr (some (I.di, 0)), V.ptr (some (I.pi, 0))] .rw] = h0 ∧ h0[h1.length]? = some (O.cells [V.ptr (some (I.di, 0)), V.ptr (some (I.pi, 0))] .rw) ∧ Ext h1 h0 ∧ h0.length = h1.length + 1 := ⟨_, rfl, snoc_last _ rfl, (by (repeat (first | assumption | apply Ext.refl | apply Ext.app | (apply Ext.set <;> omega) | exact Ext.trans (by assumption) (by assumption) | (refine Ext.trans ?_ (by assumption))))), by simp⟩
  have m0 : Mid h.length h0 I pages frames 0 ⟨D, pages, List.replicate frames emptyFr, 0, 0⟩ none h0 := ⟨d1.ext e0, .init hD1 hD4 (by omega) hD2 (by omega) (by omega), rfl, by simp, Kp.ext (.refl _) _⟩
  have hs0 := hs.ext (e1.trans e0)
  have hnx : ¬ ownP I none h1.length := fun q => by have := d1.lt q; omega
  have slK : ∀ {i : Nat} {S : Bp} {oid : Option Nat} {hh : Heap}, Mid h.length h0 I pages frames i S oid hh → Sl hh p 4 Cl.enc l ∧ hh[h1.length]? = some (O.cells [V.ptr (some (I.di, 0)), V.ptr (some (I.pi, 0))] .rw) := fun {i S oid hh} m => ⟨hs0.keep fun a o z => m.kp.fr a (hs0.lt z) (m0.at'.own_base hb1 hb3 (hs.lt z)), m.kp.get x0 hnx⟩
  have mm0 : Mid h.length h0 I pages frames 0 ⟨D, pages, List.replicate frames emptyFr, 0, 0⟩ none (h0 ++ [O.map [] 0]) := m0.ext (by (repeat (first | assumption | apply Ext.refl | apply Ext.app | (apply Ext.set <;> omega) | exact Ext.trans (by assumption) (by assumption) | (refine Ext.trans ?_ (by assumption)))))
  have mp0 : MapAt (h0 ++ [O.map [] 0]) h0.length (ownP I none) [] := ⟨⟨0, snoc_last _ rfl⟩, fun q => by have := m0.at'.lt q; omega, by simp⟩
  simp -dsimp (disch := first | with_reducible assumption | omega | (intro h_; cases h_; done) | (simp only [LN] <;> omega) | (simp only [LF]; done) | (repeat (first | with_reducible assumption | apply Ext.refl | apply Ext.app | (apply Ext.set <;> omega) | (refine Ext.trans ?_ (by assumption))))) only [AX, TY, gV, dstOf, p_makeFunc, p_mapUpdate, mapPut, entsOf, p_lookup, p_extract, p_nilCheck, oneV, p_load, p_store, p_binOp, p_unOp, p_indexAddr, p_index, p_box, p_build, evParts, builtinV, load1, ldc, splice, minds, disj, rcOf, isCall, touchV, idsOf, mapId, touchB, p_buildSlice, buildSliceV, reps, fillV, p_convert, p_slice, evO, p_makeSlice, sid_some, soff_some, Nat.reduceLT, Nat.reduceLeDiff, Nat.reduceEqDiff, Nat.reduceAdd, Nat.reduceMul, Int.reduceBEq, Int.reduceEq, Int.reduceNeg, Int.reduceLT, Int.reduceLE, Int.reduceAdd, Int.reduceSub, Int.reduceMul, Int.reduceToNat, Int.reduceGT, Nat.reduceBEq, Nat.reducePow, Nat.reduceGT, reduceCtorEq, ↓reduceIte, hh0]
  refine W.loop (fun m τ hh => ∃ (k : Nat) (ms : List Me), m + k = pages ∧ τ 2 = .slice p l.length c ∧ τ 7 = .ptr (some (h1.length, 0)) ∧ τ 9 = .map (some h0.length) ∧ τ 30 = .int .i64 pages ∧ τ 31 = .int .i64 k ∧ Mid h.length h0 I pages frames 0 ⟨D, pages, List.replicate frames emptyFr, 0, 0⟩ none hh ∧ MapAt hh h0.length (ownP I none) ms ∧ ms.length = k ∧ ∀ j (hj : j < ms.length), (ms[j]).data = fillB j) ?_ (m := pages) ?_
  rotate_left
  · refine ⟨0, [], ?_⟩
    simp -dsimp (disch := first | with_reducible assumption | omega | (intro h_; cases h_; done) | (simp only [LN] <;> omega) | (simp only [LF]; done) | (repeat (first | with_reducible assumption | apply Ext.refl | apply Ext.app | (apply Ext.set <;> omega) | (refine Ext.trans ?_ (by assumption))))) only [AX, TY, gV, dstOf, p_makeFunc, p_mapUpdate, mapPut, entsOf, p_lookup, p_extract, p_nilCheck, oneV, p_load, p_store, p_binOp, p_unOp, p_indexAddr, p_index, p_box, p_build, evParts, builtinV, load1, ldc, splice, minds, disj, rcOf, isCall, touchV, idsOf, mapId, touchB, p_buildSlice, buildSliceV, reps, fillV, p_convert, p_slice, evO, p_makeSlice, sid_some, soff_some, Nat.reduceLT, Nat.reduceLeDiff, Nat.reduceEqDiff, Nat.reduceAdd, Nat.reduceMul, Int.reduceBEq, Int.reduceEq, Int.reduceNeg, Int.reduceLT, Int.reduceLE, Int.reduceAdd, Int.reduceSub, Int.reduceMul, Int.reduceToNat, Int.reduceGT, Nat.reduceBEq, Nat.reducePow, Nat.reduceGT, reduceCtorEq, ↓reduceIte]
    repeat' (first | assumption | refine And.intro ?_ ?_)
    all_goals first | rfl | omega | (simp; done) | (simp; omega; done) | skip
  rintro m τ hh ⟨k, ms, hm, t2, t7, t9, t30, t31, mid, mp, hmsl, hms⟩
  by_cases h2 : (k : Int) < (pages : Int)
  · simp -dsimp (disch := first | with_reducible assumption | omega | (intro h_; cases h_; done) | (simp only [LN] <;> omega) | (simp only [LF]; done) | (repeat (first | with_reducible assumption | apply Ext.refl | apply Ext.app | (apply Ext.set <;> omega) | (refine Ext.trans ?_ (by assumption))))) only [AX, TY, gV, dstOf, p_makeFunc, p_mapUpdate, mapPut, entsOf, p_lookup, p_extract, p_nilCheck, oneV, p_load, p_store, p_binOp, p_unOp, p_indexAddr, p_index, p_box, p_build, evParts, builtinV, load1, ldc, splice, minds, disj, rcOf, isCall, touchV, idsOf, mapId, touchB, p_buildSlice, buildSliceV, reps, fillV, p_convert, p_slice, evO, p_makeSlice, sid_some, soff_some, Nat.reduceLT, Nat.reduceLeDiff, Nat.reduceEqDiff, Nat.reduceAdd, Nat.reduceMul, Int.reduceBEq, Int.reduceEq, Int.reduceNeg, Int.reduceLT, Int.reduceLE, Int.reduceAdd, Int.reduceSub, Int.reduceMul, Int.reduceToNat, Int.reduceGT, Nat.reduceBEq, Nat.reducePow, Nat.reduceGT, reduceCtorEq, ↓reduceIte, t2, t7, t9, t30, t31, h2]
    refine (data_c _ 1024 (by decide)).mono ?_
    rintro _ h4 ⟨e4, rfl, sl4⟩
    have mid4 := mid.ext e4
    have mp4 := mp.ext e4
    obtain ⟨cl, hblk⟩ := mp4.blk
    have hbl := lt_of_some hblk
    have hfd := find_out (k := 0) (n := (k : Int)) (i := 0) (ms := ms) (.inr (by omega))
    have mp5 := mp4.add hblk (c := some 1024) sl4 (fun a o z => by cases z; exact fun q => by have := mid.at'.lt q; omega)
    have mid5 := mid4.put (es' := entsV 0 ms ++ [(.int .i64 (ms.length : Int), .slice (some (hh.length, 0)) (dat (IntKind.u8.wrap (k : Int)) 1024).length (some 1024), cl)]) (cl' := cl + 1) hblk mp4.no (Nat.le_refl _)
    have hms5 : ∀ j (hj : j < (ms ++ [(⟨some (hh.length, 0), some 1024, dat (IntKind.u8.wrap (k : Int)) 1024, cl⟩ : Me)]).length), ((ms ++ [(⟨some (hh.length, 0), some 1024, dat (IntKind.u8.wrap (k : Int)) 1024, cl⟩ : Me)])[j]).data = fillB j := fun j hj => by
      rw [List.length_append, List.length_singleton] at hj
      by_cases c : j < ms.length
      · rw [List.getElem_append_left c]; exact hms j c
      · have : j = ms.length := by omega
        subst this
        simp only [List.getElem_append_right (Nat.le_refl _), Nat.sub_self, List.getElem_singleton]
        unfold fillB; rw [hmsl]
    rw [hmsl] at mp5 mid5
    have hl5 : (ms ++ [(⟨some (hh.length, 0), some 1024, dat (IntKind.u8.wrap (k : Int)) 1024, cl⟩ : Me)]).length = k + 1 := by rw [List.length_append, hmsl]; rfl
    simp -dsimp (disch := first | with_reducible assumption | omega | (intro h_; cases h_; done) | (simp only [LN] <;> omega) | (simp only [LF]; done) | (repeat (first | with_reducible assumption | apply Ext.refl | apply Ext.app | (apply Ext.set <;> omega) | (refine Ext.trans ?_ (by assumption))))) only [AX, TY, gV, dstOf, p_makeFunc, p_mapUpdate, mapPut, entsOf, p_lookup, p_extract, p_nilCheck, oneV, p_load, p_store, p_binOp, p_unOp, p_indexAddr, p_index, p_box, p_build, evParts, builtinV, load1, ldc, splice, minds, disj, rcOf, isCall, touchV, idsOf, mapId, touchB, p_buildSlice, buildSliceV, reps, fillV, p_convert, p_slice, evO, p_makeSlice, sid_some, soff_some, Nat.reduceLT, Nat.reduceLeDiff, Nat.reduceEqDiff, Nat.reduceAdd, Nat.reduceMul, Int.reduceBEq, Int.reduceEq, Int.reduceNeg, Int.reduceLT, Int.reduceLE, Int.reduceAdd, Int.reduceSub, Int.reduceMul, Int.reduceToNat, Int.reduceGT, Nat.reduceBEq, Nat.reducePow, Nat.reduceGT, reduceCtorEq, ↓reduceIte, t2, t7, t9, t30, t31, hblk, hfd, wrap_in]
    refine ⟨m - 1, by omega, k + 1, ms ++ [⟨some (hh.length, 0), some 1024, dat (IntKind.u8.wrap (k : Int)) 1024, cl⟩], ?_⟩
    repeat' (first | assumption | refine And.intro ?_ ?_)
    all_goals first | rfl | omega | (simp; done) | (simp; omega; done) | skip
  have hkp : ms.length = pages := by omega
  have hinit : ∀ k (hk : k < ms.length), Holds ⟨D, pages, List.replicate frames emptyFr, 0, 0⟩ k (ms[k]).data := fun k hk => by
    rw [hms k hk]; exact holds_init hD1 hD5 (by omega)
  have hs4 := (slK mid).1
  clear hms
  simp -dsimp (disch := first | with_reducible assumption | omega | (intro h_; cases h_; done) | (simp only [LN] <;> omega) | (simp only [LF]; done) | (repeat (first | with_reducible assumption | apply Ext.refl | apply Ext.app | (apply Ext.set <;> omega) | (refine Ext.trans ?_ (by assumption))))) only [AX, TY, gV, dstOf, p_makeFunc, p_mapUpdate, mapPut, entsOf, p_lookup, p_extract, p_nilCheck, oneV, p_load, p_store, p_binOp, p_unOp, p_indexAddr, p_index, p_box, p_build, evParts, builtinV, load1, ldc, splice, minds, disj, rcOf, isCall, touchV, idsOf, mapId, touchB, p_buildSlice, buildSliceV, reps, fillV, p_convert, p_slice, evO, p_makeSlice, sid_some, soff_some, Nat.reduceLT, Nat.reduceLeDiff, Nat.reduceEqDiff, Nat.reduceAdd, Nat.reduceMul, Int.reduceBEq, Int.reduceEq, Int.reduceNeg, Int.reduceLT, Int.reduceLE, Int.reduceAdd, Int.reduceSub, Int.reduceMul, Int.reduceToNat, Int.reduceGT, Nat.reduceBEq, Nat.reducePow, Nat.reduceGT, reduceCtorEq, ↓reduceIte, t2, t7, t9, t30, t31, h2]
  refine W.loop (fun m τ hh => ∃ (i : Nat) (S : Bp) (oid : Option Nat) (ms : List Me), m + i = l.length ∧ τ 7 = .ptr (some (h1.length, 0)) ∧ τ 9 = .map (some h0.length) ∧ τ 40 = .slice p l.length c ∧ τ 41 = .int .i64 l.length ∧ τ 42 = .int .i64 i ∧ Mid h.length h0 I pages frames i S oid hh ∧ MapAt hh h0.length (ownP I oid) ms ∧ ms.length = pages ∧ ∀ k (hk : k < ms.length), Holds S k (ms[k]).data) ?_ (m := l.length) ?_
  rotate_left
  · refine ⟨0, ⟨D, pages, List.replicate frames emptyFr, 0, 0⟩, none, ms, ?_⟩
    simp -dsimp (disch := first | with_reducible assumption | omega | (intro h_; cases h_; done) | (simp only [LN] <;> omega) | (simp only [LF]; done) | (repeat (first | with_reducible assumption | apply Ext.refl | apply Ext.app | (apply Ext.set <;> omega) | (refine Ext.trans ?_ (by assumption))))) only [AX, TY, gV, dstOf, p_makeFunc, p_mapUpdate, mapPut, entsOf, p_lookup, p_extract, p_nilCheck, oneV, p_load, p_store, p_binOp, p_unOp, p_indexAddr, p_index, p_box, p_build, evParts, builtinV, load1, ldc, splice, minds, disj, rcOf, isCall, touchV, idsOf, mapId, touchB, p_buildSlice, buildSliceV, reps, fillV, p_convert, p_slice, evO, p_makeSlice, sid_some, soff_some, Nat.reduceLT, Nat.reduceLeDiff, Nat.reduceEqDiff, Nat.reduceAdd, Nat.reduceMul, Int.reduceBEq, Int.reduceEq, Int.reduceNeg, Int.reduceLT, Int.reduceLE, Int.reduceAdd, Int.reduceSub, Int.reduceMul, Int.reduceToNat, Int.reduceGT, Nat.reduceBEq, Nat.reducePow, Nat.reduceGT, reduceCtorEq, ↓reduceIte, t2, t7, t9, t30, t31]
    repeat' (first | assumption | refine And.intro ?_ ?_)
    all_goals first | rfl | omega | (simp; done) | (simp; omega; done) | skip
  clear t2 t7 t9 t30 t31 mid mp hmsl hinit hkp hs4 hm h2
  rintro m τ hh ⟨i, S, oid, ms, hm, t7, t9, t40, t41, t42, mid, mp, hmsl, hms⟩
  obtain ⟨sl, hx⟩ := slK mid
  by_cases h2 : (i : Int) < (l.length : Int)
  rotate_left
  · simp -dsimp (disch := first | with_reducible assumption | omega | (intro h_; cases h_; done) | (simp only [LN] <;> omega) | (simp only [LF]; done) | (repeat (first | with_reducible assumption | apply Ext.refl | apply Ext.app | (apply Ext.set <;> omega) | (refine Ext.trans ?_ (by assumption))))) only [AX, TY, gV, dstOf, p_makeFunc, p_mapUpdate, mapPut, entsOf, p_lookup, p_extract, p_nilCheck, oneV, p_load, p_store, p_binOp, p_unOp, p_indexAddr, p_index, p_box, p_build, evParts, builtinV, load1, ldc, splice, minds, disj, rcOf, isCall, touchV, idsOf, mapId, touchB, p_buildSlice, buildSliceV, reps, fillV, p_convert, p_slice, evO, p_makeSlice, sid_some, soff_some, Nat.reduceLT, Nat.reduceLeDiff, Nat.reduceEqDiff, Nat.reduceAdd, Nat.reduceMul, Int.reduceBEq, Int.reduceEq, Int.reduceNeg, Int.reduceLT, Int.reduceLE, Int.reduceAdd, Int.reduceSub, Int.reduceMul, Int.reduceToNat, Int.reduceGT, Nat.reduceBEq, Nat.reducePow, Nat.reduceGT, reduceCtorEq, ↓reduceIte, t7, t9, t40, t41, t42, h2]
    refine awake_ok.mono ?_
    rintro _ h3 rfl
    simp -dsimp (disch := first | with_reducible assumption | omega | (intro h_; cases h_; done) | (simp only [LN] <;> omega) | (simp only [LF]; done) | (repeat (first | with_reducible assumption | apply Ext.refl | apply Ext.app | (apply Ext.set <;> omega) | (refine Ext.trans ?_ (by assumption))))) only [AX, TY, gV, dstOf, p_makeFunc, p_mapUpdate, mapPut, entsOf, p_lookup, p_extract, p_nilCheck, oneV, p_load, p_store, p_binOp, p_unOp, p_indexAddr, p_index, p_box, p_build, evParts, builtinV, load1, ldc, splice, minds, disj, rcOf, isCall, touchV, idsOf, mapId, touchB, p_buildSlice, buildSliceV, reps, fillV, p_convert, p_slice, evO, p_makeSlice, sid_some, soff_some, Nat.reduceLT, Nat.reduceLeDiff, Nat.reduceEqDiff, Nat.reduceAdd, Nat.reduceMul, Int.reduceBEq, Int.reduceEq, Int.reduceNeg, Int.reduceLT, Int.reduceLE, Int.reduceAdd, Int.reduceSub, Int.reduceMul, Int.reduceToNat, Int.reduceGT, Nat.reduceBEq, Nat.reducePow, Nat.reduceGT, reduceCtorEq, ↓reduceIte]
  have hi : i < l.length := by omega
  have hla := sl.load0 (.refl _) hi (m := 4) (by decide)
  have hmem := List.getElem_mem hi
  generalize l[i] = x at hla hmem
  simp only [Cl.enc, List.take] at hla
  obtain ⟨g, hg, gx, eg, hgl⟩ : ∃ g, hh ++ [O.cells (Cl.enc x) .rw] = g ∧ g[hh.length]? = some (O.cells (Cl.enc x) .rw) ∧ Ext hh g ∧ g.length = hh.length + 1 := ⟨_, rfl, snoc_last _ rfl, (by (repeat (first | assumption | apply Ext.refl | apply Ext.app | (apply Ext.set <;> omega) | exact Ext.trans (by assumption) (by assumption) | (refine Ext.trans ?_ (by assumption))))), by simp⟩
  simp only [Cl.enc] at hg gx
  have midg := mid.ext eg
  have hxg := eg _ _ hx
  have hcall := midg.call (by omega) x (b6 x hmem) (hcn x hmem)
  simp only [Cl.enc] at hcall
  simp -dsimp (disch := first | with_reducible assumption | omega | (intro h_; cases h_; done) | (simp only [LN] <;> omega) | (simp only [LF]; done) | (repeat (first | with_reducible assumption | apply Ext.refl | apply Ext.app | (apply Ext.set <;> omega) | (refine Ext.trans ?_ (by assumption))))) only [AX, TY, gV, dstOf, p_makeFunc, p_mapUpdate, mapPut, entsOf, p_lookup, p_extract, p_nilCheck, oneV, p_load, p_store, p_binOp, p_unOp, p_indexAddr, p_index, p_box, p_build, evParts, builtinV, load1, ldc, splice, minds, disj, rcOf, isCall, touchV, idsOf, mapId, touchB, p_buildSlice, buildSliceV, reps, fillV, p_convert, p_slice, evO, p_makeSlice, sid_some, soff_some, Nat.reduceLT, Nat.reduceLeDiff, Nat.reduceEqDiff, Nat.reduceAdd, Nat.reduceMul, Int.reduceBEq, Int.reduceEq, Int.reduceNeg, Int.reduceLT, Int.reduceLE, Int.reduceAdd, Int.reduceSub, Int.reduceMul, Int.reduceToNat, Int.reduceGT, Nat.reduceBEq, Nat.reducePow, Nat.reduceGT, reduceCtorEq, ↓reduceIte, t7, t9, t40, t41, t42, h2, hla, hg, loadN_fact gx, loadN_fact hxg]
  refine hcall.mono ?_
  rintro _ h6 ⟨S', oid', e, dd, cr, mid6, k6, pr, cr', rfl, slr, hpr⟩
  have hx6 := (slK mid6).2
  have gx6 := k6.get gx (fun q => by have := mid.at'.lt q; omega)
  have mp6 := (mp.ext eg).kp k6
  obtain ⟨hk1, hk2, hk3, hk4, hk5, hk6, hk7⟩ := call_keeps mid.inv (by omega) (hcn x hmem) cr
  obtain ⟨clk, hblk⟩ := mp6.blk
  by_cases c0 : x.kind = 0
  · have hms6 : ∀ k (hk : k < ms.length), Holds S' k (ms[k]).data := fun k hk => hk4 k _ (by rw [mid.pages, ← hmsl]; exact hk) (hms k hk) fun q => by omega
    by_cases he : e = 0
    · subst he
      obtain ⟨n, hn1, hn2, hn3⟩ := hk6 c0 rfl
      have hnm : n < ms.length := by rw [hmsl, ← mid.pages]; exact hn2
      have hfd := find_in (k := 0) (n := n) (i := 0) (ms := ms) (by omega) (by omega)
      simp only [Nat.sub_zero, Nat.zero_add] at hfd
      have hget : mapGet (.int .i64 (n : Int)) (.slice none 0 (some 0)) false (some (entsV 0 ms)) = some (.slice (ms[n]).p (ms[n]).data.length (ms[n]).c) := by unfold mapGet; simp only [hfd]; rfl
      have hdd : dd = (ms[n]).data := Holds.func mid.inv hn3 (hms n hnm)
      have hsm := same13_ok (c := cr') (d := (ms[n]).c) slr (mp6.dat _ (List.getElem_mem hnm)).1
      rw [decide_eq_true hdd] at hsm
      rw [hn1] at gx6
      simp -dsimp (disch := first | with_reducible assumption | omega | (intro h_; cases h_; done) | (simp only [LN] <;> omega) | (simp only [LF]; done) | (repeat (first | with_reducible assumption | apply Ext.refl | apply Ext.app | (apply Ext.set <;> omega) | (refine Ext.trans ?_ (by assumption))))) only [AX, TY, gV, dstOf, p_makeFunc, p_mapUpdate, mapPut, entsOf, p_lookup, p_extract, p_nilCheck, oneV, p_load, p_store, p_binOp, p_unOp, p_indexAddr, p_index, p_box, p_build, evParts, builtinV, load1, ldc, splice, minds, disj, rcOf, isCall, touchV, idsOf, mapId, touchB, p_buildSlice, buildSliceV, reps, fillV, p_convert, p_slice, evO, p_makeSlice, sid_some, soff_some, Nat.reduceLT, Nat.reduceLeDiff, Nat.reduceEqDiff, Nat.reduceAdd, Nat.reduceMul, Int.reduceBEq, Int.reduceEq, Int.reduceNeg, Int.reduceLT, Int.reduceLE, Int.reduceAdd, Int.reduceSub, Int.reduceMul, Int.reduceToNat, Int.reduceGT, Nat.reduceBEq, Nat.reducePow, Nat.reduceGT, reduceCtorEq, ↓reduceIte, t7, t9, t40, t41, t42, loadN_fact gx6, eq_true c0, hblk, hget]
      refine hsm.mono ?_
      rintro _ _ ⟨rfl, rfl⟩
      simp -dsimp (disch := first | with_reducible assumption | omega | (intro h_; cases h_; done) | (simp only [LN] <;> omega) | (simp only [LF]; done) | (repeat (first | with_reducible assumption | apply Ext.refl | apply Ext.app | (apply Ext.set <;> omega) | (refine Ext.trans ?_ (by assumption))))) only [AX, TY, gV, dstOf, p_makeFunc, p_mapUpdate, mapPut, entsOf, p_lookup, p_extract, p_nilCheck, oneV, p_load, p_store, p_binOp, p_unOp, p_indexAddr, p_index, p_box, p_build, evParts, builtinV, load1, ldc, splice, minds, disj, rcOf, isCall, touchV, idsOf, mapId, touchB, p_buildSlice, buildSliceV, reps, fillV, p_convert, p_slice, evO, p_makeSlice, sid_some, soff_some, Nat.reduceLT, Nat.reduceLeDiff, Nat.reduceEqDiff, Nat.reduceAdd, Nat.reduceMul, Int.reduceBEq, Int.reduceEq, Int.reduceNeg, Int.reduceLT, Int.reduceLE, Int.reduceAdd, Int.reduceSub, Int.reduceMul, Int.reduceToNat, Int.reduceGT, Nat.reduceBEq, Nat.reducePow, Nat.reduceGT, reduceCtorEq, ↓reduceIte, t7, t9, t40, t41, t42, loadN_fact gx6, eq_true c0, c0, wrap_in]
      refine ⟨m - 1, by omega, i + 1, S', oid', ms, ?_⟩
      repeat' (first | assumption | refine And.intro ?_ ?_)
      all_goals first | rfl | omega | (simp; done) | (simp; omega; done) | skip
    · simp -dsimp (disch := first | with_reducible assumption | omega | (intro h_; cases h_; done) | (simp only [LN] <;> omega) | (simp only [LF]; done) | (repeat (first | with_reducible assumption | apply Ext.refl | apply Ext.app | (apply Ext.set <;> omega) | (refine Ext.trans ?_ (by assumption))))) only [AX, TY, gV, dstOf, p_makeFunc, p_mapUpdate, mapPut, entsOf, p_lookup, p_extract, p_nilCheck, oneV, p_load, p_store, p_binOp, p_unOp, p_indexAddr, p_index, p_box, p_build, evParts, builtinV, load1, ldc, splice, minds, disj, rcOf, isCall, touchV, idsOf, mapId, touchB, p_buildSlice, buildSliceV, reps, fillV, p_convert, p_slice, evO, p_makeSlice, sid_some, soff_some, Nat.reduceLT, Nat.reduceLeDiff, Nat.reduceEqDiff, Nat.reduceAdd, Nat.reduceMul, Int.reduceBEq, Int.reduceEq, Int.reduceNeg, Int.reduceLT, Int.reduceLE, Int.reduceAdd, Int.reduceSub, Int.reduceMul, Int.reduceToNat, Int.reduceGT, Nat.reduceBEq, Nat.reducePow, Nat.reduceGT, reduceCtorEq, ↓reduceIte, t7, t9, t40, t41, t42, loadN_fact gx6, eq_true c0, c0, he, wrap_in]
      refine ⟨m - 1, by omega, i + 1, S', oid', ms, ?_⟩
      repeat' (first | assumption | refine And.intro ?_ ?_)
      all_goals first | rfl | omega | (simp; done) | (simp; omega; done) | skip
  by_cases hu : (x.kind = 1 ∨ x.kind = 6) ∧ e = 0
  rotate_left
  · have hms6 : ∀ k (hk : k < ms.length), Holds S' k (ms[k]).data := fun k hk => hk4 k _ (by rw [mid.pages, ← hmsl]; exact hk) (hms k hk) fun q => hu ⟨q.1, q.2.1⟩
    by_cases he : e = 0
    · have c1 : ¬ x.kind = 1 := fun q => hu ⟨.inl q, he⟩
      have c6 : ¬ x.kind = 6 := fun q => hu ⟨.inr q, he⟩
      simp -dsimp (disch := first | with_reducible assumption | omega | (intro h_; cases h_; done) | (simp only [LN] <;> omega) | (simp only [LF]; done) | (repeat (first | with_reducible assumption | apply Ext.refl | apply Ext.app | (apply Ext.set <;> omega) | (refine Ext.trans ?_ (by assumption))))) only [AX, TY, gV, dstOf, p_makeFunc, p_mapUpdate, mapPut, entsOf, p_lookup, p_extract, p_nilCheck, oneV, p_load, p_store, p_binOp, p_unOp, p_indexAddr, p_index, p_box, p_build, evParts, builtinV, load1, ldc, splice, minds, disj, rcOf, isCall, touchV, idsOf, mapId, touchB, p_buildSlice, buildSliceV, reps, fillV, p_convert, p_slice, evO, p_makeSlice, sid_some, soff_some, Nat.reduceLT, Nat.reduceLeDiff, Nat.reduceEqDiff, Nat.reduceAdd, Nat.reduceMul, Int.reduceBEq, Int.reduceEq, Int.reduceNeg, Int.reduceLT, Int.reduceLE, Int.reduceAdd, Int.reduceSub, Int.reduceMul, Int.reduceToNat, Int.reduceGT, Nat.reduceBEq, Nat.reducePow, Nat.reduceGT, reduceCtorEq, ↓reduceIte, t7, t9, t40, t41, t42, loadN_fact gx6, c0, c1, c6, wrap_in]
      refine ⟨m - 1, by omega, i + 1, S', oid', ms, ?_⟩
      repeat' (first | assumption | refine And.intro ?_ ?_)
      all_goals first | rfl | omega | (simp; done) | (simp; omega; done) | skip
    · by_cases c1 : x.kind = 1
      · have c6 : ¬ x.kind = 6 := by omega
        simp -dsimp (disch := first | with_reducible assumption | omega | (intro h_; cases h_; done) | (simp only [LN] <;> omega) | (simp only [LF]; done) | (repeat (first | with_reducible assumption | apply Ext.refl | apply Ext.app | (apply Ext.set <;> omega) | (refine Ext.trans ?_ (by assumption))))) only [AX, TY, gV, dstOf, p_makeFunc, p_mapUpdate, mapPut, entsOf, p_lookup, p_extract, p_nilCheck, oneV, p_load, p_store, p_binOp, p_unOp, p_indexAddr, p_index, p_box, p_build, evParts, builtinV, load1, ldc, splice, minds, disj, rcOf, isCall, touchV, idsOf, mapId, touchB, p_buildSlice, buildSliceV, reps, fillV, p_convert, p_slice, evO, p_makeSlice, sid_some, soff_some, Nat.reduceLT, Nat.reduceLeDiff, Nat.reduceEqDiff, Nat.reduceAdd, Nat.reduceMul, Int.reduceBEq, Int.reduceEq, Int.reduceNeg, Int.reduceLT, Int.reduceLE, Int.reduceAdd, Int.reduceSub, Int.reduceMul, Int.reduceToNat, Int.reduceGT, Nat.reduceBEq, Nat.reducePow, Nat.reduceGT, reduceCtorEq, ↓reduceIte, t7, t9, t40, t41, t42, loadN_fact gx6, c0, eq_true c1, c1, c6, he, wrap_in]
        refine ⟨m - 1, by omega, i + 1, S', oid', ms, ?_⟩
        repeat' (first | assumption | refine And.intro ?_ ?_)
        all_goals first | rfl | omega | (simp; done) | (simp; omega; done) | skip
      · by_cases c6 : x.kind = 6
        · simp -dsimp (disch := first | with_reducible assumption | omega | (intro h_; cases h_; done) | (simp only [LN] <;> omega) | (simp only [LF]; done) | (repeat (first | with_reducible assumption | apply Ext.refl | apply Ext.app | (apply Ext.set <;> omega) | (refine Ext.trans ?_ (by assumption))))) only [AX, TY, gV, dstOf, p_makeFunc, p_mapUpdate, mapPut, entsOf, p_lookup, p_extract, p_nilCheck, oneV, p_load, p_store, p_binOp, p_unOp, p_indexAddr, p_index, p_box, p_build, evParts, builtinV, load1, ldc, splice, minds, disj, rcOf, isCall, touchV, idsOf, mapId, touchB, p_buildSlice, buildSliceV, reps, fillV, p_convert, p_slice, evO, p_makeSlice, sid_some, soff_some, Nat.reduceLT, Nat.reduceLeDiff, Nat.reduceEqDiff, Nat.reduceAdd, Nat.reduceMul, Int.reduceBEq, Int.reduceEq, Int.reduceNeg, Int.reduceLT, Int.reduceLE, Int.reduceAdd, Int.reduceSub, Int.reduceMul, Int.reduceToNat, Int.reduceGT, Nat.reduceBEq, Nat.reducePow, Nat.reduceGT, reduceCtorEq, ↓reduceIte, t7, t9, t40, t41, t42, loadN_fact gx6, c0, c1, eq_true c6, c6, he, wrap_in]
          refine ⟨m - 1, by omega, i + 1, S', oid', ms, ?_⟩
          repeat' (first | assumption | refine And.intro ?_ ?_)
          all_goals first | rfl | omega | (simp; done) | (simp; omega; done) | skip
        · simp -dsimp (disch := first | with_reducible assumption | omega | (intro h_; cases h_; done) | (simp only [LN] <;> omega) | (simp only [LF]; done) | (repeat (first | with_reducible assumption | apply Ext.refl | apply Ext.app | (apply Ext.set <;> omega) | (refine Ext.trans ?_ (by assumption))))) only [AX, TY, gV, dstOf, p_makeFunc, p_mapUpdate, mapPut, entsOf, p_lookup, p_extract, p_nilCheck, oneV, p_load, p_store, p_binOp, p_unOp, p_indexAddr, p_index, p_box, p_build, evParts, builtinV, load1, ldc, splice, minds, disj, rcOf, isCall, touchV, idsOf, mapId, touchB, p_buildSlice, buildSliceV, reps, fillV, p_convert, p_slice, evO, p_makeSlice, sid_some, soff_some, Nat.reduceLT, Nat.reduceLeDiff, Nat.reduceEqDiff, Nat.reduceAdd, Nat.reduceMul, Int.reduceBEq, Int.reduceEq, Int.reduceNeg, Int.reduceLT, Int.reduceLE, Int.reduceAdd, Int.reduceSub, Int.reduceMul, Int.reduceToNat, Int.reduceGT, Nat.reduceBEq, Nat.reducePow, Nat.reduceGT, reduceCtorEq, ↓reduceIte, t7, t9, t40, t41, t42, loadN_fact gx6, c0, c1, c6, he, wrap_in]
          refine ⟨m - 1, by omega, i + 1, S', oid', ms, ?_⟩
          repeat' (first | assumption | refine And.intro ?_ ?_)
          all_goals first | rfl | omega | (simp; done) | (simp; omega; done) | skip
  obtain ⟨hu1, rfl⟩ := hu
  obtain ⟨n, hn1, hn2, hn3, hn4⟩ := hk5 hu1 rfl
  have hnm : n < ms.length := by rw [hmsl, ← mid.pages]; exact hn2
  have hfd := find_in (k := 0) (n := n) (i := 0) (ms := ms) (by omega) (by omega)
  simp only [Nat.sub_zero, Nat.zero_add] at hfd
  have hms7 : ∀ (p : Option (Nat × Nat)) (c : Option Nat) (b : Nat), ∀ k (hk : k < (ms.set n ⟨p, c, upd' x, b⟩).length), Holds S' k ((ms.set n (⟨p, c, upd' x, b⟩ : Me))[k]).data := fun p c b k hk => by
    have hk' : k < ms.length := by rw [List.length_set] at hk; exact hk
    by_cases q : n = k
    · subst q
      rw [List.getElem_set_self]; exact hn4
    · rw [List.getElem_set_ne q]
      exact hk4 k _ (by rw [mid.pages, ← hmsl]; exact hk') (hms k hk') fun z => q (by have := z.2.2; rw [hn1] at this; omega)
  have gx6' := gx6
  rw [hn1] at gx6'
  have lx6 := lt_of_some gx6
  have lb6 := lt_of_some hblk
  rcases hu1 with c1 | c6
  · have c6 : ¬ x.kind = 6 := by omega
    have hud : upd' x = dat x.fill 1024 := if_pos c1
    rw [hud] at hms7
    simp -dsimp (disch := first | with_reducible assumption | omega | (intro h_; cases h_; done) | (simp only [LN] <;> omega) | (simp only [LF]; done) | (repeat (first | with_reducible assumption | apply Ext.refl | apply Ext.app | (apply Ext.set <;> omega) | (refine Ext.trans ?_ (by assumption))))) only [AX, TY, gV, dstOf, p_makeFunc, p_mapUpdate, mapPut, entsOf, p_lookup, p_extract, p_nilCheck, oneV, p_load, p_store, p_binOp, p_unOp, p_indexAddr, p_index, p_box, p_build, evParts, builtinV, load1, ldc, splice, minds, disj, rcOf, isCall, touchV, idsOf, mapId, touchB, p_buildSlice, buildSliceV, reps, fillV, p_convert, p_slice, evO, p_makeSlice, sid_some, soff_some, Nat.reduceLT, Nat.reduceLeDiff, Nat.reduceEqDiff, Nat.reduceAdd, Nat.reduceMul, Int.reduceBEq, Int.reduceEq, Int.reduceNeg, Int.reduceLT, Int.reduceLE, Int.reduceAdd, Int.reduceSub, Int.reduceMul, Int.reduceToNat, Int.reduceGT, Nat.reduceBEq, Nat.reducePow, Nat.reduceGT, reduceCtorEq, ↓reduceIte, t7, t9, t40, t41, t42, loadN_fact gx6, c0, eq_true c1, c1]
    refine W.drawn [(0, []), (1, [0]), (2, [0]), (3, [2, 1, 0]), (4, [2, 1, 0]), (5, [2, 1, 0]), (6, [])] (by decide +kernel) ?_
    simp -dsimp (disch := first | with_reducible assumption | omega | (intro h_; cases h_; done) | (simp only [LN] <;> omega) | (simp only [LF]; done) | (repeat (first | with_reducible assumption | apply Ext.refl | apply Ext.app | (apply Ext.set <;> omega) | (refine Ext.trans ?_ (by assumption))))) only [AX, TY, gV, dstOf, p_makeFunc, p_mapUpdate, mapPut, entsOf, p_lookup, p_extract, p_nilCheck, oneV, p_load, p_store, p_binOp, p_unOp, p_indexAddr, p_index, p_box, p_build, evParts, builtinV, load1, ldc, splice, minds, disj, rcOf, isCall, touchV, idsOf, mapId, touchB, p_buildSlice, buildSliceV, reps, fillV, p_convert, p_slice, evO, p_makeSlice, sid_some, soff_some, Nat.reduceLT, Nat.reduceLeDiff, Nat.reduceEqDiff, Nat.reduceAdd, Nat.reduceMul, Int.reduceBEq, Int.reduceEq, Int.reduceNeg, Int.reduceLT, Int.reduceLE, Int.reduceAdd, Int.reduceSub, Int.reduceMul, Int.reduceToNat, Int.reduceGT, Nat.reduceBEq, Nat.reducePow, Nat.reduceGT, reduceCtorEq, ↓reduceIte, t7, t9, t40, t41, t42, loadN_fact gx6']
    refine (data_c x.fill 1024 (by decide)).mono ?_
    rintro _ h8 ⟨e8, rfl, sl8⟩
    have mid8 := mid6.ext e8
    have mp8 := mp6.ext e8
    have hblk8 := e8 _ _ hblk
    have gx8 := e8 _ _ gx6
    have s0 := sameO_ext e8 lx6
    have s1 := sameO_ext e8 lb6
    have hb8 := lt_of_some hblk8
    have mp9 := mp8.put hblk8 hnm (c := some 1024) sl8 (fun a o z => by cases z; exact fun q => by have := mid6.at'.lt q; omega)
    have mid9 := mid8.put (es' := (entsV 0 ms).set n (.int .i64 (n : Int), .slice (some (h6.length, 0)) (dat x.fill 1024).length (some 1024), (ms[n]).born)) (cl' := clk) hblk8 mp8.no (Nat.le_refl _)
    have gx9 := (set_other (h := h8) (i := h0.length) (j := hh.length) (.map ((entsV 0 ms).set n (.int .i64 (n : Int), .slice (some (h6.length, 0)) (dat x.fill 1024).length (some 1024), (ms[n]).born)) clk) (fun q => by rw [q] at gx8; rw [hblk8] at gx8; cases gx8)).trans gx8
    have hne : ¬ hh.length = h0.length := fun q => by rw [q] at gx8; rw [hblk8] at gx8; cases gx8
    have hl9 : (ms.set n (⟨some (h6.length, 0), some 1024, dat x.fill 1024, (ms[n]).born⟩ : Me)).length = pages := by rw [List.length_set]; exact hmsl
    have hms9 := hms7 (some (h6.length, 0)) (some 1024) (ms[n]).born
    simp -dsimp (disch := first | with_reducible assumption | omega | (intro h_; cases h_; done) | (simp only [LN] <;> omega) | (simp only [LF]; done) | (repeat (first | with_reducible assumption | apply Ext.refl | apply Ext.app | (apply Ext.set <;> omega) | (refine Ext.trans ?_ (by assumption))))) only [AX, TY, gV, dstOf, p_makeFunc, p_mapUpdate, mapPut, entsOf, p_lookup, p_extract, p_nilCheck, oneV, p_load, p_store, p_binOp, p_unOp, p_indexAddr, p_index, p_box, p_build, evParts, builtinV, load1, ldc, splice, minds, disj, rcOf, isCall, touchV, idsOf, mapId, touchB, p_buildSlice, buildSliceV, reps, fillV, p_convert, p_slice, evO, p_makeSlice, sid_some, soff_some, Nat.reduceLT, Nat.reduceLeDiff, Nat.reduceEqDiff, Nat.reduceAdd, Nat.reduceMul, Int.reduceBEq, Int.reduceEq, Int.reduceNeg, Int.reduceLT, Int.reduceLE, Int.reduceAdd, Int.reduceSub, Int.reduceMul, Int.reduceToNat, Int.reduceGT, Nat.reduceBEq, Nat.reducePow, Nat.reduceGT, reduceCtorEq, ↓reduceIte, t7, t9, t40, t41, t42, s0, s1, hblk8, hfd, loadN_fact gx9, loadN_fact gx8, hne, c6, c1, wrap_in]
    refine ⟨m - 1, by omega, i + 1, S', oid', ms.set n ⟨some (h6.length, 0), some 1024, dat x.fill 1024, (ms[n]).born⟩, ?_⟩
    repeat' (first | assumption | refine And.intro ?_ ?_)
    all_goals first | rfl | omega | (simp; done) | (simp; omega; done) | skip
  · have c1 : ¬ x.kind = 1 := by omega
    have hnn := b6 x hmem c6
    obtain ⟨nn, hnn2⟩ := Int.eq_ofNat_of_zero_le hnn.1
    have hud : upd' x = dat x.fill nn := by unfold upd'; rw [if_neg c1, hnn2]; rfl
    rw [hud] at hms7
    rw [hnn2] at gx6'
    simp -dsimp (disch := first | with_reducible assumption | omega | (intro h_; cases h_; done) | (simp only [LN] <;> omega) | (simp only [LF]; done) | (repeat (first | with_reducible assumption | apply Ext.refl | apply Ext.app | (apply Ext.set <;> omega) | (refine Ext.trans ?_ (by assumption))))) only [AX, TY, gV, dstOf, p_makeFunc, p_mapUpdate, mapPut, entsOf, p_lookup, p_extract, p_nilCheck, oneV, p_load, p_store, p_binOp, p_unOp, p_indexAddr, p_index, p_box, p_build, evParts, builtinV, load1, ldc, splice, minds, disj, rcOf, isCall, touchV, idsOf, mapId, touchB, p_buildSlice, buildSliceV, reps, fillV, p_convert, p_slice, evO, p_makeSlice, sid_some, soff_some, Nat.reduceLT, Nat.reduceLeDiff, Nat.reduceEqDiff, Nat.reduceAdd, Nat.reduceMul, Int.reduceBEq, Int.reduceEq, Int.reduceNeg, Int.reduceLT, Int.reduceLE, Int.reduceAdd, Int.reduceSub, Int.reduceMul, Int.reduceToNat, Int.reduceGT, Nat.reduceBEq, Nat.reducePow, Nat.reduceGT, reduceCtorEq, ↓reduceIte, t7, t9, t40, t41, t42, loadN_fact gx6, c0, c1, eq_true c6]
    refine W.drawn [(0, []), (1, [0]), (2, [0]), (3, [2, 1, 0]), (4, [2, 1, 0]), (5, [4, 3, 2, 1, 0]), (6, [4, 3, 2, 1, 0]), (7, [2, 1, 0]), (8, [])] (by decide +kernel) ?_
    simp -dsimp (disch := first | with_reducible assumption | omega | (intro h_; cases h_; done) | (simp only [LN] <;> omega) | (simp only [LF]; done) | (repeat (first | with_reducible assumption | apply Ext.refl | apply Ext.app | (apply Ext.set <;> omega) | (refine Ext.trans ?_ (by assumption))))) only [AX, TY, gV, dstOf, p_makeFunc, p_mapUpdate, mapPut, entsOf, p_lookup, p_extract, p_nilCheck, oneV, p_load, p_store, p_binOp, p_unOp, p_indexAddr, p_index, p_box, p_build, evParts, builtinV, load1, ldc, splice, minds, disj, rcOf, isCall, touchV, idsOf, mapId, touchB, p_buildSlice, buildSliceV, reps, fillV, p_convert, p_slice, evO, p_makeSlice, sid_some, soff_some, Nat.reduceLT, Nat.reduceLeDiff, Nat.reduceEqDiff, Nat.reduceAdd, Nat.reduceMul, Int.reduceBEq, Int.reduceEq, Int.reduceNeg, Int.reduceLT, Int.reduceLE, Int.reduceAdd, Int.reduceSub, Int.reduceMul, Int.reduceToNat, Int.reduceGT, Nat.reduceBEq, Nat.reducePow, Nat.reduceGT, reduceCtorEq, ↓reduceIte, t7, t9, t40, t41, t42, loadN_fact gx6']
    refine (data_c x.fill nn (by omega)).mono ?_
    rintro _ h8 ⟨e8, rfl, sl8⟩
    have mid8 := mid6.ext e8
    have mp8 := mp6.ext e8
    have hblk8 := e8 _ _ hblk
    have gx8 := e8 _ _ gx6
    have s0 := sameO_ext e8 lx6
    have s1 := sameO_ext e8 lb6
    have hb8 := lt_of_some hblk8
    have mp9 := mp8.put hblk8 hnm (c := some nn) sl8 (fun a o z => by cases z; exact fun q => by have := mid6.at'.lt q; omega)
    have mid9 := mid8.put (es' := (entsV 0 ms).set n (.int .i64 (n : Int), .slice (some (h6.length, 0)) (dat x.fill nn).length (some nn), (ms[n]).born)) (cl' := clk) hblk8 mp8.no (Nat.le_refl _)
    have hne : ¬ hh.length = h0.length := fun q => by rw [q] at gx8; rw [hblk8] at gx8; cases gx8
    have hl9 : (ms.set n (⟨some (h6.length, 0), some nn, dat x.fill nn, (ms[n]).born⟩ : Me)).length = pages := by rw [List.length_set]; exact hmsl
    have hms9 := hms7 (some (h6.length, 0)) (some nn) (ms[n]).born
    simp -dsimp (disch := first | with_reducible assumption | omega | (intro h_; cases h_; done) | (simp only [LN] <;> omega) | (simp only [LF]; done) | (repeat (first | with_reducible assumption | apply Ext.refl | apply Ext.app | (apply Ext.set <;> omega) | (refine Ext.trans ?_ (by assumption))))) only [AX, TY, gV, dstOf, p_makeFunc, p_mapUpdate, mapPut, entsOf, p_lookup, p_extract, p_nilCheck, oneV, p_load, p_store, p_binOp, p_unOp, p_indexAddr, p_index, p_box, p_build, evParts, builtinV, load1, ldc, splice, minds, disj, rcOf, isCall, touchV, idsOf, mapId, touchB, p_buildSlice, buildSliceV, reps, fillV, p_convert, p_slice, evO, p_makeSlice, sid_some, soff_some, Nat.reduceLT, Nat.reduceLeDiff, Nat.reduceEqDiff, Nat.reduceAdd, Nat.reduceMul, Int.reduceBEq, Int.reduceEq, Int.reduceNeg, Int.reduceLT, Int.reduceLE, Int.reduceAdd, Int.reduceSub, Int.reduceMul, Int.reduceToNat, Int.reduceGT, Nat.reduceBEq, Nat.reducePow, Nat.reduceGT, reduceCtorEq, ↓reduceIte, t7, t9, t40, t41, t42, s0, s1, hblk8, hfd, loadN_fact gx8, hne, wrap_in]
    refine ⟨m - 1, by omega, i + 1, S', oid', ms.set n ⟨some (h6.length, 0), some nn, dat x.fill nn, (ms[n]).born⟩, ?_⟩
    repeat' (first | assumption | refine And.intro ?_ ?_)
    all_goals first | rfl | omega | (simp; done) | (simp; omega; done) | skip
end Go.Proofs.YtmjfhckioaempaaA
namespace Go.Proofs.YtmjfhckioaempaaA
open Go Go.Proofs Go.RowKit
set_option linter.unusedVariables false
set_option linter.unusedSimpArgs false
set_option maxRecDepth 10000
set_option maxHeartbeats 4000000
theorem un_keeps0 {S S' : Bp} {N : Nat} {page e : Int} (v : PIn S N) (u : UnR S page S' e) :
    PIn S' N ∧ S'.pages = S.pages ∧ S'.frames.length = S.frames.length ∧ S'.D = S.D ∧ S'.frames.map Fr.page = S.frames.map Fr.page ∧ (∀ k d, Holds S k d → Holds S' k d) := by
  rcases u with ⟨h1, rfl, rfl⟩ | ⟨i, hi, h2, rfl, rfl⟩
  · exact ⟨v, rfl, rfl, rfl, rfl, fun _ _ q => q⟩
  · obtain ⟨h3, _, hp⟩ := pinF_some h2
    have hf := v.fr i hi
    have hdn := dirtyN_set hi { S.frames[i] with pins := (S.frames[i]).pins - 1 }
    refine ⟨v.one (Nat.le_refl N) v.big hi rfl rfl v.pd ⟨by show 0 ≤ (S.frames[i]).pins - 1; omega, by have := hf.2.1; show (S.frames[i]).pins - 1 ≤ _; omega, ?_⟩ (fun _ _ _ _ => rfl) ?_ v.ctr, rfl, List.length_set .., rfl, set_page hi rfl, fun k d q => Holds.one hi (f := { S.frames[i] with pins := (S.frames[i]).pins - 1 }) rfl q (fun _ => rfl) (fun _ => rfl)⟩
    · rcases hf.2.2 with q | q
      · omega
      · exact .inr q
    · have := v.cnt
      show S.D.pend.length + _ ≤ _
      have hdd : ({ S.frames[i] with pins := (S.frames[i]).pins - 1 } : Fr).dirty = (S.frames[i]).dirty := rfl
      rw [hdd] at hdn
      omega
/-- How often a page is pinned. -/
def pinsOf (S : Bp) (k : Int) : Int := match findF k S.frames with
  | some i => (S.frames[i]?.map Fr.pins).getD 0
  | none => 0
theorem pinsOf_at {S : Bp} {k : Int} {i : Nat} (h : findF k S.frames = some i) (hi : i < S.frames.length) : pinsOf S k = (S.frames[i]).pins := by
  unfold pinsOf
  rw [h]
  simp only [List.getElem?_eq_getElem hi, Option.map_some, Option.getD_some]
theorem pins_c {b : Nat} {h : Heap} {I : Ids} {S : Bp} {oid : Option Nat} (d : PAt b h I S oid) (page : Int) : WR (callE Try.prog hk 29 [.ptr (some (I.pi, 0)), .int .i64 page] h) fun r h' => Ext h h' ∧ r = .int .i64 (pinsOf S page) := by
  refine (pins_ok d page).mono ?_
  rintro r h2 ⟨e2, ⟨q, rfl⟩ | ⟨i, hi, q, rfl⟩⟩
  · exact ⟨e2, by unfold pinsOf; rw [q]⟩
  · exact ⟨e2, by rw [pinsOf_at q hi]⟩
/-- A pinned page is unpinned. -/
theorem un_one {S S' : Bp} {N : Nat} {page e : Int} (v : PIn S N) (hp : 0 < pinsOf S page) (u : UnR S page S' e) : e = 0 ∧ pinsOf S' page = pinsOf S page - 1 ∧ ∀ k, k ≠ page → pinsOf S' k = pinsOf S k := by
  have hex : ∃ i, findF page S.frames = some i := by
    cases hq : findF page S.frames with
    | none => unfold pinsOf at hp; rw [hq] at hp; exact absurd hp (show ¬ (0 : Int) < 0 by decide)
    | some i => exact ⟨i, rfl⟩
  obtain ⟨i, hi⟩ := hex
  obtain ⟨hl, h0, h1, _⟩ := findF_some hi
  have hpp := pinsOf_at hi hl
  have hpf : pinF page S.frames = some i := by rw [pinF_find hi hl, if_pos (by omega)]
  rcases u with ⟨q, _⟩ | ⟨j, hj, q, rfl, rfl⟩
  · rw [hpf] at q; cases q
  · rw [hpf] at q; cases q
    have hm := set_page hl (f := { S.frames[i] with pins := (S.frames[i]).pins - 1 }) rfl
    have hff : ∀ k, findF k (S.frames.set i { S.frames[i] with pins := (S.frames[i]).pins - 1 }) = findF k S.frames := fun k => by rw [findF_map, hm, ← findF_map]
    refine ⟨rfl, ?_, fun k hk => ?_⟩
    · rw [pinsOf_at (S := ⟨S.D, S.pages, S.frames.set i { S.frames[i] with pins := (S.frames[i]).pins - 1 }, S.hand, S.reads⟩) ((hff page).trans hi) (by rw [List.length_set]; exact hl), hpp]
      simp only [List.getElem_set_self]
    · cases hq : findF k S.frames with
      | none => unfold pinsOf; rw [hff, hq]
      | some j =>
        obtain ⟨hl2, h02, h12, _⟩ := findF_some hq
        rw [pinsOf_at (S := ⟨S.D, S.pages, S.frames.set i { S.frames[i] with pins := (S.frames[i]).pins - 1 }, S.hand, S.reads⟩) ((hff k).trans hq) (by rw [List.length_set]; exact hl2), pinsOf_at hq hl2]
        have hij : i ≠ j := fun c => by subst c; exact hk (by rw [← h12, h1])
        simp only [List.getElem_set_ne hij]
theorem all_zero {S : Bp} {N : Nat} (v : PIn S N) (h : ∀ k, k < S.pages → pinsOf S (k : Int) ≤ 0) : ∀ f ∈ S.frames, f.pins = 0 := fun f hf => by
  obtain ⟨i, hi, rfl⟩ := List.getElem_of_mem hf
  have hv := v.fr i hi
  rcases hv.2.2 with q | q
  · exact q.2.2
  · obtain ⟨n, hn⟩ := Int.eq_ofNat_of_zero_le q.1
    obtain ⟨j, hj⟩ := findF_ex (page := (n : Int)) (by omega) hf hn
    obtain ⟨hl, _, h1, _⟩ := findF_some hj
    have hji : j = i := v.dis j i hl hi (by rw [h1]; omega) (by rw [h1, hn])
    subst hji
    have := h n (by omega)
    rw [pinsOf_at hj hl] at this
    have := hv.1
    omega
theorem zero_all {S : Bp} (h : ∀ f ∈ S.frames, f.pins = 0) (k : Int) : pinsOf S k = 0 := by
  cases hq : findF k S.frames with
  | none => unfold pinsOf; rw [hq]
  | some j =>
    obtain ⟨hl, _⟩ := findF_some hq
    rw [pinsOf_at hq hl]; exact h _ (List.getElem_mem hl)
/-- With the disk at work and nothing pinned, a page is pinned, and unpinned again. -/
theorem pin_fresh {S S' : Bp} {N : Nat} {page : Nat} {e : Int} {dd : List Int} (v : PIn S N) (hN : N + 1 ≤ 1000) (hz : ∀ f ∈ S.frames, f.pins = 0) (hf : S.D.failed = false) (hc : S.D.ctr < 0) (hpg : page < S.pages) (u : PinR S page S' e dd) :
    e = 0 ∧ S'.D.failed = false ∧ S'.D.ctr < 0 ∧ pinsOf S' (page : Int) = 1 ∧ ∃ i, ∃ hi : i < S'.frames.length, (S'.frames[i]).page = (page : Int) ∧ (S'.frames[i]).pins = 1 ∧ ∀ j (hj : j < S'.frames.length), j ≠ i → (S'.frames[j]).pins = 0 := by
  have hv := pin_keeps v hN u
  have fin : ∀ i (hi : i < S'.frames.length), (S'.frames[i]).page = (page : Int) → (S'.frames[i]).pins = 1 → pinsOf S' (page : Int) = 1 := fun i hi h1 h2 => by
    obtain ⟨j, hj⟩ := findF_ex (page := (page : Int)) (by omega) (List.getElem_mem hi) h1
    obtain ⟨hl, _, h3, _⟩ := findF_some hj
    have := hv.1.dis j i hl hi (by rw [h3]; omega) (by rw [h3, h1])
    subst this
    rw [pinsOf_at hj hl]; exact h2
  rcases u with ⟨h, _⟩ | ⟨_, _, i, hi, h, rfl, rfl, _⟩ | ⟨n, hn, hn2, hno, r, rs, lo, hq⟩
  · omega
  · obtain ⟨hl, h0, h1, _⟩ := findF_some h
    have hp := hz _ (List.getElem_mem hi)
    have e1 : ((S.frames.set i { S.frames[i] with pins := (S.frames[i]).pins + 1, ref := true })[i]'(by rw [List.length_set]; exact hi)) = { S.frames[i] with pins := (S.frames[i]).pins + 1, ref := true } := List.getElem_set_self ..
    have e2 : ((S.frames.set i { S.frames[i] with pins := (S.frames[i]).pins + 1, ref := true })[i]'(by rw [List.length_set]; exact hi)).pins = 1 := by rw [e1]; show (S.frames[i]).pins + 1 = 1; omega
    have e3 : ((S.frames.set i { S.frames[i] with pins := (S.frames[i]).pins + 1, ref := true })[i]'(by rw [List.length_set]; exact hi)).page = (page : Int) := by rw [e1]; exact h1
    refine ⟨rfl, hf, hc, fin i (by rw [List.length_set]; exact hi) e3 e2, i, by rw [List.length_set]; exact hi, e3, e2, fun j hj hne => ?_⟩
    simp only [List.getElem_set_ne (Ne.symm hne)]
    exact hz _ (List.getElem_mem _)
  · have hnp : n = page := by omega
    subst hnp
    have hex : ∃ f ∈ S.frames, f.pins = 0 := by
      have hl : 0 < S.frames.length := by have := v.hand; omega
      exact ⟨_, List.getElem_mem hl, hz _ (List.getElem_mem hl)⟩
    have hr := lo_room hf hc hex lo
    have hk := (lo_keeps v hN hn2 hno lo).2.2.2.2
    rcases hk with ⟨z, _⟩ | ⟨p, c, dd', rfl, _, hrd, _, _, j, a, hnew, _⟩
    · exact absurd z hr.1
    · rcases hq with ⟨z, _⟩ | ⟨_, _, _, he⟩
      · cases z
      · have hjl : j < S'.frames.length := by rw [a.len]; exact a.jl
        have e2 : (S'.frames[j]).pins = 1 := by rw [hnew]
        have e3 : (S'.frames[j]).page = (n : Int) := by rw [hnew]
        refine ⟨he, hr.2.1, hr.2.2, fin j hjl e3 e2, j, hjl, e3, e2, fun k hk' hne => ?_⟩
        have hk2 : k < S.frames.length := by rw [← a.len]; exact hk'
        rw [(a.eq k hk2 hne).2.2.1]
        exact hz _ (List.getElem_mem hk2)
end Go.Proofs.YtmjfhckioaempaaA
namespace Go.Proofs.YtmjfhckioaempaaA
open Go Go.Proofs Go.RowKit
set_option linter.unusedVariables false
set_option linter.unusedSimpArgs false
set_option maxRecDepth 10000
set_option maxHeartbeats 4000000
theorem Mid.disk {b : Nat} {h0 : Heap} {I : Ids} {pages frames i : Nat} {S : Bp} {oid oid' : Option Nat} {hh h2 : Heap} {D1 : Dk} (m : Mid b h0 I pages frames i S oid hh) (dk : DAt b h2 I.di I.du D1 oid' (fun i => i = I.pi ∨ i = I.fr)) (k : Kp hh h2 (ownD I.di I.du oid) (ownD I.di I.du oid')) (hv : PIn ⟨D1, S.pages, S.frames, S.hand, S.reads⟩ i) :
    Mid b h0 I pages frames i ⟨D1, S.pages, S.frames, S.hand, S.reads⟩ oid' h2 ∧ Kp hh h2 (ownP I oid) (ownP I oid') := by
  obtain ⟨d, k2⟩ := m.at'.disk dk k
  exact ⟨⟨d, hv, m.pages, m.frames, m.kp.trans k2⟩, k2⟩
theorem law9_ok {h : Heap} {p : Option (Nat × Nat)} {c : Option Nat} {l : List Cl} (hs : Sl h p 4 Cl.enc l) (hcn : ∀ c ∈ l, c.n ≤ 9223372036854775807) (pages frames after : Int) (haf : after ≤ 9223372036854775807) :
    WR (callE Try.prog hk 9 [.int .i64 pages, .int .i64 frames, .slice p l.length c, .int .i64 after] h) fun r h' => r = .bool true := by
  have hn := hs.nil'
  have hl := hs.small
  refine WR.call (hH := rfl) Try.func9 rfl (n := 128) rfl rfl (by simp) ?_
  simp -dsimp (disch := first | with_reducible assumption | omega | (intro h_; cases h_; done) | (simp only [LN] <;> omega) | (simp only [LF]; done) | (repeat (first | with_reducible assumption | apply Ext.refl | apply Ext.app | (apply Ext.set <;> omega) | (refine Ext.trans ?_ (by assumption))))) only [AX, TY, gV, dstOf, p_makeFunc, p_mapUpdate, mapPut, entsOf, p_lookup, p_extract, p_nilCheck, oneV, p_load, p_store, p_binOp, p_unOp, p_indexAddr, p_index, p_box, p_build, evParts, builtinV, load1, ldc, splice, minds, disj, rcOf, isCall, touchV, idsOf, mapId, touchB, p_buildSlice, buildSliceV, reps, fillV, p_convert, p_slice, evO, p_makeSlice, sid_some, soff_some, Nat.reduceLT, Nat.reduceLeDiff, Nat.reduceEqDiff, Nat.reduceAdd, Nat.reduceMul, Int.reduceBEq, Int.reduceEq, Int.reduceNeg, Int.reduceLT, Int.reduceLE, Int.reduceAdd, Int.reduceSub, Int.reduceMul, Int.reduceToNat, Int.reduceGT, Nat.reduceBEq, Nat.reducePow, Nat.reduceGT, reduceCtorEq, ↓reduceIte]
  refine (few16_ok hs pages frames).mono ?_
  rintro _ _ ⟨rfl, fb, rfl, hfb⟩
  cases fb
  · simp -dsimp (disch := first | with_reducible assumption | omega | (intro h_; cases h_; done) | (simp only [LN] <;> omega) | (simp only [LF]; done) | (repeat (first | with_reducible assumption | apply Ext.refl | apply Ext.app | (apply Ext.set <;> omega) | (refine Ext.trans ?_ (by assumption))))) only [AX, TY, gV, dstOf, p_makeFunc, p_mapUpdate, mapPut, entsOf, p_lookup, p_extract, p_nilCheck, oneV, p_load, p_store, p_binOp, p_unOp, p_indexAddr, p_index, p_box, p_build, evParts, builtinV, load1, ldc, splice, minds, disj, rcOf, isCall, touchV, idsOf, mapId, touchB, p_buildSlice, buildSliceV, reps, fillV, p_convert, p_slice, evO, p_makeSlice, sid_some, soff_some, Nat.reduceLT, Nat.reduceLeDiff, Nat.reduceEqDiff, Nat.reduceAdd, Nat.reduceMul, Int.reduceBEq, Int.reduceEq, Int.reduceNeg, Int.reduceLT, Int.reduceLE, Int.reduceAdd, Int.reduceSub, Int.reduceMul, Int.reduceToNat, Int.reduceGT, Nat.reduceBEq, Nat.reducePow, Nat.reduceGT, reduceCtorEq, ↓reduceIte]
    refine awake_ok.mono ?_
    rintro _ h3 rfl
    simp -dsimp (disch := first | with_reducible assumption | omega | (intro h_; cases h_; done) | (simp only [LN] <;> omega) | (simp only [LF]; done) | (repeat (first | with_reducible assumption | apply Ext.refl | apply Ext.app | (apply Ext.set <;> omega) | (refine Ext.trans ?_ (by assumption))))) only [AX, TY, gV, dstOf, p_makeFunc, p_mapUpdate, mapPut, entsOf, p_lookup, p_extract, p_nilCheck, oneV, p_load, p_store, p_binOp, p_unOp, p_indexAddr, p_index, p_box, p_build, evParts, builtinV, load1, ldc, splice, minds, disj, rcOf, isCall, touchV, idsOf, mapId, touchB, p_buildSlice, buildSliceV, reps, fillV, p_convert, p_slice, evO, p_makeSlice, sid_some, soff_some, Nat.reduceLT, Nat.reduceLeDiff, Nat.reduceEqDiff, Nat.reduceAdd, Nat.reduceMul, Int.reduceBEq, Int.reduceEq, Int.reduceNeg, Int.reduceLT, Int.reduceLE, Int.reduceAdd, Int.reduceSub, Int.reduceMul, Int.reduceToNat, Int.reduceGT, Nat.reduceBEq, Nat.reducePow, Nat.reduceGT, reduceCtorEq, ↓reduceIte]
  obtain ⟨b1, b2, b3, b4, b5, b6⟩ := hfb rfl
  obtain ⟨pages, rfl⟩ := Int.eq_ofNat_of_zero_le (show 0 ≤ pages by omega)
  obtain ⟨frames, rfl⟩ := Int.eq_ofNat_of_zero_le (show 0 ≤ frames by omega)
  simp -dsimp (disch := first | with_reducible assumption | omega | (intro h_; cases h_; done) | (simp only [LN] <;> omega) | (simp only [LF]; done) | (repeat (first | with_reducible assumption | apply Ext.refl | apply Ext.app | (apply Ext.set <;> omega) | (refine Ext.trans ?_ (by assumption))))) only [AX, TY, gV, dstOf, p_makeFunc, p_mapUpdate, mapPut, entsOf, p_lookup, p_extract, p_nilCheck, oneV, p_load, p_store, p_binOp, p_unOp, p_indexAddr, p_index, p_box, p_build, evParts, builtinV, load1, ldc, splice, minds, disj, rcOf, isCall, touchV, idsOf, mapId, touchB, p_buildSlice, buildSliceV, reps, fillV, p_convert, p_slice, evO, p_makeSlice, sid_some, soff_some, Nat.reduceLT, Nat.reduceLeDiff, Nat.reduceEqDiff, Nat.reduceAdd, Nat.reduceMul, Int.reduceBEq, Int.reduceEq, Int.reduceNeg, Int.reduceLT, Int.reduceLE, Int.reduceAdd, Int.reduceSub, Int.reduceMul, Int.reduceToNat, Int.reduceGT, Nat.reduceBEq, Nat.reducePow, Nat.reduceGT, reduceCtorEq, ↓reduceIte]
  refine (open_ok pages frames (by omega) (by omega) (by omega) (by omega)).mono ?_
  rintro _ h1 ⟨I, D, rfl, d1, hD1, hD2, hD3, hD4, hD5, e1, hb1, hb2, hb3⟩
  obtain ⟨h0, hh0, x0, e0, hl0⟩ : ∃ h0, h1 ++ [O.cells [V.ptr (some (I.di, 0)), V.ptr (some (I.pi, 0))] .rw] = h0 ∧ h0[h1.length]? = some (O.cells [V.ptr (some (I.di, 0)), V.ptr (some (I.pi, 0))] .rw) ∧ Ext h1 h0 ∧ h0.length = h1.length + 1 := ⟨_, rfl, snoc_last _ rfl, (by (repeat (first | assumption | apply Ext.refl | apply Ext.app | (apply Ext.set <;> omega) | exact Ext.trans (by assumption) (by assumption) | (refine Ext.trans ?_ (by assumption))))), by simp⟩
  have m0 : Mid h.length h0 I pages frames 0 ⟨D, pages, List.replicate frames emptyFr, 0, 0⟩ none h0 := ⟨d1.ext e0, .init hD1 hD4 (by omega) hD2 (by omega) (by omega), rfl, by simp, Kp.ext (.refl _) _⟩
  have hs0 := hs.ext (e1.trans e0)
  have hnx : ¬ ownP I none h1.length := fun q => by have := d1.lt q; omega
  have slK : ∀ {i : Nat} {S : Bp} {oid : Option Nat} {hh : Heap}, Mid h.length h0 I pages frames i S oid hh → Sl hh p 4 Cl.enc l ∧ hh[h1.length]? = some (O.cells [V.ptr (some (I.di, 0)), V.ptr (some (I.pi, 0))] .rw) := fun {i S oid hh} m => ⟨hs0.keep fun a o z => m.kp.fr a (hs0.lt z) (m0.at'.own_base hb1 hb3 (hs.lt z)), m.kp.get x0 hnx⟩
  have mm0 : Mid h.length h0 I pages frames 0 ⟨D, pages, List.replicate frames emptyFr, 0, 0⟩ none (h0 ++ [O.map [] 0]) := m0.ext (by (repeat (first | assumption | apply Ext.refl | apply Ext.app | (apply Ext.set <;> omega) | exact Ext.trans (by assumption) (by assumption) | (refine Ext.trans ?_ (by assumption)))))
  have mp0 : MapAt (h0 ++ [O.map [] 0]) h0.length (ownP I none) [] := ⟨⟨0, snoc_last _ rfl⟩, fun q => by have := m0.at'.lt q; omega, by simp⟩
  simp -dsimp (disch := first | with_reducible assumption | omega | (intro h_; cases h_; done) | (simp only [LN] <;> omega) | (simp only [LF]; done) | (repeat (first | with_reducible assumption | apply Ext.refl | apply Ext.app | (apply Ext.set <;> omega) | (refine Ext.trans ?_ (by assumption))))) only [AX, TY, gV, dstOf, p_makeFunc, p_mapUpdate, mapPut, entsOf, p_lookup, p_extract, p_nilCheck, oneV, p_load, p_store, p_binOp, p_unOp, p_indexAddr, p_index, p_box, p_build, evParts, builtinV, load1, ldc, splice, minds, disj, rcOf, isCall, touchV, idsOf, mapId, touchB, p_buildSlice, buildSliceV, reps, fillV, p_convert, p_slice, evO, p_makeSlice, sid_some, soff_some, Nat.reduceLT, Nat.reduceLeDiff, Nat.reduceEqDiff, Nat.reduceAdd, Nat.reduceMul, Int.reduceBEq, Int.reduceEq, Int.reduceNeg, Int.reduceLT, Int.reduceLE, Int.reduceAdd, Int.reduceSub, Int.reduceMul, Int.reduceToNat, Int.reduceGT, Nat.reduceBEq, Nat.reducePow, Nat.reduceGT, reduceCtorEq, ↓reduceIte, hh0]
  refine W.loop (fun m τ hh => ∃ (k : Nat) (ms : List Me), m + k = pages ∧ τ 0 = .int .i64 pages ∧ τ 2 = .slice p l.length c ∧ τ 3 = .int .i64 after ∧ τ 9 = .ptr (some (h1.length, 0)) ∧ τ 11 = .map (some h0.length) ∧ τ 36 = .int .i64 pages ∧ τ 37 = .int .i64 k ∧ Mid h.length h0 I pages frames 0 ⟨D, pages, List.replicate frames emptyFr, 0, 0⟩ none hh ∧ MapAt hh h0.length (ownP I none) ms ∧ ms.length = k ∧ ∀ j (hj : j < ms.length), (ms[j]).data = fillB j) ?_ (m := pages) ?_
  rotate_left
  · refine ⟨0, [], ?_⟩
    simp -dsimp (disch := first | with_reducible assumption | omega | (intro h_; cases h_; done) | (simp only [LN] <;> omega) | (simp only [LF]; done) | (repeat (first | with_reducible assumption | apply Ext.refl | apply Ext.app | (apply Ext.set <;> omega) | (refine Ext.trans ?_ (by assumption))))) only [AX, TY, gV, dstOf, p_makeFunc, p_mapUpdate, mapPut, entsOf, p_lookup, p_extract, p_nilCheck, oneV, p_load, p_store, p_binOp, p_unOp, p_indexAddr, p_index, p_box, p_build, evParts, builtinV, load1, ldc, splice, minds, disj, rcOf, isCall, touchV, idsOf, mapId, touchB, p_buildSlice, buildSliceV, reps, fillV, p_convert, p_slice, evO, p_makeSlice, sid_some, soff_some, Nat.reduceLT, Nat.reduceLeDiff, Nat.reduceEqDiff, Nat.reduceAdd, Nat.reduceMul, Int.reduceBEq, Int.reduceEq, Int.reduceNeg, Int.reduceLT, Int.reduceLE, Int.reduceAdd, Int.reduceSub, Int.reduceMul, Int.reduceToNat, Int.reduceGT, Nat.reduceBEq, Nat.reducePow, Nat.reduceGT, reduceCtorEq, ↓reduceIte]
    repeat' (first | assumption | refine And.intro ?_ ?_)
    all_goals first | rfl | omega | (simp; done) | (simp; omega; done) | skip
  rintro m τ hh ⟨k, ms, hm, t0, t2, t3, t9, t11, t36, t37, mid, mp, hmsl, hms⟩
  by_cases h2 : (k : Int) < (pages : Int)
  · simp -dsimp (disch := first | with_reducible assumption | omega | (intro h_; cases h_; done) | (simp only [LN] <;> omega) | (simp only [LF]; done) | (repeat (first | with_reducible assumption | apply Ext.refl | apply Ext.app | (apply Ext.set <;> omega) | (refine Ext.trans ?_ (by assumption))))) only [AX, TY, gV, dstOf, p_makeFunc, p_mapUpdate, mapPut, entsOf, p_lookup, p_extract, p_nilCheck, oneV, p_load, p_store, p_binOp, p_unOp, p_indexAddr, p_index, p_box, p_build, evParts, builtinV, load1, ldc, splice, minds, disj, rcOf, isCall, touchV, idsOf, mapId, touchB, p_buildSlice, buildSliceV, reps, fillV, p_convert, p_slice, evO, p_makeSlice, sid_some, soff_some, Nat.reduceLT, Nat.reduceLeDiff, Nat.reduceEqDiff, Nat.reduceAdd, Nat.reduceMul, Int.reduceBEq, Int.reduceEq, Int.reduceNeg, Int.reduceLT, Int.reduceLE, Int.reduceAdd, Int.reduceSub, Int.reduceMul, Int.reduceToNat, Int.reduceGT, Nat.reduceBEq, Nat.reducePow, Nat.reduceGT, reduceCtorEq, ↓reduceIte, t0, t2, t3, t9, t11, t36, t37, h2]
    refine (data_c _ 1024 (by decide)).mono ?_
    rintro _ h4 ⟨e4, rfl, sl4⟩
    have mid4 := mid.ext e4
    have mp4 := mp.ext e4
    obtain ⟨cl, hblk⟩ := mp4.blk
    have hbl := lt_of_some hblk
    have hfd := find_out (k := 0) (n := (k : Int)) (i := 0) (ms := ms) (.inr (by omega))
    have mp5 := mp4.add hblk (c := some 1024) sl4 (fun a o z => by cases z; exact fun q => by have := mid.at'.lt q; omega)
    have mid5 := mid4.put (es' := entsV 0 ms ++ [(.int .i64 (ms.length : Int), .slice (some (hh.length, 0)) (dat (IntKind.u8.wrap (k : Int)) 1024).length (some 1024), cl)]) (cl' := cl + 1) hblk mp4.no (Nat.le_refl _)
    have hms5 : ∀ j (hj : j < (ms ++ [(⟨some (hh.length, 0), some 1024, dat (IntKind.u8.wrap (k : Int)) 1024, cl⟩ : Me)]).length), ((ms ++ [(⟨some (hh.length, 0), some 1024, dat (IntKind.u8.wrap (k : Int)) 1024, cl⟩ : Me)])[j]).data = fillB j := fun j hj => by
      rw [List.length_append, List.length_singleton] at hj
      by_cases c : j < ms.length
      · rw [List.getElem_append_left c]; exact hms j c
      · have : j = ms.length := by omega
        subst this
        simp only [List.getElem_append_right (Nat.le_refl _), Nat.sub_self, List.getElem_singleton]
        unfold fillB; rw [hmsl]
    rw [hmsl] at mp5 mid5
    have hl5 : (ms ++ [(⟨some (hh.length, 0), some 1024, dat (IntKind.u8.wrap (k : Int)) 1024, cl⟩ : Me)]).length = k + 1 := by rw [List.length_append, hmsl]; rfl
    simp -dsimp (disch := first | with_reducible assumption | omega | (intro h_; cases h_; done) | (simp only [LN] <;> omega) | (simp only [LF]; done) | (repeat (first | with_reducible assumption | apply Ext.refl | apply Ext.app | (apply Ext.set <;> omega) | (refine Ext.trans ?_ (by assumption))))) only [AX, TY, gV, dstOf, p_makeFunc, p_mapUpdate, mapPut, entsOf, p_lookup, p_extract, p_nilCheck, oneV, p_load, p_store, p_binOp, p_unOp, p_indexAddr, p_index, p_box, p_build, evParts, builtinV, load1, ldc, splice, minds, disj, rcOf, isCall, touchV, idsOf, mapId, touchB, p_buildSlice, buildSliceV, reps, fillV, p_convert, p_slice, evO, p_makeSlice, sid_some, soff_some, Nat.reduceLT, Nat.reduceLeDiff, Nat.reduceEqDiff, Nat.reduceAdd, Nat.reduceMul, Int.reduceBEq, Int.reduceEq, Int.reduceNeg, Int.reduceLT, Int.reduceLE, Int.reduceAdd, Int.reduceSub, Int.reduceMul, Int.reduceToNat, Int.reduceGT, Nat.reduceBEq, Nat.reducePow, Nat.reduceGT, reduceCtorEq, ↓reduceIte, t0, t2, t3, t9, t11, t36, t37, hblk, hfd, wrap_in]
    refine ⟨m - 1, by omega, k + 1, ms ++ [⟨some (hh.length, 0), some 1024, dat (IntKind.u8.wrap (k : Int)) 1024, cl⟩], ?_⟩
    repeat' (first | assumption | refine And.intro ?_ ?_)
    all_goals first | rfl | omega | (simp; done) | (simp; omega; done) | skip
  have hinit : ∀ k (hk : k < ms.length), Holds ⟨D, pages, List.replicate frames emptyFr, 0, 0⟩ k (ms[k]).data := fun k hk => by
    rw [hms k hk]; exact holds_init hD1 hD5 (by omega)
  have hmsp : ms.length = pages := by omega
  have hxk := (slK mid).2
  clear hms
  simp -dsimp (disch := first | with_reducible assumption | omega | (intro h_; cases h_; done) | (simp only [LN] <;> omega) | (simp only [LF]; done) | (repeat (first | with_reducible assumption | apply Ext.refl | apply Ext.app | (apply Ext.set <;> omega) | (refine Ext.trans ?_ (by assumption))))) only [AX, TY, gV, dstOf, p_makeFunc, p_mapUpdate, mapPut, entsOf, p_lookup, p_extract, p_nilCheck, oneV, p_load, p_store, p_binOp, p_unOp, p_indexAddr, p_index, p_box, p_build, evParts, builtinV, load1, ldc, splice, minds, disj, rcOf, isCall, touchV, idsOf, mapId, touchB, p_buildSlice, buildSliceV, reps, fillV, p_convert, p_slice, evO, p_makeSlice, sid_some, soff_some, Nat.reduceLT, Nat.reduceLeDiff, Nat.reduceEqDiff, Nat.reduceAdd, Nat.reduceMul, Int.reduceBEq, Int.reduceEq, Int.reduceNeg, Int.reduceLT, Int.reduceLE, Int.reduceAdd, Int.reduceSub, Int.reduceMul, Int.reduceToNat, Int.reduceGT, Nat.reduceBEq, Nat.reducePow, Nat.reduceGT, reduceCtorEq, ↓reduceIte, t0, t2, t3, t9, t11, t36, t37, h2, loadN_fact hxk]
  refine (failAfter_ok mid.at'.dk after).mono ?_
  rintro _ h3 ⟨dk3, kd3⟩
  have hv3 := mid.inv.dsame (D1 := ⟨D.dur, D.pend, max after (-1), D.failed⟩) rfl rfl (by show max after (-1) ≤ _; omega)
  obtain ⟨mid3, kp3⟩ := mid.disk dk3 kd3 hv3.1
  have mp3 := mp.kp kp3
  have hms3 : ∀ k (hk : k < ms.length), Holds ⟨⟨D.dur, D.pend, max after (-1), D.failed⟩, pages, List.replicate frames emptyFr, 0, 0⟩ k (ms[k]).data := fun k hk => (hv3.2 k _).1 (hinit k hk)
  simp -dsimp (disch := first | with_reducible assumption | omega | (intro h_; cases h_; done) | (simp only [LN] <;> omega) | (simp only [LF]; done) | (repeat (first | with_reducible assumption | apply Ext.refl | apply Ext.app | (apply Ext.set <;> omega) | (refine Ext.trans ?_ (by assumption))))) only [AX, TY, gV, dstOf, p_makeFunc, p_mapUpdate, mapPut, entsOf, p_lookup, p_extract, p_nilCheck, oneV, p_load, p_store, p_binOp, p_unOp, p_indexAddr, p_index, p_box, p_build, evParts, builtinV, load1, ldc, splice, minds, disj, rcOf, isCall, touchV, idsOf, mapId, touchB, p_buildSlice, buildSliceV, reps, fillV, p_convert, p_slice, evO, p_makeSlice, sid_some, soff_some, Nat.reduceLT, Nat.reduceLeDiff, Nat.reduceEqDiff, Nat.reduceAdd, Nat.reduceMul, Int.reduceBEq, Int.reduceEq, Int.reduceNeg, Int.reduceLT, Int.reduceLE, Int.reduceAdd, Int.reduceSub, Int.reduceMul, Int.reduceToNat, Int.reduceGT, Nat.reduceBEq, Nat.reducePow, Nat.reduceGT, reduceCtorEq, ↓reduceIte, t0, t2, t3, t9, t11, t36, t37]
  refine W.loop (fun m τ hh => ∃ (i j : Nat) (S : Bp) (oid : Option Nat) (ms : List Me), m + i = l.length ∧ j ≤ i ∧ τ 0 = .int .i64 pages ∧ τ 9 = .ptr (some (h1.length, 0)) ∧ τ 11 = .map (some h0.length) ∧ τ 50 = .slice p l.length c ∧ τ 51 = .int .i64 l.length ∧ τ 52 = .int .i64 i ∧ Mid h.length h0 I pages frames j S oid hh ∧ MapAt hh h0.length (ownP I oid) ms ∧ ms.length = pages ∧ ∀ k (hk : k < ms.length), Holds S k (ms[k]).data) ?_ (m := l.length) ?_
  rotate_left
  · refine ⟨0, 0, ⟨⟨D.dur, D.pend, max after (-1), D.failed⟩, pages, List.replicate frames emptyFr, 0, 0⟩, none, ms, ?_⟩
    simp -dsimp (disch := first | with_reducible assumption | omega | (intro h_; cases h_; done) | (simp only [LN] <;> omega) | (simp only [LF]; done) | (repeat (first | with_reducible assumption | apply Ext.refl | apply Ext.app | (apply Ext.set <;> omega) | (refine Ext.trans ?_ (by assumption))))) only [AX, TY, gV, dstOf, p_makeFunc, p_mapUpdate, mapPut, entsOf, p_lookup, p_extract, p_nilCheck, oneV, p_load, p_store, p_binOp, p_unOp, p_indexAddr, p_index, p_box, p_build, evParts, builtinV, load1, ldc, splice, minds, disj, rcOf, isCall, touchV, idsOf, mapId, touchB, p_buildSlice, buildSliceV, reps, fillV, p_convert, p_slice, evO, p_makeSlice, sid_some, soff_some, Nat.reduceLT, Nat.reduceLeDiff, Nat.reduceEqDiff, Nat.reduceAdd, Nat.reduceMul, Int.reduceBEq, Int.reduceEq, Int.reduceNeg, Int.reduceLT, Int.reduceLE, Int.reduceAdd, Int.reduceSub, Int.reduceMul, Int.reduceToNat, Int.reduceGT, Nat.reduceBEq, Nat.reducePow, Nat.reduceGT, reduceCtorEq, ↓reduceIte, t0, t2, t3, t9, t11, t36, t37]
    repeat' (first | assumption | refine And.intro ?_ ?_)
    all_goals first | rfl | omega | (simp; done) | (simp; omega; done) | skip
  clear t0 t2 t3 t9 t11 t36 t37 mid mp hmsl hinit hmsp hxk hm h2 mid3 mp3 hms3 hv3 dk3 kd3 kp3
  rintro m τ hh ⟨i, jj, S, oid, ms, hm, hji, t0, t9, t11, t50, t51, t52, mid, mp, hmsl, hms⟩
  obtain ⟨sl, hx⟩ := slK mid
  by_cases h2 : (i : Int) < (l.length : Int)
  · have hi : i < l.length := by omega
    have hla := sl.load0 (.refl _) hi (m := 4) (by decide)
    have hmem := List.getElem_mem hi
    generalize l[i] = x at hla hmem
    simp only [Cl.enc, List.take] at hla
    obtain ⟨g, hg, gx, eg, hgl⟩ : ∃ g, hh ++ [O.cells (Cl.enc x) .rw] = g ∧ g[hh.length]? = some (O.cells (Cl.enc x) .rw) ∧ Ext hh g ∧ g.length = hh.length + 1 := ⟨_, rfl, snoc_last _ rfl, (by (repeat (first | assumption | apply Ext.refl | apply Ext.app | (apply Ext.set <;> omega) | exact Ext.trans (by assumption) (by assumption) | (refine Ext.trans ?_ (by assumption))))), by simp⟩
    simp only [Cl.enc] at hg gx
    have midg := mid.ext eg
    have mpg := mp.ext eg
    have hxg := eg _ _ hx
    by_cases k3 : 3 < x.kind
    · simp -dsimp (disch := first | with_reducible assumption | omega | (intro h_; cases h_; done) | (simp only [LN] <;> omega) | (simp only [LF]; done) | (repeat (first | with_reducible assumption | apply Ext.refl | apply Ext.app | (apply Ext.set <;> omega) | (refine Ext.trans ?_ (by assumption))))) only [AX, TY, gV, dstOf, p_makeFunc, p_mapUpdate, mapPut, entsOf, p_lookup, p_extract, p_nilCheck, oneV, p_load, p_store, p_binOp, p_unOp, p_indexAddr, p_index, p_box, p_build, evParts, builtinV, load1, ldc, splice, minds, disj, rcOf, isCall, touchV, idsOf, mapId, touchB, p_buildSlice, buildSliceV, reps, fillV, p_convert, p_slice, evO, p_makeSlice, sid_some, soff_some, Nat.reduceLT, Nat.reduceLeDiff, Nat.reduceEqDiff, Nat.reduceAdd, Nat.reduceMul, Int.reduceBEq, Int.reduceEq, Int.reduceNeg, Int.reduceLT, Int.reduceLE, Int.reduceAdd, Int.reduceSub, Int.reduceMul, Int.reduceToNat, Int.reduceGT, Nat.reduceBEq, Nat.reducePow, Nat.reduceGT, reduceCtorEq, ↓reduceIte, t0, t9, t11, t50, t51, t52, h2, hla, hg, loadN_fact gx, k3, wrap_in]
      refine ⟨m - 1, by omega, i + 1, jj, S, oid, ms, ?_⟩
      repeat' (first | assumption | refine And.intro ?_ ?_)
      all_goals first | rfl | omega | (simp; done) | (simp; omega; done) | skip
    have hcall := midg.call (by omega) x (b6 x hmem) (hcn x hmem)
    simp only [Cl.enc] at hcall
    simp -dsimp (disch := first | with_reducible assumption | omega | (intro h_; cases h_; done) | (simp only [LN] <;> omega) | (simp only [LF]; done) | (repeat (first | with_reducible assumption | apply Ext.refl | apply Ext.app | (apply Ext.set <;> omega) | (refine Ext.trans ?_ (by assumption))))) only [AX, TY, gV, dstOf, p_makeFunc, p_mapUpdate, mapPut, entsOf, p_lookup, p_extract, p_nilCheck, oneV, p_load, p_store, p_binOp, p_unOp, p_indexAddr, p_index, p_box, p_build, evParts, builtinV, load1, ldc, splice, minds, disj, rcOf, isCall, touchV, idsOf, mapId, touchB, p_buildSlice, buildSliceV, reps, fillV, p_convert, p_slice, evO, p_makeSlice, sid_some, soff_some, Nat.reduceLT, Nat.reduceLeDiff, Nat.reduceEqDiff, Nat.reduceAdd, Nat.reduceMul, Int.reduceBEq, Int.reduceEq, Int.reduceNeg, Int.reduceLT, Int.reduceLE, Int.reduceAdd, Int.reduceSub, Int.reduceMul, Int.reduceToNat, Int.reduceGT, Nat.reduceBEq, Nat.reducePow, Nat.reduceGT, reduceCtorEq, ↓reduceIte, t0, t9, t11, t50, t51, t52, h2, hla, hg, loadN_fact gx, k3, loadN_fact hxg]
    refine hcall.mono ?_
    rintro _ h6 ⟨S', oid', e, dd, cr, mid6, k6, pr, cr', rfl, slr, hpr⟩
    have gx6 := k6.get gx (fun q => by have := mid.at'.lt q; omega)
    have mp6 := mpg.kp k6
    obtain ⟨hk1, hk2, hk3, hk4, hk5, hk6, hk7⟩ := call_keeps mid.inv (by omega) (hcn x hmem) cr
    obtain ⟨clk, hblk⟩ := mp6.blk
    by_cases hu : x.kind = 1 ∧ e = 0
    rotate_left
    · have hms6 : ∀ k (hk : k < ms.length), Holds S' k (ms[k]).data := fun k hk => hk4 k _ (by rw [mid.pages, ← hmsl]; exact hk) (hms k hk) fun q => hu ⟨by omega, q.2.1⟩
      by_cases he : e = 0
      · have c1 : ¬ x.kind = 1 := fun q => hu ⟨q, he⟩
        simp -dsimp (disch := first | with_reducible assumption | omega | (intro h_; cases h_; done) | (simp only [LN] <;> omega) | (simp only [LF]; done) | (repeat (first | with_reducible assumption | apply Ext.refl | apply Ext.app | (apply Ext.set <;> omega) | (refine Ext.trans ?_ (by assumption))))) only [AX, TY, gV, dstOf, p_makeFunc, p_mapUpdate, mapPut, entsOf, p_lookup, p_extract, p_nilCheck, oneV, p_load, p_store, p_binOp, p_unOp, p_indexAddr, p_index, p_box, p_build, evParts, builtinV, load1, ldc, splice, minds, disj, rcOf, isCall, touchV, idsOf, mapId, touchB, p_buildSlice, buildSliceV, reps, fillV, p_convert, p_slice, evO, p_makeSlice, sid_some, soff_some, Nat.reduceLT, Nat.reduceLeDiff, Nat.reduceEqDiff, Nat.reduceAdd, Nat.reduceMul, Int.reduceBEq, Int.reduceEq, Int.reduceNeg, Int.reduceLT, Int.reduceLE, Int.reduceAdd, Int.reduceSub, Int.reduceMul, Int.reduceToNat, Int.reduceGT, Nat.reduceBEq, Nat.reducePow, Nat.reduceGT, reduceCtorEq, ↓reduceIte, t0, t9, t11, t50, t51, t52, loadN_fact gx6, eq_true he, c1, wrap_in]
        refine ⟨m - 1, by omega, i + 1, jj + 1, S', oid', ms, ?_⟩
        repeat' (first | assumption | refine And.intro ?_ ?_)
        all_goals first | rfl | omega | (simp; done) | (simp; omega; done) | skip
      · simp -dsimp (disch := first | with_reducible assumption | omega | (intro h_; cases h_; done) | (simp only [LN] <;> omega) | (simp only [LF]; done) | (repeat (first | with_reducible assumption | apply Ext.refl | apply Ext.app | (apply Ext.set <;> omega) | (refine Ext.trans ?_ (by assumption))))) only [AX, TY, gV, dstOf, p_makeFunc, p_mapUpdate, mapPut, entsOf, p_lookup, p_extract, p_nilCheck, oneV, p_load, p_store, p_binOp, p_unOp, p_indexAddr, p_index, p_box, p_build, evParts, builtinV, load1, ldc, splice, minds, disj, rcOf, isCall, touchV, idsOf, mapId, touchB, p_buildSlice, buildSliceV, reps, fillV, p_convert, p_slice, evO, p_makeSlice, sid_some, soff_some, Nat.reduceLT, Nat.reduceLeDiff, Nat.reduceEqDiff, Nat.reduceAdd, Nat.reduceMul, Int.reduceBEq, Int.reduceEq, Int.reduceNeg, Int.reduceLT, Int.reduceLE, Int.reduceAdd, Int.reduceSub, Int.reduceMul, Int.reduceToNat, Int.reduceGT, Nat.reduceBEq, Nat.reducePow, Nat.reduceGT, reduceCtorEq, ↓reduceIte, t0, t9, t11, t50, t51, t52, loadN_fact gx6, he, wrap_in]
        refine ⟨m - 1, by omega, i + 1, jj + 1, S', oid', ms, ?_⟩
        repeat' (first | assumption | refine And.intro ?_ ?_)
        all_goals first | rfl | omega | (simp; done) | (simp; omega; done) | skip
    obtain ⟨c1, rfl⟩ := hu
    obtain ⟨n, hn1, hn2, hn3, hn4⟩ := hk5 (.inl c1) rfl
    have hnm : n < ms.length := by rw [hmsl, ← mid.pages]; exact hn2
    have hfd := find_in (k := 0) (n := n) (i := 0) (ms := ms) (by omega) (by omega)
    simp only [Nat.sub_zero, Nat.zero_add] at hfd
    have hud : upd' x = dat x.fill 1024 := if_pos c1
    rw [hud] at hn4
    have hms7 : ∀ (p : Option (Nat × Nat)) (c : Option Nat) (b : Nat), ∀ k (hk : k < (ms.set n ⟨p, c, dat x.fill 1024, b⟩).length), Holds S' k ((ms.set n (⟨p, c, dat x.fill 1024, b⟩ : Me))[k]).data := fun p c b k hk => by
      have hk' : k < ms.length := by rw [List.length_set] at hk; exact hk
      by_cases q : n = k
      · subst q
        rw [List.getElem_set_self]; exact hn4
      · rw [List.getElem_set_ne q]
        exact hk4 k _ (by rw [mid.pages, ← hmsl]; exact hk') (hms k hk') fun z => q (by have := z.2.2; rw [hn1] at this; omega)
    have gx6' := gx6
    rw [hn1] at gx6'
    have lx6 := lt_of_some gx6
    have lb6 := lt_of_some hblk
    simp -dsimp (disch := first | with_reducible assumption | omega | (intro h_; cases h_; done) | (simp only [LN] <;> omega) | (simp only [LF]; done) | (repeat (first | with_reducible assumption | apply Ext.refl | apply Ext.app | (apply Ext.set <;> omega) | (refine Ext.trans ?_ (by assumption))))) only [AX, TY, gV, dstOf, p_makeFunc, p_mapUpdate, mapPut, entsOf, p_lookup, p_extract, p_nilCheck, oneV, p_load, p_store, p_binOp, p_unOp, p_indexAddr, p_index, p_box, p_build, evParts, builtinV, load1, ldc, splice, minds, disj, rcOf, isCall, touchV, idsOf, mapId, touchB, p_buildSlice, buildSliceV, reps, fillV, p_convert, p_slice, evO, p_makeSlice, sid_some, soff_some, Nat.reduceLT, Nat.reduceLeDiff, Nat.reduceEqDiff, Nat.reduceAdd, Nat.reduceMul, Int.reduceBEq, Int.reduceEq, Int.reduceNeg, Int.reduceLT, Int.reduceLE, Int.reduceAdd, Int.reduceSub, Int.reduceMul, Int.reduceToNat, Int.reduceGT, Nat.reduceBEq, Nat.reducePow, Nat.reduceGT, reduceCtorEq, ↓reduceIte, t0, t9, t11, t50, t51, t52, loadN_fact gx6, eq_true c1]
    refine W.drawn [(0, []), (1, [0]), (2, [0]), (3, [2, 1, 0]), (4, [2, 1, 0]), (5, [2, 1, 0]), (6, [])] (by decide +kernel) ?_
    simp -dsimp (disch := first | with_reducible assumption | omega | (intro h_; cases h_; done) | (simp only [LN] <;> omega) | (simp only [LF]; done) | (repeat (first | with_reducible assumption | apply Ext.refl | apply Ext.app | (apply Ext.set <;> omega) | (refine Ext.trans ?_ (by assumption))))) only [AX, TY, gV, dstOf, p_makeFunc, p_mapUpdate, mapPut, entsOf, p_lookup, p_extract, p_nilCheck, oneV, p_load, p_store, p_binOp, p_unOp, p_indexAddr, p_index, p_box, p_build, evParts, builtinV, load1, ldc, splice, minds, disj, rcOf, isCall, touchV, idsOf, mapId, touchB, p_buildSlice, buildSliceV, reps, fillV, p_convert, p_slice, evO, p_makeSlice, sid_some, soff_some, Nat.reduceLT, Nat.reduceLeDiff, Nat.reduceEqDiff, Nat.reduceAdd, Nat.reduceMul, Int.reduceBEq, Int.reduceEq, Int.reduceNeg, Int.reduceLT, Int.reduceLE, Int.reduceAdd, Int.reduceSub, Int.reduceMul, Int.reduceToNat, Int.reduceGT, Nat.reduceBEq, Nat.reducePow, Nat.reduceGT, reduceCtorEq, ↓reduceIte, t0, t9, t11, t50, t51, t52, loadN_fact gx6']
    refine (data_c x.fill 1024 (by decide)).mono ?_
    rintro _ h8 ⟨e8, rfl, sl8⟩
    have mid8 := mid6.ext e8
    have mp8 := mp6.ext e8
    have hblk8 := e8 _ _ hblk
    have gx8 := e8 _ _ gx6
    have s0 := sameO_ext e8 lx6
    have s1 := sameO_ext e8 lb6
    have hb8 := lt_of_some hblk8
    have mp9 := mp8.put hblk8 hnm (c := some 1024) sl8 (fun a o z => by cases z; exact fun q => by have := mid6.at'.lt q; omega)
    have mid9 := mid8.put (es' := (entsV 0 ms).set n (.int .i64 (n : Int), .slice (some (h6.length, 0)) (dat x.fill 1024).length (some 1024), (ms[n]).born)) (cl' := clk) hblk8 mp8.no (Nat.le_refl _)
    have hne : ¬ hh.length = h0.length := fun q => by rw [q] at gx8; rw [hblk8] at gx8; cases gx8
    have hl9 : (ms.set n (⟨some (h6.length, 0), some 1024, dat x.fill 1024, (ms[n]).born⟩ : Me)).length = pages := by rw [List.length_set]; exact hmsl
    have hms9 := hms7 (some (h6.length, 0)) (some 1024) (ms[n]).born
    simp -dsimp (disch := first | with_reducible assumption | omega | (intro h_; cases h_; done) | (simp only [LN] <;> omega) | (simp only [LF]; done) | (repeat (first | with_reducible assumption | apply Ext.refl | apply Ext.app | (apply Ext.set <;> omega) | (refine Ext.trans ?_ (by assumption))))) only [AX, TY, gV, dstOf, p_makeFunc, p_mapUpdate, mapPut, entsOf, p_lookup, p_extract, p_nilCheck, oneV, p_load, p_store, p_binOp, p_unOp, p_indexAddr, p_index, p_box, p_build, evParts, builtinV, load1, ldc, splice, minds, disj, rcOf, isCall, touchV, idsOf, mapId, touchB, p_buildSlice, buildSliceV, reps, fillV, p_convert, p_slice, evO, p_makeSlice, sid_some, soff_some, Nat.reduceLT, Nat.reduceLeDiff, Nat.reduceEqDiff, Nat.reduceAdd, Nat.reduceMul, Int.reduceBEq, Int.reduceEq, Int.reduceNeg, Int.reduceLT, Int.reduceLE, Int.reduceAdd, Int.reduceSub, Int.reduceMul, Int.reduceToNat, Int.reduceGT, Nat.reduceBEq, Nat.reducePow, Nat.reduceGT, reduceCtorEq, ↓reduceIte, t0, t9, t11, t50, t51, t52, s0, s1, hblk8, hfd, loadN_fact gx8, hne, wrap_in]
    refine ⟨m - 1, by omega, i + 1, jj + 1, S', oid', ms.set n ⟨some (h6.length, 0), some 1024, dat x.fill 1024, (ms[n]).born⟩, ?_⟩
    repeat' (first | assumption | refine And.intro ?_ ?_)
    all_goals first | rfl | omega | (simp; done) | (simp; omega; done) | skip
  have mid40 : Mid h.length h0 I pages frames 40 S oid hh := ⟨mid.at', mid.inv.mono (by omega) (by decide), mid.pages, mid.frames, mid.kp⟩
  have hcr := mid.crash (by omega)
  have lxx := lt_of_some hx
  have ne0 := fun q => mid.at'.lt (i := h1.length) q
  have hnx1 : ¬ ownP I oid h1.length := mid.kp.not (by omega) hnx
  simp -dsimp (disch := first | with_reducible assumption | omega | (intro h_; cases h_; done) | (simp only [LN] <;> omega) | (simp only [LF]; done) | (repeat (first | with_reducible assumption | apply Ext.refl | apply Ext.app | (apply Ext.set <;> omega) | (refine Ext.trans ?_ (by assumption))))) only [AX, TY, gV, dstOf, p_makeFunc, p_mapUpdate, mapPut, entsOf, p_lookup, p_extract, p_nilCheck, oneV, p_load, p_store, p_binOp, p_unOp, p_indexAddr, p_index, p_box, p_build, evParts, builtinV, load1, ldc, splice, minds, disj, rcOf, isCall, touchV, idsOf, mapId, touchB, p_buildSlice, buildSliceV, reps, fillV, p_convert, p_slice, evO, p_makeSlice, sid_some, soff_some, Nat.reduceLT, Nat.reduceLeDiff, Nat.reduceEqDiff, Nat.reduceAdd, Nat.reduceMul, Int.reduceBEq, Int.reduceEq, Int.reduceNeg, Int.reduceLT, Int.reduceLE, Int.reduceAdd, Int.reduceSub, Int.reduceMul, Int.reduceToNat, Int.reduceGT, Nat.reduceBEq, Nat.reducePow, Nat.reduceGT, reduceCtorEq, ↓reduceIte, t0, t9, t11, t50, t51, t52, h2]
  refine W.drawn [(0, []), (1, []), (2, [1, 0]), (3, [])] (by decide +kernel) ?_
  simp -dsimp (disch := first | with_reducible assumption | omega | (intro h_; cases h_; done) | (simp only [LN] <;> omega) | (simp only [LF]; done) | (repeat (first | with_reducible assumption | apply Ext.refl | apply Ext.app | (apply Ext.set <;> omega) | (refine Ext.trans ?_ (by assumption))))) only [AX, TY, gV, dstOf, p_makeFunc, p_mapUpdate, mapPut, entsOf, p_lookup, p_extract, p_nilCheck, oneV, p_load, p_store, p_binOp, p_unOp, p_indexAddr, p_index, p_box, p_build, evParts, builtinV, load1, ldc, splice, minds, disj, rcOf, isCall, touchV, idsOf, mapId, touchB, p_buildSlice, buildSliceV, reps, fillV, p_convert, p_slice, evO, p_makeSlice, sid_some, soff_some, Nat.reduceLT, Nat.reduceLeDiff, Nat.reduceEqDiff, Nat.reduceAdd, Nat.reduceMul, Int.reduceBEq, Int.reduceEq, Int.reduceNeg, Int.reduceLT, Int.reduceLE, Int.reduceAdd, Int.reduceSub, Int.reduceMul, Int.reduceToNat, Int.reduceGT, Nat.reduceBEq, Nat.reducePow, Nat.reduceGT, reduceCtorEq, ↓reduceIte, t0, t9, t11, loadN_fact hx]
  refine (surv_ok 40 (by decide)).mono ?_
  rintro _ h4 ⟨e4, p4, c4, rfl, sl4, hpf4⟩
  have mid4 := mid40.ext e4
  have mp4 := mp.ext e4
  have hx4 := e4 _ _ hx
  have s0 := sameO_ext e4 lxx
  simp -dsimp (disch := first | with_reducible assumption | omega | (intro h_; cases h_; done) | (simp only [LN] <;> omega) | (simp only [LF]; done) | (repeat (first | with_reducible assumption | apply Ext.refl | apply Ext.app | (apply Ext.set <;> omega) | (refine Ext.trans ?_ (by assumption))))) only [AX, TY, gV, dstOf, p_makeFunc, p_mapUpdate, mapPut, entsOf, p_lookup, p_extract, p_nilCheck, oneV, p_load, p_store, p_binOp, p_unOp, p_indexAddr, p_index, p_box, p_build, evParts, builtinV, load1, ldc, splice, minds, disj, rcOf, isCall, touchV, idsOf, mapId, touchB, p_buildSlice, buildSliceV, reps, fillV, p_convert, p_slice, evO, p_makeSlice, sid_some, soff_some, Nat.reduceLT, Nat.reduceLeDiff, Nat.reduceEqDiff, Nat.reduceAdd, Nat.reduceMul, Int.reduceBEq, Int.reduceEq, Int.reduceNeg, Int.reduceLT, Int.reduceLE, Int.reduceAdd, Int.reduceSub, Int.reduceMul, Int.reduceToNat, Int.reduceGT, Nat.reduceBEq, Nat.reducePow, Nat.reduceGT, reduceCtorEq, ↓reduceIte, t0, t9, t11, s0]
  refine (crash_ok mid4.at'.dk sl4 (fun a o z w => by have := hpf4 a o z; have := mid.at'.lt (.inr (.inr w)); omega) hcr.1 hcr.2).mono ?_
  rintro r h5 ⟨dk5, kd5⟩
  have hv5 : PIn ⟨⟨applyAll S.D.dur S.D.pend, [], -1, false⟩, S.pages, S.frames, S.hand, S.reads⟩ 40 := by
    have v := mid40.inv
    refine ⟨v.cur_len, v.pages, v.fl, v.fr, v.dis, by simp, ?_, by show (-1 : Int) ≤ _; decide, v.reads, v.hand, v.big⟩
    have := v.cnt
    show 0 + dirtyN S.frames ≤ _
    omega
  obtain ⟨mid5, k5⟩ := mid4.disk dk5 kd5 hv5
  have mp5 := mp4.kp k5
  have hx5 := (slK mid5).2
  have s1 : sameO h4[h1.length]? h5[h1.length]? = true := by rw [hx4, hx5]; exact sameO_refl _
  have s2 : sameO hh[h1.length]? h5[h1.length]? = true := by rw [hx, hx5]; exact sameO_refl _
  have hms5 : ∀ k (hk : k < ms.length), Holds ⟨⟨applyAll S.D.dur S.D.pend, [], -1, false⟩, S.pages, S.frames, S.hand, S.reads⟩ k (ms[k]).data := hms
  generalize hS1 : (⟨⟨applyAll S.D.dur S.D.pend, [], -1, false⟩, S.pages, S.frames, S.hand, S.reads⟩ : Bp) = S1 at mid5 hms5 hv5
  have hf1 : S1.D.failed = false := by rw [← hS1]
  have hc1 : S1.D.ctr < 0 := by rw [← hS1]; show (-1 : Int) < 0; decide
  clear hms hS1 dk5 kd5 mid4 mp4 mid40 hcr mid mp
  simp -dsimp (disch := first | with_reducible assumption | omega | (intro h_; cases h_; done) | (simp only [LN] <;> omega) | (simp only [LF]; done) | (repeat (first | with_reducible assumption | apply Ext.refl | apply Ext.app | (apply Ext.set <;> omega) | (refine Ext.trans ?_ (by assumption))))) only [AX, TY, gV, dstOf, p_makeFunc, p_mapUpdate, mapPut, entsOf, p_lookup, p_extract, p_nilCheck, oneV, p_load, p_store, p_binOp, p_unOp, p_indexAddr, p_index, p_box, p_build, evParts, builtinV, load1, ldc, splice, minds, disj, rcOf, isCall, touchV, idsOf, mapId, touchB, p_buildSlice, buildSliceV, reps, fillV, p_convert, p_slice, evO, p_makeSlice, sid_some, soff_some, Nat.reduceLT, Nat.reduceLeDiff, Nat.reduceEqDiff, Nat.reduceAdd, Nat.reduceMul, Int.reduceBEq, Int.reduceEq, Int.reduceNeg, Int.reduceLT, Int.reduceLE, Int.reduceAdd, Int.reduceSub, Int.reduceMul, Int.reduceToNat, Int.reduceGT, Nat.reduceBEq, Nat.reducePow, Nat.reduceGT, reduceCtorEq, ↓reduceIte, t0, t9, t11, s0, s1, s2]
  refine W.loop (fun m τ hh => ∃ (k : Nat) (S : Bp) (oid : Option Nat), m + k = pages ∧ τ 0 = .int .i64 pages ∧ τ 9 = .ptr (some (h1.length, 0)) ∧ τ 11 = .map (some h0.length) ∧ τ 83 = .int .i64 pages ∧ τ 84 = .int .i64 k ∧ Mid h.length h0 I pages frames 40 S oid hh ∧ MapAt hh h0.length (ownP I oid) ms ∧ S.D.failed = false ∧ S.D.ctr < 0 ∧ (∀ k (hk : k < ms.length), Holds S k (ms[k]).data) ∧ ∀ j, j < k → pinsOf S (j : Int) ≤ 0) ?_ (m := pages) ?_
  rotate_left
  · refine ⟨0, S1, none, ?_⟩
    simp -dsimp (disch := first | with_reducible assumption | omega | (intro h_; cases h_; done) | (simp only [LN] <;> omega) | (simp only [LF]; done) | (repeat (first | with_reducible assumption | apply Ext.refl | apply Ext.app | (apply Ext.set <;> omega) | (refine Ext.trans ?_ (by assumption))))) only [AX, TY, gV, dstOf, p_makeFunc, p_mapUpdate, mapPut, entsOf, p_lookup, p_extract, p_nilCheck, oneV, p_load, p_store, p_binOp, p_unOp, p_indexAddr, p_index, p_box, p_build, evParts, builtinV, load1, ldc, splice, minds, disj, rcOf, isCall, touchV, idsOf, mapId, touchB, p_buildSlice, buildSliceV, reps, fillV, p_convert, p_slice, evO, p_makeSlice, sid_some, soff_some, Nat.reduceLT, Nat.reduceLeDiff, Nat.reduceEqDiff, Nat.reduceAdd, Nat.reduceMul, Int.reduceBEq, Int.reduceEq, Int.reduceNeg, Int.reduceLT, Int.reduceLE, Int.reduceAdd, Int.reduceSub, Int.reduceMul, Int.reduceToNat, Int.reduceGT, Nat.reduceBEq, Nat.reducePow, Nat.reduceGT, reduceCtorEq, ↓reduceIte, t0, t9, t11]
    repeat' (first | assumption | refine And.intro ?_ ?_)
    all_goals first | rfl | omega | (simp; done) | (simp; omega; done) | skip
  clear t0 t9 t11 t50 t51 t52 mid5 mp5 hms5 hv5 hf1 hc1 k5 s0 s1 s2 hx5
  rintro m τ hh ⟨k, S, oid, hm, t0, t9, t11, t83, t84, mid, mp, hf, hc, hms, hz⟩
  by_cases h3 : (k : Int) < (pages : Int)
  · simp -dsimp (disch := first | with_reducible assumption | omega | (intro h_; cases h_; done) | (simp only [LN] <;> omega) | (simp only [LF]; done) | (repeat (first | with_reducible assumption | apply Ext.refl | apply Ext.app | (apply Ext.set <;> omega) | (refine Ext.trans ?_ (by assumption))))) only [AX, TY, gV, dstOf, p_makeFunc, p_mapUpdate, mapPut, entsOf, p_lookup, p_extract, p_nilCheck, oneV, p_load, p_store, p_binOp, p_unOp, p_indexAddr, p_index, p_box, p_build, evParts, builtinV, load1, ldc, splice, minds, disj, rcOf, isCall, touchV, idsOf, mapId, touchB, p_buildSlice, buildSliceV, reps, fillV, p_convert, p_slice, evO, p_makeSlice, sid_some, soff_some, Nat.reduceLT, Nat.reduceLeDiff, Nat.reduceEqDiff, Nat.reduceAdd, Nat.reduceMul, Int.reduceBEq, Int.reduceEq, Int.reduceNeg, Int.reduceLT, Int.reduceLE, Int.reduceAdd, Int.reduceSub, Int.reduceMul, Int.reduceToNat, Int.reduceGT, Nat.reduceBEq, Nat.reducePow, Nat.reduceGT, reduceCtorEq, ↓reduceIte, t0, t9, t11, t83, t84, h3]
    refine W.loop (fun m2 τ hh => ∃ (S : Bp) (oid : Option Nat), m2 = (pinsOf S (k : Int)).toNat ∧ τ 0 = .int .i64 pages ∧ τ 9 = .ptr (some (h1.length, 0)) ∧ τ 11 = .map (some h0.length) ∧ τ 17 = .int .i64 k ∧ τ 83 = .int .i64 pages ∧ τ 84 = .int .i64 k ∧ Mid h.length h0 I pages frames 40 S oid hh ∧ MapAt hh h0.length (ownP I oid) ms ∧ S.D.failed = false ∧ S.D.ctr < 0 ∧ (∀ k (hk : k < ms.length), Holds S k (ms[k]).data) ∧ ∀ j, j < k → pinsOf S (j : Int) ≤ 0) ?_ (m := (pinsOf S (k : Int)).toNat) ?_
    rotate_left
    · refine ⟨S, oid, rfl, ?_⟩
      simp -dsimp (disch := first | with_reducible assumption | omega | (intro h_; cases h_; done) | (simp only [LN] <;> omega) | (simp only [LF]; done) | (repeat (first | with_reducible assumption | apply Ext.refl | apply Ext.app | (apply Ext.set <;> omega) | (refine Ext.trans ?_ (by assumption))))) only [AX, TY, gV, dstOf, p_makeFunc, p_mapUpdate, mapPut, entsOf, p_lookup, p_extract, p_nilCheck, oneV, p_load, p_store, p_binOp, p_unOp, p_indexAddr, p_index, p_box, p_build, evParts, builtinV, load1, ldc, splice, minds, disj, rcOf, isCall, touchV, idsOf, mapId, touchB, p_buildSlice, buildSliceV, reps, fillV, p_convert, p_slice, evO, p_makeSlice, sid_some, soff_some, Nat.reduceLT, Nat.reduceLeDiff, Nat.reduceEqDiff, Nat.reduceAdd, Nat.reduceMul, Int.reduceBEq, Int.reduceEq, Int.reduceNeg, Int.reduceLT, Int.reduceLE, Int.reduceAdd, Int.reduceSub, Int.reduceMul, Int.reduceToNat, Int.reduceGT, Nat.reduceBEq, Nat.reducePow, Nat.reduceGT, reduceCtorEq, ↓reduceIte, t0, t9, t11, t83, t84]
      repeat' (first | assumption | refine And.intro ?_ ?_)
      all_goals first | rfl | omega | (simp; done) | (simp; omega; done) | skip
    clear t0 t9 t11 t83 t84 mid mp hf hc hms hz
    rintro m2 τ2 hh2 ⟨S, oid, hm2, t0, t9, t11, t17, t83, t84, mid, mp, hf, hc, hms, hz⟩
    have hx := (slK mid).2
    simp -dsimp (disch := first | with_reducible assumption | omega | (intro h_; cases h_; done) | (simp only [LN] <;> omega) | (simp only [LF]; done) | (repeat (first | with_reducible assumption | apply Ext.refl | apply Ext.app | (apply Ext.set <;> omega) | (refine Ext.trans ?_ (by assumption))))) only [AX, TY, gV, dstOf, p_makeFunc, p_mapUpdate, mapPut, entsOf, p_lookup, p_extract, p_nilCheck, oneV, p_load, p_store, p_binOp, p_unOp, p_indexAddr, p_index, p_box, p_build, evParts, builtinV, load1, ldc, splice, minds, disj, rcOf, isCall, touchV, idsOf, mapId, touchB, p_buildSlice, buildSliceV, reps, fillV, p_convert, p_slice, evO, p_makeSlice, sid_some, soff_some, Nat.reduceLT, Nat.reduceLeDiff, Nat.reduceEqDiff, Nat.reduceAdd, Nat.reduceMul, Int.reduceBEq, Int.reduceEq, Int.reduceNeg, Int.reduceLT, Int.reduceLE, Int.reduceAdd, Int.reduceSub, Int.reduceMul, Int.reduceToNat, Int.reduceGT, Nat.reduceBEq, Nat.reducePow, Nat.reduceGT, reduceCtorEq, ↓reduceIte, t0, t9, t11, t17, t83, t84, loadN_fact hx]
    refine (pins_c mid.at' (k : Int)).mono ?_
    rintro _ h6 ⟨e6, rfl⟩
    have mid6 := mid.ext e6
    have mp6 := mp.ext e6
    have hx6 := (slK mid6).2
    by_cases h7 : 0 < pinsOf S (k : Int)
    rotate_left
    · simp -dsimp (disch := first | with_reducible assumption | omega | (intro h_; cases h_; done) | (simp only [LN] <;> omega) | (simp only [LF]; done) | (repeat (first | with_reducible assumption | apply Ext.refl | apply Ext.app | (apply Ext.set <;> omega) | (refine Ext.trans ?_ (by assumption))))) only [AX, TY, gV, dstOf, p_makeFunc, p_mapUpdate, mapPut, entsOf, p_lookup, p_extract, p_nilCheck, oneV, p_load, p_store, p_binOp, p_unOp, p_indexAddr, p_index, p_box, p_build, evParts, builtinV, load1, ldc, splice, minds, disj, rcOf, isCall, touchV, idsOf, mapId, touchB, p_buildSlice, buildSliceV, reps, fillV, p_convert, p_slice, evO, p_makeSlice, sid_some, soff_some, Nat.reduceLT, Nat.reduceLeDiff, Nat.reduceEqDiff, Nat.reduceAdd, Nat.reduceMul, Int.reduceBEq, Int.reduceEq, Int.reduceNeg, Int.reduceLT, Int.reduceLE, Int.reduceAdd, Int.reduceSub, Int.reduceMul, Int.reduceToNat, Int.reduceGT, Nat.reduceBEq, Nat.reducePow, Nat.reduceGT, reduceCtorEq, ↓reduceIte, t0, t9, t11, t17, t83, t84, h7, wrap_in]
      have hz' : ∀ j, j < k + 1 → pinsOf S (j : Int) ≤ 0 := fun j hj => by
        by_cases c : j = k
        · subst c; omega
        · exact hz j (by omega)
      refine ⟨m - 1, by omega, k + 1, S, oid, ?_⟩
      repeat' (first | assumption | refine And.intro ?_ ?_)
      all_goals first | rfl | omega | (simp; done) | (simp; omega; done) | skip
    simp -dsimp (disch := first | with_reducible assumption | omega | (intro h_; cases h_; done) | (simp only [LN] <;> omega) | (simp only [LF]; done) | (repeat (first | with_reducible assumption | apply Ext.refl | apply Ext.app | (apply Ext.set <;> omega) | (refine Ext.trans ?_ (by assumption))))) only [AX, TY, gV, dstOf, p_makeFunc, p_mapUpdate, mapPut, entsOf, p_lookup, p_extract, p_nilCheck, oneV, p_load, p_store, p_binOp, p_unOp, p_indexAddr, p_index, p_box, p_build, evParts, builtinV, load1, ldc, splice, minds, disj, rcOf, isCall, touchV, idsOf, mapId, touchB, p_buildSlice, buildSliceV, reps, fillV, p_convert, p_slice, evO, p_makeSlice, sid_some, soff_some, Nat.reduceLT, Nat.reduceLeDiff, Nat.reduceEqDiff, Nat.reduceAdd, Nat.reduceMul, Int.reduceBEq, Int.reduceEq, Int.reduceNeg, Int.reduceLT, Int.reduceLE, Int.reduceAdd, Int.reduceSub, Int.reduceMul, Int.reduceToNat, Int.reduceGT, Nat.reduceBEq, Nat.reducePow, Nat.reduceGT, reduceCtorEq, ↓reduceIte, t0, t9, t11, t17, t83, t84, h7, loadN_fact hx6]
    refine (unpin_ok mid6.at' (k : Int) fun f hf' => (mid6.inv.okp.pins f hf').2).mono ?_
    rintro r h8 ⟨k8, q8⟩
    have qq : ∃ S' e, r = .int .i64 e ∧ UnR S (k : Int) S' e ∧ PAt h.length h8 I S' oid := by
      rcases q8 with ⟨h1, rfl, h2⟩ | ⟨i, hi, h1, rfl, h4⟩
      · exact ⟨S, 9, rfl, .inl ⟨h1, rfl, rfl⟩, h2⟩
      · exact ⟨_, 0, rfl, .inr ⟨i, hi, h1, rfl, rfl⟩, h4⟩
    obtain ⟨S', e, rfl, ur, d8⟩ := qq
    obtain ⟨rfl, hp1, hp2⟩ := un_one mid6.inv h7 ur
    obtain ⟨u1, u2, u3, u4, u5, u6⟩ := un_keeps0 mid6.inv ur
    have mid8 : Mid h.length h0 I pages frames 40 S' oid h8 := ⟨d8, u1, u2.trans mid.pages, u3.trans mid.frames, mid6.kp.trans k8⟩
    have mp8 := mp6.kp k8
    have hf8 : S'.D.failed = false := by rw [u4]; exact hf
    have hc8 : S'.D.ctr < 0 := by rw [u4]; exact hc
    have hms8 : ∀ k (hk : k < ms.length), Holds S' k (ms[k]).data := fun k hk => u6 k _ (hms k hk)
    have hz8 : ∀ j, j < k → pinsOf S' (j : Int) ≤ 0 := fun j hj => by rw [hp2 _ (by omega)]; exact hz j hj
    simp -dsimp (disch := first | with_reducible assumption | omega | (intro h_; cases h_; done) | (simp only [LN] <;> omega) | (simp only [LF]; done) | (repeat (first | with_reducible assumption | apply Ext.refl | apply Ext.app | (apply Ext.set <;> omega) | (refine Ext.trans ?_ (by assumption))))) only [AX, TY, gV, dstOf, p_makeFunc, p_mapUpdate, mapPut, entsOf, p_lookup, p_extract, p_nilCheck, oneV, p_load, p_store, p_binOp, p_unOp, p_indexAddr, p_index, p_box, p_build, evParts, builtinV, load1, ldc, splice, minds, disj, rcOf, isCall, touchV, idsOf, mapId, touchB, p_buildSlice, buildSliceV, reps, fillV, p_convert, p_slice, evO, p_makeSlice, sid_some, soff_some, Nat.reduceLT, Nat.reduceLeDiff, Nat.reduceEqDiff, Nat.reduceAdd, Nat.reduceMul, Int.reduceBEq, Int.reduceEq, Int.reduceNeg, Int.reduceLT, Int.reduceLE, Int.reduceAdd, Int.reduceSub, Int.reduceMul, Int.reduceToNat, Int.reduceGT, Nat.reduceBEq, Nat.reducePow, Nat.reduceGT, reduceCtorEq, ↓reduceIte, t0, t9, t11, t17, t83, t84]
    refine ⟨m2 - 1, by omega, S', oid, ?_⟩
    have hmm : m2 - 1 = (pinsOf S' (k : Int)).toNat := by rw [hp1]; omega
    repeat' (first | assumption | refine And.intro ?_ ?_)
    all_goals first | rfl | omega | (simp; done) | (simp; omega; done) | skip
  have hz0 := all_zero mid.inv (fun j hj => hz j (by have := mid.pages; omega))
  clear hz
  simp -dsimp (disch := first | with_reducible assumption | omega | (intro h_; cases h_; done) | (simp only [LN] <;> omega) | (simp only [LF]; done) | (repeat (first | with_reducible assumption | apply Ext.refl | apply Ext.app | (apply Ext.set <;> omega) | (refine Ext.trans ?_ (by assumption))))) only [AX, TY, gV, dstOf, p_makeFunc, p_mapUpdate, mapPut, entsOf, p_lookup, p_extract, p_nilCheck, oneV, p_load, p_store, p_binOp, p_unOp, p_indexAddr, p_index, p_box, p_build, evParts, builtinV, load1, ldc, splice, minds, disj, rcOf, isCall, touchV, idsOf, mapId, touchB, p_buildSlice, buildSliceV, reps, fillV, p_convert, p_slice, evO, p_makeSlice, sid_some, soff_some, Nat.reduceLT, Nat.reduceLeDiff, Nat.reduceEqDiff, Nat.reduceAdd, Nat.reduceMul, Int.reduceBEq, Int.reduceEq, Int.reduceNeg, Int.reduceLT, Int.reduceLE, Int.reduceAdd, Int.reduceSub, Int.reduceMul, Int.reduceToNat, Int.reduceGT, Nat.reduceBEq, Nat.reducePow, Nat.reduceGT, reduceCtorEq, ↓reduceIte, t0, t9, t11, t83, t84, h3]
  refine W.loop (fun m τ hh => ∃ (k : Nat) (S : Bp) (oid : Option Nat), m + k = pages ∧ τ 9 = .ptr (some (h1.length, 0)) ∧ τ 11 = .map (some h0.length) ∧ τ 98 = .int .i64 pages ∧ τ 99 = .int .i64 k ∧ Mid h.length h0 I pages frames (40 + k) S oid hh ∧ MapAt hh h0.length (ownP I oid) ms ∧ S.D.failed = false ∧ S.D.ctr < 0 ∧ (∀ k (hk : k < ms.length), Holds S k (ms[k]).data) ∧ ∀ f ∈ S.frames, f.pins = 0) ?_ (m := pages) ?_
  rotate_left
  · refine ⟨0, S, oid, ?_⟩
    simp -dsimp (disch := first | with_reducible assumption | omega | (intro h_; cases h_; done) | (simp only [LN] <;> omega) | (simp only [LF]; done) | (repeat (first | with_reducible assumption | apply Ext.refl | apply Ext.app | (apply Ext.set <;> omega) | (refine Ext.trans ?_ (by assumption))))) only [AX, TY, gV, dstOf, p_makeFunc, p_mapUpdate, mapPut, entsOf, p_lookup, p_extract, p_nilCheck, oneV, p_load, p_store, p_binOp, p_unOp, p_indexAddr, p_index, p_box, p_build, evParts, builtinV, load1, ldc, splice, minds, disj, rcOf, isCall, touchV, idsOf, mapId, touchB, p_buildSlice, buildSliceV, reps, fillV, p_convert, p_slice, evO, p_makeSlice, sid_some, soff_some, Nat.reduceLT, Nat.reduceLeDiff, Nat.reduceEqDiff, Nat.reduceAdd, Nat.reduceMul, Int.reduceBEq, Int.reduceEq, Int.reduceNeg, Int.reduceLT, Int.reduceLE, Int.reduceAdd, Int.reduceSub, Int.reduceMul, Int.reduceToNat, Int.reduceGT, Nat.reduceBEq, Nat.reducePow, Nat.reduceGT, reduceCtorEq, ↓reduceIte, t0, t9, t11]
    repeat' (first | assumption | refine And.intro ?_ ?_)
    all_goals first | rfl | omega | (simp; done) | (simp; omega; done) | skip
  clear t0 t9 t11 t83 t84 mid mp hf hc hms hz0 h3 hm
  rintro m τ hh ⟨k, S, oid, hm, t9, t11, t98, t99, mid, mp, hf, hc, hms, hz⟩
  have hx := (slK mid).2
  by_cases h3 : (k : Int) < (pages : Int)
  rotate_left
  · simp -dsimp (disch := first | with_reducible assumption | omega | (intro h_; cases h_; done) | (simp only [LN] <;> omega) | (simp only [LF]; done) | (repeat (first | with_reducible assumption | apply Ext.refl | apply Ext.app | (apply Ext.set <;> omega) | (refine Ext.trans ?_ (by assumption))))) only [AX, TY, gV, dstOf, p_makeFunc, p_mapUpdate, mapPut, entsOf, p_lookup, p_extract, p_nilCheck, oneV, p_load, p_store, p_binOp, p_unOp, p_indexAddr, p_index, p_box, p_build, evParts, builtinV, load1, ldc, splice, minds, disj, rcOf, isCall, touchV, idsOf, mapId, touchB, p_buildSlice, buildSliceV, reps, fillV, p_convert, p_slice, evO, p_makeSlice, sid_some, soff_some, Nat.reduceLT, Nat.reduceLeDiff, Nat.reduceEqDiff, Nat.reduceAdd, Nat.reduceMul, Int.reduceBEq, Int.reduceEq, Int.reduceNeg, Int.reduceLT, Int.reduceLE, Int.reduceAdd, Int.reduceSub, Int.reduceMul, Int.reduceToNat, Int.reduceGT, Nat.reduceBEq, Nat.reducePow, Nat.reduceGT, reduceCtorEq, ↓reduceIte, t9, t11, t98, t99, h3]
    refine awake_ok.mono ?_
    rintro _ h3 rfl
    simp -dsimp (disch := first | with_reducible assumption | omega | (intro h_; cases h_; done) | (simp only [LN] <;> omega) | (simp only [LF]; done) | (repeat (first | with_reducible assumption | apply Ext.refl | apply Ext.app | (apply Ext.set <;> omega) | (refine Ext.trans ?_ (by assumption))))) only [AX, TY, gV, dstOf, p_makeFunc, p_mapUpdate, mapPut, entsOf, p_lookup, p_extract, p_nilCheck, oneV, p_load, p_store, p_binOp, p_unOp, p_indexAddr, p_index, p_box, p_build, evParts, builtinV, load1, ldc, splice, minds, disj, rcOf, isCall, touchV, idsOf, mapId, touchB, p_buildSlice, buildSliceV, reps, fillV, p_convert, p_slice, evO, p_makeSlice, sid_some, soff_some, Nat.reduceLT, Nat.reduceLeDiff, Nat.reduceEqDiff, Nat.reduceAdd, Nat.reduceMul, Int.reduceBEq, Int.reduceEq, Int.reduceNeg, Int.reduceLT, Int.reduceLE, Int.reduceAdd, Int.reduceSub, Int.reduceMul, Int.reduceToNat, Int.reduceGT, Nat.reduceBEq, Nat.reducePow, Nat.reduceGT, reduceCtorEq, ↓reduceIte]
  have hkm : k < ms.length := by omega
  simp -dsimp (disch := first | with_reducible assumption | omega | (intro h_; cases h_; done) | (simp only [LN] <;> omega) | (simp only [LF]; done) | (repeat (first | with_reducible assumption | apply Ext.refl | apply Ext.app | (apply Ext.set <;> omega) | (refine Ext.trans ?_ (by assumption))))) only [AX, TY, gV, dstOf, p_makeFunc, p_mapUpdate, mapPut, entsOf, p_lookup, p_extract, p_nilCheck, oneV, p_load, p_store, p_binOp, p_unOp, p_indexAddr, p_index, p_box, p_build, evParts, builtinV, load1, ldc, splice, minds, disj, rcOf, isCall, touchV, idsOf, mapId, touchB, p_buildSlice, buildSliceV, reps, fillV, p_convert, p_slice, evO, p_makeSlice, sid_some, soff_some, Nat.reduceLT, Nat.reduceLeDiff, Nat.reduceEqDiff, Nat.reduceAdd, Nat.reduceMul, Int.reduceBEq, Int.reduceEq, Int.reduceNeg, Int.reduceLT, Int.reduceLE, Int.reduceAdd, Int.reduceSub, Int.reduceMul, Int.reduceToNat, Int.reduceGT, Nat.reduceBEq, Nat.reducePow, Nat.reduceGT, reduceCtorEq, ↓reduceIte, t9, t11, t98, t99, h3, loadN_fact hx]
  refine (pin_ok mid.at' mid.inv.okp (k : Int)).mono ?_
  rintro _ h6 ⟨S', oid', e, dd, pr, cr', rfl, pin, d6, k6, sl6, hpr⟩
  obtain ⟨rfl, f1, f2, f3, i', hi', f4, f5, f6⟩ := pin_fresh mid.inv (by omega) hz hf hc (by have := mid.pages; omega) pin
  obtain ⟨p1, p2, p3, p4, p5, p6⟩ := pin_keeps mid.inv (by omega) pin
  obtain ⟨n, hn1, hn2, hn3⟩ := p5 rfl
  have hnk : n = k := by omega
  subst hnk
  have mid6 : Mid h.length h0 I pages frames (40 + n + 1) S' oid' h6 := ⟨d6, p1, p2.trans mid.pages, p3.trans mid.frames, mid.kp.trans k6⟩
  have mp6 := mp.kp k6
  have hx6 := (slK mid6).2
  obtain ⟨clk, hblk⟩ := mp6.blk
  have hfd := find_in (k := 0) (n := n) (i := 0) (ms := ms) (by omega) (by omega)
  simp only [Nat.sub_zero, Nat.zero_add] at hfd
  have hget : mapGet (.int .i64 (n : Int)) (.slice none 0 (some 0)) false (some (entsV 0 ms)) = some (.slice (ms[n]).p (ms[n]).data.length (ms[n]).c) := by unfold mapGet; simp only [hfd]; rfl
  have hdd : dd = (ms[n]).data := Holds.func mid.inv hn3 (hms n hkm)
  have hsm := same13_ok (c := cr') (d := (ms[n]).c) sl6 (mp6.dat _ (List.getElem_mem hkm)).1
  rw [decide_eq_true hdd] at hsm
  simp -dsimp (disch := first | with_reducible assumption | omega | (intro h_; cases h_; done) | (simp only [LN] <;> omega) | (simp only [LF]; done) | (repeat (first | with_reducible assumption | apply Ext.refl | apply Ext.app | (apply Ext.set <;> omega) | (refine Ext.trans ?_ (by assumption))))) only [AX, TY, gV, dstOf, p_makeFunc, p_mapUpdate, mapPut, entsOf, p_lookup, p_extract, p_nilCheck, oneV, p_load, p_store, p_binOp, p_unOp, p_indexAddr, p_index, p_box, p_build, evParts, builtinV, load1, ldc, splice, minds, disj, rcOf, isCall, touchV, idsOf, mapId, touchB, p_buildSlice, buildSliceV, reps, fillV, p_convert, p_slice, evO, p_makeSlice, sid_some, soff_some, Nat.reduceLT, Nat.reduceLeDiff, Nat.reduceEqDiff, Nat.reduceAdd, Nat.reduceMul, Int.reduceBEq, Int.reduceEq, Int.reduceNeg, Int.reduceLT, Int.reduceLE, Int.reduceAdd, Int.reduceSub, Int.reduceMul, Int.reduceToNat, Int.reduceGT, Nat.reduceBEq, Nat.reducePow, Nat.reduceGT, reduceCtorEq, ↓reduceIte, t9, t11, t98, t99, hblk, hget]
  refine hsm.mono ?_
  rintro _ _ ⟨rfl, rfl⟩
  simp -dsimp (disch := first | with_reducible assumption | omega | (intro h_; cases h_; done) | (simp only [LN] <;> omega) | (simp only [LF]; done) | (repeat (first | with_reducible assumption | apply Ext.refl | apply Ext.app | (apply Ext.set <;> omega) | (refine Ext.trans ?_ (by assumption))))) only [AX, TY, gV, dstOf, p_makeFunc, p_mapUpdate, mapPut, entsOf, p_lookup, p_extract, p_nilCheck, oneV, p_load, p_store, p_binOp, p_unOp, p_indexAddr, p_index, p_box, p_build, evParts, builtinV, load1, ldc, splice, minds, disj, rcOf, isCall, touchV, idsOf, mapId, touchB, p_buildSlice, buildSliceV, reps, fillV, p_convert, p_slice, evO, p_makeSlice, sid_some, soff_some, Nat.reduceLT, Nat.reduceLeDiff, Nat.reduceEqDiff, Nat.reduceAdd, Nat.reduceMul, Int.reduceBEq, Int.reduceEq, Int.reduceNeg, Int.reduceLT, Int.reduceLE, Int.reduceAdd, Int.reduceSub, Int.reduceMul, Int.reduceToNat, Int.reduceGT, Nat.reduceBEq, Nat.reducePow, Nat.reduceGT, reduceCtorEq, ↓reduceIte, t9, t11, t98, t99, loadN_fact hx6]
  refine (unpin_ok mid6.at' (n : Int) fun f hf' => (mid6.inv.okp.pins f hf').2).mono ?_
  rintro r h8 ⟨k8, q8⟩
  have qq : ∃ S2 e, r = .int .i64 e ∧ UnR S' (n : Int) S2 e ∧ PAt h.length h8 I S2 oid' := by
    rcases q8 with ⟨h1, rfl, h2⟩ | ⟨i, hi, h1, rfl, h4⟩
    · exact ⟨S', 9, rfl, .inl ⟨h1, rfl, rfl⟩, h2⟩
    · exact ⟨_, 0, rfl, .inr ⟨i, hi, h1, rfl, rfl⟩, h4⟩
  obtain ⟨S2, e2, rfl, ur, d8⟩ := qq
  obtain ⟨rfl, hp1, hp2⟩ := un_one mid6.inv (by omega) ur
  obtain ⟨u1, u2, u3, u4, u5, u6⟩ := un_keeps0 mid6.inv ur
  have mid8 : Mid h.length h0 I pages frames (40 + (n + 1)) S2 oid' h8 := ⟨d8, by rw [show 40 + (n + 1) = 40 + n + 1 by omega]; exact u1, u2.trans mid6.pages, u3.trans mid6.frames, mid6.kp.trans k8⟩
  have mp8 := mp6.kp k8
  have hf8 : S2.D.failed = false := by rw [u4]; exact f1
  have hc8 : S2.D.ctr < 0 := by rw [u4]; exact f2
  have hms8 : ∀ k (hk : k < ms.length), Holds S2 k (ms[k]).data := fun k hk => u6 k _ (p4 k _ (by have := mid.pages; omega) (hms k hk))
  have hz8 : ∀ f ∈ S2.frames, f.pins = 0 := all_zero mid8.inv fun j hj => by
    by_cases c : (j : Int) = (n : Int)
    · rw [c, hp1, f3]; decide
    · rw [hp2 _ c]
      cases hq : findF (j : Int) S'.frames with
      | none => unfold pinsOf; rw [hq]; exact Int.le_refl _
      | some y =>
        obtain ⟨hl2, h02, h12, _⟩ := findF_some hq
        rw [pinsOf_at hq hl2, f6 y hl2 (fun z => by subst z; exact c (by rw [← h12, f4]))]
        exact Int.le_refl _
  simp -dsimp (disch := first | with_reducible assumption | omega | (intro h_; cases h_; done) | (simp only [LN] <;> omega) | (simp only [LF]; done) | (repeat (first | with_reducible assumption | apply Ext.refl | apply Ext.app | (apply Ext.set <;> omega) | (refine Ext.trans ?_ (by assumption))))) only [AX, TY, gV, dstOf, p_makeFunc, p_mapUpdate, mapPut, entsOf, p_lookup, p_extract, p_nilCheck, oneV, p_load, p_store, p_binOp, p_unOp, p_indexAddr, p_index, p_box, p_build, evParts, builtinV, load1, ldc, splice, minds, disj, rcOf, isCall, touchV, idsOf, mapId, touchB, p_buildSlice, buildSliceV, reps, fillV, p_convert, p_slice, evO, p_makeSlice, sid_some, soff_some, Nat.reduceLT, Nat.reduceLeDiff, Nat.reduceEqDiff, Nat.reduceAdd, Nat.reduceMul, Int.reduceBEq, Int.reduceEq, Int.reduceNeg, Int.reduceLT, Int.reduceLE, Int.reduceAdd, Int.reduceSub, Int.reduceMul, Int.reduceToNat, Int.reduceGT, Nat.reduceBEq, Nat.reducePow, Nat.reduceGT, reduceCtorEq, ↓reduceIte, t9, t11, t98, t99, wrap_in]
  refine ⟨m - 1, by omega, n + 1, S2, oid', ?_⟩
  repeat' (first | assumption | refine And.intro ?_ ?_)
  all_goals first | rfl | omega | (simp; done) | (simp; omega; done) | skip
end Go.Proofs.YtmjfhckioaempaaA
