/- Words of this session: chapter 16: BufferpoolFlushes. -/
import Derived.Test.YtmjfhckioaempaaPZ
import Derived.Test.YtmjfhckioaempaaAx42
namespace Go.Proofs.YtmjfhckioaempaaA
open Go Go.Proofs Go.RowKit
set_option linter.unusedVariables false
set_option linter.unusedSimpArgs false
set_option maxRecDepth 10000
set_option maxHeartbeats 4000000
/-- Bytes in memory, the value of an entry. -/
structure Sb where
  p : Option (Nat × Nat)
  c : Option Nat
  data : List Int
def encS (s : Sb) : V := .slice s.p s.data.length s.c
/-- A map of pages in memory; its blocks are none of the pool's. -/
structure MapG (hh : Heap) (mb : Nat) (own : Nat → Prop) (ms : List (Ge Sb)) (cl : Nat) : Prop where
  blk : hh[mb]? = some (.map (gents encS ms) cl)
  ok : GOk ms cl
  no : ¬ own mb
  dat : ∀ m ∈ ms, Sl hh m.v.p 1 eb m.v.data ∧ ∀ a o, m.v.p = some (a, o) → ¬ own a
theorem MapG.kp {h1 h2 : Heap} {mb cl : Nat} {o1 o2 : Nat → Prop} {ms : List (Ge Sb)} (m : MapG h1 mb o1 ms cl) (k : Kp h1 h2 o1 o2) : MapG h2 mb o2 ms cl := by
  obtain ⟨h, g, hn, hd⟩ := m
  exact ⟨k.get h hn, g, k.not (lt_of_some h) hn, fun x hx => ⟨(hd x hx).1.keep fun a o z => k.fr a ((hd x hx).1.lt z) ((hd x hx).2 a o z), fun a o z => k.not ((hd x hx).1.lt z) ((hd x hx).2 a o z)⟩⟩
theorem MapG.ext {h1 h2 : Heap} {mb cl : Nat} {o1 : Nat → Prop} {ms : List (Ge Sb)} (m : MapG h1 mb o1 ms cl) (e : Ext h1 h2) : MapG h2 mb o1 ms cl := m.kp (Kp.ext e _)
theorem MapG.put {hh : Heap} {mb cl : Nat} {own : Nat → Prop} {ms : List (Ge Sb)} (m : MapG hh mb own ms cl) (k : Int) {s : Sb} (hd : Sl hh s.p 1 eb s.data) (hp : ∀ a o, s.p = some (a, o) → ¬ own a) :
    MapG (hh.set mb (.map (gents encS (putG cl k s ms)) (clG cl k ms))) mb own (putG cl k s ms) (clG cl k ms) := by
  refine ⟨set_same _ (lt_of_some m.blk), m.ok.put k s, m.no, fun x hx => ?_⟩
  rcases putG_mem hx with ⟨_, rfl⟩ | hx
  · exact ⟨hd.keep fun a o z => set_other _ (Sl.neMap m.blk hd a o z), hp⟩
  · exact ⟨(m.dat x hx).1.keep fun a o z => set_other _ (Sl.neMap m.blk (m.dat x hx).1 a o z), (m.dat x hx).2⟩
theorem WrO.fail {D D' : Dk} {off : Nat} {data : List Int} {e : Int} (w : WrO D off data D' e) (he : e ≠ 0) : D'.failed = true := by
  unfold WrO at w
  split at w
  · rename_i hf; rw [w.1]; exact hf
  · split at w
    · rw [w.1]
    · exact absurd w.1 he
/-- What a flush that goes wrong, and one that does not, leave. -/
theorem fl_end {S' : Bp} {N : Nat} {e : Int} : ∀ {zs : List Int} {S : Bp}, FlR zs S S' e → (e ≠ 0 → S'.D.failed = true) ∧ (e = 0 → (∀ i j (hi : i < S.frames.length) (hj : j < S.frames.length), 0 ≤ (S.frames[i]).page → (S.frames[i]).page = (S.frames[j]).page → i = j) →
    (∀ f ∈ S.frames, f.dirty = true → 0 ≤ f.page ∧ f.page ∈ zs) → ∀ f ∈ S'.frames, f.dirty = false)
  | [], S, h => by
    obtain ⟨rfl, rfl⟩ := h
    refine ⟨fun q => absurd rfl q, fun _ _ hd f hf => ?_⟩
    cases hq : f.dirty with
    | false => rfl
    | true => exact absurd (hd f hf hq).2 (by simp)
  | z :: zs, S, h => by
    obtain ⟨i, hi, off, D1, e1, h1, h2, wo, ⟨he, rfl, rfl⟩ | ⟨rfl, h3⟩⟩ := h
    · exact ⟨fun _ => wo.fail he, fun q => absurd q he⟩
    · have ih := fl_end (N := N) h3
      refine ⟨ih.1, fun q hdis hd => ih.2 q ?_ ?_⟩
      · intro a b ha hb h0 hp
        simp only [List.length_set] at ha hb
        have e1 : ∀ c (hc : c < S.frames.length), ((S.frames.set i { S.frames[i] with dirty := false })[c]'(by simpa using hc)).page = (S.frames[c]).page := fun c hc => by
          by_cases q : i = c
          · subst q; simp
          · simp [List.getElem_set_ne q]
        simp only [e1 a ha, e1 b hb] at h0 hp
        exact hdis a b ha hb h0 hp
      · intro f hf hdf
        obtain ⟨j, hj, rfl⟩ := List.getElem_of_mem hf
        simp only [List.length_set] at hj
        obtain ⟨_, p0, p1, _⟩ := findF_some h1
        by_cases c : i = j
        · subst c; simp at hdf
        · simp only [List.getElem_set_ne c] at hdf ⊢
          have hm := hd _ (List.getElem_mem hj) hdf
          refine ⟨hm.1, ?_⟩
          rcases List.mem_cons.1 hm.2 with q2 | q2
          · exact absurd (hdis i j hi hj (by rw [p1]; exact p0) (by rw [p1, q2])) c
          · exact q2
theorem wrap_page {k pages : Nat} (h : k < pages) (h2 : pages ≤ 6) : IntKind.i64.wrap ((k : Int) * 1024) = ((k * 1024 : Nat) : Int) := by rw [IntKind.wrap_i64]; omega
theorem law6_ok {h : Heap} {p : Option (Nat × Nat)} {c : Option Nat} {l : List Cl} (hs : Sl h p 4 Cl.enc l) (hcn : ∀ c ∈ l, c.n ≤ 9223372036854775807) (pages frames : Int) :
    SR Try.prog 6 [.int .i64 pages, .int .i64 frames, .slice p l.length c] h fun r h' => r = .bool true := by
  have hn := hs.nil'
  have hl := hs.small
  refine SR.call Try.func6 rfl (n := 117) rfl rfl (by simp) ?_
  refine SW.seq (SW.of (P := Try.prog) (Checked.mixed Try.checked) named hk_sound ?_)
  simp -dsimp (disch := first | with_reducible assumption | omega | (intro h_; cases h_; done) | (simp only [LN] <;> omega) | (simp only [LF]; done) | (repeat (first | with_reducible assumption | apply Ext.refl | apply Ext.app | (apply Ext.set <;> omega) | (refine Ext.trans ?_ (by assumption))))) only [AX, TY, AD, mapPut, entsOf, oneV, builtinV, idsOf, mapId, touchB, Nat.reduceLT, Nat.reduceLeDiff, Nat.reduceEqDiff, Nat.reduceAdd, Nat.reduceMul, Int.reduceBEq, Int.reduceEq, Int.reduceNeg, Int.reduceLT, Int.reduceLE, Int.reduceAdd, Int.reduceSub, Int.reduceMul, Int.reduceToNat, Int.reduceGT, Nat.reduceBEq, Nat.reducePow, Nat.reduceGT, reduceCtorEq, ↓reduceIte]
  refine SW.seq (SW.of (P := Try.prog) (Checked.mixed Try.checked) named hk_sound ?_)
  simp -dsimp (disch := first | with_reducible assumption | omega | (intro h_; cases h_; done) | (simp only [LN] <;> omega) | (simp only [LF]; done) | (repeat (first | with_reducible assumption | apply Ext.refl | apply Ext.app | (apply Ext.set <;> omega) | (refine Ext.trans ?_ (by assumption))))) only [AX, TY, AD, mapPut, entsOf, oneV, builtinV, idsOf, mapId, touchB, Nat.reduceLT, Nat.reduceLeDiff, Nat.reduceEqDiff, Nat.reduceAdd, Nat.reduceMul, Int.reduceBEq, Int.reduceEq, Int.reduceNeg, Int.reduceLT, Int.reduceLE, Int.reduceAdd, Int.reduceSub, Int.reduceMul, Int.reduceToNat, Int.reduceGT, Nat.reduceBEq, Nat.reducePow, Nat.reduceGT, reduceCtorEq, ↓reduceIte]
  refine (few16_ok hs pages frames).mono ?_
  rintro _ _ ⟨rfl, fb, rfl, hfb⟩
  cases fb
  · simp -dsimp (disch := first | with_reducible assumption | omega | (intro h_; cases h_; done) | (simp only [LN] <;> omega) | (simp only [LF]; done) | (repeat (first | with_reducible assumption | apply Ext.refl | apply Ext.app | (apply Ext.set <;> omega) | (refine Ext.trans ?_ (by assumption))))) only [AX, TY, AD, mapPut, entsOf, oneV, builtinV, idsOf, mapId, touchB, Nat.reduceLT, Nat.reduceLeDiff, Nat.reduceEqDiff, Nat.reduceAdd, Nat.reduceMul, Int.reduceBEq, Int.reduceEq, Int.reduceNeg, Int.reduceLT, Int.reduceLE, Int.reduceAdd, Int.reduceSub, Int.reduceMul, Int.reduceToNat, Int.reduceGT, Nat.reduceBEq, Nat.reducePow, Nat.reduceGT, reduceCtorEq, ↓reduceIte]
    refine awake_ok.mono ?_
    rintro _ h3 rfl
    simp -dsimp (disch := first | with_reducible assumption | omega | (intro h_; cases h_; done) | (simp only [LN] <;> omega) | (simp only [LF]; done) | (repeat (first | with_reducible assumption | apply Ext.refl | apply Ext.app | (apply Ext.set <;> omega) | (refine Ext.trans ?_ (by assumption))))) only [AX, TY, AD, mapPut, entsOf, oneV, builtinV, idsOf, mapId, touchB, Nat.reduceLT, Nat.reduceLeDiff, Nat.reduceEqDiff, Nat.reduceAdd, Nat.reduceMul, Int.reduceBEq, Int.reduceEq, Int.reduceNeg, Int.reduceLT, Int.reduceLE, Int.reduceAdd, Int.reduceSub, Int.reduceMul, Int.reduceToNat, Int.reduceGT, Nat.reduceBEq, Nat.reducePow, Nat.reduceGT, reduceCtorEq, ↓reduceIte]
  obtain ⟨b1, b2, b3, b4, b5, b6⟩ := hfb rfl
  obtain ⟨pages, rfl⟩ := Int.eq_ofNat_of_zero_le (show 0 ≤ pages by omega)
  obtain ⟨frames, rfl⟩ := Int.eq_ofNat_of_zero_le (show 0 ≤ frames by omega)
  simp -dsimp (disch := first | with_reducible assumption | omega | (intro h_; cases h_; done) | (simp only [LN] <;> omega) | (simp only [LF]; done) | (repeat (first | with_reducible assumption | apply Ext.refl | apply Ext.app | (apply Ext.set <;> omega) | (refine Ext.trans ?_ (by assumption))))) only [AX, TY, AD, mapPut, entsOf, oneV, builtinV, idsOf, mapId, touchB, Nat.reduceLT, Nat.reduceLeDiff, Nat.reduceEqDiff, Nat.reduceAdd, Nat.reduceMul, Int.reduceBEq, Int.reduceEq, Int.reduceNeg, Int.reduceLT, Int.reduceLE, Int.reduceAdd, Int.reduceSub, Int.reduceMul, Int.reduceToNat, Int.reduceGT, Nat.reduceBEq, Nat.reducePow, Nat.reduceGT, reduceCtorEq, ↓reduceIte]
  refine SW.seq (SW.of (P := Try.prog) (Checked.mixed Try.checked) named hk_sound ?_)
  simp -dsimp (disch := first | with_reducible assumption | omega | (intro h_; cases h_; done) | (simp only [LN] <;> omega) | (simp only [LF]; done) | (repeat (first | with_reducible assumption | apply Ext.refl | apply Ext.app | (apply Ext.set <;> omega) | (refine Ext.trans ?_ (by assumption))))) only [AX, TY, AD, mapPut, entsOf, oneV, builtinV, idsOf, mapId, touchB, Nat.reduceLT, Nat.reduceLeDiff, Nat.reduceEqDiff, Nat.reduceAdd, Nat.reduceMul, Int.reduceBEq, Int.reduceEq, Int.reduceNeg, Int.reduceLT, Int.reduceLE, Int.reduceAdd, Int.reduceSub, Int.reduceMul, Int.reduceToNat, Int.reduceGT, Nat.reduceBEq, Nat.reducePow, Nat.reduceGT, reduceCtorEq, ↓reduceIte]
  refine (open_ok pages frames (by omega) (by omega) (by omega) (by omega)).mono ?_
  rintro _ h1 ⟨I, D, rfl, d1, hD1, hD2, hD3, hD4, hD5, e1, hb1, hb2, hb3⟩
  obtain ⟨h0, hh0, x0, e0, hl0⟩ : ∃ h0, h1 ++ [O.cells [V.ptr (some (I.di, 0)), V.ptr (some (I.pi, 0))] .rw] = h0 ∧ h0[h1.length]? = some (O.cells [V.ptr (some (I.di, 0)), V.ptr (some (I.pi, 0))] .rw) ∧ Ext h1 h0 ∧ h0.length = h1.length + 1 := ⟨_, rfl, snoc_last _ rfl, (by (repeat (first | assumption | apply Ext.refl | apply Ext.app | (apply Ext.set <;> omega) | exact Ext.trans (by assumption) (by assumption) | (refine Ext.trans ?_ (by assumption))))), by simp⟩
  have m0 : Mid h.length h0 I pages frames 0 ⟨D, pages, List.replicate frames emptyFr, 0, 0⟩ none h0 := ⟨d1.ext e0, .init hD1 hD4 (by omega) hD2 (by omega) (by omega), rfl, by simp, Kp.ext (.refl _) _⟩
  have hs0 := hs.ext (e1.trans e0)
  have hnx : ¬ ownP I none h1.length := fun q => by have := d1.lt q; omega
  have slK : ∀ {i : Nat} {S : Bp} {oid : Option Nat} {hh : Heap}, Mid h.length h0 I pages frames i S oid hh → Sl hh p 4 Cl.enc l ∧ hh[h1.length]? = some (O.cells [V.ptr (some (I.di, 0)), V.ptr (some (I.pi, 0))] .rw) := fun {i S oid hh} m => ⟨hs0.keep fun a o z => m.kp.fr a (hs0.lt z) (m0.at'.own_base hb1 hb3 (hs.lt z)), m.kp.get x0 hnx⟩
  have mm0 : Mid h.length h0 I pages frames 0 ⟨D, pages, List.replicate frames emptyFr, 0, 0⟩ none (h0 ++ [O.map [] 0]) := m0.ext (by (repeat (first | assumption | apply Ext.refl | apply Ext.app | (apply Ext.set <;> omega) | exact Ext.trans (by assumption) (by assumption) | (refine Ext.trans ?_ (by assumption)))))
  have mp0 : MapG (h0 ++ [O.map [] 0]) h0.length (ownP I none) [] 0 := ⟨snoc_last _ rfl, .nil, fun q => by have := m0.at'.lt q; omega, by simp⟩
  simp -dsimp (disch := first | with_reducible assumption | omega | (intro h_; cases h_; done) | (simp only [LN] <;> omega) | (simp only [LF]; done) | (repeat (first | with_reducible assumption | apply Ext.refl | apply Ext.app | (apply Ext.set <;> omega) | (refine Ext.trans ?_ (by assumption))))) only [AX, TY, AD, mapPut, entsOf, oneV, builtinV, idsOf, mapId, touchB, Nat.reduceLT, Nat.reduceLeDiff, Nat.reduceEqDiff, Nat.reduceAdd, Nat.reduceMul, Int.reduceBEq, Int.reduceEq, Int.reduceNeg, Int.reduceLT, Int.reduceLE, Int.reduceAdd, Int.reduceSub, Int.reduceMul, Int.reduceToNat, Int.reduceGT, Nat.reduceBEq, Nat.reducePow, Nat.reduceGT, reduceCtorEq, ↓reduceIte, hh0]
  refine SW.seq (SW.of (P := Try.prog) (Checked.mixed Try.checked) named hk_sound ?_)
  simp -dsimp (disch := first | with_reducible assumption | omega | (intro h_; cases h_; done) | (simp only [LN] <;> omega) | (simp only [LF]; done) | (repeat (first | with_reducible assumption | apply Ext.refl | apply Ext.app | (apply Ext.set <;> omega) | (refine Ext.trans ?_ (by assumption))))) only [AX, TY, AD, mapPut, entsOf, oneV, builtinV, idsOf, mapId, touchB, Nat.reduceLT, Nat.reduceLeDiff, Nat.reduceEqDiff, Nat.reduceAdd, Nat.reduceMul, Int.reduceBEq, Int.reduceEq, Int.reduceNeg, Int.reduceLT, Int.reduceLE, Int.reduceAdd, Int.reduceSub, Int.reduceMul, Int.reduceToNat, Int.reduceGT, Nat.reduceBEq, Nat.reducePow, Nat.reduceGT, reduceCtorEq, ↓reduceIte]
  refine SW.seq (SW.of (P := Try.prog) (Checked.mixed Try.checked) named hk_sound ?_)
  simp -dsimp (disch := first | with_reducible assumption | omega | (intro h_; cases h_; done) | (simp only [LN] <;> omega) | (simp only [LF]; done) | (repeat (first | with_reducible assumption | apply Ext.refl | apply Ext.app | (apply Ext.set <;> omega) | (refine Ext.trans ?_ (by assumption))))) only [AX, TY, AD, mapPut, entsOf, oneV, builtinV, idsOf, mapId, touchB, Nat.reduceLT, Nat.reduceLeDiff, Nat.reduceEqDiff, Nat.reduceAdd, Nat.reduceMul, Int.reduceBEq, Int.reduceEq, Int.reduceNeg, Int.reduceLT, Int.reduceLE, Int.reduceAdd, Int.reduceSub, Int.reduceMul, Int.reduceToNat, Int.reduceGT, Nat.reduceBEq, Nat.reducePow, Nat.reduceGT, reduceCtorEq, ↓reduceIte]
  refine SW.seq (SW.of (P := Try.prog) (Checked.mixed Try.checked) named hk_sound ?_)
  simp -dsimp (disch := first | with_reducible assumption | omega | (intro h_; cases h_; done) | (simp only [LN] <;> omega) | (simp only [LF]; done) | (repeat (first | with_reducible assumption | apply Ext.refl | apply Ext.app | (apply Ext.set <;> omega) | (refine Ext.trans ?_ (by assumption))))) only [AX, TY, AD, mapPut, entsOf, oneV, builtinV, idsOf, mapId, touchB, Nat.reduceLT, Nat.reduceLeDiff, Nat.reduceEqDiff, Nat.reduceAdd, Nat.reduceMul, Int.reduceBEq, Int.reduceEq, Int.reduceNeg, Int.reduceLT, Int.reduceLE, Int.reduceAdd, Int.reduceSub, Int.reduceMul, Int.reduceToNat, Int.reduceGT, Nat.reduceBEq, Nat.reducePow, Nat.reduceGT, reduceCtorEq, ↓reduceIte]
  refine W.loop (fun m τ hh => ∃ (i : Nat) (S : Bp) (oid : Option Nat) (ms : List (Ge Sb)) (cl : Nat), m + i = l.length ∧ τ 7 = .ptr (some (h1.length, 0)) ∧ τ 9 = .map (some h0.length) ∧ τ 33 = .slice p l.length c ∧ τ 34 = .int .i64 l.length ∧ τ 35 = .int .i64 i ∧ Mid h.length h0 I pages frames i S oid hh ∧ MapG hh h0.length (ownP I oid) ms cl ∧ ∀ m ∈ ms, ∃ k : Nat, m.k = k ∧ k < pages ∧ Holds S k m.v.data) ?_ (m := l.length) ?_
  rotate_left
  · refine ⟨0, ⟨D, pages, List.replicate frames emptyFr, 0, 0⟩, none, [], 0, ?_⟩
    simp -dsimp (disch := first | with_reducible assumption | omega | (intro h_; cases h_; done) | (simp only [LN] <;> omega) | (simp only [LF]; done) | (repeat (first | with_reducible assumption | apply Ext.refl | apply Ext.app | (apply Ext.set <;> omega) | (refine Ext.trans ?_ (by assumption))))) only [AX, TY, AD, mapPut, entsOf, oneV, builtinV, idsOf, mapId, touchB, Nat.reduceLT, Nat.reduceLeDiff, Nat.reduceEqDiff, Nat.reduceAdd, Nat.reduceMul, Int.reduceBEq, Int.reduceEq, Int.reduceNeg, Int.reduceLT, Int.reduceLE, Int.reduceAdd, Int.reduceSub, Int.reduceMul, Int.reduceToNat, Int.reduceGT, Nat.reduceBEq, Nat.reducePow, Nat.reduceGT, reduceCtorEq, ↓reduceIte]
    repeat' (first | assumption | refine And.intro ?_ ?_)
    all_goals first | rfl | omega | (simp; done) | (simp; omega; done) | skip
  rintro m τ hh ⟨i, S, oid, ms, cl, hm, t7, t9, t33, t34, t35, mid, mp, hms⟩
  obtain ⟨sl, hx⟩ := slK mid
  by_cases h2 : (i : Int) < (l.length : Int)
  rotate_left
  · simp -dsimp (disch := first | with_reducible assumption | omega | (intro h_; cases h_; done) | (simp only [LN] <;> omega) | (simp only [LF]; done) | (repeat (first | with_reducible assumption | apply Ext.refl | apply Ext.app | (apply Ext.set <;> omega) | (refine Ext.trans ?_ (by assumption))))) only [AX, TY, AD, mapPut, entsOf, oneV, builtinV, idsOf, mapId, touchB, Nat.reduceLT, Nat.reduceLeDiff, Nat.reduceEqDiff, Nat.reduceAdd, Nat.reduceMul, Int.reduceBEq, Int.reduceEq, Int.reduceNeg, Int.reduceLT, Int.reduceLE, Int.reduceAdd, Int.reduceSub, Int.reduceMul, Int.reduceToNat, Int.reduceGT, Nat.reduceBEq, Nat.reducePow, Nat.reduceGT, reduceCtorEq, ↓reduceIte, t7, t9, t33, t34, t35, h2]
    refine SW.seq (SW.of (P := Try.prog) (Checked.mixed Try.checked) named hk_sound ?_)
    simp -dsimp (disch := first | with_reducible assumption | omega | (intro h_; cases h_; done) | (simp only [LN] <;> omega) | (simp only [LF]; done) | (repeat (first | with_reducible assumption | apply Ext.refl | apply Ext.app | (apply Ext.set <;> omega) | (refine Ext.trans ?_ (by assumption))))) only [AX, TY, AD, mapPut, entsOf, oneV, builtinV, idsOf, mapId, touchB, Nat.reduceLT, Nat.reduceLeDiff, Nat.reduceEqDiff, Nat.reduceAdd, Nat.reduceMul, Int.reduceBEq, Int.reduceEq, Int.reduceNeg, Int.reduceLT, Int.reduceLE, Int.reduceAdd, Int.reduceSub, Int.reduceMul, Int.reduceToNat, Int.reduceGT, Nat.reduceBEq, Nat.reducePow, Nat.reduceGT, reduceCtorEq, ↓reduceIte, t7, t9, loadN_fact hx]
    refine (flush_ok mid.at' mid.inv.okp (by have := mid.inv.cnt; omega) (mid.inv.lst _)).mono ?_
    rintro _ h6 ⟨S', oid', e, zs, rfl, hzs, hzp, hfl, at6, k6⟩
    obtain ⟨v6, w1, w2, w3, w4, w5⟩ := fl_keeps mid.inv (hzp.nodup_iff.2 (lst_nodup mid.inv _)) (dirty_ex hzp) hfl
    have mid6 : Mid h.length h0 I pages frames i S' oid' h6 := ⟨at6, v6, w1.trans mid.pages, w2.trans mid.frames, mid.kp.trans k6⟩
    have mp6 := mp.kp k6
    have hx6 := (slK mid6).2
    obtain ⟨f1, f2⟩ := fl_end (N := i) hfl
    by_cases he : e = 0
    rotate_left
    · have hf := f1 he
      have hfo := failed_ok mid6.at'.dk
      rw [hf] at hfo
      simp -dsimp (disch := first | with_reducible assumption | omega | (intro h_; cases h_; done) | (simp only [LN] <;> omega) | (simp only [LF]; done) | (repeat (first | with_reducible assumption | apply Ext.refl | apply Ext.app | (apply Ext.set <;> omega) | (refine Ext.trans ?_ (by assumption))))) only [AX, TY, AD, mapPut, entsOf, oneV, builtinV, idsOf, mapId, touchB, Nat.reduceLT, Nat.reduceLeDiff, Nat.reduceEqDiff, Nat.reduceAdd, Nat.reduceMul, Int.reduceBEq, Int.reduceEq, Int.reduceNeg, Int.reduceLT, Int.reduceLE, Int.reduceAdd, Int.reduceSub, Int.reduceMul, Int.reduceToNat, Int.reduceGT, Nat.reduceBEq, Nat.reducePow, Nat.reduceGT, reduceCtorEq, ↓reduceIte, t7, t9, he, loadN_fact hx6]
      refine hfo.mono ?_
      rintro _ _ ⟨rfl, rfl⟩
      simp -dsimp (disch := first | with_reducible assumption | omega | (intro h_; cases h_; done) | (simp only [LN] <;> omega) | (simp only [LF]; done) | (repeat (first | with_reducible assumption | apply Ext.refl | apply Ext.app | (apply Ext.set <;> omega) | (refine Ext.trans ?_ (by assumption))))) only [AX, TY, AD, mapPut, entsOf, oneV, builtinV, idsOf, mapId, touchB, Nat.reduceLT, Nat.reduceLeDiff, Nat.reduceEqDiff, Nat.reduceAdd, Nat.reduceMul, Int.reduceBEq, Int.reduceEq, Int.reduceNeg, Int.reduceLT, Int.reduceLE, Int.reduceAdd, Int.reduceSub, Int.reduceMul, Int.reduceToNat, Int.reduceGT, Nat.reduceBEq, Nat.reducePow, Nat.reduceGT, reduceCtorEq, ↓reduceIte]
      refine awake_ok.mono ?_
      rintro _ h3 rfl
      simp -dsimp (disch := first | with_reducible assumption | omega | (intro h_; cases h_; done) | (simp only [LN] <;> omega) | (simp only [LF]; done) | (repeat (first | with_reducible assumption | apply Ext.refl | apply Ext.app | (apply Ext.set <;> omega) | (refine Ext.trans ?_ (by assumption))))) only [AX, TY, AD, mapPut, entsOf, oneV, builtinV, idsOf, mapId, touchB, Nat.reduceLT, Nat.reduceLeDiff, Nat.reduceEqDiff, Nat.reduceAdd, Nat.reduceMul, Int.reduceBEq, Int.reduceEq, Int.reduceNeg, Int.reduceLT, Int.reduceLE, Int.reduceAdd, Int.reduceSub, Int.reduceMul, Int.reduceToNat, Int.reduceGT, Nat.reduceBEq, Nat.reducePow, Nat.reduceGT, reduceCtorEq, ↓reduceIte]
    subst he
    have hcl := f2 rfl mid.inv.dis fun f hf hd => by
      obtain ⟨j, hj, rfl⟩ := List.getElem_of_mem hf
      have h0' : 0 ≤ (S.frames[j]).page := by
        rcases (mid.inv.fr j hj).2.2 with q | q
        · rw [q.2.1] at hd; cases hd
        · exact q.1
      exact ⟨h0', hzp.mem_iff.2 (List.mem_map.2 ⟨_, List.mem_filter.2 ⟨hf, by unfold lstQ; simp [hd, h0']⟩, rfl⟩)⟩
    simp -dsimp (disch := first | with_reducible assumption | omega | (intro h_; cases h_; done) | (simp only [LN] <;> omega) | (simp only [LF]; done) | (repeat (first | with_reducible assumption | apply Ext.refl | apply Ext.app | (apply Ext.set <;> omega) | (refine Ext.trans ?_ (by assumption))))) only [AX, TY, AD, mapPut, entsOf, oneV, builtinV, idsOf, mapId, touchB, Nat.reduceLT, Nat.reduceLeDiff, Nat.reduceEqDiff, Nat.reduceAdd, Nat.reduceMul, Int.reduceBEq, Int.reduceEq, Int.reduceNeg, Int.reduceLT, Int.reduceLE, Int.reduceAdd, Int.reduceSub, Int.reduceMul, Int.reduceToNat, Int.reduceGT, Nat.reduceBEq, Nat.reducePow, Nat.reduceGT, reduceCtorEq, ↓reduceIte, t7, t9, loadN_fact hx6]
    refine SW.seq (SW.of (P := Try.prog) (Checked.mixed Try.checked) named hk_sound ?_)
    simp -dsimp (disch := first | with_reducible assumption | omega | (intro h_; cases h_; done) | (simp only [LN] <;> omega) | (simp only [LF]; done) | (repeat (first | with_reducible assumption | apply Ext.refl | apply Ext.app | (apply Ext.set <;> omega) | (refine Ext.trans ?_ (by assumption))))) only [AX, TY, AD, mapPut, entsOf, oneV, builtinV, idsOf, mapId, touchB, Nat.reduceLT, Nat.reduceLeDiff, Nat.reduceEqDiff, Nat.reduceAdd, Nat.reduceMul, Int.reduceBEq, Int.reduceEq, Int.reduceNeg, Int.reduceLT, Int.reduceLE, Int.reduceAdd, Int.reduceSub, Int.reduceMul, Int.reduceToNat, Int.reduceGT, Nat.reduceBEq, Nat.reducePow, Nat.reduceGT, reduceCtorEq, ↓reduceIte, t7, t9, loadN_fact hx6]
    refine (dirty_ok at6 (v6.lst _)).mono ?_
    rintro _ h7 ⟨e7, p7, c7, ys, rfl, sl7, _, hyp, _⟩
    have hys : ys = [] := by
      have : lstP Fr.dirty S'.frames = [] := by
        unfold lstP
        rw [List.map_eq_nil_iff, List.filter_eq_nil_iff]
        intro f hf
        unfold lstQ
        simp [hcl f hf]
      rw [this] at hyp
      exact List.perm_nil.1 hyp
    subst hys
    have mid7 := mid6.ext e7
    have mp7 := mp6.ext e7
    have hx7 := e7 _ _ hx6
    simp -dsimp (disch := first | with_reducible assumption | omega | (intro h_; cases h_; done) | (simp only [LN] <;> omega) | (simp only [LF]; done) | (repeat (first | with_reducible assumption | apply Ext.refl | apply Ext.app | (apply Ext.set <;> omega) | (refine Ext.trans ?_ (by assumption))))) only [AX, TY, AD, mapPut, entsOf, oneV, builtinV, idsOf, mapId, touchB, Nat.reduceLT, Nat.reduceLeDiff, Nat.reduceEqDiff, Nat.reduceAdd, Nat.reduceMul, Int.reduceBEq, Int.reduceEq, Int.reduceNeg, Int.reduceLT, Int.reduceLE, Int.reduceAdd, Int.reduceSub, Int.reduceMul, Int.reduceToNat, Int.reduceGT, Nat.reduceBEq, Nat.reducePow, Nat.reduceGT, reduceCtorEq, ↓reduceIte, t7, t9]
    refine SW.seq (SW.range (P := Try.prog) (H := hk) (pre := [_]) (Checked.mixed Try.checked) named hk_sound rfl rfl rfl rfl Try.underlying40 rfl rfl rfl rfl rfl rfl rfl rfl rfl rfl rfl (by decide) (by decide) (by decide) (by decide) (by decide) (by decide) ?_)
    simp -dsimp (disch := first | with_reducible assumption | omega | (intro h_; cases h_; done) | (simp only [LN] <;> omega) | (simp only [LF]; done) | (repeat (first | with_reducible assumption | apply Ext.refl | apply Ext.app | (apply Ext.set <;> omega) | (refine Ext.trans ?_ (by assumption))))) only [AX, TY, AD, mapPut, entsOf, oneV, builtinV, idsOf, mapId, touchB, Nat.reduceLT, Nat.reduceLeDiff, Nat.reduceEqDiff, Nat.reduceAdd, Nat.reduceMul, Int.reduceBEq, Int.reduceEq, Int.reduceNeg, Int.reduceLT, Int.reduceLE, Int.reduceAdd, Int.reduceSub, Int.reduceMul, Int.reduceToNat, Int.reduceGT, Nat.reduceBEq, Nat.reducePow, Nat.reduceGT, reduceCtorEq, ↓reduceIte, t7, t9]
    refine ⟨h0.length, gents encS ms, cl, fun done τ hh => τ 7 = .ptr (some (h1.length, 0)) ∧ τ 84 = .ptr (some (h7.length, 0)) ∧ Mid h.length h0 I pages frames i S' oid' hh ∧ MapG hh h0.length (ownP I oid') ms cl ∧ hh[h7.length]? = some .dead, ?_, mp7.blk, mp7.ok.ents _, ?_, ?_⟩
    · simp -dsimp (disch := first | with_reducible assumption | omega | (intro h_; cases h_; done) | (simp only [LN] <;> omega) | (simp only [LF]; done) | (repeat (first | with_reducible assumption | apply Ext.refl | apply Ext.app | (apply Ext.set <;> omega) | (refine Ext.trans ?_ (by assumption))))) only [AX, TY, AD, mapPut, entsOf, oneV, builtinV, idsOf, mapId, touchB, Nat.reduceLT, Nat.reduceLeDiff, Nat.reduceEqDiff, Nat.reduceAdd, Nat.reduceMul, Int.reduceBEq, Int.reduceEq, Int.reduceNeg, Int.reduceLT, Int.reduceLE, Int.reduceAdd, Int.reduceSub, Int.reduceMul, Int.reduceToNat, Int.reduceGT, Nat.reduceBEq, Nat.reducePow, Nat.reduceGT, reduceCtorEq, ↓reduceIte, t7, t9]
    · have mid8 := mid7.ext (h2 := h7 ++ [.dead]) (by (repeat (first | assumption | apply Ext.refl | apply Ext.app | (apply Ext.set <;> omega) | exact Ext.trans (by assumption) (by assumption) | (refine Ext.trans ?_ (by assumption)))))
      have mp8 := mp7.ext (h2 := h7 ++ [.dead]) (by (repeat (first | assumption | apply Ext.refl | apply Ext.app | (apply Ext.set <;> omega) | exact Ext.trans (by assumption) (by assumption) | (refine Ext.trans ?_ (by assumption)))))
      have hd8 : (h7 ++ [O.dead])[h7.length]? = some .dead := snoc_last _ rfl
      simp -dsimp (disch := first | with_reducible assumption | omega | (intro h_; cases h_; done) | (simp only [LN] <;> omega) | (simp only [LF]; done) | (repeat (first | with_reducible assumption | apply Ext.refl | apply Ext.app | (apply Ext.set <;> omega) | (refine Ext.trans ?_ (by assumption))))) only [AX, TY, AD, mapPut, entsOf, oneV, builtinV, idsOf, mapId, touchB, Nat.reduceLT, Nat.reduceLeDiff, Nat.reduceEqDiff, Nat.reduceAdd, Nat.reduceMul, Int.reduceBEq, Int.reduceEq, Int.reduceNeg, Int.reduceLT, Int.reduceLE, Int.reduceAdd, Int.reduceSub, Int.reduceMul, Int.reduceToNat, Int.reduceGT, Nat.reduceBEq, Nat.reducePow, Nat.reduceGT, reduceCtorEq, ↓reduceIte, t7, t9]
      repeat' (first | assumption | refine And.intro ?_ ?_)
      all_goals first | rfl | omega | (simp; done) | (simp; omega; done) | skip
    rintro done τ2 hh2 ⟨t7, t84, mid2, mp2, hd2⟩
    have hx2 := (slK mid2).2
    refine ⟨t84, mp2.blk, hd2, fun en hen hnd => ?_, fun hall => ?_⟩
    rotate_left
    · simp only [thenQ_norm]
      refine SW.of (P := Try.prog) (Checked.mixed Try.checked) named hk_sound ?_
      simp -dsimp (disch := first | with_reducible assumption | omega | (intro h_; cases h_; done) | (simp only [LN] <;> omega) | (simp only [LF]; done) | (repeat (first | with_reducible assumption | apply Ext.refl | apply Ext.app | (apply Ext.set <;> omega) | (refine Ext.trans ?_ (by assumption))))) only [AX, TY, AD, mapPut, entsOf, oneV, builtinV, idsOf, mapId, touchB, Nat.reduceLT, Nat.reduceLeDiff, Nat.reduceEqDiff, Nat.reduceAdd, Nat.reduceMul, Int.reduceBEq, Int.reduceEq, Int.reduceNeg, Int.reduceLT, Int.reduceLE, Int.reduceAdd, Int.reduceSub, Int.reduceMul, Int.reduceToNat, Int.reduceGT, Nat.reduceBEq, Nat.reducePow, Nat.reduceGT, reduceCtorEq, ↓reduceIte]
      refine awake_ok.mono ?_
      rintro _ h3 rfl
      simp -dsimp (disch := first | with_reducible assumption | omega | (intro h_; cases h_; done) | (simp only [LN] <;> omega) | (simp only [LF]; done) | (repeat (first | with_reducible assumption | apply Ext.refl | apply Ext.app | (apply Ext.set <;> omega) | (refine Ext.trans ?_ (by assumption))))) only [AX, TY, AD, mapPut, entsOf, oneV, builtinV, idsOf, mapId, touchB, Nat.reduceLT, Nat.reduceLeDiff, Nat.reduceEqDiff, Nat.reduceAdd, Nat.reduceMul, Int.reduceBEq, Int.reduceEq, Int.reduceNeg, Int.reduceLT, Int.reduceLE, Int.reduceAdd, Int.reduceSub, Int.reduceMul, Int.reduceToNat, Int.reduceGT, Nat.reduceBEq, Nat.reducePow, Nat.reduceGT, reduceCtorEq, ↓reduceIte]
    obtain ⟨m, hm, rfl⟩ := List.mem_map.1 hen
    obtain ⟨k, z1, z2, z3⟩ := hms m hm
    obtain ⟨k', p', b'⟩ := m
    obtain rfl : k' = (k : Int) := z1
    have hdat := (mp2.dat _ hm).1
    have hS' := w5 k _ (by rw [mid.pages]; exact z2) z3
    have hwp := wrap_page z2 (by omega)
    have hdl : (applyAll S'.D.dur S'.D.pend).length = pages * 1024 := by have := mid2.inv.cur_len; rw [mid2.pages] at this; exact this
    have hdl2 : S'.D.dur.length = pages * 1024 := by have := mid2.inv.dur; rw [mid2.pages] at this; exact this
    have hrd := read_ok mid2.at'.dk (at' := k * 1024) (n := 1024) (by rw [hdl2]; omega)
    have hcur : ((applyAll S'.D.dur S'.D.pend).drop (k * 1024)).take 1024 = p'.data := by
      rcases hS' with ⟨j, hj, q1, q2⟩ | ⟨_, q2⟩
      · rcases (mid2.inv.fr j hj).2.2 with q | q
        · omega
        · have := q.2.2.2 (hcl _ (List.getElem_mem hj))
          rw [q1] at this
          rw [q2, this]; rfl
      · rw [q2]; rfl
    simp -dsimp (disch := first | with_reducible assumption | omega | (intro h_; cases h_; done) | (simp only [LN] <;> omega) | (simp only [LF]; done) | (repeat (first | with_reducible assumption | apply Ext.refl | apply Ext.app | (apply Ext.set <;> omega) | (refine Ext.trans ?_ (by assumption))))) only [AX, TY, AD, mapPut, entsOf, oneV, builtinV, idsOf, mapId, touchB, Nat.reduceLT, Nat.reduceLeDiff, Nat.reduceEqDiff, Nat.reduceAdd, Nat.reduceMul, Int.reduceBEq, Int.reduceEq, Int.reduceNeg, Int.reduceLT, Int.reduceLE, Int.reduceAdd, Int.reduceSub, Int.reduceMul, Int.reduceToNat, Int.reduceGT, Nat.reduceBEq, Nat.reducePow, Nat.reduceGT, reduceCtorEq, ↓reduceIte, t7, t84, encS]
    refine SW.of (P := Try.prog) (Checked.mixed Try.checked) named hk_sound ?_
    simp -dsimp (disch := first | with_reducible assumption | omega | (intro h_; cases h_; done) | (simp only [LN] <;> omega) | (simp only [LF]; done) | (repeat (first | with_reducible assumption | apply Ext.refl | apply Ext.app | (apply Ext.set <;> omega) | (refine Ext.trans ?_ (by assumption))))) only [AX, TY, AD, mapPut, entsOf, oneV, builtinV, idsOf, mapId, touchB, Nat.reduceLT, Nat.reduceLeDiff, Nat.reduceEqDiff, Nat.reduceAdd, Nat.reduceMul, Int.reduceBEq, Int.reduceEq, Int.reduceNeg, Int.reduceLT, Int.reduceLE, Int.reduceAdd, Int.reduceSub, Int.reduceMul, Int.reduceToNat, Int.reduceGT, Nat.reduceBEq, Nat.reducePow, Nat.reduceGT, reduceCtorEq, ↓reduceIte, t7, t84, loadN_fact hx2, hwp]
    refine hrd.mono ?_
    rintro _ h9 ⟨e9, ⟨hbad, rfl⟩ | ⟨hgood, p9, c9, o9, rfl, gr9⟩⟩
    · have mid9 := mid2.ext e9
      have mp9 := mp2.ext e9
      have hx9 := e9 _ _ hx2
      have hd9 := e9 _ _ hd2
      have hfo := failed_ok mid9.at'.dk
      rw [hbad] at hfo
      simp -dsimp (disch := first | with_reducible assumption | omega | (intro h_; cases h_; done) | (simp only [LN] <;> omega) | (simp only [LF]; done) | (repeat (first | with_reducible assumption | apply Ext.refl | apply Ext.app | (apply Ext.set <;> omega) | (refine Ext.trans ?_ (by assumption))))) only [AX, TY, AD, mapPut, entsOf, oneV, builtinV, idsOf, mapId, touchB, Nat.reduceLT, Nat.reduceLeDiff, Nat.reduceEqDiff, Nat.reduceAdd, Nat.reduceMul, Int.reduceBEq, Int.reduceEq, Int.reduceNeg, Int.reduceLT, Int.reduceLE, Int.reduceAdd, Int.reduceSub, Int.reduceMul, Int.reduceToNat, Int.reduceGT, Nat.reduceBEq, Nat.reducePow, Nat.reduceGT, reduceCtorEq, ↓reduceIte, t7, t84, loadN_fact hx9]
      refine hfo.mono ?_
      rintro _ _ ⟨rfl, rfl⟩
      simp -dsimp (disch := first | with_reducible assumption | omega | (intro h_; cases h_; done) | (simp only [LN] <;> omega) | (simp only [LF]; done) | (repeat (first | with_reducible assumption | apply Ext.refl | apply Ext.app | (apply Ext.set <;> omega) | (refine Ext.trans ?_ (by assumption))))) only [AX, TY, AD, mapPut, entsOf, oneV, builtinV, idsOf, mapId, touchB, Nat.reduceLT, Nat.reduceLeDiff, Nat.reduceEqDiff, Nat.reduceAdd, Nat.reduceMul, Int.reduceBEq, Int.reduceEq, Int.reduceNeg, Int.reduceLT, Int.reduceLE, Int.reduceAdd, Int.reduceSub, Int.reduceMul, Int.reduceToNat, Int.reduceGT, Nat.reduceBEq, Nat.reducePow, Nat.reduceGT, reduceCtorEq, ↓reduceIte, t7, t84]
      repeat' (first | assumption | refine And.intro ?_ ?_)
      all_goals first | rfl | omega | (simp; done) | (simp; omega; done) | skip
    · have mid9 := mid2.ext e9
      have mp9 := mp2.ext e9
      have hx9 := e9 _ _ hx2
      have hd9 := e9 _ _ hd2
      rw [hcur] at gr9
      have hsm := same13_ok (c := c9) (d := p'.c) gr9.sl (hdat.ext e9)
      rw [decide_eq_true rfl] at hsm
      have hl1 : p'.data.length = 1024 := by rw [← hcur, List.length_take, List.length_drop]; omega
      rw [hl1] at hsm
      simp -dsimp (disch := first | with_reducible assumption | omega | (intro h_; cases h_; done) | (simp only [LN] <;> omega) | (simp only [LF]; done) | (repeat (first | with_reducible assumption | apply Ext.refl | apply Ext.app | (apply Ext.set <;> omega) | (refine Ext.trans ?_ (by assumption))))) only [AX, TY, AD, mapPut, entsOf, oneV, builtinV, idsOf, mapId, touchB, Nat.reduceLT, Nat.reduceLeDiff, Nat.reduceEqDiff, Nat.reduceAdd, Nat.reduceMul, Int.reduceBEq, Int.reduceEq, Int.reduceNeg, Int.reduceLT, Int.reduceLE, Int.reduceAdd, Int.reduceSub, Int.reduceMul, Int.reduceToNat, Int.reduceGT, Nat.reduceBEq, Nat.reducePow, Nat.reduceGT, reduceCtorEq, ↓reduceIte, t7, t84, loadN_fact hx9, hl1]
      refine hsm.mono ?_
      rintro _ _ ⟨rfl, rfl⟩
      simp -dsimp (disch := first | with_reducible assumption | omega | (intro h_; cases h_; done) | (simp only [LN] <;> omega) | (simp only [LF]; done) | (repeat (first | with_reducible assumption | apply Ext.refl | apply Ext.app | (apply Ext.set <;> omega) | (refine Ext.trans ?_ (by assumption))))) only [AX, TY, AD, mapPut, entsOf, oneV, builtinV, idsOf, mapId, touchB, Nat.reduceLT, Nat.reduceLeDiff, Nat.reduceEqDiff, Nat.reduceAdd, Nat.reduceMul, Int.reduceBEq, Int.reduceEq, Int.reduceNeg, Int.reduceLT, Int.reduceLE, Int.reduceAdd, Int.reduceSub, Int.reduceMul, Int.reduceToNat, Int.reduceGT, Nat.reduceBEq, Nat.reducePow, Nat.reduceGT, reduceCtorEq, ↓reduceIte, t7, t84]
      repeat' (first | assumption | refine And.intro ?_ ?_)
      all_goals first | rfl | omega | (simp; done) | (simp; omega; done) | skip
  have hi : i < l.length := by omega
  have hla := sl.load0 (.refl _) hi (m := 4) (by decide)
  have hmem := List.getElem_mem hi
  generalize l[i] = x at hla hmem
  simp only [Cl.enc, List.take] at hla
  obtain ⟨g, hg, gx, eg, hgl⟩ : ∃ g, hh ++ [O.cells (Cl.enc x) .rw] = g ∧ g[hh.length]? = some (O.cells (Cl.enc x) .rw) ∧ Ext hh g ∧ g.length = hh.length + 1 := ⟨_, rfl, snoc_last _ rfl, (by (repeat (first | assumption | apply Ext.refl | apply Ext.app | (apply Ext.set <;> omega) | exact Ext.trans (by assumption) (by assumption) | (refine Ext.trans ?_ (by assumption))))), by simp⟩
  simp only [Cl.enc] at hg gx
  have midg := mid.ext eg
  have hxg := eg _ _ hx
  have hcall := midg.call (by omega) x (b6 x hmem) (hcn x hmem)
  simp only [Cl.enc] at hcall
  simp -dsimp (disch := first | with_reducible assumption | omega | (intro h_; cases h_; done) | (simp only [LN] <;> omega) | (simp only [LF]; done) | (repeat (first | with_reducible assumption | apply Ext.refl | apply Ext.app | (apply Ext.set <;> omega) | (refine Ext.trans ?_ (by assumption))))) only [AX, TY, AD, mapPut, entsOf, oneV, builtinV, idsOf, mapId, touchB, Nat.reduceLT, Nat.reduceLeDiff, Nat.reduceEqDiff, Nat.reduceAdd, Nat.reduceMul, Int.reduceBEq, Int.reduceEq, Int.reduceNeg, Int.reduceLT, Int.reduceLE, Int.reduceAdd, Int.reduceSub, Int.reduceMul, Int.reduceToNat, Int.reduceGT, Nat.reduceBEq, Nat.reducePow, Nat.reduceGT, reduceCtorEq, ↓reduceIte, t7, t9, t33, t34, t35, h2, hla, hg, loadN_fact gx, loadN_fact hxg]
  refine hcall.mono ?_
  rintro _ h6 ⟨S', oid', e, dd, cr, mid6, k6, pr, cr', rfl, slr, hpr⟩
  have hx6 := (slK mid6).2
  have gx6 := k6.get gx (fun q => by have := mid.at'.lt q; omega)
  have mp6 := (mp.ext eg).kp k6
  obtain ⟨hk1, hk2, hk3, hk4, hk5, hk6, hk7⟩ := call_keeps mid.inv (by omega) (hcn x hmem) cr
  by_cases hu : x.kind = 1 ∧ e = 0
  · obtain ⟨c1, rfl⟩ := hu
    obtain ⟨n, hn1, hn2, hn3, hn4⟩ := hk5 (.inl c1) rfl
    have c6 : ¬ x.kind = 6 := by omega
    have hud : upd' x = dat x.fill 1024 := if_pos c1
    rw [hud] at hn4
    have gx6' := gx6
    rw [hn1] at gx6'
    have lx6 := lt_of_some gx6
    have lb6 := lt_of_some mp6.blk
    simp -dsimp (disch := first | with_reducible assumption | omega | (intro h_; cases h_; done) | (simp only [LN] <;> omega) | (simp only [LF]; done) | (repeat (first | with_reducible assumption | apply Ext.refl | apply Ext.app | (apply Ext.set <;> omega) | (refine Ext.trans ?_ (by assumption))))) only [AX, TY, AD, mapPut, entsOf, oneV, builtinV, idsOf, mapId, touchB, Nat.reduceLT, Nat.reduceLeDiff, Nat.reduceEqDiff, Nat.reduceAdd, Nat.reduceMul, Int.reduceBEq, Int.reduceEq, Int.reduceNeg, Int.reduceLT, Int.reduceLE, Int.reduceAdd, Int.reduceSub, Int.reduceMul, Int.reduceToNat, Int.reduceGT, Nat.reduceBEq, Nat.reducePow, Nat.reduceGT, reduceCtorEq, ↓reduceIte, t7, t9, t33, t34, t35, loadN_fact gx6, eq_true c1, c1]
    refine W.drawn [(0, []), (1, [0]), (2, [0]), (3, [2, 1, 0]), (4, [2, 1, 0]), (5, [2, 1, 0]), (6, [])] (by decide +kernel) ?_
    simp -dsimp (disch := first | with_reducible assumption | omega | (intro h_; cases h_; done) | (simp only [LN] <;> omega) | (simp only [LF]; done) | (repeat (first | with_reducible assumption | apply Ext.refl | apply Ext.app | (apply Ext.set <;> omega) | (refine Ext.trans ?_ (by assumption))))) only [AX, TY, AD, mapPut, entsOf, oneV, builtinV, idsOf, mapId, touchB, Nat.reduceLT, Nat.reduceLeDiff, Nat.reduceEqDiff, Nat.reduceAdd, Nat.reduceMul, Int.reduceBEq, Int.reduceEq, Int.reduceNeg, Int.reduceLT, Int.reduceLE, Int.reduceAdd, Int.reduceSub, Int.reduceMul, Int.reduceToNat, Int.reduceGT, Nat.reduceBEq, Nat.reducePow, Nat.reduceGT, reduceCtorEq, ↓reduceIte, t7, t9, t33, t34, t35, loadN_fact gx6']
    refine (data_c x.fill 1024 (by decide)).mono ?_
    rintro _ h8 ⟨e8, rfl, sl8⟩
    have mid8 := mid6.ext e8
    have mp8 := mp6.ext e8
    have gx8 := e8 _ _ gx6
    have s0 := sameO_ext e8 lx6
    have s1 := sameO_ext e8 lb6
    have hput := mapPut_g mp8.blk (n : Int) (⟨some (h6.length, 0), some 1024, dat x.fill 1024⟩ : Sb)
    simp only [encS] at hput
    have mp9 := mp8.put (n : Int) (s := ⟨some (h6.length, 0), some 1024, dat x.fill 1024⟩) sl8 (fun a o z => by cases z; exact fun q => by have := mid6.at'.lt q; omega)
    have mid9 := mid8.put (es' := gents encS (putG cl (n : Int) ⟨some (h6.length, 0), some 1024, dat x.fill 1024⟩ ms)) (cl' := clG cl (n : Int) ms) mp8.blk mp8.no (Nat.le_refl _)
    have hne : ¬ hh.length = h0.length := fun q => by have := mp8.blk; rw [← q, gx8] at this; cases this
    have gx9 := (set_other (h := h8) (i := h0.length) (j := hh.length) (.map (gents encS (putG cl (n : Int) ⟨some (h6.length, 0), some 1024, dat x.fill 1024⟩ ms)) (clG cl (n : Int) ms)) hne).trans gx8
    have hms9 : ∀ m ∈ putG cl (n : Int) (⟨some (h6.length, 0), some 1024, dat x.fill 1024⟩ : Sb) ms, ∃ k : Nat, m.k = k ∧ k < pages ∧ Holds S' k m.v.data := fun m hm => by
      by_cases q : m.k = (n : Int)
      · obtain ⟨m', h1, h2, h3⟩ := putG_in (cl := cl) (k := (n : Int)) (v := (⟨some (h6.length, 0), some 1024, dat x.fill 1024⟩ : Sb)) (ms := ms)
        have := mp9.ok.uniq hm h1 (by rw [q, h2])
        subst this
        rw [h3]
        exact ⟨n, q, by rw [← mid.pages]; exact hn2, hn4⟩
      · rcases putG_mem hm with h | h
        · exact absurd h.1 q
        · obtain ⟨k, z1, z2, z3⟩ := hms m h
          exact ⟨k, z1, z2, hk4 k _ (by rw [mid.pages]; exact z2) z3 fun z => q (by rw [z1, ← z.2.2, hn1])⟩
    simp -dsimp (disch := first | with_reducible assumption | omega | (intro h_; cases h_; done) | (simp only [LN] <;> omega) | (simp only [LF]; done) | (repeat (first | with_reducible assumption | apply Ext.refl | apply Ext.app | (apply Ext.set <;> omega) | (refine Ext.trans ?_ (by assumption))))) only [AX, TY, AD, mapPut, entsOf, oneV, builtinV, idsOf, mapId, touchB, Nat.reduceLT, Nat.reduceLeDiff, Nat.reduceEqDiff, Nat.reduceAdd, Nat.reduceMul, Int.reduceBEq, Int.reduceEq, Int.reduceNeg, Int.reduceLT, Int.reduceLE, Int.reduceAdd, Int.reduceSub, Int.reduceMul, Int.reduceToNat, Int.reduceGT, Nat.reduceBEq, Nat.reducePow, Nat.reduceGT, reduceCtorEq, ↓reduceIte, t7, t9, t33, t34, t35, s0, s1, -mapPut, ↓hput, loadN_fact gx9, loadN_fact gx8, c6, c1, wrap_in]
    refine ⟨m - 1, by omega, i + 1, S', oid', putG cl (n : Int) ⟨some (h6.length, 0), some 1024, dat x.fill 1024⟩ ms, clG cl (n : Int) ms, ?_⟩
    repeat' (first | assumption | refine And.intro ?_ ?_)
    all_goals first | rfl | omega | (simp; done) | (simp; omega; done) | skip
  by_cases c6 : x.kind = 6
  · have c1 : ¬ x.kind = 1 := by omega
    by_cases c7 : x.n = 1024
    · have c7' := c7
      by_cases he : e = 0
      · simp -dsimp (disch := first | with_reducible assumption | omega | (intro h_; cases h_; done) | (simp only [LN] <;> omega) | (simp only [LF]; done) | (repeat (first | with_reducible assumption | apply Ext.refl | apply Ext.app | (apply Ext.set <;> omega) | (refine Ext.trans ?_ (by assumption))))) only [AX, TY, AD, mapPut, entsOf, oneV, builtinV, idsOf, mapId, touchB, Nat.reduceLT, Nat.reduceLeDiff, Nat.reduceEqDiff, Nat.reduceAdd, Nat.reduceMul, Int.reduceBEq, Int.reduceEq, Int.reduceNeg, Int.reduceLT, Int.reduceLE, Int.reduceAdd, Int.reduceSub, Int.reduceMul, Int.reduceToNat, Int.reduceGT, Nat.reduceBEq, Nat.reducePow, Nat.reduceGT, reduceCtorEq, ↓reduceIte, t7, t9, t33, t34, t35, loadN_fact gx6, c1, eq_true c6, c6, he, eq_true c7, c7]
        refine awake_ok.mono ?_
        rintro _ h3 rfl
        simp -dsimp (disch := first | with_reducible assumption | omega | (intro h_; cases h_; done) | (simp only [LN] <;> omega) | (simp only [LF]; done) | (repeat (first | with_reducible assumption | apply Ext.refl | apply Ext.app | (apply Ext.set <;> omega) | (refine Ext.trans ?_ (by assumption))))) only [AX, TY, AD, mapPut, entsOf, oneV, builtinV, idsOf, mapId, touchB, Nat.reduceLT, Nat.reduceLeDiff, Nat.reduceEqDiff, Nat.reduceAdd, Nat.reduceMul, Int.reduceBEq, Int.reduceEq, Int.reduceNeg, Int.reduceLT, Int.reduceLE, Int.reduceAdd, Int.reduceSub, Int.reduceMul, Int.reduceToNat, Int.reduceGT, Nat.reduceBEq, Nat.reducePow, Nat.reduceGT, reduceCtorEq, ↓reduceIte]
      · simp -dsimp (disch := first | with_reducible assumption | omega | (intro h_; cases h_; done) | (simp only [LN] <;> omega) | (simp only [LF]; done) | (repeat (first | with_reducible assumption | apply Ext.refl | apply Ext.app | (apply Ext.set <;> omega) | (refine Ext.trans ?_ (by assumption))))) only [AX, TY, AD, mapPut, entsOf, oneV, builtinV, idsOf, mapId, touchB, Nat.reduceLT, Nat.reduceLeDiff, Nat.reduceEqDiff, Nat.reduceAdd, Nat.reduceMul, Int.reduceBEq, Int.reduceEq, Int.reduceNeg, Int.reduceLT, Int.reduceLE, Int.reduceAdd, Int.reduceSub, Int.reduceMul, Int.reduceToNat, Int.reduceGT, Nat.reduceBEq, Nat.reducePow, Nat.reduceGT, reduceCtorEq, ↓reduceIte, t7, t9, t33, t34, t35, loadN_fact gx6, c1, eq_true c6, c6, he, eq_true c7, c7]
        refine awake_ok.mono ?_
        rintro _ h3 rfl
        simp -dsimp (disch := first | with_reducible assumption | omega | (intro h_; cases h_; done) | (simp only [LN] <;> omega) | (simp only [LF]; done) | (repeat (first | with_reducible assumption | apply Ext.refl | apply Ext.app | (apply Ext.set <;> omega) | (refine Ext.trans ?_ (by assumption))))) only [AX, TY, AD, mapPut, entsOf, oneV, builtinV, idsOf, mapId, touchB, Nat.reduceLT, Nat.reduceLeDiff, Nat.reduceEqDiff, Nat.reduceAdd, Nat.reduceMul, Int.reduceBEq, Int.reduceEq, Int.reduceNeg, Int.reduceLT, Int.reduceLE, Int.reduceAdd, Int.reduceSub, Int.reduceMul, Int.reduceToNat, Int.reduceGT, Nat.reduceBEq, Nat.reducePow, Nat.reduceGT, reduceCtorEq, ↓reduceIte]
    have he : e ≠ 0 := fun q => by
      obtain ⟨n, _, _, hl', _⟩ := hk5 (.inr c6) q
      unfold upd' at hl'
      rw [if_neg c1] at hl'
      have hnn := b6 x hmem c6
      have : (dat x.fill x.n.toNat).length = x.n.toNat := by unfold dat; simp
      omega
    have hms6 : ∀ m ∈ ms, ∃ k : Nat, m.k = k ∧ k < pages ∧ Holds S' k m.v.data := fun m hm => by
      obtain ⟨k, z1, z2, z3⟩ := hms m hm
      exact ⟨k, z1, z2, hk4 k _ (by rw [mid.pages]; exact z2) z3 fun z => he z.2.1⟩
    simp -dsimp (disch := first | with_reducible assumption | omega | (intro h_; cases h_; done) | (simp only [LN] <;> omega) | (simp only [LF]; done) | (repeat (first | with_reducible assumption | apply Ext.refl | apply Ext.app | (apply Ext.set <;> omega) | (refine Ext.trans ?_ (by assumption))))) only [AX, TY, AD, mapPut, entsOf, oneV, builtinV, idsOf, mapId, touchB, Nat.reduceLT, Nat.reduceLeDiff, Nat.reduceEqDiff, Nat.reduceAdd, Nat.reduceMul, Int.reduceBEq, Int.reduceEq, Int.reduceNeg, Int.reduceLT, Int.reduceLE, Int.reduceAdd, Int.reduceSub, Int.reduceMul, Int.reduceToNat, Int.reduceGT, Nat.reduceBEq, Nat.reducePow, Nat.reduceGT, reduceCtorEq, ↓reduceIte, t7, t9, t33, t34, t35, loadN_fact gx6, c1, eq_true c6, c6, he, c7, wrap_in]
    refine ⟨m - 1, by omega, i + 1, S', oid', ms, cl, ?_⟩
    repeat' (first | assumption | refine And.intro ?_ ?_)
    all_goals first | rfl | omega | (simp; done) | (simp; omega; done) | skip
  have hms6 : ∀ m ∈ ms, ∃ k : Nat, m.k = k ∧ k < pages ∧ Holds S' k m.v.data := fun m hm => by
    obtain ⟨k, z1, z2, z3⟩ := hms m hm
    exact ⟨k, z1, z2, hk4 k _ (by rw [mid.pages]; exact z2) z3 fun z => z.1.elim (fun q => hu ⟨q, z.2.1⟩) c6⟩
  by_cases he : e = 0
  · have c1 : ¬ x.kind = 1 := fun q => hu ⟨q, he⟩
    simp -dsimp (disch := first | with_reducible assumption | omega | (intro h_; cases h_; done) | (simp only [LN] <;> omega) | (simp only [LF]; done) | (repeat (first | with_reducible assumption | apply Ext.refl | apply Ext.app | (apply Ext.set <;> omega) | (refine Ext.trans ?_ (by assumption))))) only [AX, TY, AD, mapPut, entsOf, oneV, builtinV, idsOf, mapId, touchB, Nat.reduceLT, Nat.reduceLeDiff, Nat.reduceEqDiff, Nat.reduceAdd, Nat.reduceMul, Int.reduceBEq, Int.reduceEq, Int.reduceNeg, Int.reduceLT, Int.reduceLE, Int.reduceAdd, Int.reduceSub, Int.reduceMul, Int.reduceToNat, Int.reduceGT, Nat.reduceBEq, Nat.reducePow, Nat.reduceGT, reduceCtorEq, ↓reduceIte, t7, t9, t33, t34, t35, loadN_fact gx6, c1, c6, he, wrap_in]
    refine ⟨m - 1, by omega, i + 1, S', oid', ms, cl, ?_⟩
    repeat' (first | assumption | refine And.intro ?_ ?_)
    all_goals first | rfl | omega | (simp; done) | (simp; omega; done) | skip
  · by_cases c1 : x.kind = 1
    · simp -dsimp (disch := first | with_reducible assumption | omega | (intro h_; cases h_; done) | (simp only [LN] <;> omega) | (simp only [LF]; done) | (repeat (first | with_reducible assumption | apply Ext.refl | apply Ext.app | (apply Ext.set <;> omega) | (refine Ext.trans ?_ (by assumption))))) only [AX, TY, AD, mapPut, entsOf, oneV, builtinV, idsOf, mapId, touchB, Nat.reduceLT, Nat.reduceLeDiff, Nat.reduceEqDiff, Nat.reduceAdd, Nat.reduceMul, Int.reduceBEq, Int.reduceEq, Int.reduceNeg, Int.reduceLT, Int.reduceLE, Int.reduceAdd, Int.reduceSub, Int.reduceMul, Int.reduceToNat, Int.reduceGT, Nat.reduceBEq, Nat.reducePow, Nat.reduceGT, reduceCtorEq, ↓reduceIte, t7, t9, t33, t34, t35, loadN_fact gx6, eq_true c1, c1, c6, he, wrap_in]
      refine ⟨m - 1, by omega, i + 1, S', oid', ms, cl, ?_⟩
      repeat' (first | assumption | refine And.intro ?_ ?_)
      all_goals first | rfl | omega | (simp; done) | (simp; omega; done) | skip
    · simp -dsimp (disch := first | with_reducible assumption | omega | (intro h_; cases h_; done) | (simp only [LN] <;> omega) | (simp only [LF]; done) | (repeat (first | with_reducible assumption | apply Ext.refl | apply Ext.app | (apply Ext.set <;> omega) | (refine Ext.trans ?_ (by assumption))))) only [AX, TY, AD, mapPut, entsOf, oneV, builtinV, idsOf, mapId, touchB, Nat.reduceLT, Nat.reduceLeDiff, Nat.reduceEqDiff, Nat.reduceAdd, Nat.reduceMul, Int.reduceBEq, Int.reduceEq, Int.reduceNeg, Int.reduceLT, Int.reduceLE, Int.reduceAdd, Int.reduceSub, Int.reduceMul, Int.reduceToNat, Int.reduceGT, Nat.reduceBEq, Nat.reducePow, Nat.reduceGT, reduceCtorEq, ↓reduceIte, t7, t9, t33, t34, t35, loadN_fact gx6, c1, c6, he, wrap_in]
      refine ⟨m - 1, by omega, i + 1, S', oid', ms, cl, ?_⟩
      repeat' (first | assumption | refine And.intro ?_ ?_)
      all_goals first | rfl | omega | (simp; done) | (simp; omega; done) | skip
theorem row6 {h : Heap} (a0 a1 a2 : V) (v0 : ArgV false (.int .i64) h a0) (v1 : ArgV false (.int .i64) h a1) (v2 : ArgV false (.slice 4 32 kCl) h a2) : SR Try.prog 6 [a0, a1, a2] h fun r h' => r = .bool true := by
  obtain ⟨a, rfl, _⟩ := v0.int
  obtain ⟨b, rfl, _⟩ := v1.int
  obtain ⟨p, c, l, rfl, hs, hc⟩ := v2.cls
  exact law6_ok hs (fun c hc' => (hc c hc').1) a b
end Go.Proofs.YtmjfhckioaempaaA
