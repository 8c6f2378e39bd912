/- Words of this session: chapter 16: the reference's disk. Words of this session: chapter 16: the reference's disk: FailAfter, Crash; its pool. Words of this session: chapter 16: the reference's pool: copied, Pages, room. -/
import Derived.Test.YtmjfhckioaempaaPZ
namespace Go.Proofs.YtmjfhckioaempaaA
open Go Go.Proofs Go.RowKit
set_option linter.unusedVariables false
set_option linter.unusedSimpArgs false
set_option maxRecDepth 10000
set_option maxHeartbeats 4000000
/-- A disk as a value. -/
structure RDk (h : Heap) (D : Dk) (p : Option (Nat × Nat)) (c : Option Nat) (q : Option (Nat × Nat)) (d : Option Nat) : Prop where
  dur : Rs h p c 1 eb D.dur
  pend : Sl h q 2 Pw.enc D.pend
  dat : ∀ w ∈ D.pend, Rs h w.p w.c 1 eb w.data
  small : D.dur.length ≤ 4194304
  few : D.pend.length ≤ 100000
  inr : ∀ w ∈ D.pend, w.off + w.data.length ≤ D.dur.length
theorem RDk.ext {h hh : Heap} {D : Dk} {p : Option (Nat × Nat)} {c : Option Nat} {q : Option (Nat × Nat)} {d : Option Nat} (r : RDk h D p c q d) (e : Ext h hh) : RDk hh D p c q d := ⟨r.dur.ext e, r.pend.ext e, fun w hw => (r.dat w hw).ext e, r.small, r.few, r.inr⟩
theorem RDk.flag {h : Heap} {D : Dk} {p : Option (Nat × Nat)} {c : Option Nat} {q : Option (Nat × Nat)} {d : Option Nat} (r : RDk h D p c q d) (ct : Int) (f : Bool) : RDk h ⟨D.dur, D.pend, ct, f⟩ p c q d := ⟨r.dur, r.pend, r.dat, r.small, r.few, r.inr⟩
/-- Where a disk's blocks lie. -/
def DkPtr (D : Dk) (p q : Option (Nat × Nat)) (P : Nat → Prop) : Prop := (∀ a o, p = some (a, o) → P a) ∧ (∀ a o, q = some (a, o) → P a) ∧ ∀ w ∈ D.pend, ∀ a o, w.p = some (a, o) → P a
theorem RDk.keep {h hh : Heap} {D : Dk} {p : Option (Nat × Nat)} {c : Option Nat} {q : Option (Nat × Nat)} {d : Option Nat} (r : RDk h D p c q d) {P : Nat → Prop} (pt : DkPtr D p q P) (hk : ∀ a, P a → hh[a]? = h[a]?) : RDk hh D p c q d :=
  ⟨r.dur.keep fun a o z => hk a (pt.1 a o z), r.pend.keep fun a o z => hk a (pt.2.1 a o z), fun w hw => (r.dat w hw).keep fun a o z => hk a (pt.2.2 w hw a o z), r.small, r.few, r.inr⟩
theorem RDk.ptr {h : Heap} {D : Dk} {p : Option (Nat × Nat)} {c : Option Nat} {q : Option (Nat × Nat)} {d : Option Nat} (r : RDk h D p c q d) : DkPtr D p q (fun a => a < h.length) :=
  ⟨fun a o z => Sl.lt r.dur.sl z, fun a o z => r.pend.lt z, fun w hw a o z => Sl.lt (r.dat w hw).sl z⟩
@[reducible] def dkV (D : Dk) (p : Option (Nat × Nat)) (c : Option Nat) (q : Option (Nat × Nat)) (d : Option Nat) : List V := [.slice p D.dur.length c, .slice q D.pend.length d, .int .i64 D.ctr, .bool D.failed]
theorem Rs.cut2 {h : Heap} {p : Option (Nat × Nat)} {c : Option Nat} {ys : List Int} (r : Rs h p c 1 eb ys) {a b : Nat} (hab : a ≤ b) (hb : b ≤ ys.length) :
    ∃ p2 c2, (∀ (hh : Heap) (k k' : IntKind), Ext h hh → sliceV hh 1 p ys.length c (some (.int k (a : Int))) (some (.int k' (b : Int))) none = some (.slice p2 (b - a) c2)) ∧ Rs h p2 c2 1 eb ((ys.take b).drop a) ∧ ∀ x o, p2 = some (x, o) → ∃ o2, p = some (x, o2) := by
  obtain ⟨p2, c2, h1, h2⟩ := r.cut hab hb
  refine ⟨p2, c2, h1, h2, fun x o z => ?_⟩
  have h3 := h1 h .i64 .i64 (.refl _)
  rw [sliceV_in (by omega) (by omega) (by omega) r.room r.fit] at h3
  simp only [Option.some.injEq, V.slice.injEq] at h3
  obtain ⟨h4, _⟩ := h3
  rw [z] at h4
  split at h4
  · exact ⟨o, h4⟩
  · cases p with
    | none => cases h4
    | some w =>
      simp only [advV, Option.some.injEq, Prod.mk.injEq] at h4
      exact ⟨w.2, by rw [← h4.1]⟩
theorem rinside_ok {h : Heap} {D : Dk} {p : Option (Nat × Nat)} {c : Option Nat} {q : Option (Nat × Nat)} {d : Option Nat} (r : RDk h D p c q d) (at' n : Nat) (hin : at' + n ≤ D.dur.length) : WR (callE Try.prog hk 58 [.agg (dkV D p c q d), .int .i64 at', .int .i64 n] h) fun r h' => Ext h h' ∧ r = .bool true := by
  have sm := r.small
  have h1 : (0 : Int) ≤ (at' : Int) := by omega
  have h2 : (0 : Int) ≤ (n : Int) := by omega
  have h3 : (at' : Int) ≤ (D.dur.length : Int) := by omega
  have h4 : (n : Int) ≤ (D.dur.length : Int) - (at' : Int) := by omega
  have hw : IntKind.i64.wrap ((D.dur.length : Int) - (at' : Int)) = (D.dur.length : Int) - (at' : Int) := by rw [IntKind.wrap_i64]; omega
  refine WR.call (hH := rfl) Try.func58 rfl (n := 29) rfl rfl (by simp) ?_
  simp -dsimp (disch := first | with_reducible assumption | omega | (intro h_; cases h_; done) | (simp only [LN] <;> omega) | (simp only [LF]; done) | (repeat (first | with_reducible assumption | apply Ext.refl | apply Ext.app | (apply Ext.set <;> omega) | (refine Ext.trans ?_ (by assumption))))) only [AX, TY, AD, mapPut, entsOf, oneV, builtinV, idsOf, mapId, touchB, Nat.reduceLT, Nat.reduceLeDiff, Nat.reduceEqDiff, Nat.reduceAdd, Nat.reduceMul, Int.reduceBEq, Int.reduceEq, Int.reduceNeg, Int.reduceLT, Int.reduceLE, Int.reduceAdd, Int.reduceSub, Int.reduceMul, Int.reduceToNat, Int.reduceGT, Nat.reduceBEq, Nat.reducePow, Nat.reduceGT, reduceCtorEq, ↓reduceIte, dkV, eq_true h1, eq_true h2, eq_true h3, hw, eq_true h4]
  exact (by (repeat (first | assumption | apply Ext.refl | apply Ext.app | (apply Ext.set <;> omega) | exact Ext.trans (by assumption) (by assumption) | (refine Ext.trans ?_ (by assumption)))))
theorem rput_ok {h : Heap} {p q : Option (Nat × Nat)} {c d : Option Nat} {l b : List Int} (hl : Sl h p 1 eb l) (hb : Sl h q 1 eb b) (off : Nat) (hin : off + b.length ≤ l.length) (hsm : l.length ≤ 4194304) :
    WR (callE Try.prog hk 60 [.slice p l.length c, .int .i64 off, .slice q b.length d] h) fun r h' => Ext h h' ∧ ∃ p' c' o', r = .slice p' l.length c' ∧ Gr h.length h' p' c' o' 1 eb (putL l off b) := by
  have hnq := hb.nil'
  have hlq := hb.small
  refine WR.call (hH := rfl) Try.func60 rfl (n := 28) rfl rfl (by simp) ?_
  simp -dsimp (disch := first | with_reducible assumption | omega | (intro h_; cases h_; done) | (simp only [LN] <;> omega) | (simp only [LF]; done) | (repeat (first | with_reducible assumption | apply Ext.refl | apply Ext.app | (apply Ext.set <;> omega) | (refine Ext.trans ?_ (by assumption))))) only [AX, TY, AD, mapPut, entsOf, oneV, builtinV, idsOf, mapId, touchB, Nat.reduceLT, Nat.reduceLeDiff, Nat.reduceEqDiff, Nat.reduceAdd, Nat.reduceMul, Int.reduceBEq, Int.reduceEq, Int.reduceNeg, Int.reduceLT, Int.reduceLE, Int.reduceAdd, Int.reduceSub, Int.reduceMul, Int.reduceToNat, Int.reduceGT, Nat.reduceBEq, Nat.reducePow, Nat.reduceGT, reduceCtorEq, ↓reduceIte]
  obtain ⟨p', c', o', h2, hap, gr, ho, hle, hk2⟩ := clone_app (bytes := 1) (b := h.length) (c := c) (hl.ext (hh := h ++ [O.cells [] .rw]) (by (repeat (first | assumption | apply Ext.refl | apply Ext.app | (apply Ext.set <;> omega) | exact Ext.trans (by assumption) (by assumption) | (refine Ext.trans ?_ (by assumption)))))) (q := h.length) (snoc_last _ rfl) (Nat.le_refl _) (fun y _ => rfl) (by omega)
  have e2 : Ext h h2 := Ext.of_keep fun i hi => by rw [hk2 i (by omega) (by simp; omega), snoc_old _ hi]
  simp -dsimp (disch := first | with_reducible assumption | omega | (intro h_; cases h_; done) | (simp only [LN] <;> omega) | (simp only [LF]; done) | (repeat (first | with_reducible assumption | apply Ext.refl | apply Ext.app | (apply Ext.set <;> omega) | (refine Ext.trans ?_ (by assumption))))) only [AX, TY, AD, mapPut, entsOf, oneV, builtinV, idsOf, mapId, touchB, Nat.reduceLT, Nat.reduceLeDiff, Nat.reduceEqDiff, Nat.reduceAdd, Nat.reduceMul, Int.reduceBEq, Int.reduceEq, Int.reduceNeg, Int.reduceLT, Int.reduceLE, Int.reduceAdd, Int.reduceSub, Int.reduceMul, Int.reduceToNat, Int.reduceGT, Nat.reduceBEq, Nat.reducePow, Nat.reduceGT, reduceCtorEq, ↓reduceIte, hap]
  refine W.loop (fun m τ hh => ∃ (i : Nat) (zs : List Int), m + i = b.length ∧ τ 1 = .int .i64 off ∧ τ 2 = .slice q b.length d ∧ τ 7 = .slice p' l.length c' ∧ τ 8 = .int .i64 i ∧ Ext h hh ∧ Gr h.length hh p' c' o' 1 eb zs ∧ zs = putL l off (b.take i)) ?_ (m := b.length) ?_
  rotate_left
  · have hz : l = putL l off (b.take 0) := by unfold putL; simp
    refine ⟨0, l, ?_⟩
    simp -dsimp (disch := first | with_reducible assumption | omega | (intro h_; cases h_; done) | (simp only [LN] <;> omega) | (simp only [LF]; done) | (repeat (first | with_reducible assumption | apply Ext.refl | apply Ext.app | (apply Ext.set <;> omega) | (refine Ext.trans ?_ (by assumption))))) only [AX, TY, AD, mapPut, entsOf, oneV, builtinV, idsOf, mapId, touchB, Nat.reduceLT, Nat.reduceLeDiff, Nat.reduceEqDiff, Nat.reduceAdd, Nat.reduceMul, Int.reduceBEq, Int.reduceEq, Int.reduceNeg, Int.reduceLT, Int.reduceLE, Int.reduceAdd, Int.reduceSub, Int.reduceMul, Int.reduceToNat, Int.reduceGT, Nat.reduceBEq, Nat.reducePow, Nat.reduceGT, reduceCtorEq, ↓reduceIte]
    repeat' (first | assumption | refine And.intro ?_ ?_)
    all_goals first | rfl | omega | (simp; done) | (simp; omega; done) | skip
  rintro m τ hh ⟨i, zs, hm, t1, t2, t7, t8, e, g, hz⟩
  have hti : (b.take i).length = min i b.length := List.length_take
  have hzl : zs.length = l.length := by rw [hz, putL_len (by omega)]
  by_cases h1 : (i : Int) < (b.length : Int)
  rotate_left
  · simp -dsimp (disch := first | with_reducible assumption | omega | (intro h_; cases h_; done) | (simp only [LN] <;> omega) | (simp only [LF]; done) | (repeat (first | with_reducible assumption | apply Ext.refl | apply Ext.app | (apply Ext.set <;> omega) | (refine Ext.trans ?_ (by assumption))))) only [AX, TY, AD, mapPut, entsOf, oneV, builtinV, idsOf, mapId, touchB, Nat.reduceLT, Nat.reduceLeDiff, Nat.reduceEqDiff, Nat.reduceAdd, Nat.reduceMul, Int.reduceBEq, Int.reduceEq, Int.reduceNeg, Int.reduceLT, Int.reduceLE, Int.reduceAdd, Int.reduceSub, Int.reduceMul, Int.reduceToNat, Int.reduceGT, Nat.reduceBEq, Nat.reducePow, Nat.reduceGT, reduceCtorEq, ↓reduceIte, t1, t2, t7, t8, h1]
    rw [List.take_of_length_le (by omega)] at hz
    subst hz
    exact ⟨e, p', c', o', rfl, g⟩
  have hi : i < b.length := by omega
  have hlb := (hb.ext e).load0 (.refl _) hi (m := 1) (by decide)
  have hoz : off + i < zs.length := by omega
  obtain ⟨h5, hst, g5, hl5, hk5, hb5⟩ := g.store0 hoz b[i] rfl rfl
  have hset : zs.set (off + i) b[i] = putL l off (b.take (i + 1)) := by
    rw [hz]
    have hti2 : (b.take (i + 1)).length = i + 1 := by rw [List.length_take]; omega
    apply List.ext_getElem?
    intro j
    rw [List.getElem?_set, putL_get (by omega), putL_get (by omega), putL_len (by omega), hti, hti2, List.getElem?_take, List.getElem?_take]
    by_cases c : off + i = j
    · subst c
      rw [if_pos rfl, if_pos (by omega), if_neg (by omega), if_pos (by omega), if_pos (by omega), show off + i - off = i by omega, List.getElem?_eq_getElem hi]
    · rw [if_neg c]
      by_cases c1 : j < off
      · rw [if_pos c1, if_pos c1]
      · rw [if_neg c1, if_neg c1]
        by_cases c2 : j < off + i
        · rw [if_pos (by omega), if_pos (by omega), if_pos (by omega), if_pos (by omega)]
        · rw [if_neg (by omega), if_neg (by omega)]
  rw [hset] at g5
  have hoff : IntKind.i64.wrap ((off : Int) + (i : Int)) = ((off + i : Nat) : Int) := by rw [IntKind.wrap_i64]; omega
  have hoi : ((off + i : Nat) : Int) < (l.length : Int) := by omega
  have hn' : p' = none → l.length = 0 := fun z => by rw [← hzl]; exact g.sl.nil' z
  simp only [eb, List.take] at hlb hst
  have e5 : Ext h h5 := e.below (Nat.le_refl _) hb5
  simp -dsimp (disch := first | with_reducible assumption | omega | (intro h_; cases h_; done) | (simp only [LN] <;> omega) | (simp only [LF]; done) | (repeat (first | with_reducible assumption | apply Ext.refl | apply Ext.app | (apply Ext.set <;> omega) | (refine Ext.trans ?_ (by assumption))))) only [AX, TY, AD, mapPut, entsOf, oneV, builtinV, idsOf, mapId, touchB, Nat.reduceLT, Nat.reduceLeDiff, Nat.reduceEqDiff, Nat.reduceAdd, Nat.reduceMul, Int.reduceBEq, Int.reduceEq, Int.reduceNeg, Int.reduceLT, Int.reduceLE, Int.reduceAdd, Int.reduceSub, Int.reduceMul, Int.reduceToNat, Int.reduceGT, Nat.reduceBEq, Nat.reducePow, Nat.reduceGT, reduceCtorEq, ↓reduceIte, t1, t2, t7, t8, h1, hlb, hoff, hoi, hst, wrap_in]
  refine ⟨m - 1, by omega, i + 1, putL l off (b.take (i + 1)), ?_⟩
  repeat' (first | assumption | refine And.intro ?_ ?_)
  all_goals first | rfl | omega | (simp; done) | (simp; omega; done) | skip
theorem rcont_ok {h : Heap} {D : Dk} {p : Option (Nat × Nat)} {c : Option Nat} {q : Option (Nat × Nat)} {d : Option Nat} (r : RDk h D p c q d) :
    WR (callE Try.prog hk 59 [.agg (dkV D p c q d)] h) fun r h' => Ext h h' ∧ ∃ p' c', r = .slice p' D.dur.length c' ∧ Rs h' p' c' 1 eb (cur D) ∧ ∀ a o, p' = some (a, o) → (∃ o2, p = some (a, o2)) ∨ h.length ≤ a := by
  have hcl : (cur D).length = D.dur.length := applyAll_len r.inr
  have hnq := r.pend.nil'
  have hlq := r.pend.small
  refine WR.call (hH := rfl) Try.func59 rfl (n := 29) rfl rfl (by simp) ?_
  obtain ⟨g, hg, g0, e1, hgl⟩ : ∃ g, h ++ [O.cells (dkV D p c q d) .rw] = g ∧ g[h.length]? = some (O.cells (dkV D p c q d) .rw) ∧ Ext h g ∧ g.length = h.length + 1 := ⟨_, rfl, snoc_last _ rfl, (by (repeat (first | assumption | apply Ext.refl | apply Ext.app | (apply Ext.set <;> omega) | exact Ext.trans (by assumption) (by assumption) | (refine Ext.trans ?_ (by assumption))))), by simp⟩
  simp only [dkV] at hg g0
  simp -dsimp (disch := first | with_reducible assumption | omega | (intro h_; cases h_; done) | (simp only [LN] <;> omega) | (simp only [LF]; done) | (repeat (first | with_reducible assumption | apply Ext.refl | apply Ext.app | (apply Ext.set <;> omega) | (refine Ext.trans ?_ (by assumption))))) only [AX, TY, AD, mapPut, entsOf, oneV, builtinV, idsOf, mapId, touchB, Nat.reduceLT, Nat.reduceLeDiff, Nat.reduceEqDiff, Nat.reduceAdd, Nat.reduceMul, Int.reduceBEq, Int.reduceEq, Int.reduceNeg, Int.reduceLT, Int.reduceLE, Int.reduceAdd, Int.reduceSub, Int.reduceMul, Int.reduceToNat, Int.reduceGT, Nat.reduceBEq, Nat.reducePow, Nat.reduceGT, reduceCtorEq, ↓reduceIte, dkV, hg, loadN_fact g0]
  refine W.loop (fun m τ hh => ∃ (i : Nat) (p' : Option (Nat × Nat)) (c' : Option Nat), m + i = D.pend.length ∧ τ 1 = .ptr (some (h.length, 0)) ∧ τ 3 = .slice p' D.dur.length c' ∧ τ 4 = .int .i64 i ∧ Ext g hh ∧ Rs hh p' c' 1 eb (applyAll D.dur (D.pend.take i)) ∧ ∀ a o, p' = some (a, o) → (∃ o2, p = some (a, o2)) ∨ h.length ≤ a) ?_ (m := D.pend.length) ?_
  rotate_left
  · have hpt : ∀ a o, p = some (a, o) → (∃ o2, p = some (a, o2)) ∨ h.length ≤ a := fun a o z => .inl ⟨o, z⟩
    have hz : Rs g p c 1 eb (applyAll D.dur (D.pend.take 0)) := by rw [List.take_zero]; exact r.dur.ext e1
    have e0 := Ext.refl g
    refine ⟨0, p, c, ?_⟩
    simp -dsimp (disch := first | with_reducible assumption | omega | (intro h_; cases h_; done) | (simp only [LN] <;> omega) | (simp only [LF]; done) | (repeat (first | with_reducible assumption | apply Ext.refl | apply Ext.app | (apply Ext.set <;> omega) | (refine Ext.trans ?_ (by assumption))))) only [AX, TY, AD, mapPut, entsOf, oneV, builtinV, idsOf, mapId, touchB, Nat.reduceLT, Nat.reduceLeDiff, Nat.reduceEqDiff, Nat.reduceAdd, Nat.reduceMul, Int.reduceBEq, Int.reduceEq, Int.reduceNeg, Int.reduceLT, Int.reduceLE, Int.reduceAdd, Int.reduceSub, Int.reduceMul, Int.reduceToNat, Int.reduceGT, Nat.reduceBEq, Nat.reducePow, Nat.reduceGT, reduceCtorEq, ↓reduceIte]
    repeat' (first | assumption | refine And.intro ?_ ?_)
    all_goals first | rfl | omega | (simp; done) | (simp; omega; done) | skip
  rintro m τ hh ⟨i, p', c', hm, t1, t3, t4, e, rs, hpt⟩
  have gh := e _ _ g0
  by_cases h1 : (i : Int) < (D.pend.length : Int)
  rotate_left
  · simp -dsimp (disch := first | with_reducible assumption | omega | (intro h_; cases h_; done) | (simp only [LN] <;> omega) | (simp only [LF]; done) | (repeat (first | with_reducible assumption | apply Ext.refl | apply Ext.app | (apply Ext.set <;> omega) | (refine Ext.trans ?_ (by assumption))))) only [AX, TY, AD, mapPut, entsOf, oneV, builtinV, idsOf, mapId, touchB, Nat.reduceLT, Nat.reduceLeDiff, Nat.reduceEqDiff, Nat.reduceAdd, Nat.reduceMul, Int.reduceBEq, Int.reduceEq, Int.reduceNeg, Int.reduceLT, Int.reduceLE, Int.reduceAdd, Int.reduceSub, Int.reduceMul, Int.reduceToNat, Int.reduceGT, Nat.reduceBEq, Nat.reducePow, Nat.reduceGT, reduceCtorEq, ↓reduceIte, t1, t3, t4, h1, loadN_fact gh]
    rw [List.take_of_length_le (by omega)] at rs
    exact ⟨e1.trans e, p', c', rfl, rs, hpt⟩
  have hi : i < D.pend.length := by omega
  have hmem := List.getElem_mem hi
  have hap := applyAll_snoc (l := D.dur) hi
  have hl0 := (r.pend.ext (e1.trans e)).load0 (.refl _) hi (m := 1) (by decide)
  have hl1 := (r.pend.ext (e1.trans e)).load (.refl _) hi (o := 1) (m := 1) (by decide)
  generalize D.pend[i] = w at hmem hap hl0 hl1
  simp only [Pw.enc, List.take, List.drop] at hl0 hl1
  have hlen : (applyAll D.dur (D.pend.take i)).length = D.dur.length := applyAll_len fun x hx => r.inr x (List.mem_of_mem_take hx)
  have hpu := rput_ok (c := c') (d := w.c) rs.sl ((r.dat w hmem).ext (e1.trans e)).sl w.off (by rw [hlen]; exact r.inr w hmem) (by rw [hlen]; exact r.small)
  rw [hlen] at hpu
  simp -dsimp (disch := first | with_reducible assumption | omega | (intro h_; cases h_; done) | (simp only [LN] <;> omega) | (simp only [LF]; done) | (repeat (first | with_reducible assumption | apply Ext.refl | apply Ext.app | (apply Ext.set <;> omega) | (refine Ext.trans ?_ (by assumption))))) only [AX, TY, AD, mapPut, entsOf, oneV, builtinV, idsOf, mapId, touchB, Nat.reduceLT, Nat.reduceLeDiff, Nat.reduceEqDiff, Nat.reduceAdd, Nat.reduceMul, Int.reduceBEq, Int.reduceEq, Int.reduceNeg, Int.reduceLT, Int.reduceLE, Int.reduceAdd, Int.reduceSub, Int.reduceMul, Int.reduceToNat, Int.reduceGT, Nat.reduceBEq, Nat.reducePow, Nat.reduceGT, reduceCtorEq, ↓reduceIte, t1, t3, t4, h1, loadN_fact gh]
  refine W.drawn [(0, []), (1, [0]), (2, [0]), (3, [2, 1, 0]), (4, [0]), (5, [0]), (6, [0]), (7, [6, 5, 4, 3, 2, 1, 0]), (8, [6, 5, 4, 3, 2, 1, 0]), (9, [8, 7, 6, 5, 4, 3, 2, 1, 0]), (10, [6, 5, 4, 3, 2, 1, 0]), (11, [6, 5, 4, 3, 2, 1, 0]), (12, [6, 5, 4, 3, 2, 1, 0]), (13, []), (14, [])] (by decide +kernel) ?_
  simp -dsimp (disch := first | with_reducible assumption | omega | (intro h_; cases h_; done) | (simp only [LN] <;> omega) | (simp only [LF]; done) | (repeat (first | with_reducible assumption | apply Ext.refl | apply Ext.app | (apply Ext.set <;> omega) | (refine Ext.trans ?_ (by assumption))))) only [AX, TY, AD, mapPut, entsOf, oneV, builtinV, idsOf, mapId, touchB, Nat.reduceLT, Nat.reduceLeDiff, Nat.reduceEqDiff, Nat.reduceAdd, Nat.reduceMul, Int.reduceBEq, Int.reduceEq, Int.reduceNeg, Int.reduceLT, Int.reduceLE, Int.reduceAdd, Int.reduceSub, Int.reduceMul, Int.reduceToNat, Int.reduceGT, Nat.reduceBEq, Nat.reducePow, Nat.reduceGT, reduceCtorEq, ↓reduceIte, t1, t3, t4, loadN_fact gh, hl0, hl1]
  refine hpu.mono ?_
  rintro _ h2 ⟨e2, p2, c2, o2, rfl, g2⟩
  rw [← hap] at g2
  have rs2 := g2.rs
  have e' := e.trans e2
  have hpt2 : ∀ a o, p2 = some (a, o) → (∃ o2, p = some (a, o2)) ∨ h.length ≤ a := fun a o z => .inr (by have := g2.base a (g2.at z); have := e.le; omega)
  simp -dsimp (disch := first | with_reducible assumption | omega | (intro h_; cases h_; done) | (simp only [LN] <;> omega) | (simp only [LF]; done) | (repeat (first | with_reducible assumption | apply Ext.refl | apply Ext.app | (apply Ext.set <;> omega) | (refine Ext.trans ?_ (by assumption))))) only [AX, TY, AD, mapPut, entsOf, oneV, builtinV, idsOf, mapId, touchB, Nat.reduceLT, Nat.reduceLeDiff, Nat.reduceEqDiff, Nat.reduceAdd, Nat.reduceMul, Int.reduceBEq, Int.reduceEq, Int.reduceNeg, Int.reduceLT, Int.reduceLE, Int.reduceAdd, Int.reduceSub, Int.reduceMul, Int.reduceToNat, Int.reduceGT, Nat.reduceBEq, Nat.reducePow, Nat.reduceGT, reduceCtorEq, ↓reduceIte, t1, t3, t4, wrap_in]
  refine ⟨m - 1, by omega, i + 1, p2, c2, ?_⟩
  repeat' (first | assumption | refine And.intro ?_ ?_)
  all_goals first | rfl | omega | (simp; done) | (simp; omega; done) | skip
/-- A disk that is handed back. -/
def RDO (h' : Heap) (v : V) (D : Dk) : Prop := ∃ p c q d, v = .agg (dkV D p c q d) ∧ RDk h' D p c q d
theorem rburn_ok {h : Heap} {D : Dk} {p : Option (Nat × Nat)} {c : Option Nat} {q : Option (Nat × Nat)} {d : Option Nat} (hc : D.ctr ≤ 9223372036854775807) :
    WR (callE Try.prog hk 69 [.agg (dkV D p c q d)] h) fun r h' => Ext h h' ∧ ((D.ctr = 0 ∧ r = .tuple [.agg [.slice p D.dur.length c, .slice q D.pend.length d, .int .i64 0, .bool true], .bool false]) ∨ (D.ctr ≠ 0 ∧ r = .tuple [.agg [.slice p D.dur.length c, .slice q D.pend.length d, .int .i64 (decr D.ctr), .bool D.failed], .bool true])) := by
  refine WR.call (hH := rfl) Try.func69 rfl (n := 17) rfl rfl (by simp) ?_
  obtain ⟨g, hg, g0, g1, e1, hgl⟩ : ∃ g, h ++ [O.cells (dkV D p c q d) .rw] ++ [O.cells [V.slice none 0 (some 0), V.slice none 0 (some 0), V.int .i64 0, V.bool false] .rw] = g ∧ g[h.length]? = some (O.cells (dkV D p c q d) .rw) ∧ g[h.length + 1]? = some (O.cells [V.slice none 0 (some 0), V.slice none 0 (some 0), V.int .i64 0, V.bool false] .rw) ∧ Ext h g ∧ g.length = h.length + 2 := ⟨_, rfl, by rw [snoc_old _ (by simp)]; exact snoc_last _ rfl, snoc_last _ (by simp), (by (repeat (first | assumption | apply Ext.refl | apply Ext.app | (apply Ext.set <;> omega) | exact Ext.trans (by assumption) (by assumption) | (refine Ext.trans ?_ (by assumption))))), by simp⟩
  simp only [dkV] at hg g0
  have hl0 := lt_of_some g0
  have hl1 := lt_of_some g1
  have hne : ¬ h.length + 1 = h.length := by omega
  have hne2 : ¬ h.length = h.length + 1 := by omega
  have fin : ∀ (A B : O), Ext h ((g.set h.length A).set (h.length + 1) B) := fun A B => Ext.set (Ext.set e1 (Nat.le_refl _) _) (by omega) _
  have fin1 : ∀ (B : O), Ext h (g.set (h.length + 1) B) := fun B => Ext.set e1 (by omega) _
  by_cases c0 : D.ctr = 0
  · rw [c0] at hg g0
    have g1' : ∀ A : O, (g.set h.length A)[h.length + 1]? = _ := fun A => (set_other A hne).trans g1
    simp -dsimp (disch := first | with_reducible assumption | omega | (intro h_; cases h_; done) | (simp only [LN] <;> omega) | (simp only [LF]; done) | (repeat (first | with_reducible assumption | apply Ext.refl | apply Ext.app | (apply Ext.set <;> omega) | (refine Ext.trans ?_ (by assumption))))) only [AX, TY, AD, mapPut, entsOf, oneV, builtinV, idsOf, mapId, touchB, Nat.reduceLT, Nat.reduceLeDiff, Nat.reduceEqDiff, Nat.reduceAdd, Nat.reduceMul, Int.reduceBEq, Int.reduceEq, Int.reduceNeg, Int.reduceLT, Int.reduceLE, Int.reduceAdd, Int.reduceSub, Int.reduceMul, Int.reduceToNat, Int.reduceGT, Nat.reduceBEq, Nat.reducePow, Nat.reduceGT, reduceCtorEq, ↓reduceIte, dkV, c0, hg, loadN_fact g0, storeN_fact g0 (by simp), storeN_fact (g1' _) (by simp)]
    exact fin _ _
  by_cases c1 : 0 < D.ctr
  · have hw : IntKind.i64.wrap (D.ctr - 1) = D.ctr - 1 := by rw [IntKind.wrap_i64]; omega
    have hd : decr D.ctr = D.ctr - 1 := if_pos c1
    have g1' : ∀ A : O, (g.set h.length A)[h.length + 1]? = _ := fun A => (set_other A hne).trans g1
    rw [hd]
    simp -dsimp (disch := first | with_reducible assumption | omega | (intro h_; cases h_; done) | (simp only [LN] <;> omega) | (simp only [LF]; done) | (repeat (first | with_reducible assumption | apply Ext.refl | apply Ext.app | (apply Ext.set <;> omega) | (refine Ext.trans ?_ (by assumption))))) only [AX, TY, AD, mapPut, entsOf, oneV, builtinV, idsOf, mapId, touchB, Nat.reduceLT, Nat.reduceLeDiff, Nat.reduceEqDiff, Nat.reduceAdd, Nat.reduceMul, Int.reduceBEq, Int.reduceEq, Int.reduceNeg, Int.reduceLT, Int.reduceLE, Int.reduceAdd, Int.reduceSub, Int.reduceMul, Int.reduceToNat, Int.reduceGT, Nat.reduceBEq, Nat.reducePow, Nat.reduceGT, reduceCtorEq, ↓reduceIte, dkV, hg, loadN_fact g0, c0, c1, hw, storeN_fact g0 (by simp), storeN_fact (g1' _) (by simp)]
    exact fin _ _
  · have hd : decr D.ctr = D.ctr := if_neg c1
    rw [hd]
    simp -dsimp (disch := first | with_reducible assumption | omega | (intro h_; cases h_; done) | (simp only [LN] <;> omega) | (simp only [LF]; done) | (repeat (first | with_reducible assumption | apply Ext.refl | apply Ext.app | (apply Ext.set <;> omega) | (refine Ext.trans ?_ (by assumption))))) only [AX, TY, AD, mapPut, entsOf, oneV, builtinV, idsOf, mapId, touchB, Nat.reduceLT, Nat.reduceLeDiff, Nat.reduceEqDiff, Nat.reduceAdd, Nat.reduceMul, Int.reduceBEq, Int.reduceEq, Int.reduceNeg, Int.reduceLT, Int.reduceLE, Int.reduceAdd, Int.reduceSub, Int.reduceMul, Int.reduceToNat, Int.reduceGT, Nat.reduceBEq, Nat.reducePow, Nat.reduceGT, reduceCtorEq, ↓reduceIte, dkV, hg, loadN_fact g0, c0, c1, storeN_fact g1 (by simp)]
    exact fin1 _
theorem rPut_ok {h : Heap} {D : Dk} {p : Option (Nat × Nat)} {c : Option Nat} {q : Option (Nat × Nat)} {d : Option Nat} (r : RDk h D p c q d) {off : Nat} {pb : Option (Nat × Nat)} {cb : Option Nat} {data : List Int} (hb : Sl h pb 1 eb data) (hin : off + data.length ≤ D.dur.length) (hfew : D.pend.length < 99999) (hc : D.ctr ≤ 9223372036854775807) :
    WR (callE Try.prog hk 48 [.agg (dkV D p c q d), .int .i64 off, .slice pb data.length cb] h) fun r h' => Ext h h' ∧ ∃ D' e v, r = .tuple [v, .int .i64 e] ∧ (∃ p' c' q' d', v = .agg (dkV D' p' c' q' d') ∧ RDk h' D' p' c' q' d' ∧ ∀ P, DkPtr D p q P → DkPtr D' p' q' (fun a => P a ∨ h.length ≤ a)) ∧ WrO D off data D' e := by
  have hnb := hb.nil'
  have hlb := hb.small
  have hlq := r.pend.small
  have sm := r.small
  refine WR.call (hH := rfl) Try.func48 rfl (n := 40) rfl rfl (by simp) ?_
  obtain ⟨g, hg, g0, g1, e1, hgl⟩ : ∃ g, h ++ [O.cells (dkV D p c q d) .rw] ++ [O.cells [V.slice none 0 (some 0), V.slice none 0 (some 0), V.int .i64 0, V.bool false] .rw] = g ∧ g[h.length]? = some (O.cells (dkV D p c q d) .rw) ∧ g[h.length + 1]? = some (O.cells [V.slice none 0 (some 0), V.slice none 0 (some 0), V.int .i64 0, V.bool false] .rw) ∧ Ext h g ∧ g.length = h.length + 2 := ⟨_, rfl, by rw [snoc_old _ (by simp)]; exact snoc_last _ rfl, snoc_last _ (by simp), (by (repeat (first | assumption | apply Ext.refl | apply Ext.app | (apply Ext.set <;> omega) | exact Ext.trans (by assumption) (by assumption) | (refine Ext.trans ?_ (by assumption))))), by simp⟩
  simp only [dkV] at hg g0
  have hl0 := lt_of_some g0
  have hl1 := lt_of_some g1
  have hne : ¬ h.length + 1 = h.length := by omega
  by_cases hf : D.failed = true
  · rw [hf] at hg g0
    have e2 : Ext h (g.set (h.length + 1) (O.cells [V.slice p D.dur.length c, V.slice q D.pend.length d, V.int .i64 D.ctr, V.bool true] .rw)) := Ext.set e1 (by omega) _
    simp -dsimp (disch := first | with_reducible assumption | omega | (intro h_; cases h_; done) | (simp only [LN] <;> omega) | (simp only [LF]; done) | (repeat (first | with_reducible assumption | apply Ext.refl | apply Ext.app | (apply Ext.set <;> omega) | (refine Ext.trans ?_ (by assumption))))) only [AX, TY, AD, mapPut, entsOf, oneV, builtinV, idsOf, mapId, touchB, Nat.reduceLT, Nat.reduceLeDiff, Nat.reduceEqDiff, Nat.reduceAdd, Nat.reduceMul, Int.reduceBEq, Int.reduceEq, Int.reduceNeg, Int.reduceLT, Int.reduceLE, Int.reduceAdd, Int.reduceSub, Int.reduceMul, Int.reduceToNat, Int.reduceGT, Nat.reduceBEq, Nat.reducePow, Nat.reduceGT, reduceCtorEq, ↓reduceIte, dkV, hf, hg, loadN_fact g0, storeN_fact g1 (by simp)]
    exact ⟨e2, D, 11, _, rfl, ⟨p, c, q, d, by simp only [dkV, hf], r.ext e2, fun P pt => ⟨fun a o z => .inl (pt.1 a o z), fun a o z => .inl (pt.2.1 a o z), fun w hw a o z => .inl (pt.2.2 w hw a o z)⟩⟩, .dead hf⟩
  have hf' : D.failed = false := by simpa using hf
  have hins := rinside_ok (r.ext e1) off data.length hin
  simp only [dkV, hf'] at hins
  rw [hf'] at hg g0
  simp -dsimp (disch := first | with_reducible assumption | omega | (intro h_; cases h_; done) | (simp only [LN] <;> omega) | (simp only [LF]; done) | (repeat (first | with_reducible assumption | apply Ext.refl | apply Ext.app | (apply Ext.set <;> omega) | (refine Ext.trans ?_ (by assumption))))) only [AX, TY, AD, mapPut, entsOf, oneV, builtinV, idsOf, mapId, touchB, Nat.reduceLT, Nat.reduceLeDiff, Nat.reduceEqDiff, Nat.reduceAdd, Nat.reduceMul, Int.reduceBEq, Int.reduceEq, Int.reduceNeg, Int.reduceLT, Int.reduceLE, Int.reduceAdd, Int.reduceSub, Int.reduceMul, Int.reduceToNat, Int.reduceGT, Nat.reduceBEq, Nat.reducePow, Nat.reduceGT, reduceCtorEq, ↓reduceIte, dkV, hf', hg, loadN_fact g0]
  refine hins.mono ?_
  rintro _ h2 ⟨e2, rfl⟩
  have g02 := e2 _ _ g0
  have g12 := e2 _ _ g1
  have hbu := rburn_ok (h := h2) (D := D) (p := p) (c := c) (q := q) (d := d) hc
  simp only [dkV, hf'] at hbu
  simp -dsimp (disch := first | with_reducible assumption | omega | (intro h_; cases h_; done) | (simp only [LN] <;> omega) | (simp only [LF]; done) | (repeat (first | with_reducible assumption | apply Ext.refl | apply Ext.app | (apply Ext.set <;> omega) | (refine Ext.trans ?_ (by assumption))))) only [AX, TY, AD, mapPut, entsOf, oneV, builtinV, idsOf, mapId, touchB, Nat.reduceLT, Nat.reduceLeDiff, Nat.reduceEqDiff, Nat.reduceAdd, Nat.reduceMul, Int.reduceBEq, Int.reduceEq, Int.reduceNeg, Int.reduceLT, Int.reduceLE, Int.reduceAdd, Int.reduceSub, Int.reduceMul, Int.reduceToNat, Int.reduceGT, Nat.reduceBEq, Nat.reducePow, Nat.reduceGT, reduceCtorEq, ↓reduceIte, loadN_fact g02]
  refine hbu.mono ?_
  rintro _ h3 ⟨e3, ⟨hz, rfl⟩ | ⟨hz, rfl⟩⟩
  · have g03 := e3 _ _ g02
    have g13 := e3 _ _ g12
    have hl03 := lt_of_some g03
    have hl13 := lt_of_some g13
    have g1' : ∀ A : O, (h3.set h.length A)[h.length + 1]? = _ := fun A => (set_other A hne).trans g13
    have ex : ∀ A B : O, Ext h ((h3.set h.length A).set (h.length + 1) B) := fun A B => Ext.set (Ext.set ((e1.trans e2).trans e3) (Nat.le_refl _) _) (by omega) _
    simp -dsimp (disch := first | with_reducible assumption | omega | (intro h_; cases h_; done) | (simp only [LN] <;> omega) | (simp only [LF]; done) | (repeat (first | with_reducible assumption | apply Ext.refl | apply Ext.app | (apply Ext.set <;> omega) | (refine Ext.trans ?_ (by assumption))))) only [AX, TY, AD, mapPut, entsOf, oneV, builtinV, idsOf, mapId, touchB, Nat.reduceLT, Nat.reduceLeDiff, Nat.reduceEqDiff, Nat.reduceAdd, Nat.reduceMul, Int.reduceBEq, Int.reduceEq, Int.reduceNeg, Int.reduceLT, Int.reduceLE, Int.reduceAdd, Int.reduceSub, Int.reduceMul, Int.reduceToNat, Int.reduceGT, Nat.reduceBEq, Nat.reducePow, Nat.reduceGT, reduceCtorEq, ↓reduceIte, storeN_fact g03 (by simp), storeN_fact (g1' _) (by simp)]
    exact ⟨ex _ _, ⟨D.dur, D.pend, 0, true⟩, 11, _, rfl, ⟨p, c, q, d, rfl, (r.ext (ex _ _)).flag 0 true, fun P pt => ⟨fun a o z => .inl (pt.1 a o z), fun a o z => .inl (pt.2.1 a o z), fun w hw a o z => .inl (pt.2.2 w hw a o z)⟩⟩, .out hf' hz⟩
  · have g03 := e3 _ _ g02
    have g13 := e3 _ _ g12
    have hl03 := lt_of_some g03
    have hl13 := lt_of_some g13
    have ea : Ext h h3 := (e1.trans e2).trans e3
    have ra := r.ext ea
    generalize hA : h3.set h.length (O.cells [V.slice p D.dur.length c, V.slice q D.pend.length d, V.int .i64 (decr D.ctr), V.bool D.failed] .rw) = h4
    have g04 : h4[h.length]? = some (O.cells [V.slice p D.dur.length c, V.slice q D.pend.length d, V.int .i64 (decr D.ctr), V.bool D.failed] .rw) := by rw [← hA]; exact set_same _ hl03
    have g14 : h4[h.length + 1]? = some (O.cells [V.slice none 0 (some 0), V.slice none 0 (some 0), V.int .i64 0, V.bool false] .rw) := by rw [← hA]; exact (set_other _ hne).trans g13
    have e4 : Ext h h4 := by rw [← hA]; exact Ext.set ea (Nat.le_refl _) _
    have l4 : h4.length = h3.length := by rw [← hA, List.length_set]
    have r4 := r.ext e4
    obtain ⟨p5, c5, o5, h5, hap5, gr5, ho5, hle5, hk5⟩ := clone_app (bytes := 32) (b := h4.length) (c := d) (r4.pend.ext (hh := h4 ++ [O.cells [] .rw]) (by (repeat (first | assumption | apply Ext.refl | apply Ext.app | (apply Ext.set <;> omega) | exact Ext.trans (by assumption) (by assumption) | (refine Ext.trans ?_ (by assumption)))))) (q := h4.length) (snoc_last _ rfl) (Nat.le_refl _) (fun y _ => rfl) (by omega)
    have e45 : Ext h4 h5 := Ext.of_keep fun i hi => by rw [hk5 i (by omega) (by simp; omega), snoc_old _ hi]
    obtain ⟨p6, c6, o6, h6, hap6, gr6, ho6, hle6, hk6⟩ := clone_app (bytes := 1) (b := h5.length) (c := cb) ((hb.ext (e4.trans e45)).ext (hh := h5 ++ [O.cells [] .rw]) (by (repeat (first | assumption | apply Ext.refl | apply Ext.app | (apply Ext.set <;> omega) | exact Ext.trans (by assumption) (by assumption) | (refine Ext.trans ?_ (by assumption)))))) (q := h5.length) (snoc_last _ rfl) (Nat.le_refl _) (fun y _ => rfl) (by omega)
    have e56 : Ext h5 h6 := Ext.of_keep fun i hi => by rw [hk6 i (by omega) (by simp; omega), snoc_old _ hi]
    obtain ⟨p7, c7, o7, h7, hap7, gr7, ho7, hl7, hk7, hb7⟩ := ((gr5.ext e56).ext (hh := h6 ++ [O.cells (Pw.enc ⟨off, p6, c6, data⟩) Kd.rw]) (by (repeat (first | assumption | apply Ext.refl | apply Ext.app | (apply Ext.set <;> omega) | exact Ext.trans (by assumption) (by assumption) | (refine Ext.trans ?_ (by assumption)))))).push (y := ⟨off, p6, c6, data⟩) (bytes := 32) (vc := some 1) (by have := e45.le; have := e56.le; simp; omega) (snoc_last _ rfl) rfl rfl (by omega) (by omega)
    simp only [Pw.enc] at hap7
    have hg4l : h.length < h4.length := by omega
    have e67 : ∀ i, i < h4.length → h7[i]? = h4[i]? := fun i hi => by
      have := e45.le
      have := e56.le
      rw [hb7 i hi, snoc_old _ (by omega), e56.same (by omega), e45.same hi]
    have g07 := (e67 _ hg4l).trans g04
    have g17 := (e67 (h.length + 1) (by omega)).trans g14
    have e7 : Ext h h7 := e4.below (by omega) e67
    have hl07 := lt_of_some g07
    have hl17 := lt_of_some g17
    have g1' : ∀ A : O, (h7.set h.length A)[h.length + 1]? = _ := fun A => (set_other A hne).trans g17
    have ex : ∀ A B : O, Ext h ((h7.set h.length A).set (h.length + 1) B) := fun A B => Ext.set (Ext.set e7 (Nat.le_refl _) _) (by omega) _
    have hfar : ∀ (A B : O) (i : Nat), h4.length ≤ i → ((h7.set h.length A).set (h.length + 1) B)[i]? = h7[i]? := fun A B i hi => by rw [set_other _ (by omega), set_other _ (by omega)]
    simp -dsimp (disch := first | with_reducible assumption | omega | (intro h_; cases h_; done) | (simp only [LN] <;> omega) | (simp only [LF]; done) | (repeat (first | with_reducible assumption | apply Ext.refl | apply Ext.app | (apply Ext.set <;> omega) | (refine Ext.trans ?_ (by assumption))))) only [AX, TY, AD, mapPut, entsOf, oneV, builtinV, idsOf, mapId, touchB, Nat.reduceLT, Nat.reduceLeDiff, Nat.reduceEqDiff, Nat.reduceAdd, Nat.reduceMul, Int.reduceBEq, Int.reduceEq, Int.reduceNeg, Int.reduceLT, Int.reduceLE, Int.reduceAdd, Int.reduceSub, Int.reduceMul, Int.reduceToNat, Int.reduceGT, Nat.reduceBEq, Nat.reducePow, Nat.reduceGT, reduceCtorEq, ↓reduceIte, hA, storeN_fact g03 (by simp), loadN_fact g04, hap5, hap6, hap7, storeN_fact g07 (by simp), storeN_fact (g1' _) (by simp)]
    refine ⟨ex _ _, ⟨D.dur, D.pend ++ [⟨off, p6, c6, data⟩], decr D.ctr, false⟩, 0, _, rfl, ⟨p, c, p7, c7, by rw [hf']; simp only [dkV, List.length_append, List.length_cons, List.length_nil], ⟨r.dur.ext (ex _ _), ?_, fun w hw => ?_, r.small, by simp only [List.length_append, List.length_cons, List.length_nil]; omega, fun w hw => ?_⟩, fun P pt => ⟨fun a o z => .inl (pt.1 a o z), fun a o z => .inr (by have := gr7.base a (gr7.at z); omega), fun w hw a o z => ?_⟩⟩, .ok hf' hz rfl rfl⟩
    · exact (gr7.keep fun i hi => hfar _ _ i (gr7.base i hi)).sl
    · rcases List.mem_append.1 hw with hw | hw
      · exact (r.dat w hw).ext (ex _ _)
      · rw [List.mem_singleton] at hw
        subst hw
        refine (gr6.ext (hh := h6 ++ [O.cells (Pw.enc ⟨off, p6, c6, data⟩) .rw]) (by (repeat (first | assumption | apply Ext.refl | apply Ext.app | (apply Ext.set <;> omega) | exact Ext.trans (by assumption) (by assumption) | (refine Ext.trans ?_ (by assumption)))))).rs.keep fun a o z => ?_
        have hb6 := gr6.base a (gr6.at z)
        have hlt6 := gr6.lt (gr6.at z)
        have := e45.le
        rw [hfar _ _ a (by omega)]
        refine hk7 a (fun q => ?_) (by simp; omega)
        have := gr5.lt q
        omega
    · rcases List.mem_append.1 hw with hw | hw
      · exact r.inr w hw
      · rw [List.mem_singleton] at hw
        subst hw; exact hin
    · rcases List.mem_append.1 hw with hw | hw
      · exact .inl (pt.2.2 w hw a o z)
      · rw [List.mem_singleton] at hw
        subst hw
        have := gr6.base a (gr6.at z)
        have := e45.le
        exact .inr (by omega)
theorem rRead_ok {h : Heap} {D : Dk} {p : Option (Nat × Nat)} {c : Option Nat} {q : Option (Nat × Nat)} {d : Option Nat} (r : RDk h D p c q d) (at' n : Nat) (hin : at' + n ≤ D.dur.length) :
    WR (callE Try.prog hk 32 [.agg (dkV D p c q d), .int .i64 at', .int .i64 n] h) fun r h' => Ext h h' ∧ ((D.failed = true ∧ r = .tuple [.slice none 0 (some 0), .int .i64 11]) ∨ (D.failed = false ∧ ∃ p' c', r = .tuple [.slice p' n c', .int .i64 0] ∧ Sl h' p' 1 eb (((cur D).drop at').take n) ∧ ∀ a o, p' = some (a, o) → (∃ o2, p = some (a, o2)) ∨ h.length ≤ a)) := by
  have hcl : (cur D).length = D.dur.length := applyAll_len r.inr
  have sm := r.small
  refine WR.call (hH := rfl) Try.func32 rfl (n := 22) rfl rfl (by simp) ?_
  obtain ⟨g, hg, g0, e1, hgl⟩ : ∃ g, h ++ [O.cells (dkV D p c q d) .rw] = g ∧ g[h.length]? = some (O.cells (dkV D p c q d) .rw) ∧ Ext h g ∧ g.length = h.length + 1 := ⟨_, rfl, snoc_last _ rfl, (by (repeat (first | assumption | apply Ext.refl | apply Ext.app | (apply Ext.set <;> omega) | exact Ext.trans (by assumption) (by assumption) | (refine Ext.trans ?_ (by assumption))))), by simp⟩
  simp only [dkV] at hg g0
  by_cases hf : D.failed = true
  · rw [hf] at hg g0
    simp -dsimp (disch := first | with_reducible assumption | omega | (intro h_; cases h_; done) | (simp only [LN] <;> omega) | (simp only [LF]; done) | (repeat (first | with_reducible assumption | apply Ext.refl | apply Ext.app | (apply Ext.set <;> omega) | (refine Ext.trans ?_ (by assumption))))) only [AX, TY, AD, mapPut, entsOf, oneV, builtinV, idsOf, mapId, touchB, Nat.reduceLT, Nat.reduceLeDiff, Nat.reduceEqDiff, Nat.reduceAdd, Nat.reduceMul, Int.reduceBEq, Int.reduceEq, Int.reduceNeg, Int.reduceLT, Int.reduceLE, Int.reduceAdd, Int.reduceSub, Int.reduceMul, Int.reduceToNat, Int.reduceGT, Nat.reduceBEq, Nat.reducePow, Nat.reduceGT, reduceCtorEq, ↓reduceIte, dkV, hf, hg, loadN_fact g0]
    exact e1
  have hf' : D.failed = false := by simpa using hf
  have hins := rinside_ok (r.ext e1) at' n hin
  simp only [dkV, hf'] at hins
  rw [hf'] at hg g0
  simp -dsimp (disch := first | with_reducible assumption | omega | (intro h_; cases h_; done) | (simp only [LN] <;> omega) | (simp only [LF]; done) | (repeat (first | with_reducible assumption | apply Ext.refl | apply Ext.app | (apply Ext.set <;> omega) | (refine Ext.trans ?_ (by assumption))))) only [AX, TY, AD, mapPut, entsOf, oneV, builtinV, idsOf, mapId, touchB, Nat.reduceLT, Nat.reduceLeDiff, Nat.reduceEqDiff, Nat.reduceAdd, Nat.reduceMul, Int.reduceBEq, Int.reduceEq, Int.reduceNeg, Int.reduceLT, Int.reduceLE, Int.reduceAdd, Int.reduceSub, Int.reduceMul, Int.reduceToNat, Int.reduceGT, Nat.reduceBEq, Nat.reducePow, Nat.reduceGT, reduceCtorEq, ↓reduceIte, dkV, hf', hg, loadN_fact g0]
  refine hins.mono ?_
  rintro _ h2 ⟨e2, rfl⟩
  have g02 := e2 _ _ g0
  have hco := rcont_ok ((r.ext e1).ext e2)
  simp only [dkV, hf'] at hco
  simp -dsimp (disch := first | with_reducible assumption | omega | (intro h_; cases h_; done) | (simp only [LN] <;> omega) | (simp only [LF]; done) | (repeat (first | with_reducible assumption | apply Ext.refl | apply Ext.app | (apply Ext.set <;> omega) | (refine Ext.trans ?_ (by assumption))))) only [AX, TY, AD, mapPut, entsOf, oneV, builtinV, idsOf, mapId, touchB, Nat.reduceLT, Nat.reduceLeDiff, Nat.reduceEqDiff, Nat.reduceAdd, Nat.reduceMul, Int.reduceBEq, Int.reduceEq, Int.reduceNeg, Int.reduceLT, Int.reduceLE, Int.reduceAdd, Int.reduceSub, Int.reduceMul, Int.reduceToNat, Int.reduceGT, Nat.reduceBEq, Nat.reducePow, Nat.reduceGT, reduceCtorEq, ↓reduceIte, loadN_fact g02]
  refine hco.mono ?_
  rintro _ h3 ⟨e3, p', c', rfl, rs, hpt⟩
  obtain ⟨p2, c2, hcut, rs2, hp2⟩ := rs.cut2 (a := at') (b := at' + n) (by omega) (by rw [hcl]; exact hin)
  rw [hcl] at hcut
  have hcut' := fun k k' => hcut h3 k k' (.refl _)
  rw [show at' + n - at' = n by omega] at hcut'
  have hw1 : IntKind.i64.wrap ((at' : Int) + (n : Int)) = ((at' + n : Nat) : Int) := by rw [IntKind.wrap_i64]; omega
  have heq : ((cur D).take (at' + n)).drop at' = ((cur D).drop at').take n := by rw [List.drop_take, show at' + n - at' = n by omega]
  rw [heq] at rs2
  simp -dsimp (disch := first | with_reducible assumption | omega | (intro h_; cases h_; done) | (simp only [LN] <;> omega) | (simp only [LF]; done) | (repeat (first | with_reducible assumption | apply Ext.refl | apply Ext.app | (apply Ext.set <;> omega) | (refine Ext.trans ?_ (by assumption))))) only [AX, TY, AD, mapPut, entsOf, oneV, builtinV, idsOf, mapId, touchB, Nat.reduceLT, Nat.reduceLeDiff, Nat.reduceEqDiff, Nat.reduceAdd, Nat.reduceMul, Int.reduceBEq, Int.reduceEq, Int.reduceNeg, Int.reduceLT, Int.reduceLE, Int.reduceAdd, Int.reduceSub, Int.reduceMul, Int.reduceToNat, Int.reduceGT, Nat.reduceBEq, Nat.reducePow, Nat.reduceGT, reduceCtorEq, ↓reduceIte, hw1, hcut']
  refine ⟨(e1.trans e2).trans e3, .inr ⟨hf', p2, c2, rfl, rs2.sl, fun a o z => ?_⟩⟩
  obtain ⟨o2, z2⟩ := hp2 a o z
  rcases hpt a o2 z2 with w | w
  · exact .inl w
  · have := (e1.trans e2).le
    exact .inr (by omega)
end Go.Proofs.YtmjfhckioaempaaA
namespace Go.Proofs.YtmjfhckioaempaaA
open Go Go.Proofs Go.RowKit
set_option linter.unusedVariables false
set_option linter.unusedSimpArgs false
set_option maxRecDepth 10000
set_option maxHeartbeats 4000000
theorem rFail_ok {h : Heap} {D : Dk} {p : Option (Nat × Nat)} {c : Option Nat} {q : Option (Nat × Nat)} {d : Option Nat} (r : RDk h D p c q d) (n : Int) :
    WR (callE Try.prog hk 55 [.agg (dkV D p c q d), .int .i64 n] h) fun r h' => Ext h h' ∧ r = .agg (dkV ⟨D.dur, D.pend, max n (-1), D.failed⟩ p c q d) := by
  refine WR.call (hH := rfl) Try.func55 rfl (n := 9) rfl rfl (by simp) ?_
  obtain ⟨g, hg, g0, g1, e1, hgl⟩ : ∃ g, h ++ [O.cells (dkV D p c q d) .rw] ++ [O.cells [V.slice none 0 (some 0), V.slice none 0 (some 0), V.int .i64 0, V.bool false] .rw] = g ∧ g[h.length]? = some (O.cells (dkV D p c q d) .rw) ∧ g[h.length + 1]? = some (O.cells [V.slice none 0 (some 0), V.slice none 0 (some 0), V.int .i64 0, V.bool false] .rw) ∧ Ext h g ∧ g.length = h.length + 2 := ⟨_, rfl, by rw [snoc_old _ (by simp)]; exact snoc_last _ rfl, snoc_last _ (by simp), (by (repeat (first | assumption | apply Ext.refl | apply Ext.app | (apply Ext.set <;> omega) | exact Ext.trans (by assumption) (by assumption) | (refine Ext.trans ?_ (by assumption))))), by simp⟩
  simp only [dkV] at hg g0
  have hl0 := lt_of_some g0
  have hl1 := lt_of_some g1
  have hne : ¬ h.length + 1 = h.length := by omega
  have g1' : ∀ A : O, (g.set h.length A)[h.length + 1]? = _ := fun A => (set_other A hne).trans g1
  have ex : ∀ A B : O, Ext h ((g.set h.length A).set (h.length + 1) B) := fun A B => Ext.set (Ext.set e1 (Nat.le_refl _) _) (by omega) _
  simp -dsimp (disch := first | with_reducible assumption | omega | (intro h_; cases h_; done) | (simp only [LN] <;> omega) | (simp only [LF]; done) | (repeat (first | with_reducible assumption | apply Ext.refl | apply Ext.app | (apply Ext.set <;> omega) | (refine Ext.trans ?_ (by assumption))))) only [AX, TY, AD, mapPut, entsOf, oneV, builtinV, idsOf, mapId, touchB, Nat.reduceLT, Nat.reduceLeDiff, Nat.reduceEqDiff, Nat.reduceAdd, Nat.reduceMul, Int.reduceBEq, Int.reduceEq, Int.reduceNeg, Int.reduceLT, Int.reduceLE, Int.reduceAdd, Int.reduceSub, Int.reduceMul, Int.reduceToNat, Int.reduceGT, Nat.reduceBEq, Nat.reducePow, Nat.reduceGT, reduceCtorEq, ↓reduceIte, dkV, hg, loadN_fact g0, fold_max, storeN_fact g0 (by simp), storeN_fact (g1' _) (by simp)]
  exact ex _ _
theorem rCrash_ok {h : Heap} {D : Dk} {p : Option (Nat × Nat)} {c : Option Nat} {q : Option (Nat × Nat)} {d : Option Nat} (r : RDk h D p c q d) {qs : Option (Nat × Nat)} {qc : Option Nat} {k : Nat} (hs : Sl h qs 1 ei (List.replicate k 1024)) (hpk : D.pend.length ≤ k) (hsm : ∀ w ∈ D.pend, w.data.length ≤ 1024) {P : Nat → Prop} (bp : DkPtr D p q P) :
    WR (callE Try.prog hk 33 [.agg (dkV D p c q d), .slice qs k qc] h) fun r h' => Ext h h' ∧ ∃ p' c', r = .agg (dkV ⟨cur D, [], -1, false⟩ p' c' none (some 0)) ∧ RDk h' ⟨cur D, [], -1, false⟩ p' c' none (some 0) ∧ ∀ a o, p' = some (a, o) → P a ∨ h.length ≤ a := by
  have hnq := r.pend.nil'
  have hlq := r.pend.small
  have hns := hs.nil'
  have hls := hs.small
  rw [List.length_replicate] at hns hls
  have sm := r.small
  refine WR.call (hH := rfl) Try.func33 rfl (n := 53) rfl rfl (by simp) ?_
  obtain ⟨g, hg, g0, g1, e1, hgl⟩ : ∃ g, h ++ [O.cells (dkV D p c q d) .rw] ++ [O.cells [V.slice none 0 (some 0), V.slice none 0 (some 0), V.int .i64 0, V.bool false] .rw] = g ∧ g[h.length]? = some (O.cells (dkV D p c q d) .rw) ∧ g[h.length + 1]? = some (O.cells [V.slice none 0 (some 0), V.slice none 0 (some 0), V.int .i64 0, V.bool false] .rw) ∧ Ext h g ∧ g.length = h.length + 2 := ⟨_, rfl, by rw [snoc_old _ (by simp)]; exact snoc_last _ rfl, snoc_last _ (by simp), (by (repeat (first | assumption | apply Ext.refl | apply Ext.app | (apply Ext.set <;> omega) | exact Ext.trans (by assumption) (by assumption) | (refine Ext.trans ?_ (by assumption))))), by simp⟩
  simp only [dkV] at hg g0
  have hl0 := lt_of_some g0
  have hl1 := lt_of_some g1
  have hne : ¬ h.length + 1 = h.length := by omega
  simp -dsimp (disch := first | with_reducible assumption | omega | (intro h_; cases h_; done) | (simp only [LN] <;> omega) | (simp only [LF]; done) | (repeat (first | with_reducible assumption | apply Ext.refl | apply Ext.app | (apply Ext.set <;> omega) | (refine Ext.trans ?_ (by assumption))))) only [AX, TY, AD, mapPut, entsOf, oneV, builtinV, idsOf, mapId, touchB, Nat.reduceLT, Nat.reduceLeDiff, Nat.reduceEqDiff, Nat.reduceAdd, Nat.reduceMul, Int.reduceBEq, Int.reduceEq, Int.reduceNeg, Int.reduceLT, Int.reduceLE, Int.reduceAdd, Int.reduceSub, Int.reduceMul, Int.reduceToNat, Int.reduceGT, Nat.reduceBEq, Nat.reducePow, Nat.reduceGT, reduceCtorEq, ↓reduceIte, dkV, hg]
  refine W.loop (fun m τ hh => ∃ (i : Nat) (p' : Option (Nat × Nat)) (c' : Option Nat), m + i = D.pend.length ∧ τ 1 = .slice qs k qc ∧ τ 2 = .ptr (some (h.length, 0)) ∧ τ 4 = .ptr (some (h.length + 1, 0)) ∧ τ 5 = .int .i64 i ∧ Ext h hh ∧ hh[h.length]? = some (.cells [.slice p' D.dur.length c', .slice q D.pend.length d, .int .i64 D.ctr, .bool D.failed] .rw) ∧ hh[h.length + 1]? = some (O.cells [V.slice none 0 (some 0), V.slice none 0 (some 0), V.int .i64 0, V.bool false] .rw) ∧ Rs hh p' c' 1 eb (applyAll D.dur (D.pend.take i)) ∧ ∀ a o, p' = some (a, o) → a ≠ h.length ∧ a ≠ h.length + 1 ∧ (P a ∨ h.length ≤ a)) ?_ (m := D.pend.length) ?_
  rotate_left
  · have hz : Rs g p c 1 eb (applyAll D.dur (D.pend.take 0)) := by rw [List.take_zero]; exact r.dur.ext e1
    have hpp : ∀ a o, p = some (a, o) → a ≠ h.length ∧ a ≠ h.length + 1 ∧ (P a ∨ h.length ≤ a) := fun a o z => by have := Sl.lt r.dur.sl z; exact ⟨by omega, by omega, .inl (bp.1 a o z)⟩
    refine ⟨0, p, c, ?_⟩
    simp -dsimp (disch := first | with_reducible assumption | omega | (intro h_; cases h_; done) | (simp only [LN] <;> omega) | (simp only [LF]; done) | (repeat (first | with_reducible assumption | apply Ext.refl | apply Ext.app | (apply Ext.set <;> omega) | (refine Ext.trans ?_ (by assumption))))) only [AX, TY, AD, mapPut, entsOf, oneV, builtinV, idsOf, mapId, touchB, Nat.reduceLT, Nat.reduceLeDiff, Nat.reduceEqDiff, Nat.reduceAdd, Nat.reduceMul, Int.reduceBEq, Int.reduceEq, Int.reduceNeg, Int.reduceLT, Int.reduceLE, Int.reduceAdd, Int.reduceSub, Int.reduceMul, Int.reduceToNat, Int.reduceGT, Nat.reduceBEq, Nat.reducePow, Nat.reduceGT, reduceCtorEq, ↓reduceIte]
    repeat' (first | assumption | refine And.intro ?_ ?_)
    all_goals first | rfl | omega | (simp; done) | (simp; omega; done) | skip
  rintro m τ hh ⟨i, p', c', hm, t1, t2, t4, t5, e, gb, gb1, rs, hpp⟩
  have hlb := lt_of_some gb
  have hlb1 := lt_of_some gb1
  by_cases h1 : (i : Int) < (D.pend.length : Int)
  rotate_left
  · have hti : D.pend.take i = D.pend := List.take_of_length_le (by omega)
    rw [hti] at rs
    have gb1' : ∀ A : O, (hh.set h.length A)[h.length + 1]? = _ := fun A => (set_other A hne).trans gb1
    have ex : ∀ A B : O, Ext h ((hh.set h.length A).set (h.length + 1) B) := fun A B => Ext.set (Ext.set e (Nat.le_refl _) _) (by omega) _
    simp -dsimp (disch := first | with_reducible assumption | omega | (intro h_; cases h_; done) | (simp only [LN] <;> omega) | (simp only [LF]; done) | (repeat (first | with_reducible assumption | apply Ext.refl | apply Ext.app | (apply Ext.set <;> omega) | (refine Ext.trans ?_ (by assumption))))) only [AX, TY, AD, mapPut, entsOf, oneV, builtinV, idsOf, mapId, touchB, Nat.reduceLT, Nat.reduceLeDiff, Nat.reduceEqDiff, Nat.reduceAdd, Nat.reduceMul, Int.reduceBEq, Int.reduceEq, Int.reduceNeg, Int.reduceLT, Int.reduceLE, Int.reduceAdd, Int.reduceSub, Int.reduceMul, Int.reduceToNat, Int.reduceGT, Nat.reduceBEq, Nat.reducePow, Nat.reduceGT, reduceCtorEq, ↓reduceIte, t1, t2, t4, t5, h1, loadN_fact gb, storeN_fact gb (by simp), storeN_fact (gb1' _) (by simp)]
    have hcl : (cur D).length = D.dur.length := applyAll_len r.inr
    refine ⟨ex _ _, p', c', by rw [dkV, hcl]; rfl, ⟨rs.keep fun a o z => ?_, .nil0 _ _ _, by simp, by rw [hcl]; exact sm, by simp, by simp⟩, fun a o z => (hpp a o z).2.2⟩
    obtain ⟨z1, z2, _⟩ := hpp a o z
    rw [set_other _ z2, set_other _ z1]
  have hi : i < D.pend.length := by omega
  have hmem := List.getElem_mem hi
  have hap := applyAll_snoc (l := D.dur) hi
  have hl0 := (r.pend.ext e).load0 (.refl _) hi (m := 1) (by decide)
  have hl1 := (r.pend.ext e).load (.refl _) hi (o := 1) (m := 1) (by decide)
  generalize D.pend[i] = w at hmem hap hl0 hl1
  simp only [Pw.enc, List.take, List.drop] at hl0 hl1
  have hik : i < (List.replicate k (1024 : Int)).length := by rw [List.length_replicate]; omega
  have hlr := (hs.ext e).load0 (.refl _) hik (m := 1) (by decide)
  rw [List.getElem_replicate] at hlr
  simp only [ei, List.take] at hlr
  have hik' : (i : Int) < (k : Int) := by omega
  have hw := hsm w hmem
  have hmin : min (1024 : Int) (w.data.length : Int) = (w.data.length : Int) := by omega
  have hmax : max 0 (w.data.length : Int) = (w.data.length : Int) := by omega
  have hlen : (applyAll D.dur (D.pend.take i)).length = D.dur.length := applyAll_len fun x hx => r.inr x (List.mem_of_mem_take hx)
  have rw' := (r.dat w hmem).ext e
  have hhi := (rw'.hi (Nat.le_refl _)).1
  have hhi' := fun k => hhi hh k (.refl _)
  have hpu := rput_ok (c := c') (d := w.c) rs.sl rw'.sl w.off (by rw [hlen]; exact r.inr w hmem) (by rw [hlen]; exact sm)
  rw [hlen] at hpu
  simp -dsimp (disch := first | with_reducible assumption | omega | (intro h_; cases h_; done) | (simp only [LN] <;> omega) | (simp only [LF]; done) | (repeat (first | with_reducible assumption | apply Ext.refl | apply Ext.app | (apply Ext.set <;> omega) | (refine Ext.trans ?_ (by assumption))))) only [AX, TY, AD, mapPut, entsOf, oneV, builtinV, idsOf, mapId, touchB, Nat.reduceLT, Nat.reduceLeDiff, Nat.reduceEqDiff, Nat.reduceAdd, Nat.reduceMul, Int.reduceBEq, Int.reduceEq, Int.reduceNeg, Int.reduceLT, Int.reduceLE, Int.reduceAdd, Int.reduceSub, Int.reduceMul, Int.reduceToNat, Int.reduceGT, Nat.reduceBEq, Nat.reducePow, Nat.reduceGT, reduceCtorEq, ↓reduceIte, t1, t2, t4, t5, h1, loadN_fact gb, hik']
  refine W.drawn [(0, []), (1, [0]), (2, []), (3, []), (4, [3, 2, 1, 0]), (5, [3, 2, 1, 0]), (6, [5, 4, 3, 2, 1, 0]), (7, [3, 2, 1, 0]), (8, [3, 2, 1, 0]), (9, [3, 2, 1, 0]), (10, [3, 2, 1, 0]), (11, []), (12, []), (13, [])] (by decide +kernel) ?_
  simp -dsimp (disch := first | with_reducible assumption | omega | (intro h_; cases h_; done) | (simp only [LN] <;> omega) | (simp only [LF]; done) | (repeat (first | with_reducible assumption | apply Ext.refl | apply Ext.app | (apply Ext.set <;> omega) | (refine Ext.trans ?_ (by assumption))))) only [AX, TY, AD, mapPut, entsOf, oneV, builtinV, idsOf, mapId, touchB, Nat.reduceLT, Nat.reduceLeDiff, Nat.reduceEqDiff, Nat.reduceAdd, Nat.reduceMul, Int.reduceBEq, Int.reduceEq, Int.reduceNeg, Int.reduceLT, Int.reduceLE, Int.reduceAdd, Int.reduceSub, Int.reduceMul, Int.reduceToNat, Int.reduceGT, Nat.reduceBEq, Nat.reducePow, Nat.reduceGT, reduceCtorEq, ↓reduceIte, t1, t2, t4, t5, loadN_fact gb, hlr, hl1, fold_min, fold_max, hmin, hmax]
  refine W.drawn [(0, []), (1, []), (2, [1, 0]), (3, [1, 0]), (4, [3, 2, 1, 0]), (5, [1, 0]), (6, [1, 0]), (7, [1, 0]), (8, [7, 6, 5, 4, 3, 2, 1, 0]), (9, [7, 6, 5, 4, 3, 2, 1, 0]), (10, [9, 8, 7, 6, 5, 4, 3, 2, 1, 0]), (11, [7, 6, 5, 4, 3, 2, 1, 0]), (12, [7, 6, 5, 4, 3, 2, 1, 0]), (13, [7, 6, 5, 4, 3, 2, 1, 0]), (14, [13, 12, 11, 10, 9, 8, 7, 6, 5, 4, 3, 2, 1, 0]), (15, [7, 6, 5, 4, 3, 2, 1, 0]), (16, []), (17, []), (18, [])] (by decide +kernel) ?_
  simp -dsimp (disch := first | with_reducible assumption | omega | (intro h_; cases h_; done) | (simp only [LN] <;> omega) | (simp only [LF]; done) | (repeat (first | with_reducible assumption | apply Ext.refl | apply Ext.app | (apply Ext.set <;> omega) | (refine Ext.trans ?_ (by assumption))))) only [AX, TY, AD, mapPut, entsOf, oneV, builtinV, idsOf, mapId, touchB, Nat.reduceLT, Nat.reduceLeDiff, Nat.reduceEqDiff, Nat.reduceAdd, Nat.reduceMul, Int.reduceBEq, Int.reduceEq, Int.reduceNeg, Int.reduceLT, Int.reduceLE, Int.reduceAdd, Int.reduceSub, Int.reduceMul, Int.reduceToNat, Int.reduceGT, Nat.reduceBEq, Nat.reducePow, Nat.reduceGT, reduceCtorEq, ↓reduceIte, t1, t2, t4, t5, loadN_fact gb, hl0, hl1, hhi']
  refine hpu.mono ?_
  rintro _ h2 ⟨e2, p2, c2, o2, rfl, g2⟩
  rw [← hap] at g2
  have gb2 := e2 _ _ gb
  have gb12 := e2 _ _ gb1
  have hl2 := lt_of_some gb2
  have s0 := sameO_ext e2 hlb
  have gX : ∀ A : O, (h2.set h.length A)[h.length + 1]? = some (O.cells [V.slice none 0 (some 0), V.slice none 0 (some 0), V.int .i64 0, V.bool false] .rw) := fun A => (set_other A hne).trans gb12
  have ex : ∀ A : O, Ext h (h2.set h.length A) := fun A => Ext.set (e.trans e2) (Nat.le_refl _) _
  have hpf : ∀ a o, p2 = some (a, o) → a ≠ h.length ∧ a ≠ h.length + 1 ∧ (P a ∨ h.length ≤ a) := fun a o z => by have := g2.base a (g2.at z); exact ⟨by omega, by omega, .inr (by omega)⟩
  have rs2 : Rs (h2.set h.length (O.cells [.slice p2 D.dur.length c2, .slice q D.pend.length d, .int .i64 D.ctr, .bool D.failed] .rw)) p2 c2 1 eb (applyAll D.dur (D.pend.take (i + 1))) := g2.rs.keep fun a o z => set_other _ (hpf a o z).1
  have ex2 := ex (O.cells [.slice p2 D.dur.length c2, .slice q D.pend.length d, .int .i64 D.ctr, .bool D.failed] .rw)
  simp -dsimp (disch := first | with_reducible assumption | omega | (intro h_; cases h_; done) | (simp only [LN] <;> omega) | (simp only [LF]; done) | (repeat (first | with_reducible assumption | apply Ext.refl | apply Ext.app | (apply Ext.set <;> omega) | (refine Ext.trans ?_ (by assumption))))) only [AX, TY, AD, mapPut, entsOf, oneV, builtinV, idsOf, mapId, touchB, Nat.reduceLT, Nat.reduceLeDiff, Nat.reduceEqDiff, Nat.reduceAdd, Nat.reduceMul, Int.reduceBEq, Int.reduceEq, Int.reduceNeg, Int.reduceLT, Int.reduceLE, Int.reduceAdd, Int.reduceSub, Int.reduceMul, Int.reduceToNat, Int.reduceGT, Nat.reduceBEq, Nat.reducePow, Nat.reduceGT, reduceCtorEq, ↓reduceIte, t1, t2, t4, t5, s0, storeN_fact gb2 (by simp), gX, wrap_in]
  refine ⟨m - 1, by omega, i + 1, p2, c2, ?_⟩
  repeat' (first | assumption | refine And.intro ?_ ?_)
  all_goals first | rfl | omega | (simp; done) | (simp; omega; done) | skip
/-- A pool as a value. -/
structure RBp (h : Heap) (S : Bp) (p : Option (Nat × Nat)) (c : Option Nat) (q : Option (Nat × Nat)) (d : Option Nat) (fp : Option (Nat × Nat)) (fc : Option Nat) : Prop where
  dk : RDk h S.D p c q d
  frs : Sl h fp 5 Fr.enc S.frames
  dat : ∀ f ∈ S.frames, Sl h f.p 1 eb f.data
theorem RBp.ext {h hh : Heap} {S : Bp} {p : Option (Nat × Nat)} {c : Option Nat} {q : Option (Nat × Nat)} {d : Option Nat} {fp : Option (Nat × Nat)} {fc : Option Nat} (r : RBp h S p c q d fp fc) (e : Ext h hh) : RBp hh S p c q d fp fc := ⟨r.dk.ext e, r.frs.ext e, fun f hf => (r.dat f hf).ext e⟩
@[reducible] def bpV (S : Bp) (p : Option (Nat × Nat)) (c : Option Nat) (q : Option (Nat × Nat)) (d : Option Nat) (fp : Option (Nat × Nat)) (fc : Option Nat) : List V := [.slice p S.D.dur.length c, .slice q S.D.pend.length d, .int .i64 S.D.ctr, .bool S.D.failed, .int .i64 S.pages, .slice fp S.frames.length fc, .int .i64 S.hand, .int .i64 S.reads]
def RBO (h' : Heap) (v : V) (S : Bp) : Prop := ∃ p c q d fp fc, v = .agg (bpV S p c q d fp fc) ∧ RBp h' S p c q d fp fc
theorem RBO.ext {h hh : Heap} {v : V} {S : Bp} (r : RBO h v S) (e : Ext h hh) : RBO hh v S := by
  obtain ⟨p, c, q, d, fp, fc, rfl, r⟩ := r
  exact ⟨p, c, q, d, fp, fc, rfl, r.ext e⟩
theorem rFind_ok {h : Heap} {S : Bp} {v : V} (r : RBO h v S) (page : Int) : WR (callE Try.prog hk 28 [v, .int .i64 page] h) fun r h' => Ext h h' ∧ r = .int .i64 (idxI (findF page S.frames)) := by
  obtain ⟨p, c, q, d, fp, fc, rfl, r⟩ := r
  have hn := r.frs.nil'
  have hl := r.frs.small
  refine WR.call (hH := rfl) Try.func28 rfl (n := 26) rfl rfl (by simp) ?_
  obtain ⟨g, hg, g0, e1, hgl⟩ : ∃ g, h ++ [O.cells (bpV S p c q d fp fc) .rw] = g ∧ g[h.length]? = some (O.cells (bpV S p c q d fp fc) .rw) ∧ Ext h g ∧ g.length = h.length + 1 := ⟨_, rfl, snoc_last _ rfl, (by (repeat (first | assumption | apply Ext.refl | apply Ext.app | (apply Ext.set <;> omega) | exact Ext.trans (by assumption) (by assumption) | (refine Ext.trans ?_ (by assumption))))), by simp⟩
  simp only [bpV] at hg g0
  have sl := r.frs.ext e1
  simp -dsimp (disch := first | with_reducible assumption | omega | (intro h_; cases h_; done) | (simp only [LN] <;> omega) | (simp only [LF]; done) | (repeat (first | with_reducible assumption | apply Ext.refl | apply Ext.app | (apply Ext.set <;> omega) | (refine Ext.trans ?_ (by assumption))))) only [AX, TY, AD, mapPut, entsOf, oneV, builtinV, idsOf, mapId, touchB, Nat.reduceLT, Nat.reduceLeDiff, Nat.reduceEqDiff, Nat.reduceAdd, Nat.reduceMul, Int.reduceBEq, Int.reduceEq, Int.reduceNeg, Int.reduceLT, Int.reduceLE, Int.reduceAdd, Int.reduceSub, Int.reduceMul, Int.reduceToNat, Int.reduceGT, Nat.reduceBEq, Nat.reducePow, Nat.reduceGT, reduceCtorEq, ↓reduceIte, bpV, hg]
  refine W.loop (fun m τ hh => g = hh ∧ ∃ i : Nat, m + i = S.frames.length ∧ τ 1 = .int .i64 page ∧ τ 2 = .ptr (some (h.length, 0)) ∧ τ 5 = .int .i64 i ∧ ∀ f ∈ S.frames.take i, findQ page f = false) ?_ (m := S.frames.length) ?_
  rotate_left
  · exact ⟨rfl, 0, by simp, rfl, rfl, rfl, by simp⟩
  rintro m τ _ ⟨rfl, i, hm, t1, t2, t5, hno⟩
  by_cases h1 : (i : Int) < (S.frames.length : Int)
  rotate_left
  · simp -dsimp (disch := first | with_reducible assumption | omega | (intro h_; cases h_; done) | (simp only [LN] <;> omega) | (simp only [LF]; done) | (repeat (first | with_reducible assumption | apply Ext.refl | apply Ext.app | (apply Ext.set <;> omega) | (refine Ext.trans ?_ (by assumption))))) only [AX, TY, AD, mapPut, entsOf, oneV, builtinV, idsOf, mapId, touchB, Nat.reduceLT, Nat.reduceLeDiff, Nat.reduceEqDiff, Nat.reduceAdd, Nat.reduceMul, Int.reduceBEq, Int.reduceEq, Int.reduceNeg, Int.reduceLT, Int.reduceLE, Int.reduceAdd, Int.reduceSub, Int.reduceMul, Int.reduceToNat, Int.reduceGT, Nat.reduceBEq, Nat.reducePow, Nat.reduceGT, reduceCtorEq, ↓reduceIte, t1, t2, t5, h1, loadN_fact g0]
    rw [List.take_of_length_le (by omega)] at hno
    have : findF page S.frames = none := List.findIdx?_eq_none_iff.2 hno
    rw [this]
    exact ⟨e1, rfl⟩
  have hi : i < S.frames.length := by omega
  have hl0 := sl.load0 (.refl _) hi (m := 1) (by decide)
  have hmem := List.getElem_mem hi
  simp only [Fr.enc, List.take] at hl0
  by_cases hq : findQ page S.frames[i] = true
  · have hq' := hq
    unfold findQ at hq'
    simp only [Bool.and_eq_true, decide_eq_true_eq] at hq'
    have hfs : findF page S.frames = some i := List.findIdx?_eq_some_iff_getElem.2 ⟨hi, hq, fun j hj => by
      have := hno S.frames[j] (by rw [List.mem_take_iff_getElem]; exact ⟨j, by omega, rfl⟩)
      simp [this]⟩
    rw [hfs]
    simp -dsimp (disch := first | with_reducible assumption | omega | (intro h_; cases h_; done) | (simp only [LN] <;> omega) | (simp only [LF]; done) | (repeat (first | with_reducible assumption | apply Ext.refl | apply Ext.app | (apply Ext.set <;> omega) | (refine Ext.trans ?_ (by assumption))))) only [AX, TY, AD, mapPut, entsOf, oneV, builtinV, idsOf, mapId, touchB, Nat.reduceLT, Nat.reduceLeDiff, Nat.reduceEqDiff, Nat.reduceAdd, Nat.reduceMul, Int.reduceBEq, Int.reduceEq, Int.reduceNeg, Int.reduceLT, Int.reduceLE, Int.reduceAdd, Int.reduceSub, Int.reduceMul, Int.reduceToNat, Int.reduceGT, Nat.reduceBEq, Nat.reducePow, Nat.reduceGT, reduceCtorEq, ↓reduceIte, t1, t2, t5, h1, loadN_fact g0, eq_true hq'.1, hl0, eq_true hq'.2]
    exact ⟨e1, rfl⟩
  · have hq2 : findQ page S.frames[i] = false := by simpa using hq
    have hno' : ∀ f ∈ S.frames.take (i + 1), findQ page f = false := fun f hf => by
      rw [List.take_succ_eq_append_getElem hi, List.mem_append, List.mem_singleton] at hf
      rcases hf with hf | rfl
      · exact hno f hf
      · exact hq2
    unfold findQ at hq
    simp only [Bool.and_eq_true, decide_eq_true_eq] at hq
    by_cases h0 : 0 ≤ page
    · have hne : ¬ (S.frames[i]).page = page := fun z => hq ⟨h0, z⟩
      simp -dsimp (disch := first | with_reducible assumption | omega | (intro h_; cases h_; done) | (simp only [LN] <;> omega) | (simp only [LF]; done) | (repeat (first | with_reducible assumption | apply Ext.refl | apply Ext.app | (apply Ext.set <;> omega) | (refine Ext.trans ?_ (by assumption))))) only [AX, TY, AD, mapPut, entsOf, oneV, builtinV, idsOf, mapId, touchB, Nat.reduceLT, Nat.reduceLeDiff, Nat.reduceEqDiff, Nat.reduceAdd, Nat.reduceMul, Int.reduceBEq, Int.reduceEq, Int.reduceNeg, Int.reduceLT, Int.reduceLE, Int.reduceAdd, Int.reduceSub, Int.reduceMul, Int.reduceToNat, Int.reduceGT, Nat.reduceBEq, Nat.reducePow, Nat.reduceGT, reduceCtorEq, ↓reduceIte, t1, t2, t5, h1, loadN_fact g0, eq_true h0, hl0, hne, wrap_in]
      exact ⟨m - 1, by omega, i + 1, by omega, by simp, hno'⟩
    · simp -dsimp (disch := first | with_reducible assumption | omega | (intro h_; cases h_; done) | (simp only [LN] <;> omega) | (simp only [LF]; done) | (repeat (first | with_reducible assumption | apply Ext.refl | apply Ext.app | (apply Ext.set <;> omega) | (refine Ext.trans ?_ (by assumption))))) only [AX, TY, AD, mapPut, entsOf, oneV, builtinV, idsOf, mapId, touchB, Nat.reduceLT, Nat.reduceLeDiff, Nat.reduceEqDiff, Nat.reduceAdd, Nat.reduceMul, Int.reduceBEq, Int.reduceEq, Int.reduceNeg, Int.reduceLT, Int.reduceLE, Int.reduceAdd, Int.reduceSub, Int.reduceMul, Int.reduceToNat, Int.reduceGT, Nat.reduceBEq, Nat.reducePow, Nat.reduceGT, reduceCtorEq, ↓reduceIte, t1, t2, t5, h1, loadN_fact g0, h0, wrap_in]
      exact ⟨m - 1, by omega, i + 1, by omega, by simp, hno'⟩
end Go.Proofs.YtmjfhckioaempaaA
namespace Go.Proofs.YtmjfhckioaempaaA
open Go Go.Proofs Go.RowKit
set_option linter.unusedVariables false
set_option linter.unusedSimpArgs false
set_option maxRecDepth 10000
set_option maxHeartbeats 4000000
@[reducible] def zP : List V := [V.slice none 0 (some 0), V.slice none 0 (some 0), V.int .i64 0, V.bool false, V.int .i64 0, V.slice none 0 (some 0), V.int .i64 0, V.int .i64 0]
/-- Where a pool's blocks lie. -/
def BpPtr (S : Bp) (p q fp : Option (Nat × Nat)) (P : Nat → Prop) : Prop := DkPtr S.D p q P ∧ (∀ a o, fp = some (a, o) → P a) ∧ ∀ f ∈ S.frames, ∀ a o, f.p = some (a, o) → P a
theorem DkPtr.imp {D : Dk} {p q : Option (Nat × Nat)} {P Q : Nat → Prop} (b : DkPtr D p q P) (i : ∀ a, P a → Q a) : DkPtr D p q Q := ⟨fun a o z => i a (b.1 a o z), fun a o z => i a (b.2.1 a o z), fun w hw a o z => i a (b.2.2 w hw a o z)⟩
theorem DkPtr.and {D : Dk} {p q : Option (Nat × Nat)} {P Q : Nat → Prop} (b : DkPtr D p q P) (c : DkPtr D p q Q) : DkPtr D p q (fun a => P a ∧ Q a) := ⟨fun a o z => ⟨b.1 a o z, c.1 a o z⟩, fun a o z => ⟨b.2.1 a o z, c.2.1 a o z⟩, fun w hw a o z => ⟨b.2.2 w hw a o z, c.2.2 w hw a o z⟩⟩
theorem BpPtr.imp {S : Bp} {p q fp : Option (Nat × Nat)} {P Q : Nat → Prop} (b : BpPtr S p q fp P) (i : ∀ a, P a → Q a) : BpPtr S p q fp Q := ⟨b.1.imp i, fun a o z => i a (b.2.1 a o z), fun f hf a o z => i a (b.2.2 f hf a o z)⟩
theorem BpPtr.and {S : Bp} {p q fp : Option (Nat × Nat)} {P Q : Nat → Prop} (b : BpPtr S p q fp P) (c : BpPtr S p q fp Q) : BpPtr S p q fp (fun a => P a ∧ Q a) := ⟨b.1.and c.1, fun a o z => ⟨b.2.1 a o z, c.2.1 a o z⟩, fun f hf a o z => ⟨b.2.2 f hf a o z, c.2.2 f hf a o z⟩⟩
theorem RBp.ptr {h : Heap} {S : Bp} {p : Option (Nat × Nat)} {c : Option Nat} {q : Option (Nat × Nat)} {d : Option Nat} {fp : Option (Nat × Nat)} {fc : Option Nat} (r : RBp h S p c q d fp fc) : BpPtr S p q fp (fun a => a < h.length) :=
  ⟨r.dk.ptr, fun a o z => r.frs.lt z, fun f hf a o z => (r.dat f hf).lt z⟩
theorem RBp.keep {h hh : Heap} {S : Bp} {p : Option (Nat × Nat)} {c : Option Nat} {q : Option (Nat × Nat)} {d : Option Nat} {fp : Option (Nat × Nat)} {fc : Option Nat} (r : RBp h S p c q d fp fc) {P : Nat → Prop} (b : BpPtr S p q fp P) (hk : ∀ a, P a → hh[a]? = h[a]?) : RBp hh S p c q d fp fc :=
  ⟨r.dk.keep b.1 hk, r.frs.keep fun a o z => hk a (b.2.1 a o z), fun f hf => (r.dat f hf).keep fun a o z => hk a (b.2.2 f hf a o z)⟩
def RBF (P : Nat → Prop) (h' : Heap) (v : V) (S : Bp) : Prop := ∃ p c q d fp fc, v = .agg (bpV S p c q d fp fc) ∧ RBp h' S p c q d fp fc ∧ BpPtr S p q fp P
theorem RBF.ext {P : Nat → Prop} {h hh : Heap} {v : V} {S : Bp} (r : RBF P h v S) (e : Ext h hh) : RBF P hh v S := by
  obtain ⟨p, c, q, d, fp, fc, rfl, r, b⟩ := r
  exact ⟨p, c, q, d, fp, fc, rfl, r.ext e, b⟩
theorem rcopied_ok {h : Heap} {S : Bp} {p : Option (Nat × Nat)} {c : Option Nat} {q : Option (Nat × Nat)} {d : Option Nat} {fp : Option (Nat × Nat)} {fc : Option Nat} (r : RBp h S p c q d fp fc) (hf : S.frames.length ≤ 8) :
    WR (callE Try.prog hk 70 [.agg (bpV S p c q d fp fc)] h) fun r h' => Ext h h' ∧ ∃ fp' fc' o', r = .agg (bpV S p c q d fp' fc') ∧ Gr h.length h' fp' fc' o' 5 Fr.enc S.frames := by
  refine WR.call (hH := rfl) Try.func70 rfl (n := 9) rfl rfl (by simp) ?_
  obtain ⟨g, hg, g0, g1, e1, hgl⟩ : ∃ g, h ++ [O.cells (bpV S p c q d fp fc) .rw] ++ [O.cells zP .rw] = g ∧ g[h.length]? = some (O.cells (bpV S p c q d fp fc) .rw) ∧ g[h.length + 1]? = some (O.cells zP .rw) ∧ Ext h g ∧ g.length = h.length + 2 := ⟨_, rfl, by rw [snoc_old _ (by simp)]; exact snoc_last _ rfl, snoc_last _ (by simp), (by (repeat (first | assumption | apply Ext.refl | apply Ext.app | (apply Ext.set <;> omega) | exact Ext.trans (by assumption) (by assumption) | (refine Ext.trans ?_ (by assumption))))), by simp⟩
  simp only [bpV, zP] at hg g0 g1
  obtain ⟨p', c', o', h2, hap, gr, ho, hle, hk2⟩ := clone_app (bytes := 48) (b := g.length) (c := fc) ((r.frs.ext e1).ext (hh := g ++ [O.cells [] .rw]) (by (repeat (first | assumption | apply Ext.refl | apply Ext.app | (apply Ext.set <;> omega) | exact Ext.trans (by assumption) (by assumption) | (refine Ext.trans ?_ (by assumption)))))) (q := g.length) (snoc_last _ rfl) (Nat.le_refl _) (fun y _ => rfl) (by omega)
  have e2 : Ext g h2 := Ext.of_keep fun i hi => by rw [hk2 i (by omega) (by simp; omega), snoc_old _ hi]
  have g02 := e2 _ _ g0
  have g12 := e2 _ _ g1
  have hl02 := lt_of_some g02
  have hl12 := lt_of_some g12
  have hne : ¬ h.length + 1 = h.length := by omega
  have gX : ∀ A : O, (h2.set h.length A)[h.length + 1]? = _ := fun A => (set_other A hne).trans g12
  have ex : ∀ A B : O, Ext h ((h2.set h.length A).set (h.length + 1) B) := fun A B => Ext.set (Ext.set (e1.trans e2) (Nat.le_refl _) _) (by omega) _
  simp -dsimp (disch := first | with_reducible assumption | omega | (intro h_; cases h_; done) | (simp only [LN] <;> omega) | (simp only [LF]; done) | (repeat (first | with_reducible assumption | apply Ext.refl | apply Ext.app | (apply Ext.set <;> omega) | (refine Ext.trans ?_ (by assumption))))) only [AX, TY, AD, mapPut, entsOf, oneV, builtinV, idsOf, mapId, touchB, Nat.reduceLT, Nat.reduceLeDiff, Nat.reduceEqDiff, Nat.reduceAdd, Nat.reduceMul, Int.reduceBEq, Int.reduceEq, Int.reduceNeg, Int.reduceLT, Int.reduceLE, Int.reduceAdd, Int.reduceSub, Int.reduceMul, Int.reduceToNat, Int.reduceGT, Nat.reduceBEq, Nat.reducePow, Nat.reduceGT, reduceCtorEq, ↓reduceIte, bpV, hg, loadN_fact g0, hap, storeN_fact g02 (by simp), storeN_fact (gX _) (by simp)]
  refine ⟨ex _ _, p', c', o', rfl, ?_⟩
  exact (gr.keep fun i hi => by have := gr.base i hi; rw [set_other _ (by omega), set_other _ (by omega)]).base_le (by omega)
/-- Whether a page is listed. -/
def pgQ (S : Bp) (b : Bool) (k : Int) : Bool := match findF k S.frames with
  | some i => !b || (S.frames[i]?.map Fr.dirty).getD false
  | none => false
def pagesL (S : Bp) (b : Bool) : List Int := ((List.range S.pages).map fun k : Nat => (k : Int)).filter (pgQ S b)
theorem pagesL_take {S : Bp} {b : Bool} {n : Nat} : (((List.range (n + 1)).map fun k : Nat => (k : Int)).filter (pgQ S b)) = (((List.range n).map fun k : Nat => (k : Int)).filter (pgQ S b)) ++ (if pgQ S b (n : Int) then [(n : Int)] else []) := by
  rw [List.range_succ, List.map_append, List.filter_append]
  congr 1
  simp only [List.map_cons, List.map_nil, List.filter_cons, List.filter_nil]
theorem rPages_ok {h : Heap} {S : Bp} {p : Option (Nat × Nat)} {c : Option Nat} {q : Option (Nat × Nat)} {d : Option Nat} {fp : Option (Nat × Nat)} {fc : Option Nat} (r : RBp h S p c q d fp fc) (hf : S.frames.length ≤ 8) (hp : S.pages ≤ 4096) (b : Bool) :
    WR (callE Try.prog hk 27 [.agg (bpV S p c q d fp fc), .bool b] h) fun r h' => Ext h h' ∧ ∃ p' c', r = .slice p' (pagesL S b).length c' ∧ Sl h' p' 1 ei (pagesL S b) ∧ ∀ a o, p' = some (a, o) → h.length ≤ a := by
  refine WR.call (hH := rfl) Try.func27 rfl (n := 37) rfl rfl (by simp) ?_
  obtain ⟨g, hg, g0, e1, hgl⟩ : ∃ g, h ++ [O.cells (bpV S p c q d fp fc) .rw] = g ∧ g[h.length]? = some (O.cells (bpV S p c q d fp fc) .rw) ∧ Ext h g ∧ g.length = h.length + 1 := ⟨_, rfl, snoc_last _ rfl, (by (repeat (first | assumption | apply Ext.refl | apply Ext.app | (apply Ext.set <;> omega) | exact Ext.trans (by assumption) (by assumption) | (refine Ext.trans ?_ (by assumption))))), by simp⟩
  simp only [bpV] at hg g0
  simp -dsimp (disch := first | with_reducible assumption | omega | (intro h_; cases h_; done) | (simp only [LN] <;> omega) | (simp only [LF]; done) | (repeat (first | with_reducible assumption | apply Ext.refl | apply Ext.app | (apply Ext.set <;> omega) | (refine Ext.trans ?_ (by assumption))))) only [AX, TY, AD, mapPut, entsOf, oneV, builtinV, idsOf, mapId, touchB, Nat.reduceLT, Nat.reduceLeDiff, Nat.reduceEqDiff, Nat.reduceAdd, Nat.reduceMul, Int.reduceBEq, Int.reduceEq, Int.reduceNeg, Int.reduceLT, Int.reduceLE, Int.reduceAdd, Int.reduceSub, Int.reduceMul, Int.reduceToNat, Int.reduceGT, Nat.reduceBEq, Nat.reducePow, Nat.reduceGT, reduceCtorEq, ↓reduceIte, bpV, hg]
  refine W.loop (fun m τ hh => ∃ (i : Nat) (po : Option (Nat × Nat)) (co oo : Option Nat) (os : List Int), m + i = S.pages ∧ τ 1 = .bool b ∧ τ 2 = .ptr (some (h.length, 0)) ∧ τ 5 = .slice po os.length co ∧ τ 6 = .int .i64 i ∧ Ext g hh ∧ Gr g.length hh po co oo 1 ei os ∧ os.length ≤ i ∧ os = ((List.range i).map fun k : Nat => (k : Int)).filter (pgQ S b)) ?_ (m := S.pages) ?_
  rotate_left
  · have hz : Ext g (g ++ [O.cells [] .rw]) := (by (repeat (first | assumption | apply Ext.refl | apply Ext.app | (apply Ext.set <;> omega) | exact Ext.trans (by assumption) (by assumption) | (refine Ext.trans ?_ (by assumption)))))
    have hgr : Gr g.length (g ++ [O.cells [] .rw]) (some (g.length, 0)) (some 0) (some g.length) 1 ei [] := Gr.built (C := []) (snoc_last _ rfl) rfl (Nat.le_refl _) (by simp) (by simp) (by simp) rfl
    refine ⟨0, some (g.length, 0), some 0, some g.length, [], ?_⟩
    simp -dsimp (disch := first | with_reducible assumption | omega | (intro h_; cases h_; done) | (simp only [LN] <;> omega) | (simp only [LF]; done) | (repeat (first | with_reducible assumption | apply Ext.refl | apply Ext.app | (apply Ext.set <;> omega) | (refine Ext.trans ?_ (by assumption))))) only [AX, TY, AD, mapPut, entsOf, oneV, builtinV, idsOf, mapId, touchB, Nat.reduceLT, Nat.reduceLeDiff, Nat.reduceEqDiff, Nat.reduceAdd, Nat.reduceMul, Int.reduceBEq, Int.reduceEq, Int.reduceNeg, Int.reduceLT, Int.reduceLE, Int.reduceAdd, Int.reduceSub, Int.reduceMul, Int.reduceToNat, Int.reduceGT, Nat.reduceBEq, Nat.reducePow, Nat.reduceGT, reduceCtorEq, ↓reduceIte]
    repeat' (first | assumption | refine And.intro ?_ ?_)
    all_goals first | rfl | omega | (simp; done) | (simp; omega; done) | skip
  rintro m τ hh ⟨i, po, co, oo, os, hm, t1, t2, t5, t6, e, gr, hol, hos⟩
  have gh := e _ _ g0
  have le := e.le
  by_cases h1 : (i : Int) < (S.pages : Int)
  rotate_left
  · simp -dsimp (disch := first | with_reducible assumption | omega | (intro h_; cases h_; done) | (simp only [LN] <;> omega) | (simp only [LF]; done) | (repeat (first | with_reducible assumption | apply Ext.refl | apply Ext.app | (apply Ext.set <;> omega) | (refine Ext.trans ?_ (by assumption))))) only [AX, TY, AD, mapPut, entsOf, oneV, builtinV, idsOf, mapId, touchB, Nat.reduceLT, Nat.reduceLeDiff, Nat.reduceEqDiff, Nat.reduceAdd, Nat.reduceMul, Int.reduceBEq, Int.reduceEq, Int.reduceNeg, Int.reduceLT, Int.reduceLE, Int.reduceAdd, Int.reduceSub, Int.reduceMul, Int.reduceToNat, Int.reduceGT, Nat.reduceBEq, Nat.reducePow, Nat.reduceGT, reduceCtorEq, ↓reduceIte, t1, t2, t5, t6, h1, loadN_fact gh]
    have hi : i = S.pages := by omega
    subst hi
    subst hos
    exact ⟨e1.trans e, po, co, rfl, gr.sl, fun a o z => by have := gr.base a (gr.at z); omega⟩
  have htk := pagesL_take (S := S) (b := b) (n := i)
  have hfd := rFind_ok (v := .agg (bpV S p c q d fp fc)) (S := S) (h := hh) ⟨p, c, q, d, fp, fc, rfl, r.ext (e1.trans e)⟩ (i : Int)
  simp only [bpV] at hfd
  simp -dsimp (disch := first | with_reducible assumption | omega | (intro h_; cases h_; done) | (simp only [LN] <;> omega) | (simp only [LF]; done) | (repeat (first | with_reducible assumption | apply Ext.refl | apply Ext.app | (apply Ext.set <;> omega) | (refine Ext.trans ?_ (by assumption))))) only [AX, TY, AD, mapPut, entsOf, oneV, builtinV, idsOf, mapId, touchB, Nat.reduceLT, Nat.reduceLeDiff, Nat.reduceEqDiff, Nat.reduceAdd, Nat.reduceMul, Int.reduceBEq, Int.reduceEq, Int.reduceNeg, Int.reduceLT, Int.reduceLE, Int.reduceAdd, Int.reduceSub, Int.reduceMul, Int.reduceToNat, Int.reduceGT, Nat.reduceBEq, Nat.reducePow, Nat.reduceGT, reduceCtorEq, ↓reduceIte, t1, t2, t5, t6, h1, loadN_fact gh]
  refine hfd.mono ?_
  rintro _ h2 ⟨e2, rfl⟩
  have gh2 := e2 _ _ gh
  have e' := e.trans e2
  have le2 := e2.le
  have skip : pgQ S b (i : Int) = false → os = ((List.range (i + 1)).map fun k : Nat => (k : Int)).filter (pgQ S b) := fun z => by rw [htk, z, hos]; simp
  have gr2 := gr.ext e2
  cases hfi : findF (i : Int) S.frames with
  | none =>
    have hos' := skip (by unfold pgQ; rw [hfi])
    simp -dsimp (disch := first | with_reducible assumption | omega | (intro h_; cases h_; done) | (simp only [LN] <;> omega) | (simp only [LF]; done) | (repeat (first | with_reducible assumption | apply Ext.refl | apply Ext.app | (apply Ext.set <;> omega) | (refine Ext.trans ?_ (by assumption))))) only [AX, TY, AD, mapPut, entsOf, oneV, builtinV, idsOf, mapId, touchB, Nat.reduceLT, Nat.reduceLeDiff, Nat.reduceEqDiff, Nat.reduceAdd, Nat.reduceMul, Int.reduceBEq, Int.reduceEq, Int.reduceNeg, Int.reduceLT, Int.reduceLE, Int.reduceAdd, Int.reduceSub, Int.reduceMul, Int.reduceToNat, Int.reduceGT, Nat.reduceBEq, Nat.reducePow, Nat.reduceGT, reduceCtorEq, ↓reduceIte, t1, t2, t5, t6, idxI, wrap_in]
    refine ⟨m - 1, by omega, i + 1, po, co, oo, os, ?_⟩
    repeat' (first | assumption | refine And.intro ?_ ?_)
    all_goals first | rfl | omega | (simp; done) | (simp; omega; done) | skip
  | some j =>
    obtain ⟨hj, _⟩ := findF_some hfi
    have hn0 : (0 : Int) ≤ (j : Int) := by omega
    have hji : (j : Int) < (S.frames.length : Int) := by omega
    have hfn := r.frs.nil'
    have hl3 := (r.frs.ext (e1.trans e')).load (.refl _) hj (o := 3) (m := 1) (by decide)
    simp only [Fr.enc, List.take, List.drop] at hl3
    have hpq : pgQ S b (i : Int) = (!b || (S.frames[j]).dirty) := by
      unfold pgQ; rw [hfi]
      simp only [List.getElem?_eq_getElem hj, Option.map_some, Option.getD_some]
    have push : pgQ S b (i : Int) = true → os ++ [(i : Int)] = ((List.range (i + 1)).map fun k : Nat => (k : Int)).filter (pgQ S b) := fun z => by rw [htk, z, hos]; simp
    obtain ⟨p5, c5, o5, h5, hap, g5, ho5, hl5, hk5, hb5⟩ := (gr2.ext (hh := h2 ++ [O.cells (ei i) Kd.rw]) (by (repeat (first | assumption | apply Ext.refl | apply Ext.app | (apply Ext.set <;> omega) | exact Ext.trans (by assumption) (by assumption) | (refine Ext.trans ?_ (by assumption)))))).push (bytes := 8) (vc := some 1) (by simp; omega) (snoc_last _ rfl) rfl rfl (by omega) (by omega)
    simp only [ei] at hap
    have e5 : Ext g h5 := Ext.below (h := h2 ++ [O.cells (ei i) Kd.rw]) (by (repeat (first | assumption | apply Ext.refl | apply Ext.app | (apply Ext.set <;> omega) | exact Ext.trans (by assumption) (by assumption) | (refine Ext.trans ?_ (by assumption))))) (Nat.le_refl _) hb5
    cases b
    · have hos' := push (by rw [hpq]; rfl)
      simp -dsimp (disch := first | with_reducible assumption | omega | (intro h_; cases h_; done) | (simp only [LN] <;> omega) | (simp only [LF]; done) | (repeat (first | with_reducible assumption | apply Ext.refl | apply Ext.app | (apply Ext.set <;> omega) | (refine Ext.trans ?_ (by assumption))))) only [AX, TY, AD, mapPut, entsOf, oneV, builtinV, idsOf, mapId, touchB, Nat.reduceLT, Nat.reduceLeDiff, Nat.reduceEqDiff, Nat.reduceAdd, Nat.reduceMul, Int.reduceBEq, Int.reduceEq, Int.reduceNeg, Int.reduceLT, Int.reduceLE, Int.reduceAdd, Int.reduceSub, Int.reduceMul, Int.reduceToNat, Int.reduceGT, Nat.reduceBEq, Nat.reducePow, Nat.reduceGT, reduceCtorEq, ↓reduceIte, t1, t2, t5, t6, idxI, eq_true hn0, hap, wrap_in]
      refine ⟨m - 1, by omega, i + 1, p5, c5, o5, os ++ [(i : Int)], ?_⟩
      repeat' (first | assumption | refine And.intro ?_ ?_)
      all_goals first | rfl | omega | (simp; done) | (simp; omega; done) | skip
    · cases hd : (S.frames[j]).dirty
      · have hos' := skip (by rw [hpq, hd]; rfl)
        rw [hd] at hl3
        simp -dsimp (disch := first | with_reducible assumption | omega | (intro h_; cases h_; done) | (simp only [LN] <;> omega) | (simp only [LF]; done) | (repeat (first | with_reducible assumption | apply Ext.refl | apply Ext.app | (apply Ext.set <;> omega) | (refine Ext.trans ?_ (by assumption))))) only [AX, TY, AD, mapPut, entsOf, oneV, builtinV, idsOf, mapId, touchB, Nat.reduceLT, Nat.reduceLeDiff, Nat.reduceEqDiff, Nat.reduceAdd, Nat.reduceMul, Int.reduceBEq, Int.reduceEq, Int.reduceNeg, Int.reduceLT, Int.reduceLE, Int.reduceAdd, Int.reduceSub, Int.reduceMul, Int.reduceToNat, Int.reduceGT, Nat.reduceBEq, Nat.reducePow, Nat.reduceGT, reduceCtorEq, ↓reduceIte, t1, t2, t5, t6, idxI, eq_true hn0, loadN_fact gh2, hji, hl3, wrap_in]
        refine ⟨m - 1, by omega, i + 1, po, co, oo, os, ?_⟩
        repeat' (first | assumption | refine And.intro ?_ ?_)
        all_goals first | rfl | omega | (simp; done) | (simp; omega; done) | skip
      · have hos' := push (by rw [hpq, hd]; rfl)
        rw [hd] at hl3
        simp -dsimp (disch := first | with_reducible assumption | omega | (intro h_; cases h_; done) | (simp only [LN] <;> omega) | (simp only [LF]; done) | (repeat (first | with_reducible assumption | apply Ext.refl | apply Ext.app | (apply Ext.set <;> omega) | (refine Ext.trans ?_ (by assumption))))) only [AX, TY, AD, mapPut, entsOf, oneV, builtinV, idsOf, mapId, touchB, Nat.reduceLT, Nat.reduceLeDiff, Nat.reduceEqDiff, Nat.reduceAdd, Nat.reduceMul, Int.reduceBEq, Int.reduceEq, Int.reduceNeg, Int.reduceLT, Int.reduceLE, Int.reduceAdd, Int.reduceSub, Int.reduceMul, Int.reduceToNat, Int.reduceGT, Nat.reduceBEq, Nat.reducePow, Nat.reduceGT, reduceCtorEq, ↓reduceIte, t1, t2, t5, t6, idxI, eq_true hn0, loadN_fact gh2, hji, hl3, hap, wrap_in]
        refine ⟨m - 1, by omega, i + 1, p5, c5, o5, os ++ [(i : Int)], ?_⟩
        repeat' (first | assumption | refine And.intro ?_ ?_)
        all_goals first | rfl | omega | (simp; done) | (simp; omega; done) | skip
/-- The places cleared along the way of the hand. -/
def clL (fs : List Fr) (hand : Nat) : Nat → List Int
  | 0 => []
  | t + 1 => if 0 < pinsAt fs (hx fs.length hand t) then clL fs hand t else clL fs hand t ++ [(hx fs.length hand t : Int)]
theorem clL_mem {fs : List Fr} {hand t : Nat} : ∀ x : Int, x ∈ clL fs hand t ↔ ∃ t', t' < t ∧ x = hx fs.length hand t' ∧ ¬ 0 < pinsAt fs (hx fs.length hand t') := by
  induction t with
  | zero => intro x; simp [clL]
  | succ t ih =>
    intro x
    unfold clL
    split
    · rename_i hp
      rw [ih]
      constructor
      · rintro ⟨t', h1, h2⟩; exact ⟨t', by omega, h2⟩
      · rintro ⟨t', h1, h2, h3⟩
        by_cases c : t' = t
        · subst c; exact absurd hp h3
        · exact ⟨t', by omega, h2, h3⟩
    · rename_i hp
      rw [List.mem_append, List.mem_singleton, ih]
      constructor
      · rintro (⟨t', h1, h2⟩ | rfl)
        · exact ⟨t', by omega, h2⟩
        · exact ⟨t, by omega, rfl, hp⟩
      · rintro ⟨t', h1, h2, h3⟩
        by_cases c : t' = t
        · subst c; exact .inr h2
        · exact .inl ⟨t', by omega, h2, h3⟩
/-- A pool with frames of its own. -/
def ROwn (b : Nat) (h' : Heap) (v : V) (S : Bp) : Prop := ∃ p c q d fp fc o, v = .agg (bpV S p c q d fp fc) ∧ RDk h' S.D p c q d ∧ Gr b h' fp fc o 5 Fr.enc S.frames ∧ ∀ f ∈ S.frames, Sl h' f.p 1 eb f.data
theorem ROwn.rbo {b : Nat} {h' : Heap} {v : V} {S : Bp} (r : ROwn b h' v S) : RBO h' v S := by
  obtain ⟨p, c, q, d, fp, fc, o, rfl, h1, h2, h3⟩ := r
  exact ⟨p, c, q, d, fp, fc, rfl, h1, h2.sl, h3⟩
theorem rroom_ok {h : Heap} {S : Bp} {N : Nat} {p : Option (Nat × Nat)} {c : Option Nat} {q : Option (Nat × Nat)} {d : Option Nat} {fp : Option (Nat × Nat)} {fc : Option Nat} (r : RBp h S p c q d fp fc) (v : PIn S N) :
    WR (callE Try.prog hk 71 [.agg (bpV S p c q d fp fc)] h) fun r h' => Ext h h' ∧ ((S.frames.findIdx? emptyQ = none ∧ (∀ f ∈ S.frames, f.pins ≠ 0) ∧ ∃ fp' fc', r = .tuple [.agg (bpV S p c q d fp' fc'), .int .i64 (-1)]) ∨ ∃ j hand cl fp' fc' o', ChO S j hand cl ∧ r = .tuple [.agg (bpV ⟨S.D, S.pages, clrF S.frames cl, hand, S.reads⟩ p c q d fp' fc'), .int .i64 j] ∧ Gr h.length h' fp' fc' o' 5 Fr.enc (clrF S.frames cl)) := by
  have hfl := v.fl
  have hhand := v.hand
  refine WR.call (hH := rfl) Try.func71 rfl (n := 82) rfl rfl (by simp) ?_
  obtain ⟨g, hg, g0, g1, e1, hgl⟩ : ∃ g, h ++ [O.cells (bpV S p c q d fp fc) .rw] ++ [O.cells zP .rw] = g ∧ g[h.length]? = some (O.cells (bpV S p c q d fp fc) .rw) ∧ g[h.length + 1]? = some (O.cells zP .rw) ∧ Ext h g ∧ g.length = h.length + 2 := ⟨_, rfl, by rw [snoc_old _ (by simp)]; exact snoc_last _ rfl, snoc_last _ (by simp), (by (repeat (first | assumption | apply Ext.refl | apply Ext.app | (apply Ext.set <;> omega) | exact Ext.trans (by assumption) (by assumption) | (refine Ext.trans ?_ (by assumption))))), by simp⟩
  have hne : ¬ h.length + 1 = h.length := by omega
  have hcp := rcopied_ok (r.ext e1) hfl
  simp only [bpV, zP] at hg g0 g1 hcp
  simp -dsimp (disch := first | with_reducible assumption | omega | (intro h_; cases h_; done) | (simp only [LN] <;> omega) | (simp only [LF]; done) | (repeat (first | with_reducible assumption | apply Ext.refl | apply Ext.app | (apply Ext.set <;> omega) | (refine Ext.trans ?_ (by assumption))))) only [AX, TY, AD, mapPut, entsOf, oneV, builtinV, idsOf, mapId, touchB, Nat.reduceLT, Nat.reduceLeDiff, Nat.reduceEqDiff, Nat.reduceAdd, Nat.reduceMul, Int.reduceBEq, Int.reduceEq, Int.reduceNeg, Int.reduceLT, Int.reduceLE, Int.reduceAdd, Int.reduceSub, Int.reduceMul, Int.reduceToNat, Int.reduceGT, Nat.reduceBEq, Nat.reducePow, Nat.reduceGT, reduceCtorEq, ↓reduceIte, bpV, hg, loadN_fact g0]
  refine hcp.mono ?_
  rintro _ h2 ⟨e2, fp', fc', o', rfl, gr⟩
  have g02 := e2 _ _ g0
  have g12 := e2 _ _ g1
  have hl02 := lt_of_some g02
  generalize hA : h2.set h.length (O.cells [V.slice p S.D.dur.length c, V.slice q S.D.pend.length d, V.int .i64 S.D.ctr, V.bool S.D.failed, V.int .i64 S.pages, V.slice fp' S.frames.length fc', V.int .i64 S.hand, V.int .i64 S.reads] .rw) = h3
  have g03 : h3[h.length]? = some (O.cells [V.slice p S.D.dur.length c, V.slice q S.D.pend.length d, V.int .i64 S.D.ctr, V.bool S.D.failed, V.int .i64 S.pages, V.slice fp' S.frames.length fc', V.int .i64 S.hand, V.int .i64 S.reads] .rw) := by rw [← hA]; exact set_same _ hl02
  have g13 : h3[h.length + 1]? = some (O.cells zP .rw) := by rw [← hA]; exact (set_other _ hne).trans g12
  have e3 : Ext h h3 := by rw [← hA]; exact Ext.set (e1.trans e2) (Nat.le_refl _) _
  have gr3 : Gr g.length h3 fp' fc' o' 5 Fr.enc S.frames := gr.keep fun i hi => by rw [← hA]; exact set_other _ (by have := gr.base i hi; omega)
  have l3 : h3.length = h2.length := by rw [← hA, List.length_set]
  simp only [zP] at g13
  have hfn : fp' = none → S.frames.length = 0 := gr3.sl.nil'
  simp -dsimp (disch := first | with_reducible assumption | omega | (intro h_; cases h_; done) | (simp only [LN] <;> omega) | (simp only [LF]; done) | (repeat (first | with_reducible assumption | apply Ext.refl | apply Ext.app | (apply Ext.set <;> omega) | (refine Ext.trans ?_ (by assumption))))) only [AX, TY, AD, mapPut, entsOf, oneV, builtinV, idsOf, mapId, touchB, Nat.reduceLT, Nat.reduceLeDiff, Nat.reduceEqDiff, Nat.reduceAdd, Nat.reduceMul, Int.reduceBEq, Int.reduceEq, Int.reduceNeg, Int.reduceLT, Int.reduceLE, Int.reduceAdd, Int.reduceSub, Int.reduceMul, Int.reduceToNat, Int.reduceGT, Nat.reduceBEq, Nat.reducePow, Nat.reduceGT, reduceCtorEq, ↓reduceIte, storeN_fact g02 (by simp), hA]
  refine W.loop (fun m τ hh => h3 = hh ∧ ∃ i : Nat, m + i = S.frames.length ∧ τ 1 = .ptr (some (h.length, 0)) ∧ τ 2 = .ptr (some (h.length + 1, 0)) ∧ τ 4 = .bool ((S.frames.take i).any unpQ) ∧ τ 5 = .int .i64 i ∧ ∀ f ∈ S.frames.take i, emptyQ f = false) ?_ (m := S.frames.length) ?_
  rotate_left
  · refine ⟨rfl, 0, ?_⟩
    simp only [List.take_zero, List.any_nil]
    simp -dsimp (disch := first | with_reducible assumption | omega | (intro h_; cases h_; done) | (simp only [LN] <;> omega) | (simp only [LF]; done) | (repeat (first | with_reducible assumption | apply Ext.refl | apply Ext.app | (apply Ext.set <;> omega) | (refine Ext.trans ?_ (by assumption))))) only [AX, TY, AD, mapPut, entsOf, oneV, builtinV, idsOf, mapId, touchB, Nat.reduceLT, Nat.reduceLeDiff, Nat.reduceEqDiff, Nat.reduceAdd, Nat.reduceMul, Int.reduceBEq, Int.reduceEq, Int.reduceNeg, Int.reduceLT, Int.reduceLE, Int.reduceAdd, Int.reduceSub, Int.reduceMul, Int.reduceToNat, Int.reduceGT, Nat.reduceBEq, Nat.reducePow, Nat.reduceGT, reduceCtorEq, ↓reduceIte]
    repeat' (first | assumption | refine And.intro ?_ ?_)
    all_goals first | rfl | omega | (simp; done) | (simp; omega; done) | skip
  rintro m τ _ ⟨rfl, i, hm, t1, t2, t4, t5, hno⟩
  by_cases h4 : (i : Int) < (S.frames.length : Int)
  · have hi : i < S.frames.length := by omega
    have hl0 := gr3.sl.load0 (.refl _) hi (m := 1) (by decide)
    have hl2 := gr3.sl.load (.refl _) hi (o := 2) (m := 1) (by decide)
    have htk := List.take_succ_eq_append_getElem hi
    have hmem := List.getElem_mem hi
    simp only [Fr.enc, List.take, List.drop] at hl0 hl2
    by_cases hem : (S.frames[i]).page < 0
    · have hfi : S.frames.findIdx? emptyQ = some i := List.findIdx?_eq_some_iff_getElem.2 ⟨hi, decide_eq_true hem, fun j hj => by
        have := hno S.frames[j] (by rw [List.mem_take_iff_getElem]; exact ⟨j, by omega, rfl⟩)
        simp [this]⟩
      have hl3 := lt_of_some g13
      have ex : ∀ B : O, Ext h (h3.set (h.length + 1) B) := fun B => Ext.set e3 (by omega) _
      simp -dsimp (disch := first | with_reducible assumption | omega | (intro h_; cases h_; done) | (simp only [LN] <;> omega) | (simp only [LF]; done) | (repeat (first | with_reducible assumption | apply Ext.refl | apply Ext.app | (apply Ext.set <;> omega) | (refine Ext.trans ?_ (by assumption))))) only [AX, TY, AD, mapPut, entsOf, oneV, builtinV, idsOf, mapId, touchB, Nat.reduceLT, Nat.reduceLeDiff, Nat.reduceEqDiff, Nat.reduceAdd, Nat.reduceMul, Int.reduceBEq, Int.reduceEq, Int.reduceNeg, Int.reduceLT, Int.reduceLE, Int.reduceAdd, Int.reduceSub, Int.reduceMul, Int.reduceToNat, Int.reduceGT, Nat.reduceBEq, Nat.reducePow, Nat.reduceGT, reduceCtorEq, ↓reduceIte, t1, t2, t4, t5, h4, loadN_fact g03, hl0, hem, storeN_fact g13 (by simp)]
      refine ⟨ex _, .inr ⟨i, S.hand, [], fp', fc', o', .inl ⟨hfi, rfl, rfl⟩, ?_, ?_⟩⟩
      · rw [clrF_nil]
      · rw [clrF_nil]
        exact (gr3.keep fun j hj => set_other _ (by have := gr3.base j hj; omega)).base_le (by omega)
    have hno' : ∀ f ∈ S.frames.take (i + 1), emptyQ f = false := fun f hf => by
      rw [htk, List.mem_append, List.mem_singleton] at hf
      rcases hf with hf | rfl
      · exact hno f hf
      · exact decide_eq_false hem
    have hany : (S.frames.take (i + 1)).any unpQ = ((S.frames.take i).any unpQ || unpQ S.frames[i]) := by
      rw [htk, List.any_append]; simp
    have hun : unpQ S.frames[i] = decide ((S.frames[i]).pins = 0) := rfl
    cases hb : (S.frames.take i).any unpQ
    · rw [hb] at t4 hany
      simp -dsimp (disch := first | with_reducible assumption | omega | (intro h_; cases h_; done) | (simp only [LN] <;> omega) | (simp only [LF]; done) | (repeat (first | with_reducible assumption | apply Ext.refl | apply Ext.app | (apply Ext.set <;> omega) | (refine Ext.trans ?_ (by assumption))))) only [AX, TY, AD, mapPut, entsOf, oneV, builtinV, idsOf, mapId, touchB, Nat.reduceLT, Nat.reduceLeDiff, Nat.reduceEqDiff, Nat.reduceAdd, Nat.reduceMul, Int.reduceBEq, Int.reduceEq, Int.reduceNeg, Int.reduceLT, Int.reduceLE, Int.reduceAdd, Int.reduceSub, Int.reduceMul, Int.reduceToNat, Int.reduceGT, Nat.reduceBEq, Nat.reducePow, Nat.reduceGT, reduceCtorEq, ↓reduceIte, t1, t2, t4, t5, h4, loadN_fact g03, hl0, hem, hl2, wrap_in]
      refine ⟨m - 1, by omega, i + 1, ?_⟩
      rw [hany, hun]
      repeat' (first | assumption | refine And.intro ?_ ?_)
      all_goals first | rfl | omega | (simp; done) | (simp; omega; done) | skip
    · rw [hb] at t4 hany
      simp -dsimp (disch := first | with_reducible assumption | omega | (intro h_; cases h_; done) | (simp only [LN] <;> omega) | (simp only [LF]; done) | (repeat (first | with_reducible assumption | apply Ext.refl | apply Ext.app | (apply Ext.set <;> omega) | (refine Ext.trans ?_ (by assumption))))) only [AX, TY, AD, mapPut, entsOf, oneV, builtinV, idsOf, mapId, touchB, Nat.reduceLT, Nat.reduceLeDiff, Nat.reduceEqDiff, Nat.reduceAdd, Nat.reduceMul, Int.reduceBEq, Int.reduceEq, Int.reduceNeg, Int.reduceLT, Int.reduceLE, Int.reduceAdd, Int.reduceSub, Int.reduceMul, Int.reduceToNat, Int.reduceGT, Nat.reduceBEq, Nat.reducePow, Nat.reduceGT, reduceCtorEq, ↓reduceIte, t1, t2, t4, t5, h4, loadN_fact g03, hl0, hem, wrap_in]
      refine ⟨m - 1, by omega, i + 1, ?_⟩
      rw [hany]
      repeat' (first | assumption | refine And.intro ?_ ?_)
      all_goals first | rfl | omega | (simp; done) | (simp; omega; done) | skip
  have hti : S.frames.take i = S.frames := List.take_of_length_le (by omega)
  rw [hti] at t4 hno
  have hfi : S.frames.findIdx? emptyQ = none := List.findIdx?_eq_none_iff.2 hno
  cases hany : S.frames.any unpQ
  · have hno : ∀ f ∈ S.frames, f.pins ≠ 0 := fun f hf z => by
      have := List.any_eq_false.1 hany f hf
      unfold unpQ at this; simp [z] at this
    rw [hany] at t4
    have hl3 := lt_of_some g13
    have ex : ∀ B : O, Ext h (h3.set (h.length + 1) B) := fun B => Ext.set e3 (by omega) _
    simp -dsimp (disch := first | with_reducible assumption | omega | (intro h_; cases h_; done) | (simp only [LN] <;> omega) | (simp only [LF]; done) | (repeat (first | with_reducible assumption | apply Ext.refl | apply Ext.app | (apply Ext.set <;> omega) | (refine Ext.trans ?_ (by assumption))))) only [AX, TY, AD, mapPut, entsOf, oneV, builtinV, idsOf, mapId, touchB, Nat.reduceLT, Nat.reduceLeDiff, Nat.reduceEqDiff, Nat.reduceAdd, Nat.reduceMul, Int.reduceBEq, Int.reduceEq, Int.reduceNeg, Int.reduceLT, Int.reduceLE, Int.reduceAdd, Int.reduceSub, Int.reduceMul, Int.reduceToNat, Int.reduceGT, Nat.reduceBEq, Nat.reducePow, Nat.reduceGT, reduceCtorEq, ↓reduceIte, t1, t2, t4, t5, h4, loadN_fact g03, storeN_fact g13 (by simp)]
    exact ⟨ex _, .inl ⟨hfi, hno, fp', fc', rfl⟩⟩
  rw [hany] at t4
  obtain ⟨f0, hf0, hq0⟩ := List.any_eq_true.1 hany
  obtain ⟨j0, hj0, rfl⟩ := List.getElem_of_mem hf0
  have hp0 : ¬ 0 < pinsAt S.frames j0 := by
    unfold pinsAt unpQ at *
    rw [List.getElem?_eq_getElem hj0]
    simp only [decide_eq_true_eq] at hq0
    simp [hq0]
  have hn0 : ¬ (S.frames.length : Int) = 0 := by omega
  simp -dsimp (disch := first | with_reducible assumption | omega | (intro h_; cases h_; done) | (simp only [LN] <;> omega) | (simp only [LF]; done) | (repeat (first | with_reducible assumption | apply Ext.refl | apply Ext.app | (apply Ext.set <;> omega) | (refine Ext.trans ?_ (by assumption))))) only [AX, TY, AD, mapPut, entsOf, oneV, builtinV, idsOf, mapId, touchB, Nat.reduceLT, Nat.reduceLeDiff, Nat.reduceEqDiff, Nat.reduceAdd, Nat.reduceMul, Int.reduceBEq, Int.reduceEq, Int.reduceNeg, Int.reduceLT, Int.reduceLE, Int.reduceAdd, Int.reduceSub, Int.reduceMul, Int.reduceToNat, Int.reduceGT, Nat.reduceBEq, Nat.reducePow, Nat.reduceGT, reduceCtorEq, ↓reduceIte, t1, t2, t4, t5, h4, loadN_fact g03]
  refine W.loop (fun m τ hh => ∃ t : Nat, m + t = 2 * S.frames.length ∧ τ 1 = .ptr (some (h.length, 0)) ∧ τ 2 = .ptr (some (h.length + 1, 0)) ∧ τ 6 = .int .i64 (hx S.frames.length S.hand t) ∧ Gr g.length hh fp' fc' o' 5 Fr.enc (clrF S.frames (clL S.frames S.hand t)) ∧ hh.length = h3.length ∧ (∀ j, o' ≠ some j → hh[j]? = h3[j]?) ∧ ∀ t', t' < t → ¬ stops S.frames S.hand t') ?_ (m := 2 * S.frames.length) ?_
  rotate_left
  · have hz : Gr g.length h3 fp' fc' o' 5 Fr.enc (clrF S.frames (clL S.frames S.hand 0)) := by
      show Gr g.length h3 fp' fc' o' 5 Fr.enc (clrF S.frames [])
      rw [clrF_nil]; exact gr3
    have hz0 := hx_zero hhand
    refine ⟨0, ?_⟩
    rw [hz0]
    simp -dsimp (disch := first | with_reducible assumption | omega | (intro h_; cases h_; done) | (simp only [LN] <;> omega) | (simp only [LF]; done) | (repeat (first | with_reducible assumption | apply Ext.refl | apply Ext.app | (apply Ext.set <;> omega) | (refine Ext.trans ?_ (by assumption))))) only [AX, TY, AD, mapPut, entsOf, oneV, builtinV, idsOf, mapId, touchB, Nat.reduceLT, Nat.reduceLeDiff, Nat.reduceEqDiff, Nat.reduceAdd, Nat.reduceMul, Int.reduceBEq, Int.reduceEq, Int.reduceNeg, Int.reduceLT, Int.reduceLE, Int.reduceAdd, Int.reduceSub, Int.reduceMul, Int.reduceToNat, Int.reduceGT, Nat.reduceBEq, Nat.reducePow, Nat.reduceGT, reduceCtorEq, ↓reduceIte, t1, t2]
    repeat' (first | assumption | refine And.intro ?_ ?_)
    all_goals first | rfl | omega | (simp; done) | (simp; omega; done) | skip
  clear t1 t2 t4 t5 h4
  rintro m τ hh ⟨t, hm, t1, t2, t6, gt, hhl, hhk, no⟩
  have ht2 : t < 2 * S.frames.length := vic_few hhand no hj0 hp0 (by omega)
  have hj : hx S.frames.length S.hand t < S.frames.length := hx_lt (by omega)
  have hsu := hx_succ S.frames.length S.hand t
  have hstp : stops S.frames S.hand t ↔ ¬ 0 < pinsAt S.frames (hx S.frames.length S.hand t) ∧ (refAt S.frames (hx S.frames.length S.hand t) = false ∨ ∃ t', t' < t ∧ hx S.frames.length S.hand t' = hx S.frames.length S.hand t) := Iff.rfl
  have hcm := clL_mem (fs := S.frames) (hand := S.hand) (t := t)
  have hcs : clL S.frames S.hand (t + 1) = if 0 < pinsAt S.frames (hx S.frames.length S.hand t) then clL S.frames S.hand t else clL S.frames S.hand t ++ [(hx S.frames.length S.hand t : Int)] := rfl
  generalize hjj : hx S.frames.length S.hand t = j at *
  generalize hcl : clL S.frames S.hand t = cl at *
  have hjc : j < (clrF S.frames cl).length := by rw [clrF_len]; exact hj
  have g0h := (hhk h.length (fun z => by have := gr3.base _ z; omega)).trans g03
  have g1h := (hhk (h.length + 1) (fun z => by have := gr3.base _ z; omega)).trans g13
  have hl2 := gt.sl.load (.refl _) hjc (o := 2) (m := 1) (by decide)
  have hl4 := gt.sl.load (.refl _) hjc (o := 4) (m := 1) (by decide)
  have hcg := clrF_get (fs := S.frames) (cl := cl) hj
  have hpa : pinsAt S.frames j = (S.frames[j]).pins := by unfold pinsAt; rw [List.getElem?_eq_getElem hj]; rfl
  have hra : refAt S.frames j = (S.frames[j]).ref := by unfold refAt; rw [List.getElem?_eq_getElem hj]; rfl
  have hpc : ((clrF S.frames cl)[j]).pins = (S.frames[j]).pins := by rw [hcg]; split <;> rfl
  have hrc : ((clrF S.frames cl)[j]).ref = ((S.frames[j]).ref && !decide ((j : Int) ∈ cl)) := by
    rw [hcg]
    split
    · rename_i z; simp [z]
    · rename_i z; simp [z]
  have hpos := (v.fr j hj).1
  have hrem : ((j : Int) + 1).tmod (S.frames.length : Int) = (((j + 1) % S.frames.length : Nat) : Int) := rfl
  have hji : (j : Int) < (S.frames.length : Int) := by omega
  have hst := gt.store hjc (o := 4) (vs := [.bool false]) (by simp) rfl { (clrF S.frames cl)[j] with ref := false } rfl
  rw [clrF_snoc hj] at hst
  obtain ⟨h5, hst, g5, hl5, hk5, hb5⟩ := hst
  have nx : ¬ stops S.frames S.hand t → ∀ t', t' < t + 1 → ¬ stops S.frames S.hand t' := fun z t' h1 => by
    by_cases c : t' = t
    · subst c; exact z
    · exact no t' (by omega)
  simp only [Fr.enc, List.take, List.drop, hpc, hrc] at hl2 hl4
  by_cases hp : 0 < (S.frames[j]).pins
  · have hns : ¬ stops S.frames S.hand t := by rw [hstp, hpa]; exact fun z => z.1 hp
    have hno' := nx hns
    have hpz : ¬ (S.frames[j]).pins = 0 := by omega
    rw [hpa, if_pos hp] at hcs
    have gt' : Gr g.length hh fp' fc' o' 5 Fr.enc (clrF S.frames (clL S.frames S.hand (t + 1))) := by rw [hcs]; exact gt
    simp -dsimp (disch := first | with_reducible assumption | omega | (intro h_; cases h_; done) | (simp only [LN] <;> omega) | (simp only [LF]; done) | (repeat (first | with_reducible assumption | apply Ext.refl | apply Ext.app | (apply Ext.set <;> omega) | (refine Ext.trans ?_ (by assumption))))) only [AX, TY, AD, mapPut, entsOf, oneV, builtinV, idsOf, mapId, touchB, Nat.reduceLT, Nat.reduceLeDiff, Nat.reduceEqDiff, Nat.reduceAdd, Nat.reduceMul, Int.reduceBEq, Int.reduceEq, Int.reduceNeg, Int.reduceLT, Int.reduceLE, Int.reduceAdd, Int.reduceSub, Int.reduceMul, Int.reduceToNat, Int.reduceGT, Nat.reduceBEq, Nat.reducePow, Nat.reduceGT, reduceCtorEq, ↓reduceIte, t1, t2, t6, loadN_fact g0h, hji, hl2, hp, hpz, hn0, hrem, wrap_in]
    refine ⟨m - 1, by omega, t + 1, ?_⟩
    rw [hsu]
    repeat' (first | assumption | refine And.intro ?_ ?_)
    all_goals first | rfl | omega | (simp; done) | (simp; omega; done) | skip
  have hin : (j : Int) ∈ cl ↔ ∃ t', t' < t ∧ hx S.frames.length S.hand t' = j := by
    rw [hcm]
    constructor
    · rintro ⟨t', h1, h2, _⟩; exact ⟨t', h1, by omega⟩
    · rintro ⟨t', h1, h2⟩
      refine ⟨t', h1, by omega, ?_⟩
      rw [h2, hpa]; exact hp
  have hpz : (S.frames[j]).pins = 0 := by omega
  rw [hpa, if_neg hp] at hcs
  by_cases hs : stops S.frames S.hand t
  · have hs' := hs
    rw [hstp, hra] at hs'
    have hrf : ((S.frames[j]).ref && !decide ((j : Int) ∈ cl)) = false := by
      rcases hs'.2 with z | z
      · rw [z]; rfl
      · have := hin.2 z
        simp [this]
    rw [hrf] at hl4
    have hl0h := lt_of_some g0h
    have hl1h := lt_of_some g1h
    have gX : ∀ A : O, (hh.set h.length A)[h.length + 1]? = _ := fun A => (set_other A hne).trans g1h
    have eh : Ext h hh := e3.below (Nat.le_refl _) fun i hi => hhk i fun z => by have := gr3.base _ z; omega
    have ex : ∀ A B : O, Ext h ((hh.set h.length A).set (h.length + 1) B) := fun A B => Ext.set (Ext.set eh (Nat.le_refl _) _) (by omega) _
    simp -dsimp (disch := first | with_reducible assumption | omega | (intro h_; cases h_; done) | (simp only [LN] <;> omega) | (simp only [LF]; done) | (repeat (first | with_reducible assumption | apply Ext.refl | apply Ext.app | (apply Ext.set <;> omega) | (refine Ext.trans ?_ (by assumption))))) only [AX, TY, AD, mapPut, entsOf, oneV, builtinV, idsOf, mapId, touchB, Nat.reduceLT, Nat.reduceLeDiff, Nat.reduceEqDiff, Nat.reduceAdd, Nat.reduceMul, Int.reduceBEq, Int.reduceEq, Int.reduceNeg, Int.reduceLT, Int.reduceLE, Int.reduceAdd, Int.reduceSub, Int.reduceMul, Int.reduceToNat, Int.reduceGT, Nat.reduceBEq, Nat.reducePow, Nat.reduceGT, reduceCtorEq, ↓reduceIte, t1, t2, t6, loadN_fact g0h, hji, hl2, hp, hl4, hn0, hrem, wrap_in, storeN_fact g0h (by simp), storeN_fact (gX _) (by simp)]
    refine ⟨ex _ _, .inr ⟨j, (j + 1) % S.frames.length, cl, fp', fc', o', .inr ⟨hfi, t, ⟨hs, no, hcm⟩, hjj.symm, hsu.symm⟩, ?_, ?_⟩⟩
    · simp only [bpV, clrF_len]
    · exact (gt.keep fun i hi => by have := gt.base i hi; rw [set_other _ (by omega), set_other _ (by omega)]).base_le (by omega)
  · have hno' := nx hs
    have hs' := hs
    rw [hstp, hpa, hra] at hs'
    have hrt : (S.frames[j]).ref = true := by
      cases hr : (S.frames[j]).ref
      · exact absurd ⟨hp, .inl hr⟩ hs'
      · rfl
    have hnin : ¬ (j : Int) ∈ cl := fun z => hs' ⟨hp, .inr (hin.1 z)⟩
    have hrf : ((S.frames[j]).ref && !decide ((j : Int) ∈ cl)) = true := by simp [hrt, hnin]
    rw [hrf] at hl4
    have gt' : Gr g.length h5 fp' fc' o' 5 Fr.enc (clrF S.frames (clL S.frames S.hand (t + 1))) := by rw [hcs]; exact g5
    have g0h5 := (hk5 h.length (fun z => by have := gr3.base _ z; omega)).trans g0h
    have hhl5 : h5.length = h3.length := by omega
    have hhk5 : ∀ j, o' ≠ some j → h5[j]? = h3[j]? := fun j hj => by rw [hk5 j hj, hhk j hj]
    simp -dsimp (disch := first | with_reducible assumption | omega | (intro h_; cases h_; done) | (simp only [LN] <;> omega) | (simp only [LF]; done) | (repeat (first | with_reducible assumption | apply Ext.refl | apply Ext.app | (apply Ext.set <;> omega) | (refine Ext.trans ?_ (by assumption))))) only [AX, TY, AD, mapPut, entsOf, oneV, builtinV, idsOf, mapId, touchB, Nat.reduceLT, Nat.reduceLeDiff, Nat.reduceEqDiff, Nat.reduceAdd, Nat.reduceMul, Int.reduceBEq, Int.reduceEq, Int.reduceNeg, Int.reduceLT, Int.reduceLE, Int.reduceAdd, Int.reduceSub, Int.reduceMul, Int.reduceToNat, Int.reduceGT, Nat.reduceBEq, Nat.reducePow, Nat.reduceGT, reduceCtorEq, ↓reduceIte, t1, t2, t6, loadN_fact g0h, hji, hl2, hp, hl4, eq_true hpz, hst, loadN_fact g0h5, hn0, hrem, wrap_in]
    refine ⟨m - 1, by omega, t + 1, ?_⟩
    rw [hsu]
    repeat' (first | assumption | refine And.intro ?_ ?_)
    all_goals first | rfl | omega | (simp; done) | (simp; omega; done) | skip
end Go.Proofs.YtmjfhckioaempaaA
