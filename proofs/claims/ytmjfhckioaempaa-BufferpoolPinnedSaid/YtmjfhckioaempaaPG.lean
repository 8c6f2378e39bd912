/- Words of this session: chapter 16: the disk: Read, New; Data. Words of this session: chapter 16: Data, New; equal bytes; few calls; frames; find. Words of this session: chapter 16: a pool in memory; find, Pins, Reads, pinned, Unpin, Update. -/
import Derived.Test.YtmjfhckioaempaaPD
namespace Go.Proofs.YtmjfhckioaempaaA
open Go Go.Proofs Go.RowKit
set_option linter.unusedVariables false
set_option linter.unusedSimpArgs false
set_option maxRecDepth 10000
set_option maxHeartbeats 2000000
theorem copy_in {b : Nat} {h : Heap} {p q : Option (Nat × Nat)} {c xc oid : Option Nat} {ys zs : List Int} (g : Gr b h p c oid 1 eb ys) (s : Sl h q 1 eb zs) {k dl : Nat} {p2 : Option (Nat × Nat)} (hk : k + zs.length ≤ ys.length) (hd : zs.length ≤ dl) (hz : 1 ≤ zs.length) (h2 : p2 = (advV 1 k p)) :
    ∃ h', cpv 1 p2 dl (.slice q zs.length xc) zs.length h = some (.int .i64 zs.length, h') ∧ Gr b h' p c oid 1 eb (putL ys k zs) ∧ h'.length = h.length ∧ ∀ i, oid ≠ some i → h'[i]? = h[i]? := by
  subst h2
  rcases g.kind with ⟨rfl, _, _⟩ | ⟨id, off, C, kd, rfl, rfl, e3, e4⟩
  · have h0 : ys.length = 0 := by rw [g.sl.nil rfl]; rfl
    omega
  obtain ⟨h', hst, g', hl, hf⟩ := g.copyIn hk
  have hfi := s.first xc (Nat.le_refl _) zs.length
  rw [List.take_of_length_le (Nat.le_refl _)] at hfi
  have hne : ¬ zs.flatMap eb = [] := fun e => by
    have := congrArg List.length e
    rw [flatMap_len (eb_w zs)] at this
    simp at this; subst this; simp at hz
  refine ⟨h', ?_, g', hl, fun i hi => hf i fun e => hi (by rw [e])⟩
  unfold cpv
  rw [show Nat.min zs.length dl = zs.length from Nat.min_eq_left hd, hfi]
  simp only [advV, Nat.mul_one]
  rw [if_neg hne]
  rw [hst]; rfl
structure LRd (b : Nat) (h : Heap) (di du : Nat) (D : Dk) (oid : Option Nat) (M : Nat → Prop) (at' n : Nat) (pp : Option (Nat × Nat)) (pc : Option Nat) (i : Nat) (τ : Tp) (hh : Heap) : Prop where
  t1 : τ 1 = .int .i64 at'
  t2 : τ 2 = .int .i64 n
  t35 : τ 35 = .slice pp D.pend.length pc
  t36 : τ 36 = .int .i64 D.pend.length
  t37 : τ 37 = .int .i64 i
  e : Ext h hh
  out : ∃ p' c' o', τ 8 = .slice p' n c' ∧ Gr h.length hh p' c' o' 1 eb (((applyAll D.dur (D.pend.take i)).drop at').take n)
theorem read_ok {b : Nat} {h : Heap} {di du : Nat} {D : Dk} {oid : Option Nat} {M : Nat → Prop} (d : DAt b h di du D oid M) {at' n : Nat} (hin : at' + n ≤ D.dur.length) :
    WR (callE Try.prog hk 23 [.ptr (some (di, 0)), .int .i64 at', .int .i64 n] h) fun r h' => Ext h h' ∧ ((D.failed = true ∧ r = .tuple [.slice none 0 (some 0), .int .i64 11]) ∨ (D.failed = false ∧ ∃ p' c' o', r = .tuple [.slice p' n c', .int .i64 0] ∧ Gr h.length h' p' c' o' 1 eb (((applyAll D.dur D.pend).drop at').take n))) := by
  have hlt := d.lt
  have sm := d.small
  obtain ⟨pp, pc, hb, gp⟩ := d.blk
  have hn := gp.sl.nil'
  have hl := gp.sl.small
  refine WR.call (hH := rfl) Try.func23 rfl (n := 77) rfl rfl (by simp) ?_
  by_cases hf : D.failed = true
  · rw [hf] at hb
    simp -dsimp (disch := first | with_reducible assumption | omega | (intro h_; cases h_; done) | (simp only [LN] <;> omega) | (simp only [LF]; done) | (repeat (first | with_reducible assumption | apply Ext.refl | apply Ext.app | (apply Ext.set <;> omega) | (refine Ext.trans ?_ (by assumption))))) only [AX, TY, AD, mapPut, entsOf, oneV, builtinV, idsOf, mapId, touchB, Nat.reduceLT, Nat.reduceLeDiff, Nat.reduceEqDiff, Nat.reduceAdd, Nat.reduceMul, Int.reduceBEq, Int.reduceEq, Int.reduceNeg, Int.reduceLT, Int.reduceLE, Int.reduceAdd, Int.reduceSub, Int.reduceMul, Int.reduceToNat, Int.reduceGT, Nat.reduceBEq, Nat.reducePow, Nat.reduceGT, reduceCtorEq, ↓reduceIte, loadN_fact hb]
    exact ⟨.refl _, .inl hf⟩
  have hf' : D.failed = false := by simpa using hf
  rw [hf'] at hb
  simp -dsimp (disch := first | with_reducible assumption | omega | (intro h_; cases h_; done) | (simp only [LN] <;> omega) | (simp only [LF]; done) | (repeat (first | with_reducible assumption | apply Ext.refl | apply Ext.app | (apply Ext.set <;> omega) | (refine Ext.trans ?_ (by assumption))))) only [AX, TY, AD, mapPut, entsOf, oneV, builtinV, idsOf, mapId, touchB, Nat.reduceLT, Nat.reduceLeDiff, Nat.reduceEqDiff, Nat.reduceAdd, Nat.reduceMul, Int.reduceBEq, Int.reduceEq, Int.reduceNeg, Int.reduceLT, Int.reduceLE, Int.reduceAdd, Int.reduceSub, Int.reduceMul, Int.reduceToNat, Int.reduceGT, Nat.reduceBEq, Nat.reducePow, Nat.reduceGT, reduceCtorEq, ↓reduceIte, loadN_fact hb]
  refine (inside_ok d at' n hin).mono ?_
  rintro _ _ ⟨rfl, rfl⟩
  have hrs : Rs h (some (du, 0)) (some D.dur.length) 1 eb D.dur := Rs.ofSome (Sl.whole d.dur (eb_w _) rfl (by omega)) (Nat.le_refl _)
  obtain ⟨p2, c2, hcut, rs2⟩ := hrs.cut (a := at') (b := at' + n) (by omega) hin
  have hw1 : IntKind.i64.wrap ((at' : Int) + (n : Int)) = ((at' + n : Nat) : Int) := by rw [IntKind.wrap_i64]; omega
  have hl2 : ((D.dur.take (at' + n)).drop at').length = n := by rw [List.length_drop, List.length_take]; omega
  have hcut' := fun k k' => hcut h k k' (.refl _)
  rw [show at' + n - at' = n by omega] at hcut'
  have hcl := clone46_ok (c := c2) rs2.sl (by rw [hl2]; omega)
  rw [hl2] at hcl
  simp -dsimp (disch := first | with_reducible assumption | omega | (intro h_; cases h_; done) | (simp only [LN] <;> omega) | (simp only [LF]; done) | (repeat (first | with_reducible assumption | apply Ext.refl | apply Ext.app | (apply Ext.set <;> omega) | (refine Ext.trans ?_ (by assumption))))) only [AX, TY, AD, mapPut, entsOf, oneV, builtinV, idsOf, mapId, touchB, Nat.reduceLT, Nat.reduceLeDiff, Nat.reduceEqDiff, Nat.reduceAdd, Nat.reduceMul, Int.reduceBEq, Int.reduceEq, Int.reduceNeg, Int.reduceLT, Int.reduceLE, Int.reduceAdd, Int.reduceSub, Int.reduceMul, Int.reduceToNat, Int.reduceGT, Nat.reduceBEq, Nat.reducePow, Nat.reduceGT, reduceCtorEq, ↓reduceIte, loadN_fact hb, hw1, hcut']
  refine hcl.mono ?_
  rintro _ h1 ⟨e1, p', c', o', rfl, gr⟩
  have hb1 := e1 _ _ hb
  have d1 := d.ext e1
  have heq : (D.dur.take (at' + n)).drop at' = (D.dur.drop at').take n := by rw [List.drop_take, show at' + n - at' = n by omega]
  rw [heq] at gr
  simp -dsimp (disch := first | with_reducible assumption | omega | (intro h_; cases h_; done) | (simp only [LN] <;> omega) | (simp only [LF]; done) | (repeat (first | with_reducible assumption | apply Ext.refl | apply Ext.app | (apply Ext.set <;> omega) | (refine Ext.trans ?_ (by assumption))))) only [AX, TY, AD, mapPut, entsOf, oneV, builtinV, idsOf, mapId, touchB, Nat.reduceLT, Nat.reduceLeDiff, Nat.reduceEqDiff, Nat.reduceAdd, Nat.reduceMul, Int.reduceBEq, Int.reduceEq, Int.reduceNeg, Int.reduceLT, Int.reduceLE, Int.reduceAdd, Int.reduceSub, Int.reduceMul, Int.reduceToNat, Int.reduceGT, Nat.reduceBEq, Nat.reducePow, Nat.reduceGT, reduceCtorEq, ↓reduceIte, loadN_fact hb1]
  refine W.loop (fun m τ hh => ∃ i, m + i = D.pend.length ∧ LRd b h di du D oid M at' n pp pc i τ hh) ?_ (m := D.pend.length) ?_
  rotate_left
  · refine ⟨0, by simp, ?_⟩
    constructor <;> (try first | assumption | ((repeat (first | assumption | apply Ext.refl | apply Ext.app | (apply Ext.set <;> omega) | exact Ext.trans (by assumption) (by assumption) | (refine Ext.trans ?_ (by assumption)))); done) | (refine Sl.ext (by assumption) ?_; (repeat (first | assumption | apply Ext.refl | apply Ext.app | (apply Ext.set <;> omega) | exact Ext.trans (by assumption) (by assumption) | (refine Ext.trans ?_ (by assumption)))); done) | (simp -dsimp (disch := first | with_reducible assumption | omega | (intro h_; cases h_; done) | (simp only [LN] <;> omega) | (simp only [LF]; done) | (repeat (first | with_reducible assumption | apply Ext.refl | apply Ext.app | (apply Ext.set <;> omega) | (refine Ext.trans ?_ (by assumption))))) only [AX, TY, AD, mapPut, entsOf, oneV, builtinV, idsOf, mapId, touchB, Nat.reduceLT, Nat.reduceLeDiff, Nat.reduceEqDiff, Nat.reduceAdd, Nat.reduceMul, Int.reduceBEq, Int.reduceEq, Int.reduceNeg, Int.reduceLT, Int.reduceLE, Int.reduceAdd, Int.reduceSub, Int.reduceMul, Int.reduceToNat, Int.reduceGT, Nat.reduceBEq, Nat.reducePow, Nat.reduceGT, reduceCtorEq, ↓reduceIte, Int.natCast_add, Int.natCast_one, Int.natCast_zero]; try (first | assumption | with_reducible rfl)))
    exact ⟨p', c', o', rfl, gr⟩
  clear hcl hcut hcut' hb1 d1 gr e1
  rintro m τ hh ⟨i, hm, t1, t2, t35, t36, t37, e, ⟨p', c', o', t8, gr⟩⟩
  have le := e.le
  by_cases h2 : (i : Int) < (D.pend.length : Int)
  rotate_left
  · simp -dsimp (disch := first | with_reducible assumption | omega | (intro h_; cases h_; done) | (simp only [LN] <;> omega) | (simp only [LF]; done) | (repeat (first | with_reducible assumption | apply Ext.refl | apply Ext.app | (apply Ext.set <;> omega) | (refine Ext.trans ?_ (by assumption))))) only [AX, TY, AD, mapPut, entsOf, oneV, builtinV, idsOf, mapId, touchB, Nat.reduceLT, Nat.reduceLeDiff, Nat.reduceEqDiff, Nat.reduceAdd, Nat.reduceMul, Int.reduceBEq, Int.reduceEq, Int.reduceNeg, Int.reduceLT, Int.reduceLE, Int.reduceAdd, Int.reduceSub, Int.reduceMul, Int.reduceToNat, Int.reduceGT, Nat.reduceBEq, Nat.reducePow, Nat.reduceGT, reduceCtorEq, ↓reduceIte, t1, t2, t8, t35, t36, t37, h2]
    rw [show D.pend.take i = D.pend from List.take_of_length_le (by omega)] at gr
    exact ⟨e, .inr ⟨hf', p', c', o', rfl, gr⟩⟩
  have hi : i < D.pend.length := by omega
  have hmem := List.getElem_mem hi
  have hap := applyAll_snoc (l := D.dur) hi
  have hla := gp.sl.load0 e hi (m := 2) (by decide)
  generalize D.pend[i] = w at hmem hap hla
  simp only [Pw.enc, List.take] at hla
  have hlen : (applyAll D.dur (D.pend.take i)).length = D.dur.length := applyAll_len fun x hx => d.inr x (List.mem_of_mem_take hx)
  have hwi := d.inr w hmem
  have hrp := read_put (l := applyAll D.dur (D.pend.take i)) (d := w.data) (off := w.off) (at' := at') (n := n) (by rw [hlen]; exact hwi) (by rw [hlen]; exact hin)
  rw [← hap] at hrp
  have hyl : (((applyAll D.dur (D.pend.take i)).drop at').take n).length = n := by rw [List.length_take, List.length_drop, hlen]; omega
  obtain ⟨g, hg, gx, eg, hgl⟩ : ∃ g, hh ++ [O.cells [V.int .i64 w.off, V.slice w.p w.data.length w.c] .rw] = g ∧ g[hh.length]? = some (O.cells [V.int .i64 w.off, V.slice w.p w.data.length w.c] .rw) ∧ Ext hh g ∧ g.length = hh.length + 1 := ⟨_, rfl, snoc_last _ rfl, (by (repeat (first | assumption | apply Ext.refl | apply Ext.app | (apply Ext.set <;> omega) | exact Ext.trans (by assumption) (by assumption) | (refine Ext.trans ?_ (by assumption))))), by simp⟩
  have hw2 : IntKind.i64.wrap ((w.off : Int) + (w.data.length : Int)) = ((w.off + w.data.length : Nat) : Int) := by rw [IntKind.wrap_i64]; omega
  have hmx : max (at' : Int) (w.off : Int) = ((max at' w.off : Nat) : Int) := by omega
  have hmn : min ((at' + n : Nat) : Int) ((w.off + w.data.length : Nat) : Int) = ((min (at' + n) (w.off + w.data.length) : Nat) : Int) := by omega
  by_cases hc : max at' w.off < min (at' + n) (w.off + w.data.length)
  rotate_left
  · rw [if_neg hc] at hrp
    have hc' : ¬ ((max at' w.off : Nat) : Int) < ((min (at' + n) (w.off + w.data.length) : Nat) : Int) := by omega
    simp -dsimp (disch := first | with_reducible assumption | omega | (intro h_; cases h_; done) | (simp only [LN] <;> omega) | (simp only [LF]; done) | (repeat (first | with_reducible assumption | apply Ext.refl | apply Ext.app | (apply Ext.set <;> omega) | (refine Ext.trans ?_ (by assumption))))) only [AX, TY, AD, mapPut, entsOf, oneV, builtinV, idsOf, mapId, touchB, Nat.reduceLT, Nat.reduceLeDiff, Nat.reduceEqDiff, Nat.reduceAdd, Nat.reduceMul, Int.reduceBEq, Int.reduceEq, Int.reduceNeg, Int.reduceLT, Int.reduceLE, Int.reduceAdd, Int.reduceSub, Int.reduceMul, Int.reduceToNat, Int.reduceGT, Nat.reduceBEq, Nat.reducePow, Nat.reduceGT, reduceCtorEq, ↓reduceIte, t1, t2, t8, t35, t36, t37, h2, hla, hg]
    refine W.drawn [(0, []), (1, [0]), (2, [0]), (3, []), (4, [3, 2, 1, 0]), (5, [4, 3, 2, 1, 0]), (6, [3, 2, 1, 0]), (7, [6, 5, 4, 3, 2, 1, 0]), (8, [6, 5, 4, 3, 2, 1, 0]), (9, [8, 7, 6, 5, 4, 3, 2, 1, 0]), (10, [8, 7, 6, 5, 4, 3, 2, 1, 0]), (11, [8, 7, 6, 5, 4, 3, 2, 1, 0]), (12, [6, 5, 4, 3, 2, 1, 0]), (13, [3, 2, 1, 0]), (14, [13, 12, 11, 10, 9, 8, 7, 6, 5, 4]), (15, [])] (by decide +kernel) ?_
    simp -dsimp (disch := first | with_reducible assumption | omega | (intro h_; cases h_; done) | (simp only [LN] <;> omega) | (simp only [LF]; done) | (repeat (first | with_reducible assumption | apply Ext.refl | apply Ext.app | (apply Ext.set <;> omega) | (refine Ext.trans ?_ (by assumption))))) only [AX, TY, AD, mapPut, entsOf, oneV, builtinV, idsOf, mapId, touchB, Nat.reduceLT, Nat.reduceLeDiff, Nat.reduceEqDiff, Nat.reduceAdd, Nat.reduceMul, Int.reduceBEq, Int.reduceEq, Int.reduceNeg, Int.reduceLT, Int.reduceLE, Int.reduceAdd, Int.reduceSub, Int.reduceMul, Int.reduceToNat, Int.reduceGT, Nat.reduceBEq, Nat.reducePow, Nat.reduceGT, reduceCtorEq, ↓reduceIte, t1, t2, t8, t35, t36, t37, loadN_fact gx, fold_max, fold_min, hw1, hw2, hmx, hmn, hc', wrap_in]
    refine ⟨m - 1, by omega, i + 1, by omega, ?_⟩
    constructor <;> (try first | assumption | ((repeat (first | assumption | apply Ext.refl | apply Ext.app | (apply Ext.set <;> omega) | exact Ext.trans (by assumption) (by assumption) | (refine Ext.trans ?_ (by assumption)))); done) | (refine Sl.ext (by assumption) ?_; (repeat (first | assumption | apply Ext.refl | apply Ext.app | (apply Ext.set <;> omega) | exact Ext.trans (by assumption) (by assumption) | (refine Ext.trans ?_ (by assumption)))); done) | (simp -dsimp (disch := first | with_reducible assumption | omega | (intro h_; cases h_; done) | (simp only [LN] <;> omega) | (simp only [LF]; done) | (repeat (first | with_reducible assumption | apply Ext.refl | apply Ext.app | (apply Ext.set <;> omega) | (refine Ext.trans ?_ (by assumption))))) only [AX, TY, AD, mapPut, entsOf, oneV, builtinV, idsOf, mapId, touchB, Nat.reduceLT, Nat.reduceLeDiff, Nat.reduceEqDiff, Nat.reduceAdd, Nat.reduceMul, Int.reduceBEq, Int.reduceEq, Int.reduceNeg, Int.reduceLT, Int.reduceLE, Int.reduceAdd, Int.reduceSub, Int.reduceMul, Int.reduceToNat, Int.reduceGT, Nat.reduceBEq, Nat.reducePow, Nat.reduceGT, reduceCtorEq, ↓reduceIte, t1, t2, t8, t35, t36, t37, wrap_in, Int.natCast_add, Int.natCast_one, Int.natCast_zero]; try (first | assumption | with_reducible rfl)))
    rw [hrp]
    exact ⟨p', c', o', rfl, gr.ext eg⟩
  rw [if_pos hc] at hrp
  have hc' : ((max at' w.off : Nat) : Int) < ((min (at' + n) (w.off + w.data.length) : Nat) : Int) := by omega
  generalize hF : max at' w.off = F at hrp hc hc' hmx
  generalize hT : min (at' + n) (w.off + w.data.length) = T' at hrp hc hc' hmn
  have hw3 : IntKind.i64.wrap ((F : Int) - (at' : Int)) = ((F - at' : Nat) : Int) := by rw [IntKind.wrap_i64]; omega
  have hw4 : IntKind.i64.wrap ((F : Int) - (w.off : Int)) = ((F - w.off : Nat) : Int) := by rw [IntKind.wrap_i64]; omega
  have hw5 : IntKind.i64.wrap ((T' : Int) - (w.off : Int)) = ((T' - w.off : Nat) : Int) := by rw [IntKind.wrap_i64]; omega
  have grg := gr.ext eg
  have hyl' : (((applyAll D.dur (D.pend.take i)).drop at').take n).length = n := hyl
  have hzl : ((w.data.take (T' - w.off)).drop (F - w.off)).length = T' - F := by rw [List.length_drop, List.length_take]; omega
  obtain ⟨p4, c4, hcut4, rs4⟩ := ((d.dat w hmem).1.ext (e.trans eg)).cut (a := F - w.off) (b := T' - w.off) (by omega) (by omega)
  rw [show T' - w.off - (F - w.off) = T' - F by omega] at hcut4
  have hcut4' := fun k k' => hcut4 g k k' (.refl _)
  have hlo := fun k => sliceV_lo (h := g) (sz := 1) (p := p') (len := n) (c := c') (k := k) (a := ((F - at' : Nat) : Int)) (by omega) (by omega) (fun x hx => by have := grg.room x hx; omega) grg.fit
  rw [Int.toNat_natCast] at hlo
  obtain ⟨h5, hcp, g5, hl5, hf5⟩ := copy_in (dl := n - (F - at')) (xc := c4) grg rs4.sl (k := F - at') (by rw [hzl, hyl]; omega) (by rw [hzl]; omega) (by rw [hzl]; omega) rfl
  rw [hzl] at hcp
  have hcn : (if c' = some (F - at') then p' else advV 1 (F - at') p') = advV 1 (F - at') p' := by
    rw [if_neg]
    intro q
    have := grg.room _ q
    omega
  rw [hcn] at hlo
  simp -dsimp (disch := first | with_reducible assumption | omega | (intro h_; cases h_; done) | (simp only [LN] <;> omega) | (simp only [LF]; done) | (repeat (first | with_reducible assumption | apply Ext.refl | apply Ext.app | (apply Ext.set <;> omega) | (refine Ext.trans ?_ (by assumption))))) only [AX, TY, AD, mapPut, entsOf, oneV, builtinV, idsOf, mapId, touchB, Nat.reduceLT, Nat.reduceLeDiff, Nat.reduceEqDiff, Nat.reduceAdd, Nat.reduceMul, Int.reduceBEq, Int.reduceEq, Int.reduceNeg, Int.reduceLT, Int.reduceLE, Int.reduceAdd, Int.reduceSub, Int.reduceMul, Int.reduceToNat, Int.reduceGT, Nat.reduceBEq, Nat.reducePow, Nat.reduceGT, reduceCtorEq, ↓reduceIte, t1, t2, t8, t35, t36, t37, h2, hla, hg]
  refine W.drawn [(0, []), (1, [0]), (2, [0]), (3, []), (4, [3, 2, 1, 0]), (5, [4, 3, 2, 1, 0]), (6, [3, 2, 1, 0]), (7, [6, 5, 4, 3, 2, 1, 0]), (8, [6, 5, 4, 3, 2, 1, 0]), (9, [8, 7, 6, 5, 4, 3, 2, 1, 0]), (10, [8, 7, 6, 5, 4, 3, 2, 1, 0]), (11, [8, 7, 6, 5, 4, 3, 2, 1, 0]), (12, [6, 5, 4, 3, 2, 1, 0]), (13, [3, 2, 1, 0]), (14, [13, 12, 11, 10, 9, 8, 7, 6, 5, 4]), (15, [])] (by decide +kernel) ?_
  simp -dsimp (disch := first | with_reducible assumption | omega | (intro h_; cases h_; done) | (simp only [LN] <;> omega) | (simp only [LF]; done) | (repeat (first | with_reducible assumption | apply Ext.refl | apply Ext.app | (apply Ext.set <;> omega) | (refine Ext.trans ?_ (by assumption))))) only [AX, TY, AD, mapPut, entsOf, oneV, builtinV, idsOf, mapId, touchB, Nat.reduceLT, Nat.reduceLeDiff, Nat.reduceEqDiff, Nat.reduceAdd, Nat.reduceMul, Int.reduceBEq, Int.reduceEq, Int.reduceNeg, Int.reduceLT, Int.reduceLE, Int.reduceAdd, Int.reduceSub, Int.reduceMul, Int.reduceToNat, Int.reduceGT, Nat.reduceBEq, Nat.reducePow, Nat.reduceGT, reduceCtorEq, ↓reduceIte, t1, t2, t8, t35, t36, t37, loadN_fact gx, fold_max, fold_min, hw1, hw2, hmx, hmn, hc']
  refine W.drawn [(0, []), (1, [0]), (2, [1, 0]), (3, [0]), (4, []), (5, [4, 3, 2, 1, 0]), (6, [4, 3, 2, 1, 0]), (7, [6, 5, 4, 3, 2, 1, 0]), (8, [7, 6, 5, 4, 3, 2, 1, 0]), (9, [7, 6, 5, 4, 3, 2, 1, 0]), (10, [6, 5, 4, 3, 2, 1, 0]), (11, [10, 9, 8, 7, 6, 5, 4, 3, 2, 1, 0]), (12, [11, 10, 9, 8, 7, 6, 5, 4, 3, 2, 1, 0]), (13, [11, 10, 9, 8, 7, 6, 5, 4, 3, 2, 1, 0]), (14, [10, 9, 8, 7, 6, 5, 4, 3, 2, 1, 0]), (15, [4, 3, 2, 1, 0]), (16, [])] (by decide +kernel) ?_
  simp -dsimp (disch := first | with_reducible assumption | omega | (intro h_; cases h_; done) | (simp only [LN] <;> omega) | (simp only [LF]; done) | (repeat (first | with_reducible assumption | apply Ext.refl | apply Ext.app | (apply Ext.set <;> omega) | (refine Ext.trans ?_ (by assumption))))) only [AX, TY, AD, mapPut, entsOf, oneV, builtinV, idsOf, mapId, touchB, Nat.reduceLT, Nat.reduceLeDiff, Nat.reduceEqDiff, Nat.reduceAdd, Nat.reduceMul, Int.reduceBEq, Int.reduceEq, Int.reduceNeg, Int.reduceLT, Int.reduceLE, Int.reduceAdd, Int.reduceSub, Int.reduceMul, Int.reduceToNat, Int.reduceGT, Nat.reduceBEq, Nat.reducePow, Nat.reduceGT, reduceCtorEq, ↓reduceIte, t1, t2, t8, t35, t36, t37, loadN_fact gx, hw3, hw4, hw5, hlo, hcut4', hcp, wrap_in]
  refine ⟨m - 1, by omega, i + 1, by omega, ?_⟩
  have e5 : Ext h h5 := (e.trans eg).below (Nat.le_refl _) fun j hj => hf5 j fun q => by have := grg.base j q; omega
  constructor <;> (try first | assumption | ((repeat (first | assumption | apply Ext.refl | apply Ext.app | (apply Ext.set <;> omega) | exact Ext.trans (by assumption) (by assumption) | (refine Ext.trans ?_ (by assumption)))); done) | (refine Sl.ext (by assumption) ?_; (repeat (first | assumption | apply Ext.refl | apply Ext.app | (apply Ext.set <;> omega) | exact Ext.trans (by assumption) (by assumption) | (refine Ext.trans ?_ (by assumption)))); done) | (simp -dsimp (disch := first | with_reducible assumption | omega | (intro h_; cases h_; done) | (simp only [LN] <;> omega) | (simp only [LF]; done) | (repeat (first | with_reducible assumption | apply Ext.refl | apply Ext.app | (apply Ext.set <;> omega) | (refine Ext.trans ?_ (by assumption))))) only [AX, TY, AD, mapPut, entsOf, oneV, builtinV, idsOf, mapId, touchB, Nat.reduceLT, Nat.reduceLeDiff, Nat.reduceEqDiff, Nat.reduceAdd, Nat.reduceMul, Int.reduceBEq, Int.reduceEq, Int.reduceNeg, Int.reduceLT, Int.reduceLE, Int.reduceAdd, Int.reduceSub, Int.reduceMul, Int.reduceToNat, Int.reduceGT, Nat.reduceBEq, Nat.reducePow, Nat.reduceGT, reduceCtorEq, ↓reduceIte, t1, t2, t8, t35, t36, t37, wrap_in, Int.natCast_add, Int.natCast_one, Int.natCast_zero]; try (first | assumption | with_reducible rfl)))
  rw [hrp]
  exact ⟨p', c', o', rfl, g5⟩
end Go.Proofs.YtmjfhckioaempaaA
namespace Go.Proofs.YtmjfhckioaempaaA
open Go Go.Proofs Go.RowKit
set_option linter.unusedVariables false
set_option linter.unusedSimpArgs false
set_option maxRecDepth 10000
set_option maxHeartbeats 2000000
def datB (fill : Int) (i : Nat) : Int := IntKind.u8.wrap (fill + IntKind.u8.wrap i)
def dat (fill : Int) (n : Nat) : List Int := (List.range n).map (datB fill)
def datP (fill : Int) (n i : Nat) : List Int := (List.range n).map fun j => if j < i then datB fill j else 0
theorem datP_len (fill : Int) (n i : Nat) : (datP fill n i).length = n := by simp [datP]
theorem dat_len (fill : Int) (n : Nat) : (dat fill n).length = n := by simp [dat]
theorem datP_all (fill : Int) (n : Nat) : datP fill n n = dat fill n := List.map_congr_left fun j hj => by rw [if_pos (List.mem_range.1 hj)]
theorem datP_set {fill : Int} {n i : Nat} : (datP fill n i).set i (datB fill i) = datP fill n (i + 1) := by
  apply List.ext_getElem?
  intro j
  by_cases e : i = j
  · subst e
    by_cases hi : i < n
    · rw [List.getElem?_set_self (by rw [datP_len]; exact hi)]
      simp [datP, hi]
    · rw [List.getElem?_eq_none (by simp [datP]; omega), List.getElem?_eq_none (by simp [datP]; omega)]
  · rw [List.getElem?_set_ne e]
    unfold datP
    by_cases hj : j < n
    · simp only [List.getElem?_map, List.getElem?_range hj, Option.map_some]
      congr 1
      by_cases c : j < i
      · rw [if_pos c, if_pos (by omega)]
      · rw [if_neg c, if_neg (by omega)]
    · rw [List.getElem?_eq_none (by simp; omega), List.getElem?_eq_none (by simp; omega)]
theorem reps_eb : ∀ n : Nat, reps n [V.int .u8 0] = (List.replicate n (0 : Int)).flatMap eb
  | 0 => rfl
  | n + 1 => by
    have := reps_eb n
    unfold reps at *
    rw [List.replicate_succ, List.replicate_succ, List.flatten_cons, List.flatMap_cons, this]; rfl
theorem datP_zero (fill : Int) (n : Nat) : datP fill n 0 = List.replicate n 0 := by
  apply List.ext_getElem?
  intro j
  unfold datP
  by_cases hj : j < n
  · simp [hj]
  · rw [List.getElem?_eq_none (by simp; omega), List.getElem?_eq_none (by simp; omega)]
theorem data_ok {h : Heap} (fill : Int) (n : Nat) (hn : n ≤ 100000) :
    WR (callE Try.prog hk 18 [.int .u8 fill, .int .i64 n] h) fun r h' => Ext h h' ∧ r = .slice (some (h.length, 0)) n (some n) ∧ Gr h.length h' (some (h.length, 0)) (some n) (some h.length) 1 eb (dat fill n) := by
  refine WR.call (hH := rfl) Try.func18 rfl (n := 22) rfl rfl (by simp) ?_
  simp -dsimp (disch := first | with_reducible assumption | omega | (intro h_; cases h_; done) | (simp only [LN] <;> omega) | (simp only [LF]; done) | (repeat (first | with_reducible assumption | apply Ext.refl | apply Ext.app | (apply Ext.set <;> omega) | (refine Ext.trans ?_ (by assumption))))) only [AX, TY, AD, mapPut, entsOf, oneV, builtinV, idsOf, mapId, touchB, Nat.reduceLT, Nat.reduceLeDiff, Nat.reduceEqDiff, Nat.reduceAdd, Nat.reduceMul, Int.reduceBEq, Int.reduceEq, Int.reduceNeg, Int.reduceLT, Int.reduceLE, Int.reduceAdd, Int.reduceSub, Int.reduceMul, Int.reduceToNat, Int.reduceGT, Nat.reduceBEq, Nat.reducePow, Nat.reduceGT, reduceCtorEq, ↓reduceIte]
  refine W.loop (fun m τ hh => Ext h hh ∧ ∃ i : Nat, m + i = n ∧ τ 0 = .int .u8 fill ∧ τ 1 = .int .i64 n ∧ τ 5 = .slice (some (h.length, 0)) n (some n) ∧ τ 6 = .int .i64 i ∧ Gr h.length hh (some (h.length, 0)) (some n) (some h.length) 1 eb (datP fill n i)) ?_ (m := n) ?_
  rotate_left
  · refine ⟨(by (repeat (first | assumption | apply Ext.refl | apply Ext.app | (apply Ext.set <;> omega) | exact Ext.trans (by assumption) (by assumption) | (refine Ext.trans ?_ (by assumption))))), 0, by simp, rfl, rfl, rfl, rfl, ?_⟩
    rw [datP_zero]
    exact Gr.built (snoc_last _ rfl) (reps_eb n) (Nat.le_refl _) (eb_w _) (eb_l _) (by simp; omega) (by simp)
  rintro m τ hh ⟨e, i, hm, t0, t1, t5, t6, gr⟩
  by_cases h1 : (i : Int) < (n : Int)
  rotate_left
  · simp -dsimp (disch := first | with_reducible assumption | omega | (intro h_; cases h_; done) | (simp only [LN] <;> omega) | (simp only [LF]; done) | (repeat (first | with_reducible assumption | apply Ext.refl | apply Ext.app | (apply Ext.set <;> omega) | (refine Ext.trans ?_ (by assumption))))) only [AX, TY, AD, mapPut, entsOf, oneV, builtinV, idsOf, mapId, touchB, Nat.reduceLT, Nat.reduceLeDiff, Nat.reduceEqDiff, Nat.reduceAdd, Nat.reduceMul, Int.reduceBEq, Int.reduceEq, Int.reduceNeg, Int.reduceLT, Int.reduceLE, Int.reduceAdd, Int.reduceSub, Int.reduceMul, Int.reduceToNat, Int.reduceGT, Nat.reduceBEq, Nat.reducePow, Nat.reduceGT, reduceCtorEq, ↓reduceIte, t0, t1, t5, t6, h1]
    have hi : i = n := by omega
    subst hi
    rw [datP_all] at gr
    exact ⟨e, gr⟩
  have hi : i < (datP fill n i).length := by rw [datP_len]; omega
  obtain ⟨h5, hst, g5, hl5, hk5, hb5⟩ := gr.store0 hi (datB fill i) rfl rfl
  rw [datP_set] at g5
  simp only [eb, datB, sid_some, soff_some, Nat.zero_add] at hst
  simp -dsimp (disch := first | with_reducible assumption | omega | (intro h_; cases h_; done) | (simp only [LN] <;> omega) | (simp only [LF]; done) | (repeat (first | with_reducible assumption | apply Ext.refl | apply Ext.app | (apply Ext.set <;> omega) | (refine Ext.trans ?_ (by assumption))))) only [AX, TY, AD, mapPut, entsOf, oneV, builtinV, idsOf, mapId, touchB, Nat.reduceLT, Nat.reduceLeDiff, Nat.reduceEqDiff, Nat.reduceAdd, Nat.reduceMul, Int.reduceBEq, Int.reduceEq, Int.reduceNeg, Int.reduceLT, Int.reduceLE, Int.reduceAdd, Int.reduceSub, Int.reduceMul, Int.reduceToNat, Int.reduceGT, Nat.reduceBEq, Nat.reducePow, Nat.reduceGT, reduceCtorEq, ↓reduceIte, t0, t1, t5, t6, h1, hst, wrap_in]
  exact ⟨m - 1, by omega, e.below (Nat.le_refl _) hb5, i + 1, by omega, by simp, g5⟩
theorem same13_ok {h : Heap} {p q : Option (Nat × Nat)} {c d : Option Nat} {xs ys : List Int} (hx : Sl h p 1 eb xs) (hy : Sl h q 1 eb ys) :
    WR (callE Try.prog hk 20 [.slice p xs.length c, .slice q ys.length d] h) fun r h' => h = h' ∧ r = .bool (decide (xs = ys)) := by
  have hnx := hx.nil'
  have hny := hy.nil'
  have hlx := hx.small
  have hly := hy.small
  refine WR.call (hH := rfl) Try.func20 rfl (n := 26) rfl rfl (by simp) ?_
  by_cases h0 : (xs.length : Int) = (ys.length : Int)
  rotate_left
  · simp -dsimp (disch := first | with_reducible assumption | omega | (intro h_; cases h_; done) | (simp only [LN] <;> omega) | (simp only [LF]; done) | (repeat (first | with_reducible assumption | apply Ext.refl | apply Ext.app | (apply Ext.set <;> omega) | (refine Ext.trans ?_ (by assumption))))) only [AX, TY, AD, mapPut, entsOf, oneV, builtinV, idsOf, mapId, touchB, Nat.reduceLT, Nat.reduceLeDiff, Nat.reduceEqDiff, Nat.reduceAdd, Nat.reduceMul, Int.reduceBEq, Int.reduceEq, Int.reduceNeg, Int.reduceLT, Int.reduceLE, Int.reduceAdd, Int.reduceSub, Int.reduceMul, Int.reduceToNat, Int.reduceGT, Nat.reduceBEq, Nat.reducePow, Nat.reduceGT, reduceCtorEq, ↓reduceIte, h0]
    rw [decide_eq_false]
    intro e; rw [e] at h0; exact h0 rfl
  simp -dsimp (disch := first | with_reducible assumption | omega | (intro h_; cases h_; done) | (simp only [LN] <;> omega) | (simp only [LF]; done) | (repeat (first | with_reducible assumption | apply Ext.refl | apply Ext.app | (apply Ext.set <;> omega) | (refine Ext.trans ?_ (by assumption))))) only [AX, TY, AD, mapPut, entsOf, oneV, builtinV, idsOf, mapId, touchB, Nat.reduceLT, Nat.reduceLeDiff, Nat.reduceEqDiff, Nat.reduceAdd, Nat.reduceMul, Int.reduceBEq, Int.reduceEq, Int.reduceNeg, Int.reduceLT, Int.reduceLE, Int.reduceAdd, Int.reduceSub, Int.reduceMul, Int.reduceToNat, Int.reduceGT, Nat.reduceBEq, Nat.reducePow, Nat.reduceGT, reduceCtorEq, ↓reduceIte, eq_true h0]
  refine W.loop (fun m τ hh => h = hh ∧ ∃ i : Nat, m + i = xs.length ∧ τ 0 = .slice p xs.length c ∧ τ 1 = .slice q ys.length d ∧ τ 5 = .int .i64 i ∧ xs.take i = ys.take i) ?_ (m := xs.length) ?_
  rotate_left
  · exact ⟨rfl, 0, by simp, rfl, rfl, rfl, by simp⟩
  rintro m τ _ ⟨rfl, i, hm, t0, t1, t5, heq⟩
  by_cases h1 : (i : Int) < (xs.length : Int)
  rotate_left
  · simp -dsimp (disch := first | with_reducible assumption | omega | (intro h_; cases h_; done) | (simp only [LN] <;> omega) | (simp only [LF]; done) | (repeat (first | with_reducible assumption | apply Ext.refl | apply Ext.app | (apply Ext.set <;> omega) | (refine Ext.trans ?_ (by assumption))))) only [AX, TY, AD, mapPut, entsOf, oneV, builtinV, idsOf, mapId, touchB, Nat.reduceLT, Nat.reduceLeDiff, Nat.reduceEqDiff, Nat.reduceAdd, Nat.reduceMul, Int.reduceBEq, Int.reduceEq, Int.reduceNeg, Int.reduceLT, Int.reduceLE, Int.reduceAdd, Int.reduceSub, Int.reduceMul, Int.reduceToNat, Int.reduceGT, Nat.reduceBEq, Nat.reducePow, Nat.reduceGT, reduceCtorEq, ↓reduceIte, t0, t1, t5, h1]
    rw [List.take_of_length_le (by omega), List.take_of_length_le (by omega)] at heq
    rw [decide_eq_true heq]
  have hi : i < xs.length := by omega
  have hj : i < ys.length := by omega
  have hla := hx.load0 (.refl _) hi (m := 1) (by decide)
  have hlb := hy.load0 (.refl _) hj (m := 1) (by decide)
  simp only [eb, List.take] at hla hlb
  by_cases hq : xs[i] = ys[i]
  · simp -dsimp (disch := first | with_reducible assumption | omega | (intro h_; cases h_; done) | (simp only [LN] <;> omega) | (simp only [LF]; done) | (repeat (first | with_reducible assumption | apply Ext.refl | apply Ext.app | (apply Ext.set <;> omega) | (refine Ext.trans ?_ (by assumption))))) only [AX, TY, AD, mapPut, entsOf, oneV, builtinV, idsOf, mapId, touchB, Nat.reduceLT, Nat.reduceLeDiff, Nat.reduceEqDiff, Nat.reduceAdd, Nat.reduceMul, Int.reduceBEq, Int.reduceEq, Int.reduceNeg, Int.reduceLT, Int.reduceLE, Int.reduceAdd, Int.reduceSub, Int.reduceMul, Int.reduceToNat, Int.reduceGT, Nat.reduceBEq, Nat.reducePow, Nat.reduceGT, reduceCtorEq, ↓reduceIte, t0, t1, t5, h1]
    refine W.drawn [(0, []), (1, [0]), (2, []), (3, []), (4, [3, 2, 1, 0]), (5, [4, 3, 2, 1, 0]), (6, [3, 2, 1, 0]), (7, [3, 2, 1, 0]), (8, [])] (by decide +kernel) ?_
    simp -dsimp (disch := first | with_reducible assumption | omega | (intro h_; cases h_; done) | (simp only [LN] <;> omega) | (simp only [LF]; done) | (repeat (first | with_reducible assumption | apply Ext.refl | apply Ext.app | (apply Ext.set <;> omega) | (refine Ext.trans ?_ (by assumption))))) only [AX, TY, AD, mapPut, entsOf, oneV, builtinV, idsOf, mapId, touchB, Nat.reduceLT, Nat.reduceLeDiff, Nat.reduceEqDiff, Nat.reduceAdd, Nat.reduceMul, Int.reduceBEq, Int.reduceEq, Int.reduceNeg, Int.reduceLT, Int.reduceLE, Int.reduceAdd, Int.reduceSub, Int.reduceMul, Int.reduceToNat, Int.reduceGT, Nat.reduceBEq, Nat.reducePow, Nat.reduceGT, reduceCtorEq, ↓reduceIte, t0, t1, t5, h1, hla, hlb, eq_true hq, wrap_in]
    refine ⟨m - 1, by omega, i + 1, by omega, by simp, ?_⟩
    rw [List.take_succ_eq_append_getElem hi, List.take_succ_eq_append_getElem hj, heq, hq]
  · simp -dsimp (disch := first | with_reducible assumption | omega | (intro h_; cases h_; done) | (simp only [LN] <;> omega) | (simp only [LF]; done) | (repeat (first | with_reducible assumption | apply Ext.refl | apply Ext.app | (apply Ext.set <;> omega) | (refine Ext.trans ?_ (by assumption))))) only [AX, TY, AD, mapPut, entsOf, oneV, builtinV, idsOf, mapId, touchB, Nat.reduceLT, Nat.reduceLeDiff, Nat.reduceEqDiff, Nat.reduceAdd, Nat.reduceMul, Int.reduceBEq, Int.reduceEq, Int.reduceNeg, Int.reduceLT, Int.reduceLE, Int.reduceAdd, Int.reduceSub, Int.reduceMul, Int.reduceToNat, Int.reduceGT, Nat.reduceBEq, Nat.reducePow, Nat.reduceGT, reduceCtorEq, ↓reduceIte, t0, t1, t5, h1]
    refine W.drawn [(0, []), (1, [0]), (2, []), (3, []), (4, [3, 2, 1, 0]), (5, [4, 3, 2, 1, 0]), (6, [3, 2, 1, 0]), (7, [3, 2, 1, 0]), (8, [])] (by decide +kernel) ?_
    simp -dsimp (disch := first | with_reducible assumption | omega | (intro h_; cases h_; done) | (simp only [LN] <;> omega) | (simp only [LF]; done) | (repeat (first | with_reducible assumption | apply Ext.refl | apply Ext.app | (apply Ext.set <;> omega) | (refine Ext.trans ?_ (by assumption))))) only [AX, TY, AD, mapPut, entsOf, oneV, builtinV, idsOf, mapId, touchB, Nat.reduceLT, Nat.reduceLeDiff, Nat.reduceEqDiff, Nat.reduceAdd, Nat.reduceMul, Int.reduceBEq, Int.reduceEq, Int.reduceNeg, Int.reduceLT, Int.reduceLE, Int.reduceAdd, Int.reduceSub, Int.reduceMul, Int.reduceToNat, Int.reduceGT, Nat.reduceBEq, Nat.reducePow, Nat.reduceGT, reduceCtorEq, ↓reduceIte, t0, t1, t5, h1, hla, hlb, hq]
    rw [decide_eq_false]
    intro e; subst e; exact hq rfl
/-- A frame. -/
structure Fr where
  page : Int
  p : Option (Nat × Nat)
  c : Option Nat
  data : List Int
  pins : Int
  dirty : Bool
  ref : Bool
def Fr.enc (f : Fr) : List V := [.int .i64 f.page, .slice f.p f.data.length f.c, .int .i64 f.pins, .bool f.dirty, .bool f.ref]
def idxI : Option Nat → Int
  | some i => i
  | none => -1
theorem indexFunc_ok {h : Heap} {fr : Nat} {c : Option Nat} {fs : List Fr} (hs : Sl h (some (fr, 0)) 5 Fr.enc fs) (F : Nat) (cap : List V) (q : Fr → Bool) (hq : ∀ hh, Ext h hh → ∀ f, WR (callE Try.prog hk F (.agg (Fr.enc f) :: cap) hh) fun r h' => Ext hh h' ∧ r = .bool (q f)) :
    WR (callE Try.prog hk 67 [.slice (some (fr, 0)) fs.length c, .func F [] cap] h) fun r h' => Ext h h' ∧ r = .int .i64 (idxI (fs.findIdx? q)) := by
  have hl := hs.small
  refine WR.call (hH := rfl) Try.func67 rfl (n := 19) rfl rfl (by simp) ?_
  simp -dsimp (disch := first | with_reducible assumption | omega | (intro h_; cases h_; done) | (simp only [LN] <;> omega) | (simp only [LF]; done) | (repeat (first | with_reducible assumption | apply Ext.refl | apply Ext.app | (apply Ext.set <;> omega) | (refine Ext.trans ?_ (by assumption))))) only [AX, TY, AD, mapPut, entsOf, oneV, builtinV, idsOf, mapId, touchB, Nat.reduceLT, Nat.reduceLeDiff, Nat.reduceEqDiff, Nat.reduceAdd, Nat.reduceMul, Int.reduceBEq, Int.reduceEq, Int.reduceNeg, Int.reduceLT, Int.reduceLE, Int.reduceAdd, Int.reduceSub, Int.reduceMul, Int.reduceToNat, Int.reduceGT, Nat.reduceBEq, Nat.reducePow, Nat.reduceGT, reduceCtorEq, ↓reduceIte]
  refine W.loop (fun m τ hh => Ext h hh ∧ ∃ i : Nat, m + i = fs.length ∧ τ 0 = .slice (some (fr, 0)) fs.length c ∧ τ 1 = .func F [] cap ∧ τ 7 = .int .i64 fs.length ∧ τ 8 = .int .i64 i ∧ ∀ f ∈ fs.take i, q f = false) ?_ (m := fs.length) ?_
  rotate_left
  · exact ⟨.refl _, 0, by simp, rfl, rfl, rfl, rfl, by simp⟩
  rintro m τ hh ⟨e, i, hm, t0, t1, t7, t8, hno⟩
  by_cases h1 : (i : Int) < (fs.length : Int)
  rotate_left
  · simp -dsimp (disch := first | with_reducible assumption | omega | (intro h_; cases h_; done) | (simp only [LN] <;> omega) | (simp only [LF]; done) | (repeat (first | with_reducible assumption | apply Ext.refl | apply Ext.app | (apply Ext.set <;> omega) | (refine Ext.trans ?_ (by assumption))))) only [AX, TY, AD, mapPut, entsOf, oneV, builtinV, idsOf, mapId, touchB, Nat.reduceLT, Nat.reduceLeDiff, Nat.reduceEqDiff, Nat.reduceAdd, Nat.reduceMul, Int.reduceBEq, Int.reduceEq, Int.reduceNeg, Int.reduceLT, Int.reduceLE, Int.reduceAdd, Int.reduceSub, Int.reduceMul, Int.reduceToNat, Int.reduceGT, Nat.reduceBEq, Nat.reducePow, Nat.reduceGT, reduceCtorEq, ↓reduceIte, t0, t1, t7, t8, h1]
    rw [List.take_of_length_le (by omega)] at hno
    rw [List.findIdx?_eq_none_iff.2 hno]
    exact ⟨e, rfl⟩
  have hi : i < fs.length := by omega
  have hla := hs.loadz0 e hi (m := 5) (by decide)
  have hqi := hq hh e fs[i]
  rw [show (Fr.enc fs[i]).take 5 = Fr.enc fs[i] from rfl] at hla
  simp -dsimp (disch := first | with_reducible assumption | omega | (intro h_; cases h_; done) | (simp only [LN] <;> omega) | (simp only [LF]; done) | (repeat (first | with_reducible assumption | apply Ext.refl | apply Ext.app | (apply Ext.set <;> omega) | (refine Ext.trans ?_ (by assumption))))) only [AX, TY, AD, mapPut, entsOf, oneV, builtinV, idsOf, mapId, touchB, Nat.reduceLT, Nat.reduceLeDiff, Nat.reduceEqDiff, Nat.reduceAdd, Nat.reduceMul, Int.reduceBEq, Int.reduceEq, Int.reduceNeg, Int.reduceLT, Int.reduceLE, Int.reduceAdd, Int.reduceSub, Int.reduceMul, Int.reduceToNat, Int.reduceGT, Nat.reduceBEq, Nat.reducePow, Nat.reduceGT, reduceCtorEq, ↓reduceIte, t0, t1, t7, t8, h1, hla]
  refine hqi.mono ?_
  rintro _ h2 ⟨e2, rfl⟩
  cases hqv : q fs[i]
  · simp -dsimp (disch := first | with_reducible assumption | omega | (intro h_; cases h_; done) | (simp only [LN] <;> omega) | (simp only [LF]; done) | (repeat (first | with_reducible assumption | apply Ext.refl | apply Ext.app | (apply Ext.set <;> omega) | (refine Ext.trans ?_ (by assumption))))) only [AX, TY, AD, mapPut, entsOf, oneV, builtinV, idsOf, mapId, touchB, Nat.reduceLT, Nat.reduceLeDiff, Nat.reduceEqDiff, Nat.reduceAdd, Nat.reduceMul, Int.reduceBEq, Int.reduceEq, Int.reduceNeg, Int.reduceLT, Int.reduceLE, Int.reduceAdd, Int.reduceSub, Int.reduceMul, Int.reduceToNat, Int.reduceGT, Nat.reduceBEq, Nat.reducePow, Nat.reduceGT, reduceCtorEq, ↓reduceIte, t0, t1, t7, t8, wrap_in]
    refine ⟨m - 1, by omega, e.trans e2, i + 1, by omega, by simp, fun f hf => ?_⟩
    rw [List.take_succ_eq_append_getElem hi, List.mem_append, List.mem_singleton] at hf
    rcases hf with hf | rfl
    · exact hno f hf
    · exact hqv
  · simp -dsimp (disch := first | with_reducible assumption | omega | (intro h_; cases h_; done) | (simp only [LN] <;> omega) | (simp only [LF]; done) | (repeat (first | with_reducible assumption | apply Ext.refl | apply Ext.app | (apply Ext.set <;> omega) | (refine Ext.trans ?_ (by assumption))))) only [AX, TY, AD, mapPut, entsOf, oneV, builtinV, idsOf, mapId, touchB, Nat.reduceLT, Nat.reduceLeDiff, Nat.reduceEqDiff, Nat.reduceAdd, Nat.reduceMul, Int.reduceBEq, Int.reduceEq, Int.reduceNeg, Int.reduceLT, Int.reduceLE, Int.reduceAdd, Int.reduceSub, Int.reduceMul, Int.reduceToNat, Int.reduceGT, Nat.reduceBEq, Nat.reducePow, Nat.reduceGT, reduceCtorEq, ↓reduceIte, t0, t1, t7, t8]
    refine ⟨e.trans e2, ?_⟩
    rw [List.findIdx?_eq_some_iff_getElem.2 ⟨hi, hqv, fun j hj => by
      have := hno fs[j] (by rw [List.mem_take_iff_getElem]; exact ⟨j, by omega, rfl⟩)
      simp [this]⟩]
    rfl
end Go.Proofs.YtmjfhckioaempaaA
namespace Go.Proofs.YtmjfhckioaempaaA
open Go Go.Proofs Go.RowKit
set_option linter.unusedVariables false
set_option linter.unusedSimpArgs false
set_option maxRecDepth 10000
set_option maxHeartbeats 2000000
theorem fr_w (fs : List Fr) : ∀ y ∈ fs, (Fr.enc y).length = 5 := fun _ _ => rfl
theorem fr_l (fs : List Fr) : ∀ y ∈ fs, (Fr.enc y).all V.leaf = true := fun _ _ => rfl
/-- A pool with its disk. -/
structure Bp where
  D : Dk
  pages : Nat
  frames : List Fr
  hand : Nat
  reads : Int
structure Ids where
  pi : Nat
  fr : Nat
  di : Nat
  du : Nat
def ownP (I : Ids) (oid : Option Nat) (i : Nat) : Prop := i = I.pi ∨ i = I.fr ∨ ownD I.di I.du oid i
structure PAt (b : Nat) (h : Heap) (I : Ids) (S : Bp) (oid : Option Nat) : Prop where
  dk : DAt b h I.di I.du S.D oid (fun i => i = I.pi ∨ i = I.fr)
  pool : h[I.pi]? = some (.cells [.ptr (some (I.di, 0)), .int .i64 S.pages, .slice (some (I.fr, 0)) S.frames.length (some S.frames.length), .int .i64 S.hand, .int .i64 S.reads] .rw)
  frs : h[I.fr]? = some (.cells (S.frames.flatMap Fr.enc) .rw)
  dat : ∀ f ∈ S.frames, Rs h f.p f.c 1 eb f.data ∧ ∀ a o, f.p = some (a, o) → ¬ ownP I oid a
  ne : I.pi ≠ I.fr
  n1 : 1 ≤ S.frames.length ∧ S.frames.length ≤ 4096
  hand : S.hand < S.frames.length
section
variable {b : Nat} {h hh : Heap} {I : Ids} {S : Bp} {oid : Option Nat}
theorem PAt.lt (d : PAt b h I S oid) {i : Nat} (q : ownP I oid i) : i < h.length := by
  have hl := d.dk.lt
  rcases q with rfl | rfl | rfl | rfl | q
  · exact lt_of_some d.pool
  · exact lt_of_some d.frs
  · exact hl.1
  · exact hl.2.1
  · exact hl.2.2 _ q
theorem PAt.ext (d : PAt b h I S oid) (e : Ext h hh) : PAt b hh I S oid :=
  ⟨d.dk.ext e, e _ _ d.pool, e _ _ d.frs, fun f hf => ⟨(d.dat f hf).1.ext e, (d.dat f hf).2⟩, d.ne, d.n1, d.hand⟩
theorem PAt.sl (d : PAt b h I S oid) : Sl h (some (I.fr, 0)) 5 Fr.enc S.frames := .whole d.frs (fr_w _) rfl (by have := d.n1; omega)
/-- The frames and the pool's own numbers are changed. -/
theorem PAt.upd (d : PAt b h I S oid) {fs : List Fr} {hand : Nat} {reads : Int} (hl : fs.length = S.frames.length) (hd : ∀ f ∈ fs, Rs h f.p f.c 1 eb f.data ∧ ∀ a o, f.p = some (a, o) → ¬ ownP I oid a) (hn : hand < fs.length) (hle : h.length ≤ hh.length)
    (hp : hh[I.pi]? = some (.cells [.ptr (some (I.di, 0)), .int .i64 S.pages, .slice (some (I.fr, 0)) S.frames.length (some S.frames.length), .int .i64 hand, .int .i64 reads] .rw)) (hf : hh[I.fr]? = some (.cells (fs.flatMap Fr.enc) .rw)) (hk : ∀ i, i < h.length → i ≠ I.pi → i ≠ I.fr → hh[i]? = h[i]?) :
    PAt b hh I ⟨S.D, S.pages, fs, hand, reads⟩ oid := by
  refine ⟨d.dk.keep hle fun i hi hm => hk i hi (fun q => hm (.inl q)) (fun q => hm (.inr q)), by rw [hl]; exact hp, hf, fun f hf' => ⟨(hd f hf').1.keep fun a o e => hk a (Sl.lt (hd f hf').1.sl e) (fun q => (hd f hf').2 a o e (.inl q)) (fun q => (hd f hf').2 a o e (.inr (.inl q))), (hd f hf').2⟩, d.ne, by rw [hl]; exact d.n1, hn⟩
end
/-- One frame is changed in memory. -/
theorem fr_store {h : Heap} {fr : Nat} {fs : List Fr} (hf : h[fr]? = some (.cells (fs.flatMap Fr.enc) .rw)) {i : Nat} (hi : i < fs.length) {o : Nat} {vs : List V} (ho : o + vs.length ≤ 5) (hv : vs.all V.leaf = true) (y : Fr) (hy : Fr.enc y = splice (Fr.enc fs[i]) o vs) :
    storeN h fr (fld (i * 5) o) vs = some (h.set fr (.cells ((fs.set i y).flatMap Fr.enc) .rw)) := by
  have hlt := lt_of_some hf
  unfold fld
  have hfl := flatMap_len (fr_w fs)
  have hm : (i + 1) * 5 ≤ fs.length * 5 := Nat.mul_le_mul_right _ hi
  rw [storeN_of hf (by simp) (by rw [hfl]; omega) hv]
  congr 3
  have hsw : fs = fs.take i ++ fs[i] :: fs.drop (i + 1) := by rw [← List.drop_eq_getElem_cons hi, List.take_append_drop]
  have hset : fs.set i y = fs.take i ++ y :: fs.drop (i + 1) := by rw [List.set_eq_take_append_cons_drop, if_pos hi]
  have hA : ((fs.take i).flatMap Fr.enc).length = i * 5 := by rw [flatMap_len (fr_w _), List.length_take, Nat.min_eq_left (by omega)]
  rw [hset, List.flatMap_append, List.flatMap_cons, hy]
  conv => lhs; rw [hsw]
  rw [List.flatMap_append, List.flatMap_cons]
  have h5 : (Fr.enc fs[i]).length = 5 := rfl
  unfold splice
  rw [← hA]
  generalize (fs.take i).flatMap Fr.enc = A
  generalize (fs.drop (i + 1)).flatMap Fr.enc = B
  generalize Fr.enc fs[i] = C at h5
  rw [List.take_append, List.take_of_length_le (show A.length ≤ A.length + o by omega), show A.length + o - A.length = o by omega, List.take_append_of_le_length (by omega), show A.length + o + vs.length = A.length + (o + vs.length) by omega, List.drop_append, List.drop_append_of_le_length (by omega)]
  simp
def findQ (page : Int) (f : Fr) : Bool := decide (0 ≤ page) && decide (f.page = page)
def findF (page : Int) (fs : List Fr) : Option Nat := fs.findIdx? (findQ page)
theorem f68_ok {h : Heap} {x : Nat} {page : Int} (g : h[x]? = some (.cells [.int .i64 page] .rw)) (f : Fr) : WR (callE Try.prog hk 68 [.agg f.enc, .ptr (some (x, 0))] h) fun r h' => Ext h h' ∧ r = .bool (findQ page f) := by
  have hx := lt_of_some g
  unfold findQ
  refine WR.call (hH := rfl) Try.func68 rfl (n := 12) rfl rfl (by simp) ?_
  by_cases h1 : 0 ≤ page
  · simp -dsimp (disch := first | with_reducible assumption | omega | (intro h_; cases h_; done) | (simp only [LN] <;> omega) | (simp only [LF]; done) | (repeat (first | with_reducible assumption | apply Ext.refl | apply Ext.app | (apply Ext.set <;> omega) | (refine Ext.trans ?_ (by assumption))))) only [AX, TY, AD, mapPut, entsOf, oneV, builtinV, idsOf, mapId, touchB, Nat.reduceLT, Nat.reduceLeDiff, Nat.reduceEqDiff, Nat.reduceAdd, Nat.reduceMul, Int.reduceBEq, Int.reduceEq, Int.reduceNeg, Int.reduceLT, Int.reduceLE, Int.reduceAdd, Int.reduceSub, Int.reduceMul, Int.reduceToNat, Int.reduceGT, Nat.reduceBEq, Nat.reducePow, Nat.reduceGT, reduceCtorEq, ↓reduceIte, Fr.enc, loadN_fact g, eq_true h1]
    exact (by (repeat (first | assumption | apply Ext.refl | apply Ext.app | (apply Ext.set <;> omega) | exact Ext.trans (by assumption) (by assumption) | (refine Ext.trans ?_ (by assumption)))))
  · simp -dsimp (disch := first | with_reducible assumption | omega | (intro h_; cases h_; done) | (simp only [LN] <;> omega) | (simp only [LF]; done) | (repeat (first | with_reducible assumption | apply Ext.refl | apply Ext.app | (apply Ext.set <;> omega) | (refine Ext.trans ?_ (by assumption))))) only [AX, TY, AD, mapPut, entsOf, oneV, builtinV, idsOf, mapId, touchB, Nat.reduceLT, Nat.reduceLeDiff, Nat.reduceEqDiff, Nat.reduceAdd, Nat.reduceMul, Int.reduceBEq, Int.reduceEq, Int.reduceNeg, Int.reduceLT, Int.reduceLE, Int.reduceAdd, Int.reduceSub, Int.reduceMul, Int.reduceToNat, Int.reduceGT, Nat.reduceBEq, Nat.reducePow, Nat.reduceGT, reduceCtorEq, ↓reduceIte, Fr.enc, loadN_fact g, h1]
    exact (by (repeat (first | assumption | apply Ext.refl | apply Ext.app | (apply Ext.set <;> omega) | exact Ext.trans (by assumption) (by assumption) | (refine Ext.trans ?_ (by assumption)))))
def ptrF (fr : Nat) : Option Nat → V
  | some i => .ptr (some (fr, i * 5))
  | none => .ptr none
theorem find_ok {b : Nat} {h : Heap} {I : Ids} {S : Bp} {oid : Option Nat} (d : PAt b h I S oid) (page : Int) : WR (callE Try.prog hk 44 [.ptr (some (I.pi, 0)), .int .i64 page] h) fun r h' => Ext h h' ∧ r = ptrF I.fr (findF page S.frames) := by
  have hpi := lt_of_some d.pool
  have n1 := d.n1
  refine WR.call (hH := rfl) Try.func44 rfl (n := 20) rfl rfl (by simp) ?_
  obtain ⟨g, hg, g0, e1, hgl⟩ : ∃ g, h ++ [O.cells [V.int .i64 page] .rw] = g ∧ g[h.length]? = some (O.cells [V.int .i64 page] .rw) ∧ Ext h g ∧ g.length = h.length + 1 := ⟨_, rfl, snoc_last _ rfl, (by (repeat (first | assumption | apply Ext.refl | apply Ext.app | (apply Ext.set <;> omega) | exact Ext.trans (by assumption) (by assumption) | (refine Ext.trans ?_ (by assumption))))), by simp⟩
  have gp := e1 _ _ d.pool
  simp -dsimp (disch := first | with_reducible assumption | omega | (intro h_; cases h_; done) | (simp only [LN] <;> omega) | (simp only [LF]; done) | (repeat (first | with_reducible assumption | apply Ext.refl | apply Ext.app | (apply Ext.set <;> omega) | (refine Ext.trans ?_ (by assumption))))) only [AX, TY, AD, mapPut, entsOf, oneV, builtinV, idsOf, mapId, touchB, Nat.reduceLT, Nat.reduceLeDiff, Nat.reduceEqDiff, Nat.reduceAdd, Nat.reduceMul, Int.reduceBEq, Int.reduceEq, Int.reduceNeg, Int.reduceLT, Int.reduceLE, Int.reduceAdd, Int.reduceSub, Int.reduceMul, Int.reduceToNat, Int.reduceGT, Nat.reduceBEq, Nat.reducePow, Nat.reduceGT, reduceCtorEq, ↓reduceIte, hg, loadN_fact gp]
  refine (indexFunc_ok (d.sl.ext e1) 68 [.ptr (some (h.length, 0))] (findQ page) (fun hh e f => f68_ok (e _ _ g0) f)).mono ?_
  rintro _ h2 ⟨e2, rfl⟩
  have gp2 := e2 _ _ gp
  unfold findF
  cases hfi : S.frames.findIdx? (findQ page) with
  | none =>
    simp -dsimp (disch := first | with_reducible assumption | omega | (intro h_; cases h_; done) | (simp only [LN] <;> omega) | (simp only [LF]; done) | (repeat (first | with_reducible assumption | apply Ext.refl | apply Ext.app | (apply Ext.set <;> omega) | (refine Ext.trans ?_ (by assumption))))) only [AX, TY, AD, mapPut, entsOf, oneV, builtinV, idsOf, mapId, touchB, Nat.reduceLT, Nat.reduceLeDiff, Nat.reduceEqDiff, Nat.reduceAdd, Nat.reduceMul, Int.reduceBEq, Int.reduceEq, Int.reduceNeg, Int.reduceLT, Int.reduceLE, Int.reduceAdd, Int.reduceSub, Int.reduceMul, Int.reduceToNat, Int.reduceGT, Nat.reduceBEq, Nat.reducePow, Nat.reduceGT, reduceCtorEq, ↓reduceIte, idxI, ptrF]
    exact e1.trans e2
  | some i =>
    obtain ⟨hi, _⟩ := List.findIdx?_eq_some_iff_getElem.1 hfi
    have hn : ¬ ((i : Int) < 0) := by omega
    simp -dsimp (disch := first | with_reducible assumption | omega | (intro h_; cases h_; done) | (simp only [LN] <;> omega) | (simp only [LF]; done) | (repeat (first | with_reducible assumption | apply Ext.refl | apply Ext.app | (apply Ext.set <;> omega) | (refine Ext.trans ?_ (by assumption))))) only [AX, TY, AD, mapPut, entsOf, oneV, builtinV, idsOf, mapId, touchB, Nat.reduceLT, Nat.reduceLeDiff, Nat.reduceEqDiff, Nat.reduceAdd, Nat.reduceMul, Int.reduceBEq, Int.reduceEq, Int.reduceNeg, Int.reduceLT, Int.reduceLE, Int.reduceAdd, Int.reduceSub, Int.reduceMul, Int.reduceToNat, Int.reduceGT, Nat.reduceBEq, Nat.reducePow, Nat.reduceGT, reduceCtorEq, ↓reduceIte, idxI, ptrF, hn, loadN_fact gp2]
    exact e1.trans e2
theorem pins_ok {b : Nat} {h : Heap} {I : Ids} {S : Bp} {oid : Option Nat} (d : PAt b h I S oid) (page : Int) : WR (callE Try.prog hk 29 [.ptr (some (I.pi, 0)), .int .i64 page] h) fun r h' => Ext h h' ∧ ((findF page S.frames = none ∧ r = .int .i64 0) ∨ ∃ i, ∃ hi : i < S.frames.length, findF page S.frames = some i ∧ r = .int .i64 (S.frames[i]).pins) := by
  refine WR.call (hH := rfl) Try.func29 rfl (n := 15) rfl rfl (by simp) ?_
  simp -dsimp (disch := first | with_reducible assumption | omega | (intro h_; cases h_; done) | (simp only [LN] <;> omega) | (simp only [LF]; done) | (repeat (first | with_reducible assumption | apply Ext.refl | apply Ext.app | (apply Ext.set <;> omega) | (refine Ext.trans ?_ (by assumption))))) only [AX, TY, AD, mapPut, entsOf, oneV, builtinV, idsOf, mapId, touchB, Nat.reduceLT, Nat.reduceLeDiff, Nat.reduceEqDiff, Nat.reduceAdd, Nat.reduceMul, Int.reduceBEq, Int.reduceEq, Int.reduceNeg, Int.reduceLT, Int.reduceLE, Int.reduceAdd, Int.reduceSub, Int.reduceMul, Int.reduceToNat, Int.reduceGT, Nat.reduceBEq, Nat.reducePow, Nat.reduceGT, reduceCtorEq, ↓reduceIte]
  refine (find_ok d page).mono ?_
  rintro _ h2 ⟨e2, rfl⟩
  have sl2 := d.sl.ext e2
  cases hfi : findF page S.frames with
  | none =>
    simp -dsimp (disch := first | with_reducible assumption | omega | (intro h_; cases h_; done) | (simp only [LN] <;> omega) | (simp only [LF]; done) | (repeat (first | with_reducible assumption | apply Ext.refl | apply Ext.app | (apply Ext.set <;> omega) | (refine Ext.trans ?_ (by assumption))))) only [AX, TY, AD, mapPut, entsOf, oneV, builtinV, idsOf, mapId, touchB, Nat.reduceLT, Nat.reduceLeDiff, Nat.reduceEqDiff, Nat.reduceAdd, Nat.reduceMul, Int.reduceBEq, Int.reduceEq, Int.reduceNeg, Int.reduceLT, Int.reduceLE, Int.reduceAdd, Int.reduceSub, Int.reduceMul, Int.reduceToNat, Int.reduceGT, Nat.reduceBEq, Nat.reducePow, Nat.reduceGT, reduceCtorEq, ↓reduceIte, ptrF]
    exact e2
  | some i =>
    obtain ⟨hi, _⟩ := List.findIdx?_eq_some_iff_getElem.1 hfi
    have hl := sl2.loadz (.refl _) hi (o := 2) (m := 1) (by decide)
    simp only [Fr.enc, List.take, List.drop] at hl
    simp -dsimp (disch := first | with_reducible assumption | omega | (intro h_; cases h_; done) | (simp only [LN] <;> omega) | (simp only [LF]; done) | (repeat (first | with_reducible assumption | apply Ext.refl | apply Ext.app | (apply Ext.set <;> omega) | (refine Ext.trans ?_ (by assumption))))) only [AX, TY, AD, mapPut, entsOf, oneV, builtinV, idsOf, mapId, touchB, Nat.reduceLT, Nat.reduceLeDiff, Nat.reduceEqDiff, Nat.reduceAdd, Nat.reduceMul, Int.reduceBEq, Int.reduceEq, Int.reduceNeg, Int.reduceLT, Int.reduceLE, Int.reduceAdd, Int.reduceSub, Int.reduceMul, Int.reduceToNat, Int.reduceGT, Nat.reduceBEq, Nat.reducePow, Nat.reduceGT, reduceCtorEq, ↓reduceIte, ptrF, hl]
    exact ⟨e2, .inr ⟨i, hi, rfl, rfl⟩⟩
theorem reads_ok {b : Nat} {h : Heap} {I : Ids} {S : Bp} {oid : Option Nat} (d : PAt b h I S oid) : WR (callE Try.prog hk 15 [.ptr (some (I.pi, 0))] h) fun r h' => h = h' ∧ r = .int .i64 S.reads := by
  have gp := d.pool
  refine WR.call (hH := rfl) Try.func15 rfl (n := 7) rfl rfl (by simp) ?_
  simp -dsimp (disch := first | with_reducible assumption | omega | (intro h_; cases h_; done) | (simp only [LN] <;> omega) | (simp only [LF]; done) | (repeat (first | with_reducible assumption | apply Ext.refl | apply Ext.app | (apply Ext.set <;> omega) | (refine Ext.trans ?_ (by assumption))))) only [AX, TY, AD, mapPut, entsOf, oneV, builtinV, idsOf, mapId, touchB, Nat.reduceLT, Nat.reduceLeDiff, Nat.reduceEqDiff, Nat.reduceAdd, Nat.reduceMul, Int.reduceBEq, Int.reduceEq, Int.reduceNeg, Int.reduceLT, Int.reduceLE, Int.reduceAdd, Int.reduceSub, Int.reduceMul, Int.reduceToNat, Int.reduceGT, Nat.reduceBEq, Nat.reducePow, Nat.reduceGT, reduceCtorEq, ↓reduceIte, loadN_fact gp]
theorem findF_some {page : Int} {fs : List Fr} {i : Nat} (h : findF page fs = some i) : ∃ hi : i < fs.length, 0 ≤ page ∧ (fs[i]).page = page ∧ ∀ j (hj : j < i), (fs[j]'(by omega)).page ≠ page := by
  obtain ⟨hi, h1, h2⟩ := List.findIdx?_eq_some_iff_getElem.1 h
  unfold findQ at h1 h2
  simp only [Bool.and_eq_true, decide_eq_true_eq] at h1 h2
  exact ⟨hi, h1.1, h1.2, fun j hj q => h2 j hj ⟨h1.1, q⟩⟩
theorem findF_none {page : Int} {fs : List Fr} (h : findF page fs = none) (hp : 0 ≤ page) : ∀ f ∈ fs, f.page ≠ page := by
  have := List.findIdx?_eq_none_iff.1 h
  intro f hf q
  have := this f hf
  unfold findQ at this
  simp [hp, q] at this
/-- The frame of a pinned page. -/
def pinF (page : Int) (fs : List Fr) : Option Nat := match findF page fs with
  | some i => if (fs[i]?.map Fr.pins).getD 0 > 0 then some i else none
  | none => none
theorem pinF_some {page : Int} {fs : List Fr} {i : Nat} (h : pinF page fs = some i) : findF page fs = some i ∧ ∃ hi : i < fs.length, 0 < (fs[i]).pins := by
  unfold pinF at h
  split at h
  · rename_i j hj
    obtain ⟨hi, _⟩ := findF_some hj
    split at h
    · cases h
      rename_i q
      rw [List.getElem?_eq_getElem hi] at q
      exact ⟨hj, hi, q⟩
    · cases h
  · cases h
theorem pinF_find {page : Int} {fs : List Fr} {i : Nat} (hfi : findF page fs = some i) (hi : i < fs.length) : pinF page fs = if 0 < (fs[i]).pins then some i else none := by
  unfold pinF
  rw [hfi]
  simp only [List.getElem?_eq_getElem hi, Option.map_some, Option.getD_some]
theorem pinned_ok {b : Nat} {h : Heap} {I : Ids} {S : Bp} {oid : Option Nat} (d : PAt b h I S oid) (page : Int) : WR (callE Try.prog hk 61 [.ptr (some (I.pi, 0)), .int .i64 page] h) fun r h' => Ext h h' ∧ r = ptrF I.fr (pinF page S.frames) := by
  refine WR.call (hH := rfl) Try.func61 rfl (n := 19) rfl rfl (by simp) ?_
  simp -dsimp (disch := first | with_reducible assumption | omega | (intro h_; cases h_; done) | (simp only [LN] <;> omega) | (simp only [LF]; done) | (repeat (first | with_reducible assumption | apply Ext.refl | apply Ext.app | (apply Ext.set <;> omega) | (refine Ext.trans ?_ (by assumption))))) only [AX, TY, AD, mapPut, entsOf, oneV, builtinV, idsOf, mapId, touchB, Nat.reduceLT, Nat.reduceLeDiff, Nat.reduceEqDiff, Nat.reduceAdd, Nat.reduceMul, Int.reduceBEq, Int.reduceEq, Int.reduceNeg, Int.reduceLT, Int.reduceLE, Int.reduceAdd, Int.reduceSub, Int.reduceMul, Int.reduceToNat, Int.reduceGT, Nat.reduceBEq, Nat.reducePow, Nat.reduceGT, reduceCtorEq, ↓reduceIte]
  refine (find_ok d page).mono ?_
  rintro _ h2 ⟨e2, rfl⟩
  have sl2 := d.sl.ext e2
  cases hfi : findF page S.frames with
  | none =>
    have hpe : pinF page S.frames = none := by unfold pinF; rw [hfi]
    rw [hpe]
    simp -dsimp (disch := first | with_reducible assumption | omega | (intro h_; cases h_; done) | (simp only [LN] <;> omega) | (simp only [LF]; done) | (repeat (first | with_reducible assumption | apply Ext.refl | apply Ext.app | (apply Ext.set <;> omega) | (refine Ext.trans ?_ (by assumption))))) only [AX, TY, AD, mapPut, entsOf, oneV, builtinV, idsOf, mapId, touchB, Nat.reduceLT, Nat.reduceLeDiff, Nat.reduceEqDiff, Nat.reduceAdd, Nat.reduceMul, Int.reduceBEq, Int.reduceEq, Int.reduceNeg, Int.reduceLT, Int.reduceLE, Int.reduceAdd, Int.reduceSub, Int.reduceMul, Int.reduceToNat, Int.reduceGT, Nat.reduceBEq, Nat.reducePow, Nat.reduceGT, reduceCtorEq, ↓reduceIte, ptrF]
    exact e2
  | some i =>
    obtain ⟨hi, _⟩ := findF_some hfi
    have hl := sl2.loadz (.refl _) hi (o := 2) (m := 1) (by decide)
    simp only [Fr.enc, List.take, List.drop] at hl
    have hpe := pinF_find hfi hi
    by_cases hp : 0 < (S.frames[i]).pins
    · rw [if_pos hp] at hpe
      rw [hpe]
      simp -dsimp (disch := first | with_reducible assumption | omega | (intro h_; cases h_; done) | (simp only [LN] <;> omega) | (simp only [LF]; done) | (repeat (first | with_reducible assumption | apply Ext.refl | apply Ext.app | (apply Ext.set <;> omega) | (refine Ext.trans ?_ (by assumption))))) only [AX, TY, AD, mapPut, entsOf, oneV, builtinV, idsOf, mapId, touchB, Nat.reduceLT, Nat.reduceLeDiff, Nat.reduceEqDiff, Nat.reduceAdd, Nat.reduceMul, Int.reduceBEq, Int.reduceEq, Int.reduceNeg, Int.reduceLT, Int.reduceLE, Int.reduceAdd, Int.reduceSub, Int.reduceMul, Int.reduceToNat, Int.reduceGT, Nat.reduceBEq, Nat.reducePow, Nat.reduceGT, reduceCtorEq, ↓reduceIte, ptrF, hl, hp]
      exact e2
    · rw [if_neg hp] at hpe
      rw [hpe]
      simp -dsimp (disch := first | with_reducible assumption | omega | (intro h_; cases h_; done) | (simp only [LN] <;> omega) | (simp only [LF]; done) | (repeat (first | with_reducible assumption | apply Ext.refl | apply Ext.app | (apply Ext.set <;> omega) | (refine Ext.trans ?_ (by assumption))))) only [AX, TY, AD, mapPut, entsOf, oneV, builtinV, idsOf, mapId, touchB, Nat.reduceLT, Nat.reduceLeDiff, Nat.reduceEqDiff, Nat.reduceAdd, Nat.reduceMul, Int.reduceBEq, Int.reduceEq, Int.reduceNeg, Int.reduceLT, Int.reduceLE, Int.reduceAdd, Int.reduceSub, Int.reduceMul, Int.reduceToNat, Int.reduceGT, Nat.reduceBEq, Nat.reducePow, Nat.reduceGT, reduceCtorEq, ↓reduceIte, ptrF, hl, hp]
      exact e2
theorem unpin_ok {b : Nat} {h : Heap} {I : Ids} {S : Bp} {oid : Option Nat} (d : PAt b h I S oid) (page : Int) (hbig : ∀ f ∈ S.frames, f.pins ≤ 1000000) : WR (callE Try.prog hk 35 [.ptr (some (I.pi, 0)), .int .i64 page] h) fun r h' => Kp h h' (ownP I oid) (ownP I oid) ∧ ((pinF page S.frames = none ∧ r = .int .i64 9 ∧ PAt b h' I S oid) ∨ ∃ i, ∃ hi : i < S.frames.length, pinF page S.frames = some i ∧ r = .int .i64 0 ∧ PAt b h' I ⟨S.D, S.pages, S.frames.set i { S.frames[i] with pins := (S.frames[i]).pins - 1 }, S.hand, S.reads⟩ oid) := by
  refine WR.call (hH := rfl) Try.func35 rfl (n := 18) rfl rfl (by simp) ?_
  simp -dsimp (disch := first | with_reducible assumption | omega | (intro h_; cases h_; done) | (simp only [LN] <;> omega) | (simp only [LF]; done) | (repeat (first | with_reducible assumption | apply Ext.refl | apply Ext.app | (apply Ext.set <;> omega) | (refine Ext.trans ?_ (by assumption))))) only [AX, TY, AD, mapPut, entsOf, oneV, builtinV, idsOf, mapId, touchB, Nat.reduceLT, Nat.reduceLeDiff, Nat.reduceEqDiff, Nat.reduceAdd, Nat.reduceMul, Int.reduceBEq, Int.reduceEq, Int.reduceNeg, Int.reduceLT, Int.reduceLE, Int.reduceAdd, Int.reduceSub, Int.reduceMul, Int.reduceToNat, Int.reduceGT, Nat.reduceBEq, Nat.reducePow, Nat.reduceGT, reduceCtorEq, ↓reduceIte]
  refine (pinned_ok d page).mono ?_
  rintro _ h2 ⟨e2, rfl⟩
  have d2 := d.ext e2
  have sl2 := d2.sl
  cases hfi : pinF page S.frames with
  | none =>
    simp -dsimp (disch := first | with_reducible assumption | omega | (intro h_; cases h_; done) | (simp only [LN] <;> omega) | (simp only [LF]; done) | (repeat (first | with_reducible assumption | apply Ext.refl | apply Ext.app | (apply Ext.set <;> omega) | (refine Ext.trans ?_ (by assumption))))) only [AX, TY, AD, mapPut, entsOf, oneV, builtinV, idsOf, mapId, touchB, Nat.reduceLT, Nat.reduceLeDiff, Nat.reduceEqDiff, Nat.reduceAdd, Nat.reduceMul, Int.reduceBEq, Int.reduceEq, Int.reduceNeg, Int.reduceLT, Int.reduceLE, Int.reduceAdd, Int.reduceSub, Int.reduceMul, Int.reduceToNat, Int.reduceGT, Nat.reduceBEq, Nat.reducePow, Nat.reduceGT, reduceCtorEq, ↓reduceIte, ptrF]
    exact ⟨Kp.ext e2 _, .inl d2⟩
  | some i =>
    obtain ⟨hfi', hi, hp⟩ := pinF_some hfi
    have hl := sl2.loadz (.refl _) hi (o := 2) (m := 1) (by decide)
    simp only [Fr.enc, List.take, List.drop] at hl
    have hb := hbig _ (List.getElem_mem hi)
    have hst := fr_store d2.frs hi (o := 2) (vs := [.int .i64 ((S.frames[i]).pins - 1)]) (by simp) rfl { S.frames[i] with pins := (S.frames[i]).pins - 1 } rfl
    have hw : IntKind.i64.wrap ((S.frames[i]).pins - 1) = (S.frames[i]).pins - 1 := by rw [IntKind.wrap_i64]; omega
    have hfl := lt_of_some d2.frs
    simp -dsimp (disch := first | with_reducible assumption | omega | (intro h_; cases h_; done) | (simp only [LN] <;> omega) | (simp only [LF]; done) | (repeat (first | with_reducible assumption | apply Ext.refl | apply Ext.app | (apply Ext.set <;> omega) | (refine Ext.trans ?_ (by assumption))))) only [AX, TY, AD, mapPut, entsOf, oneV, builtinV, idsOf, mapId, touchB, Nat.reduceLT, Nat.reduceLeDiff, Nat.reduceEqDiff, Nat.reduceAdd, Nat.reduceMul, Int.reduceBEq, Int.reduceEq, Int.reduceNeg, Int.reduceLT, Int.reduceLE, Int.reduceAdd, Int.reduceSub, Int.reduceMul, Int.reduceToNat, Int.reduceGT, Nat.reduceBEq, Nat.reducePow, Nat.reduceGT, reduceCtorEq, ↓reduceIte, ptrF, hl, hw, hst]
    refine ⟨(Kp.ext e2 _).trans ⟨by rw [List.length_set]; exact Nat.le_refl _, fun j hj hn => set_other _ fun q => hn (.inr (.inl q)), fun _ _ q => q⟩, .inr ⟨i, hi, rfl, ?_⟩⟩
    refine d2.upd (by rw [List.length_set]) (fun f hf => ?_) (by rw [List.length_set]; exact d.hand) (by rw [List.length_set]; exact Nat.le_refl _) (by rw [set_other _ d.ne]; exact d2.pool) (set_same _ hfl) (fun j hj h1 h2 => set_other _ h2)
    rcases List.mem_or_eq_of_mem_set hf with hf | rfl
    · exact d2.dat f hf
    · exact (fun q => q) (d2.dat (S.frames[i]) (List.getElem_mem hi))
theorem update_ok {b : Nat} {h : Heap} {I : Ids} {S : Bp} {oid : Option Nat} (d : PAt b h I S oid) (page : Int) {p : Option (Nat × Nat)} {c : Option Nat} {data : List Int} (hs : Sl h p 1 eb data) (hB : data.length ≤ 100000) :
    WR (callE Try.prog hk 43 [.ptr (some (I.pi, 0)), .int .i64 page, .slice p data.length c] h) fun r h' => Kp h h' (ownP I oid) (ownP I oid) ∧ ((data.length ≠ 1024 ∧ r = .int .i64 1 ∧ PAt b h' I S oid) ∨ (data.length = 1024 ∧ pinF page S.frames = none ∧ r = .int .i64 9 ∧ PAt b h' I S oid) ∨ ∃ i, ∃ hi : i < S.frames.length, data.length = 1024 ∧ pinF page S.frames = some i ∧ r = .int .i64 0 ∧ ∃ p' c', PAt b h' I ⟨S.D, S.pages, S.frames.set i ⟨(S.frames[i]).page, p', c', data, (S.frames[i]).pins, true, (S.frames[i]).ref⟩, S.hand, S.reads⟩ oid) := by
  refine WR.call (hH := rfl) Try.func43 rfl (n := 24) rfl rfl (by simp) ?_
  by_cases h0 : (data.length : Int) = 1024
  rotate_left
  · simp -dsimp (disch := first | with_reducible assumption | omega | (intro h_; cases h_; done) | (simp only [LN] <;> omega) | (simp only [LF]; done) | (repeat (first | with_reducible assumption | apply Ext.refl | apply Ext.app | (apply Ext.set <;> omega) | (refine Ext.trans ?_ (by assumption))))) only [AX, TY, AD, mapPut, entsOf, oneV, builtinV, idsOf, mapId, touchB, Nat.reduceLT, Nat.reduceLeDiff, Nat.reduceEqDiff, Nat.reduceAdd, Nat.reduceMul, Int.reduceBEq, Int.reduceEq, Int.reduceNeg, Int.reduceLT, Int.reduceLE, Int.reduceAdd, Int.reduceSub, Int.reduceMul, Int.reduceToNat, Int.reduceGT, Nat.reduceBEq, Nat.reducePow, Nat.reduceGT, reduceCtorEq, ↓reduceIte, h0]
    exact ⟨Kp.ext (.refl _) _, .inl ⟨by omega, d⟩⟩
  have h0' : data.length = 1024 := by omega
  simp -dsimp (disch := first | with_reducible assumption | omega | (intro h_; cases h_; done) | (simp only [LN] <;> omega) | (simp only [LF]; done) | (repeat (first | with_reducible assumption | apply Ext.refl | apply Ext.app | (apply Ext.set <;> omega) | (refine Ext.trans ?_ (by assumption))))) only [AX, TY, AD, mapPut, entsOf, oneV, builtinV, idsOf, mapId, touchB, Nat.reduceLT, Nat.reduceLeDiff, Nat.reduceEqDiff, Nat.reduceAdd, Nat.reduceMul, Int.reduceBEq, Int.reduceEq, Int.reduceNeg, Int.reduceLT, Int.reduceLE, Int.reduceAdd, Int.reduceSub, Int.reduceMul, Int.reduceToNat, Int.reduceGT, Nat.reduceBEq, Nat.reducePow, Nat.reduceGT, reduceCtorEq, ↓reduceIte, eq_true h0]
  refine (pinned_ok d page).mono ?_
  rintro _ h2 ⟨e2, rfl⟩
  have d2 := d.ext e2
  cases hfi : pinF page S.frames with
  | none =>
    simp -dsimp (disch := first | with_reducible assumption | omega | (intro h_; cases h_; done) | (simp only [LN] <;> omega) | (simp only [LF]; done) | (repeat (first | with_reducible assumption | apply Ext.refl | apply Ext.app | (apply Ext.set <;> omega) | (refine Ext.trans ?_ (by assumption))))) only [AX, TY, AD, mapPut, entsOf, oneV, builtinV, idsOf, mapId, touchB, Nat.reduceLT, Nat.reduceLeDiff, Nat.reduceEqDiff, Nat.reduceAdd, Nat.reduceMul, Int.reduceBEq, Int.reduceEq, Int.reduceNeg, Int.reduceLT, Int.reduceLE, Int.reduceAdd, Int.reduceSub, Int.reduceMul, Int.reduceToNat, Int.reduceGT, Nat.reduceBEq, Nat.reducePow, Nat.reduceGT, reduceCtorEq, ↓reduceIte, ptrF]
    exact ⟨Kp.ext e2 _, .inr (.inl ⟨h0', d2⟩)⟩
  | some i =>
    obtain ⟨hfi', hi, hp⟩ := pinF_some hfi
    simp -dsimp (disch := first | with_reducible assumption | omega | (intro h_; cases h_; done) | (simp only [LN] <;> omega) | (simp only [LF]; done) | (repeat (first | with_reducible assumption | apply Ext.refl | apply Ext.app | (apply Ext.set <;> omega) | (refine Ext.trans ?_ (by assumption))))) only [AX, TY, AD, mapPut, entsOf, oneV, builtinV, idsOf, mapId, touchB, Nat.reduceLT, Nat.reduceLeDiff, Nat.reduceEqDiff, Nat.reduceAdd, Nat.reduceMul, Int.reduceBEq, Int.reduceEq, Int.reduceNeg, Int.reduceLT, Int.reduceLE, Int.reduceAdd, Int.reduceSub, Int.reduceMul, Int.reduceToNat, Int.reduceGT, Nat.reduceBEq, Nat.reducePow, Nat.reduceGT, reduceCtorEq, ↓reduceIte, ptrF]
    refine (clone46_ok (hs.ext e2) (by omega)).mono ?_
    rintro _ h3 ⟨e3, p', c', o', rfl, gr⟩
    have d3 := d2.ext e3
    have hfl := lt_of_some d3.frs
    have hst := fr_store d3.frs hi (o := 1) (vs := [.slice p' data.length c']) (by simp) rfl ⟨(S.frames[i]).page, p', c', data, (S.frames[i]).pins, (S.frames[i]).dirty, (S.frames[i]).ref⟩ rfl
    have hst2 := fr_store (set_same (h := h3) (i := I.fr) (.cells ((S.frames.set i ⟨(S.frames[i]).page, p', c', data, (S.frames[i]).pins, (S.frames[i]).dirty, (S.frames[i]).ref⟩).flatMap Fr.enc) .rw) hfl) (i := i) (by rw [List.length_set]; exact hi) (o := 3) (vs := [.bool true]) (by simp) rfl ⟨(S.frames[i]).page, p', c', data, (S.frames[i]).pins, true, (S.frames[i]).ref⟩ (by rw [List.getElem_set_self]; rfl)
    rw [List.set_set] at hst2
    simp -dsimp (disch := first | with_reducible assumption | omega | (intro h_; cases h_; done) | (simp only [LN] <;> omega) | (simp only [LF]; done) | (repeat (first | with_reducible assumption | apply Ext.refl | apply Ext.app | (apply Ext.set <;> omega) | (refine Ext.trans ?_ (by assumption))))) only [AX, TY, AD, mapPut, entsOf, oneV, builtinV, idsOf, mapId, touchB, Nat.reduceLT, Nat.reduceLeDiff, Nat.reduceEqDiff, Nat.reduceAdd, Nat.reduceMul, Int.reduceBEq, Int.reduceEq, Int.reduceNeg, Int.reduceLT, Int.reduceLE, Int.reduceAdd, Int.reduceSub, Int.reduceMul, Int.reduceToNat, Int.reduceGT, Nat.reduceBEq, Nat.reducePow, Nat.reduceGT, reduceCtorEq, ↓reduceIte, hst, hst2]
    refine ⟨((Kp.ext e2 _).trans (Kp.ext e3 _)).trans ⟨by rw [List.length_set]; exact Nat.le_refl _, fun j hj hn => set_other _ fun q => hn (.inr (.inl q)), fun _ _ q => q⟩, .inr (.inr ⟨i, hi, h0', rfl, p', c', ?_⟩)⟩
    refine d3.upd (by rw [List.length_set]) (fun f hf => ?_) (by rw [List.length_set]; exact d.hand) (by rw [List.length_set]; exact Nat.le_refl _) (by rw [set_other _ d.ne]; exact d3.pool) (set_same _ hfl) (fun j hj h1 h2 => set_other _ h2)
    rcases List.mem_or_eq_of_mem_set hf with hf | rfl
    · exact d3.dat f hf
    · refine ⟨gr.rs, fun a o e q => ?_⟩
      have h1 := gr.base a (gr.at e)
      have h2 := d2.lt q
      omega
end Go.Proofs.YtmjfhckioaempaaA
