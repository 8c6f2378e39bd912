/- Words of this session: chapter 16: the disk: its memory, what calls keep; Size, inside, call. Words of this session: chapter 16: the disk: Clone, Data, Write. Words of this session: chapter 16: contents of a disk; what is read back. Words of this session: chapter 16: the disk: apply, Sync, Crash. -/
import Derived.Test.YtmjfhckioaempaaAx38
import Derived.Test.YtmjfhckioaempaaAxD
import Derived.Test.YtmjfhckioaempaaTy
import Derived.Test.YtmjfhckioaempaaHk
import Derived.Test.YtmjfhckioaempaaAx29
namespace Go.Proofs.YtmjfhckioaempaaA
open Go Go.Proofs Go.RowKit
set_option linter.unusedVariables false
set_option linter.unusedSimpArgs false
set_option maxRecDepth 10000
set_option maxHeartbeats 1000000
noncomputable def hk : Hooks := fun _ => none
theorem hk_sound : SoundH Try.prog hk := by
  constructor
  · intro f g hf args h r q
    cases hf
  · intro f g hf args h v h' q ι w A hr ha hfr
    cases hf
theorem Ext.same {a b : Heap} (e : Ext a b) {i : Nat} (hi : i < a.length) : b[i]? = a[i]? := by rw [e _ _ (List.getElem?_eq_getElem hi), List.getElem?_eq_getElem hi]
section
variable {α : Type} {h hh : Heap} {p : Option (Nat × Nat)} {c : Option Nat} {sz : Nat} {enc : α → List V} {ys : List α}
theorem Rs.keep (r : Rs h p c sz enc ys) (hk : ∀ a o, p = some (a, o) → hh[a]? = h[a]?) : Rs hh p c sz enc ys := ⟨r.sl.keep hk, r.room, fun hc => by
  have := r.fit hc
  cases p with
  | none => rfl
  | some q => obtain ⟨a, o⟩ := q; have e := hk a o rfl; simp only [fitsV, e] at this ⊢; exact this⟩
end
/-- What a call keeps: the blocks that are not its owner's; what is owned afterwards was so before, or is new. -/
structure Kp (h h' : Heap) (o o' : Nat → Prop) : Prop where
  le : h.length ≤ h'.length
  fr : ∀ i, i < h.length → ¬ o i → h'[i]? = h[i]?
  ow : ∀ i, i < h.length → o' i → o i
theorem Kp.trans {h1 h2 h3 : Heap} {o1 o2 o3 : Nat → Prop} (a : Kp h1 h2 o1 o2) (b : Kp h2 h3 o2 o3) : Kp h1 h3 o1 o3 :=
  ⟨Nat.le_trans a.le b.le, fun i hi hn => by rw [b.fr i (Nat.lt_of_lt_of_le hi a.le) (fun q => hn (a.ow i hi q)), a.fr i hi hn], fun i hi q => a.ow i hi (b.ow i (Nat.lt_of_lt_of_le hi a.le) q)⟩
theorem Kp.ext {h h' : Heap} (e : Ext h h') (o : Nat → Prop) : Kp h h' o o := ⟨e.le, fun i hi _ => e.same hi, fun _ _ q => q⟩
theorem Kp.get {h h' : Heap} {o o' : Nat → Prop} (k : Kp h h' o o') {i : Nat} {x : O} (hx : h[i]? = some x) (hn : ¬ o i) : h'[i]? = some x := by rw [k.fr i (lt_of_some hx) hn, hx]
theorem Kp.not {h h' : Heap} {o o' : Nat → Prop} (k : Kp h h' o o') {i : Nat} (hi : i < h.length) (hn : ¬ o i) : ¬ o' i := fun q => hn (k.ow i hi q)
theorem Kp.rs {α : Type} {h h' : Heap} {o o' : Nat → Prop} (k : Kp h h' o o') {p : Option (Nat × Nat)} {c : Option Nat} {sz : Nat} {enc : α → List V} {ys : List α} (r : Rs h p c sz enc ys) (hn : ∀ a q, p = some (a, q) → ¬ o a) : Rs h' p c sz enc ys := r.keep fun a q e => k.fr a (Sl.lt r.sl e) (hn a q e)
/-- A pending write. -/
structure Pw where
  off : Nat
  p : Option (Nat × Nat)
  c : Option Nat
  data : List Int
def Pw.enc (w : Pw) : List V := [.int .i64 w.off, .slice w.p w.data.length w.c]
/-- A disk. -/
structure Dk where
  dur : List Int
  pend : List Pw
  ctr : Int
  failed : Bool
def ownD (di du : Nat) (oid : Option Nat) (i : Nat) : Prop := i = di ∨ i = du ∨ oid = some i
/-- A disk in memory. M: what else changes. -/
structure DAt (b : Nat) (h : Heap) (di du : Nat) (D : Dk) (oid : Option Nat) (M : Nat → Prop) : Prop where
  blk : ∃ pp pc, h[di]? = some (.cells [.slice (some (du, 0)) D.dur.length (some D.dur.length), .slice pp D.pend.length pc, .int .i64 D.ctr, .bool D.failed] .rw) ∧ Gr b h pp pc oid 2 Pw.enc D.pend
  dur : h[du]? = some (.cells (D.dur.flatMap eb) .rw)
  dat : ∀ w ∈ D.pend, Rs h w.p w.c 1 eb w.data ∧ ∀ a o, w.p = some (a, o) → ¬ ownD di du oid a ∧ ¬ M a
  ne1 : di ≠ du
  ne2 : oid ≠ some di
  ne3 : oid ≠ some du
  small : 1 ≤ D.dur.length ∧ D.dur.length ≤ 4194304
  inr : ∀ w ∈ D.pend, w.off + w.data.length ≤ D.dur.length
  few : D.pend.length ≤ 100000
  base : b ≤ di ∧ b ≤ du
  mlt : ∀ i, M i → i < h.length ∧ ¬ ownD di du oid i
theorem DAt.lt {b : Nat} {h : Heap} {di du : Nat} {D : Dk} {oid : Option Nat} {M : Nat → Prop} (d : DAt b h di du D oid M) : di < h.length ∧ du < h.length ∧ ∀ i, oid = some i → i < h.length := by
  obtain ⟨pp, pc, h1, g⟩ := d.blk
  exact ⟨lt_of_some h1, lt_of_some d.dur, fun i e => g.lt e⟩
theorem DAt.keep {b : Nat} {h hh : Heap} {di du : Nat} {D : Dk} {oid : Option Nat} {M : Nat → Prop} (d : DAt b h di du D oid M) (hl : h.length ≤ hh.length) (hk : ∀ i, i < h.length → ¬ M i → hh[i]? = h[i]?) : DAt b hh di du D oid M := by
  have hlt := d.lt
  have nm : ∀ i, ownD di du oid i → ¬ M i := fun i q m => (d.mlt i m).2 q
  obtain ⟨⟨pp, pc, h1, g⟩, h2, h3, ne1, ne2, ne3, sm, inr, fw, bs, ml⟩ := d
  refine ⟨⟨pp, pc, by rw [hk _ hlt.1 (nm _ (.inl rfl))]; exact h1, g.keep fun i e => hk i (hlt.2.2 i e) (nm i (.inr (.inr e)))⟩, by rw [hk _ hlt.2.1 (nm _ (.inr (.inl rfl)))]; exact h2, fun w hw => ⟨(h3 w hw).1.keep fun a o e => hk a (Sl.lt (h3 w hw).1.sl e) ((h3 w hw).2 a o e).2, (h3 w hw).2⟩, ne1, ne2, ne3, sm, inr, fw, bs, fun i m => ⟨Nat.lt_of_lt_of_le (ml i m).1 hl, (ml i m).2⟩⟩
theorem DAt.ext {b : Nat} {h hh : Heap} {di du : Nat} {D : Dk} {oid : Option Nat} {M : Nat → Prop} (d : DAt b h di du D oid M) (e : Ext h hh) : DAt b hh di du D oid M := d.keep e.le fun i hi _ => e.same hi
theorem size_ok {b : Nat} {h : Heap} {di du : Nat} {D : Dk} {oid : Option Nat} {M : Nat → Prop} (d : DAt b h di du D oid M) : WR (callE Try.prog hk 37 [.ptr (some (di, 0))] h) fun r h' => h = h' ∧ r = .int .i64 D.dur.length := by
  obtain ⟨pp, pc, h1, g⟩ := d.blk
  refine WR.call (hH := rfl) Try.func37 rfl (n := 8) rfl rfl (by simp) ?_
  simp -dsimp (disch := first | with_reducible assumption | omega | (intro h_; cases h_; done) | (simp only [LN] <;> omega) | (simp only [LF]; done) | (repeat (first | with_reducible assumption | apply Ext.refl | apply Ext.app | (apply Ext.set <;> omega) | (refine Ext.trans ?_ (by assumption))))) only [AX, TY, AD, mapPut, entsOf, oneV, builtinV, idsOf, mapId, touchB, Nat.reduceLT, Nat.reduceLeDiff, Nat.reduceEqDiff, Nat.reduceAdd, Nat.reduceMul, Int.reduceBEq, Int.reduceEq, Int.reduceNeg, Int.reduceLT, Int.reduceLE, Int.reduceAdd, Int.reduceSub, Int.reduceMul, Int.reduceToNat, Int.reduceGT, Nat.reduceBEq, Nat.reducePow, Nat.reduceGT, reduceCtorEq, ↓reduceIte, loadN_fact h1]
theorem inside_ok {b : Nat} {h : Heap} {di du : Nat} {D : Dk} {oid : Option Nat} {M : Nat → Prop} (d : DAt b h di du D oid M) (at' n : Nat) (hin : at' + n ≤ D.dur.length) : WR (callE Try.prog hk 45 [.ptr (some (di, 0)), .int .i64 at', .int .i64 n] h) fun r h' => h = h' ∧ r = .bool true := by
  have sm := d.small
  have h1 : (0 : Int) ≤ (at' : Int) := by omega
  have h2 : (0 : Int) ≤ (n : Int) := by omega
  have h3 : (at' : Int) ≤ (D.dur.length : Int) := by omega
  have h4 : (n : Int) ≤ (D.dur.length : Int) - (at' : Int) := by omega
  have hw : IntKind.i64.wrap ((D.dur.length : Int) - (at' : Int)) = (D.dur.length : Int) - (at' : Int) := by rw [IntKind.wrap_i64]; omega
  refine WR.call (hH := rfl) Try.func45 rfl (n := 27) rfl rfl (by simp) ?_
  simp -dsimp (disch := first | with_reducible assumption | omega | (intro h_; cases h_; done) | (simp only [LN] <;> omega) | (simp only [LF]; done) | (repeat (first | with_reducible assumption | apply Ext.refl | apply Ext.app | (apply Ext.set <;> omega) | (refine Ext.trans ?_ (by assumption))))) only [AX, TY, AD, mapPut, entsOf, oneV, builtinV, idsOf, mapId, touchB, Nat.reduceLT, Nat.reduceLeDiff, Nat.reduceEqDiff, Nat.reduceAdd, Nat.reduceMul, Int.reduceBEq, Int.reduceEq, Int.reduceNeg, Int.reduceLT, Int.reduceLE, Int.reduceAdd, Int.reduceSub, Int.reduceMul, Int.reduceToNat, Int.reduceGT, Nat.reduceBEq, Nat.reducePow, Nat.reduceGT, reduceCtorEq, ↓reduceIte, eq_true h1, eq_true h2]
  refine (size_ok d).mono ?_
  rintro _ _ ⟨rfl, rfl⟩
  simp -dsimp (disch := first | with_reducible assumption | omega | (intro h_; cases h_; done) | (simp only [LN] <;> omega) | (simp only [LF]; done) | (repeat (first | with_reducible assumption | apply Ext.refl | apply Ext.app | (apply Ext.set <;> omega) | (refine Ext.trans ?_ (by assumption))))) only [AX, TY, AD, mapPut, entsOf, oneV, builtinV, idsOf, mapId, touchB, Nat.reduceLT, Nat.reduceLeDiff, Nat.reduceEqDiff, Nat.reduceAdd, Nat.reduceMul, Int.reduceBEq, Int.reduceEq, Int.reduceNeg, Int.reduceLT, Int.reduceLE, Int.reduceAdd, Int.reduceSub, Int.reduceMul, Int.reduceToNat, Int.reduceGT, Nat.reduceBEq, Nat.reducePow, Nat.reduceGT, reduceCtorEq, ↓reduceIte, eq_true h3]
  refine (size_ok d).mono ?_
  rintro _ _ ⟨rfl, rfl⟩
  simp -dsimp (disch := first | with_reducible assumption | omega | (intro h_; cases h_; done) | (simp only [LN] <;> omega) | (simp only [LF]; done) | (repeat (first | with_reducible assumption | apply Ext.refl | apply Ext.app | (apply Ext.set <;> omega) | (refine Ext.trans ?_ (by assumption))))) only [AX, TY, AD, mapPut, entsOf, oneV, builtinV, idsOf, mapId, touchB, Nat.reduceLT, Nat.reduceLeDiff, Nat.reduceEqDiff, Nat.reduceAdd, Nat.reduceMul, Int.reduceBEq, Int.reduceEq, Int.reduceNeg, Int.reduceLT, Int.reduceLE, Int.reduceAdd, Int.reduceSub, Int.reduceMul, Int.reduceToNat, Int.reduceGT, Nat.reduceBEq, Nat.reducePow, Nat.reduceGT, reduceCtorEq, ↓reduceIte, hw, eq_true h4]
def decr (c : Int) : Int := if 0 < c then c - 1 else c
theorem call64_ok {b : Nat} {h : Heap} {di du : Nat} {D : Dk} {oid : Option Nat} {M : Nat → Prop} (d : DAt b h di du D oid M) (hf : D.failed = false) (hc : D.ctr ≤ 9223372036854775807) (F : Nat) (cap : List V) (K : V → Heap → Prop)
    (hF : D.ctr ≠ 0 → ∀ h1, DAt b h1 di du ⟨D.dur, D.pend, decr D.ctr, false⟩ oid M → h1.length = h.length → (∀ i, i ≠ di → h1[i]? = h[i]?) → WR (callE Try.prog hk F cap h1) fun _ h2 => K (.int .i64 0) h2)
    (h0 : D.ctr = 0 → ∀ h1, DAt b h1 di du ⟨D.dur, D.pend, 0, true⟩ oid M → h1.length = h.length → (∀ i, i ≠ di → h1[i]? = h[i]?) → K (.int .i64 11) h1) :
    WR (callE Try.prog hk 64 [.ptr (some (di, 0)), .func F [] cap] h) K := by
  have hlt := d.lt
  have upd : ∀ (c : Int) (f : Bool), ∀ pp pc, h[di]? = some (.cells [.slice (some (du, 0)) D.dur.length (some D.dur.length), .slice pp D.pend.length pc, .int .i64 D.ctr, .bool D.failed] .rw) → Gr b h pp pc oid 2 Pw.enc D.pend → DAt b (h.set di (.cells [.slice (some (du, 0)) D.dur.length (some D.dur.length), .slice pp D.pend.length pc, .int .i64 c, .bool f] .rw)) di du ⟨D.dur, D.pend, c, f⟩ oid M := fun c f pp pc _ g => by
    obtain ⟨_, h2, h3, ne1, ne2, ne3, sm, inr, fw, bs, ml⟩ := d
    refine ⟨⟨pp, pc, set_same _ hlt.1, g.keep fun i e => set_other _ fun q => ne2 (by rw [e, q])⟩, by rw [set_other _ (Ne.symm ne1)]; exact h2, fun w hw => ⟨(h3 w hw).1.keep fun a o e => set_other _ fun q => ((h3 w hw).2 a o e).1 (.inl q), (h3 w hw).2⟩, ne1, ne2, ne3, sm, inr, fw, bs, fun i m => ⟨by rw [List.length_set]; exact (ml i m).1, (ml i m).2⟩⟩
  obtain ⟨pp, pc, h1, g⟩ := d.blk
  have hl := lt_of_some h1
  by_cases c0 : D.ctr = 0
  · have hd := upd 0 true pp pc h1 g
    have hk := h0 c0 _ hd (by simp) fun i hi => set_other _ hi
    rw [hf, c0] at h1
    refine WR.call (hH := rfl) Try.func64 rfl (n := 31) rfl rfl (by simp) ?_
    simp -dsimp (disch := first | with_reducible assumption | omega | (intro h_; cases h_; done) | (simp only [LN] <;> omega) | (simp only [LF]; done) | (repeat (first | with_reducible assumption | apply Ext.refl | apply Ext.app | (apply Ext.set <;> omega) | (refine Ext.trans ?_ (by assumption))))) only [AX, TY, AD, mapPut, entsOf, oneV, builtinV, idsOf, mapId, touchB, Nat.reduceLT, Nat.reduceLeDiff, Nat.reduceEqDiff, Nat.reduceAdd, Nat.reduceMul, Int.reduceBEq, Int.reduceEq, Int.reduceNeg, Int.reduceLT, Int.reduceLE, Int.reduceAdd, Int.reduceSub, Int.reduceMul, Int.reduceToNat, Int.reduceGT, Nat.reduceBEq, Nat.reducePow, Nat.reduceGT, reduceCtorEq, ↓reduceIte, loadN_fact h1, storeN_fact h1 (by simp)]
    exact hk
  have hw : IntKind.i64.wrap (D.ctr - 1) = D.ctr - 1 ∨ ¬ 0 < D.ctr := by
    by_cases q : 0 < D.ctr
    · left; rw [IntKind.wrap_i64]; omega
    · exact .inr q
  rw [hf] at h1
  by_cases c1 : 0 < D.ctr
  · have hd := upd (D.ctr - 1) false pp pc (by rw [h1, hf]) g
    have hdc : decr D.ctr = D.ctr - 1 := if_pos c1
    have hw' := hw.resolve_right fun q => q c1
    have hk := hF c0 _ (by rw [hdc]; exact hd) (by simp) fun i hi => set_other _ hi
    refine WR.call (hH := rfl) Try.func64 rfl (n := 31) rfl rfl (by simp) ?_
    simp -dsimp (disch := first | with_reducible assumption | omega | (intro h_; cases h_; done) | (simp only [LN] <;> omega) | (simp only [LF]; done) | (repeat (first | with_reducible assumption | apply Ext.refl | apply Ext.app | (apply Ext.set <;> omega) | (refine Ext.trans ?_ (by assumption))))) only [AX, TY, AD, mapPut, entsOf, oneV, builtinV, idsOf, mapId, touchB, Nat.reduceLT, Nat.reduceLeDiff, Nat.reduceEqDiff, Nat.reduceAdd, Nat.reduceMul, Int.reduceBEq, Int.reduceEq, Int.reduceNeg, Int.reduceLT, Int.reduceLE, Int.reduceAdd, Int.reduceSub, Int.reduceMul, Int.reduceToNat, Int.reduceGT, Nat.reduceBEq, Nat.reducePow, Nat.reduceGT, reduceCtorEq, ↓reduceIte, loadN_fact h1, storeN_fact h1 (by simp), c0, c1, hw']
    refine hk.mono ?_
    intro v h2 q
    simp -dsimp (disch := first | with_reducible assumption | omega | (intro h_; cases h_; done) | (simp only [LN] <;> omega) | (simp only [LF]; done) | (repeat (first | with_reducible assumption | apply Ext.refl | apply Ext.app | (apply Ext.set <;> omega) | (refine Ext.trans ?_ (by assumption))))) only [AX, TY, AD, mapPut, entsOf, oneV, builtinV, idsOf, mapId, touchB, Nat.reduceLT, Nat.reduceLeDiff, Nat.reduceEqDiff, Nat.reduceAdd, Nat.reduceMul, Int.reduceBEq, Int.reduceEq, Int.reduceNeg, Int.reduceLT, Int.reduceLE, Int.reduceAdd, Int.reduceSub, Int.reduceMul, Int.reduceToNat, Int.reduceGT, Nat.reduceBEq, Nat.reducePow, Nat.reduceGT, reduceCtorEq, ↓reduceIte]
    exact q
  · have hdc : decr D.ctr = D.ctr := if_neg c1
    have hk := hF c0 h (by
      rw [hdc]
      obtain ⟨dur, pend, ctr, failed⟩ := D
      simp only at hf; subst hf; exact d) rfl fun i hi => rfl
    refine WR.call (hH := rfl) Try.func64 rfl (n := 31) rfl rfl (by simp) ?_
    simp -dsimp (disch := first | with_reducible assumption | omega | (intro h_; cases h_; done) | (simp only [LN] <;> omega) | (simp only [LF]; done) | (repeat (first | with_reducible assumption | apply Ext.refl | apply Ext.app | (apply Ext.set <;> omega) | (refine Ext.trans ?_ (by assumption))))) only [AX, TY, AD, mapPut, entsOf, oneV, builtinV, idsOf, mapId, touchB, Nat.reduceLT, Nat.reduceLeDiff, Nat.reduceEqDiff, Nat.reduceAdd, Nat.reduceMul, Int.reduceBEq, Int.reduceEq, Int.reduceNeg, Int.reduceLT, Int.reduceLE, Int.reduceAdd, Int.reduceSub, Int.reduceMul, Int.reduceToNat, Int.reduceGT, Nat.reduceBEq, Nat.reducePow, Nat.reduceGT, reduceCtorEq, ↓reduceIte, loadN_fact h1, c0, c1]
    refine hk.mono ?_
    intro v h2 q
    simp -dsimp (disch := first | with_reducible assumption | omega | (intro h_; cases h_; done) | (simp only [LN] <;> omega) | (simp only [LF]; done) | (repeat (first | with_reducible assumption | apply Ext.refl | apply Ext.app | (apply Ext.set <;> omega) | (refine Ext.trans ?_ (by assumption))))) only [AX, TY, AD, mapPut, entsOf, oneV, builtinV, idsOf, mapId, touchB, Nat.reduceLT, Nat.reduceLeDiff, Nat.reduceEqDiff, Nat.reduceAdd, Nat.reduceMul, Int.reduceBEq, Int.reduceEq, Int.reduceNeg, Int.reduceLT, Int.reduceLE, Int.reduceAdd, Int.reduceSub, Int.reduceMul, Int.reduceToNat, Int.reduceGT, Nat.reduceBEq, Nat.reducePow, Nat.reduceGT, reduceCtorEq, ↓reduceIte]
    exact q
end Go.Proofs.YtmjfhckioaempaaA
namespace Go.Proofs.YtmjfhckioaempaaA
open Go Go.Proofs Go.RowKit
set_option linter.unusedVariables false
set_option linter.unusedSimpArgs false
set_option maxRecDepth 10000
set_option maxHeartbeats 2000000
theorem clone46_ok {h : Heap} {p : Option (Nat × Nat)} {c : Option Nat} {ys : List Int} (hs : Sl h p 1 eb ys) (hB : ys.length * 1 ≤ 140737488355328) :
    WR (callE Try.prog hk 46 [.slice p ys.length c] h) fun r h' => Ext h h' ∧ ∃ p' c' oid, r = .slice p' ys.length c' ∧ Gr h.length h' p' c' oid 1 eb ys := by
  have hn := hs.nil'
  have hl := hs.small
  refine WR.call (hH := rfl) Try.func46 rfl (n := 8) rfl rfl (by simp) ?_
  by_cases h0 : p = none
  · simp -dsimp (disch := first | with_reducible assumption | omega | (intro h_; cases h_; done) | (simp only [LN] <;> omega) | (simp only [LF]; done) | (repeat (first | with_reducible assumption | apply Ext.refl | apply Ext.app | (apply Ext.set <;> omega) | (refine Ext.trans ?_ (by assumption))))) only [AX, TY, AD, mapPut, entsOf, oneV, builtinV, idsOf, mapId, touchB, Nat.reduceLT, Nat.reduceLeDiff, Nat.reduceEqDiff, Nat.reduceAdd, Nat.reduceMul, Int.reduceBEq, Int.reduceEq, Int.reduceNeg, Int.reduceLT, Int.reduceLE, Int.reduceAdd, Int.reduceSub, Int.reduceMul, Int.reduceToNat, Int.reduceGT, Nat.reduceBEq, Nat.reducePow, Nat.reduceGT, reduceCtorEq, ↓reduceIte, h0]
    have := hs.nil h0; subst this
    refine ⟨(by (repeat (first | assumption | apply Ext.refl | apply Ext.app | (apply Ext.set <;> omega) | exact Ext.trans (by assumption) (by assumption) | (refine Ext.trans ?_ (by assumption))))), none, some 0, none, rfl, Gr.nil _ _ _ _⟩
  simp -dsimp (disch := first | with_reducible assumption | omega | (intro h_; cases h_; done) | (simp only [LN] <;> omega) | (simp only [LF]; done) | (repeat (first | with_reducible assumption | apply Ext.refl | apply Ext.app | (apply Ext.set <;> omega) | (refine Ext.trans ?_ (by assumption))))) only [AX, TY, AD, mapPut, entsOf, oneV, builtinV, idsOf, mapId, touchB, Nat.reduceLT, Nat.reduceLeDiff, Nat.reduceEqDiff, Nat.reduceAdd, Nat.reduceMul, Int.reduceBEq, Int.reduceEq, Int.reduceNeg, Int.reduceLT, Int.reduceLE, Int.reduceAdd, Int.reduceSub, Int.reduceMul, Int.reduceToNat, Int.reduceGT, Nat.reduceBEq, Nat.reducePow, Nat.reduceGT, reduceCtorEq, ↓reduceIte, h0]
  obtain ⟨p', c', oid, h2, hap, gr, ho, hle, hk⟩ := clone_app (bytes := 1) (b := h.length) (c := c) (hs.ext (hh := h ++ [O.cells [] .rw]) (by (repeat (first | assumption | apply Ext.refl | apply Ext.app | (apply Ext.set <;> omega) | exact Ext.trans (by assumption) (by assumption) | (refine Ext.trans ?_ (by assumption)))))) (q := h.length) (snoc_last _ rfl) (Nat.le_refl _) (fun y _ => rfl) hB
  simp -dsimp (disch := first | with_reducible assumption | omega | (intro h_; cases h_; done) | (simp only [LN] <;> omega) | (simp only [LF]; done) | (repeat (first | with_reducible assumption | apply Ext.refl | apply Ext.app | (apply Ext.set <;> omega) | (refine Ext.trans ?_ (by assumption))))) only [AX, TY, AD, mapPut, entsOf, oneV, builtinV, idsOf, mapId, touchB, Nat.reduceLT, Nat.reduceLeDiff, Nat.reduceEqDiff, Nat.reduceAdd, Nat.reduceMul, Int.reduceBEq, Int.reduceEq, Int.reduceNeg, Int.reduceLT, Int.reduceLE, Int.reduceAdd, Int.reduceSub, Int.reduceMul, Int.reduceToNat, Int.reduceGT, Nat.reduceBEq, Nat.reducePow, Nat.reduceGT, reduceCtorEq, ↓reduceIte, hap]
  refine ⟨Ext.of_keep fun i hi => ?_, p', c', oid, rfl, gr⟩
  rw [hk i (by omega) (by simp; omega), snoc_old _ hi]
theorem w65_ok {b : Nat} {h : Heap} {di du : Nat} {D : Dk} {oid : Option Nat} {M : Nat → Prop} (d : DAt b h di du D oid M) {x0 x1 x2 off : Nat} {p : Option (Nat × Nat)} {c : Option Nat} {data : List Int} (g0 : h[x0]? = some (.cells [.ptr (some (di, 0))] .rw)) (g1 : h[x1]? = some (.cells [.int .i64 off] .rw)) (g2 : h[x2]? = some (.cells [.slice p data.length c] .rw)) (hs : Sl h p 1 eb data) (n0 : oid ≠ some x0) (hin : off + data.length ≤ D.dur.length) (hfew : D.pend.length < 100000) :
    WR (callE Try.prog hk 65 [.ptr (some (x0, 0)), .ptr (some (x1, 0)), .ptr (some (x2, 0))] h) fun r h' => ∃ w oid', w.off = off ∧ w.data = data ∧ DAt b h' di du ⟨D.dur, D.pend ++ [w], D.ctr, D.failed⟩ oid' M ∧ Kp h h' (ownD di du oid) (ownD di du oid') := by
  have hlt := d.lt
  have sm := d.small
  have hx0 := lt_of_some g0
  have hx1 := lt_of_some g1
  have hx2 := lt_of_some g2
  obtain ⟨pp, pc, hb, g⟩ := d.blk
  refine WR.call (hH := rfl) Try.func65 rfl (n := 16) rfl rfl (by simp) ?_
  simp -dsimp (disch := first | with_reducible assumption | omega | (intro h_; cases h_; done) | (simp only [LN] <;> omega) | (simp only [LF]; done) | (repeat (first | with_reducible assumption | apply Ext.refl | apply Ext.app | (apply Ext.set <;> omega) | (refine Ext.trans ?_ (by assumption))))) only [AX, TY, AD, mapPut, entsOf, oneV, builtinV, idsOf, mapId, touchB, Nat.reduceLT, Nat.reduceLeDiff, Nat.reduceEqDiff, Nat.reduceAdd, Nat.reduceMul, Int.reduceBEq, Int.reduceEq, Int.reduceNeg, Int.reduceLT, Int.reduceLE, Int.reduceAdd, Int.reduceSub, Int.reduceMul, Int.reduceToNat, Int.reduceGT, Nat.reduceBEq, Nat.reducePow, Nat.reduceGT, reduceCtorEq, ↓reduceIte]
  refine W.drawn [(0, []), (1, [0]), (2, [0]), (3, [0]), (4, [0]), (5, [4, 3, 2, 1, 0]), (6, [5, 4, 3, 2, 1, 0]), (7, [5, 4, 3, 2, 1, 0]), (8, [4, 3, 2, 1, 0]), (9, [4, 3, 2, 1, 0]), (10, [0]), (11, []), (12, []), (13, [])] (by decide +kernel) ?_
  simp -dsimp (disch := first | with_reducible assumption | omega | (intro h_; cases h_; done) | (simp only [LN] <;> omega) | (simp only [LF]; done) | (repeat (first | with_reducible assumption | apply Ext.refl | apply Ext.app | (apply Ext.set <;> omega) | (refine Ext.trans ?_ (by assumption))))) only [AX, TY, AD, mapPut, entsOf, oneV, builtinV, idsOf, mapId, touchB, Nat.reduceLT, Nat.reduceLeDiff, Nat.reduceEqDiff, Nat.reduceAdd, Nat.reduceMul, Int.reduceBEq, Int.reduceEq, Int.reduceNeg, Int.reduceLT, Int.reduceLE, Int.reduceAdd, Int.reduceSub, Int.reduceMul, Int.reduceToNat, Int.reduceGT, Nat.reduceBEq, Nat.reducePow, Nat.reduceGT, reduceCtorEq, ↓reduceIte, loadN_fact g0, loadN_fact g1, loadN_fact g2, loadN_fact hb]
  refine (clone46_ok hs (by omega)).mono ?_
  rintro _ h2 ⟨e2, p', c', o', rfl, gr'⟩
  have le2 := e2.le
  have s0 := sameO_ext e2 hx0
  have s1 := sameO_ext e2 hx1
  have s2 := sameO_ext e2 hx2
  have s3 := sameO_ext e2 hlt.1
  obtain ⟨p5, c5, o5, h5, hap, g5, ho5, hl5, hk5, hb5⟩ := ((g.ext e2).ext (hh := h2 ++ [O.cells (Pw.enc ⟨off, p', c', data⟩) Kd.rw]) (by (repeat (first | assumption | apply Ext.refl | apply Ext.app | (apply Ext.set <;> omega) | exact Ext.trans (by assumption) (by assumption) | (refine Ext.trans ?_ (by assumption)))))).push (y := ⟨off, p', c', data⟩) (bytes := 32) (vc := some 1) (by have := d.base; simp; omega) (snoc_last _ rfl) rfl rfl (by omega) (by omega)
  have hl1 : (h2 ++ [O.cells (Pw.enc ⟨off, p', c', data⟩) Kd.rw]).length = h2.length + 1 := by simp
  rw [hl1] at hl5 hk5 ho5
  have keep : ∀ i, i < h.length → oid ≠ some i → h5[i]? = h[i]? := fun i hi hn => by rw [hk5 i hn (by omega), snoc_old _ (by omega), e2.same hi]
  have hb5' : h5[di]? = _ := (keep di hlt.1 d.ne2).trans hb
  have m1 := fun x => (g.ext e2).muts x (fun y => !y == di) (fun id e => by have := d.ne2; rw [e] at this; simpa using this)
  have m0 := fun x => (g.ext e2).muts x (fun y => !y == x0) (fun id e => by rw [e] at n0; simpa using n0)
  simp only [Pw.enc] at hap
  simp -dsimp (disch := first | with_reducible assumption | omega | (intro h_; cases h_; done) | (simp only [LN] <;> omega) | (simp only [LF]; done) | (repeat (first | with_reducible assumption | apply Ext.refl | apply Ext.app | (apply Ext.set <;> omega) | (refine Ext.trans ?_ (by assumption))))) only [AX, TY, AD, mapPut, entsOf, oneV, builtinV, idsOf, mapId, touchB, Nat.reduceLT, Nat.reduceLeDiff, Nat.reduceEqDiff, Nat.reduceAdd, Nat.reduceMul, Int.reduceBEq, Int.reduceEq, Int.reduceNeg, Int.reduceLT, Int.reduceLE, Int.reduceAdd, Int.reduceSub, Int.reduceMul, Int.reduceToNat, Int.reduceGT, Nat.reduceBEq, Nat.reducePow, Nat.reduceGT, reduceCtorEq, ↓reduceIte, s0, s1, s2, s3, hap, m0, m1, loadN_fact hb5', storeN_fact hb5' (by simp)]
  have own5 : ∀ i, i < h.length → o5 = some i → oid = some i := fun i hi e => by
    rcases ho5 with q | q
    · rw [← q]; exact e
    · rw [q] at e; cases e; omega
  have hdi5 : o5 ≠ some di := fun e => d.ne2 (own5 _ hlt.1 e)
  have hlt5 : di < h5.length := by omega
  refine ⟨⟨off, p', c', data⟩, o5, rfl, rfl, ⟨⟨p5, c5, by rw [List.length_append]; exact set_same _ hlt5, g5.keep fun id e => set_other _ fun q => hdi5 (by rw [e, q])⟩, ?_, ?_, d.ne1, hdi5, fun e => d.ne3 (own5 _ hlt.2.1 e), d.small, ?_, ?_, d.base, ?_⟩, ?_⟩
  · rw [set_other _ (Ne.symm d.ne1), keep du hlt.2.1 d.ne3]; exact d.dur
  · intro w hw
    rcases List.mem_append.1 hw with hw | hw
    · have h3 := d.dat w hw
      refine ⟨h3.1.keep fun a o e => ?_, fun a o e => ?_⟩
      · have ha := Sl.lt h3.1.sl e
        have hn := (h3.2 a o e).1
        rw [set_other _ fun q => hn (.inl q), keep a ha fun q => hn (.inr (.inr q))]
      · have ha := Sl.lt h3.1.sl e
        refine ⟨fun q => (h3.2 a o e).1 ?_, (h3.2 a o e).2⟩
        rcases q with q | q | q
        · exact .inl q
        · exact .inr (.inl q)
        · exact .inr (.inr (own5 a ha q))
    · rw [List.mem_singleton] at hw
      subst hw
      have hfr : ∀ a o, p' = some (a, o) → h.length ≤ a ∧ a < h2.length ∧ oid ≠ some a := fun a o e => by
        have h1 := gr'.base a (gr'.at e)
        have h2 := gr'.lt (gr'.at e)
        exact ⟨h1, h2, fun q => by have := hlt.2.2 a q; omega⟩
      refine ⟨(gr'.rs.ext (hh := h2 ++ [O.cells [V.int .i64 off, V.slice p' data.length c'] .rw]) (by (repeat (first | assumption | apply Ext.refl | apply Ext.app | (apply Ext.set <;> omega) | exact Ext.trans (by assumption) (by assumption) | (refine Ext.trans ?_ (by assumption)))))).keep fun a o e => ?_, fun a o e => ⟨fun q => ?_, fun m => ?_⟩⟩
      · obtain ⟨h1, h2, h3⟩ := hfr a o e
        rw [set_other _ (by omega)]
        exact hk5 a h3 (by omega)
      · obtain ⟨h1, h2, h3⟩ := hfr a o e
        rcases q with q | q | q
        · omega
        · omega
        · rcases ho5 with q2 | q2
          · rw [q2] at q; exact h3 q
          · rw [q2] at q; cases q; omega
      · obtain ⟨h1, h2, h3⟩ := hfr a o e
        have := (d.mlt a m).1
        omega
  · intro w hw
    rcases List.mem_append.1 hw with hw | hw
    · exact d.inr w hw
    · rw [List.mem_singleton] at hw
      subst hw; exact hin
  · rw [List.length_append]; simp only [List.length_cons, List.length_nil]; omega
  · intro i m
    have := d.mlt i m
    refine ⟨by rw [List.length_set]; omega, fun q => this.2 ?_⟩
    rcases q with q | q | q
    · exact .inl q
    · exact .inr (.inl q)
    · exact .inr (.inr (own5 i this.1 q))
  · refine ⟨by rw [List.length_set]; omega, fun i hi hn => ?_, fun i hi q => ?_⟩
    · rw [set_other _ fun q => hn (.inl q), keep i hi fun q => hn (.inr (.inr q))]
    · rcases q with q | q | q
      · exact .inl q
      · exact .inr (.inl q)
      · exact .inr (.inr (own5 i hi q))
def WrO (D : Dk) (off : Nat) (data : List Int) (D' : Dk) (e : Int) : Prop :=
  if D.failed = true then D' = D ∧ e = 11 else if D.ctr = 0 then D' = ⟨D.dur, D.pend, 0, true⟩ ∧ e = 11 else e = 0 ∧ ∃ w : Pw, w.off = off ∧ w.data = data ∧ D' = ⟨D.dur, D.pend ++ [w], decr D.ctr, false⟩
theorem WrO.dead {D : Dk} {off : Nat} {data : List Int} (hf : D.failed = true) : WrO D off data D 11 := by unfold WrO; rw [if_pos hf]; exact ⟨rfl, rfl⟩
theorem WrO.out {D : Dk} {off : Nat} {data : List Int} (hf : D.failed = false) (hz : D.ctr = 0) : WrO D off data ⟨D.dur, D.pend, 0, true⟩ 11 := by unfold WrO; rw [if_neg (by simp [hf]), if_pos hz]; exact ⟨rfl, rfl⟩
theorem WrO.ok {D : Dk} {off : Nat} {data : List Int} (hf : D.failed = false) (hz : D.ctr ≠ 0) {w : Pw} (h1 : w.off = off) (h2 : w.data = data) : WrO D off data ⟨D.dur, D.pend ++ [w], decr D.ctr, false⟩ 0 := by unfold WrO; rw [if_neg (by simp [hf]), if_neg hz]; exact ⟨rfl, w, h1, h2, rfl⟩
theorem write_ok {b : Nat} {h : Heap} {di du : Nat} {D : Dk} {oid : Option Nat} {M : Nat → Prop} (d : DAt b h di du D oid M) {off : Nat} {p : Option (Nat × Nat)} {c : Option Nat} {data : List Int} (hs : Sl h p 1 eb data) (hpd : ∀ a o, p = some (a, o) → a ≠ di) (hin : off + data.length ≤ D.dur.length) (hfew : D.pend.length < 100000) (hc : D.ctr ≤ 9223372036854775807) :
    WR (callE Try.prog hk 41 [.ptr (some (di, 0)), .int .i64 off, .slice p data.length c] h) fun r h' => ∃ D' oid' e, r = .int .i64 e ∧ DAt b h' di du D' oid' M ∧ Kp h h' (ownD di du oid) (ownD di du oid') ∧ WrO D off data D' e := by
  have hlt := d.lt
  refine WR.call (hH := rfl) Try.func41 rfl (n := 20) rfl rfl (by simp) ?_
  obtain ⟨g, hg, g0, g1, g2, e1, hgl⟩ : ∃ g, h ++ [O.cells [V.ptr (some (di, 0))] .rw] ++ [O.cells [V.int .i64 off] .rw] ++ [O.cells [V.slice p data.length c] .rw] = g ∧ g[h.length]? = some (O.cells [V.ptr (some (di, 0))] .rw) ∧ g[h.length + 1]? = some (O.cells [V.int .i64 off] .rw) ∧ g[h.length + 2]? = some (O.cells [V.slice p data.length c] .rw) ∧ Ext h g ∧ g.length = h.length + 3 := ⟨_, rfl, by rw [snoc_old _ (by simp), snoc_old _ (by simp)]; exact snoc_last _ rfl, by rw [snoc_old _ (by simp)]; exact snoc_last _ (by simp), snoc_last _ (by simp), (by (repeat (first | assumption | apply Ext.refl | apply Ext.app | (apply Ext.set <;> omega) | exact Ext.trans (by assumption) (by assumption) | (refine Ext.trans ?_ (by assumption))))), by simp⟩
  have d1 := d.ext e1
  obtain ⟨pp, pc, hb, gp⟩ := d1.blk
  by_cases hf : D.failed = true
  · rw [hf] at hb
    simp -dsimp (disch := first | with_reducible assumption | omega | (intro h_; cases h_; done) | (simp only [LN] <;> omega) | (simp only [LF]; done) | (repeat (first | with_reducible assumption | apply Ext.refl | apply Ext.app | (apply Ext.set <;> omega) | (refine Ext.trans ?_ (by assumption))))) only [AX, TY, AD, mapPut, entsOf, oneV, builtinV, idsOf, mapId, touchB, Nat.reduceLT, Nat.reduceLeDiff, Nat.reduceEqDiff, Nat.reduceAdd, Nat.reduceMul, Int.reduceBEq, Int.reduceEq, Int.reduceNeg, Int.reduceLT, Int.reduceLE, Int.reduceAdd, Int.reduceSub, Int.reduceMul, Int.reduceToNat, Int.reduceGT, Nat.reduceBEq, Nat.reducePow, Nat.reduceGT, reduceCtorEq, ↓reduceIte, hg, loadN_fact g0, loadN_fact g1, loadN_fact g2, loadN_fact hb]
    exact ⟨D, oid, 11, rfl, d1, Kp.ext e1 _, .dead hf⟩
  have hf' : D.failed = false := by simpa using hf
  rw [hf'] at hb
  simp -dsimp (disch := first | with_reducible assumption | omega | (intro h_; cases h_; done) | (simp only [LN] <;> omega) | (simp only [LF]; done) | (repeat (first | with_reducible assumption | apply Ext.refl | apply Ext.app | (apply Ext.set <;> omega) | (refine Ext.trans ?_ (by assumption))))) only [AX, TY, AD, mapPut, entsOf, oneV, builtinV, idsOf, mapId, touchB, Nat.reduceLT, Nat.reduceLeDiff, Nat.reduceEqDiff, Nat.reduceAdd, Nat.reduceMul, Int.reduceBEq, Int.reduceEq, Int.reduceNeg, Int.reduceLT, Int.reduceLE, Int.reduceAdd, Int.reduceSub, Int.reduceMul, Int.reduceToNat, Int.reduceGT, Nat.reduceBEq, Nat.reducePow, Nat.reduceGT, reduceCtorEq, ↓reduceIte, hg, loadN_fact g0, loadN_fact g1, loadN_fact g2, loadN_fact hb]
  refine (inside_ok d1 off data.length hin).mono ?_
  rintro _ _ ⟨rfl, rfl⟩
  simp -dsimp (disch := first | with_reducible assumption | omega | (intro h_; cases h_; done) | (simp only [LN] <;> omega) | (simp only [LF]; done) | (repeat (first | with_reducible assumption | apply Ext.refl | apply Ext.app | (apply Ext.set <;> omega) | (refine Ext.trans ?_ (by assumption))))) only [AX, TY, AD, mapPut, entsOf, oneV, builtinV, idsOf, mapId, touchB, Nat.reduceLT, Nat.reduceLeDiff, Nat.reduceEqDiff, Nat.reduceAdd, Nat.reduceMul, Int.reduceBEq, Int.reduceEq, Int.reduceNeg, Int.reduceLT, Int.reduceLE, Int.reduceAdd, Int.reduceSub, Int.reduceMul, Int.reduceToNat, Int.reduceGT, Nat.reduceBEq, Nat.reducePow, Nat.reduceGT, reduceCtorEq, ↓reduceIte, loadN_fact g0, loadN_fact g1, loadN_fact g2]
  refine call64_ok d1 hf' hc 65 _ _ (fun hz h3 d3 hl3 hk3 => ?_) (fun hz h3 d3 hl3 hk3 => ?_)
  · refine (w65_ok d3 (by rw [hk3 _ (by omega)]; exact g0) (by rw [hk3 _ (by omega)]; exact g1) (by rw [hk3 _ (by omega)]; exact g2) ((hs.ext e1).keep fun a o e => hk3 a (hpd a o e)) (fun e => by have := hlt.2.2 _ e; omega) hin hfew).mono ?_
    rintro r h4 ⟨w, oid', rfl, rfl, d4, k4⟩
    simp -dsimp (disch := first | with_reducible assumption | omega | (intro h_; cases h_; done) | (simp only [LN] <;> omega) | (simp only [LF]; done) | (repeat (first | with_reducible assumption | apply Ext.refl | apply Ext.app | (apply Ext.set <;> omega) | (refine Ext.trans ?_ (by assumption))))) only [AX, TY, AD, mapPut, entsOf, oneV, builtinV, idsOf, mapId, touchB, Nat.reduceLT, Nat.reduceLeDiff, Nat.reduceEqDiff, Nat.reduceAdd, Nat.reduceMul, Int.reduceBEq, Int.reduceEq, Int.reduceNeg, Int.reduceLT, Int.reduceLE, Int.reduceAdd, Int.reduceSub, Int.reduceMul, Int.reduceToNat, Int.reduceGT, Nat.reduceBEq, Nat.reducePow, Nat.reduceGT, reduceCtorEq, ↓reduceIte]
    exact ⟨_, oid', 0, rfl, d4, (Kp.ext e1 _).trans (Kp.trans ⟨by omega, fun i hi hn => hk3 i fun q => hn (.inl q), fun _ _ q => q⟩ k4), .ok hf' hz rfl rfl⟩
  · simp -dsimp (disch := first | with_reducible assumption | omega | (intro h_; cases h_; done) | (simp only [LN] <;> omega) | (simp only [LF]; done) | (repeat (first | with_reducible assumption | apply Ext.refl | apply Ext.app | (apply Ext.set <;> omega) | (refine Ext.trans ?_ (by assumption))))) only [AX, TY, AD, mapPut, entsOf, oneV, builtinV, idsOf, mapId, touchB, Nat.reduceLT, Nat.reduceLeDiff, Nat.reduceEqDiff, Nat.reduceAdd, Nat.reduceMul, Int.reduceBEq, Int.reduceEq, Int.reduceNeg, Int.reduceLT, Int.reduceLE, Int.reduceAdd, Int.reduceSub, Int.reduceMul, Int.reduceToNat, Int.reduceGT, Nat.reduceBEq, Nat.reducePow, Nat.reduceGT, reduceCtorEq, ↓reduceIte]
    exact ⟨_, oid, 11, rfl, d3, (Kp.ext e1 _).trans ⟨by omega, fun i hi hn => hk3 i fun q => hn (.inl q), fun _ _ q => q⟩, .out hf' hz⟩
end Go.Proofs.YtmjfhckioaempaaA
namespace Go.Proofs.YtmjfhckioaempaaA
open Go Go.Proofs Go.RowKit
set_option linter.unusedVariables false
set_option linter.unusedSimpArgs false
set_option maxRecDepth 10000
set_option maxHeartbeats 2000000
def putL (l : List Int) (off : Nat) (d : List Int) : List Int := l.take off ++ d ++ l.drop (off + d.length)
theorem putL_len {l d : List Int} {off : Nat} (h : off + d.length ≤ l.length) : (putL l off d).length = l.length := by
  unfold putL; simp only [List.length_append, List.length_take, List.length_drop]; omega
theorem putL_get {l d : List Int} {off : Nat} (h : off + d.length ≤ l.length) (i : Nat) : (putL l off d)[i]? = if i < off then l[i]? else if i < off + d.length then d[i - off]? else l[i]? := by
  unfold putL
  have h1 : (l.take off).length = off := by rw [List.length_take]; omega
  have h2 : (l.take off ++ d).length = off + d.length := by rw [List.length_append, h1]
  by_cases c1 : i < off
  · rw [if_pos c1, List.append_assoc, List.getElem?_append_left (by omega), List.getElem?_take_of_lt c1]
  · rw [if_neg c1]
    by_cases c2 : i < off + d.length
    · rw [if_pos c2, List.getElem?_append_left (by omega), List.getElem?_append_right (by omega), h1]
    · rw [if_neg c2, List.getElem?_append_right (by omega), h2, List.getElem?_drop]; congr 1; omega
/-- The writes done one after the other. -/
def applyAll (l : List Int) : List Pw → List Int
  | [] => l
  | w :: ws => applyAll (putL l w.off w.data) ws
theorem applyAll_app (l : List Int) (a b : List Pw) : applyAll l (a ++ b) = applyAll (applyAll l a) b := by
  induction a generalizing l with
  | nil => rfl
  | cons w a ih => exact ih _
theorem applyAll_len : ∀ {l : List Int} {ws : List Pw}, (∀ w ∈ ws, w.off + w.data.length ≤ l.length) → (applyAll l ws).length = l.length
  | l, [], _ => rfl
  | l, w :: ws, h => by
    have h1 := putL_len (h w (by simp))
    show (applyAll (putL l w.off w.data) ws).length = _
    rw [applyAll_len fun x hx => by rw [h1]; exact h x (by simp [hx]), h1]
theorem applyAll_snoc {l : List Int} {ws : List Pw} {i : Nat} (hi : i < ws.length) : applyAll l (ws.take (i + 1)) = putL (applyAll l (ws.take i)) ws[i].off ws[i].data := by
  rw [List.take_succ_eq_append_getElem hi, applyAll_app]; rfl
/-- A part that is read, after a write. -/
theorem read_put {l d : List Int} {off at' n : Nat} (h : off + d.length ≤ l.length) (ha : at' + n ≤ l.length) :
    ((putL l off d).drop at').take n = if max at' off < min (at' + n) (off + d.length) then putL ((l.drop at').take n) (max at' off - at') ((d.take (min (at' + n) (off + d.length) - off)).drop (max at' off - off)) else (l.drop at').take n := by
  have hl : ((l.drop at').take n).length = n := by rw [List.length_take, List.length_drop]; omega
  split
  · rename_i hc
    have hd : ((d.take (min (at' + n) (off + d.length) - off)).drop (max at' off - off)).length = min (at' + n) (off + d.length) - max at' off := by rw [List.length_drop, List.length_take]; omega
    apply List.ext_getElem?
    intro i
    rw [putL_get (by rw [hl, hd]; omega), hd, List.getElem?_drop, List.getElem?_take, List.getElem?_take, List.getElem?_drop, List.getElem?_take, List.getElem?_drop, putL_get h]
    by_cases c0 : i < n
    · simp only [if_pos c0]
      by_cases c1 : at' + i < off
      · rw [if_pos c1, if_pos (by omega)]
      · rw [if_neg c1]
        by_cases c2 : at' + i < off + d.length
        · rw [if_pos c2, if_neg (by omega), if_pos (by omega), if_pos (by omega)]; congr 1; omega
        · rw [if_neg c2, if_neg (by omega), if_neg (by omega)]
    · simp only [if_neg c0]
      rw [if_neg (by omega), if_neg (by omega)]
  · rename_i hc
    apply List.ext_getElem?
    intro i
    rw [List.getElem?_take, List.getElem?_take, List.getElem?_drop, List.getElem?_drop, putL_get h]
    by_cases c0 : i < n
    · simp only [if_pos c0]
      by_cases c1 : at' + i < off
      · rw [if_pos c1]
      · rw [if_neg c1, if_neg (by omega)]
    · simp only [if_neg c0]
/-- Bytes copied into a slice of the call's own. -/
theorem Gr.copyIn {b : Nat} {h : Heap} {id off : Nat} {c : Option Nat} {ys : List Int} (g : Gr b h (some (id, off)) c (some id) 1 eb ys) {k : Nat} {zs : List Int} (hn : k + zs.length ≤ ys.length) :
    ∃ h', storeN h id (off + k) (zs.flatMap eb) = some h' ∧ Gr b h' (some (id, off)) c (some id) 1 eb (putL ys k zs) ∧ h'.length = h.length ∧ ∀ i, i ≠ id → h'[i]? = h[i]? := by
  rcases g.kind with ⟨e, _⟩ | ⟨id', off', C, kd, e, _, e3, e4⟩
  · cases e
  cases e
  have hlt := lt_of_some e3
  obtain ⟨C', k', r1, r2, r3⟩ := g.sl.reads id off rfl
  rw [e3] at r1; cases r1
  have hfl := flat_of_reads g.sl.width r2 r3
  have hkd : kd ≠ .ro := by
    rcases e4 with ⟨_, q⟩ | ⟨_, rfl, _⟩
    · exact q
    · simp
  have hzl : (zs.flatMap eb).length = zs.length := by
    have := flatMap_len (eb_w zs)
    omega
  have hst : storeN h id (off + k) (zs.flatMap eb) = some (h.set id (.cells (splice C (off + k) (zs.flatMap eb)) kd)) := storeN_of e3 hkd (by rw [hzl]; omega) (all_leaf (eb_l zs))
  have hnl : (putL ys k zs).length = ys.length := putL_len hn
  have hsl : (splice C (off + k) (zs.flatMap eb)).length = C.length := by
    unfold splice; simp only [List.length_append, List.length_take, List.length_drop, hzl]; omega
  refine ⟨_, hst, ⟨Sl.at (set_same _ hlt) (eb_w _) ?_ ?_ (by rw [hnl]; exact g.sl.small), .inr ⟨id, off, _, kd, rfl, rfl, set_same _ hlt, ?_⟩, g.base, eb_l _⟩, by simp, fun i hi => List.getElem?_set_ne (Ne.symm hi)⟩
  · rw [hsl, hnl]; exact r2
  · rw [hnl]
    unfold putL
    rw [List.flatMap_append, List.flatMap_append, ← flatMap_take (eb_w ys) k, ← flatMap_drop (eb_w ys) (k + zs.length), ← hfl]
    apply List.ext_getElem?
    intro j
    unfold splice
    rw [Nat.mul_one, Nat.mul_one] at *
    have hl1 : (List.take k (List.take ys.length (List.drop off C))).length = k := by
      rw [List.length_take, List.length_take, List.length_drop]; omega
    have hl2 : (List.take (off + k) C).length = off + k := by rw [List.length_take]; omega
    rw [List.getElem?_take, List.getElem?_drop, hzl]
    by_cases h1 : j < ys.length
    rotate_left
    · rw [if_neg h1, List.getElem?_eq_none]
      simp only [List.length_append, List.length_take, List.length_drop, hzl]; omega
    rw [if_pos h1]
    by_cases h2 : j < k
    · rw [List.append_assoc, List.getElem?_append_left (by omega), List.append_assoc, List.getElem?_append_left (by omega), List.getElem?_take, if_pos (by omega), List.getElem?_take, if_pos h2, List.getElem?_take, if_pos h1, List.getElem?_drop]
    · by_cases h3 : j < k + zs.length
      · rw [List.append_assoc, List.getElem?_append_right (by omega), hl2, List.getElem?_append_left (by omega), List.append_assoc, List.getElem?_append_right (by omega), hl1, List.getElem?_append_left (by omega)]
        congr 1; omega
      · rw [List.getElem?_append_right (by rw [List.length_append, hl2, hzl]; omega), List.length_append, hl2, hzl, List.getElem?_drop, List.getElem?_append_right (by rw [List.length_append, hl1, hzl]; omega), List.length_append, hl1, hzl, List.getElem?_drop, List.getElem?_take, if_pos (by omega), List.getElem?_drop]
        congr 1; omega
  · rw [hsl, hnl]; exact e4
end Go.Proofs.YtmjfhckioaempaaA
namespace Go.Proofs.YtmjfhckioaempaaA
open Go Go.Proofs Go.RowKit
set_option linter.unusedVariables false
set_option linter.unusedSimpArgs false
set_option maxRecDepth 10000
set_option maxHeartbeats 2000000
theorem fold_min (k k' : IntKind) (a b : Int) : foldV min2V (.int k a) [.int k' b] = some (.int k (min a b)) := by
  show some (V.int k (if b < a then b else a)) = _
  congr 2; split <;> omega
theorem fold_max (k k' : IntKind) (a b : Int) : foldV max2V (.int k a) [.int k' b] = some (.int k (max a b)) := by
  show some (V.int k (if b > a then b else a)) = _
  congr 2; split <;> omega
theorem apply_ok {b : Nat} {h : Heap} {di du : Nat} {D : Dk} {oid : Option Nat} {M : Nat → Prop} (d : DAt b h di du D oid M) (w : Pw) (hw : Rs h w.p w.c 1 eb w.data ∧ ∀ a o, w.p = some (a, o) → ¬ ownD di du oid a ∧ ¬ M a) (hin : w.off + w.data.length ≤ D.dur.length) (n : Nat) (hn : w.data.length ≤ n) (hn2 : n ≤ 4611686018427387904) :
    WR (callE Try.prog hk 57 [.ptr (some (di, 0)), .agg [.int .i64 w.off, .slice w.p w.data.length w.c], .int .i64 n] h) fun r h' => DAt b h' di du ⟨putL D.dur w.off w.data, D.pend, D.ctr, D.failed⟩ oid M ∧ Kp h h' (ownD di du oid) (ownD di du oid) ∧ ∀ i, i < h.length → i ≠ du → h'[i]? = h[i]? := by
  have hlt := d.lt
  have sm := d.small
  refine WR.call (hH := rfl) Try.func57 rfl (n := 23) rfl rfl (by simp) ?_
  obtain ⟨g, hg, g0, e1, hgl⟩ : ∃ g, h ++ [O.cells [V.int .i64 w.off, V.slice w.p w.data.length w.c] .rw] = g ∧ g[h.length]? = some (O.cells [V.int .i64 w.off, V.slice w.p w.data.length w.c] .rw) ∧ Ext h g ∧ g.length = h.length + 1 := ⟨_, rfl, snoc_last _ rfl, (by (repeat (first | assumption | apply Ext.refl | apply Ext.app | (apply Ext.set <;> omega) | exact Ext.trans (by assumption) (by assumption) | (refine Ext.trans ?_ (by assumption))))), by simp⟩
  have d1 := d.ext e1
  obtain ⟨pp, pc, hb, gp⟩ := d1.blk
  obtain ⟨o, hcut, ho⟩ := Blk.lo (sz := 1) (t := du) (o0 := 0) (L := D.dur.length) (a := w.off) (by omega)
  have hrs := hw.1.ext e1
  have hhi := (hrs.hi (Nat.le_refl _)).1
  have hc := Blk.copy (dl := D.dur.length - w.off) (xc := w.c) (o := o) (a := w.off) d1.dur (by simp) (eb_w _) hrs.sl (eb_l _) (by
    rcases ho with q | q
    · left; exact List.eq_nil_of_length_eq_zero (by omega)
    · right; omega) (by omega) (by omega) (Nat.le_refl _)
  have hmin : (min (n : Int) (w.data.length : Int)) = (w.data.length : Int) := by omega
  have hmax : (max 0 (w.data.length : Int)) = (w.data.length : Int) := by omega
  have hhi' := fun k => hhi g k (.refl _)
  simp -dsimp (disch := first | with_reducible assumption | omega | (intro h_; cases h_; done) | (simp only [LN] <;> omega) | (simp only [LF]; done) | (repeat (first | with_reducible assumption | apply Ext.refl | apply Ext.app | (apply Ext.set <;> omega) | (refine Ext.trans ?_ (by assumption))))) only [AX, TY, AD, mapPut, entsOf, oneV, builtinV, idsOf, mapId, touchB, Nat.reduceLT, Nat.reduceLeDiff, Nat.reduceEqDiff, Nat.reduceAdd, Nat.reduceMul, Int.reduceBEq, Int.reduceEq, Int.reduceNeg, Int.reduceLT, Int.reduceLE, Int.reduceAdd, Int.reduceSub, Int.reduceMul, Int.reduceToNat, Int.reduceGT, Nat.reduceBEq, Nat.reducePow, Nat.reduceGT, reduceCtorEq, ↓reduceIte, hg]
  refine W.drawn [(0, []), (1, []), (2, []), (3, []), (4, [3, 2, 1, 0]), (5, [3, 2, 1, 0]), (6, []), (7, [6, 5, 4, 3, 2, 1, 0]), (8, [6, 5, 4, 3, 2, 1, 0]), (9, [8, 7, 6, 5, 4, 3, 2, 1, 0]), (10, [9, 8, 7, 6, 5, 4, 3, 2, 1, 0]), (11, [9, 8, 7, 6, 5, 4, 3, 2, 1, 0]), (12, [9, 8, 7, 6, 5, 4, 3, 2, 1, 0]), (13, [8, 7, 6, 5, 4, 3, 2, 1, 0]), (14, [8, 7, 6, 5, 4, 3, 2, 1, 0]), (15, [6, 5, 4, 3, 2, 1, 0]), (16, [])] (by decide +kernel) ?_
  simp -dsimp (disch := first | with_reducible assumption | omega | (intro h_; cases h_; done) | (simp only [LN] <;> omega) | (simp only [LF]; done) | (repeat (first | with_reducible assumption | apply Ext.refl | apply Ext.app | (apply Ext.set <;> omega) | (refine Ext.trans ?_ (by assumption))))) only [AX, TY, AD, mapPut, entsOf, oneV, builtinV, idsOf, mapId, touchB, Nat.reduceLT, Nat.reduceLeDiff, Nat.reduceEqDiff, Nat.reduceAdd, Nat.reduceMul, Int.reduceBEq, Int.reduceEq, Int.reduceNeg, Int.reduceLT, Int.reduceLE, Int.reduceAdd, Int.reduceSub, Int.reduceMul, Int.reduceToNat, Int.reduceGT, Nat.reduceBEq, Nat.reducePow, Nat.reduceGT, reduceCtorEq, ↓reduceIte, loadN_fact g0, loadN_fact hb, hcut, hhi', fold_min, fold_max, hmin, hmax, hc]
  refine ⟨⟨⟨pp, pc, ?_, gp.keep fun i e => set_other _ fun q => d.ne3 (by rw [e, q])⟩, set_same _ (by omega), fun x hx => ⟨(d1.dat x hx).1.keep fun a o e => set_other _ fun q => ((d1.dat x hx).2 a o e).1 (.inr (.inl q)), (d1.dat x hx).2⟩, d.ne1, d.ne2, d.ne3, ?_, ?_, d.few, d.base, fun i m => ⟨by rw [List.length_set]; exact (d1.mlt i m).1, (d1.mlt i m).2⟩⟩, (Kp.ext e1 _).trans ⟨by rw [List.length_set]; omega, fun i hi hn => set_other _ fun q => hn (.inr (.inl q)), fun _ _ q => q⟩, fun i hi hn => by rw [set_other _ hn, e1.same hi]⟩
  · rw [set_other _ d.ne1, putL_len hin]; exact hb
  · rw [putL_len hin]; exact d.small
  · intro x hx; rw [putL_len hin]; exact d.inr x hx
theorem s66_ok {b : Nat} {h : Heap} {di du : Nat} {D : Dk} {oid : Option Nat} {M : Nat → Prop} (d : DAt b h di du D oid M) {x0 : Nat} (g0 : h[x0]? = some (.cells [.ptr (some (di, 0))] .rw)) (n0 : ¬ ownD di du oid x0) (hsm : ∀ w ∈ D.pend, w.data.length ≤ 100000) :
    WR (callE Try.prog hk 66 [.ptr (some (x0, 0))] h) fun r h' => DAt b h' di du ⟨applyAll D.dur D.pend, [], D.ctr, D.failed⟩ none M ∧ Kp h h' (ownD di du oid) (ownD di du none) := by
  have hlt := d.lt
  have sm := d.small
  have hx0 := lt_of_some g0
  obtain ⟨pp, pc, hb, gp⟩ := d.blk
  have hn := gp.sl.nil'
  have hl := gp.sl.small
  refine WR.call (hH := rfl) Try.func66 rfl (n := 22) rfl rfl (by simp) ?_
  simp -dsimp (disch := first | with_reducible assumption | omega | (intro h_; cases h_; done) | (simp only [LN] <;> omega) | (simp only [LF]; done) | (repeat (first | with_reducible assumption | apply Ext.refl | apply Ext.app | (apply Ext.set <;> omega) | (refine Ext.trans ?_ (by assumption))))) only [AX, TY, AD, mapPut, entsOf, oneV, builtinV, idsOf, mapId, touchB, Nat.reduceLT, Nat.reduceLeDiff, Nat.reduceEqDiff, Nat.reduceAdd, Nat.reduceMul, Int.reduceBEq, Int.reduceEq, Int.reduceNeg, Int.reduceLT, Int.reduceLE, Int.reduceAdd, Int.reduceSub, Int.reduceMul, Int.reduceToNat, Int.reduceGT, Nat.reduceBEq, Nat.reducePow, Nat.reduceGT, reduceCtorEq, ↓reduceIte, loadN_fact g0, loadN_fact hb]
  refine W.loop (fun m τ hh => ∃ i : Nat, m + i = D.pend.length ∧ τ 0 = .ptr (some (x0, 0)) ∧ τ 6 = .slice pp D.pend.length pc ∧ τ 7 = .int .i64 D.pend.length ∧ τ 8 = .int .i64 i ∧ DAt b hh di du ⟨applyAll D.dur (D.pend.take i), D.pend, D.ctr, D.failed⟩ oid M ∧ Kp h hh (ownD di du oid) (ownD di du oid) ∧ Sl hh pp 2 Pw.enc D.pend) ?_ (m := D.pend.length) ?_
  rotate_left
  · exact ⟨0, by simp, rfl, rfl, rfl, rfl, by rw [List.take_zero]; exact d, Kp.ext (.refl _) _, gp.sl⟩
  rintro m τ hh ⟨i, hm, t0, t6, t7, t8, di', kp, sl⟩
  have g0' := kp.get g0 n0
  obtain ⟨pp', pc', hb', gp'⟩ := di'.blk
  by_cases h1 : (i : Int) < (D.pend.length : Int)
  rotate_left
  · have hti : D.pend.take i = D.pend := List.take_of_length_le (by omega)
    rw [hti] at di' hb'
    have hdi := lt_of_some hb'
    simp -dsimp (disch := first | with_reducible assumption | omega | (intro h_; cases h_; done) | (simp only [LN] <;> omega) | (simp only [LF]; done) | (repeat (first | with_reducible assumption | apply Ext.refl | apply Ext.app | (apply Ext.set <;> omega) | (refine Ext.trans ?_ (by assumption))))) only [AX, TY, AD, mapPut, entsOf, oneV, builtinV, idsOf, mapId, touchB, Nat.reduceLT, Nat.reduceLeDiff, Nat.reduceEqDiff, Nat.reduceAdd, Nat.reduceMul, Int.reduceBEq, Int.reduceEq, Int.reduceNeg, Int.reduceLT, Int.reduceLE, Int.reduceAdd, Int.reduceSub, Int.reduceMul, Int.reduceToNat, Int.reduceGT, Nat.reduceBEq, Nat.reducePow, Nat.reduceGT, reduceCtorEq, ↓reduceIte, t0, t6, t7, t8, h1, loadN_fact g0', loadN_fact hb', storeN_fact hb' (by simp)]
    refine ⟨⟨⟨none, some 0, set_same _ hdi, Gr.nil _ _ _ _⟩, by rw [set_other _ (Ne.symm d.ne1)]; exact di'.dur, by simp, d.ne1, by simp, by simp, di'.small, by simp, by simp, d.base, fun j mj => ⟨by rw [List.length_set]; exact (di'.mlt j mj).1, fun q => (di'.mlt j mj).2 ?_⟩⟩, kp.trans ⟨by rw [List.length_set]; exact Nat.le_refl _, fun j hj hn => set_other _ fun q => hn (.inl q), fun j _ q => ?_⟩⟩
    · rcases q with q | q | q
      · exact .inl q
      · exact .inr (.inl q)
      · cases q
    · rcases q with q | q | q
      · exact .inl q
      · exact .inr (.inl q)
      · cases q
  have hi : i < D.pend.length := by omega
  have hmem := List.getElem_mem hi
  have hap := applyAll_snoc (l := D.dur) hi
  have hla := sl.load0 (.refl _) hi (m := 2) (by decide)
  generalize D.pend[i] = w at hmem hap hla
  simp only [Pw.enc, List.take] at hla
  have hlen : (applyAll D.dur (D.pend.take i)).length = D.dur.length := applyAll_len fun x hx => d.inr x (List.mem_of_mem_take hx)
  obtain ⟨g, hg, gx, eg, hgl⟩ : ∃ g, hh ++ [O.cells [V.int .i64 w.off, V.slice w.p w.data.length w.c] .rw] = g ∧ g[hh.length]? = some (O.cells [V.int .i64 w.off, V.slice w.p w.data.length w.c] .rw) ∧ Ext hh g ∧ g.length = hh.length + 1 := ⟨_, rfl, snoc_last _ rfl, (by (repeat (first | assumption | apply Ext.refl | apply Ext.app | (apply Ext.set <;> omega) | exact Ext.trans (by assumption) (by assumption) | (refine Ext.trans ?_ (by assumption))))), by simp⟩
  have dg := di'.ext eg
  have hw := dg.dat w hmem
  have hsmw := hsm w hmem
  have g0g := eg _ _ g0'
  simp -dsimp (disch := first | with_reducible assumption | omega | (intro h_; cases h_; done) | (simp only [LN] <;> omega) | (simp only [LF]; done) | (repeat (first | with_reducible assumption | apply Ext.refl | apply Ext.app | (apply Ext.set <;> omega) | (refine Ext.trans ?_ (by assumption))))) only [AX, TY, AD, mapPut, entsOf, oneV, builtinV, idsOf, mapId, touchB, Nat.reduceLT, Nat.reduceLeDiff, Nat.reduceEqDiff, Nat.reduceAdd, Nat.reduceMul, Int.reduceBEq, Int.reduceEq, Int.reduceNeg, Int.reduceLT, Int.reduceLE, Int.reduceAdd, Int.reduceSub, Int.reduceMul, Int.reduceToNat, Int.reduceGT, Nat.reduceBEq, Nat.reducePow, Nat.reduceGT, reduceCtorEq, ↓reduceIte, t0, t6, t7, t8, h1, hla, hg, loadN_fact gx, loadN_fact g0g]
  refine (apply_ok dg w hw (by rw [hlen]; exact d.inr w hmem) w.data.length (Nat.le_refl _) (by omega)).mono ?_
  rintro _ h2 ⟨d2, k2, f2⟩
  simp -dsimp (disch := first | with_reducible assumption | omega | (intro h_; cases h_; done) | (simp only [LN] <;> omega) | (simp only [LF]; done) | (repeat (first | with_reducible assumption | apply Ext.refl | apply Ext.app | (apply Ext.set <;> omega) | (refine Ext.trans ?_ (by assumption))))) only [AX, TY, AD, mapPut, entsOf, oneV, builtinV, idsOf, mapId, touchB, Nat.reduceLT, Nat.reduceLeDiff, Nat.reduceEqDiff, Nat.reduceAdd, Nat.reduceMul, Int.reduceBEq, Int.reduceEq, Int.reduceNeg, Int.reduceLT, Int.reduceLE, Int.reduceAdd, Int.reduceSub, Int.reduceMul, Int.reduceToNat, Int.reduceGT, Nat.reduceBEq, Nat.reducePow, Nat.reduceGT, reduceCtorEq, ↓reduceIte, t0, t6, t7, t8, wrap_in]
  rw [← hap] at d2
  refine ⟨m - 1, by omega, i + 1, by omega, by simp, d2, (kp.trans (Kp.ext eg _)).trans k2, sl.keep fun a o e => ?_⟩
  have ha := sl.lt e
  rw [f2 a (by omega) (fun q => d.ne3 (by rw [← q]; exact gp.at e)), eg.same ha]
theorem sync_ok {b : Nat} {h : Heap} {di du : Nat} {D : Dk} {oid : Option Nat} {M : Nat → Prop} (d : DAt b h di du D oid M) (hf : D.failed = false) (hz : D.ctr ≠ 0) (hc : D.ctr ≤ 9223372036854775807) (hsm : ∀ w ∈ D.pend, w.data.length ≤ 100000) :
    WR (callE Try.prog hk 42 [.ptr (some (di, 0))] h) fun r h' => r = .int .i64 0 ∧ DAt b h' di du ⟨applyAll D.dur D.pend, [], decr D.ctr, false⟩ none M ∧ Kp h h' (ownD di du oid) (ownD di du none) := by
  have hlt := d.lt
  refine WR.call (hH := rfl) Try.func42 rfl (n := 6) rfl rfl (by simp) ?_
  obtain ⟨g, hg, g0, e1, hgl⟩ : ∃ g, h ++ [O.cells [V.ptr (some (di, 0))] .rw] = g ∧ g[h.length]? = some (O.cells [V.ptr (some (di, 0))] .rw) ∧ Ext h g ∧ g.length = h.length + 1 := ⟨_, rfl, snoc_last _ rfl, (by (repeat (first | assumption | apply Ext.refl | apply Ext.app | (apply Ext.set <;> omega) | exact Ext.trans (by assumption) (by assumption) | (refine Ext.trans ?_ (by assumption))))), by simp⟩
  have d1 := d.ext e1
  simp -dsimp (disch := first | with_reducible assumption | omega | (intro h_; cases h_; done) | (simp only [LN] <;> omega) | (simp only [LF]; done) | (repeat (first | with_reducible assumption | apply Ext.refl | apply Ext.app | (apply Ext.set <;> omega) | (refine Ext.trans ?_ (by assumption))))) only [AX, TY, AD, mapPut, entsOf, oneV, builtinV, idsOf, mapId, touchB, Nat.reduceLT, Nat.reduceLeDiff, Nat.reduceEqDiff, Nat.reduceAdd, Nat.reduceMul, Int.reduceBEq, Int.reduceEq, Int.reduceNeg, Int.reduceLT, Int.reduceLE, Int.reduceAdd, Int.reduceSub, Int.reduceMul, Int.reduceToNat, Int.reduceGT, Nat.reduceBEq, Nat.reducePow, Nat.reduceGT, reduceCtorEq, ↓reduceIte, hg, loadN_fact g0]
  refine call64_ok d1 hf hc 66 _ _ (fun hz h3 d3 hl3 hk3 => ?_) (fun hz' h3 d3 hl3 hk3 => absurd hz' hz)
  refine (s66_ok d3 (by rw [hk3 _ (by omega)]; exact g0) (fun q => ?_) hsm).mono ?_
  · rcases q with q | q | q
    · omega
    · omega
    · have := hlt.2.2 _ q; omega
  rintro r h4 ⟨d4, k4⟩
  simp -dsimp (disch := first | with_reducible assumption | omega | (intro h_; cases h_; done) | (simp only [LN] <;> omega) | (simp only [LF]; done) | (repeat (first | with_reducible assumption | apply Ext.refl | apply Ext.app | (apply Ext.set <;> omega) | (refine Ext.trans ?_ (by assumption))))) only [AX, TY, AD, mapPut, entsOf, oneV, builtinV, idsOf, mapId, touchB, Nat.reduceLT, Nat.reduceLeDiff, Nat.reduceEqDiff, Nat.reduceAdd, Nat.reduceMul, Int.reduceBEq, Int.reduceEq, Int.reduceNeg, Int.reduceLT, Int.reduceLE, Int.reduceAdd, Int.reduceSub, Int.reduceMul, Int.reduceToNat, Int.reduceGT, Nat.reduceBEq, Nat.reducePow, Nat.reduceGT, reduceCtorEq, ↓reduceIte]
  exact ⟨d4, (Kp.ext e1 _).trans (Kp.trans ⟨by omega, fun i hi hn => hk3 i fun q => hn (.inl q), fun _ _ q => q⟩ k4)⟩
def ei (a : Int) : List V := [.int .i64 a]
theorem crash_ok {b : Nat} {h : Heap} {di du : Nat} {D : Dk} {oid : Option Nat} {M : Nat → Prop} (d : DAt b h di du D oid M) {q : Option (Nat × Nat)} {qc : Option Nat} {k : Nat} (hs : Sl h q 1 ei (List.replicate k 1024)) (hq : ∀ a o, q = some (a, o) → ¬ ownD di du oid a) (hpk : D.pend.length ≤ k) (hsm : ∀ w ∈ D.pend, w.data.length ≤ 1024) :
    WR (callE Try.prog hk 30 [.ptr (some (di, 0)), .slice q k qc] h) fun r h' => DAt b h' di du ⟨applyAll D.dur D.pend, [], -1, false⟩ none M ∧ Kp h h' (ownD di du oid) (ownD di du none) := by
  have hlt := d.lt
  have sm := d.small
  obtain ⟨pp, pc, hb, gp⟩ := d.blk
  have hn := gp.sl.nil'
  have hl := gp.sl.small
  have hnq := hs.nil'
  have hlq := hs.small
  rw [List.length_replicate] at hnq hlq
  refine WR.call (hH := rfl) Try.func30 rfl (n := 37) rfl rfl (by simp) ?_
  simp -dsimp (disch := first | with_reducible assumption | omega | (intro h_; cases h_; done) | (simp only [LN] <;> omega) | (simp only [LF]; done) | (repeat (first | with_reducible assumption | apply Ext.refl | apply Ext.app | (apply Ext.set <;> omega) | (refine Ext.trans ?_ (by assumption))))) only [AX, TY, AD, mapPut, entsOf, oneV, builtinV, idsOf, mapId, touchB, Nat.reduceLT, Nat.reduceLeDiff, Nat.reduceEqDiff, Nat.reduceAdd, Nat.reduceMul, Int.reduceBEq, Int.reduceEq, Int.reduceNeg, Int.reduceLT, Int.reduceLE, Int.reduceAdd, Int.reduceSub, Int.reduceMul, Int.reduceToNat, Int.reduceGT, Nat.reduceBEq, Nat.reducePow, Nat.reduceGT, reduceCtorEq, ↓reduceIte, loadN_fact hb]
  refine W.loop (fun m τ hh => ∃ i : Nat, m + i = D.pend.length ∧ τ 0 = .ptr (some (di, 0)) ∧ τ 1 = .slice q k qc ∧ τ 9 = .slice pp D.pend.length pc ∧ τ 10 = .int .i64 D.pend.length ∧ τ 11 = .int .i64 i ∧ DAt b hh di du ⟨applyAll D.dur (D.pend.take i), D.pend, D.ctr, D.failed⟩ oid M ∧ Kp h hh (ownD di du oid) (ownD di du oid) ∧ Sl hh pp 2 Pw.enc D.pend) ?_ (m := D.pend.length) ?_
  rotate_left
  · exact ⟨0, by simp, rfl, rfl, rfl, rfl, rfl, by rw [List.take_zero]; exact d, Kp.ext (.refl _) _, gp.sl⟩
  rintro m τ hh ⟨i, hm, t0, t1, t9, t10, t11, di', kp, sl⟩
  obtain ⟨pp', pc', hb', gp'⟩ := di'.blk
  by_cases h1 : (i : Int) < (D.pend.length : Int)
  rotate_left
  · have hti : D.pend.take i = D.pend := List.take_of_length_le (by omega)
    rw [hti] at di' hb'
    have hdi := lt_of_some hb'
    simp -dsimp (disch := first | with_reducible assumption | omega | (intro h_; cases h_; done) | (simp only [LN] <;> omega) | (simp only [LF]; done) | (repeat (first | with_reducible assumption | apply Ext.refl | apply Ext.app | (apply Ext.set <;> omega) | (refine Ext.trans ?_ (by assumption))))) only [AX, TY, AD, mapPut, entsOf, oneV, builtinV, idsOf, mapId, touchB, Nat.reduceLT, Nat.reduceLeDiff, Nat.reduceEqDiff, Nat.reduceAdd, Nat.reduceMul, Int.reduceBEq, Int.reduceEq, Int.reduceNeg, Int.reduceLT, Int.reduceLE, Int.reduceAdd, Int.reduceSub, Int.reduceMul, Int.reduceToNat, Int.reduceGT, Nat.reduceBEq, Nat.reducePow, Nat.reduceGT, reduceCtorEq, ↓reduceIte, t0, t1, t9, t10, t11, h1, loadN_fact hb', storeN_fact hb' (by simp)]
    refine ⟨⟨⟨none, some 0, set_same _ hdi, Gr.nil _ _ _ _⟩, by rw [set_other _ (Ne.symm d.ne1)]; exact di'.dur, by simp, d.ne1, by simp, by simp, di'.small, by simp, by simp, d.base, fun j mj => ⟨by rw [List.length_set]; exact (di'.mlt j mj).1, fun q => (di'.mlt j mj).2 ?_⟩⟩, kp.trans ⟨by rw [List.length_set]; exact Nat.le_refl _, fun j hj hn => set_other _ fun q => hn (.inl q), fun j _ q => ?_⟩⟩
    · rcases q with q | q | q
      · exact .inl q
      · exact .inr (.inl q)
      · cases q
    · rcases q with q | q | q
      · exact .inl q
      · exact .inr (.inl q)
      · cases q
  have hi : i < D.pend.length := by omega
  have hmem := List.getElem_mem hi
  have hap := applyAll_snoc (l := D.dur) hi
  have hla := sl.load0 (.refl _) hi (m := 2) (by decide)
  generalize D.pend[i] = w at hmem hap hla
  simp only [Pw.enc, List.take] at hla
  have hlen : (applyAll D.dur (D.pend.take i)).length = D.dur.length := applyAll_len fun x hx => d.inr x (List.mem_of_mem_take hx)
  obtain ⟨g, hg, gx, eg, hgl⟩ : ∃ g, hh ++ [O.cells [V.int .i64 w.off, V.slice w.p w.data.length w.c] .rw] = g ∧ g[hh.length]? = some (O.cells [V.int .i64 w.off, V.slice w.p w.data.length w.c] .rw) ∧ Ext hh g ∧ g.length = hh.length + 1 := ⟨_, rfl, snoc_last _ rfl, (by (repeat (first | assumption | apply Ext.refl | apply Ext.app | (apply Ext.set <;> omega) | exact Ext.trans (by assumption) (by assumption) | (refine Ext.trans ?_ (by assumption))))), by simp⟩
  have dg := di'.ext eg
  have hw := dg.dat w hmem
  have hsmw := hsm w hmem
  have hsq : Sl g q 1 ei (List.replicate k 1024) := (hs.keep fun a o e => kp.fr a (hs.lt e) (hq a o e)).ext eg
  have hik : i < (List.replicate k (1024 : Int)).length := by rw [List.length_replicate]; omega
  have hlr := hsq.load0 (.refl _) hik (m := 1) (by decide)
  rw [List.getElem_replicate] at hlr
  simp only [ei, List.take] at hlr
  have hik' : (i : Int) < (k : Int) := by omega
  simp -dsimp (disch := first | with_reducible assumption | omega | (intro h_; cases h_; done) | (simp only [LN] <;> omega) | (simp only [LF]; done) | (repeat (first | with_reducible assumption | apply Ext.refl | apply Ext.app | (apply Ext.set <;> omega) | (refine Ext.trans ?_ (by assumption))))) only [AX, TY, AD, mapPut, entsOf, oneV, builtinV, idsOf, mapId, touchB, Nat.reduceLT, Nat.reduceLeDiff, Nat.reduceEqDiff, Nat.reduceAdd, Nat.reduceMul, Int.reduceBEq, Int.reduceEq, Int.reduceNeg, Int.reduceLT, Int.reduceLE, Int.reduceAdd, Int.reduceSub, Int.reduceMul, Int.reduceToNat, Int.reduceGT, Nat.reduceBEq, Nat.reducePow, Nat.reduceGT, reduceCtorEq, ↓reduceIte, t0, t1, t9, t10, t11, h1, hla, hg, hik']
  refine W.drawn [(0, []), (1, [0]), (2, [1, 0]), (3, [2, 1, 0]), (4, [1, 0]), (5, [1, 0]), (6, [])] (by decide +kernel) ?_
  simp -dsimp (disch := first | with_reducible assumption | omega | (intro h_; cases h_; done) | (simp only [LN] <;> omega) | (simp only [LF]; done) | (repeat (first | with_reducible assumption | apply Ext.refl | apply Ext.app | (apply Ext.set <;> omega) | (refine Ext.trans ?_ (by assumption))))) only [AX, TY, AD, mapPut, entsOf, oneV, builtinV, idsOf, mapId, touchB, Nat.reduceLT, Nat.reduceLeDiff, Nat.reduceEqDiff, Nat.reduceAdd, Nat.reduceMul, Int.reduceBEq, Int.reduceEq, Int.reduceNeg, Int.reduceLT, Int.reduceLE, Int.reduceAdd, Int.reduceSub, Int.reduceMul, Int.reduceToNat, Int.reduceGT, Nat.reduceBEq, Nat.reducePow, Nat.reduceGT, reduceCtorEq, ↓reduceIte, t0, t1, t9, t10, t11, loadN_fact gx, hlr]
  refine (apply_ok dg w hw (by rw [hlen]; exact d.inr w hmem) 1024 hsmw (by decide)).mono ?_
  rintro _ h2 ⟨d2, k2, f2⟩
  simp -dsimp (disch := first | with_reducible assumption | omega | (intro h_; cases h_; done) | (simp only [LN] <;> omega) | (simp only [LF]; done) | (repeat (first | with_reducible assumption | apply Ext.refl | apply Ext.app | (apply Ext.set <;> omega) | (refine Ext.trans ?_ (by assumption))))) only [AX, TY, AD, mapPut, entsOf, oneV, builtinV, idsOf, mapId, touchB, Nat.reduceLT, Nat.reduceLeDiff, Nat.reduceEqDiff, Nat.reduceAdd, Nat.reduceMul, Int.reduceBEq, Int.reduceEq, Int.reduceNeg, Int.reduceLT, Int.reduceLE, Int.reduceAdd, Int.reduceSub, Int.reduceMul, Int.reduceToNat, Int.reduceGT, Nat.reduceBEq, Nat.reducePow, Nat.reduceGT, reduceCtorEq, ↓reduceIte, t0, t1, t9, t10, t11, wrap_in]
  rw [← hap] at d2
  refine ⟨m - 1, by omega, i + 1, by omega, by simp, d2, (kp.trans (Kp.ext eg _)).trans k2, sl.keep fun a o e => ?_⟩
  have ha := sl.lt e
  rw [f2 a (by omega) (fun q => d.ne3 (by rw [← q]; exact gp.at e)), eg.same ha]
theorem failAfter_ok {b : Nat} {h : Heap} {di du : Nat} {D : Dk} {oid : Option Nat} {M : Nat → Prop} (d : DAt b h di du D oid M) (n : Int) :
    WR (callE Try.prog hk 34 [.ptr (some (di, 0)), .int .i64 n] h) fun r h' => DAt b h' di du ⟨D.dur, D.pend, max n (-1), D.failed⟩ oid M ∧ Kp h h' (ownD di du oid) (ownD di du oid) := by
  have hlt := d.lt
  obtain ⟨pp, pc, hb, gp⟩ := d.blk
  refine WR.call (hH := rfl) Try.func34 rfl (n := 9) rfl rfl (by simp) ?_
  simp -dsimp (disch := first | with_reducible assumption | omega | (intro h_; cases h_; done) | (simp only [LN] <;> omega) | (simp only [LF]; done) | (repeat (first | with_reducible assumption | apply Ext.refl | apply Ext.app | (apply Ext.set <;> omega) | (refine Ext.trans ?_ (by assumption))))) only [AX, TY, AD, mapPut, entsOf, oneV, builtinV, idsOf, mapId, touchB, Nat.reduceLT, Nat.reduceLeDiff, Nat.reduceEqDiff, Nat.reduceAdd, Nat.reduceMul, Int.reduceBEq, Int.reduceEq, Int.reduceNeg, Int.reduceLT, Int.reduceLE, Int.reduceAdd, Int.reduceSub, Int.reduceMul, Int.reduceToNat, Int.reduceGT, Nat.reduceBEq, Nat.reducePow, Nat.reduceGT, reduceCtorEq, ↓reduceIte, loadN_fact hb, storeN_fact hb (by simp), fold_max]
  refine ⟨⟨⟨pp, pc, set_same _ hlt.1, gp.keep fun i e => set_other _ fun q => d.ne2 (by rw [e, q])⟩, by rw [set_other _ (Ne.symm d.ne1)]; exact d.dur, fun w hw => ⟨(d.dat w hw).1.keep fun a o e => set_other _ fun q => ((d.dat w hw).2 a o e).1 (.inl q), (d.dat w hw).2⟩, d.ne1, d.ne2, d.ne3, d.small, d.inr, d.few, d.base, fun j mj => ⟨by rw [List.length_set]; exact (d.mlt j mj).1, (d.mlt j mj).2⟩⟩, ⟨by rw [List.length_set]; exact Nat.le_refl _, fun j hj hn => set_other _ fun q => hn (.inl q), fun _ _ q => q⟩⟩
theorem failed_ok {b : Nat} {h : Heap} {di du : Nat} {D : Dk} {oid : Option Nat} {M : Nat → Prop} (d : DAt b h di du D oid M) : WR (callE Try.prog hk 22 [.ptr (some (di, 0))] h) fun r h' => h = h' ∧ r = .bool D.failed := by
  obtain ⟨pp, pc, h1, g⟩ := d.blk
  refine WR.call (hH := rfl) Try.func22 rfl (n := 7) rfl rfl (by simp) ?_
  simp -dsimp (disch := first | with_reducible assumption | omega | (intro h_; cases h_; done) | (simp only [LN] <;> omega) | (simp only [LF]; done) | (repeat (first | with_reducible assumption | apply Ext.refl | apply Ext.app | (apply Ext.set <;> omega) | (refine Ext.trans ?_ (by assumption))))) only [AX, TY, AD, mapPut, entsOf, oneV, builtinV, idsOf, mapId, touchB, Nat.reduceLT, Nat.reduceLeDiff, Nat.reduceEqDiff, Nat.reduceAdd, Nat.reduceMul, Int.reduceBEq, Int.reduceEq, Int.reduceNeg, Int.reduceLT, Int.reduceLE, Int.reduceAdd, Int.reduceSub, Int.reduceMul, Int.reduceToNat, Int.reduceGT, Nat.reduceBEq, Nat.reducePow, Nat.reduceGT, reduceCtorEq, ↓reduceIte, loadN_fact h1]
end Go.Proofs.YtmjfhckioaempaaA
