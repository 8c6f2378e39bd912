/- Words of this session: chapter 47: versions; which are few, equal, seen; those that live. (From chapter 22.) -/
import Derived.Test.YtcaolnmpldbkjaaGreatAx38
import Derived.Test.YtcaolnmpldbkjaaGreatAxD
import Derived.Test.YtcaolnmpldbkjaaGreatAx43
import Derived.Test.YtcaolnmpldbkjaaGreatTy
import Derived.Test.YtcaolnmpldbkjaaGreatHk
import Derived.Test.YtcaolnmpldbkjaaGreatAx29
namespace Go.Proofs.YtcaolnmpldbkjaaGreatA
open Go Go.Proofs Go.RowKit
set_option linter.unusedVariables false
set_option linter.unusedSimpArgs false
set_option maxRecDepth 10000
set_option maxHeartbeats 1000000
@[reducible] def ei (a : Int) : List V := [.int .i64 a]
noncomputable def hk0 : Hooks := fun _ => none
theorem hk0_sound : SoundH Tryz.prog hk0 := by
  constructor
  · intro f g hf args h r q
    cases hf
  · intro f g hf args h v h' q ι w A hr ha hfr
    cases hf
theorem run_awake : isTrue (callK Tryz.prog hk0 400 5 [] []) = true := by kernel_rfl
/-- The example is told by what it gives. -/
noncomputable def hk : Hooks := fun f => if f = 5 then some trueHook else none
theorem hk_sound : SoundH Tryz.prog hk := by
  have hm : Tryz.prog.follows .mixedOrders = true := by kernel_rfl
  constructor
  · intro f g hf args h r q
    unfold hk at hf
    split at hf
    · cases hf; exact trueHook_mono q
    · cases hf
  · intro f g hf args h v h' q ι w A hr ha hfr
    unfold hk at hf
    split at hf
    · rename_i e
      cases hf; subst e
      obtain ⟨h1, e1⟩ := isTrue_run run_awake
      exact trueHook_goes hm named hk0_sound (callE_run e1) q ι w A hr ha
    · cases hf
theorem awake_ok {h : Heap} : WR (callE Tryz.prog hk 5 [] h) fun r h' => h = h' ∧ r = .bool true := ⟨_, _, rfl, rfl, rfl⟩
def sees (c d s : Int) : Bool := decide (c ≤ s) && (decide (d = 0) || decide (d > s))
theorem sees_ok {h : Heap} {i i2 : Int} {p : Option (Nat × Nat)} {n : Nat} {cc : Option Nat} (c d s : Int) : WR (callE Tryz.prog hk 65 [.agg [.int .i64 i, .int .i64 i2, .slice p n cc, .int .i64 c, .int .i64 d], .int .i64 s] h) fun r h' => Ext h h' ∧ r = .bool (sees c d s) := by
  refine WR.call (hH := rfl) Tryz.func65 rfl (n := 20) rfl rfl (by simp) ?_
  cases h1 : decide (c ≤ s) <;> cases h2 : decide (d = 0) <;> cases h3 : decide (d > s) <;> (simp -dsimp (disch := first | with_reducible assumption | omega | (intro h_; cases h_; done) | (simp only [LN] <;> omega) | (simp only [LF]; done) | (repeat (first | with_reducible assumption | apply Ext.refl | apply Ext.app | (apply Ext.set <;> omega) | (refine Ext.trans ?_ (by assumption))))) only [AX, TY, AD, mapPut, entsOf, oneV, builtinV, idsOf, mapId, touchB, Nat.reduceLT, Nat.reduceLeDiff, Nat.reduceEqDiff, Nat.reduceAdd, Nat.reduceMul, Int.reduceBEq, Int.reduceEq, Int.reduceNeg, Int.reduceLT, Int.reduceLE, Int.reduceAdd, Int.reduceSub, Int.reduceMul, Int.reduceToNat, Int.reduceGT, Nat.reduceBEq, Nat.reducePow, Nat.reduceGT, reduceCtorEq, ↓reduceIte, h1, h2, h3]; simp [sees, h1, h2, h3]; try (exact (by (repeat (first | assumption | apply Ext.refl | apply Ext.app | (apply Ext.set <;> omega) | exact Ext.trans (by assumption) (by assumption) | (refine Ext.trans ?_ (by assumption)))))))
theorem ext_of {h h' : Heap} (q : ∀ i, i < h.length → h'[i]? = h[i]?) : Ext h h' := ⟨fun i o hi => by rw [q i (lt_of_some hi)]; exact hi⟩
/-- A value: its kind, number and text. -/
structure Vl where
  kind : Int
  int : Int
  text : List Int
def Vl.enc (v : Vl) : List V := [.int .i64 v.kind, .int .i64 v.int, .str v.text]
theorem Vl.ext' {a b : Vl} (h1 : a.kind = b.kind) (h2 : a.int = b.int) (h3 : a.text = b.text) : a = b := by
  obtain ⟨_, _, _⟩ := a; obtain ⟨_, _, _⟩ := b; simp only at h1 h2 h3; subst h1 h2 h3; rfl
structure Ver where
  a : Int
  b : Int
  p : Option (Nat × Nat)
  c : Option Nat
  vals : List Vl
  cr : Int
  dl : Int
def Ver.enc (v : Ver) : List V := [.int .i64 v.a, .int .i64 v.b, .slice v.p v.vals.length v.c, .int .i64 v.cr, .int .i64 v.dl]
structure Key where
  a : Int
  b : Int
  vals : List Vl
  cr : Int
  dl : Int
def Ver.key (v : Ver) : Key := ⟨v.a, v.b, v.vals, v.cr, v.dl⟩
def VOK (h : Heap) (v : Ver) : Prop := Sl h v.p 3 Vl.enc v.vals
theorem VOK.ext {h hh : Heap} {v : Ver} (s : VOK h v) (e : Ext h hh) : VOK hh v := Sl.ext s e
/-- Versions. -/
structure Vers (h : Heap) (p : Option (Nat × Nat)) (ys : List Ver) : Prop where
  sl : Sl h p 5 Ver.enc ys
  ok : ∀ y ∈ ys, VOK h y
theorem Vers.ext {h hh : Heap} {p : Option (Nat × Nat)} {ys : List Ver} (s : Vers h p ys) (e : Ext h hh) : Vers hh p ys := ⟨s.sl.ext e, fun y hy => (s.ok y hy).ext e⟩

theorem sign_ok {h : Heap} (b : Bool) : WR (callE Tryz.prog hk 110 [.bool b] h) fun r h' => h = h' ∧ r = .int .i64 (if b then -1 else 1) := by
  refine WR.call (hH := rfl) Tryz.func110 rfl (n := 4) rfl rfl (by simp) ?_
  cases b <;> simp -dsimp (disch := first | with_reducible assumption | omega | (intro h_; cases h_; done) | (simp only [LN] <;> omega) | (simp only [LF]; done) | (repeat (first | with_reducible assumption | apply Ext.refl | apply Ext.app | (apply Ext.set <;> omega) | (refine Ext.trans ?_ (by assumption))))) only [AX, TY, AD, mapPut, entsOf, oneV, builtinV, idsOf, mapId, touchB, Nat.reduceLT, Nat.reduceLeDiff, Nat.reduceEqDiff, Nat.reduceAdd, Nat.reduceMul, Int.reduceBEq, Int.reduceEq, Int.reduceNeg, Int.reduceLT, Int.reduceLE, Int.reduceAdd, Int.reduceSub, Int.reduceMul, Int.reduceToNat, Int.reduceGT, Nat.reduceBEq, Nat.reducePow, Nat.reduceGT, reduceCtorEq, ↓reduceIte] <;> rfl
theorem sign_ne (b : Bool) : ¬ (if b = true then (-1 : Int) else 1) = 0 := by cases b <;> simp
theorem compare_ok {h : Heap} (x y : Vl) : WR (callE Tryz.prog hk 109 [.agg x.enc, .agg y.enc] h) fun r h' => Ext h h' ∧ ∃ s, r = .int .i64 s ∧ (s = 0 ↔ x = y) := by
  refine WR.call (hH := rfl) Tryz.func109 rfl (n := 38) rfl rfl (by simp) ?_
  by_cases h1 : x.kind = y.kind
  rotate_left
  · simp -dsimp (disch := first | with_reducible assumption | omega | (intro h_; cases h_; done) | (simp only [LN] <;> omega) | (simp only [LF]; done) | (repeat (first | with_reducible assumption | apply Ext.refl | apply Ext.app | (apply Ext.set <;> omega) | (refine Ext.trans ?_ (by assumption))))) only [AX, TY, AD, mapPut, entsOf, oneV, builtinV, idsOf, mapId, touchB, Nat.reduceLT, Nat.reduceLeDiff, Nat.reduceEqDiff, Nat.reduceAdd, Nat.reduceMul, Int.reduceBEq, Int.reduceEq, Int.reduceNeg, Int.reduceLT, Int.reduceLE, Int.reduceAdd, Int.reduceSub, Int.reduceMul, Int.reduceToNat, Int.reduceGT, Nat.reduceBEq, Nat.reducePow, Nat.reduceGT, reduceCtorEq, ↓reduceIte, Vl.enc, h1]
    refine (sign_ok _).mono ?_
    rintro _ _ ⟨rfl, rfl⟩
    simp -dsimp (disch := first | with_reducible assumption | omega | (intro h_; cases h_; done) | (simp only [LN] <;> omega) | (simp only [LF]; done) | (repeat (first | with_reducible assumption | apply Ext.refl | apply Ext.app | (apply Ext.set <;> omega) | (refine Ext.trans ?_ (by assumption))))) only [AX, TY, AD, mapPut, entsOf, oneV, builtinV, idsOf, mapId, touchB, Nat.reduceLT, Nat.reduceLeDiff, Nat.reduceEqDiff, Nat.reduceAdd, Nat.reduceMul, Int.reduceBEq, Int.reduceEq, Int.reduceNeg, Int.reduceLT, Int.reduceLE, Int.reduceAdd, Int.reduceSub, Int.reduceMul, Int.reduceToNat, Int.reduceGT, Nat.reduceBEq, Nat.reducePow, Nat.reduceGT, reduceCtorEq, ↓reduceIte]
    refine ⟨(by (repeat (first | assumption | apply Ext.refl | apply Ext.app | (apply Ext.set <;> omega) | exact Ext.trans (by assumption) (by assumption) | (refine Ext.trans ?_ (by assumption))))), _, rfl, ?_⟩
    simp only [sign_ne, false_iff]
    rintro rfl; exact h1 rfl
  by_cases h2 : x.int = y.int
  rotate_left
  · simp -dsimp (disch := first | with_reducible assumption | omega | (intro h_; cases h_; done) | (simp only [LN] <;> omega) | (simp only [LF]; done) | (repeat (first | with_reducible assumption | apply Ext.refl | apply Ext.app | (apply Ext.set <;> omega) | (refine Ext.trans ?_ (by assumption))))) only [AX, TY, AD, mapPut, entsOf, oneV, builtinV, idsOf, mapId, touchB, Nat.reduceLT, Nat.reduceLeDiff, Nat.reduceEqDiff, Nat.reduceAdd, Nat.reduceMul, Int.reduceBEq, Int.reduceEq, Int.reduceNeg, Int.reduceLT, Int.reduceLE, Int.reduceAdd, Int.reduceSub, Int.reduceMul, Int.reduceToNat, Int.reduceGT, Nat.reduceBEq, Nat.reducePow, Nat.reduceGT, reduceCtorEq, ↓reduceIte, Vl.enc, eq_true h1, h2]
    refine (sign_ok _).mono ?_
    rintro _ _ ⟨rfl, rfl⟩
    simp -dsimp (disch := first | with_reducible assumption | omega | (intro h_; cases h_; done) | (simp only [LN] <;> omega) | (simp only [LF]; done) | (repeat (first | with_reducible assumption | apply Ext.refl | apply Ext.app | (apply Ext.set <;> omega) | (refine Ext.trans ?_ (by assumption))))) only [AX, TY, AD, mapPut, entsOf, oneV, builtinV, idsOf, mapId, touchB, Nat.reduceLT, Nat.reduceLeDiff, Nat.reduceEqDiff, Nat.reduceAdd, Nat.reduceMul, Int.reduceBEq, Int.reduceEq, Int.reduceNeg, Int.reduceLT, Int.reduceLE, Int.reduceAdd, Int.reduceSub, Int.reduceMul, Int.reduceToNat, Int.reduceGT, Nat.reduceBEq, Nat.reducePow, Nat.reduceGT, reduceCtorEq, ↓reduceIte]
    refine ⟨(by (repeat (first | assumption | apply Ext.refl | apply Ext.app | (apply Ext.set <;> omega) | exact Ext.trans (by assumption) (by assumption) | (refine Ext.trans ?_ (by assumption))))), _, rfl, ?_⟩
    simp only [sign_ne, false_iff]
    rintro rfl; exact h2 rfl
  by_cases h3 : x.text = y.text
  rotate_left
  · simp -dsimp (disch := first | with_reducible assumption | omega | (intro h_; cases h_; done) | (simp only [LN] <;> omega) | (simp only [LF]; done) | (repeat (first | with_reducible assumption | apply Ext.refl | apply Ext.app | (apply Ext.set <;> omega) | (refine Ext.trans ?_ (by assumption))))) only [AX, TY, AD, mapPut, entsOf, oneV, builtinV, idsOf, mapId, touchB, Nat.reduceLT, Nat.reduceLeDiff, Nat.reduceEqDiff, Nat.reduceAdd, Nat.reduceMul, Int.reduceBEq, Int.reduceEq, Int.reduceNeg, Int.reduceLT, Int.reduceLE, Int.reduceAdd, Int.reduceSub, Int.reduceMul, Int.reduceToNat, Int.reduceGT, Nat.reduceBEq, Nat.reducePow, Nat.reduceGT, reduceCtorEq, ↓reduceIte, Vl.enc, eq_true h1, eq_true h2, h3]
    refine (sign_ok _).mono ?_
    rintro _ _ ⟨rfl, rfl⟩
    simp -dsimp (disch := first | with_reducible assumption | omega | (intro h_; cases h_; done) | (simp only [LN] <;> omega) | (simp only [LF]; done) | (repeat (first | with_reducible assumption | apply Ext.refl | apply Ext.app | (apply Ext.set <;> omega) | (refine Ext.trans ?_ (by assumption))))) only [AX, TY, AD, mapPut, entsOf, oneV, builtinV, idsOf, mapId, touchB, Nat.reduceLT, Nat.reduceLeDiff, Nat.reduceEqDiff, Nat.reduceAdd, Nat.reduceMul, Int.reduceBEq, Int.reduceEq, Int.reduceNeg, Int.reduceLT, Int.reduceLE, Int.reduceAdd, Int.reduceSub, Int.reduceMul, Int.reduceToNat, Int.reduceGT, Nat.reduceBEq, Nat.reducePow, Nat.reduceGT, reduceCtorEq, ↓reduceIte]
    refine ⟨(by (repeat (first | assumption | apply Ext.refl | apply Ext.app | (apply Ext.set <;> omega) | exact Ext.trans (by assumption) (by assumption) | (refine Ext.trans ?_ (by assumption))))), _, rfl, ?_⟩
    simp only [sign_ne, false_iff]
    rintro rfl; exact h3 rfl
  simp -dsimp (disch := first | with_reducible assumption | omega | (intro h_; cases h_; done) | (simp only [LN] <;> omega) | (simp only [LF]; done) | (repeat (first | with_reducible assumption | apply Ext.refl | apply Ext.app | (apply Ext.set <;> omega) | (refine Ext.trans ?_ (by assumption))))) only [AX, TY, AD, mapPut, entsOf, oneV, builtinV, idsOf, mapId, touchB, Nat.reduceLT, Nat.reduceLeDiff, Nat.reduceEqDiff, Nat.reduceAdd, Nat.reduceMul, Int.reduceBEq, Int.reduceEq, Int.reduceNeg, Int.reduceLT, Int.reduceLE, Int.reduceAdd, Int.reduceSub, Int.reduceMul, Int.reduceToNat, Int.reduceGT, Nat.reduceBEq, Nat.reducePow, Nat.reduceGT, reduceCtorEq, ↓reduceIte, Vl.enc, eq_true h1, eq_true h2, eq_true h3]
  refine ⟨(by (repeat (first | assumption | apply Ext.refl | apply Ext.app | (apply Ext.set <;> omega) | exact Ext.trans (by assumption) (by assumption) | (refine Ext.trans ?_ (by assumption))))), 0, rfl, ?_⟩
  simp only [true_iff]
  exact Vl.ext' h1 h2 h3
theorem cmpRows_ok {h : Heap} {p q : Option (Nat × Nat)} {c d : Option Nat} {xs ys : List Vl} (hx : Sl h p 3 Vl.enc xs) (hy : Sl h q 3 Vl.enc ys) : WR (callE Tryz.prog hk 88 [.slice p xs.length c, .slice q ys.length d] h) fun r h' => Ext h h' ∧ ∃ s, r = .int .i64 s ∧ (s = 0 ↔ xs = ys) := by
  have hnx := hx.nil'
  have hny := hy.nil'
  have hlx := hx.small
  have hly := hy.small
  refine WR.call (hH := rfl) Tryz.func88 rfl (n := 42) rfl rfl (by simp) ?_
  simp -dsimp (disch := first | with_reducible assumption | omega | (intro h_; cases h_; done) | (simp only [LN] <;> omega) | (simp only [LF]; done) | (repeat (first | with_reducible assumption | apply Ext.refl | apply Ext.app | (apply Ext.set <;> omega) | (refine Ext.trans ?_ (by assumption))))) only [AX, TY, AD, mapPut, entsOf, oneV, builtinV, idsOf, mapId, touchB, Nat.reduceLT, Nat.reduceLeDiff, Nat.reduceEqDiff, Nat.reduceAdd, Nat.reduceMul, Int.reduceBEq, Int.reduceEq, Int.reduceNeg, Int.reduceLT, Int.reduceLE, Int.reduceAdd, Int.reduceSub, Int.reduceMul, Int.reduceToNat, Int.reduceGT, Nat.reduceBEq, Nat.reducePow, Nat.reduceGT, reduceCtorEq, ↓reduceIte]
  refine W.loop (fun m τ hh => Ext h hh ∧ ∃ i : Nat, m + i = xs.length ∧ i ≤ ys.length ∧ τ 0 = .slice p xs.length c ∧ τ 1 = .slice q ys.length d ∧ τ 5 = .int .i64 i ∧ xs.take i = ys.take i) ?_ (m := xs.length) ?_
  rotate_left
  · exact ⟨(by (repeat (first | assumption | apply Ext.refl | apply Ext.app | (apply Ext.set <;> omega) | exact Ext.trans (by assumption) (by assumption) | (refine Ext.trans ?_ (by assumption))))), 0, by simp, by simp, rfl, rfl, rfl, by simp⟩
  rintro m τ hh ⟨e, i, hm, hiy, t0, t1, t5, hx2⟩
  have tail : ∀ (hq : ¬ (i < xs.length ∧ i < ys.length)), (xs.length = ys.length ↔ xs = ys) := fun hq => by
    constructor
    · intro hl
      have h1 : xs.length ≤ i := by omega
      rwa [List.take_of_length_le h1, List.take_of_length_le (by omega)] at hx2
    · intro e; rw [e]
  simp -dsimp (disch := first | with_reducible assumption | omega | (intro h_; cases h_; done) | (simp only [LN] <;> omega) | (simp only [LF]; done) | (repeat (first | with_reducible assumption | apply Ext.refl | apply Ext.app | (apply Ext.set <;> omega) | (refine Ext.trans ?_ (by assumption))))) only [AX, TY, AD, mapPut, entsOf, oneV, builtinV, idsOf, mapId, touchB, Nat.reduceLT, Nat.reduceLeDiff, Nat.reduceEqDiff, Nat.reduceAdd, Nat.reduceMul, Int.reduceBEq, Int.reduceEq, Int.reduceNeg, Int.reduceLT, Int.reduceLE, Int.reduceAdd, Int.reduceSub, Int.reduceMul, Int.reduceToNat, Int.reduceGT, Nat.reduceBEq, Nat.reducePow, Nat.reduceGT, reduceCtorEq, ↓reduceIte, t0, t1, t5]
  cases h1 : decide ((i : Int) < (xs.length : Int))
  · simp only [decide_eq_false_iff_not] at h1
    have := tail (by omega)
    simp -dsimp (disch := first | with_reducible assumption | omega | (intro h_; cases h_; done) | (simp only [LN] <;> omega) | (simp only [LF]; done) | (repeat (first | with_reducible assumption | apply Ext.refl | apply Ext.app | (apply Ext.set <;> omega) | (refine Ext.trans ?_ (by assumption))))) only [AX, TY, AD, mapPut, entsOf, oneV, builtinV, idsOf, mapId, touchB, Nat.reduceLT, Nat.reduceLeDiff, Nat.reduceEqDiff, Nat.reduceAdd, Nat.reduceMul, Int.reduceBEq, Int.reduceEq, Int.reduceNeg, Int.reduceLT, Int.reduceLE, Int.reduceAdd, Int.reduceSub, Int.reduceMul, Int.reduceToNat, Int.reduceGT, Nat.reduceBEq, Nat.reducePow, Nat.reduceGT, reduceCtorEq, ↓reduceIte, t0, t1, t5, decide_eq_false h1]
    cases h3 : decide ((xs.length : Int) = (ys.length : Int))
    · simp only [decide_eq_false_iff_not] at h3
      simp -dsimp (disch := first | with_reducible assumption | omega | (intro h_; cases h_; done) | (simp only [LN] <;> omega) | (simp only [LF]; done) | (repeat (first | with_reducible assumption | apply Ext.refl | apply Ext.app | (apply Ext.set <;> omega) | (refine Ext.trans ?_ (by assumption))))) only [AX, TY, AD, mapPut, entsOf, oneV, builtinV, idsOf, mapId, touchB, Nat.reduceLT, Nat.reduceLeDiff, Nat.reduceEqDiff, Nat.reduceAdd, Nat.reduceMul, Int.reduceBEq, Int.reduceEq, Int.reduceNeg, Int.reduceLT, Int.reduceLE, Int.reduceAdd, Int.reduceSub, Int.reduceMul, Int.reduceToNat, Int.reduceGT, Nat.reduceBEq, Nat.reducePow, Nat.reduceGT, reduceCtorEq, ↓reduceIte, t0, t1, t5, decide_eq_false h3]
      refine (sign_ok _).mono ?_
      rintro _ _ ⟨rfl, rfl⟩
      simp -dsimp (disch := first | with_reducible assumption | omega | (intro h_; cases h_; done) | (simp only [LN] <;> omega) | (simp only [LF]; done) | (repeat (first | with_reducible assumption | apply Ext.refl | apply Ext.app | (apply Ext.set <;> omega) | (refine Ext.trans ?_ (by assumption))))) only [AX, TY, AD, mapPut, entsOf, oneV, builtinV, idsOf, mapId, touchB, Nat.reduceLT, Nat.reduceLeDiff, Nat.reduceEqDiff, Nat.reduceAdd, Nat.reduceMul, Int.reduceBEq, Int.reduceEq, Int.reduceNeg, Int.reduceLT, Int.reduceLE, Int.reduceAdd, Int.reduceSub, Int.reduceMul, Int.reduceToNat, Int.reduceGT, Nat.reduceBEq, Nat.reducePow, Nat.reduceGT, reduceCtorEq, ↓reduceIte]
      refine ⟨e, _, rfl, ?_⟩
      simp only [sign_ne, false_iff]
      exact fun e => h3 (by rw [e])
    · simp only [decide_eq_true_eq] at h3
      simp -dsimp (disch := first | with_reducible assumption | omega | (intro h_; cases h_; done) | (simp only [LN] <;> omega) | (simp only [LF]; done) | (repeat (first | with_reducible assumption | apply Ext.refl | apply Ext.app | (apply Ext.set <;> omega) | (refine Ext.trans ?_ (by assumption))))) only [AX, TY, AD, mapPut, entsOf, oneV, builtinV, idsOf, mapId, touchB, Nat.reduceLT, Nat.reduceLeDiff, Nat.reduceEqDiff, Nat.reduceAdd, Nat.reduceMul, Int.reduceBEq, Int.reduceEq, Int.reduceNeg, Int.reduceLT, Int.reduceLE, Int.reduceAdd, Int.reduceSub, Int.reduceMul, Int.reduceToNat, Int.reduceGT, Nat.reduceBEq, Nat.reducePow, Nat.reduceGT, reduceCtorEq, ↓reduceIte, t0, t1, t5, decide_eq_true h3]
      exact ⟨e, 0, rfl, by simp only [true_iff]; exact this.1 (by omega)⟩
  simp only [decide_eq_true_eq] at h1
  cases h2 : decide ((i : Int) < (ys.length : Int))
  · simp only [decide_eq_false_iff_not] at h2
    have h3 : ¬ (xs.length : Int) = (ys.length : Int) := by omega
    simp -dsimp (disch := first | with_reducible assumption | omega | (intro h_; cases h_; done) | (simp only [LN] <;> omega) | (simp only [LF]; done) | (repeat (first | with_reducible assumption | apply Ext.refl | apply Ext.app | (apply Ext.set <;> omega) | (refine Ext.trans ?_ (by assumption))))) only [AX, TY, AD, mapPut, entsOf, oneV, builtinV, idsOf, mapId, touchB, Nat.reduceLT, Nat.reduceLeDiff, Nat.reduceEqDiff, Nat.reduceAdd, Nat.reduceMul, Int.reduceBEq, Int.reduceEq, Int.reduceNeg, Int.reduceLT, Int.reduceLE, Int.reduceAdd, Int.reduceSub, Int.reduceMul, Int.reduceToNat, Int.reduceGT, Nat.reduceBEq, Nat.reducePow, Nat.reduceGT, reduceCtorEq, ↓reduceIte, t0, t1, t5, decide_eq_true h1, decide_eq_false h2, decide_eq_false h3]
    refine (sign_ok _).mono ?_
    rintro _ _ ⟨rfl, rfl⟩
    simp -dsimp (disch := first | with_reducible assumption | omega | (intro h_; cases h_; done) | (simp only [LN] <;> omega) | (simp only [LF]; done) | (repeat (first | with_reducible assumption | apply Ext.refl | apply Ext.app | (apply Ext.set <;> omega) | (refine Ext.trans ?_ (by assumption))))) only [AX, TY, AD, mapPut, entsOf, oneV, builtinV, idsOf, mapId, touchB, Nat.reduceLT, Nat.reduceLeDiff, Nat.reduceEqDiff, Nat.reduceAdd, Nat.reduceMul, Int.reduceBEq, Int.reduceEq, Int.reduceNeg, Int.reduceLT, Int.reduceLE, Int.reduceAdd, Int.reduceSub, Int.reduceMul, Int.reduceToNat, Int.reduceGT, Nat.reduceBEq, Nat.reducePow, Nat.reduceGT, reduceCtorEq, ↓reduceIte]
    refine ⟨e, _, rfl, ?_⟩
    simp only [sign_ne, false_iff]
    exact fun e => h3 (by rw [e])
  simp only [decide_eq_true_eq] at h2
  have hi : i < xs.length := by omega
  have hj : i < ys.length := by omega
  simp -dsimp (disch := first | with_reducible assumption | omega | (intro h_; cases h_; done) | (simp only [LN] <;> omega) | (simp only [LF]; done) | (repeat (first | with_reducible assumption | apply Ext.refl | apply Ext.app | (apply Ext.set <;> omega) | (refine Ext.trans ?_ (by assumption))))) only [AX, TY, AD, mapPut, entsOf, oneV, builtinV, idsOf, mapId, touchB, Nat.reduceLT, Nat.reduceLeDiff, Nat.reduceEqDiff, Nat.reduceAdd, Nat.reduceMul, Int.reduceBEq, Int.reduceEq, Int.reduceNeg, Int.reduceLT, Int.reduceLE, Int.reduceAdd, Int.reduceSub, Int.reduceMul, Int.reduceToNat, Int.reduceGT, Nat.reduceBEq, Nat.reducePow, Nat.reduceGT, reduceCtorEq, ↓reduceIte, t0, t1, t5, decide_eq_true h1, decide_eq_true h2]
  refine W.drawn [(0, []), (1, [0]), (2, []), (3, []), (4, [3, 2, 1, 0]), (5, [4, 3, 2, 1, 0]), (6, [3, 2, 1, 0]), (7, [3, 2, 1, 0]), (8, []), (9, [])] (by decide +kernel) ?_
  simp -dsimp (disch := first | with_reducible assumption | omega | (intro h_; cases h_; done) | (simp only [LN] <;> omega) | (simp only [LF]; done) | (repeat (first | with_reducible assumption | apply Ext.refl | apply Ext.app | (apply Ext.set <;> omega) | (refine Ext.trans ?_ (by assumption))))) only [AX, TY, AD, mapPut, entsOf, oneV, builtinV, idsOf, mapId, touchB, Nat.reduceLT, Nat.reduceLeDiff, Nat.reduceEqDiff, Nat.reduceAdd, Nat.reduceMul, Int.reduceBEq, Int.reduceEq, Int.reduceNeg, Int.reduceLT, Int.reduceLE, Int.reduceAdd, Int.reduceSub, Int.reduceMul, Int.reduceToNat, Int.reduceGT, Nat.reduceBEq, Nat.reducePow, Nat.reduceGT, reduceCtorEq, ↓reduceIte, t0, t1, t5, hx.load0, hy.load0]
  rw [List.take_of_length_le (by rw [hx.width _ (List.getElem_mem hi)]; omega), List.take_of_length_le (by rw [hy.width _ (List.getElem_mem hj)]; omega)]
  refine (compare_ok xs[i] ys[i]).mono ?_
  rintro _ h2 ⟨e2, s, rfl, hs⟩
  have ne : Ext h h2 := e.trans e2
  by_cases hs0 : s = 0
  rotate_left
  · simp -dsimp (disch := first | with_reducible assumption | omega | (intro h_; cases h_; done) | (simp only [LN] <;> omega) | (simp only [LF]; done) | (repeat (first | with_reducible assumption | apply Ext.refl | apply Ext.app | (apply Ext.set <;> omega) | (refine Ext.trans ?_ (by assumption))))) only [AX, TY, AD, mapPut, entsOf, oneV, builtinV, idsOf, mapId, touchB, Nat.reduceLT, Nat.reduceLeDiff, Nat.reduceEqDiff, Nat.reduceAdd, Nat.reduceMul, Int.reduceBEq, Int.reduceEq, Int.reduceNeg, Int.reduceLT, Int.reduceLE, Int.reduceAdd, Int.reduceSub, Int.reduceMul, Int.reduceToNat, Int.reduceGT, Nat.reduceBEq, Nat.reducePow, Nat.reduceGT, reduceCtorEq, ↓reduceIte, t0, t1, t5, hs0]
    refine ⟨ne, s, rfl, ?_⟩
    simp only [hs0, false_iff]
    rintro rfl
    exact hs0 (hs.2 rfl)
  · simp -dsimp (disch := first | with_reducible assumption | omega | (intro h_; cases h_; done) | (simp only [LN] <;> omega) | (simp only [LF]; done) | (repeat (first | with_reducible assumption | apply Ext.refl | apply Ext.app | (apply Ext.set <;> omega) | (refine Ext.trans ?_ (by assumption))))) only [AX, TY, AD, mapPut, entsOf, oneV, builtinV, idsOf, mapId, touchB, Nat.reduceLT, Nat.reduceLeDiff, Nat.reduceEqDiff, Nat.reduceAdd, Nat.reduceMul, Int.reduceBEq, Int.reduceEq, Int.reduceNeg, Int.reduceLT, Int.reduceLE, Int.reduceAdd, Int.reduceSub, Int.reduceMul, Int.reduceToNat, Int.reduceGT, Nat.reduceBEq, Nat.reducePow, Nat.reduceGT, reduceCtorEq, ↓reduceIte, t0, t1, t5, hs0, wrap_in]
    refine ⟨m - 1, by omega, ne, i + 1, by omega, hj, by simp, ?_⟩
    rw [List.take_succ_eq_append_getElem hi, List.take_succ_eq_append_getElem hj, hx2, hs.1 hs0]
theorem same01_ok {h : Heap} {p q : Option (Nat × Nat)} {c d : Option Nat} {xs ys : List Vl} (hx : Sl h p 3 Vl.enc xs) (hy : Sl h q 3 Vl.enc ys) : WR (callE Tryz.prog hk 60 [.slice p xs.length c, .slice q ys.length d] h) fun r h' => Ext h h' ∧ ∃ b, r = .bool b ∧ (b = true ↔ xs = ys) := by
  refine WR.call (hH := rfl) Tryz.func60 rfl (n := 9) rfl rfl (by simp) ?_
  simp -dsimp (disch := first | with_reducible assumption | omega | (intro h_; cases h_; done) | (simp only [LN] <;> omega) | (simp only [LF]; done) | (repeat (first | with_reducible assumption | apply Ext.refl | apply Ext.app | (apply Ext.set <;> omega) | (refine Ext.trans ?_ (by assumption))))) only [AX, TY, AD, mapPut, entsOf, oneV, builtinV, idsOf, mapId, touchB, Nat.reduceLT, Nat.reduceLeDiff, Nat.reduceEqDiff, Nat.reduceAdd, Nat.reduceMul, Int.reduceBEq, Int.reduceEq, Int.reduceNeg, Int.reduceLT, Int.reduceLE, Int.reduceAdd, Int.reduceSub, Int.reduceMul, Int.reduceToNat, Int.reduceGT, Nat.reduceBEq, Nat.reducePow, Nat.reduceGT, reduceCtorEq, ↓reduceIte]
  refine (cmpRows_ok hx hy).mono ?_
  rintro _ h2 ⟨e2, s, rfl, hs⟩
  simp -dsimp (disch := first | with_reducible assumption | omega | (intro h_; cases h_; done) | (simp only [LN] <;> omega) | (simp only [LF]; done) | (repeat (first | with_reducible assumption | apply Ext.refl | apply Ext.app | (apply Ext.set <;> omega) | (refine Ext.trans ?_ (by assumption))))) only [AX, TY, AD, mapPut, entsOf, oneV, builtinV, idsOf, mapId, touchB, Nat.reduceLT, Nat.reduceLeDiff, Nat.reduceEqDiff, Nat.reduceAdd, Nat.reduceMul, Int.reduceBEq, Int.reduceEq, Int.reduceNeg, Int.reduceLT, Int.reduceLE, Int.reduceAdd, Int.reduceSub, Int.reduceMul, Int.reduceToNat, Int.reduceGT, Nat.reduceBEq, Nat.reducePow, Nat.reduceGT, reduceCtorEq, ↓reduceIte]
  exact ⟨e2, _, rfl, by simp [hs]⟩
theorem version_ok {h : Heap} {x y : Ver} (hx : VOK h x) (hy : VOK h y) : WR (callE Tryz.prog hk 24 [.agg x.enc, .agg y.enc] h) fun r h' => Ext h h' ∧ ∃ b, r = .bool b ∧ (b = true ↔ x.key = y.key) := by
  refine WR.call (hH := rfl) Tryz.func24 rfl (n := 31) rfl rfl (by simp) ?_
  have key : x.key = y.key ↔ ((x.a = y.a ∧ x.b = y.b) ∧ x.cr = y.cr ∧ x.dl = y.dl ∧ x.vals = y.vals) := by
    unfold Ver.key; simp only [Key.mk.injEq]
    constructor
    · rintro ⟨h1, h2, h3, h4, h5⟩; exact ⟨⟨h1, h2⟩, h4, h5, h3⟩
    · rintro ⟨⟨h1, h2⟩, h4, h5, h3⟩; exact ⟨h1, h2, h3, h4, h5⟩
  cases h1 : decide (x.a = y.a ∧ x.b = y.b)
  · simp -dsimp (disch := first | with_reducible assumption | omega | (intro h_; cases h_; done) | (simp only [LN] <;> omega) | (simp only [LF]; done) | (repeat (first | with_reducible assumption | apply Ext.refl | apply Ext.app | (apply Ext.set <;> omega) | (refine Ext.trans ?_ (by assumption))))) only [AX, TY, AD, mapPut, entsOf, oneV, builtinV, idsOf, mapId, touchB, Nat.reduceLT, Nat.reduceLeDiff, Nat.reduceEqDiff, Nat.reduceAdd, Nat.reduceMul, Int.reduceBEq, Int.reduceEq, Int.reduceNeg, Int.reduceLT, Int.reduceLE, Int.reduceAdd, Int.reduceSub, Int.reduceMul, Int.reduceToNat, Int.reduceGT, Nat.reduceBEq, Nat.reducePow, Nat.reduceGT, reduceCtorEq, ↓reduceIte, Ver.enc, eqt_33, h1]
    refine ⟨(by (repeat (first | assumption | apply Ext.refl | apply Ext.app | (apply Ext.set <;> omega) | exact Ext.trans (by assumption) (by assumption) | (refine Ext.trans ?_ (by assumption))))), false, rfl, ?_⟩
    rw [key]
    simp only [decide_eq_false_iff_not] at h1
    simp [h1]
  cases h2 : decide (x.cr = y.cr)
  · simp -dsimp (disch := first | with_reducible assumption | omega | (intro h_; cases h_; done) | (simp only [LN] <;> omega) | (simp only [LF]; done) | (repeat (first | with_reducible assumption | apply Ext.refl | apply Ext.app | (apply Ext.set <;> omega) | (refine Ext.trans ?_ (by assumption))))) only [AX, TY, AD, mapPut, entsOf, oneV, builtinV, idsOf, mapId, touchB, Nat.reduceLT, Nat.reduceLeDiff, Nat.reduceEqDiff, Nat.reduceAdd, Nat.reduceMul, Int.reduceBEq, Int.reduceEq, Int.reduceNeg, Int.reduceLT, Int.reduceLE, Int.reduceAdd, Int.reduceSub, Int.reduceMul, Int.reduceToNat, Int.reduceGT, Nat.reduceBEq, Nat.reducePow, Nat.reduceGT, reduceCtorEq, ↓reduceIte, Ver.enc, eqt_33, h1, h2]
    refine ⟨(by (repeat (first | assumption | apply Ext.refl | apply Ext.app | (apply Ext.set <;> omega) | exact Ext.trans (by assumption) (by assumption) | (refine Ext.trans ?_ (by assumption))))), false, rfl, ?_⟩
    rw [key]
    simp only [decide_eq_false_iff_not] at h2
    simp [h2]
  cases h3 : decide (x.dl = y.dl)
  · simp -dsimp (disch := first | with_reducible assumption | omega | (intro h_; cases h_; done) | (simp only [LN] <;> omega) | (simp only [LF]; done) | (repeat (first | with_reducible assumption | apply Ext.refl | apply Ext.app | (apply Ext.set <;> omega) | (refine Ext.trans ?_ (by assumption))))) only [AX, TY, AD, mapPut, entsOf, oneV, builtinV, idsOf, mapId, touchB, Nat.reduceLT, Nat.reduceLeDiff, Nat.reduceEqDiff, Nat.reduceAdd, Nat.reduceMul, Int.reduceBEq, Int.reduceEq, Int.reduceNeg, Int.reduceLT, Int.reduceLE, Int.reduceAdd, Int.reduceSub, Int.reduceMul, Int.reduceToNat, Int.reduceGT, Nat.reduceBEq, Nat.reducePow, Nat.reduceGT, reduceCtorEq, ↓reduceIte, Ver.enc, eqt_33, h1, h2, h3]
    refine ⟨(by (repeat (first | assumption | apply Ext.refl | apply Ext.app | (apply Ext.set <;> omega) | exact Ext.trans (by assumption) (by assumption) | (refine Ext.trans ?_ (by assumption))))), false, rfl, ?_⟩
    rw [key]
    simp only [decide_eq_false_iff_not] at h3
    simp [h3]
  simp -dsimp (disch := first | with_reducible assumption | omega | (intro h_; cases h_; done) | (simp only [LN] <;> omega) | (simp only [LF]; done) | (repeat (first | with_reducible assumption | apply Ext.refl | apply Ext.app | (apply Ext.set <;> omega) | (refine Ext.trans ?_ (by assumption))))) only [AX, TY, AD, mapPut, entsOf, oneV, builtinV, idsOf, mapId, touchB, Nat.reduceLT, Nat.reduceLeDiff, Nat.reduceEqDiff, Nat.reduceAdd, Nat.reduceMul, Int.reduceBEq, Int.reduceEq, Int.reduceNeg, Int.reduceLT, Int.reduceLE, Int.reduceAdd, Int.reduceSub, Int.reduceMul, Int.reduceToNat, Int.reduceGT, Nat.reduceBEq, Nat.reducePow, Nat.reduceGT, reduceCtorEq, ↓reduceIte, Ver.enc, eqt_33, h1, h2, h3]
  refine (same01_ok (Sl.ext hx (by (repeat (first | assumption | apply Ext.refl | apply Ext.app | (apply Ext.set <;> omega) | exact Ext.trans (by assumption) (by assumption) | (refine Ext.trans ?_ (by assumption)))))) (Sl.ext hy (by (repeat (first | assumption | apply Ext.refl | apply Ext.app | (apply Ext.set <;> omega) | exact Ext.trans (by assumption) (by assumption) | (refine Ext.trans ?_ (by assumption))))))).mono ?_
  rintro _ h5 ⟨e5, b, rfl, hb⟩
  simp -dsimp (disch := first | with_reducible assumption | omega | (intro h_; cases h_; done) | (simp only [LN] <;> omega) | (simp only [LF]; done) | (repeat (first | with_reducible assumption | apply Ext.refl | apply Ext.app | (apply Ext.set <;> omega) | (refine Ext.trans ?_ (by assumption))))) only [AX, TY, AD, mapPut, entsOf, oneV, builtinV, idsOf, mapId, touchB, Nat.reduceLT, Nat.reduceLeDiff, Nat.reduceEqDiff, Nat.reduceAdd, Nat.reduceMul, Int.reduceBEq, Int.reduceEq, Int.reduceNeg, Int.reduceLT, Int.reduceLE, Int.reduceAdd, Int.reduceSub, Int.reduceMul, Int.reduceToNat, Int.reduceGT, Nat.reduceBEq, Nat.reducePow, Nat.reduceGT, reduceCtorEq, ↓reduceIte]
  refine ⟨(by (repeat (first | assumption | apply Ext.refl | apply Ext.app | (apply Ext.set <;> omega) | exact Ext.trans (by assumption) (by assumption) | (refine Ext.trans ?_ (by assumption))))), b, rfl, ?_⟩
  rw [key]
  simp only [decide_eq_true_eq] at h1 h2 h3
  simp [h1, h2, h3, hb]
theorem short_ok {h : Heap} {p : Option (Nat × Nat)} {c : Option Nat} {ys : List Vl} (hs : Sl h p 3 Vl.enc ys) (n : Int) :
    WR (callE Tryz.prog hk 56 [.slice p ys.length c, .int .i64 n] h) fun r h' => h = h' ∧ ∃ b, r = .bool b ∧ (b = true → (ys.length : Int) ≤ n) := by
  have hn := hs.nil'
  have hl := hs.small
  refine WR.call (hH := rfl) Tryz.func56 rfl (n := 23) rfl rfl (by simp) ?_
  simp -dsimp (disch := first | with_reducible assumption | omega | (intro h_; cases h_; done) | (simp only [LN] <;> omega) | (simp only [LF]; done) | (repeat (first | with_reducible assumption | apply Ext.refl | apply Ext.app | (apply Ext.set <;> omega) | (refine Ext.trans ?_ (by assumption))))) only [AX, TY, AD, mapPut, entsOf, oneV, builtinV, idsOf, mapId, touchB, Nat.reduceLT, Nat.reduceLeDiff, Nat.reduceEqDiff, Nat.reduceAdd, Nat.reduceMul, Int.reduceBEq, Int.reduceEq, Int.reduceNeg, Int.reduceLT, Int.reduceLE, Int.reduceAdd, Int.reduceSub, Int.reduceMul, Int.reduceToNat, Int.reduceGT, Nat.reduceBEq, Nat.reducePow, Nat.reduceGT, reduceCtorEq, ↓reduceIte]
  refine W.loop (fun m τ hh => hh = h ∧ ∃ i : Nat, m + i = ys.length ∧ τ 0 = .slice p ys.length c ∧ τ 1 = .int .i64 n ∧ τ 5 = .int .i64 i) ?_ (m := ys.length) ?_
  rotate_left
  · exact ⟨rfl, 0, by simp, rfl, rfl, rfl⟩
  rintro m τ _ ⟨rfl, i, hm, t0, t1, t5⟩
  by_cases h1 : (i : Int) < (ys.length : Int)
  · have hi : i < ys.length := by omega
    simp -dsimp (disch := first | with_reducible assumption | omega | (intro h_; cases h_; done) | (simp only [LN] <;> omega) | (simp only [LF]; done) | (repeat (first | with_reducible assumption | apply Ext.refl | apply Ext.app | (apply Ext.set <;> omega) | (refine Ext.trans ?_ (by assumption))))) only [AX, TY, AD, mapPut, entsOf, oneV, builtinV, idsOf, mapId, touchB, Nat.reduceLT, Nat.reduceLeDiff, Nat.reduceEqDiff, Nat.reduceAdd, Nat.reduceMul, Int.reduceBEq, Int.reduceEq, Int.reduceNeg, Int.reduceLT, Int.reduceLE, Int.reduceAdd, Int.reduceSub, Int.reduceMul, Int.reduceToNat, Int.reduceGT, Nat.reduceBEq, Nat.reducePow, Nat.reduceGT, reduceCtorEq, ↓reduceIte, t0, t1, t5, h1, hs.load, Vl.enc]
    by_cases h2 : 300 < (ys[i].text.length : Int)
    · simp -dsimp (disch := first | with_reducible assumption | omega | (intro h_; cases h_; done) | (simp only [LN] <;> omega) | (simp only [LF]; done) | (repeat (first | with_reducible assumption | apply Ext.refl | apply Ext.app | (apply Ext.set <;> omega) | (refine Ext.trans ?_ (by assumption))))) only [AX, TY, AD, mapPut, entsOf, oneV, builtinV, idsOf, mapId, touchB, Nat.reduceLT, Nat.reduceLeDiff, Nat.reduceEqDiff, Nat.reduceAdd, Nat.reduceMul, Int.reduceBEq, Int.reduceEq, Int.reduceNeg, Int.reduceLT, Int.reduceLE, Int.reduceAdd, Int.reduceSub, Int.reduceMul, Int.reduceToNat, Int.reduceGT, Nat.reduceBEq, Nat.reducePow, Nat.reduceGT, reduceCtorEq, ↓reduceIte, h2]
      exact ⟨false, rfl, by simp⟩
    · simp -dsimp (disch := first | with_reducible assumption | omega | (intro h_; cases h_; done) | (simp only [LN] <;> omega) | (simp only [LF]; done) | (repeat (first | with_reducible assumption | apply Ext.refl | apply Ext.app | (apply Ext.set <;> omega) | (refine Ext.trans ?_ (by assumption))))) only [AX, TY, AD, mapPut, entsOf, oneV, builtinV, idsOf, mapId, touchB, Nat.reduceLT, Nat.reduceLeDiff, Nat.reduceEqDiff, Nat.reduceAdd, Nat.reduceMul, Int.reduceBEq, Int.reduceEq, Int.reduceNeg, Int.reduceLT, Int.reduceLE, Int.reduceAdd, Int.reduceSub, Int.reduceMul, Int.reduceToNat, Int.reduceGT, Nat.reduceBEq, Nat.reducePow, Nat.reduceGT, reduceCtorEq, ↓reduceIte, t0, t1, t5, h2, wrap_in]
      exact ⟨m - 1, by omega, i + 1, by omega, by simp⟩
  · simp -dsimp (disch := first | with_reducible assumption | omega | (intro h_; cases h_; done) | (simp only [LN] <;> omega) | (simp only [LF]; done) | (repeat (first | with_reducible assumption | apply Ext.refl | apply Ext.app | (apply Ext.set <;> omega) | (refine Ext.trans ?_ (by assumption))))) only [AX, TY, AD, mapPut, entsOf, oneV, builtinV, idsOf, mapId, touchB, Nat.reduceLT, Nat.reduceLeDiff, Nat.reduceEqDiff, Nat.reduceAdd, Nat.reduceMul, Int.reduceBEq, Int.reduceEq, Int.reduceNeg, Int.reduceLT, Int.reduceLE, Int.reduceAdd, Int.reduceSub, Int.reduceMul, Int.reduceToNat, Int.reduceGT, Nat.reduceBEq, Nat.reducePow, Nat.reduceGT, reduceCtorEq, ↓reduceIte, t0, t1, t5, h1]
    exact ⟨_, rfl, by simp⟩
theorem few_ok {h : Heap} {p : Option (Nat × Nat)} {c : Option Nat} {ys : List Ver} (hs : Vers h p ys) (n : Int) :
    WR (callE Tryz.prog hk 21 [.slice p ys.length c, .int .i64 n] h) fun r h' => h = h' ∧ ∃ b, r = .bool b ∧ (b = true → (ys.length : Int) ≤ n ∧ ∀ y ∈ ys, y.vals.length ≤ 10) := by
  have hn := hs.sl.nil'
  have hl := hs.sl.small
  refine WR.call (hH := rfl) Tryz.func21 rfl (n := 23) rfl rfl (by simp) ?_
  by_cases h0 : n < (ys.length : Int)
  · simp -dsimp (disch := first | with_reducible assumption | omega | (intro h_; cases h_; done) | (simp only [LN] <;> omega) | (simp only [LF]; done) | (repeat (first | with_reducible assumption | apply Ext.refl | apply Ext.app | (apply Ext.set <;> omega) | (refine Ext.trans ?_ (by assumption))))) only [AX, TY, AD, mapPut, entsOf, oneV, builtinV, idsOf, mapId, touchB, Nat.reduceLT, Nat.reduceLeDiff, Nat.reduceEqDiff, Nat.reduceAdd, Nat.reduceMul, Int.reduceBEq, Int.reduceEq, Int.reduceNeg, Int.reduceLT, Int.reduceLE, Int.reduceAdd, Int.reduceSub, Int.reduceMul, Int.reduceToNat, Int.reduceGT, Nat.reduceBEq, Nat.reducePow, Nat.reduceGT, reduceCtorEq, ↓reduceIte, h0]
    exact ⟨false, rfl, by simp⟩
  simp -dsimp (disch := first | with_reducible assumption | omega | (intro h_; cases h_; done) | (simp only [LN] <;> omega) | (simp only [LF]; done) | (repeat (first | with_reducible assumption | apply Ext.refl | apply Ext.app | (apply Ext.set <;> omega) | (refine Ext.trans ?_ (by assumption))))) only [AX, TY, AD, mapPut, entsOf, oneV, builtinV, idsOf, mapId, touchB, Nat.reduceLT, Nat.reduceLeDiff, Nat.reduceEqDiff, Nat.reduceAdd, Nat.reduceMul, Int.reduceBEq, Int.reduceEq, Int.reduceNeg, Int.reduceLT, Int.reduceLE, Int.reduceAdd, Int.reduceSub, Int.reduceMul, Int.reduceToNat, Int.reduceGT, Nat.reduceBEq, Nat.reducePow, Nat.reduceGT, reduceCtorEq, ↓reduceIte, h0]
  refine W.loop (fun m τ hh => hh = h ∧ ∃ i : Nat, m + i = ys.length ∧ τ 0 = .slice p ys.length c ∧ τ 5 = .int .i64 i ∧ ∀ y ∈ ys.take i, y.vals.length ≤ 10) ?_ (m := ys.length) ?_
  rotate_left
  · exact ⟨rfl, 0, by simp, rfl, rfl, by simp⟩
  rintro m τ _ ⟨rfl, i, hm, t0, t5, hall⟩
  by_cases h1 : (i : Int) < (ys.length : Int)
  · have hi : i < ys.length := by omega
    simp -dsimp (disch := first | with_reducible assumption | omega | (intro h_; cases h_; done) | (simp only [LN] <;> omega) | (simp only [LF]; done) | (repeat (first | with_reducible assumption | apply Ext.refl | apply Ext.app | (apply Ext.set <;> omega) | (refine Ext.trans ?_ (by assumption))))) only [AX, TY, AD, mapPut, entsOf, oneV, builtinV, idsOf, mapId, touchB, Nat.reduceLT, Nat.reduceLeDiff, Nat.reduceEqDiff, Nat.reduceAdd, Nat.reduceMul, Int.reduceBEq, Int.reduceEq, Int.reduceNeg, Int.reduceLT, Int.reduceLE, Int.reduceAdd, Int.reduceSub, Int.reduceMul, Int.reduceToNat, Int.reduceGT, Nat.reduceBEq, Nat.reducePow, Nat.reduceGT, reduceCtorEq, ↓reduceIte, t0, t5, h1, hs.sl.load, Ver.enc]
    refine (short_ok (hs.ok _ (List.getElem_mem hi)) 10).mono ?_
    rintro _ _ ⟨rfl, b, rfl, hb⟩
    cases b
    · simp -dsimp (disch := first | with_reducible assumption | omega | (intro h_; cases h_; done) | (simp only [LN] <;> omega) | (simp only [LF]; done) | (repeat (first | with_reducible assumption | apply Ext.refl | apply Ext.app | (apply Ext.set <;> omega) | (refine Ext.trans ?_ (by assumption))))) only [AX, TY, AD, mapPut, entsOf, oneV, builtinV, idsOf, mapId, touchB, Nat.reduceLT, Nat.reduceLeDiff, Nat.reduceEqDiff, Nat.reduceAdd, Nat.reduceMul, Int.reduceBEq, Int.reduceEq, Int.reduceNeg, Int.reduceLT, Int.reduceLE, Int.reduceAdd, Int.reduceSub, Int.reduceMul, Int.reduceToNat, Int.reduceGT, Nat.reduceBEq, Nat.reducePow, Nat.reduceGT, reduceCtorEq, ↓reduceIte]
      exact ⟨false, rfl, by simp⟩
    · simp -dsimp (disch := first | with_reducible assumption | omega | (intro h_; cases h_; done) | (simp only [LN] <;> omega) | (simp only [LF]; done) | (repeat (first | with_reducible assumption | apply Ext.refl | apply Ext.app | (apply Ext.set <;> omega) | (refine Ext.trans ?_ (by assumption))))) only [AX, TY, AD, mapPut, entsOf, oneV, builtinV, idsOf, mapId, touchB, Nat.reduceLT, Nat.reduceLeDiff, Nat.reduceEqDiff, Nat.reduceAdd, Nat.reduceMul, Int.reduceBEq, Int.reduceEq, Int.reduceNeg, Int.reduceLT, Int.reduceLE, Int.reduceAdd, Int.reduceSub, Int.reduceMul, Int.reduceToNat, Int.reduceGT, Nat.reduceBEq, Nat.reducePow, Nat.reduceGT, reduceCtorEq, ↓reduceIte, t0, t5, wrap_in]
      refine ⟨m - 1, by omega, i + 1, by omega, by simp, ?_⟩
      intro y hy
      rw [List.take_succ_eq_append_getElem hi] at hy
      rcases List.mem_append.1 hy with hy | hy
      · exact hall y hy
      · have := hb rfl
        simp only [List.mem_singleton] at hy
        subst hy; omega
  · simp -dsimp (disch := first | with_reducible assumption | omega | (intro h_; cases h_; done) | (simp only [LN] <;> omega) | (simp only [LF]; done) | (repeat (first | with_reducible assumption | apply Ext.refl | apply Ext.app | (apply Ext.set <;> omega) | (refine Ext.trans ?_ (by assumption))))) only [AX, TY, AD, mapPut, entsOf, oneV, builtinV, idsOf, mapId, touchB, Nat.reduceLT, Nat.reduceLeDiff, Nat.reduceEqDiff, Nat.reduceAdd, Nat.reduceMul, Int.reduceBEq, Int.reduceEq, Int.reduceNeg, Int.reduceLT, Int.reduceLE, Int.reduceAdd, Int.reduceSub, Int.reduceMul, Int.reduceToNat, Int.reduceGT, Nat.reduceBEq, Nat.reducePow, Nat.reduceGT, reduceCtorEq, ↓reduceIte, t0, t5, h1]
    refine ⟨true, rfl, fun _ => ⟨by omega, ?_⟩⟩
    rw [List.take_of_length_le (by omega)] at hall
    exact hall
/-- A column: its name and type. -/
structure Col where
  name : List Int
  type : Int
def Col.enc (x : Col) : List V := [.str x.name, .int .i64 x.type]
theorem clone39_ok {h : Heap} {p : Option (Nat × Nat)} {c : Option Nat} {ys : List Int} (hs : Sl h p 1 ei ys) (hB : ys.length * 8 ≤ 140737488355328) :
    WR (callE Tryz.prog hk 39 [.slice p ys.length c] h) fun r h' => Ext h h' ∧ ∃ p' c' oid, r = .slice p' ys.length c' ∧ Gr h.length h' p' c' oid 1 ei ys := by
  have hn := hs.nil'
  have hl := hs.small
  refine WR.call (hH := rfl) Tryz.func39 rfl (n := 8) rfl rfl (by simp) ?_
  by_cases h0 : p = none
  · simp -dsimp (disch := first | with_reducible assumption | omega | (intro h_; cases h_; done) | (simp only [LN] <;> omega) | (simp only [LF]; done) | (repeat (first | with_reducible assumption | apply Ext.refl | apply Ext.app | (apply Ext.set <;> omega) | (refine Ext.trans ?_ (by assumption))))) only [AX, TY, AD, mapPut, entsOf, oneV, builtinV, idsOf, mapId, touchB, Nat.reduceLT, Nat.reduceLeDiff, Nat.reduceEqDiff, Nat.reduceAdd, Nat.reduceMul, Int.reduceBEq, Int.reduceEq, Int.reduceNeg, Int.reduceLT, Int.reduceLE, Int.reduceAdd, Int.reduceSub, Int.reduceMul, Int.reduceToNat, Int.reduceGT, Nat.reduceBEq, Nat.reducePow, Nat.reduceGT, reduceCtorEq, ↓reduceIte, h0]
    have := hs.nil h0; subst this
    refine ⟨(by (repeat (first | assumption | apply Ext.refl | apply Ext.app | (apply Ext.set <;> omega) | exact Ext.trans (by assumption) (by assumption) | (refine Ext.trans ?_ (by assumption))))), none, some 0, none, rfl, Gr.nil _ _ _ _⟩
  simp -dsimp (disch := first | with_reducible assumption | omega | (intro h_; cases h_; done) | (simp only [LN] <;> omega) | (simp only [LF]; done) | (repeat (first | with_reducible assumption | apply Ext.refl | apply Ext.app | (apply Ext.set <;> omega) | (refine Ext.trans ?_ (by assumption))))) only [AX, TY, AD, mapPut, entsOf, oneV, builtinV, idsOf, mapId, touchB, Nat.reduceLT, Nat.reduceLeDiff, Nat.reduceEqDiff, Nat.reduceAdd, Nat.reduceMul, Int.reduceBEq, Int.reduceEq, Int.reduceNeg, Int.reduceLT, Int.reduceLE, Int.reduceAdd, Int.reduceSub, Int.reduceMul, Int.reduceToNat, Int.reduceGT, Nat.reduceBEq, Nat.reducePow, Nat.reduceGT, reduceCtorEq, ↓reduceIte, h0]
  obtain ⟨p', c', oid, h2, hap, gr, ho, hle, hk⟩ := clone_app (bytes := 8) (b := h.length) (c := c) (hs.ext (hh := h ++ [O.cells [] .rw]) (by (repeat (first | assumption | apply Ext.refl | apply Ext.app | (apply Ext.set <;> omega) | exact Ext.trans (by assumption) (by assumption) | (refine Ext.trans ?_ (by assumption)))))) (q := h.length) (snoc_last _ rfl) (Nat.le_refl _) (fun y _ => rfl) hB
  simp -dsimp (disch := first | with_reducible assumption | omega | (intro h_; cases h_; done) | (simp only [LN] <;> omega) | (simp only [LF]; done) | (repeat (first | with_reducible assumption | apply Ext.refl | apply Ext.app | (apply Ext.set <;> omega) | (refine Ext.trans ?_ (by assumption))))) only [AX, TY, AD, mapPut, entsOf, oneV, builtinV, idsOf, mapId, touchB, Nat.reduceLT, Nat.reduceLeDiff, Nat.reduceEqDiff, Nat.reduceAdd, Nat.reduceMul, Int.reduceBEq, Int.reduceEq, Int.reduceNeg, Int.reduceLT, Int.reduceLE, Int.reduceAdd, Int.reduceSub, Int.reduceMul, Int.reduceToNat, Int.reduceGT, Nat.reduceBEq, Nat.reducePow, Nat.reduceGT, reduceCtorEq, ↓reduceIte, hap]
  refine ⟨Ext.of_keep fun i hi => ?_, p', c', oid, rfl, gr⟩
  rw [hk i (by omega) (by simp; omega), snoc_old _ hi]
theorem clone26_ok {h : Heap} {p : Option (Nat × Nat)} {c : Option Nat} {ys : List Vl} (hs : Sl h p 3 Vl.enc ys) (hB : ys.length * 32 ≤ 140737488355328) :
    WR (callE Tryz.prog hk 26 [.slice p ys.length c] h) fun r h' => Ext h h' ∧ ∃ p' c' oid, r = .slice p' ys.length c' ∧ Gr h.length h' p' c' oid 3 Vl.enc ys := by
  have hn := hs.nil'
  have hl := hs.small
  refine WR.call (hH := rfl) Tryz.func26 rfl (n := 8) rfl rfl (by simp) ?_
  by_cases h0 : p = none
  · simp -dsimp (disch := first | with_reducible assumption | omega | (intro h_; cases h_; done) | (simp only [LN] <;> omega) | (simp only [LF]; done) | (repeat (first | with_reducible assumption | apply Ext.refl | apply Ext.app | (apply Ext.set <;> omega) | (refine Ext.trans ?_ (by assumption))))) only [AX, TY, AD, mapPut, entsOf, oneV, builtinV, idsOf, mapId, touchB, Nat.reduceLT, Nat.reduceLeDiff, Nat.reduceEqDiff, Nat.reduceAdd, Nat.reduceMul, Int.reduceBEq, Int.reduceEq, Int.reduceNeg, Int.reduceLT, Int.reduceLE, Int.reduceAdd, Int.reduceSub, Int.reduceMul, Int.reduceToNat, Int.reduceGT, Nat.reduceBEq, Nat.reducePow, Nat.reduceGT, reduceCtorEq, ↓reduceIte, h0]
    have := hs.nil h0; subst this
    refine ⟨(by (repeat (first | assumption | apply Ext.refl | apply Ext.app | (apply Ext.set <;> omega) | exact Ext.trans (by assumption) (by assumption) | (refine Ext.trans ?_ (by assumption))))), none, some 0, none, rfl, Gr.nil _ _ _ _⟩
  simp -dsimp (disch := first | with_reducible assumption | omega | (intro h_; cases h_; done) | (simp only [LN] <;> omega) | (simp only [LF]; done) | (repeat (first | with_reducible assumption | apply Ext.refl | apply Ext.app | (apply Ext.set <;> omega) | (refine Ext.trans ?_ (by assumption))))) only [AX, TY, AD, mapPut, entsOf, oneV, builtinV, idsOf, mapId, touchB, Nat.reduceLT, Nat.reduceLeDiff, Nat.reduceEqDiff, Nat.reduceAdd, Nat.reduceMul, Int.reduceBEq, Int.reduceEq, Int.reduceNeg, Int.reduceLT, Int.reduceLE, Int.reduceAdd, Int.reduceSub, Int.reduceMul, Int.reduceToNat, Int.reduceGT, Nat.reduceBEq, Nat.reducePow, Nat.reduceGT, reduceCtorEq, ↓reduceIte, h0]
  obtain ⟨p', c', oid, h2, hap, gr, ho, hle, hk⟩ := clone_app (bytes := 32) (b := h.length) (c := c) (hs.ext (hh := h ++ [O.cells [] .rw]) (by (repeat (first | assumption | apply Ext.refl | apply Ext.app | (apply Ext.set <;> omega) | exact Ext.trans (by assumption) (by assumption) | (refine Ext.trans ?_ (by assumption)))))) (q := h.length) (snoc_last _ rfl) (Nat.le_refl _) (fun y _ => rfl) hB
  simp -dsimp (disch := first | with_reducible assumption | omega | (intro h_; cases h_; done) | (simp only [LN] <;> omega) | (simp only [LF]; done) | (repeat (first | with_reducible assumption | apply Ext.refl | apply Ext.app | (apply Ext.set <;> omega) | (refine Ext.trans ?_ (by assumption))))) only [AX, TY, AD, mapPut, entsOf, oneV, builtinV, idsOf, mapId, touchB, Nat.reduceLT, Nat.reduceLeDiff, Nat.reduceEqDiff, Nat.reduceAdd, Nat.reduceMul, Int.reduceBEq, Int.reduceEq, Int.reduceNeg, Int.reduceLT, Int.reduceLE, Int.reduceAdd, Int.reduceSub, Int.reduceMul, Int.reduceToNat, Int.reduceGT, Nat.reduceBEq, Nat.reducePow, Nat.reduceGT, reduceCtorEq, ↓reduceIte, hap]
  refine ⟨Ext.of_keep fun i hi => ?_, p', c', oid, rfl, gr⟩
  rw [hk i (by omega) (by simp; omega), snoc_old _ hi]
theorem clone38_ok {h : Heap} {p : Option (Nat × Nat)} {c : Option Nat} {ys : List Col} (hs : Sl h p 2 Col.enc ys) (hB : ys.length * 24 ≤ 140737488355328) :
    WR (callE Tryz.prog hk 38 [.slice p ys.length c] h) fun r h' => Ext h h' ∧ ∃ p' c' oid, r = .slice p' ys.length c' ∧ Gr h.length h' p' c' oid 2 Col.enc ys := by
  have hn := hs.nil'
  have hl := hs.small
  refine WR.call (hH := rfl) Tryz.func38 rfl (n := 8) rfl rfl (by simp) ?_
  by_cases h0 : p = none
  · simp -dsimp (disch := first | with_reducible assumption | omega | (intro h_; cases h_; done) | (simp only [LN] <;> omega) | (simp only [LF]; done) | (repeat (first | with_reducible assumption | apply Ext.refl | apply Ext.app | (apply Ext.set <;> omega) | (refine Ext.trans ?_ (by assumption))))) only [AX, TY, AD, mapPut, entsOf, oneV, builtinV, idsOf, mapId, touchB, Nat.reduceLT, Nat.reduceLeDiff, Nat.reduceEqDiff, Nat.reduceAdd, Nat.reduceMul, Int.reduceBEq, Int.reduceEq, Int.reduceNeg, Int.reduceLT, Int.reduceLE, Int.reduceAdd, Int.reduceSub, Int.reduceMul, Int.reduceToNat, Int.reduceGT, Nat.reduceBEq, Nat.reducePow, Nat.reduceGT, reduceCtorEq, ↓reduceIte, h0]
    have := hs.nil h0; subst this
    refine ⟨(by (repeat (first | assumption | apply Ext.refl | apply Ext.app | (apply Ext.set <;> omega) | exact Ext.trans (by assumption) (by assumption) | (refine Ext.trans ?_ (by assumption))))), none, some 0, none, rfl, Gr.nil _ _ _ _⟩
  simp -dsimp (disch := first | with_reducible assumption | omega | (intro h_; cases h_; done) | (simp only [LN] <;> omega) | (simp only [LF]; done) | (repeat (first | with_reducible assumption | apply Ext.refl | apply Ext.app | (apply Ext.set <;> omega) | (refine Ext.trans ?_ (by assumption))))) only [AX, TY, AD, mapPut, entsOf, oneV, builtinV, idsOf, mapId, touchB, Nat.reduceLT, Nat.reduceLeDiff, Nat.reduceEqDiff, Nat.reduceAdd, Nat.reduceMul, Int.reduceBEq, Int.reduceEq, Int.reduceNeg, Int.reduceLT, Int.reduceLE, Int.reduceAdd, Int.reduceSub, Int.reduceMul, Int.reduceToNat, Int.reduceGT, Nat.reduceBEq, Nat.reducePow, Nat.reduceGT, reduceCtorEq, ↓reduceIte, h0]
  obtain ⟨p', c', oid, h2, hap, gr, ho, hle, hk⟩ := clone_app (bytes := 24) (b := h.length) (c := c) (hs.ext (hh := h ++ [O.cells [] .rw]) (by (repeat (first | assumption | apply Ext.refl | apply Ext.app | (apply Ext.set <;> omega) | exact Ext.trans (by assumption) (by assumption) | (refine Ext.trans ?_ (by assumption)))))) (q := h.length) (snoc_last _ rfl) (Nat.le_refl _) (fun y _ => rfl) hB
  simp -dsimp (disch := first | with_reducible assumption | omega | (intro h_; cases h_; done) | (simp only [LN] <;> omega) | (simp only [LF]; done) | (repeat (first | with_reducible assumption | apply Ext.refl | apply Ext.app | (apply Ext.set <;> omega) | (refine Ext.trans ?_ (by assumption))))) only [AX, TY, AD, mapPut, entsOf, oneV, builtinV, idsOf, mapId, touchB, Nat.reduceLT, Nat.reduceLeDiff, Nat.reduceEqDiff, Nat.reduceAdd, Nat.reduceMul, Int.reduceBEq, Int.reduceEq, Int.reduceNeg, Int.reduceLT, Int.reduceLE, Int.reduceAdd, Int.reduceSub, Int.reduceMul, Int.reduceToNat, Int.reduceGT, Nat.reduceBEq, Nat.reducePow, Nat.reduceGT, reduceCtorEq, ↓reduceIte, hap]
  refine ⟨Ext.of_keep fun i hi => ?_, p', c', oid, rfl, gr⟩
  rw [hk i (by omega) (by simp; omega), snoc_old _ hi]
/-- What a list of versions is in memory: its list's block is none of its values'. -/
structure LFi (b : Nat) (p : Option (Nat × Nat)) (c : Option Nat) (ys : List Ver) (F : Nat) (cap : List V) (q : Ver → Bool) (i : Nat) (s : List Ver) (τ : Tp) (hh : Heap) : Prop where
  t1 : τ 1 = .func F [] cap
  t8 : τ 8 = .slice p ys.length c
  t9 : τ 9 = .int .i64 ys.length
  t10 : τ 10 = .int .i64 i
  out : ∃ po co oid, τ 5 = .slice po s.length co ∧ Gr b hh po co oid 5 Ver.enc s ∧ ∀ y ∈ s, VOK hh y ∧ ∀ a o, y.p = some (a, o) → oid ≠ some a
  keys : s.map Ver.key = ((ys.take i).filter q).map Ver.key
  le : s.length ≤ i
  bas : ∀ y ∈ s, ∀ a o, y.p = some (a, o) → b ≤ a
theorem filter_ok {h : Heap} {p : Option (Nat × Nat)} {c : Option Nat} {ys : List Ver} (hs : Vers h p ys) (hB : ys.length ≤ 100000) (hB2 : ∀ y ∈ ys, y.vals.length ≤ 100000) (F : Nat) (cap : List V) (q : Ver → Bool)
    (hq : ∀ hh, Ext h hh → ∀ v, WR (callE Tryz.prog hk F (.agg (Ver.enc v) :: cap) hh) fun r h' => Ext hh h' ∧ r = .bool (q v)) :
    WR (callE Tryz.prog hk 63 [.slice p ys.length c, .func F [] cap] h) fun r h' => Ext h h' ∧ ∃ p' c' zs, r = .slice p' zs.length c' ∧ Vers h' p' zs ∧ zs.map Ver.key = (ys.filter q).map Ver.key ∧ zs.length ≤ ys.length ∧ (∀ y ∈ zs, ∀ a o, y.p = some (a, o) → h.length ≤ a) ∧ ∀ a o, p' = some (a, o) → h.length ≤ a := by
  have hn := hs.sl.nil'
  have hl := hs.sl.small
  refine WR.call (hH := rfl) Tryz.func63 rfl (n := 27) rfl rfl (by simp) ?_
  simp -dsimp (disch := first | with_reducible assumption | omega | (intro h_; cases h_; done) | (simp only [LN] <;> omega) | (simp only [LF]; done) | (repeat (first | with_reducible assumption | apply Ext.refl | apply Ext.app | (apply Ext.set <;> omega) | (refine Ext.trans ?_ (by assumption))))) only [AX, TY, AD, mapPut, entsOf, oneV, builtinV, idsOf, mapId, touchB, Nat.reduceLT, Nat.reduceLeDiff, Nat.reduceEqDiff, Nat.reduceAdd, Nat.reduceMul, Int.reduceBEq, Int.reduceEq, Int.reduceNeg, Int.reduceLT, Int.reduceLE, Int.reduceAdd, Int.reduceSub, Int.reduceMul, Int.reduceToNat, Int.reduceGT, Nat.reduceBEq, Nat.reducePow, Nat.reduceGT, reduceCtorEq, ↓reduceIte]
  refine W.loop (fun m τ hh => Ext h hh ∧ ∃ i s, m + i = ys.length ∧ LFi h.length p c ys F cap q i s τ hh) ?_ (m := ys.length) ?_
  rotate_left
  · refine ⟨(by (repeat (first | assumption | apply Ext.refl | apply Ext.app | (apply Ext.set <;> omega) | exact Ext.trans (by assumption) (by assumption) | (refine Ext.trans ?_ (by assumption))))), 0, [], by simp, ?_⟩
    constructor <;> (try first | assumption | ((repeat (first | assumption | apply Ext.refl | apply Ext.app | (apply Ext.set <;> omega) | exact Ext.trans (by assumption) (by assumption) | (refine Ext.trans ?_ (by assumption)))); done) | (refine Sl.ext (by assumption) ?_; (repeat (first | assumption | apply Ext.refl | apply Ext.app | (apply Ext.set <;> omega) | exact Ext.trans (by assumption) (by assumption) | (refine Ext.trans ?_ (by assumption)))); done) | (simp -dsimp (disch := first | with_reducible assumption | omega | (intro h_; cases h_; done) | (simp only [LN] <;> omega) | (simp only [LF]; done) | (repeat (first | with_reducible assumption | apply Ext.refl | apply Ext.app | (apply Ext.set <;> omega) | (refine Ext.trans ?_ (by assumption))))) only [AX, TY, AD, mapPut, entsOf, oneV, builtinV, idsOf, mapId, touchB, Nat.reduceLT, Nat.reduceLeDiff, Nat.reduceEqDiff, Nat.reduceAdd, Nat.reduceMul, Int.reduceBEq, Int.reduceEq, Int.reduceNeg, Int.reduceLT, Int.reduceLE, Int.reduceAdd, Int.reduceSub, Int.reduceMul, Int.reduceToNat, Int.reduceGT, Nat.reduceBEq, Nat.reducePow, Nat.reduceGT, reduceCtorEq, ↓reduceIte, Int.natCast_add, Int.natCast_one, Int.natCast_zero]; try (first | assumption | with_reducible rfl)))
    · exact ⟨none, some 0, none, rfl, Gr.nil _ _ _ _, by simp⟩
    rotate_right
    · simp
    all_goals rfl
  rintro m τ hh ⟨e, i, s, hm, t1, t8, t9, t10, ⟨po, co, oid, t5, gr, hv⟩, hkey, hle, hbas⟩
  have le0 := e.le
  by_cases h1 : (i : Int) < (ys.length : Int)
  rotate_left
  · simp -dsimp (disch := first | with_reducible assumption | omega | (intro h_; cases h_; done) | (simp only [LN] <;> omega) | (simp only [LF]; done) | (repeat (first | with_reducible assumption | apply Ext.refl | apply Ext.app | (apply Ext.set <;> omega) | (refine Ext.trans ?_ (by assumption))))) only [AX, TY, AD, mapPut, entsOf, oneV, builtinV, idsOf, mapId, touchB, Nat.reduceLT, Nat.reduceLeDiff, Nat.reduceEqDiff, Nat.reduceAdd, Nat.reduceMul, Int.reduceBEq, Int.reduceEq, Int.reduceNeg, Int.reduceLT, Int.reduceLE, Int.reduceAdd, Int.reduceSub, Int.reduceMul, Int.reduceToNat, Int.reduceGT, Nat.reduceBEq, Nat.reducePow, Nat.reduceGT, reduceCtorEq, ↓reduceIte, t1, t5, t8, t9, t10, h1]
    refine ⟨e, po, co, s, rfl, ⟨gr.sl, fun y hy => (hv y hy).1⟩, ?_⟩
    exact ⟨by rw [hkey, List.take_of_length_le (by omega)], by omega, hbas, fun a o z => gr.base a (gr.at z)⟩
  have hi : i < ys.length := by omega
  have hyk := hs.ok _ (List.getElem_mem hi)
  have hy2 := hB2 _ (List.getElem_mem hi)
  generalize hyi : ys[i] = y at hyk hy2
  simp -dsimp (disch := first | with_reducible assumption | omega | (intro h_; cases h_; done) | (simp only [LN] <;> omega) | (simp only [LF]; done) | (repeat (first | with_reducible assumption | apply Ext.refl | apply Ext.app | (apply Ext.set <;> omega) | (refine Ext.trans ?_ (by assumption))))) only [AX, TY, AD, mapPut, entsOf, oneV, builtinV, idsOf, mapId, touchB, Nat.reduceLT, Nat.reduceLeDiff, Nat.reduceEqDiff, Nat.reduceAdd, Nat.reduceMul, Int.reduceBEq, Int.reduceEq, Int.reduceNeg, Int.reduceLT, Int.reduceLE, Int.reduceAdd, Int.reduceSub, Int.reduceMul, Int.reduceToNat, Int.reduceGT, Nat.reduceBEq, Nat.reducePow, Nat.reduceGT, reduceCtorEq, ↓reduceIte, t1, t5, t8, t9, t10, h1, hs.sl.load0, Ver.enc]
  simp only [hyi]
  refine (hq (hh ++ [O.cells (Ver.enc y) Kd.rw]) (by (repeat (first | assumption | apply Ext.refl | apply Ext.app | (apply Ext.set <;> omega) | exact Ext.trans (by assumption) (by assumption) | (refine Ext.trans ?_ (by assumption))))) y).mono ?_
  rintro _ h2 ⟨e2, rfl⟩
  have gx : h2[hh.length]? = some (.cells (Ver.enc y) .rw) := e2 _ _ (snoc_last _ rfl)
  have eh2 : Ext hh h2 := Ext.trans (by (repeat (first | assumption | apply Ext.refl | apply Ext.app | (apply Ext.set <;> omega) | exact Ext.trans (by assumption) (by assumption) | (refine Ext.trans ?_ (by assumption))))) e2
  have le2 := lt_of_some gx
  have hkey' : ((ys.take (i + 1)).filter q).map Ver.key = ((ys.take i).filter q).map Ver.key ++ (if q y then [y.key] else []) := by
    rw [List.take_succ_eq_append_getElem hi, List.filter_append, List.map_append, hyi]
    cases hqy : q y <;> simp [hqy]
  cases hqy : q y
  · simp -dsimp (disch := first | with_reducible assumption | omega | (intro h_; cases h_; done) | (simp only [LN] <;> omega) | (simp only [LF]; done) | (repeat (first | with_reducible assumption | apply Ext.refl | apply Ext.app | (apply Ext.set <;> omega) | (refine Ext.trans ?_ (by assumption))))) only [AX, TY, AD, mapPut, entsOf, oneV, builtinV, idsOf, mapId, touchB, Nat.reduceLT, Nat.reduceLeDiff, Nat.reduceEqDiff, Nat.reduceAdd, Nat.reduceMul, Int.reduceBEq, Int.reduceEq, Int.reduceNeg, Int.reduceLT, Int.reduceLE, Int.reduceAdd, Int.reduceSub, Int.reduceMul, Int.reduceToNat, Int.reduceGT, Nat.reduceBEq, Nat.reducePow, Nat.reduceGT, reduceCtorEq, ↓reduceIte, t1, t5, t8, t9, t10, wrap_in]
    refine ⟨m - 1, by omega, e.trans eh2, i + 1, s, by omega, ?_⟩
    constructor <;> (try first | assumption | ((repeat (first | assumption | apply Ext.refl | apply Ext.app | (apply Ext.set <;> omega) | exact Ext.trans (by assumption) (by assumption) | (refine Ext.trans ?_ (by assumption)))); done) | (refine Sl.ext (by assumption) ?_; (repeat (first | assumption | apply Ext.refl | apply Ext.app | (apply Ext.set <;> omega) | exact Ext.trans (by assumption) (by assumption) | (refine Ext.trans ?_ (by assumption)))); done) | (simp -dsimp (disch := first | with_reducible assumption | omega | (intro h_; cases h_; done) | (simp only [LN] <;> omega) | (simp only [LF]; done) | (repeat (first | with_reducible assumption | apply Ext.refl | apply Ext.app | (apply Ext.set <;> omega) | (refine Ext.trans ?_ (by assumption))))) only [AX, TY, AD, mapPut, entsOf, oneV, builtinV, idsOf, mapId, touchB, Nat.reduceLT, Nat.reduceLeDiff, Nat.reduceEqDiff, Nat.reduceAdd, Nat.reduceMul, Int.reduceBEq, Int.reduceEq, Int.reduceNeg, Int.reduceLT, Int.reduceLE, Int.reduceAdd, Int.reduceSub, Int.reduceMul, Int.reduceToNat, Int.reduceGT, Nat.reduceBEq, Nat.reducePow, Nat.reduceGT, reduceCtorEq, ↓reduceIte, t1, t5, t8, t9, t10, wrap_in, Int.natCast_add, Int.natCast_one, Int.natCast_zero]; try (first | assumption | with_reducible rfl)))
    · exact ⟨po, co, oid, rfl, gr.ext eh2, fun z hz => ⟨(hv z hz).1.ext eh2, (hv z hz).2⟩⟩
    · rw [hkey', hqy, hkey]; simp
    · omega
  simp only [Ver.enc] at gx
  simp -dsimp (disch := first | with_reducible assumption | omega | (intro h_; cases h_; done) | (simp only [LN] <;> omega) | (simp only [LF]; done) | (repeat (first | with_reducible assumption | apply Ext.refl | apply Ext.app | (apply Ext.set <;> omega) | (refine Ext.trans ?_ (by assumption))))) only [AX, TY, AD, mapPut, entsOf, oneV, builtinV, idsOf, mapId, touchB, Nat.reduceLT, Nat.reduceLeDiff, Nat.reduceEqDiff, Nat.reduceAdd, Nat.reduceMul, Int.reduceBEq, Int.reduceEq, Int.reduceNeg, Int.reduceLT, Int.reduceLE, Int.reduceAdd, Int.reduceSub, Int.reduceMul, Int.reduceToNat, Int.reduceGT, Nat.reduceBEq, Nat.reducePow, Nat.reduceGT, reduceCtorEq, ↓reduceIte, t1, t5, t8, t9, t10, loadN_fact gx]
  refine (clone26_ok (Sl.ext hyk (e.trans eh2)) (c := y.c) (by omega)).mono ?_
  rintro _ h3 ⟨e3, p', c', oid', rfl, gr'⟩
  have gx3 := e3 _ _ gx
  have le3 := lt_of_some gx3
  have l3 := e3.le
  simp -dsimp (disch := first | with_reducible assumption | omega | (intro h_; cases h_; done) | (simp only [LN] <;> omega) | (simp only [LF]; done) | (repeat (first | with_reducible assumption | apply Ext.refl | apply Ext.app | (apply Ext.set <;> omega) | (refine Ext.trans ?_ (by assumption))))) only [AX, TY, AD, mapPut, entsOf, oneV, builtinV, idsOf, mapId, touchB, Nat.reduceLT, Nat.reduceLeDiff, Nat.reduceEqDiff, Nat.reduceAdd, Nat.reduceMul, Int.reduceBEq, Int.reduceEq, Int.reduceNeg, Int.reduceLT, Int.reduceLE, Int.reduceAdd, Int.reduceSub, Int.reduceMul, Int.reduceToNat, Int.reduceGT, Nat.reduceBEq, Nat.reducePow, Nat.reduceGT, reduceCtorEq, ↓reduceIte, t1, t5, t8, t9, t10, storeN_fact gx3 (by simp), set_same]
  generalize hw : h3.set hh.length (O.cells [V.int IntKind.i64 y.a, V.int IntKind.i64 y.b, V.slice p' y.vals.length c', V.int IntKind.i64 y.cr, V.int IntKind.i64 y.dl] Kd.rw) = h4
  have l4 : h4.length = h3.length := by rw [← hw, List.length_set]
  have ex4 : Ext hh h4 := by rw [← hw]; exact Ext.set (eh2.trans e3) (Nat.le_refl _) _
  have gx4 : h4[hh.length]? = some (.cells (Ver.enc ⟨y.a, y.b, p', c', y.vals, y.cr, y.dl⟩) .rw) := by rw [← hw]; exact set_same _ (by omega)
  have gr4 : Gr h2.length h4 p' c' oid' 3 Vl.enc y.vals := gr'.keep fun id hid => by rw [← hw]; exact set_other _ (by have := gr'.base id hid; omega)
  obtain ⟨p5, c5, oid5, h5, hap, gr5, ho5, hl5, hk5, hb5⟩ := ((gr.ext ex4).ext (hh := h4 ++ [O.cells (Ver.enc ⟨y.a, y.b, p', c', y.vals, y.cr, y.dl⟩) Kd.rw]) (by (repeat (first | assumption | apply Ext.refl | apply Ext.app | (apply Ext.set <;> omega) | exact Ext.trans (by assumption) (by assumption) | (refine Ext.trans ?_ (by assumption)))))).push (bytes := 56) (vc := some 1) (by have := ex4.le; simp; omega) (snoc_last _ l4.symm) rfl rfl (by omega) (by omega)
  simp only [Ver.enc] at hap
  simp -dsimp (disch := first | with_reducible assumption | omega | (intro h_; cases h_; done) | (simp only [LN] <;> omega) | (simp only [LF]; done) | (repeat (first | with_reducible assumption | apply Ext.refl | apply Ext.app | (apply Ext.set <;> omega) | (refine Ext.trans ?_ (by assumption))))) only [AX, TY, AD, mapPut, entsOf, oneV, builtinV, idsOf, mapId, touchB, Nat.reduceLT, Nat.reduceLeDiff, Nat.reduceEqDiff, Nat.reduceAdd, Nat.reduceMul, Int.reduceBEq, Int.reduceEq, Int.reduceNeg, Int.reduceLT, Int.reduceLE, Int.reduceAdd, Int.reduceSub, Int.reduceMul, Int.reduceToNat, Int.reduceGT, Nat.reduceBEq, Nat.reducePow, Nat.reduceGT, reduceCtorEq, ↓reduceIte, t1, t5, t8, t9, t10, hap, wrap_in]
  simp only [List.length_append, List.length_cons, List.length_nil] at hl5 hk5
  have keep : ∀ a, (oid ≠ some a) → a < h4.length → h5[a]? = h4[a]? := fun a h1 h2 => by rw [hk5 a h1 (by omega), snoc_old _ h2]
  have e5 : Ext h h5 := ⟨fun j o hj => by
    have hj4 := ex4 _ _ (e _ _ hj)
    have := lt_of_some hj
    rw [hb5 j this, snoc_old _ (lt_of_some hj4)]; exact hj4⟩
  refine ⟨m - 1, by omega, e5, i + 1, s ++ [⟨y.a, y.b, p', c', y.vals, y.cr, y.dl⟩], by omega, ?_⟩
  constructor <;> (try first | assumption | ((repeat (first | assumption | apply Ext.refl | apply Ext.app | (apply Ext.set <;> omega) | exact Ext.trans (by assumption) (by assumption) | (refine Ext.trans ?_ (by assumption)))); done) | (refine Sl.ext (by assumption) ?_; (repeat (first | assumption | apply Ext.refl | apply Ext.app | (apply Ext.set <;> omega) | exact Ext.trans (by assumption) (by assumption) | (refine Ext.trans ?_ (by assumption)))); done) | (simp -dsimp (disch := first | with_reducible assumption | omega | (intro h_; cases h_; done) | (simp only [LN] <;> omega) | (simp only [LF]; done) | (repeat (first | with_reducible assumption | apply Ext.refl | apply Ext.app | (apply Ext.set <;> omega) | (refine Ext.trans ?_ (by assumption))))) only [AX, TY, AD, mapPut, entsOf, oneV, builtinV, idsOf, mapId, touchB, Nat.reduceLT, Nat.reduceLeDiff, Nat.reduceEqDiff, Nat.reduceAdd, Nat.reduceMul, Int.reduceBEq, Int.reduceEq, Int.reduceNeg, Int.reduceLT, Int.reduceLE, Int.reduceAdd, Int.reduceSub, Int.reduceMul, Int.reduceToNat, Int.reduceGT, Nat.reduceBEq, Nat.reducePow, Nat.reduceGT, reduceCtorEq, ↓reduceIte, t1, t5, t8, t9, t10, hap, wrap_in, Int.natCast_add, Int.natCast_one, Int.natCast_zero]; try (first | assumption | with_reducible rfl)))
  · refine ⟨p5, c5, oid5, rfl, gr5, fun z hz => ?_⟩
    rcases List.mem_append.1 hz with hz | hz
    · have h6 := (hv z hz).1.ext ex4
      have h7 := (hv z hz).2
      refine ⟨Sl.keep h6 fun a o hp => keep a (h7 a o hp) (Sl.lt h6 hp), fun a o hp => ?_⟩
      have := Sl.lt h6 hp
      rcases ho5 with q | q
      · rw [q]; exact h7 a o hp
      · rw [q]; simp; omega
    · simp only [List.mem_singleton] at hz
      subst hz
      have h6 : VOK h4 ⟨y.a, y.b, p', c', y.vals, y.cr, y.dl⟩ := gr4.sl
      have h7 : ∀ a o, p' = some (a, o) → oid ≠ some a := fun a o hp q => by
        have := gr.lt q
        have := gr4.base a (gr4.at hp)
        omega
      refine ⟨Sl.keep h6 fun a o hp => keep a (h7 a o hp) (Sl.lt h6 hp), fun a o hp => ?_⟩
      have := Sl.lt h6 hp
      rcases ho5 with q | q
      · rw [q]; exact h7 a o hp
      · rw [q]; simp; omega
  · rw [hkey', hqy, List.map_append, hkey]; rfl
  · intro z hz
    rcases List.mem_append.1 hz with hz | hz
    · exact hbas z hz
    · simp only [List.mem_singleton] at hz
      subst hz
      intro a o hp
      have := gr4.base a (gr4.at hp)
      have := e.le
      omega
theorem sees_ok' {h : Heap} (v : Ver) (s : Int) : WR (callE Tryz.prog hk 65 [.agg v.enc, .int .i64 s] h) fun r h' => Ext h h' ∧ r = .bool (sees v.cr v.dl s) := sees_ok v.cr v.dl s
theorem live32_ok {h : Heap} {t : Nat} {s : Int} (g : h[t]? = some (.cells [.int .i64 s] .rw)) (v : Ver) : WR (callE Tryz.prog hk 64 [.agg v.enc, .ptr (some (t, 0))] h) fun r h' => Ext h h' ∧ r = .bool (sees v.cr v.dl s) := by
  have := lt_of_some g
  refine WR.call (hH := rfl) Tryz.func64 rfl (n := 7) rfl rfl (by simp) ?_
  simp -dsimp (disch := first | with_reducible assumption | omega | (intro h_; cases h_; done) | (simp only [LN] <;> omega) | (simp only [LF]; done) | (repeat (first | with_reducible assumption | apply Ext.refl | apply Ext.app | (apply Ext.set <;> omega) | (refine Ext.trans ?_ (by assumption))))) only [AX, TY, AD, mapPut, entsOf, oneV, builtinV, idsOf, mapId, touchB, Nat.reduceLT, Nat.reduceLeDiff, Nat.reduceEqDiff, Nat.reduceAdd, Nat.reduceMul, Int.reduceBEq, Int.reduceEq, Int.reduceNeg, Int.reduceLT, Int.reduceLE, Int.reduceAdd, Int.reduceSub, Int.reduceMul, Int.reduceToNat, Int.reduceGT, Nat.reduceBEq, Nat.reducePow, Nat.reduceGT, reduceCtorEq, ↓reduceIte, Ver.enc, loadN_fact g]
  refine (sees_ok' v s).mono ?_
  rintro _ h2 ⟨e2, rfl⟩
  simp -dsimp (disch := first | with_reducible assumption | omega | (intro h_; cases h_; done) | (simp only [LN] <;> omega) | (simp only [LF]; done) | (repeat (first | with_reducible assumption | apply Ext.refl | apply Ext.app | (apply Ext.set <;> omega) | (refine Ext.trans ?_ (by assumption))))) only [AX, TY, AD, mapPut, entsOf, oneV, builtinV, idsOf, mapId, touchB, Nat.reduceLT, Nat.reduceLeDiff, Nat.reduceEqDiff, Nat.reduceAdd, Nat.reduceMul, Int.reduceBEq, Int.reduceEq, Int.reduceNeg, Int.reduceLT, Int.reduceLE, Int.reduceAdd, Int.reduceSub, Int.reduceMul, Int.reduceToNat, Int.reduceGT, Nat.reduceBEq, Nat.reducePow, Nat.reduceGT, reduceCtorEq, ↓reduceIte]
  exact (by (repeat (first | assumption | apply Ext.refl | apply Ext.app | (apply Ext.set <;> omega) | exact Ext.trans (by assumption) (by assumption) | (refine Ext.trans ?_ (by assumption)))))
theorem live_ok {h : Heap} {p : Option (Nat × Nat)} {c : Option Nat} {ys : List Ver} (hs : Vers h p ys) (hB : ys.length ≤ 100000) (hB2 : ∀ y ∈ ys, y.vals.length ≤ 100000) (s : Int) :
    WR (callE Tryz.prog hk 28 [.slice p ys.length c, .int .i64 s] h) fun r h' => Ext h h' ∧ ∃ p' c' zs, r = .slice p' zs.length c' ∧ Vers h' p' zs ∧ zs.map Ver.key = (ys.filter fun v => sees v.cr v.dl s).map Ver.key ∧ zs.length ≤ ys.length ∧ (∀ y ∈ zs, ∀ a o, y.p = some (a, o) → h.length ≤ a) ∧ ∀ a o, p' = some (a, o) → h.length ≤ a := by
  refine WR.call (hH := rfl) Tryz.func28 rfl (n := 8) rfl rfl (by simp) ?_
  simp -dsimp (disch := first | with_reducible assumption | omega | (intro h_; cases h_; done) | (simp only [LN] <;> omega) | (simp only [LF]; done) | (repeat (first | with_reducible assumption | apply Ext.refl | apply Ext.app | (apply Ext.set <;> omega) | (refine Ext.trans ?_ (by assumption))))) only [AX, TY, AD, mapPut, entsOf, oneV, builtinV, idsOf, mapId, touchB, Nat.reduceLT, Nat.reduceLeDiff, Nat.reduceEqDiff, Nat.reduceAdd, Nat.reduceMul, Int.reduceBEq, Int.reduceEq, Int.reduceNeg, Int.reduceLT, Int.reduceLE, Int.reduceAdd, Int.reduceSub, Int.reduceMul, Int.reduceToNat, Int.reduceGT, Nat.reduceBEq, Nat.reducePow, Nat.reduceGT, reduceCtorEq, ↓reduceIte]
  refine (filter_ok (hs.ext (by (repeat (first | assumption | apply Ext.refl | apply Ext.app | (apply Ext.set <;> omega) | exact Ext.trans (by assumption) (by assumption) | (refine Ext.trans ?_ (by assumption)))))) hB hB2 64 [.ptr (some (h.length, 0))] (fun v => sees v.cr v.dl s) (fun hh e v => live32_ok (e _ _ (snoc_last _ rfl)) v)).mono ?_
  rintro _ h2 ⟨e2, p', c', zs, rfl, hv, hk, hle, hb, hb2⟩
  simp -dsimp (disch := first | with_reducible assumption | omega | (intro h_; cases h_; done) | (simp only [LN] <;> omega) | (simp only [LF]; done) | (repeat (first | with_reducible assumption | apply Ext.refl | apply Ext.app | (apply Ext.set <;> omega) | (refine Ext.trans ?_ (by assumption))))) only [AX, TY, AD, mapPut, entsOf, oneV, builtinV, idsOf, mapId, touchB, Nat.reduceLT, Nat.reduceLeDiff, Nat.reduceEqDiff, Nat.reduceAdd, Nat.reduceMul, Int.reduceBEq, Int.reduceEq, Int.reduceNeg, Int.reduceLT, Int.reduceLE, Int.reduceAdd, Int.reduceSub, Int.reduceMul, Int.reduceToNat, Int.reduceGT, Nat.reduceBEq, Nat.reducePow, Nat.reduceGT, reduceCtorEq, ↓reduceIte]
  exact ⟨(by (repeat (first | assumption | apply Ext.refl | apply Ext.app | (apply Ext.set <;> omega) | exact Ext.trans (by assumption) (by assumption) | (refine Ext.trans ?_ (by assumption))))), p', c', zs, rfl, hv, hk, hle, fun y hy a o z => by have := hb y hy a o z; simp at this; omega, fun a o z => by have := hb2 a o z; simp at this; omega⟩
end Go.Proofs.YtcaolnmpldbkjaaGreatA
