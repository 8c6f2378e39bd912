/- Words of this session: chapter 47: a stable sort by insertion and rotation, on lists. Words of this session: chapter 47: sorting versions by their identifiers: the walk. Words of this session: chapter 47: sorting versions: exchanging, rotating, merging. -/
import Derived.Test.YtcaolnmpldbkjaaGreatPA
namespace Go.Proofs.YtcaolnmpldbkjaaGreatA
open Go Go.Proofs Go.RowKit
set_option linter.unusedVariables false
set_option linter.unusedSimpArgs false
section
variable {α : Type} {le : α → α → Prop}
/-- Ascending from a up to b. -/
def AscI (le : α → α → Prop) (ys : List α) (a b : Nat) : Prop := ∀ i j x y, a ≤ i → i < j → j < b → ys[i]? = some x → ys[j]? = some y → le x y
/-- What is outside stands; the list is exchanged within. -/
structure Ch (ys zs : List α) (a b : Nat) : Prop where
  perm : zs.Perm ys
  out : ∀ i, (i < a ∨ b ≤ i) → zs[i]? = ys[i]?
theorem Ch.len {ys zs : List α} {a b : Nat} (c : Ch ys zs a b) : zs.length = ys.length := c.perm.length_eq
theorem Ch.refl (ys : List α) (a b : Nat) : Ch ys ys a b := ⟨.refl _, fun _ _ => rfl⟩
theorem Ch.trans {xs ys zs : List α} {a b : Nat} (c : Ch xs ys a b) (d : Ch ys zs a b) : Ch xs zs a b := ⟨d.perm.trans c.perm, fun i hi => (d.out i hi).trans (c.out i hi)⟩
theorem Ch.wide {ys zs : List α} {a b a' b' : Nat} (c : Ch ys zs a b) (h1 : a' ≤ a) (h2 : b ≤ b') : Ch ys zs a' b' := ⟨c.perm, fun i hi => c.out i (by omega)⟩
theorem Ch.mem {ys zs : List α} {a b : Nat} (c : Ch ys zs a b) (hab : a ≤ b) (hb : b ≤ ys.length) {i : Nat} {x : α} (h1 : a ≤ i) (h2 : i < b) (hx : zs[i]? = some x) : ∃ j, a ≤ j ∧ j < b ∧ ys[j]? = some x := by
  have hl := c.len
  have e1 : zs.take a = ys.take a := by
    apply List.ext_getElem?
    intro k
    rw [List.getElem?_take, List.getElem?_take]
    split
    · exact c.out k (.inl (by assumption))
    · rfl
  have e2 : zs.drop b = ys.drop b := by
    apply List.ext_getElem?
    intro k
    rw [List.getElem?_drop, List.getElem?_drop]
    exact c.out _ (.inr (by omega))
  have split : ∀ l : List α, l = l.take a ++ ((l.drop a).take (b - a) ++ l.drop b) := fun l => by
    have : l.drop a = (l.drop a).take (b - a) ++ l.drop b := by
      conv => lhs; rw [← List.take_append_drop (b - a) (l.drop a)]
      rw [List.drop_drop, show a + (b - a) = b by omega]
    rw [← this, List.take_append_drop]
  have hp := c.perm
  rw [split zs, split ys, e1, e2, List.perm_append_left_iff, List.perm_append_right_iff] at hp
  have hm : x ∈ (zs.drop a).take (b - a) := by
    refine List.mem_of_getElem? (i := i - a) ?_
    rw [List.getElem?_take, if_pos (by omega), List.getElem?_drop, show a + (i - a) = i by omega]
    exact hx
  have := hp.mem_iff.1 hm
  obtain ⟨k, hk⟩ := List.mem_iff_getElem?.1 this
  rw [List.getElem?_take] at hk
  split at hk
  · rw [List.getElem?_drop] at hk
    exact ⟨a + k, by omega, by omega, hk⟩
  · cases hk
/-- Two places exchanged. -/
def sw (ys : List α) (i j : Nat) : List α := match ys[i]?, ys[j]? with
  | some x, some y => (ys.set i y).set j x
  | _, _ => ys
theorem sw_perm (ys : List α) (i j : Nat) : (sw ys i j).Perm ys := by
  unfold sw
  split
  · rename_i x y h1 h2
    obtain ⟨hi, rfl⟩ := List.getElem?_eq_some_iff.1 h1
    obtain ⟨hj, rfl⟩ := List.getElem?_eq_some_iff.1 h2
    exact List.set_set_perm hi hj
  · exact .refl _
theorem sw_len (ys : List α) (i j : Nat) : (sw ys i j).length = ys.length := (sw_perm ys i j).length_eq
theorem sw_get {ys : List α} {i j : Nat} (hi : i < ys.length) (hj : j < ys.length) (k : Nat) : (sw ys i j)[k]? = if k = j then ys[i]? else if k = i then ys[j]? else ys[k]? := by
  unfold sw
  rw [List.getElem?_eq_getElem hi, List.getElem?_eq_getElem hj]
  simp only [List.getElem?_set, List.length_set]
  by_cases c1 : k = j
  · subst c1; simp [hj]
  · rw [if_neg (Ne.symm c1), if_neg c1]
    by_cases c2 : k = i
    · subst c2; simp [hi]
    · rw [if_neg (Ne.symm c2), if_neg c2]
theorem sw_ch {ys : List α} {i j a b : Nat} (hi : i < ys.length) (hj : j < ys.length) (h1 : a ≤ i) (h2 : i < b) (h3 : a ≤ j) (h4 : j < b) : Ch ys (sw ys i j) a b :=
  ⟨sw_perm _ _ _, fun k hk => by rw [sw_get hi hj, if_neg (by omega), if_neg (by omega)]⟩
/-- Ascending from a up to and with i but for place j, whose element is at most those behind it. -/
structure Ins (le : α → α → Prop) (ys : List α) (a i j : Nat) : Prop where
  rest : ∀ k m x y, a ≤ k → k < m → m ≤ i → k ≠ j → m ≠ j → ys[k]? = some x → ys[m]? = some y → le x y
  behind : ∀ m x y, j < m → m ≤ i → ys[j]? = some x → ys[m]? = some y → le x y
theorem Ins.start {ys : List α} {a i : Nat} (q : AscI le ys a i) : Ins le ys a i i :=
  ⟨fun k m x y h1 h2 h3 h4 h5 hx hy => q k m x y h1 h2 (by omega) hx hy, fun m x y h1 h2 => by omega⟩
theorem Ins.swap {ys : List α} {a i j : Nat} (q : Ins le ys a i j) (hj : a < j) (hji : j ≤ i) (hl : j < ys.length) (hlt : ∀ x y, ys[j]? = some x → ys[j - 1]? = some y → le x y) : Ins le (sw ys j (j - 1)) a i (j - 1) := by
  have hl' : j - 1 < ys.length := by omega
  constructor
  · intro k m x y h1 h2 h3 h4 h5 hx hy
    rw [sw_get hl hl', if_neg h4] at hx
    rw [sw_get hl hl', if_neg h5] at hy
    by_cases c1 : k = j
    · rw [if_pos c1] at hx
      rw [if_neg (by omega)] at hy
      exact q.rest _ _ x y (by omega) (by omega) h3 (by omega) (by omega) hx hy
    · rw [if_neg c1] at hx
      by_cases c2 : m = j
      · rw [if_pos c2] at hy
        exact q.rest _ _ x y h1 (by omega) (by omega) c1 (by omega) hx hy
      · rw [if_neg c2] at hy
        exact q.rest _ _ x y h1 h2 h3 c1 c2 hx hy
  · intro m x y h1 h2 hx hy
    rw [sw_get hl hl', if_pos rfl] at hx
    rw [sw_get hl hl', if_neg (by omega)] at hy
    by_cases c : m = j
    · rw [if_pos c] at hy
      exact hlt x y hx hy
    · rw [if_neg c] at hy
      exact q.behind m x y (by omega) h2 hx hy
theorem Ins.done {ys : List α} {a i j : Nat} (tr : ∀ x y z : α, le x y → le y z → le x z) (q : Ins le ys a i j) (haj : a ≤ j) (hji : j ≤ i) (hl : j < ys.length) (hd : j = a ∨ ∀ x y, ys[j - 1]? = some x → ys[j]? = some y → le x y) : AscI le ys a (i + 1) := by
  intro k m x y h1 h2 h3 hx hy
  by_cases c1 : k = j
  · subst c1; exact q.behind _ _ _ h2 (by omega) hx hy
  · by_cases c2 : m = j
    · subst c2
      rcases hd with hd | hd
      · omega
      · by_cases c3 : k = m - 1
        · subst c3; exact hd _ _ hx hy
        · have hz : ∃ z, ys[m - 1]? = some z := ⟨_, List.getElem?_eq_getElem (by omega)⟩
          obtain ⟨z, hz⟩ := hz
          exact tr _ z _ (q.rest k (m - 1) x z h1 (by omega) (by omega) c1 (by omega) hx hz) (hd _ _ hz hy)
    · exact q.rest _ _ _ _ h1 h2 (by omega) c1 c2 hx hy
/-- Where a rotated place stood. -/
def rot (a m b k : Nat) : Nat := if k < a then k else if k < a + (b - m) then k + (m - a) else if k < b then k - (b - m) else k
/-- a..m and m..b have changed places. -/
structure Rot (ys zs : List α) (a m b : Nat) : Prop where
  perm : zs.Perm ys
  at' : ∀ k, zs[k]? = ys[rot a m b k]?
theorem Rot.ch {ys zs : List α} {a m b : Nat} (r : Rot ys zs a m b) (h1 : a ≤ m) (h2 : m ≤ b) : Ch ys zs a b :=
  ⟨r.perm, fun i hi => by
    rw [r.at']
    congr 1
    unfold rot
    split
    · rfl
    · rw [if_neg (by omega), if_neg (by omega)]⟩
theorem AscI.sub {ys : List α} {a b a' b' : Nat} (q : AscI le ys a b) (h1 : a ≤ a') (h2 : b' ≤ b) : AscI le ys a' b' := fun i j x y g1 g2 g3 hx hy => q i j x y (by omega) g2 (by omega) hx hy
theorem AscI.out {ys zs : List α} {a b c d : Nat} (q : AscI le ys c d) (h : Ch ys zs a b) (ho : d ≤ a ∨ b ≤ c) : AscI le zs c d := fun i j x y g1 g2 g3 hx hy => by
  rw [h.out i (by omega)] at hx
  rw [h.out j (by omega)] at hy
  exact q i j x y g1 g2 g3 hx hy
/-- The halves after a rotation, each put in order, are in order together. -/
theorem asc_join {ys z1 z2 z3 : List α} {a s m e b mid : Nat} (has : a ≤ s) (hsm : s ≤ m) (hme : m ≤ e) (heb : e ≤ b) (hb : b ≤ ys.length) (hmid : mid = s + (e - m)) (tr : ∀ x y z : α, le x y → le y z → le x z) (hx : AscI le ys a m) (hy : AscI le ys m b)
    (h1 : s = a ∨ e = b ∨ ∀ x y, ys[s - 1]? = some x → ys[e]? = some y → le x y) (h2 : s = m ∨ e = m ∨ ∀ x y, ys[e - 1]? = some x → ys[s]? = some y → le x y)
    (r : Rot ys z1 s m e) (c1 : Ch z1 z2 a mid) (q1 : AscI le z2 a mid) (c2 : Ch z2 z3 mid b) (q2 : AscI le z3 mid b) : AscI le z3 a b := by
  have l1 := r.perm.length_eq
  have l2 := c1.len
  have q1' : AscI le z3 a mid := q1.out c2 (.inl (Nat.le_refl _))
  -- an element of the first half
  have fst : ∀ i x, a ≤ i → i < mid → z3[i]? = some x → ∃ k, ys[k]? = some x ∧ ((a ≤ k ∧ k < s) ∨ (m ≤ k ∧ k < e)) := fun i x h h' hx => by
    rw [c2.out i (.inl h')] at hx
    obtain ⟨j, j1, j2, hj⟩ := c1.mem (by omega) (by omega) h h' hx
    rw [r.at'] at hj
    unfold rot at hj
    by_cases c : j < s
    · rw [if_pos c] at hj; exact ⟨j, hj, .inl ⟨j1, c⟩⟩
    · rw [if_neg c, if_pos (by omega)] at hj
      exact ⟨_, hj, .inr ⟨by omega, by omega⟩⟩
  have snd : ∀ i x, mid ≤ i → i < b → z3[i]? = some x → ∃ k, ys[k]? = some x ∧ ((s ≤ k ∧ k < m) ∨ (e ≤ k ∧ k < b)) := fun i x h h' hx => by
    obtain ⟨j, j1, j2, hj⟩ := c2.mem (by omega) (by omega) h h' hx
    rw [c1.out j (.inr j1), r.at'] at hj
    unfold rot at hj
    rw [if_neg (by omega), if_neg (by omega)] at hj
    by_cases c : j < e
    · rw [if_pos c] at hj; exact ⟨_, hj, .inl ⟨by omega, by omega⟩⟩
    · rw [if_neg c] at hj; exact ⟨j, hj, .inr ⟨by omega, j2⟩⟩
  have get : ∀ k, k < ys.length → ∃ x, ys[k]? = some x := fun k hk => ⟨_, List.getElem?_eq_getElem hk⟩
  have up : ∀ (lo hi : Nat) k n x y, AscI le ys lo hi → lo ≤ k → k ≤ n → n < hi → ys[k]? = some x → ys[n]? = some y → k = n ∨ le x y := fun lo hi k n x y q g1 g2 g3 hx hy => by
    by_cases c : k = n
    · exact .inl c
    · exact .inr (q k n x y g1 (by omega) g3 hx hy)
  have chain : ∀ (lo hi lo' hi' : Nat) k p p' n x y u v, AscI le ys lo hi → AscI le ys lo' hi' → lo ≤ k → k ≤ p → p < hi → lo' ≤ p' → p' ≤ n → n < hi' → ys[k]? = some x → ys[p]? = some u → ys[p']? = some v → ys[n]? = some y → le u v → le x y := fun lo hi lo' hi' k p p' n x y u v q q' g1 g2 g3 g4 g5 g6 hx hu hv hy huv => by
    have e1 : le x v := by
      rcases up lo hi k p x u q g1 g2 g3 hx hu with rfl | h
      · rw [hx] at hu; cases hu; exact huv
      · exact tr _ _ _ h huv
    rcases up lo' hi' p' n v y q' g4 g5 g6 hv hy with rfl | h
    · rw [hv] at hy; cases hy; exact e1
    · exact tr _ _ _ e1 h
  intro i j x y g1 g2 g3 hx' hy'
  by_cases ci : j < mid
  · exact q1' i j x y g1 g2 ci hx' hy'
  · by_cases cj : mid ≤ i
    · exact q2 i j x y cj g2 g3 hx' hy'
    · obtain ⟨k, hk, kk⟩ := fst i x g1 (by omega) hx'
      obtain ⟨n, hn, nn⟩ := snd j y (by omega) g3 hy'
      rcases kk with kk | kk <;> rcases nn with nn | nn
      · exact hx k n x y kk.1 (by omega) nn.2 hk hn
      · rcases h1 with h1 | h1 | h1
        · omega
        · omega
        · obtain ⟨u, hu⟩ := get (s - 1) (by omega)
          obtain ⟨v, hv⟩ := get e (by omega)
          exact chain a m m b k (s - 1) e n x y u v hx hy kk.1 (by omega) (by omega) hme (by omega) nn.2 hk hu hv hn (h1 u v hu hv)
      · rcases h2 with h2 | h2 | h2
        · omega
        · omega
        · obtain ⟨u, hu⟩ := get (e - 1) (by omega)
          obtain ⟨v, hv⟩ := get s (by omega)
          exact chain m b a m k (e - 1) s n x y u v hy hx kk.1 (by omega) (by omega) has (by omega) nn.2 hk hu hv hn (h2 u v hu hv)
      · exact hy k n x y kk.1 (by omega) nn.2 hk hn
theorem AscI.pairwise {ys : List α} (q : AscI le ys 0 ys.length) : ys.Pairwise le := by
  rw [List.pairwise_iff_getElem]
  intro i j hi hj hij
  exact q i j _ _ (Nat.zero_le _) hij hj (List.getElem?_eq_getElem hi) (List.getElem?_eq_getElem hj)
theorem AscI.one {ys : List α} {a b : Nat} (h : b ≤ a + 1) : AscI le ys a b := fun i j x y h1 h2 h3 => by omega
end
end Go.Proofs.YtcaolnmpldbkjaaGreatA
namespace Go.Proofs.YtcaolnmpldbkjaaGreatA
open Go Go.Proofs Go.RowKit
set_option linter.unusedVariables false
set_option linter.unusedSimpArgs false
set_option maxRecDepth 10000
set_option maxHeartbeats 2000000
def cmpI (a b : Int) : Int := if a < b then -1 else if b < a then 1 else 0
theorem nanI_ok {h : Heap} (a : Int) : WR (callE Tryz.prog hk 104 [.int .i64 a] h) fun r h' => h = h' ∧ r = .bool false := by
  refine WR.call (hH := rfl) Tryz.func104 rfl (n := 6) rfl rfl (by simp) ?_
  simp -dsimp (disch := first | with_reducible assumption | omega | (intro h_; cases h_; done) | (simp only [LN] <;> omega) | (simp only [LF]; done) | (repeat (first | with_reducible assumption | apply Ext.refl | apply Ext.app | (apply Ext.set <;> omega) | (refine Ext.trans ?_ (by assumption))))) only [AX, TY, AD, mapPut, entsOf, oneV, builtinV, idsOf, mapId, touchB, Nat.reduceLT, Nat.reduceLeDiff, Nat.reduceEqDiff, Nat.reduceAdd, Nat.reduceMul, Int.reduceBEq, Int.reduceEq, Int.reduceNeg, Int.reduceLT, Int.reduceLE, Int.reduceAdd, Int.reduceSub, Int.reduceMul, Int.reduceToNat, Int.reduceGT, Nat.reduceBEq, Nat.reducePow, Nat.reduceGT, reduceCtorEq, ↓reduceIte]
theorem cmpI_ok {h : Heap} (a b : Int) : WR (callE Tryz.prog hk 77 [.int .i64 a, .int .i64 b] h) fun r h' => h = h' ∧ r = .int .i64 (cmpI a b) := by
  refine WR.call (hH := rfl) Tryz.func77 rfl (n := 20) rfl rfl (by simp) ?_
  simp -dsimp (disch := first | with_reducible assumption | omega | (intro h_; cases h_; done) | (simp only [LN] <;> omega) | (simp only [LF]; done) | (repeat (first | with_reducible assumption | apply Ext.refl | apply Ext.app | (apply Ext.set <;> omega) | (refine Ext.trans ?_ (by assumption))))) only [AX, TY, AD, mapPut, entsOf, oneV, builtinV, idsOf, mapId, touchB, Nat.reduceLT, Nat.reduceLeDiff, Nat.reduceEqDiff, Nat.reduceAdd, Nat.reduceMul, Int.reduceBEq, Int.reduceEq, Int.reduceNeg, Int.reduceLT, Int.reduceLE, Int.reduceAdd, Int.reduceSub, Int.reduceMul, Int.reduceToNat, Int.reduceGT, Nat.reduceBEq, Nat.reducePow, Nat.reduceGT, reduceCtorEq, ↓reduceIte]
  refine (nanI_ok a).mono ?_
  rintro _ _ ⟨rfl, rfl⟩
  simp -dsimp (disch := first | with_reducible assumption | omega | (intro h_; cases h_; done) | (simp only [LN] <;> omega) | (simp only [LF]; done) | (repeat (first | with_reducible assumption | apply Ext.refl | apply Ext.app | (apply Ext.set <;> omega) | (refine Ext.trans ?_ (by assumption))))) only [AX, TY, AD, mapPut, entsOf, oneV, builtinV, idsOf, mapId, touchB, Nat.reduceLT, Nat.reduceLeDiff, Nat.reduceEqDiff, Nat.reduceAdd, Nat.reduceMul, Int.reduceBEq, Int.reduceEq, Int.reduceNeg, Int.reduceLT, Int.reduceLE, Int.reduceAdd, Int.reduceSub, Int.reduceMul, Int.reduceToNat, Int.reduceGT, Nat.reduceBEq, Nat.reducePow, Nat.reduceGT, reduceCtorEq, ↓reduceIte]
  refine (nanI_ok b).mono ?_
  rintro _ _ ⟨rfl, rfl⟩
  simp -dsimp (disch := first | with_reducible assumption | omega | (intro h_; cases h_; done) | (simp only [LN] <;> omega) | (simp only [LF]; done) | (repeat (first | with_reducible assumption | apply Ext.refl | apply Ext.app | (apply Ext.set <;> omega) | (refine Ext.trans ?_ (by assumption))))) only [AX, TY, AD, mapPut, entsOf, oneV, builtinV, idsOf, mapId, touchB, Nat.reduceLT, Nat.reduceLeDiff, Nat.reduceEqDiff, Nat.reduceAdd, Nat.reduceMul, Int.reduceBEq, Int.reduceEq, Int.reduceNeg, Int.reduceLT, Int.reduceLE, Int.reduceAdd, Int.reduceSub, Int.reduceMul, Int.reduceToNat, Int.reduceGT, Nat.reduceBEq, Nat.reducePow, Nat.reduceGT, reduceCtorEq, ↓reduceIte]
  all_goals try ((first | refine WC_dec (fun hq => ?_) (fun hq => ?_) | refine WC_bool (fun hq => ?_) (fun hq => ?_)) <;> (try simp -dsimp (disch := first | with_reducible assumption | omega | (intro h_; cases h_; done) | (simp only [LN] <;> omega) | (simp only [LF]; done) | (repeat (first | with_reducible assumption | apply Ext.refl | apply Ext.app | (apply Ext.set <;> omega) | (refine Ext.trans ?_ (by assumption))))) only [AX, TY, AD, mapPut, entsOf, oneV, builtinV, idsOf, mapId, touchB, Nat.reduceLT, Nat.reduceLeDiff, Nat.reduceEqDiff, Nat.reduceAdd, Nat.reduceMul, Int.reduceBEq, Int.reduceEq, Int.reduceNeg, Int.reduceLT, Int.reduceLE, Int.reduceAdd, Int.reduceSub, Int.reduceMul, Int.reduceToNat, Int.reduceGT, Nat.reduceBEq, Nat.reducePow, Nat.reduceGT, reduceCtorEq, ↓reduceIte, *]))
  all_goals try ((first | refine WC_dec (fun hq => ?_) (fun hq => ?_) | refine WC_bool (fun hq => ?_) (fun hq => ?_)) <;> (try simp -dsimp (disch := first | with_reducible assumption | omega | (intro h_; cases h_; done) | (simp only [LN] <;> omega) | (simp only [LF]; done) | (repeat (first | with_reducible assumption | apply Ext.refl | apply Ext.app | (apply Ext.set <;> omega) | (refine Ext.trans ?_ (by assumption))))) only [AX, TY, AD, mapPut, entsOf, oneV, builtinV, idsOf, mapId, touchB, Nat.reduceLT, Nat.reduceLeDiff, Nat.reduceEqDiff, Nat.reduceAdd, Nat.reduceMul, Int.reduceBEq, Int.reduceEq, Int.reduceNeg, Int.reduceLT, Int.reduceLE, Int.reduceAdd, Int.reduceSub, Int.reduceMul, Int.reduceToNat, Int.reduceGT, Nat.reduceBEq, Nat.reducePow, Nat.reduceGT, reduceCtorEq, ↓reduceIte, *]))
  all_goals try ((first | refine WC_dec (fun hq => ?_) (fun hq => ?_) | refine WC_bool (fun hq => ?_) (fun hq => ?_)) <;> (try simp -dsimp (disch := first | with_reducible assumption | omega | (intro h_; cases h_; done) | (simp only [LN] <;> omega) | (simp only [LF]; done) | (repeat (first | with_reducible assumption | apply Ext.refl | apply Ext.app | (apply Ext.set <;> omega) | (refine Ext.trans ?_ (by assumption))))) only [AX, TY, AD, mapPut, entsOf, oneV, builtinV, idsOf, mapId, touchB, Nat.reduceLT, Nat.reduceLeDiff, Nat.reduceEqDiff, Nat.reduceAdd, Nat.reduceMul, Int.reduceBEq, Int.reduceEq, Int.reduceNeg, Int.reduceLT, Int.reduceLE, Int.reduceAdd, Int.reduceSub, Int.reduceMul, Int.reduceToNat, Int.reduceGT, Nat.reduceBEq, Nat.reducePow, Nat.reduceGT, reduceCtorEq, ↓reduceIte, *]))
  all_goals simp [cmpI, *]
def orL : List Int → Int
  | [] => 0
  | a :: l => if a = 0 then orL l else a
theorem or_ok {h : Heap} {p : Option (Nat × Nat)} {c : Option Nat} {ys : List Int} (hs : Sl h p 1 (fun a => [.int .i64 a]) ys) :
    WR (callE Tryz.prog hk 76 [.slice p ys.length c] h) fun r h' => h' = h ∧ r = .int .i64 (orL ys) := by
  have hn := hs.nil'
  have hl := hs.small
  refine WR.call (hH := rfl) Tryz.func76 rfl (n := 18) rfl rfl (by simp) ?_
  simp -dsimp (disch := first | with_reducible assumption | omega | (intro h_; cases h_; done) | (simp only [LN] <;> omega) | (simp only [LF]; done) | (repeat (first | with_reducible assumption | apply Ext.refl | apply Ext.app | (apply Ext.set <;> omega) | (refine Ext.trans ?_ (by assumption))))) only [AX, TY, AD, mapPut, entsOf, oneV, builtinV, idsOf, mapId, touchB, Nat.reduceLT, Nat.reduceLeDiff, Nat.reduceEqDiff, Nat.reduceAdd, Nat.reduceMul, Int.reduceBEq, Int.reduceEq, Int.reduceNeg, Int.reduceLT, Int.reduceLE, Int.reduceAdd, Int.reduceSub, Int.reduceMul, Int.reduceToNat, Int.reduceGT, Nat.reduceBEq, Nat.reducePow, Nat.reduceGT, reduceCtorEq, ↓reduceIte]
  refine W.loop (fun m τ hh => hh = h ∧ ∃ i : Nat, m + i = ys.length ∧ τ 6 = .slice p ys.length c ∧ τ 7 = .int .i64 ys.length ∧ τ 8 = .int .i64 i ∧ τ 3 = .int .i64 0 ∧ orL ys = orL (ys.drop i)) ?_ (m := ys.length) ?_
  rotate_left
  · exact ⟨rfl, 0, by simp, rfl, rfl, rfl, rfl, by simp⟩
  rintro m τ _ ⟨rfl, i, hm, h6, h7, h8, h3, hx⟩
  simp -dsimp (disch := first | with_reducible assumption | omega | (intro h_; cases h_; done) | (simp only [LN] <;> omega) | (simp only [LF]; done) | (repeat (first | with_reducible assumption | apply Ext.refl | apply Ext.app | (apply Ext.set <;> omega) | (refine Ext.trans ?_ (by assumption))))) only [AX, TY, AD, mapPut, entsOf, oneV, builtinV, idsOf, mapId, touchB, Nat.reduceLT, Nat.reduceLeDiff, Nat.reduceEqDiff, Nat.reduceAdd, Nat.reduceMul, Int.reduceBEq, Int.reduceEq, Int.reduceNeg, Int.reduceLT, Int.reduceLE, Int.reduceAdd, Int.reduceSub, Int.reduceMul, Int.reduceToNat, Int.reduceGT, Nat.reduceBEq, Nat.reducePow, Nat.reduceGT, reduceCtorEq, ↓reduceIte, h6, h7, h8, h3]
  refine WC_dec (fun hlt => ?_) (fun hge => ?_)
  · have hi : i < ys.length := by omega
    rw [List.drop_eq_getElem_cons hi] at hx
    simp -dsimp (disch := first | with_reducible assumption | omega | (intro h_; cases h_; done) | (simp only [LN] <;> omega) | (simp only [LF]; done) | (repeat (first | with_reducible assumption | apply Ext.refl | apply Ext.app | (apply Ext.set <;> omega) | (refine Ext.trans ?_ (by assumption))))) only [AX, TY, AD, mapPut, entsOf, oneV, builtinV, idsOf, mapId, touchB, Nat.reduceLT, Nat.reduceLeDiff, Nat.reduceEqDiff, Nat.reduceAdd, Nat.reduceMul, Int.reduceBEq, Int.reduceEq, Int.reduceNeg, Int.reduceLT, Int.reduceLE, Int.reduceAdd, Int.reduceSub, Int.reduceMul, Int.reduceToNat, Int.reduceGT, Nat.reduceBEq, Nat.reducePow, Nat.reduceGT, reduceCtorEq, ↓reduceIte, h6, h7, h8, h3, hs.load0]
    refine WC_dec (fun hq => ?_) (fun hq => ?_)
    · simp -dsimp (disch := first | with_reducible assumption | omega | (intro h_; cases h_; done) | (simp only [LN] <;> omega) | (simp only [LF]; done) | (repeat (first | with_reducible assumption | apply Ext.refl | apply Ext.app | (apply Ext.set <;> omega) | (refine Ext.trans ?_ (by assumption))))) only [AX, TY, AD, mapPut, entsOf, oneV, builtinV, idsOf, mapId, touchB, Nat.reduceLT, Nat.reduceLeDiff, Nat.reduceEqDiff, Nat.reduceAdd, Nat.reduceMul, Int.reduceBEq, Int.reduceEq, Int.reduceNeg, Int.reduceLT, Int.reduceLE, Int.reduceAdd, Int.reduceSub, Int.reduceMul, Int.reduceToNat, Int.reduceGT, Nat.reduceBEq, Nat.reducePow, Nat.reduceGT, reduceCtorEq, ↓reduceIte, h6, h7, h8, h3]
      rw [hx]; simp [orL, hq]
    · simp -dsimp (disch := first | with_reducible assumption | omega | (intro h_; cases h_; done) | (simp only [LN] <;> omega) | (simp only [LF]; done) | (repeat (first | with_reducible assumption | apply Ext.refl | apply Ext.app | (apply Ext.set <;> omega) | (refine Ext.trans ?_ (by assumption))))) only [AX, TY, AD, mapPut, entsOf, oneV, builtinV, idsOf, mapId, touchB, Nat.reduceLT, Nat.reduceLeDiff, Nat.reduceEqDiff, Nat.reduceAdd, Nat.reduceMul, Int.reduceBEq, Int.reduceEq, Int.reduceNeg, Int.reduceLT, Int.reduceLE, Int.reduceAdd, Int.reduceSub, Int.reduceMul, Int.reduceToNat, Int.reduceGT, Nat.reduceBEq, Nat.reducePow, Nat.reduceGT, reduceCtorEq, ↓reduceIte, h6, h7, h8, h3, wrap_in]
      refine ⟨m - 1, by omega, i + 1, by omega, by simp, ?_⟩
      rw [hx]
      simp only [Decidable.not_not] at hq
      simp [orL, hq]
  · simp -dsimp (disch := first | with_reducible assumption | omega | (intro h_; cases h_; done) | (simp only [LN] <;> omega) | (simp only [LF]; done) | (repeat (first | with_reducible assumption | apply Ext.refl | apply Ext.app | (apply Ext.set <;> omega) | (refine Ext.trans ?_ (by assumption))))) only [AX, TY, AD, mapPut, entsOf, oneV, builtinV, idsOf, mapId, touchB, Nat.reduceLT, Nat.reduceLeDiff, Nat.reduceEqDiff, Nat.reduceAdd, Nat.reduceMul, Int.reduceBEq, Int.reduceEq, Int.reduceNeg, Int.reduceLT, Int.reduceLE, Int.reduceAdd, Int.reduceSub, Int.reduceMul, Int.reduceToNat, Int.reduceGT, Nat.reduceBEq, Nat.reducePow, Nat.reduceGT, reduceCtorEq, ↓reduceIte, h6, h7, h8, h3]
    rw [hx, List.drop_of_length_le (by omega)]; rfl
/-- A row identifier. -/
structure Rid where
  a : Int
  b : Int
def Rid.enc (x : Rid) : List V := [.int .i64 x.a, .int .i64 x.b]
def cmpR (x y : Rid) : Int := if cmpI x.a y.a = 0 then cmpI x.b y.b else cmpI x.a y.a
theorem cmpR_ok {h : Heap} (x y : Rid) : WR (callE Tryz.prog hk 46 [.agg x.enc, .agg y.enc] h) fun r h' => Ext h h' ∧ r = .int .i64 (cmpR x y) := by
  refine WR.call (hH := rfl) Tryz.func46 rfl (n := 17) rfl rfl (by simp) ?_
  obtain ⟨g, hg, g1, g2, ex, hl⟩ : ∃ g, h ++ [O.cells [V.int .i64 x.a, V.int .i64 x.b] .rw] ++ [O.cells [V.int .i64 y.a, V.int .i64 y.b] .rw] = g ∧ g[h.length]? = some (O.cells [V.int .i64 x.a, V.int .i64 x.b] .rw) ∧ g[h.length + 1]? = some (O.cells [V.int .i64 y.a, V.int .i64 y.b] .rw) ∧ Ext h g ∧ g.length = h.length + 2 := ⟨_, rfl, by rw [snoc_old _ (by simp)]; exact snoc_last _ rfl, snoc_last _ (by simp), (by (repeat (first | assumption | apply Ext.refl | apply Ext.app | (apply Ext.set <;> omega) | exact Ext.trans (by assumption) (by assumption) | (refine Ext.trans ?_ (by assumption))))), by simp⟩
  have lx := loadN_fact g1
  have ly := loadN_fact g2
  simp only [Rid.enc]
  simp -dsimp (disch := first | with_reducible assumption | omega | (intro h_; cases h_; done) | (simp only [LN] <;> omega) | (simp only [LF]; done) | (repeat (first | with_reducible assumption | apply Ext.refl | apply Ext.app | (apply Ext.set <;> omega) | (refine Ext.trans ?_ (by assumption))))) only [AX, TY, AD, mapPut, entsOf, oneV, builtinV, idsOf, mapId, touchB, Nat.reduceLT, Nat.reduceLeDiff, Nat.reduceEqDiff, Nat.reduceAdd, Nat.reduceMul, Int.reduceBEq, Int.reduceEq, Int.reduceNeg, Int.reduceLT, Int.reduceLE, Int.reduceAdd, Int.reduceSub, Int.reduceMul, Int.reduceToNat, Int.reduceGT, Nat.reduceBEq, Nat.reducePow, Nat.reduceGT, reduceCtorEq, ↓reduceIte, hg]
  refine W.drawn [(0, []), (1, []), (2, [1, 0]), (3, [1, 0]), (5, [3, 2, 1, 0]), (6, [3, 2, 1, 0]), (7, [6, 5, 3, 2, 1, 0]), (8, [6, 5, 3, 2, 1, 0]), (4, [8, 7, 6, 5]), (9, []), (10, []), (11, []), (12, [])] (by decide +kernel) ?_
  simp -dsimp (disch := first | with_reducible assumption | omega | (intro h_; cases h_; done) | (simp only [LN] <;> omega) | (simp only [LF]; done) | (repeat (first | with_reducible assumption | apply Ext.refl | apply Ext.app | (apply Ext.set <;> omega) | (refine Ext.trans ?_ (by assumption))))) only [AX, TY, AD, mapPut, entsOf, oneV, builtinV, idsOf, mapId, touchB, Nat.reduceLT, Nat.reduceLeDiff, Nat.reduceEqDiff, Nat.reduceAdd, Nat.reduceMul, Int.reduceBEq, Int.reduceEq, Int.reduceNeg, Int.reduceLT, Int.reduceLE, Int.reduceAdd, Int.reduceSub, Int.reduceMul, Int.reduceToNat, Int.reduceGT, Nat.reduceBEq, Nat.reducePow, Nat.reduceGT, reduceCtorEq, ↓reduceIte, lx, ly]
  refine (cmpI_ok _ _).mono ?_
  rintro _ _ ⟨rfl, rfl⟩
  simp -dsimp (disch := first | with_reducible assumption | omega | (intro h_; cases h_; done) | (simp only [LN] <;> omega) | (simp only [LF]; done) | (repeat (first | with_reducible assumption | apply Ext.refl | apply Ext.app | (apply Ext.set <;> omega) | (refine Ext.trans ?_ (by assumption))))) only [AX, TY, AD, mapPut, entsOf, oneV, builtinV, idsOf, mapId, touchB, Nat.reduceLT, Nat.reduceLeDiff, Nat.reduceEqDiff, Nat.reduceAdd, Nat.reduceMul, Int.reduceBEq, Int.reduceEq, Int.reduceNeg, Int.reduceLT, Int.reduceLE, Int.reduceAdd, Int.reduceSub, Int.reduceMul, Int.reduceToNat, Int.reduceGT, Nat.reduceBEq, Nat.reducePow, Nat.reduceGT, reduceCtorEq, ↓reduceIte, lx, ly]
  refine (cmpI_ok _ _).mono ?_
  rintro _ _ ⟨rfl, rfl⟩
  have hb : Sl (g ++ [O.cells [V.int .i64 (cmpI x.a y.a), V.int .i64 (cmpI x.b y.b)] .rw]) (some (g.length, 0)) 1 (fun a => [V.int .i64 a]) [cmpI x.a y.a, cmpI x.b y.b] := Sl.whole (snoc_last _ rfl) (by simp) rfl (by simp)
  have hor := or_ok (c := some 2) hb
  simp -dsimp (disch := first | with_reducible assumption | omega | (intro h_; cases h_; done) | (simp only [LN] <;> omega) | (simp only [LF]; done) | (repeat (first | with_reducible assumption | apply Ext.refl | apply Ext.app | (apply Ext.set <;> omega) | (refine Ext.trans ?_ (by assumption))))) only [AX, TY, AD, mapPut, entsOf, oneV, builtinV, idsOf, mapId, touchB, Nat.reduceLT, Nat.reduceLeDiff, Nat.reduceEqDiff, Nat.reduceAdd, Nat.reduceMul, Int.reduceBEq, Int.reduceEq, Int.reduceNeg, Int.reduceLT, Int.reduceLE, Int.reduceAdd, Int.reduceSub, Int.reduceMul, Int.reduceToNat, Int.reduceGT, Nat.reduceBEq, Nat.reducePow, Nat.reduceGT, reduceCtorEq, ↓reduceIte, lx, ly]
  refine hor.mono ?_
  rintro _ _ ⟨rfl, rfl⟩
  simp -dsimp (disch := first | with_reducible assumption | omega | (intro h_; cases h_; done) | (simp only [LN] <;> omega) | (simp only [LF]; done) | (repeat (first | with_reducible assumption | apply Ext.refl | apply Ext.app | (apply Ext.set <;> omega) | (refine Ext.trans ?_ (by assumption))))) only [AX, TY, AD, mapPut, entsOf, oneV, builtinV, idsOf, mapId, touchB, Nat.reduceLT, Nat.reduceLeDiff, Nat.reduceEqDiff, Nat.reduceAdd, Nat.reduceMul, Int.reduceBEq, Int.reduceEq, Int.reduceNeg, Int.reduceLT, Int.reduceLE, Int.reduceAdd, Int.reduceSub, Int.reduceMul, Int.reduceToNat, Int.reduceGT, Nat.reduceBEq, Nat.reducePow, Nat.reduceGT, reduceCtorEq, ↓reduceIte]
  refine ⟨(by (repeat (first | assumption | apply Ext.refl | apply Ext.app | (apply Ext.set <;> omega) | exact Ext.trans (by assumption) (by assumption) | (refine Ext.trans ?_ (by assumption))))), ?_⟩
  unfold cmpR orL
  split
  · unfold orL; split
    · rename_i q; rw [q]; rfl
    · rfl
  · rfl
theorem cmpI_swap (a b : Int) : cmpI b a = - cmpI a b := by unfold cmpI; split <;> split <;> (try split) <;> omega
theorem cmpI_zero {a b : Int} : cmpI a b = 0 ↔ a = b := by unfold cmpI; split <;> (try split) <;> omega
theorem cmpI_neg {a b : Int} : cmpI a b < 0 ↔ a < b := by unfold cmpI; split <;> (try split) <;> omega
theorem cmpR_swap (x y : Rid) : cmpR y x = - cmpR x y := by
  unfold cmpR
  rw [cmpI_swap x.a y.a, cmpI_swap x.b y.b]
  split <;> split <;> omega
theorem cmpR_zero {x y : Rid} (h : cmpR x y = 0) : x = y := by
  unfold cmpR at h
  obtain ⟨xa, xb⟩ := x
  obtain ⟨ya, yb⟩ := y
  split at h
  · rename_i q
    have h1 := cmpI_zero.1 q
    have h2 := cmpI_zero.1 h
    simp only at h1 h2
    subst h1 h2; rfl
  · rename_i q; exact absurd h q
theorem cmpR_neg {x y : Rid} : cmpR x y < 0 ↔ x.a < y.a ∨ x.a = y.a ∧ x.b < y.b := by
  unfold cmpR
  split
  · rename_i q
    have h1 := cmpI_zero.1 q
    rw [cmpI_neg]; omega
  · rename_i q
    have h1 : ¬ x.a = y.a := fun e => q (cmpI_zero.2 e)
    rw [cmpI_neg]; omega
theorem cmpR_self (x : Rid) : cmpR x x = 0 := by simp [cmpR, cmpI]
def Ver.rid (v : Ver) : Rid := ⟨v.a, v.b⟩
def Ver.cmp (x y : Ver) : Int := cmpR x.rid y.rid
def leV (x y : Ver) : Prop := Ver.cmp x y ≤ 0
theorem byID_ok {h : Heap} (x y : Ver) : WR (callE Tryz.prog hk 33 [.agg x.enc, .agg y.enc] h) fun r h' => Ext h h' ∧ r = .int .i64 (Ver.cmp x y) := by
  refine WR.call (hH := rfl) Tryz.func33 rfl (n := 10) rfl rfl (by simp) ?_
  obtain ⟨g, hg, g1, g2, ex, hl⟩ : ∃ g, h ++ [O.cells x.enc .rw] ++ [O.cells y.enc .rw] = g ∧ g[h.length]? = some (O.cells x.enc .rw) ∧ g[h.length + 1]? = some (O.cells y.enc .rw) ∧ Ext h g ∧ g.length = h.length + 2 := ⟨_, rfl, by simp, by simp, (by (repeat (first | assumption | apply Ext.refl | apply Ext.app | (apply Ext.set <;> omega) | exact Ext.trans (by assumption) (by assumption) | (refine Ext.trans ?_ (by assumption))))), by simp⟩
  have lx := loadN_fact g1
  have ly := loadN_fact g2
  have hc := cmpR_ok (h := g) x.rid y.rid
  simp only [Ver.enc] at hg lx ly ⊢
  simp only [Rid.enc, Ver.rid] at hc
  simp -dsimp (disch := first | with_reducible assumption | omega | (intro h_; cases h_; done) | (simp only [LN] <;> omega) | (simp only [LF]; done) | (repeat (first | with_reducible assumption | apply Ext.refl | apply Ext.app | (apply Ext.set <;> omega) | (refine Ext.trans ?_ (by assumption))))) only [AX, TY, AD, mapPut, entsOf, oneV, builtinV, idsOf, mapId, touchB, Nat.reduceLT, Nat.reduceLeDiff, Nat.reduceEqDiff, Nat.reduceAdd, Nat.reduceMul, Int.reduceBEq, Int.reduceEq, Int.reduceNeg, Int.reduceLT, Int.reduceLE, Int.reduceAdd, Int.reduceSub, Int.reduceMul, Int.reduceToNat, Int.reduceGT, Nat.reduceBEq, Nat.reducePow, Nat.reduceGT, reduceCtorEq, ↓reduceIte, hg, lx, ly]
  refine hc.mono ?_
  rintro _ h2 ⟨e2, rfl⟩
  simp -dsimp (disch := first | with_reducible assumption | omega | (intro h_; cases h_; done) | (simp only [LN] <;> omega) | (simp only [LF]; done) | (repeat (first | with_reducible assumption | apply Ext.refl | apply Ext.app | (apply Ext.set <;> omega) | (refine Ext.trans ?_ (by assumption))))) only [AX, TY, AD, mapPut, entsOf, oneV, builtinV, idsOf, mapId, touchB, Nat.reduceLT, Nat.reduceLeDiff, Nat.reduceEqDiff, Nat.reduceAdd, Nat.reduceMul, Int.reduceBEq, Int.reduceEq, Int.reduceNeg, Int.reduceLT, Int.reduceLE, Int.reduceAdd, Int.reduceSub, Int.reduceMul, Int.reduceToNat, Int.reduceGT, Nat.reduceBEq, Nat.reducePow, Nat.reduceGT, reduceCtorEq, ↓reduceIte]
  exact ⟨ex.trans e2, rfl⟩

theorem leV_iff {x y : Ver} : leV x y ↔ x.a < y.a ∨ x.a = y.a ∧ x.b ≤ y.b := by
  unfold leV Ver.cmp
  have h1 := @cmpR_neg x.rid y.rid
  constructor
  · intro h
    by_cases c : cmpR x.rid y.rid < 0
    · rcases h1.1 c with q | q
      · exact .inl q
      · exact .inr ⟨q.1, by have : x.b < y.b := q.2; omega⟩
    · have := cmpR_zero (show cmpR x.rid y.rid = 0 by omega)
      have h2 : x.rid.a = y.rid.a := by rw [this]
      have h3 : x.rid.b = y.rid.b := by rw [this]
      exact .inr ⟨h2, Int.le_of_eq h3⟩
  · intro h
    by_cases c : cmpR x.rid y.rid < 0
    · omega
    · have h2 : x.rid = y.rid := by
        have hn : ¬ (x.rid.a < y.rid.a ∨ x.rid.a = y.rid.a ∧ x.rid.b < y.rid.b) := fun q => c (h1.2 q)
        have e1 : x.rid.a = x.a := rfl
        have e2 : y.rid.a = y.a := rfl
        have e3 : x.rid.b = x.b := rfl
        have e4 : y.rid.b = y.b := rfl
        have : x.a = y.a ∧ x.b = y.b := by omega
        unfold Ver.rid; rw [this.1, this.2]
      rw [h2, cmpR_self]; exact Int.le_refl 0
theorem leV_tr (x y z : Ver) (h1 : leV x y) (h2 : leV y z) : leV x z := by rw [leV_iff] at *; omega
theorem leV_of_lt {x y : Ver} (h : Ver.cmp x y < 0) : leV x y := by unfold leV; omega
theorem leV_of_ge {x y : Ver} (h : ¬ Ver.cmp x y < 0) : leV y x := by
  unfold leV Ver.cmp at *
  rw [cmpR_swap]; omega
theorem Ext.same {a b : Heap} (e : Ext a b) {i : Nat} (hi : i < a.length) : b[i]? = a[i]? := by rw [e _ _ (List.getElem?_eq_getElem hi), List.getElem?_eq_getElem hi]
/-- The list that is sorted, in memory; all else stands. -/
structure GK (b : Nat) (h : Heap) (p : Option (Nat × Nat)) (c oid : Option Nat) (zs : List Ver) (h' : Heap) : Prop where
  gr : Gr b h' p c oid 5 Ver.enc zs
  le : h.length ≤ h'.length
  fr : ∀ i, i < h.length → oid ≠ some i → h'[i]? = h[i]?
section
variable {b : Nat} {h hh : Heap} {p : Option (Nat × Nat)} {c oid : Option Nat} {ys zs : List Ver}
theorem GK.ext (g : GK b h p c oid zs hh) {h2 : Heap} (e : Ext hh h2) : GK b h p c oid zs h2 := ⟨g.gr.ext e, Nat.le_trans g.le e.le, fun i hi ho => by rw [e.same (by have := g.le; omega)]; exact g.fr i hi ho⟩
theorem GK.trans {h2 : Heap} {ws : List Ver} (g : GK b h p c oid zs hh) (k : GK b hh p c oid ws h2) : GK b h p c oid ws h2 := ⟨k.gr, Nat.le_trans g.le k.le, fun i hi ho => by rw [k.fr i (by have := g.le; omega) ho]; exact g.fr i hi ho⟩
theorem GK.refl (g : Gr b h p c oid 5 Ver.enc zs) : GK b h p c oid zs h := ⟨g, Nat.le_refl _, fun _ _ _ => rfl⟩
theorem GK.swap (g : GK b h p c oid zs hh) {i j : Nat} (hi : i < zs.length) (hj : j < zs.length) :
    ∃ h5 h6, storeN hh (sid p) (soff p + i * 5) (Ver.enc zs[j]) = some h5 ∧ storeN h5 (sid p) (soff p + j * 5) (Ver.enc zs[i]) = some h6 ∧ GK b h p c oid (sw zs i j) h6 ∧ h5.length = hh.length ∧ h6.length = hh.length := by
  obtain ⟨h5, s1, g5, l5, k5, b5⟩ := g.gr.store0 hi (zs[j]) rfl rfl
  have hj' : j < (zs.set i zs[j]).length := by rw [List.length_set]; exact hj
  obtain ⟨h6, s2, g6, l6, k6, b6⟩ := g5.store0 hj' (zs[i]) rfl rfl
  have e : sw zs i j = (zs.set i zs[j]).set j zs[i] := by
    unfold sw
    rw [List.getElem?_eq_getElem hi, List.getElem?_eq_getElem hj]
  rw [← e] at g6
  exact ⟨h5, h6, s1, s2, ⟨g6, by have := g.le; omega, fun k hk ho => by rw [k6 k ho, k5 k ho]; exact g.fr k hk ho⟩, l5, by omega⟩
theorem Ver.elem {g : Gr b hh p c oid 5 Ver.enc zs} {i : Nat} (hi : i < zs.length) : zs[i]? = some zs[i] := List.getElem?_eq_getElem hi
end
theorem ins_ok {b : Nat} {h : Heap} {p : Option (Nat × Nat)} {c oid : Option Nat} {ys : List Ver} (g : Gr b h p c oid 5 Ver.enc ys) (hB : ys.length ≤ 100000) {a e : Nat} (hae : a ≤ e) (he : e ≤ ys.length) :
    WR (callE Tryz.prog hk 90 [.slice p ys.length c, .int .i64 a, .int .i64 e, .func 33 [] []] h) fun r h' => ∃ zs, Ch ys zs a e ∧ AscI leV zs a e ∧ GK b h p c oid zs h' := by
  have hl := g.sl.small
  refine WR.call (hH := rfl) Tryz.func90 rfl (n := 53) rfl rfl (by simp) ?_
  simp -dsimp (disch := first | with_reducible assumption | omega | (intro h_; cases h_; done) | (simp only [LN] <;> omega) | (simp only [LF]; done) | (repeat (first | with_reducible assumption | apply Ext.refl | apply Ext.app | (apply Ext.set <;> omega) | (refine Ext.trans ?_ (by assumption))))) only [AX, TY, AD, mapPut, entsOf, oneV, builtinV, idsOf, mapId, touchB, Nat.reduceLT, Nat.reduceLeDiff, Nat.reduceEqDiff, Nat.reduceAdd, Nat.reduceMul, Int.reduceBEq, Int.reduceEq, Int.reduceNeg, Int.reduceLT, Int.reduceLE, Int.reduceAdd, Int.reduceSub, Int.reduceMul, Int.reduceToNat, Int.reduceGT, Nat.reduceBEq, Nat.reducePow, Nat.reduceGT, reduceCtorEq, ↓reduceIte, wrap_in]
  refine W.loop (fun m τ hh => ∃ (i : Nat) (zs : List Ver), a + 1 ≤ i ∧ m = e + 1 - i ∧ τ 0 = .slice p ys.length c ∧ τ 1 = .int .i64 a ∧ τ 2 = .int .i64 e ∧ τ 3 = .func 33 [] [] ∧ τ 8 = .int .i64 i ∧ Ch ys zs a e ∧ AscI leV zs a i ∧ GK b h p c oid zs hh) ?_ (m := e + 1 - (a + 1)) ?_
  rotate_left
  · refine ⟨a + 1, ys, Nat.le_refl _, rfl, ?_⟩
    have h0 := Ch.refl ys a e
    have h1 : AscI leV ys a (a + 1) := .one (Nat.le_refl _)
    have h2 := GK.refl g
    simp -dsimp (disch := first | with_reducible assumption | omega | (intro h_; cases h_; done) | (simp only [LN] <;> omega) | (simp only [LF]; done) | (repeat (first | with_reducible assumption | apply Ext.refl | apply Ext.app | (apply Ext.set <;> omega) | (refine Ext.trans ?_ (by assumption))))) only [AX, TY, AD, mapPut, entsOf, oneV, builtinV, idsOf, mapId, touchB, Nat.reduceLT, Nat.reduceLeDiff, Nat.reduceEqDiff, Nat.reduceAdd, Nat.reduceMul, Int.reduceBEq, Int.reduceEq, Int.reduceNeg, Int.reduceLT, Int.reduceLE, Int.reduceAdd, Int.reduceSub, Int.reduceMul, Int.reduceToNat, Int.reduceGT, Nat.reduceBEq, Nat.reducePow, Nat.reduceGT, reduceCtorEq, ↓reduceIte]
    repeat' (first | assumption | refine And.intro ?_ ?_)
    all_goals first | rfl | omega | (simp; done) | (simp; omega; done) | skip
  rintro m τ hh ⟨i, zs, hi1, rfl, t0, t1, t2, t3, t8, hch, hasc, gk⟩
  have hzl := hch.len
  by_cases h1 : (i : Int) < (e : Int)
  rotate_left
  · simp -dsimp (disch := first | with_reducible assumption | omega | (intro h_; cases h_; done) | (simp only [LN] <;> omega) | (simp only [LF]; done) | (repeat (first | with_reducible assumption | apply Ext.refl | apply Ext.app | (apply Ext.set <;> omega) | (refine Ext.trans ?_ (by assumption))))) only [AX, TY, AD, mapPut, entsOf, oneV, builtinV, idsOf, mapId, touchB, Nat.reduceLT, Nat.reduceLeDiff, Nat.reduceEqDiff, Nat.reduceAdd, Nat.reduceMul, Int.reduceBEq, Int.reduceEq, Int.reduceNeg, Int.reduceLT, Int.reduceLE, Int.reduceAdd, Int.reduceSub, Int.reduceMul, Int.reduceToNat, Int.reduceGT, Nat.reduceBEq, Nat.reducePow, Nat.reduceGT, reduceCtorEq, ↓reduceIte, t0, t1, t2, t3, t8, h1]
    exact ⟨zs, hch, hasc.sub (Nat.le_refl _) (by omega), gk⟩
  simp -dsimp (disch := first | with_reducible assumption | omega | (intro h_; cases h_; done) | (simp only [LN] <;> omega) | (simp only [LF]; done) | (repeat (first | with_reducible assumption | apply Ext.refl | apply Ext.app | (apply Ext.set <;> omega) | (refine Ext.trans ?_ (by assumption))))) only [AX, TY, AD, mapPut, entsOf, oneV, builtinV, idsOf, mapId, touchB, Nat.reduceLT, Nat.reduceLeDiff, Nat.reduceEqDiff, Nat.reduceAdd, Nat.reduceMul, Int.reduceBEq, Int.reduceEq, Int.reduceNeg, Int.reduceLT, Int.reduceLE, Int.reduceAdd, Int.reduceSub, Int.reduceMul, Int.reduceToNat, Int.reduceGT, Nat.reduceBEq, Nat.reducePow, Nat.reduceGT, reduceCtorEq, ↓reduceIte, t0, t1, t2, t3, t8, h1]
  refine W.loop (fun m2 τ hh => ∃ (j : Nat) (zs : List Ver), m2 = j ∧ a ≤ j ∧ j ≤ i ∧ τ 0 = .slice p ys.length c ∧ τ 1 = .int .i64 a ∧ τ 2 = .int .i64 e ∧ τ 3 = .func 33 [] [] ∧ τ 8 = .int .i64 i ∧ τ 9 = .int .i64 j ∧ Ch ys zs a e ∧ Ins leV zs a i j ∧ GK b h p c oid zs hh) ?_ (m := i) ?_
  rotate_left
  · refine ⟨i, zs, rfl, by omega, Nat.le_refl _, ?_⟩
    have h2 := Ins.start hasc
    simp -dsimp (disch := first | with_reducible assumption | omega | (intro h_; cases h_; done) | (simp only [LN] <;> omega) | (simp only [LF]; done) | (repeat (first | with_reducible assumption | apply Ext.refl | apply Ext.app | (apply Ext.set <;> omega) | (refine Ext.trans ?_ (by assumption))))) only [AX, TY, AD, mapPut, entsOf, oneV, builtinV, idsOf, mapId, touchB, Nat.reduceLT, Nat.reduceLeDiff, Nat.reduceEqDiff, Nat.reduceAdd, Nat.reduceMul, Int.reduceBEq, Int.reduceEq, Int.reduceNeg, Int.reduceLT, Int.reduceLE, Int.reduceAdd, Int.reduceSub, Int.reduceMul, Int.reduceToNat, Int.reduceGT, Nat.reduceBEq, Nat.reducePow, Nat.reduceGT, reduceCtorEq, ↓reduceIte, t0, t1, t2, t3, t8]
    repeat' (first | assumption | refine And.intro ?_ ?_)
    all_goals first | rfl | omega | (simp; done) | (simp; omega; done) | skip
  clear t0 t1 t2 t3 t8 hzl hch hasc gk
  rintro m2 τ2 hh2 ⟨j, zs, rfl, haj, hji, t0, t1, t2, t3, t8, t9, hch, hins, gk⟩
  have hzl := hch.len
  have hjl : m2 < zs.length := by omega
  by_cases hj0 : (a : Int) < (m2 : Int)
  rotate_left
  · simp -dsimp (disch := first | with_reducible assumption | omega | (intro h_; cases h_; done) | (simp only [LN] <;> omega) | (simp only [LF]; done) | (repeat (first | with_reducible assumption | apply Ext.refl | apply Ext.app | (apply Ext.set <;> omega) | (refine Ext.trans ?_ (by assumption))))) only [AX, TY, AD, mapPut, entsOf, oneV, builtinV, idsOf, mapId, touchB, Nat.reduceLT, Nat.reduceLeDiff, Nat.reduceEqDiff, Nat.reduceAdd, Nat.reduceMul, Int.reduceBEq, Int.reduceEq, Int.reduceNeg, Int.reduceLT, Int.reduceLE, Int.reduceAdd, Int.reduceSub, Int.reduceMul, Int.reduceToNat, Int.reduceGT, Nat.reduceBEq, Nat.reducePow, Nat.reduceGT, reduceCtorEq, ↓reduceIte, t0, t1, t2, t3, t8, t9]
    refine W.drawn [(0, []), (1, [0]), (2, []), (3, []), (4, []), (5, [4]), (6, [5, 4]), (7, [4]), (8, [4]), (9, [8, 7, 6, 5, 4]), (10, [9, 8, 7, 6, 5, 4]), (11, [9, 8, 7, 6, 5, 4]), (12, [8, 7, 6, 5, 4]), (13, [8, 7, 6, 5, 4]), (14, []), (15, []), (16, [])] (by decide +kernel) ?_
    have hd := hins.done leV_tr haj hji hjl (.inl (by omega))
    simp -dsimp (disch := first | with_reducible assumption | omega | (intro h_; cases h_; done) | (simp only [LN] <;> omega) | (simp only [LF]; done) | (repeat (first | with_reducible assumption | apply Ext.refl | apply Ext.app | (apply Ext.set <;> omega) | (refine Ext.trans ?_ (by assumption))))) only [AX, TY, AD, mapPut, entsOf, oneV, builtinV, idsOf, mapId, touchB, Nat.reduceLT, Nat.reduceLeDiff, Nat.reduceEqDiff, Nat.reduceAdd, Nat.reduceMul, Int.reduceBEq, Int.reduceEq, Int.reduceNeg, Int.reduceLT, Int.reduceLE, Int.reduceAdd, Int.reduceSub, Int.reduceMul, Int.reduceToNat, Int.reduceGT, Nat.reduceBEq, Nat.reducePow, Nat.reduceGT, reduceCtorEq, ↓reduceIte, t0, t1, t2, t3, t8, t9, hj0, wrap_in]
    refine ⟨e + 1 - (i + 1), by omega, i + 1, zs, ?_⟩
    repeat' (first | assumption | refine And.intro ?_ ?_)
    all_goals first | rfl | omega | (simp; done) | (simp; omega; done) | skip
  have hjl1 : m2 - 1 < zs.length := by omega
  have hla := gk.gr.sl.load0 (.refl _) hjl (m := 5) (by decide)
  have hlb := gk.gr.sl.load0 (.refl _) hjl1 (m := 5) (by decide)
  have ga := List.getElem?_eq_getElem hjl
  have gb := List.getElem?_eq_getElem hjl1
  have hw : IntKind.i64.wrap ((m2 : Int) - 1) = ((m2 - 1 : Nat) : Int) := by rw [IntKind.wrap_i64]; omega
  have hn : p = none → ys.length = 0 := fun e => by rw [← hzl]; exact gk.gr.sl.nil' e
  have hi1' : (m2 : Int) < (ys.length : Int) := by omega
  have hi2' : ((m2 - 1 : Nat) : Int) < (ys.length : Int) := by omega
  have hlt := gk.gr.sl.ld
  have hby : ∀ hq, WR (callE Tryz.prog hk 33 [.agg (Ver.enc zs[m2]), .agg (Ver.enc zs[m2 - 1])] hq) fun r h' => Ext hq h' ∧ r = .int .i64 (Ver.cmp zs[m2] zs[m2 - 1]) := fun hq => byID_ok _ _
  have tk : ∀ v : Ver, v.enc.take 5 = v.enc := fun _ => rfl
  rw [tk] at hla hlb
  by_cases hc : Ver.cmp zs[m2] zs[m2 - 1] < 0
  rotate_left
  · have hd := hins.done leV_tr haj hji hjl (.inr fun x y hx hy => by rw [gb] at hx; rw [ga] at hy; cases hx; cases hy; exact leV_of_ge hc)
    simp -dsimp (disch := first | with_reducible assumption | omega | (intro h_; cases h_; done) | (simp only [LN] <;> omega) | (simp only [LF]; done) | (repeat (first | with_reducible assumption | apply Ext.refl | apply Ext.app | (apply Ext.set <;> omega) | (refine Ext.trans ?_ (by assumption))))) only [AX, TY, AD, mapPut, entsOf, oneV, builtinV, idsOf, mapId, touchB, Nat.reduceLT, Nat.reduceLeDiff, Nat.reduceEqDiff, Nat.reduceAdd, Nat.reduceMul, Int.reduceBEq, Int.reduceEq, Int.reduceNeg, Int.reduceLT, Int.reduceLE, Int.reduceAdd, Int.reduceSub, Int.reduceMul, Int.reduceToNat, Int.reduceGT, Nat.reduceBEq, Nat.reducePow, Nat.reduceGT, reduceCtorEq, ↓reduceIte, t0, t1, t2, t3, t8, t9]
    refine W.drawn [(0, []), (1, [0]), (2, []), (3, []), (4, []), (5, [4]), (6, [5, 4]), (7, [4]), (8, [4]), (9, [8, 7, 6, 5, 4]), (10, [9, 8, 7, 6, 5, 4]), (11, [9, 8, 7, 6, 5, 4]), (12, [8, 7, 6, 5, 4]), (13, [8, 7, 6, 5, 4]), (14, []), (15, []), (16, [])] (by decide +kernel) ?_
    simp -dsimp (disch := first | with_reducible assumption | omega | (intro h_; cases h_; done) | (simp only [LN] <;> omega) | (simp only [LF]; done) | (repeat (first | with_reducible assumption | apply Ext.refl | apply Ext.app | (apply Ext.set <;> omega) | (refine Ext.trans ?_ (by assumption))))) only [AX, TY, AD, mapPut, entsOf, oneV, builtinV, idsOf, mapId, touchB, Nat.reduceLT, Nat.reduceLeDiff, Nat.reduceEqDiff, Nat.reduceAdd, Nat.reduceMul, Int.reduceBEq, Int.reduceEq, Int.reduceNeg, Int.reduceLT, Int.reduceLE, Int.reduceAdd, Int.reduceSub, Int.reduceMul, Int.reduceToNat, Int.reduceGT, Nat.reduceBEq, Nat.reducePow, Nat.reduceGT, reduceCtorEq, ↓reduceIte, t0, t1, t2, t3, t8, t9, hj0, hw, hi1', hi2', hla, hlb]
    refine (hby _).mono ?_
    rintro _ h3 ⟨e3, rfl⟩
    have gk3 := gk.ext e3
    simp -dsimp (disch := first | with_reducible assumption | omega | (intro h_; cases h_; done) | (simp only [LN] <;> omega) | (simp only [LF]; done) | (repeat (first | with_reducible assumption | apply Ext.refl | apply Ext.app | (apply Ext.set <;> omega) | (refine Ext.trans ?_ (by assumption))))) only [AX, TY, AD, mapPut, entsOf, oneV, builtinV, idsOf, mapId, touchB, Nat.reduceLT, Nat.reduceLeDiff, Nat.reduceEqDiff, Nat.reduceAdd, Nat.reduceMul, Int.reduceBEq, Int.reduceEq, Int.reduceNeg, Int.reduceLT, Int.reduceLE, Int.reduceAdd, Int.reduceSub, Int.reduceMul, Int.reduceToNat, Int.reduceGT, Nat.reduceBEq, Nat.reducePow, Nat.reduceGT, reduceCtorEq, ↓reduceIte, t0, t1, t2, t3, t8, t9, hc, wrap_in]
    refine ⟨e + 1 - (i + 1), by omega, i + 1, zs, ?_⟩
    repeat' (first | assumption | refine And.intro ?_ ?_)
    all_goals first | rfl | omega | (simp; done) | (simp; omega; done) | skip
  have hns := hins.swap (by omega) hji hjl fun x y hx hy => by rw [ga] at hx; rw [gb] at hy; cases hx; cases hy; exact leV_of_lt hc
  have hch2 := hch.trans (sw_ch (a := a) (b := e) hjl hjl1 (by omega) (by omega) (by omega) (by omega))
  simp -dsimp (disch := first | with_reducible assumption | omega | (intro h_; cases h_; done) | (simp only [LN] <;> omega) | (simp only [LF]; done) | (repeat (first | with_reducible assumption | apply Ext.refl | apply Ext.app | (apply Ext.set <;> omega) | (refine Ext.trans ?_ (by assumption))))) only [AX, TY, AD, mapPut, entsOf, oneV, builtinV, idsOf, mapId, touchB, Nat.reduceLT, Nat.reduceLeDiff, Nat.reduceEqDiff, Nat.reduceAdd, Nat.reduceMul, Int.reduceBEq, Int.reduceEq, Int.reduceNeg, Int.reduceLT, Int.reduceLE, Int.reduceAdd, Int.reduceSub, Int.reduceMul, Int.reduceToNat, Int.reduceGT, Nat.reduceBEq, Nat.reducePow, Nat.reduceGT, reduceCtorEq, ↓reduceIte, t0, t1, t2, t3, t8, t9]
  refine W.drawn [(0, []), (1, [0]), (2, []), (3, []), (4, []), (5, [4]), (6, [5, 4]), (7, [4]), (8, [4]), (9, [8, 7, 6, 5, 4]), (10, [9, 8, 7, 6, 5, 4]), (11, [9, 8, 7, 6, 5, 4]), (12, [8, 7, 6, 5, 4]), (13, [8, 7, 6, 5, 4]), (14, []), (15, []), (16, [])] (by decide +kernel) ?_
  simp -dsimp (disch := first | with_reducible assumption | omega | (intro h_; cases h_; done) | (simp only [LN] <;> omega) | (simp only [LF]; done) | (repeat (first | with_reducible assumption | apply Ext.refl | apply Ext.app | (apply Ext.set <;> omega) | (refine Ext.trans ?_ (by assumption))))) only [AX, TY, AD, mapPut, entsOf, oneV, builtinV, idsOf, mapId, touchB, Nat.reduceLT, Nat.reduceLeDiff, Nat.reduceEqDiff, Nat.reduceAdd, Nat.reduceMul, Int.reduceBEq, Int.reduceEq, Int.reduceNeg, Int.reduceLT, Int.reduceLE, Int.reduceAdd, Int.reduceSub, Int.reduceMul, Int.reduceToNat, Int.reduceGT, Nat.reduceBEq, Nat.reducePow, Nat.reduceGT, reduceCtorEq, ↓reduceIte, t0, t1, t2, t3, t8, t9, hj0, hw, hi1', hi2', hla, hlb]
  refine (hby _).mono ?_
  rintro _ h3 ⟨e3, rfl⟩
  have gk3 := gk.ext e3
  obtain ⟨h5, h6, hst, hst2, gk6, hl5, hl6⟩ := gk3.swap hjl hjl1
  have hla3 := gk3.gr.sl.load0 (.refl _) hjl (m := 5) (by decide)
  have hlb3 := gk3.gr.sl.load0 (.refl _) hjl1 (m := 5) (by decide)
  rw [tk] at hla3 hlb3
  have hf1 : ∀ v : Ver, (V.agg v.enc).flat = v.enc := fun _ => rfl
  have hf2 : ∀ v : Ver, v.enc.length = 5 := fun _ => rfl
  simp -dsimp (disch := first | with_reducible assumption | omega | (intro h_; cases h_; done) | (simp only [LN] <;> omega) | (simp only [LF]; done) | (repeat (first | with_reducible assumption | apply Ext.refl | apply Ext.app | (apply Ext.set <;> omega) | (refine Ext.trans ?_ (by assumption))))) only [AX, TY, AD, mapPut, entsOf, oneV, builtinV, idsOf, mapId, touchB, Nat.reduceLT, Nat.reduceLeDiff, Nat.reduceEqDiff, Nat.reduceAdd, Nat.reduceMul, Int.reduceBEq, Int.reduceEq, Int.reduceNeg, Int.reduceLT, Int.reduceLE, Int.reduceAdd, Int.reduceSub, Int.reduceMul, Int.reduceToNat, Int.reduceGT, Nat.reduceBEq, Nat.reducePow, Nat.reduceGT, reduceCtorEq, ↓reduceIte, t0, t1, t2, t3, t8, t9, hc]
  refine W.drawn [(0, []), (1, [0]), (2, [1, 0]), (3, [2, 1, 0]), (4, [2, 1, 0]), (5, [4, 3, 2, 1, 0]), (6, [5, 4, 3, 2, 1, 0]), (7, [5, 4, 3, 2, 1, 0]), (8, [4, 3, 2, 1, 0]), (9, [4, 3, 2, 1, 0]), (10, [9, 8, 7, 6, 5, 4, 3, 2, 1, 0]), (11, [10, 9, 8, 7, 6, 5, 4, 3, 2, 1, 0]), (12, [9, 8, 7, 6, 5, 4, 3, 2, 1, 0]), (13, [9, 8, 7, 6, 5, 4, 3, 2, 1, 0]), (14, [4, 3, 2]), (15, [4, 3, 2]), (16, []), (17, [])] (by decide +kernel) ?_
  simp -dsimp (disch := first | with_reducible assumption | omega | (intro h_; cases h_; done) | (simp only [LN] <;> omega) | (simp only [LF]; done) | (repeat (first | with_reducible assumption | apply Ext.refl | apply Ext.app | (apply Ext.set <;> omega) | (refine Ext.trans ?_ (by assumption))))) only [AX, TY, AD, mapPut, entsOf, oneV, builtinV, idsOf, mapId, touchB, Nat.reduceLT, Nat.reduceLeDiff, Nat.reduceEqDiff, Nat.reduceAdd, Nat.reduceMul, Int.reduceBEq, Int.reduceEq, Int.reduceNeg, Int.reduceLT, Int.reduceLE, Int.reduceAdd, Int.reduceSub, Int.reduceMul, Int.reduceToNat, Int.reduceGT, Nat.reduceBEq, Nat.reducePow, Nat.reduceGT, reduceCtorEq, ↓reduceIte, t0, t1, t2, t3, t8, t9, hw, hi1', hi2', hla3, hlb3, hst, hst2, hf1, hf2]
  refine ⟨m2 - 1, by omega, m2 - 1, sw zs m2 (m2 - 1), ?_⟩
  repeat' (first | assumption | refine And.intro ?_ ?_)
  all_goals first | rfl | omega | (simp; done) | (simp; omega; done) | skip
end Go.Proofs.YtcaolnmpldbkjaaGreatA
namespace Go.Proofs.YtcaolnmpldbkjaaGreatA
open Go Go.Proofs Go.RowKit
set_option linter.unusedVariables false
set_option linter.unusedSimpArgs false
set_option maxRecDepth 10000
set_option maxHeartbeats 4000000
def swr (a e n k : Nat) : Nat := if a ≤ k ∧ k < a + n then k + (e - a) else if e ≤ k ∧ k < e + n then k - (e - a) else k
theorem swr_zero (a e k : Nat) : swr a e 0 k = k := by unfold swr; rw [if_neg (by omega), if_neg (by omega)]
theorem swr_succ {ys zs : List Ver} {a e i : Nat} (h1 : a + i < e) (h2 : e + i < zs.length) (hz : ∀ k, zs[k]? = ys[swr a e i k]?) (k : Nat) : (sw zs (a + i) (e + i))[k]? = ys[swr a e (i + 1) k]? := by
  rw [sw_get (by omega) h2]
  by_cases c1 : k = e + i
  · rw [if_pos c1, hz]
    congr 1
    unfold swr
    rw [if_neg (by omega), if_neg (by omega), if_neg (by omega), if_pos (by omega)]; omega
  · rw [if_neg c1]
    by_cases c2 : k = a + i
    · rw [if_pos c2, hz]
      congr 1
      unfold swr
      rw [if_neg (by omega), if_neg (by omega), if_pos (by omega)]; omega
    · rw [if_neg c2, hz]
      congr 1
      unfold swr
      repeat' split
      all_goals omega
theorem swr_ok {b : Nat} {h : Heap} {p : Option (Nat × Nat)} {c oid : Option Nat} {ys : List Ver} (g : Gr b h p c oid 5 Ver.enc ys) (hB : ys.length ≤ 100000) {a e n : Nat} (h1 : a + n ≤ e) (h2 : e + n ≤ ys.length) (f : V) :
    WR (callE Tryz.prog hk 136 [.slice p ys.length c, .int .i64 a, .int .i64 e, .int .i64 n, f] h) fun r h' => ∃ zs, zs.Perm ys ∧ (∀ k, zs[k]? = ys[swr a e n k]?) ∧ GK b h p c oid zs h' := by
  have hl := g.sl.small
  refine WR.call (hH := rfl) Tryz.func136 rfl (n := 38) rfl rfl (by simp) ?_
  simp -dsimp (disch := first | with_reducible assumption | omega | (intro h_; cases h_; done) | (simp only [LN] <;> omega) | (simp only [LF]; done) | (repeat (first | with_reducible assumption | apply Ext.refl | apply Ext.app | (apply Ext.set <;> omega) | (refine Ext.trans ?_ (by assumption))))) only [AX, TY, AD, mapPut, entsOf, oneV, builtinV, idsOf, mapId, touchB, Nat.reduceLT, Nat.reduceLeDiff, Nat.reduceEqDiff, Nat.reduceAdd, Nat.reduceMul, Int.reduceBEq, Int.reduceEq, Int.reduceNeg, Int.reduceLT, Int.reduceLE, Int.reduceAdd, Int.reduceSub, Int.reduceMul, Int.reduceToNat, Int.reduceGT, Nat.reduceBEq, Nat.reducePow, Nat.reduceGT, reduceCtorEq, ↓reduceIte]
  refine W.loop (fun m τ hh => ∃ (i : Nat) (zs : List Ver), m + i = n ∧ τ 0 = .slice p ys.length c ∧ τ 1 = .int .i64 a ∧ τ 2 = .int .i64 e ∧ τ 3 = .int .i64 n ∧ τ 10 = .int .i64 i ∧ zs.Perm ys ∧ (∀ k, zs[k]? = ys[swr a e i k]?) ∧ GK b h p c oid zs hh) ?_ (m := n) ?_
  rotate_left
  · refine ⟨0, ys, rfl, ?_⟩
    have h0 : ∀ k, ys[k]? = ys[swr a e 0 k]? := fun k => by rw [swr_zero]
    have h2 := GK.refl g
    simp -dsimp (disch := first | with_reducible assumption | omega | (intro h_; cases h_; done) | (simp only [LN] <;> omega) | (simp only [LF]; done) | (repeat (first | with_reducible assumption | apply Ext.refl | apply Ext.app | (apply Ext.set <;> omega) | (refine Ext.trans ?_ (by assumption))))) only [AX, TY, AD, mapPut, entsOf, oneV, builtinV, idsOf, mapId, touchB, Nat.reduceLT, Nat.reduceLeDiff, Nat.reduceEqDiff, Nat.reduceAdd, Nat.reduceMul, Int.reduceBEq, Int.reduceEq, Int.reduceNeg, Int.reduceLT, Int.reduceLE, Int.reduceAdd, Int.reduceSub, Int.reduceMul, Int.reduceToNat, Int.reduceGT, Nat.reduceBEq, Nat.reducePow, Nat.reduceGT, reduceCtorEq, ↓reduceIte]
    repeat' (first | assumption | refine And.intro ?_ ?_)
    all_goals first | rfl | omega | (simp; done) | (simp; omega; done) | skip
  rintro m τ hh ⟨i, zs, hm, t0, t1, t2, t3, t10, hp, hz, gk⟩
  have hzl := hp.length_eq
  by_cases c1 : (i : Int) < (n : Int)
  rotate_left
  · simp -dsimp (disch := first | with_reducible assumption | omega | (intro h_; cases h_; done) | (simp only [LN] <;> omega) | (simp only [LF]; done) | (repeat (first | with_reducible assumption | apply Ext.refl | apply Ext.app | (apply Ext.set <;> omega) | (refine Ext.trans ?_ (by assumption))))) only [AX, TY, AD, mapPut, entsOf, oneV, builtinV, idsOf, mapId, touchB, Nat.reduceLT, Nat.reduceLeDiff, Nat.reduceEqDiff, Nat.reduceAdd, Nat.reduceMul, Int.reduceBEq, Int.reduceEq, Int.reduceNeg, Int.reduceLT, Int.reduceLE, Int.reduceAdd, Int.reduceSub, Int.reduceMul, Int.reduceToNat, Int.reduceGT, Nat.reduceBEq, Nat.reducePow, Nat.reduceGT, reduceCtorEq, ↓reduceIte, t0, t1, t2, t3, t10, c1]
    have : i = n := by omega
    subst this
    exact ⟨zs, hp, hz, gk⟩
  have hil : a + i < zs.length := by omega
  have hjl : e + i < zs.length := by omega
  have hla := gk.gr.sl.load0 (.refl _) hil (m := 5) (by decide)
  have hlb := gk.gr.sl.load0 (.refl _) hjl (m := 5) (by decide)
  have tk : ∀ v : Ver, v.enc.take 5 = v.enc := fun _ => rfl
  rw [tk] at hla hlb
  have hf1 : ∀ v : Ver, (V.agg v.enc).flat = v.enc := fun _ => rfl
  have hf2 : ∀ v : Ver, v.enc.length = 5 := fun _ => rfl
  have hw1 : IntKind.i64.wrap ((a : Int) + (i : Int)) = ((a + i : Nat) : Int) := by rw [IntKind.wrap_i64]; omega
  have hw2 : IntKind.i64.wrap ((e : Int) + (i : Int)) = ((e + i : Nat) : Int) := by rw [IntKind.wrap_i64]; omega
  have hn : p = none → ys.length = 0 := fun q => by rw [← hzl]; exact gk.gr.sl.nil' q
  have hi1' : ((a + i : Nat) : Int) < (ys.length : Int) := by omega
  have hi2' : ((e + i : Nat) : Int) < (ys.length : Int) := by omega
  obtain ⟨h5, h6, hst, hst2, gk6, hl5, hl6⟩ := gk.swap hil hjl
  have hp2 := (sw_perm zs (a + i) (e + i)).trans hp
  have hz2 := fun k => swr_succ (k := k) (by omega) hjl hz
  simp -dsimp (disch := first | with_reducible assumption | omega | (intro h_; cases h_; done) | (simp only [LN] <;> omega) | (simp only [LF]; done) | (repeat (first | with_reducible assumption | apply Ext.refl | apply Ext.app | (apply Ext.set <;> omega) | (refine Ext.trans ?_ (by assumption))))) only [AX, TY, AD, mapPut, entsOf, oneV, builtinV, idsOf, mapId, touchB, Nat.reduceLT, Nat.reduceLeDiff, Nat.reduceEqDiff, Nat.reduceAdd, Nat.reduceMul, Int.reduceBEq, Int.reduceEq, Int.reduceNeg, Int.reduceLT, Int.reduceLE, Int.reduceAdd, Int.reduceSub, Int.reduceMul, Int.reduceToNat, Int.reduceGT, Nat.reduceBEq, Nat.reducePow, Nat.reduceGT, reduceCtorEq, ↓reduceIte, t0, t1, t2, t3, t10, c1]
  refine W.drawn [(0, []), (1, [0]), (2, [1, 0]), (3, [0]), (4, [3, 2, 1, 0]), (5, [4, 3, 2, 1, 0]), (6, [5, 4, 3, 2, 1, 0]), (7, [4, 3, 2, 1, 0]), (8, [7, 6, 5, 4, 3, 2, 1, 0]), (9, [8, 7, 6, 5, 4, 3, 2, 1, 0]), (10, [9, 8, 7, 6, 5, 4, 3, 2, 1, 0]), (11, [8, 7, 6, 5, 4, 3, 2, 1, 0]), (12, [7, 6, 5, 4, 3, 2, 1, 0]), (13, [7, 6, 5, 4, 3, 2, 1, 0]), (14, [13, 12, 11, 10, 9, 8, 7, 6, 5, 4, 3, 2, 1, 0]), (15, [14, 13, 12, 11, 10, 9, 8, 7, 6, 5, 4, 3, 2, 1, 0]), (16, [15, 14, 13, 12, 11, 10, 9, 8, 7, 6, 5, 4, 3, 2, 1, 0]), (17, [14, 13, 12, 11, 10, 9, 8, 7, 6, 5, 4, 3, 2, 1, 0]), (18, [13, 12, 11, 10, 9, 8, 7, 6, 5, 4, 3, 2, 1, 0]), (19, [13, 12, 11, 10, 9, 8, 7, 6, 5, 4, 3, 2, 1, 0]), (20, [7, 6, 5, 4]), (21, [7, 6, 5, 4]), (22, []), (23, [])] (by decide +kernel) ?_
  simp -dsimp (disch := first | with_reducible assumption | omega | (intro h_; cases h_; done) | (simp only [LN] <;> omega) | (simp only [LF]; done) | (repeat (first | with_reducible assumption | apply Ext.refl | apply Ext.app | (apply Ext.set <;> omega) | (refine Ext.trans ?_ (by assumption))))) only [AX, TY, AD, mapPut, entsOf, oneV, builtinV, idsOf, mapId, touchB, Nat.reduceLT, Nat.reduceLeDiff, Nat.reduceEqDiff, Nat.reduceAdd, Nat.reduceMul, Int.reduceBEq, Int.reduceEq, Int.reduceNeg, Int.reduceLT, Int.reduceLE, Int.reduceAdd, Int.reduceSub, Int.reduceMul, Int.reduceToNat, Int.reduceGT, Nat.reduceBEq, Nat.reducePow, Nat.reduceGT, reduceCtorEq, ↓reduceIte, t0, t1, t2, t3, t10, hw1, hw2, hi1', hi2', hla, hlb, hst, hst2, hf1, hf2, wrap_in]
  refine ⟨m - 1, by omega, i + 1, sw zs (a + i) (e + i), ?_⟩
  repeat' (first | assumption | refine And.intro ?_ ?_)
  all_goals first | rfl | omega | (simp; done) | (simp; omega; done) | skip
theorem rot_step1 {m i j k : Nat} (h1 : j ≤ i) (h2 : i ≤ m) (h0 : 1 ≤ j) (h3 : j < i) : swr (m - i) m j (rot (m - (i - j)) m (m + j) k) = rot (m - i) m (m + j) k := by
  unfold rot swr
  repeat' split
  all_goals omega
theorem rot_step2 {m i j k : Nat} (h2 : i ≤ m) (h0 : 1 ≤ i) (h3 : i < j) : swr (m - i) (m + j - i) i (rot (m - i) m (m + (j - i)) k) = rot (m - i) m (m + j) k := by
  unfold rot swr
  repeat' split
  all_goals omega
theorem rot_end {m i k : Nat} (h2 : i ≤ m) : swr (m - i) m i k = rot (m - i) m (m + i) k := by
  unfold rot swr
  repeat' split
  all_goals omega
theorem rot_ok {b : Nat} {h : Heap} {p : Option (Nat × Nat)} {c oid : Option Nat} {ys : List Ver} (g : Gr b h p c oid 5 Ver.enc ys) (hB : ys.length ≤ 100000) {a m e : Nat} (h1 : a < m) (h2 : m < e) (h3 : e ≤ ys.length) (f : V) :
    WR (callE Tryz.prog hk 111 [.slice p ys.length c, .int .i64 a, .int .i64 m, .int .i64 e, f] h) fun r h' => ∃ zs, Rot ys zs a m e ∧ GK b h p c oid zs h' := by
  have hl := g.sl.small
  refine WR.call (hH := rfl) Tryz.func111 rfl (n := 58) rfl rfl (by simp) ?_
  have hw1 : IntKind.i64.wrap ((m : Int) - (a : Int)) = ((m - a : Nat) : Int) := by rw [IntKind.wrap_i64]; omega
  have hw2 : IntKind.i64.wrap ((e : Int) - (m : Int)) = ((e - m : Nat) : Int) := by rw [IntKind.wrap_i64]; omega
  simp -dsimp (disch := first | with_reducible assumption | omega | (intro h_; cases h_; done) | (simp only [LN] <;> omega) | (simp only [LF]; done) | (repeat (first | with_reducible assumption | apply Ext.refl | apply Ext.app | (apply Ext.set <;> omega) | (refine Ext.trans ?_ (by assumption))))) only [AX, TY, AD, mapPut, entsOf, oneV, builtinV, idsOf, mapId, touchB, Nat.reduceLT, Nat.reduceLeDiff, Nat.reduceEqDiff, Nat.reduceAdd, Nat.reduceMul, Int.reduceBEq, Int.reduceEq, Int.reduceNeg, Int.reduceLT, Int.reduceLE, Int.reduceAdd, Int.reduceSub, Int.reduceMul, Int.reduceToNat, Int.reduceGT, Nat.reduceBEq, Nat.reducePow, Nat.reduceGT, reduceCtorEq, ↓reduceIte, hw1, hw2]
  refine W.loop (fun n τ hh => ∃ (i j : Nat) (zs : List Ver), n = i + j ∧ 1 ≤ i ∧ 1 ≤ j ∧ i ≤ m - a ∧ j ≤ e - m ∧ τ 0 = .slice p ys.length c ∧ τ 2 = .int .i64 m ∧ τ 4 = f ∧ τ 10 = .int .i64 i ∧ τ 11 = .int .i64 j ∧ zs.Perm ys ∧ (∀ k, zs[rot (m - i) m (m + j) k]? = ys[rot a m e k]?) ∧ GK b h p c oid zs hh) ?_ (m := (m - a) + (e - m)) ?_
  rotate_left
  · refine ⟨m - a, e - m, ys, rfl, by omega, by omega, Nat.le_refl _, Nat.le_refl _, ?_⟩
    have h0 : ∀ k, ys[rot (m - (m - a)) m (m + (e - m)) k]? = ys[rot a m e k]? := fun k => by rw [show m - (m - a) = a by omega, show m + (e - m) = e by omega]
    have h2 := GK.refl g
    simp -dsimp (disch := first | with_reducible assumption | omega | (intro h_; cases h_; done) | (simp only [LN] <;> omega) | (simp only [LF]; done) | (repeat (first | with_reducible assumption | apply Ext.refl | apply Ext.app | (apply Ext.set <;> omega) | (refine Ext.trans ?_ (by assumption))))) only [AX, TY, AD, mapPut, entsOf, oneV, builtinV, idsOf, mapId, touchB, Nat.reduceLT, Nat.reduceLeDiff, Nat.reduceEqDiff, Nat.reduceAdd, Nat.reduceMul, Int.reduceBEq, Int.reduceEq, Int.reduceNeg, Int.reduceLT, Int.reduceLE, Int.reduceAdd, Int.reduceSub, Int.reduceMul, Int.reduceToNat, Int.reduceGT, Nat.reduceBEq, Nat.reducePow, Nat.reduceGT, reduceCtorEq, ↓reduceIte]
    repeat' (first | assumption | refine And.intro ?_ ?_)
    all_goals first | rfl | omega | (simp; done) | (simp; omega; done) | skip
  rintro n τ hh ⟨i, j, zs, rfl, hi1, hj1, hi2, hj2, t0, t2, t4, t10, t11, hp, hz, gk⟩
  have hzl := hp.length_eq
  have hw3 : IntKind.i64.wrap ((m : Int) - (i : Int)) = ((m - i : Nat) : Int) := by rw [IntKind.wrap_i64]; omega
  by_cases c1 : (i : Int) = (j : Int)
  · have hs := swr_ok gk.gr (by omega) (a := m - i) (e := m) (n := i) (by omega) (by omega) f
    rw [hzl] at hs
    simp -dsimp (disch := first | with_reducible assumption | omega | (intro h_; cases h_; done) | (simp only [LN] <;> omega) | (simp only [LF]; done) | (repeat (first | with_reducible assumption | apply Ext.refl | apply Ext.app | (apply Ext.set <;> omega) | (refine Ext.trans ?_ (by assumption))))) only [AX, TY, AD, mapPut, entsOf, oneV, builtinV, idsOf, mapId, touchB, Nat.reduceLT, Nat.reduceLeDiff, Nat.reduceEqDiff, Nat.reduceAdd, Nat.reduceMul, Int.reduceBEq, Int.reduceEq, Int.reduceNeg, Int.reduceLT, Int.reduceLE, Int.reduceAdd, Int.reduceSub, Int.reduceMul, Int.reduceToNat, Int.reduceGT, Nat.reduceBEq, Nat.reducePow, Nat.reduceGT, reduceCtorEq, ↓reduceIte, t0, t2, t4, t10, t11, c1]
    rw [← c1]
    simp -dsimp (disch := first | with_reducible assumption | omega | (intro h_; cases h_; done) | (simp only [LN] <;> omega) | (simp only [LF]; done) | (repeat (first | with_reducible assumption | apply Ext.refl | apply Ext.app | (apply Ext.set <;> omega) | (refine Ext.trans ?_ (by assumption))))) only [AX, TY, AD, mapPut, entsOf, oneV, builtinV, idsOf, mapId, touchB, Nat.reduceLT, Nat.reduceLeDiff, Nat.reduceEqDiff, Nat.reduceAdd, Nat.reduceMul, Int.reduceBEq, Int.reduceEq, Int.reduceNeg, Int.reduceLT, Int.reduceLE, Int.reduceAdd, Int.reduceSub, Int.reduceMul, Int.reduceToNat, Int.reduceGT, Nat.reduceBEq, Nat.reducePow, Nat.reduceGT, reduceCtorEq, ↓reduceIte, t0, t2, t4, t10, t11, hw3]
    refine hs.mono ?_
    rintro r h2 ⟨ws, hp2, hz2, gk2⟩
    simp -dsimp (disch := first | with_reducible assumption | omega | (intro h_; cases h_; done) | (simp only [LN] <;> omega) | (simp only [LF]; done) | (repeat (first | with_reducible assumption | apply Ext.refl | apply Ext.app | (apply Ext.set <;> omega) | (refine Ext.trans ?_ (by assumption))))) only [AX, TY, AD, mapPut, entsOf, oneV, builtinV, idsOf, mapId, touchB, Nat.reduceLT, Nat.reduceLeDiff, Nat.reduceEqDiff, Nat.reduceAdd, Nat.reduceMul, Int.reduceBEq, Int.reduceEq, Int.reduceNeg, Int.reduceLT, Int.reduceLE, Int.reduceAdd, Int.reduceSub, Int.reduceMul, Int.reduceToNat, Int.reduceGT, Nat.reduceBEq, Nat.reducePow, Nat.reduceGT, reduceCtorEq, ↓reduceIte]
    refine ⟨ws, ⟨hp2.trans hp, fun k => ?_⟩, gk.trans gk2⟩
    have : i = j := by omega
    subst this
    rw [hz2, rot_end (by omega), hz]
  by_cases c2 : (j : Int) < (i : Int)
  · have hs := swr_ok gk.gr (by omega) (a := m - i) (e := m) (n := j) (by omega) (by omega) f
    rw [hzl] at hs
    have hw4 : IntKind.i64.wrap ((i : Int) - (j : Int)) = ((i - j : Nat) : Int) := by rw [IntKind.wrap_i64]; omega
    simp -dsimp (disch := first | with_reducible assumption | omega | (intro h_; cases h_; done) | (simp only [LN] <;> omega) | (simp only [LF]; done) | (repeat (first | with_reducible assumption | apply Ext.refl | apply Ext.app | (apply Ext.set <;> omega) | (refine Ext.trans ?_ (by assumption))))) only [AX, TY, AD, mapPut, entsOf, oneV, builtinV, idsOf, mapId, touchB, Nat.reduceLT, Nat.reduceLeDiff, Nat.reduceEqDiff, Nat.reduceAdd, Nat.reduceMul, Int.reduceBEq, Int.reduceEq, Int.reduceNeg, Int.reduceLT, Int.reduceLE, Int.reduceAdd, Int.reduceSub, Int.reduceMul, Int.reduceToNat, Int.reduceGT, Nat.reduceBEq, Nat.reducePow, Nat.reduceGT, reduceCtorEq, ↓reduceIte, t0, t2, t4, t10, t11, c1, c2, hw3]
    refine hs.mono ?_
    rintro r h2 ⟨ws, hp2, hz2, gk2⟩
    have hp3 := hp2.trans hp
    have gk3 := gk.trans gk2
    have hz3 : ∀ k, ws[rot (m - (i - j)) m (m + j) k]? = ys[rot a m e k]? := fun k => by rw [hz2, rot_step1 (by omega) (by omega) hj1 (by omega), hz]
    simp -dsimp (disch := first | with_reducible assumption | omega | (intro h_; cases h_; done) | (simp only [LN] <;> omega) | (simp only [LF]; done) | (repeat (first | with_reducible assumption | apply Ext.refl | apply Ext.app | (apply Ext.set <;> omega) | (refine Ext.trans ?_ (by assumption))))) only [AX, TY, AD, mapPut, entsOf, oneV, builtinV, idsOf, mapId, touchB, Nat.reduceLT, Nat.reduceLeDiff, Nat.reduceEqDiff, Nat.reduceAdd, Nat.reduceMul, Int.reduceBEq, Int.reduceEq, Int.reduceNeg, Int.reduceLT, Int.reduceLE, Int.reduceAdd, Int.reduceSub, Int.reduceMul, Int.reduceToNat, Int.reduceGT, Nat.reduceBEq, Nat.reducePow, Nat.reduceGT, reduceCtorEq, ↓reduceIte, t0, t2, t4, t10, t11, hw4]
    refine ⟨(i - j) + j, by omega, i - j, j, ws, rfl, ?_⟩
    repeat' (first | assumption | refine And.intro ?_ ?_)
    all_goals first | rfl | omega | (simp; done) | (simp; omega; done) | skip
  · have hs := swr_ok gk.gr (by omega) (a := m - i) (e := m + j - i) (n := i) (by omega) (by omega) f
    rw [hzl] at hs
    have hw4 : IntKind.i64.wrap ((j : Int) - (i : Int)) = ((j - i : Nat) : Int) := by rw [IntKind.wrap_i64]; omega
    have hw5 : IntKind.i64.wrap ((m : Int) + (j : Int)) = ((m + j : Nat) : Int) := by rw [IntKind.wrap_i64]; omega
    have hw6 : IntKind.i64.wrap (((m + j : Nat) : Int) - (i : Int)) = ((m + j - i : Nat) : Int) := by rw [IntKind.wrap_i64]; omega
    simp -dsimp (disch := first | with_reducible assumption | omega | (intro h_; cases h_; done) | (simp only [LN] <;> omega) | (simp only [LF]; done) | (repeat (first | with_reducible assumption | apply Ext.refl | apply Ext.app | (apply Ext.set <;> omega) | (refine Ext.trans ?_ (by assumption))))) only [AX, TY, AD, mapPut, entsOf, oneV, builtinV, idsOf, mapId, touchB, Nat.reduceLT, Nat.reduceLeDiff, Nat.reduceEqDiff, Nat.reduceAdd, Nat.reduceMul, Int.reduceBEq, Int.reduceEq, Int.reduceNeg, Int.reduceLT, Int.reduceLE, Int.reduceAdd, Int.reduceSub, Int.reduceMul, Int.reduceToNat, Int.reduceGT, Nat.reduceBEq, Nat.reducePow, Nat.reduceGT, reduceCtorEq, ↓reduceIte, t0, t2, t4, t10, t11, c1, c2, hw3, hw5, hw6]
    refine hs.mono ?_
    rintro r h2 ⟨ws, hp2, hz2, gk2⟩
    have hp3 := hp2.trans hp
    have gk3 := gk.trans gk2
    have hz3 : ∀ k, ws[rot (m - i) m (m + (j - i)) k]? = ys[rot a m e k]? := fun k => by rw [hz2, rot_step2 (by omega) hi1 (by omega), hz]
    simp -dsimp (disch := first | with_reducible assumption | omega | (intro h_; cases h_; done) | (simp only [LN] <;> omega) | (simp only [LF]; done) | (repeat (first | with_reducible assumption | apply Ext.refl | apply Ext.app | (apply Ext.set <;> omega) | (refine Ext.trans ?_ (by assumption))))) only [AX, TY, AD, mapPut, entsOf, oneV, builtinV, idsOf, mapId, touchB, Nat.reduceLT, Nat.reduceLeDiff, Nat.reduceEqDiff, Nat.reduceAdd, Nat.reduceMul, Int.reduceBEq, Int.reduceEq, Int.reduceNeg, Int.reduceLT, Int.reduceLE, Int.reduceAdd, Int.reduceSub, Int.reduceMul, Int.reduceToNat, Int.reduceGT, Nat.reduceBEq, Nat.reducePow, Nat.reduceGT, reduceCtorEq, ↓reduceIte, t0, t2, t4, t10, t11, hw4]
    refine ⟨i + (j - i), by omega, i, j - i, ws, rfl, ?_⟩
    repeat' (first | assumption | refine And.intro ?_ ?_)
    all_goals first | rfl | omega | (simp; done) | (simp; omega; done) | skip
end Go.Proofs.YtcaolnmpldbkjaaGreatA
