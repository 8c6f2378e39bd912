/- Words of this session: code that ranges over a map: what holds from every world that the second reading's state stands for, in whatever order the entries come. -/
import Derived.Test.YtmjfhckioaempaaAx23
import Derived.Maps.RangeRun
namespace Go.Proofs.YtmjfhckioaempaaA
open Go Go.RowKit
open Go.ChangeMaps (setBlock)
set_option linter.unusedVariables false
set_option linter.unusedSimpArgs false

def exitOf : Ex → Exit
  | .norm => .normal
  | .ret => .ret
  | .exit i => .exit i
/-- No name from here on is taken. -/
def FreeAll (ι : Mp) (h : Heap) : Prop := ∀ id, h.length ≤ id → ι id = none
theorem Stp.freeAll {ι κ : Mp} {h h' : Heap} {w w' : World} (s : Stp ι h w κ h' w') (hf : FreeAll ι h) : FreeAll κ h' := fun id a => by
  cases hq : κ id with
  | none => rfl
  | some pl => rcases s.fresh id pl hq with x | ⟨_, x⟩
               · rw [hf id (Nat.le_trans s.len a)] at x; cases x
               · omega
theorem FreeAll.free {ι : Mp} {h : Heap} (f : FreeAll ι h) (n : Nat) : Free ι h.length n := fun id a _ => f id a
section
variable (P : Program) (n : Nat)
/-- What must hold ahead of a code, said of the model: from every world that the state stands for. -/
def SW (c : Code) (Q : Post) (τ : Tp) (h : Heap) (_ : Tag c := ⟨⟩) (_ : Tag Q := ⟨⟩) : Prop :=
  ∀ (ι : Mp) (w : World) (a : Act), Rel ι h w → RVs ι (T n τ) a.tmps.toList → a.defers = [] → FreeAll ι h →
    ∀ X : Exit → Act → World → Prop, (∀ κ e a' w' τ' h', Q e τ' h' → RVs κ (T n τ') a'.tmps.toList → a'.defers = [] → Stp ι h w κ h' w' → FreeAll κ h' → X (exitOf e) a' w') → c.wp P X a w
end
section
variable {P : Program} {H : Hooks} {n : Nat}
theorem SW.of_W (hm : P.follows .mixedOrders = true) (hN : Named P) (hH : SoundH P H) {c : Code} {Q : Post} {τ : Tp} {h : Heap} (hw : W P H n c Q τ h) : SW P n c Q τ h := by
  obtain ⟨e, τ', h', he, q⟩ := hw
  obtain ⟨k, hk⟩ := evalC_iff.1 he
  intro ι w a hr ht hd hf X hX
  refine code_goes hN hH (drawV_sound hm) k c _ _ hk ι w a hr ht hd (hf.free _) X fun κ a' w' g1 g2 g3 => ?_
  have := hX κ e a' w' τ' h' q g1 g2 g3 (g3.freeAll hf)
  cases e <;> exact this
theorem SW.of (hm : P.follows .mixedOrders = true) (hN : Named P) (hH : SoundH P H) {c : Code} {Q : Post} {τ : Tp} {h : Heap} (hw : wpc P H n c Q τ h) : SW P n c Q τ h :=
  .of_W hm hN hH (wpc_ok (fun _ => rfl) hw)
theorem SW.seq {x y : Code} {Q : Post} {τ : Tp} {h : Heap} (hw : SW P n x (thenQ (fun τ h => SW P n y Q τ h) Q) τ h) : SW P n (.seq x y) Q τ h := by
  intro ι w act hr ht hd hf X hX
  refine wp_seq ?_
  refine hw ι w act hr ht hd hf _ fun κ e a' w' τ' h' q g1 g2 g3 g4 => ?_
  cases e with
  | norm => exact q κ w' a' g3.rel g1 g2 g4 X fun κ' e' a'' w'' τ'' h'' q' k1 k2 k3 k4 => hX κ' e' a'' w'' τ'' h'' q' k1 k2 (g3.trans k3) k4
  | ret => exact hX κ .ret a' w' τ' h' q g1 g2 g3 g4
  | exit i => exact hX κ (.exit i) a' w' τ' h' q g1 g2 g3 g4
theorem SW.mono {x : Code} {Q Q' : Post} {τ : Tp} {h : Heap} (hw : SW P n x Q τ h) (k : ∀ e τ h, Q e τ h → Q' e τ h) : SW P n x Q' τ h :=
  fun ι w act hr ht hd hf X hX => hw ι w act hr ht hd hf X fun κ e a' w' τ' h' q g1 g2 g3 g4 => hX κ e a' w' τ' h' (k _ _ _ q) g1 g2 g3 g4
theorem SW.seqK {x y : Code} {Q : Post} {τ : Tp} {h : Heap} (K : Tp → Heap → Prop) (hA : SW P n x (thenQ K Q) τ h) (hB : ∀ τ h, K τ h → SW P n y Q τ h) : SW P n (.seq x y) Q τ h :=
  .seq (hA.mono fun e τ h q => by cases e <;> first | exact hB _ _ q | exact q)
theorem SW.seq2K {x y z : Code} {Q : Post} {τ : Tp} {h : Heap} (K : Tp → Heap → Prop) (hA : SW P n x (thenQ (fun τ h => SW P n y (thenQ K Q) τ h) Q) τ h) (hB : ∀ τ h, K τ h → SW P n z Q τ h) : SW P n (.seq x (.seq y z)) Q τ h :=
  .seq (hA.mono fun e τ h q => by cases e <;> first | exact SW.seqK K q hB | exact q)
theorem SW.block {id : Nat} {x : Code} {Q : Post} {τ : Tp} {h : Heap} (hw : SW P n x (outQ id Q) τ h) : SW P n (.block id x) Q τ h := by
  intro ι w act hr ht hd hf X hX
  refine wp_block ?_
  refine hw ι w act hr ht hd hf _ fun κ e a' w' τ' h' q g1 g2 g3 g4 => ?_
  cases e with
  | norm => exact hX κ .norm a' w' τ' h' q g1 g2 g3 g4
  | ret => exact hX κ .ret a' w' τ' h' q g1 g2 g3 g4
  | exit i =>
    simp only [outQ] at q
    by_cases e : i = id
    · rw [if_pos e] at q
      simp only [exitOf, Exit.inBlock, if_pos e]
      exact hX κ .norm a' w' τ' h' q g1 g2 g3 g4
    · rw [if_neg e] at q
      simp only [exitOf, Exit.inBlock, if_neg e]
      exact hX κ (.exit i) a' w' τ' h' q g1 g2 g3 g4
theorem SW.cond {c : Operand} {x y : Code} {Q : Post} {τ : Tp} {h : Heap} (hw : ∃ v, opF n τ c = some v ∧ WC v (SW P n x Q τ h) (SW P n y Q τ h)) : SW P n (.cond c x y) Q τ h := by
  intro ι w act hr ht hd hf X hX
  obtain ⟨v, hv, hq⟩ := hw
  have hrv := ev_rv ht (opF_ev hv)
  rcases hq with ⟨rfl, hq⟩ | ⟨rfl, hq⟩
  · have hb : act.eval c = .bool true := by generalize act.eval c = q at hrv; cases hrv; rfl
    exact wp_cond_true hb (hq ι w act hr ht hd hf X hX)
  · have hb : act.eval c = .bool false := by generalize act.eval c = q at hrv; cases hrv; rfl
    exact wp_cond_false hb (hq ι w act hr ht hd hf X hX)
theorem SW.ret {Q : Post} {τ : Tp} {h : Heap} (hq : Q .ret τ h) : SW P n .ret Q τ h :=
  fun ι w act hr ht hd hf X hX => wp_ret (hX ι .ret act w τ h hq ht hd (.refl hr) hf)
theorem SW.skip {Q : Post} {τ : Tp} {h : Heap} (hq : Q .norm τ h) : SW P n .skip Q τ h :=
  fun ι w act hr ht hd hf X hX => wp_skip (hX ι .norm act w τ h hq ht hd (.refl hr) hf)
/-- A loop: a number that sinks with each round. -/
theorem SW.loop {b : Code} {Q : Post} (I : Nat → Tp → Heap → Prop) (round : ∀ m τ h, I m τ h → SW P n b (thenQ (fun τ h => ∃ m', m' < m ∧ I m' τ h) Q) τ h) {m : Nat} {τ : Tp} {h : Heap} (hi : I m τ h) : SW P n (.loop b) Q τ h := by
  intro ι w act hr ht hd hf X hX
  refine wp_loop_ghost (fun m a' w' => ∃ κ τ' h', I m τ' h' ∧ RVs κ (T n τ') a'.tmps.toList ∧ a'.defers = [] ∧ Stp ι h w κ h' w' ∧ FreeAll κ h') ?_ (n := m) ⟨ι, τ, h, hi, ht, hd, .refl hr, hf⟩
  rintro m a1 w1 ⟨κ, τ1, h1, i1, g1, g2, g3, g4⟩
  refine round m τ1 h1 i1 κ w1 a1 g3.rel g1 g2 g4 _ fun κ' e a' w' τ' h' q k1 k2 k3 k4 => ?_
  cases e with
  | norm => obtain ⟨m', hm, hi'⟩ := q; exact ⟨m', hm, κ', τ', h', hi', k1, k2, g3.trans k3, k4⟩
  | ret => exact hX κ' .ret a' w' τ' h' q k1 k2 (g3.trans k3) k4
  | exit i => exact hX κ' (.exit i) a' w' τ' h' q k1 k2 (g3.trans k3) k4

/-! ### the entries of a map, one after the other -/
structure EntsOk (es : List (V × V × Nat)) (cl : Nat) : Prop where
  lt : ∀ e ∈ es, e.2.2 < cl
  nd : (es.map (·.2.2)).Nodup
theorem ops_app {C : CallF} (hC : SoundC P C) (hM : MonoC C) {ops : Array Oper} {Q : Exit → Act → World → Prop} {l2 : List Oper} : ∀ {l : List Oper} {s s' : St}, opsV P C ops l s = some s' → ∀ {ι : Mp} {w : World} {a : Act}, Rel ι s.h w → RVs ι s.t a.tmps.toList → a.defers = [] → Free ι s.h.length s'.h.length →
    (∀ κ a' w', RVs κ s'.t a'.tmps.toList → a'.defers = [] → Stp ι s.h w κ s'.h w' → wpList P ops Q l2 a' w') → wpList P ops Q (l ++ l2) a w
  | [], s, s', h, ι, w, a, hr, ht, hd, hf, hQ => by
    rw [opsV_nil] at h; cases h
    exact hQ ι a w ht hd (.refl hr)
  | o :: l, s, s', h, ι, w, a, hr, ht, hd, hf, hQ => by
    rw [opsV_cons] at h
    split at h
    · rename_i s1 h1
      have m1 := stepV_mono hM h1
      have m2 := opsV_mono hM h
      refine wpList_step fun K hK => ?_
      have hy := yield_eq ht ops
      unfold stepV at h1
      split at h1
      · rename_i hw
        rw [hy] at hw
        rw [if_pos hw]
        split at h1
        · rename_i r hp
          simp at h1; subst h1
          refine op_goes hC hp hr ht hd (hf.mono (Nat.le_refl _) m2.1) fun κ a' w' g1 g2 _ g3 => hK _ _ ?_
          refine ops_app hC hM h g3.rel g1 g2 (g3.free (hf.mono m1.1 (Nat.le_refl _))) fun κ' a'' w'' k1 k2 k3 => hQ κ' a'' w'' k1 k2 (g3.trans k3)
        · cases h1
      · rename_i hw
        rw [hy] at hw
        cases h1
        rw [if_neg (by simp [hw])]
        exact hK _ _ (ops_app hC hM h hr (put_rv ht (undef_rv ι)) (put_defers hd) hf hQ)
    · cases h
/-- Operations in line, said of the model, with what stands behind them. -/
theorem wpo_app (hm : P.follows .mixedOrders = true) (hN : Named P) (hH : SoundH P H) {ops : Array Oper} {l l2 : List Oper} {K : Tp → Heap → Prop} {τ : Tp} {h : Heap} (hw : wpo' P H n ops l K τ h)
    {ι : Mp} {w : World} {a : Act} (hr : Rel ι h w) (ht : RVs ι (T n τ) a.tmps.toList) (hd : a.defers = []) (hf : FreeAll ι h) {X : Exit → Act → World → Prop}
    (hX : ∀ κ a' w' τ' h', K τ' h' → RVs κ (T n τ') a'.tmps.toList → a'.defers = [] → Stp ι h w κ h' w' → FreeAll κ h' → wpList P ops X l2 a' w') : wpList P ops X (l ++ l2) a w := by
  obtain ⟨τ', h', e, k⟩ := wpo_ok hw
  obtain ⟨k0, hk⟩ := opsV_cont e
  have hC : SoundC P (callK P H k0) := hookV_sound hH (callV_sound hN fun c s r hr => code_goes hN hH (drawV_sound hm) k0 c s r hr)
  have hM : MonoC (callK P H k0) := hookV_mono hH (callV_mono fun c s r => runV_mono hH.mono (drawV_sound hm) k0 c s r)
  exact ops_app hC hM hk hr ht hd (hf.free _) fun κ a' w' g1 g2 g3 => hX κ a' w' τ' h' k g1 g2 g3 (g3.freeAll hf)
theorem tmp_rv {ι : Mp} {τ : Tp} {a : Act} (ht : RVs ι (T n τ) a.tmps.toList) {i : Nat} (hi : i < n) {v : V} (hv : τ i = v) : RV ι v (a.eval (.tmp i)) := by
  have := ev_rv ht (x := .tmp i) (v := getL (T n τ) i) rfl
  rw [T_get hi, hv] at this
  exact this
theorem put_T {ι : Mp} {τ : Tp} {a : Act} {d : Nat} {v : V} {x : Value} (ht : RVs ι (T n τ) a.tmps.toList) (hv : RV ι v x) : RVs ι (T n (upd τ d v)) (a.put (some d) x).tmps.toList := by
  have := put_rv (dst := some d) ht hv
  rw [T_put] at this
  exact this
/-- A block that no living name stands for is turned. -/
theorem Stp.iter {ι κ : Mp} {h h' : Heap} {w w' w2 : World} (s : Stp ι h w κ h' w') {r : Nat} (hr : w.heap.size ≤ r) (hA : ¬ Al κ h' r) (hw : w2 = w' ∨ w2 = w'.drew) (o : Obj) : Stp ι h w κ h' (setBlock w2 r o) := by
  have e1 : w2.heap = w'.heap := by rcases hw with rfl | rfl <;> rfl
  have e2 : w2.os = w'.os ∧ w2.tape = w'.tape ∧ w2.output = w'.output ∧ w'.drawn ≤ w2.drawn := by rcases hw with rfl | rfl <;> exact ⟨rfl, rfl, rfl, by first | exact Nat.le_refl _ | exact Nat.le_succ _⟩
  have hb : ∀ b, b ≠ r → (setBlock w2 r o).heap[b]? = w'.heap[b]? := fun b hb => by
    show (w2.heap.setIfInBounds r o)[b]? = _
    rw [e1, Array.getElem?_setIfInBounds_ne (Ne.symm hb)]
  refine ⟨s.sub, s.fresh, ⟨fun id pl o' h1 h2 => ?_, s.rel.sep⟩, s.own, s.alv, ?_, ?_, ?_, ?_, ?_, s.len, ?_⟩
  · refine (s.rel.ok id pl o' h1 h2).mono (.refl _) fun ha => hb _ fun e => hA ⟨id, pl, o', h1, h2, ha, e⟩
  · exact e2.1.trans s.os
  · exact e2.2.1.trans s.tape
  · exact e2.2.2.1.trans s.output
  · show _ ≤ (w2.heap.setIfInBounds r o).size
    rw [Array.size_setIfInBounds, e1]; exact s.size
  · intro b hb1 hb2
    rw [hb b (by omega), s.frame b hb1 hb2]
  · exact Nat.le_trans s.drawn e2.2.2.2

/-- What stands behind the entries of a map: for each of them, in whatever order, the body keeps what is kept. -/
def RangeK (P : Program) (H : Hooks) (n : Nat) (opsC : Array Oper) (restC : List Oper) (body : Code) (tA tR tN tM tP out nx : Nat) (Q : Post) (τ1 : Tp) (h1 : Heap) : Prop :=
  ∃ (id : Nat) (es : List (V × V × Nat)) (cl : Nat) (I : List (V × V × Nat) → Tp → Heap → Prop), τ1 tA = .map (some id) ∧ h1[id]? = some (.map es cl) ∧ EntsOk es cl ∧
    I [] (upd τ1 tR (.ptr (some (h1.length, 0)))) (h1 ++ [.dead]) ∧
    ∀ done τ h, I done τ h → τ tR = .ptr (some (h1.length, 0)) ∧ h[id]? = some (.map es cl) ∧ h[h1.length]? = some .dead ∧
      (∀ e ∈ es, e ∉ done → wpo P H n opsC restC (fun τ h => SW P n body (fun x τ' h' => match x with
        | .norm => I (e :: done) τ' h'
        | .exit i => if i = nx then I (e :: done) τ' h' else if i = out then Q .norm τ' h' else Q (.exit i) τ' h'
        | .ret => Q .ret τ' h') τ h) (upd (upd (upd τ tN (.tuple [.bool true, e.1, e.2.1])) tM (.bool true)) tP (.tuple [e.1, e.2.1])) h) ∧
      ((∀ e ∈ es, e ∈ done) → Q .norm (upd (upd τ tN (.tuple [.bool false])) tM (.bool false)) h)
theorem RV.map_inv {ι : Mp} {m : Nat} {x : Value} (h : RV ι (.map (some m)) x) : ∃ pl, ι m = some pl ∧ x = .map (some pl.blk) := by
  cases h with
  | map _ pl h => exact ⟨pl, h, rfl⟩
theorem RV.ptr_inv {ι : Mp} {i o : Nat} {x : Value} (h : RV ι (.ptr (some (i, o))) x) : ∃ pl, ι i = some pl ∧ x = .pointer (some ⟨pl.blk, pl.off + o, none⟩) := by
  cases h with
  | ptr _ _ pl h => exact ⟨pl, h, rfl⟩
theorem RV.tup3 {ι : Mp} {b : Bool} {k v : V} {x y : Value} (h1 : RV ι k x) (h2 : RV ι v y) : RV ι (.tuple [.bool b, k, v]) (.tuple #[.bool b, x, y]) :=
  .tuple _ _ rfl fun i v c h h' => by
    match i with
    | 0 => cases h; cases h'; exact .bool b
    | 1 => cases h; cases h'; exact h1
    | 2 => cases h; cases h'; exact h2
    | i + 3 => cases h
theorem RV.tup2 {ι : Mp} {k v : V} {x y : Value} (h1 : RV ι k x) (h2 : RV ι v y) : RV ι (.tuple [k, v]) (.tuple #[x, y]) :=
  .tuple _ _ rfl fun i v c h h' => by
    match i with
    | 0 => cases h; cases h'; exact h1
    | 1 => cases h; cases h'; exact h2
    | i + 2 => cases h
theorem RV.tup1 {ι : Mp} {b : Bool} : RV ι (.tuple [.bool b]) (.tuple #[.bool b]) :=
  .tuple _ _ rfl fun i v c h h' => by
    match i with
    | 0 => cases h; cases h'; exact .bool b
    | i + 1 => cases h
/-- The blocks of the entries. -/
theorem OK.ents {ι : Mp} {w : World} {pl : Pl} {es : List (V × V × Nat)} {cl : Nat} (h : OK ι w pl (.map es cl)) (he : EntsOk es cl) : ∃ ES : Array MapEntry, w.heap[pl.blk]? = some (.map ES cl) ∧ (∀ x ∈ ES.toList, x.born < cl) ∧ (ES.toList.map (·.born)).Nodup ∧
    (∀ x ∈ ES.toList, ∃ e ∈ es, RV ι e.1 x.key ∧ RV ι e.2.1 x.val ∧ x.born = e.2.2) ∧ ∀ e ∈ es, ∃ x ∈ ES.toList, RV ι e.1 x.key ∧ RV ι e.2.1 x.val ∧ x.born = e.2.2 := by
  obtain ⟨ES, h1, h2, h3⟩ := h
  have hx : ∀ (i : Nat) (hi : i < ES.toList.length), ∃ hi' : i < es.length, RV ι es[i].1 ES.toList[i].key ∧ RV ι es[i].2.1 ES.toList[i].val ∧ ES.toList[i].born = es[i].2.2 := fun i hi => by
    have hi' : i < es.length := by rw [h2]; simpa using hi
    obtain ⟨a, b, c⟩ := h3 i es[i].1 es[i].2.1 es[i].2.2 ES.toList[i] (by rw [List.getElem?_eq_getElem hi']) (by rw [← Array.getElem?_toList, List.getElem?_eq_getElem hi])
    exact ⟨hi', a, b, c⟩
  have hmap : ES.toList.map (·.born) = es.map (·.2.2) := by
    apply List.ext_getElem (by simp [h2])
    intro i g1 g2
    rw [List.getElem_map, List.getElem_map]
    exact (hx i (by simpa using g1)).2.2.2
  refine ⟨ES, h1, fun x hx' => ?_, by rw [hmap]; exact he.nd, fun x hx' => ?_, fun e he' => ?_⟩
  · obtain ⟨i, hi, rfl⟩ := List.getElem_of_mem hx'
    obtain ⟨hi', _, _, c⟩ := hx i hi
    rw [c]; exact he.lt _ (List.getElem_mem hi')
  · obtain ⟨i, hi, rfl⟩ := List.getElem_of_mem hx'
    obtain ⟨hi', a, b, c⟩ := hx i hi
    exact ⟨_, List.getElem_mem hi', a, b, c⟩
  · obtain ⟨i, hi, rfl⟩ := List.getElem_of_mem he'
    have hi2 : i < ES.toList.length := by simpa [← h2] using hi
    obtain ⟨_, a, b, c⟩ := hx i hi2
    exact ⟨_, List.getElem_mem hi2, a, b, c⟩
theorem ent_of_born {es : List (V × V × Nat)} (hn : (es.map (·.2.2)).Nodup) {x y : V × V × Nat} (hx : x ∈ es) (hy : y ∈ es) (h : x.2.2 = y.2.2) : x = y := by
  obtain ⟨i, hi, rfl⟩ := List.getElem_of_mem hx
  obtain ⟨j, hj, rfl⟩ := List.getElem_of_mem hy
  have e : i = j := by
    refine Classical.byContradiction fun hne => ?_
    have p := List.pairwise_iff_getElem.1 hn
    rcases Nat.lt_or_gt_of_ne hne with q | q
    · exact p i j (by simpa using hi) (by simpa using hj) q (by simpa using h)
    · exact p j i (by simpa using hj) (by simpa using hi) q (by simpa using h.symm)
  subst e; rfl
theorem leftOf_mem {ES : Array MapEntry} {seen : Array Nat} {x : MapEntry} : x ∈ (leftOf ES seen).toList ↔ x ∈ ES.toList ∧ x.born ∉ seen.toList := by
  simp [leftOf]
theorem SW.range (hm : P.follows .mixedOrders = true) (hN : Named P) (hH : SoundH P H) {ra rb rc out nx : Nat} {opsA opsB opsC : Array Oper} {pre restC : List Oper} {oR oN oX oE : Oper} {body : Code} {tA tR tN tM tP : Nat} {ty kt et : TypeId} {Q : Post} {τ : Tp} {h : Heap}
    (hA : opsA.toList = pre ++ [oR]) (hR : oR.op = .range ty (.tmp tA)) (gR : oR.guard = none) (dR : oR.dst = some tR) (ht : P.underlying ty = some (.map kt et))
    (hB : opsB.toList = [oN, oX]) (hNx : oN.op = .next (.tmp tR) false) (gN : oN.guard = none) (dN : oN.dst = some tN) (hX : oX.op = .extract (.tmp tN) 0) (gX : oX.guard = none) (dX : oX.dst = some tM)
    (hC : opsC.toList = oE :: restC) (hE : oE.op = .entry (.tmp tR)) (gE : oE.guard = none) (dE : oE.dst = some tP) (lA : tA < n) (lR : tR < n) (lN : tN < n) (lM : tM < n) (nRN : tN ≠ tR) (nRM : tM ≠ tR)
    (hw : wpo P H n opsA pre (RangeK P H n opsC restC body tA tR tN tM tP out nx Q) τ h) :
    SW P n (.seq (.region ra opsA false) (.block out (.loop (.seq (.region rb opsB false) (.seq (.cond (.tmp tM) .skip (.exit out)) (.block nx (.seq (.region rc opsC false) body))))))) Q τ h := by
  intro ι w a hr htm hd hf X hQ
  refine wp_seq (wp_region_list ?_)
  rw [hA]
  refine wpo_app hm hN hH hw hr htm hd hf fun κ1 a1 w1 τ1 h1 hk g1 g2 g3 g4 => ?_
  obtain ⟨id, es, cl, I, ha, hb, heo, hI0, hI⟩ := hk
  obtain ⟨pl, hpl, hev⟩ := (tmp_rv g1 lA ha).map_inv
  obtain ⟨ES, hES, hlt, hnd, hent, -⟩ := (g3.rel.ok id pl _ hpl hb).ents heo
  -- the iterator
  have hfree : κ1 h1.length = none := g4 _ (Nat.le_refl _)
  have st0 := Stp.new g3.rel hfree .dead (.mapIter (some pl.blk) cl #[] cl) ⟨w1.heap.size, 0, 0, 0, false⟩ rfl trivial
  have hpl2 : ext κ1 h1.length ⟨w1.heap.size, 0, 0, 0, false⟩ h1.length = some ⟨w1.heap.size, 0, 0, 0, false⟩ := ext_new _ _ _
  generalize hκ : ext κ1 h1.length ⟨w1.heap.size, 0, 0, 0, false⟩ = κ2 at st0 hpl2
  refine wpList_plain gR fun K hK => ?_
  unfold Oper.wp
  simp only [execOp, hR, hev, run_range_map w1 ty kt et pl.blk ES cl ht hES, Sem.run_map, Sem.run_bind, Result.andThen]
  refine hK _ _ ?_
  rw [dR]
  have g1' : RVs κ2 (T n (upd τ1 tR (.ptr (some (h1.length, 0))))) (a1.put (some tR) (.pointer (some ⟨w1.heap.size, 0, none⟩))).tmps.toList := put_T (g1.mono st0.sub) (.ptr _ _ _ hpl2)
  have st1 := g3.trans st0
  have hnA : ¬ Al κ2 (h1 ++ [.dead]) w1.heap.size := by
    rintro ⟨j, q, o, z1, z2, z3, z4⟩
    by_cases e : j = h1.length
    · subst e; rw [getElem?_push_self] at z2; cases z2; cases z3
    · have hj : j < h1.length := by
        have := (List.getElem?_eq_some_iff.1 z2).1
        simp at this; omega
      rw [getElem?_push_lt hj] at z2
      rw [← hκ] at z1
      simp only [ext, if_neg e] at z1
      have := (g3.rel.ok j q o z1 z2).lt z3
      omega
  -- the loop
  refine wp_block ?_
  refine wp_loop_ghost (fun m a' w' => ∃ κ τ' h' done seen c0, I done τ' h' ∧ RVs κ (T n τ') a'.tmps.toList ∧ a'.defers = [] ∧ Stp ι h w κ h' w' ∧ FreeAll κ h' ∧ Sub κ2 κ ∧ w1.heap.size < w'.heap.size ∧ ¬ Al κ h' w1.heap.size ∧
      w'.heap[w1.heap.size]? = some (.mapIter (some pl.blk) cl seen c0) ∧ cl ≤ c0 ∧ (∀ b, b ∈ seen.toList ↔ ∃ e ∈ done, e.2.2 = b) ∧ (∀ e ∈ done, e ∈ es) ∧ m = es.countP (fun e => decide (e.2.2 ∉ seen.toList))) ?_ (n := es.countP (fun e => decide (e.2.2 ∉ (#[] : Array Nat).toList))) ?_
  rotate_left
  · refine ⟨κ2, _, _, [], #[], cl, hI0, g1', put_defers g2, st1, st0.freeAll g4, .refl _, ?_, hnA, heap_alloc_new _ _, Nat.le_refl _, by simp, by simp, rfl⟩
    show w1.heap.size < (w1.heap.push _).size
    rw [Array.size_push]; exact Nat.lt_succ_self _
  rintro m a2 w2 ⟨κ, τ2, h2, done, seen, c0, i1, k1, k2, k3, k4, k5, k6, k7, k8, k9, k10, k10', rfl⟩
  obtain ⟨j1, j2, j3, jb, je⟩ := hI done τ2 h2 i1
  have hplk : κ id = some pl := k5 _ _ (st0.sub _ _ hpl)
  have hplr : κ h1.length = some ⟨w1.heap.size, 0, 0, 0, false⟩ := k5 _ _ hpl2
  obtain ⟨ES2, hES2, hlt2, hnd2, hent2, hent2'⟩ := (k3.rel.ok id pl _ hplk j2).ents heo
  have hevR : a2.eval (.tmp tR) = .pointer (some ⟨w1.heap.size, 0, none⟩) := by
    obtain ⟨q, hq, hev⟩ := (tmp_rv k1 lR j1).ptr_inv
    rw [hplr] at hq; cases hq
    exact hev
  refine wp_seq (wp_region_list ?_)
  rw [hB]
  refine wpList_plain gN fun K hK => ?_
  unfold Oper.wp
  have ext0 : ∀ (b : Bool) (l : List V) τ3 (h3 : Heap) (K3 : Tp → Heap → Prop), τ3 tN = .tuple (.bool b :: l) → K3 (upd τ3 tM (.bool b)) h3 → wpo' P H n opsB [oX] K3 τ3 h3 := by
    intro b l τ3 h3 K3 hv hk3
    unfold wpo'
    rw [gX]
    simp only [primV, hX, p_extract, ev, T_get lN, hv]
    refine ⟨.bool b, h3, rfl, ?_⟩
    unfold wpo'
    rw [dX]
    exact hk3
  rcases run_next_at (P := P) w2 oN.type w1.heap.size pl.blk cl c0 seen ES2 cl k8 hES2 hlt2 k9 with ⟨hz, hrun⟩ | ⟨x, hx, w3, hw3, hrun⟩
  · -- all have come
    simp only [execOp, hNx, hevR, hrun, Sem.run_map, Sem.run_bind, Result.andThen]
    refine hK _ _ ?_
    rw [dN]
    have hall : ∀ e ∈ es, e ∈ done := fun e he => Classical.byContradiction fun hne => by
      have hnl : ∀ x ∈ ES2.toList, x.born ∈ seen.toList := fun x hx => Classical.byContradiction fun hx2 => by
        have := leftOf_mem.2 ⟨hx, hx2⟩
        have : 0 < (leftOf ES2 seen).toList.length := List.length_pos_of_mem this
        simp at this; omega
      obtain ⟨x, hx, _, _, y4⟩ := hent2' e he
      have y5 := hnl x hx
      rw [y4, k10] at y5
      obtain ⟨e', he', he2⟩ := y5
      rw [ent_of_born heo.nd (k10' e' he') he he2] at he'
      exact hne he'
    refine wpo_app (l2 := []) hm hN hH (ext0 false [] (upd τ2 tN (.tuple [.bool false])) h2 (fun τ3 h3 => τ3 = upd (upd τ2 tN (.tuple [.bool false])) tM (.bool false) ∧ h3 = h2) (by simp [upd]) ⟨rfl, rfl⟩) k3.rel (put_T k1 .tup1) (put_defers k2) k4 ?_
    rintro κ3 a3 w3 τ3 h3 ⟨rfl, rfl⟩ z1 z2 z3 z4
    refine wpList_nil (wp_seq (wp_cond_false ?_ (wp_exit ?_)))
    · have := tmp_rv z1 lM (show (upd (upd τ2 tN (.tuple [.bool false])) tM (.bool false)) tM = .bool false by simp [upd])
      generalize a3.eval (.tmp tM) = q at this; cases this; rfl
    · show Exit.inBlock out X (.exit out) a3 w3
      simp only [Exit.inBlock, if_true]
      exact hQ κ3 .norm a3 w3 _ _ (je hall) z1 z2 (k3.trans z3) z4
  · -- one that is left
    simp only [execOp, hNx, hevR, hrun, Sem.run_map, Sem.run_bind, Result.andThen]
    refine hK _ _ ?_
    rw [dN]
    obtain ⟨hx1, hx2⟩ := leftOf_mem.1 hx
    obtain ⟨e, he, hk', hv', hbn⟩ := hent2 x hx1
    have hne : e ∉ done := fun hh => hx2 ((k10 _).2 ⟨e, hh, hbn.symm⟩)
    have hsz1 : w.heap.size ≤ w1.heap.size := g3.size
    have st3 := k3.iter hsz1 k7 hw3 (.mapIter (some pl.blk) cl (seen.push x.born) cl)
    have hh3 : w3.heap = w2.heap := by rcases hw3 with rfl | rfl <;> rfl
    generalize hw4 : setBlock w3 w1.heap.size (.mapIter (some pl.blk) cl (seen.push x.born) cl) = w4 at st3
    have hr4 : w4.heap[w1.heap.size]? = some (.mapIter (some pl.blk) cl (seen.push x.born) cl) := by
      rw [← hw4]
      show (w3.heap.setIfInBounds w1.heap.size _)[w1.heap.size]? = _
      rw [Array.getElem?_setIfInBounds_self_of_lt (by rw [hh3]; exact k6)]
    have hs4 : w4.heap.size = w2.heap.size := by
      rw [← hw4]
      show (w3.heap.setIfInBounds w1.heap.size _).size = _
      rw [Array.size_setIfInBounds, hh3]
    have hb4 : w4.heap[pl.blk]? = some (.map ES2 cl) := by
      rw [← hw4]
      show (w3.heap.setIfInBounds w1.heap.size _)[pl.blk]? = _
      rw [Array.getElem?_setIfInBounds_ne (fun q => k7 ⟨id, pl, _, hplk, j2, rfl, q.symm⟩), hh3]
      exact hES2
    refine wpo_app (l2 := []) hm hN hH (ext0 true [e.1, e.2.1] (upd τ2 tN (.tuple [.bool true, e.1, e.2.1])) h2 (fun τ3 h3 => τ3 = upd (upd τ2 tN (.tuple [.bool true, e.1, e.2.1])) tM (.bool true) ∧ h3 = h2) (by simp [upd]) ⟨rfl, rfl⟩) st3.rel (put_T k1 (.tup3 hk' hv')) (put_defers k2) k4 ?_
    rintro κ3 a3 w5 τ3 h3 ⟨rfl, rfl⟩ z1 z2 z3 z4
    have hA5 : ∀ {κ' : Mp} {h' : Heap} {w' : World}, Stp κ h3 w4 κ' h' w' → ¬ Al κ' h' w1.heap.size := fun s q => by
      rcases s.alv _ q with q | q
      · exact k7 q
      · omega
    have hF5 : ∀ {κ' : Mp} {h' : Heap} {w' : World}, Stp κ h3 w4 κ' h' w' → w'.heap[w1.heap.size]? = some (.mapIter (some pl.blk) cl (seen.push x.born) cl) := fun {κ' h' w'} s => by
      rw [s.frame _ (by omega) fun ⟨j, q, o, u1, u2, u3, u4⟩ => k7 ⟨j, q, o, u1, u2, O.wr_alive u3, u4⟩]
      exact hr4
    refine wpList_nil (wp_seq (wp_cond_true ?_ (wp_skip ?_)))
    · have := tmp_rv z1 lM (show (upd (upd τ2 tN (.tuple [.bool true, e.1, e.2.1])) tM (.bool true)) tM = .bool true by simp [upd])
      generalize a3.eval (.tmp tM) = q at this; cases this; rfl
    refine wp_block (wp_seq (wp_region_list ?_))
    rw [hC]
    refine wpList_plain gE fun K2 hK2 => ?_
    unfold Oper.wp
    have hev3 : a3.eval (.tmp tR) = .pointer (some ⟨w1.heap.size, 0, none⟩) := by
      obtain ⟨q, hq, hev⟩ := (tmp_rv z1 lR (show (upd (upd τ2 tN (.tuple [.bool true, e.1, e.2.1])) tM (.bool true)) tR = .ptr (some (h1.length, 0)) by simp only [upd, if_neg (Ne.symm nRM), if_neg (Ne.symm nRN)]; exact j1)).ptr_inv
      rw [z3.sub _ _ hplr] at hq; cases hq
      exact hev
    have hr5 := hF5 z3
    obtain ⟨ES5, q1, q2, q3, q4, q5⟩ := (z3.rel.ok id pl _ (z3.sub _ _ hplk) j2).ents heo
    obtain ⟨x5, hx5, u1, u2, u3⟩ := q5 e he
    rw [show x.born = x5.born by rw [hbn, u3]] at hr5
    simp only [execOp, hE, hev3, run_entry_at w5 w1.heap.size pl.blk cl seen ES5 cl x5 hr5 q1 hx5 q3, Sem.run_map, Sem.run_bind, Result.andThen]
    refine hK2 _ _ ?_
    rw [dE, ← List.append_nil restC]
    refine wpo_app (l2 := []) hm hN hH (jb e he hne) z3.rel (put_T z1 (.tup2 u1 u2)) (put_defers z2) z4 ?_
    intro κ4 a4 w6 τ4 h4 hb4' p1 p2 p3 p4
    refine wpList_nil ?_
    have st4 := k3.iter hsz1 k7 hw3 (.mapIter (some pl.blk) cl (seen.push x.born) cl)
    rw [hw4] at st4
    refine hb4' κ4 w6 a4 p3.rel p1 p2 p4 _ fun κ5 ex a5 w7 τ5 h5 hq y1 y2 y3 y4 => ?_
    have stA := (z3.trans p3).trans y3
    have stB := st4.trans stA
    have back : I (e :: done) τ5 h5 → ∃ m', m' < es.countP (fun e => decide (e.2.2 ∉ seen.toList)) ∧ ∃ κ τ' h' done seen c0, I done τ' h' ∧ RVs κ (T n τ') a5.tmps.toList ∧ a5.defers = [] ∧ Stp ι h w κ h' w7 ∧ FreeAll κ h' ∧ Sub κ2 κ ∧ w1.heap.size < w7.heap.size ∧ ¬ Al κ h' w1.heap.size ∧
        w7.heap[w1.heap.size]? = some (.mapIter (some pl.blk) cl seen c0) ∧ cl ≤ c0 ∧ (∀ b, b ∈ seen.toList ↔ ∃ e ∈ done, e.2.2 = b) ∧ (∀ e ∈ done, e ∈ es) ∧ m' = es.countP (fun e => decide (e.2.2 ∉ seen.toList)) := by
      intro hI5
      refine ⟨_, ?_, κ5, τ5, h5, e :: done, seen.push x.born, cl, hI5, y1, y2, stB, y4, k5.trans stA.sub, ?_, hA5 stA, hF5 stA, Nat.le_refl _, ?_, ?_, rfl⟩
      · refine countP_lt (fun a ha hp => ?_) ⟨e, he, ?_, ?_⟩
        · simp only [decide_eq_true_eq] at hp ⊢
          exact fun hh => hp (by simp [Array.toList_push]; exact .inl (by simpa using hh))
        · simp only [decide_eq_true_eq]; rw [← hbn]; exact hx2
        · simp only [decide_eq_false_iff_not, Classical.not_not]; simp [Array.toList_push, hbn]
      · have := stA.size; omega
      · intro b
        rw [Array.toList_push, List.mem_append, k10, List.mem_singleton]
        constructor
        · rintro (⟨e', h1, h2⟩ | rfl)
          · exact ⟨e', List.mem_cons_of_mem _ h1, h2⟩
          · exact ⟨e, List.mem_cons_self, hbn.symm⟩
        · rintro ⟨e', h1, h2⟩
          rcases List.mem_cons.1 h1 with rfl | h1
          · right; rw [← h2, hbn]
          · exact .inl ⟨e', h1, h2⟩
      · intro e' h1
        rcases List.mem_cons.1 h1 with rfl | h1
        · exact he
        · exact k10' e' h1
    cases ex with
    | norm => exact back hq
    | ret => exact hQ κ5 .ret a5 w7 τ5 h5 hq y1 y2 stB y4
    | exit i =>
      simp only at hq
      simp only [exitOf, Exit.inBlock]
      by_cases e1 : i = nx
      · rw [if_pos e1] at hq
        rw [if_pos e1]
        exact back hq
      · rw [if_neg e1] at hq
        rw [if_neg e1]
        simp only [Exit.then, Exit.inBlock]
        by_cases e2 : i = out
        · rw [if_pos e2] at hq
          rw [if_pos e2]
          exact hQ κ5 .norm a5 w7 τ5 h5 hq y1 y2 stB y4
        · rw [if_neg e2] at hq
          rw [if_neg e2]
          exact hQ κ5 (.exit i) a5 w7 τ5 h5 hq y1 y2 stB y4
/-! ### calls -/
/-- What a call comes to, said of the model: from every world that the state stands for. -/
def SR (P : Program) (f : FuncId) (args : List V) (h : Heap) (K : V → Heap → Prop) (_ : Tag K := ⟨⟩) : Prop :=
  ∀ (ι : Mp) (w : World) (A : Array Value), Rel ι h w → RVs ι args A.toList → FreeAll ι h →
    Calls P f A w fun e w' => ∃ v h' x κ, K v h' ∧ e = .returned x ∧ RV κ v x ∧ Stp ι h w κ h' w' ∧ FreeAll κ h'
theorem SR.call {f : FuncId} {fn : Func} {c : Code} {rs : List ResultVar} {args : List V} {h : Heap} {K : V → Heap → Prop} (hf : P.funcs[f]? = some fn) (hb : fn.body = some c) (hn : fn.ntmps = n) (hr : fn.results = rs.toArray) (hl : args.length ≤ n)
    (hw : SW P n c (backQ P n rs K) (argF args) h) : SR P f args h K := by
  intro ι w A hrel ha hfree
  refine calls_of_wp hf hb ?_
  have hlen : args.length = A.size := by simpa using ha.1
  have htm : RVs ι (T n (argF args)) (A ++ Array.replicate (fn.ntmps - A.size) undef).toList := by
    rw [← T_args hl, Array.toList_append, Array.toList_replicate, hn, hlen]
    exact ha.append (RVs.replicate (undef_rv ι) _)
  refine hw ι w _ hrel htm rfl hfree _ fun κ e a' w' τ' h' q g1 g2 g3 g4 => ?_
  cases e with
  | exit i => exact q.elim
  | norm =>
    obtain ⟨vs, hv, k⟩ := q
    obtain ⟨x, k1, k2⟩ := results_run (fn := fn) g3.rel g1 (by rw [hr, List.toList_toArray]; exact hv)
    exact ⟨g2, x, k1, _, h', x, κ, k, rfl, k2, g3, g4⟩
  | ret =>
    obtain ⟨vs, hv, k⟩ := q
    obtain ⟨x, k1, k2⟩ := results_run (fn := fn) g3.rel g1 (by rw [hr, List.toList_toArray]; exact hv)
    exact ⟨g2, x, k1, _, h', x, κ, k, rfl, k2, g3, g4⟩
theorem SR.mono {f : FuncId} {args : List V} {h : Heap} {K K' : V → Heap → Prop} (s : SR P f args h K) (k : ∀ v h, K v h → K' v h) : SR P f args h K' :=
  fun ι w A h1 h2 h3 => (s ι w A h1 h2 h3).mono fun e w' ⟨v, h', x, κ, a, b⟩ => ⟨v, h', x, κ, k _ _ a, b⟩
/-- For a row. -/
theorem SR.calls {f : FuncId} {args : List V} {h : Heap} {K : V → Heap → Prop} (s : SR P f args h K) {ι : Mp} {w : World} {A : Array Value} (hr : Rel ι h w) (ha : RVs ι args A.toList) (hfree : ∀ id, h.length ≤ id → ι id = none) (hro : AllRo h) :
    Calls P f A w fun e w' => ∃ v h' x κ, K v h' ∧ e = .returned x ∧ RV κ v x ∧ Stp ι h w κ h' w' ∧ Below w.heap.size w w' :=
  (s ι w A hr ha hfree).mono fun e w' ⟨v, h', x, κ, a, b, c, d, _⟩ => ⟨v, h', x, κ, a, b, c, d, d.below hro⟩
end
end Go.Proofs.YtmjfhckioaempaaA
