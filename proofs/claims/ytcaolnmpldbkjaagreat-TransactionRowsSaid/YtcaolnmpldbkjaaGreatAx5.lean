/- Words of this session: what an operation gives in the second reading it gives in the model. -/
import Derived.Test.YtcaolnmpldbkjaaGreatAx4
namespace Go.Proofs.YtcaolnmpldbkjaaGreatA
open Go Go.RowKit
set_option linter.unusedVariables false
set_option linter.unusedSimpArgs false

section
variable {P : Program} {ι : Mp} {t : List V} {a : Act} {h h' : Heap} {w : World}

theorem evTmp_rv (ht : RVs ι t a.tmps.toList) (i : Nat) : RV ι (getL t i) (a.tmps.getD i undef) := by
  rw [getL_eq]
  have := ht.getD i
  have e : a.tmps.toList.getD i undef = a.tmps.getD i undef := by simp [List.getD, Array.getD_eq_getD_getElem?]
  rw [← e]; exact this
theorem ev_rv (ht : RVs ι t a.tmps.toList) {x : Operand} {v : V} (h : ev t x = some v) : RV ι v (a.eval x) := by
  cases x with
  | tmp i => simp only [ev, Option.some.injEq] at h; subst h; exact evTmp_rv ht i
  | const c => exact constV_rv h
  | func f => simp only [ev, Option.some.injEq] at h; subst h; exact .func f [] [] #[] #[] rfl rfl (fun i v c h => by simp at h) (fun i v c h => by simp at h)
  | global g => cases h
theorem evs_rv (ht : RVs ι t a.tmps.toList) : ∀ {xs : List Operand} {vs : List V}, evs t xs = some vs → RVs ι vs (xs.map a.eval)
  | [], vs, h => by cases h; exact .nil ι
  | x :: xs, vs, h => by
    unfold evs at h
    split at h
    · rename_i v vs' h1 h2
      cases h
      exact .cons (ev_rv ht h1) (evs_rv ht h2)
    · cases h
theorem evParts_rv (ht : RVs ι t a.tmps.toList) : ∀ {xs : List (Nat × Operand)} {vs : List (Nat × V)}, evParts t xs = some vs →
    vs.map (·.1) = xs.map (·.1) ∧ RVs ι (vs.map (·.2)) (xs.map fun p => a.eval p.2)
  | [], vs, h => by cases h; exact ⟨rfl, .nil ι⟩
  | (i, x) :: xs, vs, h => by
    unfold evParts at h
    split at h
    · rename_i v vs' h1 h2
      cases h
      obtain ⟨e, r⟩ := evParts_rv ht h2
      exact ⟨by simp [e], .cons (ev_rv ht h1) r⟩
    · cases h

/-- What an operation gives. -/
def Out (P : Program) (s : Sem Next) (w : World) (ι : Mp) (h : Heap) (v : V) (h' : Heap) : Prop :=
  ∃ κ w' n, s.run P w = .ok n w' ∧ ((∃ x, n = .value x ∧ RV κ v x) ∨ (n = .skip ∧ v = undefV)) ∧ Stp ι h w κ h' w'
theorem Out.val {s : Sem Value} {v : V} (hr : Rel ι h w) (hs : ∃ x, s.run P w = .ok x w ∧ RV ι v x) : Out P (do pure (.value (← s))) w ι h v h :=
  let ⟨x, a, b⟩ := hs; ⟨ι, w, .value x, by simp [a], .inl ⟨x, rfl, b⟩, .refl hr⟩
theorem Out.val' {s : Sem Value} {v : V} (hs : ∃ κ w' x, s.run P w = .ok x w' ∧ RV κ v x ∧ Stp ι h w κ h' w') : Out P (do pure (.value (← s))) w ι h v h' :=
  let ⟨κ, w', x, a, b, c⟩ := hs; ⟨κ, w', .value x, by simp [a], .inl ⟨x, rfl, b⟩, c⟩
theorem Out.unit {s : Sem Unit} (hs : ∃ κ w', s.run P w = .ok () w' ∧ Stp ι h w κ h' w') : Out P (do s; pure .skip) w ι h undefV h' :=
  let ⟨κ, w', a, c⟩ := hs; ⟨κ, w', .skip, by simp [a], .inr ⟨rfl, rfl⟩, c⟩
theorem Free.first {m n : Nat} (hf : Free ι m n) (h : m < n) : ι m = none := hf m (Nat.le_refl _) h

theorem newC_out (hr : Rel ι h w) {cs : List V} {k : Kd} (hk : k ≠ .ro) {v : V} {r : V × Heap} (hn : newC h cs k v = some r) (hf : Free ι h.length r.2.length) (C : Array Value) (E : TypeId)
    (hcs : ∀ (i : Nat) (v : V), cs[i]? = some v → v.leaf = true ∧ ∃ c, C[i]? = some c ∧ RV ι v c) (hz : ∀ e, k = .gr e → Spare cs.length 0 C.size C := by (intro e he; cases he)) :
    Stp ι h w (ext ι h.length ⟨w.heap.size, 0, C.size, k.sz, true⟩) r.2 (w.alloc (.cells C E)) := by
  simp only [newC_eq, Option.some.injEq] at hn
  subst hn
  exact newC_run hr (hf.first (by simp)) cs k hk C E _ (.inl rfl) hcs hz
theorem cells_of {cs : List V} {C : Array Value} (hv : RVs ι cs C.toList) (hl : ∀ v ∈ cs, v.leaf = true) (i : Nat) (v : V) (hi : cs[i]? = some v) : v.leaf = true ∧ ∃ c, C[i]? = some c ∧ RV ι v c :=
  ⟨hl v (List.mem_of_getElem? hi), let ⟨c, a, b⟩ := hv.get hi; ⟨c, by simpa using a, b⟩⟩

theorem move_out (hr : Rel ι h w) (ht : RVs ι t a.tmps.toList) {x : Operand} {r : V × Heap} (hp : (ev t x).map (fun v => (v, h)) = some r) : Out P (pure (.value (a.eval x))) w ι h r.1 r.2 := by
  cases hv : ev t x with
  | none => simp [hv] at hp
  | some v => simp [hv] at hp; subst hp; exact ⟨ι, w, _, rfl, .inl ⟨_, rfl, ev_rv ht hv⟩, .refl hr⟩
theorem pick_out (hr : Rel ι h w) (ht : RVs ι t a.tmps.toList) {c x y : Operand} {r : V × Heap} (hp : p_pick P t h c x y = some r) : Out P (do pure (.value (if ← asBool (a.eval c) then a.eval x else a.eval y))) w ι h r.1 r.2 := by
  unfold p_pick at hp
  split at hp
  · rename_i hc
    have h1 := ev_rv ht hc
    cases hv : ev t x with
    | none => simp [hv] at hp
    | some v =>
      simp [hv] at hp; subst hp
      generalize hc' : a.eval c = q at h1
      cases h1
      exact ⟨ι, w, .value (a.eval x), by simp [asBool], .inl ⟨_, rfl, ev_rv ht hv⟩, .refl hr⟩
  · rename_i hc
    have h1 := ev_rv ht hc
    cases hv : ev t y with
    | none => simp [hv] at hp
    | some v =>
      simp [hv] at hp; subst hp
      generalize hc' : a.eval c = q at h1
      cases h1
      exact ⟨ι, w, .value (a.eval y), by simp [asBool], .inl ⟨_, rfl, ev_rv ht hv⟩, .refl hr⟩
  · cases hp
theorem alloc_out (hr : Rel ι h w) {e : TypeId} {r : V × Heap} (hp : p_alloc P t h e = some r) (hf : Free ι h.length r.2.length) : Out P (do pure (.value (← Instr.alloc e true (.tuple #[])))) w ι h r.1 r.2 := by
  unfold p_alloc at hp
  cases hz : zerosT P e with
  | none => simp [hz] at hp
  | some z =>
    simp only [hz, Option.bind_some] at hp
    obtain ⟨i, zv, _, _, hrv, hlen, hlf, hrun⟩ := zerosT_run hz ι
    have hs := newC_out hr (by simp) hp hf zv.cells e (cells_of hrv hlf)
    refine .val' ⟨_, _, .pointer (some ⟨w.heap.size, 0, none⟩), ?_, ?_, hs⟩
    · simp [Instr.alloc, hrun, newVar, newRow]
    · simp at hp; subst hp
      exact .ptr _ 0 _ (ext_new _ _ _)
theorem box_out (hr : Rel ι h w) (ht : RVs ι t a.tmps.toList) {e : TypeId} {x : Operand} {r : V × Heap} (hp : p_box P t h x = some r) (hf : Free ι h.length r.2.length) : Out P (do pure (.value (← Instr.box e (a.eval x)))) w ι h r.1 r.2 := by
  unfold p_box at hp
  split at hp
  · rename_i v hv
    split at hp
    · rename_i hl
      have hrv := (ev_rv ht hv).flat
      have hs := newC_out hr (by simp) hp hf (a.eval x).cells e (cells_of hrv fun v hv => List.all_eq_true.1 hl v hv)
      refine .val' ⟨_, _, .pointer (some ⟨w.heap.size, 0, none⟩), ?_, ?_, hs⟩
      · simp [Instr.box, newVar, newRow]
      · simp at hp; subst hp
        exact .ptr _ 0 _ (ext_new _ _ _)
    · cases hp
  · cases hp

theorem loadV_run (hr : Rel ι h w) {ty : TypeId} {id off : Nat} {v : V} (hl : loadV P ty h id off = some v) {pl : Pl} (hi : ι id = some pl) :
    ∃ x, (loadVar ty ⟨pl.blk, pl.off + off, none⟩).run P w = .ok x w ∧ RV ι v x := by
  unfold loadV at hl
  split at hl
  · rename_i n h1 h2
    cases hq : loadN h id off n with
    | none => simp [hq] at hl
    | some vs =>
      simp [hq] at hl; subst hl
      obtain ⟨cs, hrun, hrv, _⟩ := loadN_run (P := P) hr hq hi
      refine ⟨.agg cs.toArray, ?_, .agg _ _ (by simpa using hrv.1) fun i v c x y => hrv.2 i v c x (by simpa using y)⟩
      simp [loadVar, aggT_run h1, szT_run h2, hrun]
  · rename_i o h1 h2
    split at hl
    · rename_i v' hq
      cases hl
      obtain ⟨cs, hrun, hrv, hlen, _⟩ := loadN_run (P := P) hr hq hi
      obtain ⟨c, cs', rfl, hc, hr'⟩ := hrv.head
      obtain rfl := hr'.nil_inv
      refine ⟨c, ?_, hc⟩
      have e : (load ⟨pl.blk, pl.off + off, none⟩).run P w = .ok c w := by
        simp only [loadCells, loadCellsFrom, Sem.run_bind] at hrun
        have ha : (⟨pl.blk, pl.off + off, none⟩ : Addr).add 0 = ⟨pl.blk, pl.off + off, none⟩ := by simp [Addr.add]
        rw [ha] at hrun
        cases hq2 : (load ⟨pl.blk, pl.off + off, none⟩).run P w with
        | ok v w1 =>
          rw [hq2] at hrun
          simp at hrun
          obtain ⟨rfl, rfl⟩ := hrun
          rfl
        | halt x w1 => rw [hq2] at hrun; simp [Result.andThen] at hrun
      simp only [loadVar, Sem.run_bind, aggT_run h2, Result.andThen_ok, Bool.false_eq_true, if_false, e]
    · cases hl
  · cases hl
theorem load_out (hr : Rel ι h w) (ht : RVs ι t a.tmps.toList) {ty : TypeId} {x : Operand} {r : V × Heap} (hp : p_load P t h ty x = some r) : Out P (do pure (.value (← Instr.loadAt ty (a.eval x)))) w ι h r.1 r.2 := by
  unfold p_load at hp
  split at hp
  · rename_i id off hx
    cases hq : loadV P ty h id off with
    | none => simp [hq] at hp
    | some v =>
      simp [hq] at hp; subst hp
      have h1 := ev_rv ht hx
      generalize a.eval x = q at h1
      cases h1 with
      | ptr _ _ pl hi =>
        refine .val hr ?_
        obtain ⟨x, e, rv⟩ := loadV_run hr hq hi
        exact ⟨x, by simp [Instr.loadAt, Instr.sureAddr, e], rv⟩
  · cases hp
theorem storeV_run (hr : Rel ι h w) {ty : TypeId} {id off : Nat} {v : V} {x : Value} (hs : storeV P ty h id off v = some h') (hv : RV ι v x) {pl : Pl} (hi : ι id = some pl) :
    ∃ w', (storeVar ty ⟨pl.blk, pl.off + off, none⟩ x).run P w = .ok () w' ∧ Stp ι h w ι h' w' := by
  unfold storeV at hs
  split at hs
  · rename_i n hn
    split at hs
    · rename_i hlen
      have hf := hv.flat
      obtain ⟨w', hrun, hst⟩ := storeN_run (P := P) hr hs hi hf
      refine ⟨w', ?_, hst⟩
      have e : x.cells.size = n := by rw [← hlen, hf.1]; simp
      simp [storeVar, szT_run hn, e, hrun]
    · cases hs
  · cases hs
theorem store_out (hr : Rel ι h w) (ht : RVs ι t a.tmps.toList) {ty : TypeId} {x y : Operand} {r : V × Heap} (hp : p_store P t h ty x y = some r) : Out P (do Instr.storeAt ty (a.eval x) (a.eval y); pure .skip) w ι h r.1 r.2 := by
  unfold p_store at hp
  split at hp
  · rename_i id off v hx hy
    cases hq : storeV P ty h id off v with
    | none => simp [hq] at hp
    | some h1 =>
      simp [hq] at hp; subst hp
      have e1 := ev_rv ht hx
      have e2 := ev_rv ht hy
      generalize a.eval x = q at e1
      cases e1 with
      | ptr _ _ pl hi =>
        obtain ⟨w', hrun, hst⟩ := storeV_run hr hq e2 hi
        exact .unit ⟨ι, w', by simp [Instr.storeAt, Instr.sureAddr, hrun], hst⟩
  · cases hp
theorem nilCheck_out (hr : Rel ι h w) (ht : RVs ι t a.tmps.toList) {o : Oper} {x : Operand} (ho : o.op = .nilCheck x) {r : V × Heap} (hp : p_nilCheck P t h x = some r) : Out P (execOp a.eval o) w ι h r.1 r.2 := by
  unfold p_nilCheck at hp
  split at hp
  · cases hp
  · cases hp
  · cases hp
  · cases hp
  · rename_i v h1 h2 h3 hx
    cases hp
    have e := ev_rv ht hx
    refine ⟨ι, w, .value (a.eval x), ?_, .inl ⟨_, rfl, e⟩, .refl hr⟩
    simp only [execOp, ho]
    generalize a.eval x = q at e
    cases e <;> first | rfl | (exfalso; exact h1 rfl) | (exfalso; exact h2 rfl) | (exfalso; exact h3 rfl)
theorem binV_run {op : BinOp} {ty : TypeId} {x y : Operand} {v u r : V} {X Y : Value} (hp : binV P op ty x y v u = some r) (hX : RV ι v X) (hY : RV ι u Y) (w : World) :
    ∃ z, ((do eqGuard op ty x y X Y; binOp op ty X Y) : Sem Value).run P w = .ok z w ∧ RV ι r z := by
  unfold binV at hp
  split at hp
  · cases hX; cases hY
    rename_i k1 a1 k2 b1
    obtain ⟨z, e, rv⟩ := shiftV_run (P := P) (ι := ι) (yk := k2) hp ty w
    exact ⟨z, by simp [eqGuard, e], rv⟩
  · cases hX; cases hY
    rename_i k1 a1 k2 b1
    obtain ⟨z, e, rv⟩ := shiftV_run (P := P) (ι := ι) (yk := k2) hp ty w
    exact ⟨z, by simp [eqGuard, e], rv⟩
  · rename_i h1 h2
    cases hX; cases hY
    split at hp
    · rename_i e; subst e
      obtain ⟨z, e, rv⟩ := intV_run (P := P) (ι := ι) hp ty w h1 h2
      refine ⟨z, ?_, rv⟩
      have : ∀ k a b, (eqGuard op ty x y (.int k a) (.int k b)).run P w = .ok () w := fun k a b => by cases op <;> simp [eqGuard]
      simp [this, e]
    · cases hp
  · cases hX with | str _ A hA =>
    cases hY with | str _ B hB =>
    obtain ⟨z, e, rv⟩ := strV_run (P := P) (ι := ι) hA hB hp ty w
    refine ⟨z, ?_, rv⟩
    have : (eqGuard op ty x y (.string A) (.string B)).run P w = .ok () w := by cases op <;> simp [eqGuard]
    simp [this, e]
  · rename_i n1 n2
    split at hp
    · rename_i hg
      cases hq : eqT P 40 ty v u with
      | none => simp [hq] at hp
      | some b =>
        simp [hq] at hp; subst hp
        have e := eqT_run 40 hq hX hY 10000 (by omega) w
        have g := guardV_run (op := .eql) hg hX hY w
        refine ⟨.bool b, ?_, .bool b⟩
        simp only [Sem.run_bind, g, Result.andThen_ok]
        cases hX <;> cases hY <;> first
          | (simp [binOp, Op.equal, Op.maxDepth, e]; done)
          | exact absurd rfl (n1 _ _ _ _ rfl)
          | (exfalso; exact n1 _ _ _ _ rfl rfl)
          | (exfalso; exact n2 _ _ rfl rfl)
    · cases hp
  · rename_i n1 n2
    split at hp
    · rename_i hg
      cases hq : eqT P 40 ty v u with
      | none => simp [hq] at hp
      | some b =>
        simp [hq] at hp; subst hp
        have e := eqT_run 40 hq hX hY 10000 (by omega) w
        have g := guardV_run (op := .neq) hg hX hY w
        refine ⟨.bool (!b), ?_, .bool _⟩
        simp only [Sem.run_bind, g, Result.andThen_ok]
        cases hX <;> cases hY <;> first
          | (simp [binOp, Op.equal, Op.maxDepth, e]; done)
          | exact absurd rfl (n1 _ _ _ _ rfl)
          | (exfalso; exact n1 _ _ _ _ rfl rfl)
          | (exfalso; exact n2 _ _ rfl rfl)
    · cases hp
  · cases hp
theorem binOp_out (hr : Rel ι h w) (ht : RVs ι t a.tmps.toList) {op : BinOp} {ty : TypeId} {x y : Operand} {r : V × Heap} (hp : p_binOp P t h op ty x y = some r) :
    Out P (do pure (.value (← (do eqGuard op ty x y (a.eval x) (a.eval y); binOp op ty (a.eval x) (a.eval y) : Sem Value)))) w ι h r.1 r.2 := by
  unfold p_binOp at hp
  split at hp
  · rename_i v u hx hy
    cases hq : binV P op ty x y v u with
    | none => simp [hq] at hp
    | some z =>
      simp [hq] at hp; subst hp
      exact .val hr (binV_run hq (ev_rv ht hx) (ev_rv ht hy) w)
  · cases hp
theorem unOp_out (hr : Rel ι h w) (ht : RVs ι t a.tmps.toList) {op : UnOp} {x : Operand} {r : V × Heap} (hp : p_unOp P t h op x = some r) : Out P (do pure (.value (← Op.unary op (a.eval x)))) w ι h r.1 r.2 := by
  unfold p_unOp at hp
  split at hp
  · rename_i v hx
    cases hq : unV op v with
    | none => simp [hq] at hp
    | some z =>
      simp [hq] at hp; subst hp
      refine .val hr ?_
      have e := ev_rv ht hx
      generalize a.eval x = q at e
      unfold unV at hq
      split at hq
      · cases e
        split at hq
        · simp [intV] at hq; subst hq; exact ⟨_, by simp [Op.unary, Op.intArith], .int _ _⟩
        · simp only [intV, Option.some.injEq] at hq; subst hq; exact ⟨_, by simp only [Op.unary, Op.intBits]; rfl, .int _ _⟩
        · cases hq
      · cases e
        split at hq
        · cases hq; exact ⟨_, by simp [Op.unary], .bool _⟩
        · cases hq
      · cases hq
  · cases hp
theorem makeInterface_out (hr : Rel ι h w) (ht : RVs ι t a.tmps.toList) {ty : TypeId} {x : Operand} {r : V × Heap} (hp : p_makeInterface P t h ty x = some r) : Out P (do pure (.value (← Instr.makeInterface ty (a.eval x)))) w ι h r.1 r.2 := by
  unfold p_makeInterface at hp
  split at hp
  · rename_i v d hx hd
    split at hp
    · cases hp
    · rename_i hn
      cases hp
      refine .val hr ⟨.iface ty (a.eval x), ?_, .iface _ _ _ (ev_rv ht hx)⟩
      simp only [Instr.makeInterface, Sem.run_bind, under_run hd, Result.andThen_ok]
      cases d <;> first | rfl | exact absurd rfl (hn _)
  · cases hp
theorem makeFunc_out (hr : Rel ι h w) (ht : RVs ι t a.tmps.toList) {f : FuncId} {x y : Array Operand} {r : V × Heap} (hp : p_makeFunc P t h f x y = some r) : Out P (do pure (.value (← Instr.makeFunc (.func f) (x.map a.eval) (y.map a.eval)))) w ι h r.1 r.2 := by
  unfold p_makeFunc at hp
  split at hp
  · rename_i u v hu hv
    cases hp
    have e1 := evs_rv ht hu
    have e2 := evs_rv ht hv
    refine .val hr ⟨.func (.func f) (x.map a.eval) (y.map a.eval), rfl, .func f u v _ _ (by simpa using e1.1) (by simpa using e2.1) (fun i v c p q => e1.2 i v c p ?_) (fun i v c p q => e2.2 i v c p ?_)⟩
    · rw [← q]; simp
    · rw [← q]; simp
  · cases hp
theorem makeMap_out (hr : Rel ι h w) {ty : TypeId} {r : V × Heap} (hp : p_makeMap P t h = some r) (hf : Free ι h.length r.2.length) : Out P (do pure (.value (← Instr.makeMap ty (Option.map a.eval none)))) w ι h r.1 r.2 := by
  unfold p_makeMap at hp
  simp at hp; subst hp
  have hs := Stp.new hr (hf.first (by simp)) (.map [] 0) (.map #[] 0) ⟨w.heap.size, 0, 0, 0, true⟩ rfl ⟨#[], heap_alloc_new w _, rfl, fun i k v b e x y => by simp at x⟩
  exact .val' ⟨_, _, .map (some w.heap.size), by simp [Instr.makeMap], .map _ _ (ext_new _ _ _), hs⟩
theorem fieldOf_spec {s : TypeId} {f : Nat} {fd : Field} (h : fieldOf P s f = some fd) : ∃ fields, P.underlying s = some (.struct fields) ∧ fields[f]? = some fd := by
  unfold fieldOf at h
  split at h
  · rename_i fs e; exact ⟨fs, e, h⟩
  · cases h
theorem fieldAddr_out (hr : Rel ι h w) (ht : RVs ι t a.tmps.toList) {s : TypeId} {x : Operand} {f : Nat} {r : V × Heap} (hp : p_fieldAddr P t h s x f = some r) : Out P (do pure (.value (← Instr.fieldAt s (a.eval x) f))) w ι h r.1 r.2 := by
  unfold p_fieldAddr at hp
  split at hp
  · rename_i id off fd hx hfd
    split at hp
    · rename_i n hn
      cases hp
      have e := ev_rv ht hx
      obtain ⟨fs, hu, hg⟩ := fieldOf_spec hfd
      generalize a.eval x = q at e
      cases e with
      | ptr _ _ pl hi =>
        refine .val hr ⟨.pointer (some ⟨pl.blk, pl.off + (off + fd.offset), none⟩), ?_, .ptr _ _ _ hi⟩
        simp only [Instr.fieldAt, Sem.run_bind, under_run hu, Result.andThen_ok, hg, Instr.sureAddr, Sem.run_pure, fieldPlace, szT_run hn]
        simp [addr_add, Nat.add_assoc]
    · cases hp
  · cases hp
theorem field_out (hr : Rel ι h w) (ht : RVs ι t a.tmps.toList) {s : TypeId} {x : Operand} {f : Nat} {r : V × Heap} (hp : p_field P t h s x f = some r) : Out P (do pure (.value (← Instr.field s (a.eval x) f))) w ι h r.1 r.2 := by
  unfold p_field at hp
  split at hp
  · rename_i cs fd hx hfd
    cases hq : partV P fd.type cs fd.offset with
    | none => simp [hq] at hp
    | some v =>
      simp [hq] at hp; subst hp
      have e := ev_rv ht hx
      obtain ⟨fs, hu, hg⟩ := fieldOf_spec hfd
      generalize a.eval x = q at e
      cases e with
      | agg _ C hl hc =>
        obtain ⟨z, e, rv⟩ := partV_run (P := P) hq (C := C) ⟨by simpa using hl, fun i v c p q => hc i v c p (by simpa using q)⟩ w
        exact .val hr ⟨z, by simp [Instr.field, under_run hu, hg, asAgg, e], rv⟩
  · cases hp
theorem idxOf_rv {v : V} {x : Value} {i : Int} (h : idxOf v = some i) (hv : RV ι v x) : ∃ k, x = .int k i := by
  cases v <;> simp [idxOf] at h
  subst h; cases hv; exact ⟨_, rfl⟩
theorem indexAddr_out (hr : Rel ι h w) (ht : RVs ι t a.tmps.toList) {ty : TypeId} {x y : Operand} {r : V × Heap} (hp : p_indexAddr P t h ty x y = some r) : Out P (do pure (.value (← Instr.indexAt ty (a.eval x) (a.eval y)))) w ι h r.1 r.2 := by
  unfold p_indexAddr at hp
  split at hp
  · rename_i u v hx hy
    cases hq : indexAddrV P ty u v with
    | none => simp [hq] at hp
    | some z =>
      simp [hq] at hp; subst hp
      have e1 := ev_rv ht hx
      have e2 := ev_rv ht hy
      unfold indexAddrV at hq
      split at hq
      · rename_i i el id off len c hi hu
        obtain ⟨k, hk⟩ := idxOf_rv hi e2
        split at hq
        · rename_i n hn
          split at hq
          · rename_i hc
            cases hq
            obtain ⟨A, c', pl, hX, hpl, _, _, _, hA⟩ := e1.slice_at
            have hA' := hA (by omega)
            refine .val hr ⟨.pointer (some ⟨pl.blk, pl.off + (off + i.toNat * n), none⟩), ?_, .ptr _ _ _ hpl⟩
            simp [Instr.indexAt, hk, hX, asIntOf, under_run hu, hc, szT_run hn, hA', addr_add, Nat.add_assoc]
          · cases hq
        · cases hq
      · rename_i i len el id off hi hu
        obtain ⟨k, hk⟩ := idxOf_rv hi e2
        split at hq
        · rename_i n hn
          split at hq
          · rename_i hc
            cases hq
            generalize a.eval x = q at e1
            cases e1 with
            | ptr _ _ pl hpl =>
              refine .val hr ⟨.pointer (some ⟨pl.blk, pl.off + (off + i.toNat * n), none⟩), ?_, .ptr _ _ _ hpl⟩
              simp [Instr.indexAt, hk, asIntOf, under_run hu, hc, szT_run hn, addr_add, Nat.add_assoc, Instr.sureAddr]
          · cases hq
        · cases hq
      · cases hq
  · cases hp
theorem index_out (hr : Rel ι h w) (ht : RVs ι t a.tmps.toList) {ty : TypeId} {x y : Operand} {r : V × Heap} (hp : p_index P t h ty x y = some r) : Out P (do pure (.value (← Instr.index ty (a.eval x) (a.eval y)))) w ι h r.1 r.2 := by
  unfold p_index at hp
  split at hp
  · rename_i u v hx hy
    cases hq : indexV P ty u v with
    | none => simp [hq] at hp
    | some z =>
      simp [hq] at hp; subst hp
      have e1 := ev_rv ht hx
      have e2 := ev_rv ht hy
      unfold indexV at hq
      split at hq
      · rename_i i s hi hu
        obtain ⟨k, hk⟩ := idxOf_rv hi e2
        split at hq
        · rename_i h0
          cases hs : s[i.toNat]? with
          | none => simp [hs] at hq
          | some b =>
            simp [hs] at hq; subst hq
            generalize a.eval x = q at e1
            cases e1 with
            | str _ B hB =>
              have hlt : i.toNat < B.size := by
                rw [← bytesOf_length, hB]; exact (List.getElem?_eq_some_iff.1 hs).1
              have hb : ((B[i.toNat]'hlt).toNat : Int) = b := by
                rw [← hB] at hs
                have hl : i.toNat < B.data.toList.length := by simpa using hlt
                simp only [bytesOf, List.getElem?_map, List.getElem?_eq_getElem hl, Option.map_some, Option.some.injEq] at hs
                rw [← hs]; rfl
              refine .val hr ⟨.int .u8 b, ?_, .int _ _⟩
              have hg : B[i.toNat]? = some (B[i.toNat]'hlt) := getElem?_pos B _ hlt
              simp [Instr.index, hk, asIntOf, under_run hu, h0, hg, hb]
        · cases hq
      · rename_i i len el cs hi hu
        obtain ⟨k, hk⟩ := idxOf_rv hi e2
        split at hq
        · rename_i n hn
          split at hq
          · rename_i hc
            generalize a.eval x = q at e1
            cases e1 with
            | agg _ C hl hcs =>
              obtain ⟨z, e, rv⟩ := partV_run (P := P) hq (C := C) ⟨by simpa using hl, fun i v c p q => hcs i v c p (by simpa using q)⟩ w
              exact .val hr ⟨z, by simp [Instr.index, hk, asIntOf, under_run hu, hc, szT_run hn, e], rv⟩
          · cases hq
        · cases hq
      · cases hq
  · cases hp
theorem extract_out (hr : Rel ι h w) (ht : RVs ι t a.tmps.toList) {x : Operand} {i : Nat} {r : V × Heap} (hp : p_extract P t h x i = some r) : Out P (do pure (.value (← Instr.extract (a.eval x) i))) w ι h r.1 r.2 := by
  unfold p_extract at hp
  split at hp
  · rename_i vs hx
    cases hq : vs[i]? with
    | none => simp [hq] at hp
    | some v =>
      simp [hq] at hp; subst hp
      have e := ev_rv ht hx
      generalize a.eval x = q at e
      cases e with
      | tuple _ C hl hc =>
        have hlt : i < C.size := by rw [← hl]; exact (List.getElem?_eq_some_iff.1 hq).1
        exact .val hr ⟨C[i], by simp [Instr.extract, hlt], hc i v _ hq (Array.getElem?_eq_getElem hlt)⟩
  · cases hp
end
end Go.Proofs.YtcaolnmpldbkjaaGreatA
