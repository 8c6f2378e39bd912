/- Words of this session: what each operation asks for, as rules that rewrite; slices that are read; heaps that grow. -/
import Derived.Test.YtcaolnmpldbkjaaGreatAx19
namespace Go.Proofs.YtcaolnmpldbkjaaGreatA
open Go Go.RowKit
set_option linter.unusedVariables false
set_option linter.unusedSimpArgs false

/-! ### temporaries -/
theorem upd_eq (τ : Tp) (d : Nat) (v : V) : upd τ d v d = v := by simp [upd]
theorem upd_ne {τ : Tp} {d i : Nat} {v : V} (h : ¬ i = d) : upd τ d v i = τ i := by simp [upd, h]
theorem argF_zero (a : V) (l : List V) : argF (a :: l) 0 = a := (rfl)
theorem argF_succ (a : V) (l : List V) (i : Nat) : argF (a :: l) (i + 1) = argF l i := (rfl)
theorem argF_nil (i : Nat) : argF [] i = undefV := (rfl)
theorem putF_some (τ : Tp) (d : Nat) (v : V) : putF τ (some d) v = upd τ d v := (rfl)
theorem putF_none (τ : Tp) (v : V) : putF τ none v = τ := (rfl)
section
variable (P : Program) (H : Hooks) (C : CallF) (n : Nat) (τ : Tp) (h : Heap)
/-! ### code -/
theorem wpc_skip (Q : Post) : wpc P H n .skip Q τ h = Q .norm τ h := (rfl)
theorem wpc_ret (Q : Post) : wpc P H n .ret Q τ h = Q .ret τ h := (rfl)
theorem wpc_exit (i : Nat) (Q : Post) : wpc P H n (.exit i) Q τ h = Q (.exit i) τ h := (rfl)
theorem wpc_seq (a b : Code) (Q : Post) : wpc P H n (.seq a b) Q τ h = wpc P H n a (thenQ (fun τ h => wpc P H n b Q τ h) Q) τ h := (rfl)
theorem wpc_block (i : Nat) (b : Code) (Q : Post) : wpc P H n (.block i b) Q τ h = wpc P H n b (outQ i Q) τ h := (rfl)
theorem wpc_loop (b : Code) (Q : Post) : wpc P H n (.loop b) Q τ h = W P H n (.loop b) Q τ h := (rfl)
theorem wpc_region (i : Nat) (l : List Oper) (Q : Post) : wpc P H n (.region i l.toArray false) Q τ h = wpo P H n l.toArray l (Q .norm) τ h := (rfl)
theorem wpc_drawn (i : Nat) (ops : Array Oper) (Q : Post) : wpc P H n (.region i ops true) Q τ h = W P H n (.region i ops true) Q τ h := (rfl)
theorem wpc_cond {i : Nat} (hi : i < n) (a b : Code) (Q : Post) : wpc P H n (.cond (.tmp i) a b) Q τ h = WC (τ i) (wpc P H n a Q τ h) (wpc P H n b Q τ h) := by
  show (∃ v, opF n τ (.tmp i) = some v ∧ WC v (wpc P H n a Q τ h) (wpc P H n b Q τ h)) = _
  simp [opF, hi]
theorem thenQ_norm (K : Tp → Heap → Prop) (Q : Post) : thenQ K Q .norm τ h = K τ h := (rfl)
theorem thenQ_ret (K : Tp → Heap → Prop) (Q : Post) : thenQ K Q .ret τ h = Q .ret τ h := (rfl)
theorem thenQ_exit (K : Tp → Heap → Prop) (Q : Post) (i : Nat) : thenQ K Q (.exit i) τ h = Q (.exit i) τ h := (rfl)
theorem outQ_norm (Q : Post) (i : Nat) : outQ i Q .norm τ h = Q .norm τ h := (rfl)
theorem outQ_ret (Q : Post) (i : Nat) : outQ i Q .ret τ h = Q .ret τ h := (rfl)
theorem outQ_exit (Q : Post) (i : Nat) : outQ i Q (.exit i) τ h = Q .norm τ h := by simp [outQ]
theorem outQ_exit_ne {i j : Nat} (hij : ¬ j = i) (Q : Post) : outQ i Q (.exit j) τ h = Q (.exit j) τ h := by simp [outQ, hij]
theorem wpo_nil (ops : Array Oper) (K : Tp → Heap → Prop) : wpo P H n ops [] K τ h = K τ h := (rfl)
theorem wpo_cons (ops : Array Oper) (l : List Oper) (K : Tp → Heap → Prop) (d : Option Tmp) (op : Op) (ty : TypeId) (pos : String) (after : Array Edge) :
    wpo P H n ops (⟨d, op, ty, pos, after, none⟩ :: l) K τ h = WR (primV P (callE P H) ⟨d, op, ty, pos, after, none⟩ (T n τ) h) fun v h => wpo P H n ops l K (putF τ d v) h := (rfl)
theorem wpo_guard (ops : Array Oper) (j : Nat) (b : Bool) (l : List Oper) (K : Tp → Heap → Prop) (d : Option Tmp) (op : Op) (ty : TypeId) (pos : String) (after : Array Edge) :
    wpo P H n ops (⟨d, op, ty, pos, after, some (j, b)⟩ :: l) K τ h = WG (gV n τ ops j) b (WR (primV P (callE P H) ⟨d, op, ty, pos, after, none⟩ (T n τ) h) fun v h => wpo P H n ops l K (putF τ d v) h) (wpo P H n ops l K (putF τ d undefV) h) := (rfl)
theorem backQ_ret (rs : List ResultVar) (K : V → Heap → Prop) : backQ P n rs K .ret τ h = ∃ vs, resV P (T n τ) h rs = some vs ∧ K (oneV vs) h := (rfl)
theorem backQ_norm (rs : List ResultVar) (K : V → Heap → Prop) : backQ P n rs K .norm τ h = ∃ vs, resV P (T n τ) h rs = some vs ∧ K (oneV vs) h := (rfl)

/-! ### operations -/
variable (d : Option Tmp) (ty : TypeId) (pos : String) (after : Array Edge) (g : Option (Nat × Bool)) (t : List V)
theorem pv_move (x : Operand) : primV P C ⟨d, .move x, ty, pos, after, g⟩ t h = (ev t x).map fun v => (v, h) := (rfl)
theorem pv_assign (x : Operand) : primV P C ⟨d, .assign x, ty, pos, after, g⟩ t h = (ev t x).map fun v => (v, h) := (rfl)
theorem pv_pick (c a b : Operand) : primV P C ⟨d, .pick c a b, ty, pos, after, g⟩ t h = p_pick P t h c a b := (rfl)
theorem pv_alloc (e : TypeId) : primV P C ⟨d, .alloc e, ty, pos, after, g⟩ t h = p_alloc P t h e := (rfl)
theorem pv_box (e : TypeId) (x : Operand) : primV P C ⟨d, .box e x, ty, pos, after, g⟩ t h = p_box P t h x := (rfl)
theorem pv_build (e : TypeId) (ps : Array (Nat × Operand)) : primV P C ⟨d, .build e ps, ty, pos, after, g⟩ t h = p_build P t h e ps := (rfl)
theorem pv_buildSlice (e : TypeId) (m : Nat) (ps : Array (Nat × Operand)) : primV P C ⟨d, .buildSlice e m ps, ty, pos, after, g⟩ t h = p_buildSlice P t h e m ps := (rfl)
theorem pv_load (e : TypeId) (x : Operand) : primV P C ⟨d, .load e x, ty, pos, after, g⟩ t h = p_load P t h e x := (rfl)
theorem pv_store (e : TypeId) (x y : Operand) : primV P C ⟨d, .store e x y, ty, pos, after, g⟩ t h = p_store P t h e x y := (rfl)
theorem pv_nilCheck (x : Operand) : primV P C ⟨d, .nilCheck x, ty, pos, after, g⟩ t h = p_nilCheck P t h x := (rfl)
theorem pv_binOp (op : BinOp) (e yt : TypeId) (x y : Operand) : primV P C ⟨d, .binOp op e x y yt, ty, pos, after, g⟩ t h = p_binOp P t h op e x y := (rfl)
theorem pv_unOp (op : UnOp) (e : TypeId) (x : Operand) : primV P C ⟨d, .unOp op e x, ty, pos, after, g⟩ t h = p_unOp P t h op x := (rfl)
theorem pv_convert (a b : TypeId) (x : Operand) : primV P C ⟨d, .convert a b x, ty, pos, after, g⟩ t h = p_convert P t h a b x := (rfl)
theorem pv_makeInterface (e : TypeId) (x : Operand) : primV P C ⟨d, .makeInterface e x, ty, pos, after, g⟩ t h = p_makeInterface P t h e x := (rfl)
theorem pv_makeFunc (f : FuncId) (a b : Array Operand) : primV P C ⟨d, .makeFunc (.func f) a b, ty, pos, after, g⟩ t h = p_makeFunc P t h f a b := (rfl)
theorem pv_makeMap (e : TypeId) : primV P C ⟨d, .makeMap e none, ty, pos, after, g⟩ t h = newV h (.map [] 0) (.map (some h.length)) := (rfl)
theorem pv_makeSlice (e : TypeId) (l c : Operand) : primV P C ⟨d, .makeSlice e l c, ty, pos, after, g⟩ t h = p_makeSlice P t h e l c := (rfl)
theorem pv_slice (e : TypeId) (x : Operand) (lo hi mx : Option Operand) : primV P C ⟨d, .slice e x lo hi mx, ty, pos, after, g⟩ t h = p_slice P t h e x lo hi mx := (rfl)
theorem pv_fieldAddr (s : TypeId) (x : Operand) (f : Nat) : primV P C ⟨d, .fieldAddr s x f, ty, pos, after, g⟩ t h = p_fieldAddr P t h s x f := (rfl)
theorem pv_field (s : TypeId) (x : Operand) (f : Nat) : primV P C ⟨d, .field s x f, ty, pos, after, g⟩ t h = p_field P t h s x f := (rfl)
theorem pv_indexAddr (s : TypeId) (x i : Operand) : primV P C ⟨d, .indexAddr s x i, ty, pos, after, g⟩ t h = p_indexAddr P t h s x i := (rfl)
theorem pv_index (s : TypeId) (x i : Operand) : primV P C ⟨d, .index s x i, ty, pos, after, g⟩ t h = p_index P t h s x i := (rfl)
theorem pv_lookup (s : TypeId) (m k : Operand) (ok : Bool) : primV P C ⟨d, .lookup s m k ok, ty, pos, after, g⟩ t h = p_lookup P t h s m k ok := (rfl)
theorem pv_mapUpdate (s : TypeId) (m k v : Operand) : primV P C ⟨d, .mapUpdate s m k v, ty, pos, after, g⟩ t h = p_mapUpdate P t h s m k v := (rfl)
theorem pv_insert (s : TypeId) (m k v : Operand) : primV P C ⟨d, .insert s m k v, ty, pos, after, g⟩ t h = p_mapUpdate P t h s m k v := (rfl)
theorem pv_extract (x : Operand) (i : Nat) : primV P C ⟨d, .extract x i, ty, pos, after, g⟩ t h = p_extract P t h x i := (rfl)
theorem pv_builtin (b : Builtin) (args : Array Operand) (ts : Array TypeId) : primV P C ⟨d, .call ⟨.builtin b, args, ts⟩, ty, pos, after, g⟩ t h = match evs t args.toList with
    | some args => builtinV P b ts.toList args h
    | none => none := (rfl)
theorem pv_call (f : Operand) (args : Array Operand) (ts : Array TypeId) : primV P C ⟨d, .call ⟨.value f, args, ts⟩, ty, pos, after, g⟩ t h = match ev t f with
    | some f => argsV f (evs t args.toList) C h
    | none => none := (rfl)
theorem ev_tmp {n i : Nat} {τ : Tp} (hi : i < n) : ev (T n τ) (.tmp i) = some (τ i) := by rw [ev, T_get hi]
theorem ev_const (v : Value) : ev t (.const v) = constV v := (rfl)
theorem ev_func (f : FuncId) : ev t (.func f) = some (.func f [] []) := (rfl)
theorem evs_nil : evs t [] = some [] := (rfl)
theorem evs_cons (x : Operand) (xs : List Operand) : evs t (x :: xs) = match ev t x, evs t xs with
    | some v, some vs => some (v :: vs)
    | _, _ => none := (rfl)
theorem constV_int (k : IntKind) (i : Int) : constV (.int k i) = some (.int k i) := (rfl)
theorem constV_bool (b : Bool) : constV (.bool b) = some (.bool b) := (rfl)
theorem constV_str (s : ByteArray) : constV (.string s) = some (.str (bytesOf s)) := (rfl)
theorem constV_nil : constV (.slice none 0 0) = some (.slice none 0 (some 0)) := (rfl)
theorem constV_ptr : constV (.pointer none) = some (.ptr none) := (rfl)
theorem constV_nilFunc : constV .nilFunc = some .nilFunc := (rfl)
theorem constV_map : constV (.map none) = some (.map none) := (rfl)
theorem constV_iface : constV .nilIface = some .nilIface := (rfl)
theorem resV_tmp {n i : Nat} {τ : Tp} (hi : i < n) (l : List ResultVar) : resV P (T n τ) h (.tmp i :: l) = (resV P (T n τ) h l).map fun vs => τ i :: vs := by rw [resV, T_get hi]
theorem resV_cell {n i : Nat} {τ : Tp} (hi : i < n) (ty : TypeId) (l : List ResultVar) : resV P (T n τ) h (.cell i ty :: l) = match τ i with
  | .ptr (some (id, off)) => match loadV P ty h id off, resV P (T n τ) h l with
      | some v, some vs => some (v :: vs)
      | _, _ => none
  | _ => none := by rw [resV, T_get hi]; rfl
theorem resV_nil : resV P t h [] = some [] := (rfl)
theorem argsV_func (f : FuncId) (a c args : List V) : argsV (.func f a c) (some args) C h = C f (a ++ args ++ c) h := (rfl)
end

/-! ### numbers -/
section
variable (P : Program) (ty : TypeId) (x y : Operand) (k : IntKind) (a b : Int)
theorem bin_add : binV P .add ty x y (.int k a) (.int k b) = some (.int k (k.wrap (a + b))) := by simp [binV, intV]
theorem bin_sub : binV P .sub ty x y (.int k a) (.int k b) = some (.int k (k.wrap (a - b))) := by simp [binV, intV]
theorem bin_mul : binV P .mul ty x y (.int k a) (.int k b) = some (.int k (k.wrap (a * b))) := by simp [binV, intV]
theorem bin_quo {b : Int} (hb : ¬ b = 0) : binV P .quo ty x y (.int k a) (.int k b) = some (.int k (k.wrap (a.tdiv b))) := by simp [binV, intV, hb]
theorem bin_rem {b : Int} (hb : ¬ b = 0) : binV P .rem ty x y (.int k a) (.int k b) = some (.int k (a.tmod b)) := by simp [binV, intV, hb]
theorem bin_and : binV P .and ty x y (.int k a) (.int k b) = some (.int k (k.wrap (BitVec.ofInt k.bits a &&& BitVec.ofInt k.bits b).toNat)) := by simp [binV, intV]
theorem bin_or : binV P .or ty x y (.int k a) (.int k b) = some (.int k (k.wrap (BitVec.ofInt k.bits a ||| BitVec.ofInt k.bits b).toNat)) := by simp [binV, intV]
theorem bin_xor : binV P .xor ty x y (.int k a) (.int k b) = some (.int k (k.wrap (BitVec.ofInt k.bits a ^^^ BitVec.ofInt k.bits b).toNat)) := by simp [binV, intV]
theorem bin_eql : binV P .eql ty x y (.int k a) (.int k b) = some (.bool (decide (a = b))) := by simp only [binV, intV, if_true]; congr 2
theorem bin_neq : binV P .neq ty x y (.int k a) (.int k b) = some (.bool (decide (¬ a = b))) := by
  simp only [binV, intV, if_true]; by_cases h : a = b <;> simp [h]
theorem bin_lss : binV P .lss ty x y (.int k a) (.int k b) = some (.bool (decide (a < b))) := by simp [binV, intV]
theorem bin_leq : binV P .leq ty x y (.int k a) (.int k b) = some (.bool (decide (a ≤ b))) := by simp [binV, intV]
theorem bin_gtr : binV P .gtr ty x y (.int k a) (.int k b) = some (.bool (decide (b < a))) := by simp [binV, intV]
theorem bin_geq : binV P .geq ty x y (.int k a) (.int k b) = some (.bool (decide (b ≤ a))) := by simp [binV, intV]
theorem un_not (b : Bool) : unV .not (.bool b) = some (.bool !b) := (rfl)
theorem not_dec (p : Prop) [Decidable p] : (!decide p) = decide (¬ p) := by by_cases h : p <;> simp [h]
theorem wrap_in {a : Int} (h1 : -9223372036854775808 ≤ a) (h2 : a ≤ 9223372036854775807) : IntKind.i64.wrap a = a := by
  have h3 : IntKind.i64.bits = 64 := (rfl)
  have h4 : IntKind.i64.signed = true := (rfl)
  unfold IntKind.wrap
  first
  | (simp [h3, h4]; omega)
  | (simp only [h3, h4]; split <;> omega)
end
end Go.Proofs.YtcaolnmpldbkjaaGreatA
