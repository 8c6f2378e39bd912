/- Words of this session: functions without a text that the second reading is told by hand: the comparing of strings. -/
import Derived.Test.YtcaolnmpldbkjaaGreatAx23
import Derived.Laws.Externs
import GoSem.Extern.BytealgCompare
namespace Go.Proofs.YtcaolnmpldbkjaaGreatA
open Go Go.RowKit
set_option linter.unusedVariables false
set_option linter.unusedSimpArgs false

def cmpL (a b : List Int) : Int := if lessL a b then -1 else if a = b then 0 else 1
def bts (l : List UInt8) : List Int := l.map fun b => (b.toNat : Int)
theorem bts_inj : ∀ {a b : List UInt8}, bts a = bts b → a = b
  | [], [], _ => rfl
  | [], _ :: _, h => by simp [bts] at h
  | _ :: _, [], h => by simp [bts] at h
  | x :: a, y :: b, h => by
    simp only [bts, List.map_cons, List.cons.injEq] at h
    have h1 : x = y := by apply UInt8.toNat_inj.1; omega
    rw [h1, bts_inj h.2]
theorem cmp_lists : ∀ (a b : List UInt8), (match (List.range (min a.length b.length)).find? fun i => a[i]! != b[i]! with
    | some i => if a[i]! < b[i]! then (-1 : Int) else 1
    | none => if a.length < b.length then -1 else if a.length > b.length then 1 else 0) = cmpL (bts a) (bts b)
  | [], [] => rfl
  | [], y :: b => by simp [cmpL, bts, lessL]
  | x :: a, [] => by simp [cmpL, bts, lessL]
  | x :: a, y :: b => by
    have ih := cmp_lists a b
    have e1 : min (x :: a).length (y :: b).length = min a.length b.length + 1 := by simp only [List.length_cons]; omega
    rw [e1, List.range_succ_eq_map, List.find?_cons]
    by_cases hxy : x = y
    · subst hxy
      have : ((x :: a)[0]! != (x :: b)[0]!) = false := by simp
      rw [this]
      simp only [List.find?_map, Function.comp_def]
      have e2 : (fun i => (x :: a)[i + 1]! != (x :: b)[i + 1]!) = fun i => a[i]! != b[i]! := by funext i; simp
      have e3 : cmpL (bts (x :: a)) (bts (x :: b)) = cmpL (bts a) (bts b) := by
        have h1 : lessL (bts (x :: a)) (bts (x :: b)) = lessL (bts a) (bts b) := by simp [bts, lessL]
        have h2 : bts (x :: a) = bts (x :: b) ↔ bts a = bts b := by simp [bts]
        unfold cmpL
        rw [h1]
        by_cases h : bts a = bts b
        · rw [if_pos h, if_pos (h2.2 h)]
        · rw [if_neg h, if_neg (fun q => h (h2.1 q))]
      simp only [Nat.succ_eq_add_one] at *
      rw [e2, e3, ← ih]
      cases (List.range (min a.length b.length)).find? fun i => a[i]! != b[i]! with
      | none => simp
      | some i => simp
    · have : ((x :: a)[0]! != (y :: b)[0]!) = true := by simp [hxy]
      rw [this]
      simp only [List.getElem!_cons_zero]
      have hne : ¬ (x.toNat : Int) = y.toNat := fun h => hxy (UInt8.toNat_inj.1 (by omega))
      simp only [cmpL, bts, lessL, List.map_cons, List.cons.injEq, hne, false_and, if_false]
      by_cases hlt : x < y
      · have : (x.toNat : Int) < y.toNat := by have := UInt8.lt_iff_toNat_lt.1 hlt; omega
        simp [hlt, this]
      · have : ¬ (x.toNat : Int) < y.toNat := by have h4 : y.toNat ≤ x.toNat := Nat.le_of_not_lt (fun h => hlt (UInt8.lt_iff_toNat_lt.2 h)); omega
        simp [hlt, this, hne]
theorem cmp_eq (a b : ByteArray) : Extern.BytealgCompare.cmp a b = cmpL (Go.Proofs.YtcaolnmpldbkjaaGreatA.bytesOf a) (Go.Proofs.YtcaolnmpldbkjaaGreatA.bytesOf b) := by
  have h1 : ∀ s : ByteArray, Go.Proofs.YtcaolnmpldbkjaaGreatA.bytesOf s = bts s.data.toList := fun s => rfl
  have h2 : ∀ s : ByteArray, s.size = s.data.toList.length := fun s => rfl
  have h3 : ∀ (s : ByteArray) (i : Nat), s[i]! = s.data.toList[i]! := fun s i => by
    rw [Array.getElem!_toList]
    by_cases h : i < s.size
    · rw [getElem!_pos s i h, getElem!_pos s.data i h]; rfl
    · rw [getElem!_neg s i h, getElem!_neg s.data i h]
  rw [h1, h1, ← cmp_lists]
  unfold Extern.BytealgCompare.cmp
  simp only [h2, h3]
  rfl
noncomputable def cmpHook (args : List V) (h : Heap) : Option (V × Heap) := match args with
  | [.str a, .str b] => some (.int .i64 (cmpL a b), h)
  | _ => none
theorem cmpHook_mono {args : List V} {h : Heap} {r : V × Heap} (q : cmpHook args h = some r) : Mono h r.2 := by
  unfold cmpHook at q
  split at q
  · cases q; exact Mono.refl _
  · cases q
theorem cmpHook_goes {P : Program} {f : FuncId} {fn : Func} (hf : P.funcs[f]? = some fn) (hname : (fn.name == "runtime.NumGoroutine") = false) (hb : fn.body.isNone = true) (hn : Extern.findNext fn = none)
    (he : Extern.find fn = some Extern.BytealgCompare.compare) {args : List V} {h : Heap} {v : V} {h' : Heap} (q : cmpHook args h = some (v, h')) (ι : Mp) (w : World) (A : Array Value) (hr : Rel ι h w) (ha : RVs ι args A.toList) (hfr : Free ι h.length h'.length) :
    CallsTo P f A w fun x w' => ∃ κ, RV κ v x ∧ Stp ι h w κ h' w' := by
  unfold cmpHook at q
  split at q
  · rename_i a b
    cases q
    right
    obtain ⟨x, l1, e1, hx, hl1⟩ := ha.head
    obtain ⟨y, l2, e2, hy, hl2⟩ := hl1.head
    have e3 := hl2.nil_inv
    subst e3; subst e2
    have hA : A = #[x, y] := by cases A; simp_all
    subst hA
    cases hx with
    | str _ s hs =>
    cases hy with
    | str _ s' hs' =>
    refine ⟨.int .i64 (cmpL a b), w, ?_, ι, .int _ _, .refl hr⟩
    rw [run_callFunc_extern hf hname hb hn he]
    subst hs; subst hs'
    rw [show Extern.BytealgCompare.compare #[.string s, .string s'] = (do pure (goInt (Extern.BytealgCompare.cmp (← Extern.Bytes.bytesOf (.string s)) (← Extern.Bytes.bytesOf (.string s')))) : Sem Value) from rfl]
    simp only [Extern.Bytes.bytesOf, Sem.run_bind, Sem.run_pure, Result.andThen_ok, cmp_eq]
    rfl
  · cases q
end Go.Proofs.YtcaolnmpldbkjaaGreatA
