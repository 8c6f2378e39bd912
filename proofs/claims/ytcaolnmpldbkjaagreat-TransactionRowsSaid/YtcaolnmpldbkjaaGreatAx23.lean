/- Words of this session: what the second reading gives, said of the model: for a row. -/
import Derived.Test.YtcaolnmpldbkjaaGreatAx22
import Derived.Below
namespace Go.Proofs.YtcaolnmpldbkjaaGreatA
open Go Go.RowKit
set_option linter.unusedVariables false
set_option linter.unusedSimpArgs false

/-- No block may be written. -/
def AllRo (h : Heap) : Prop := ∀ (i : Nat) (o : O), h[i]? = some o → o.wr = false
theorem AllRo.nil : AllRo [] := fun i o h => by simp at h
theorem AllRo.app {h g : Heap} (a : AllRo h) (b : AllRo g) : AllRo (h ++ g) := fun i o q => by
  by_cases hi : i < h.length
  · rw [List.getElem?_append_left hi] at q; exact a i o q
  · rw [List.getElem?_append_right (by omega)] at q; exact b _ o q
theorem Stp.below {ι κ : Mp} {h h' : Heap} {w w' : World} (s : Stp ι h w κ h' w') (a : AllRo h) : Below w.heap.size w w' :=
  ⟨s.os, s.tape, s.output, s.size, fun k hk => s.frame k hk fun ⟨id, pl, o, h1, h2, h3, _⟩ => by rw [a id o h2] at h3; cases h3⟩
section
variable {P : Program} {H : Hooks}
/-- A function that the second reading tells, called in the model. -/
theorem calls_of (hm : P.follows .mixedOrders = true) (hN : Named P) (hH : SoundH P H) {f : FuncId} {fn : Func} {c : Code} (hf : P.funcs[f]? = some fn) (hb : fn.body = some c) {args : List V} {h : Heap} {K : V → Heap → Prop}
    (hq : WR (callE P H f args h) K) {ι : Mp} {w : World} {A : Array Value} (hr : Rel ι h w) (ha : RVs ι args A.toList) (hfree : ∀ id, h.length ≤ id → ι id = none) (hro : AllRo h) :
    Calls P f A w fun e w' => ∃ v h' x κ, K v h' ∧ e = .returned x ∧ RV κ v x ∧ Stp ι h w κ h' w' ∧ Below w.heap.size w w' := by
  obtain ⟨v, h', e, k⟩ := hq
  obtain ⟨n, hn⟩ := callE_cont e
  have hs : SoundC P (callK P H n) := hookV_sound hH (callV_sound hN fun c s r hr => code_goes hN hH (drawV_sound hm) n c s r hr)
  rcases hs f args h v h' hn ι w A hr ha (fun id h1 _ => hfree id h1) with ⟨_, hc⟩ | ⟨x, w', hc, _⟩
  · refine hc.mono fun e' w' ⟨x, he, κ, h1, h2⟩ => ⟨v, h', x, κ, k, he, h1, h2, h2.below hro⟩
  · have hnm := hN f fn hf
    have : (callFunc f A).run P w = .ok (.enter f A) w := by simp [callFunc, hf, hb, hnm]
    rw [this] at hc
    cases hc
theorem RV.bool_inv {κ : Mp} {b : Bool} {x : Value} (h : RV κ (.bool b) x) : x = .bool b := by cases h; rfl
end
end Go.Proofs.YtcaolnmpldbkjaaGreatA
