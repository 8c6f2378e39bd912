/- Words of this session: a call without arguments that the second reading runs from no memory at all: what it gives, it gives everywhere. -/
import Derived.Test.YtcaolnmpldbkjaaGreatAx30
namespace Go.Proofs.YtcaolnmpldbkjaaGreatA
open Go Go.RowKit
set_option linter.unusedVariables false
set_option linter.unusedSimpArgs false
/-- What a call from no memory leaves stands beside whatever was there. -/
theorem Stp.closed {κ ι : Mp} {h h' : Heap} {w w' : World} (s : Stp (fun _ => none) [] w κ h' w') (hr : Rel ι h w) : Stp ι h w ι h w' := by
  have same : ∀ b, b < w.heap.size → w'.heap[b]? = w.heap[b]? := fun b hb => s.frame b hb (by rintro ⟨id, pl, o, h1, _⟩; cases h1)
  refine ⟨.refl ι, fun _ _ x => .inl x, ⟨fun id pl o h1 h2 => ?_, hr.sep⟩, fun _ x => .inl x, fun _ x => .inl x, s.os, s.tape, s.output, s.size, fun b hb _ => same b hb, Nat.le_refl _, s.drawn⟩
  have ok := hr.ok id pl o h1 h2
  exact ok.mono (.refl _) fun ha => same _ (ok.lt ha)
theorem Rel.nothing (w : World) : Rel (fun _ => none) [] w := ⟨fun id pl o h1 _ => (by cases h1), fun i j pi pj oi oj _ h1 => (by cases h1)⟩
/-- The law of an example: it is true. -/
def trueHook (args : List V) (h : Heap) : Option (V × Heap) := match args with
  | [] => some (.bool true, h)
  | _ => none
theorem trueHook_mono {args : List V} {h : Heap} {r : V × Heap} (q : trueHook args h = some r) : Mono h r.2 := by
  unfold trueHook at q
  split at q
  · cases q; exact .refl _
  · cases q
theorem trueHook_goes {P : Program} {H : Hooks} {f : FuncId} (hm : P.follows .mixedOrders = true) (hN : Named P) (hH : SoundH P H) {h1 : Heap} (hrun : callE P H f [] [] = some (.bool true, h1))
    {args : List V} {h : Heap} {v : V} {h' : Heap} (q : trueHook args h = some (v, h')) (ι : Mp) (w : World) (A : Array Value) (hr : Rel ι h w) (ha : RVs ι args A.toList) :
    CallsTo P f A w fun x w' => ∃ κ, RV κ v x ∧ Stp ι h w κ h' w' := by
  unfold trueHook at q
  split at q
  · cases q
    have hA : A = #[] := by have := ha.nil_inv; exact Array.toList_inj.1 (by simpa using this)
    subst hA
    have hs := sound_of hm hN hH f [] [] _ _ hrun (fun _ => none) w #[] (.nothing w) (.nil _) (fun _ _ _ => rfl)
    have fin : ∀ x w', (∃ κ, RV κ (.bool true) x ∧ Stp (fun _ => none) [] w κ h1 w') → ∃ κ, RV κ (.bool true) x ∧ Stp ι h w κ h w' := by
      rintro x w' ⟨κ, hx, st⟩
      refine ⟨ι, ?_, st.closed hr⟩
      cases hx; exact .bool _
    rcases hs with ⟨a, b⟩ | ⟨x, w', a, b⟩
    · exact .inl ⟨a, b.mono fun e w' ⟨x, he, hk⟩ => ⟨x, he, fin x w' hk⟩⟩
    · exact .inr ⟨x, w', a, fin x w' b⟩
  · cases q
/-- What the reading gives with a number of rounds, it gives. -/
theorem callE_run {P : Program} {H : Hooks} {k : Nat} {f : FuncId} {args : List V} {h : Heap} {r : V × Heap} (q : callK P H k f args h = some r) : callE P H f args h = some r := callK_callE k _ _ _ _ q
def isTrue : Option (V × Heap) → Bool
  | some (.bool true, _) => true
  | _ => false
theorem isTrue_run {o : Option (V × Heap)} (h : isTrue o = true) : ∃ h', o = some (.bool true, h') := by
  unfold isTrue at h
  split at h
  · exact ⟨_, rfl⟩
  · cases h
end Go.Proofs.YtcaolnmpldbkjaaGreatA
