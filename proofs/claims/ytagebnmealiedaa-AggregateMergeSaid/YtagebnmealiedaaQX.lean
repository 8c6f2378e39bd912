/- Words of this session: chapter 7: what is told by hand: comparing, slices.Insert. -/
import Derived.Test.YtagebnmealiedaaQW
import Derived.Test.YtagebnmealiedaaHk
namespace Go.Proofs.YtagebnmealiedaaA
open Go Go.Proofs Go.RowKit
set_option linter.unusedVariables false
set_option linter.unusedSimpArgs false
set_option maxRecDepth 10000
noncomputable def hk : Hooks := fun f => if f = 39 then some (insHook 4 40 (callE Try.prog hk0 39)) else if f = 55 then some cmpHook else none
theorem hk_sound : SoundH Try.prog hk := by
  have hm : Try.prog.follows .mixedOrders = true := by kernel_rfl
  constructor
  · intro f g hf args h r q
    unfold hk at hf
    split at hf
    · cases hf; exact insHook_mono hm hk0_sound q
    · split at hf
      · cases hf; exact cmpHook_mono q
      · cases hf
  · intro f g hf args h v h' q ι w A hr ha hfr
    unfold hk at hf
    split at hf
    · rename_i e
      cases hf; subst e
      exact insHook_goes hm named hk0_sound (by decide) insW q ι w A hr ha hfr
    · split at hf
      · rename_i e
        cases hf; subst e
        exact cmpHook_goes Try.func55 (by kernel_rfl) (by kernel_rfl) (by kernel_rfl) (by kernel_rfl) q ι w A hr ha hfr
      · cases hf
theorem hk39 (args : List V) (h : Heap) : callE Try.prog hk 39 args h = insHook 4 40 (callE Try.prog hk0 39) args h := rfl
end Go.Proofs.YtagebnmealiedaaA
