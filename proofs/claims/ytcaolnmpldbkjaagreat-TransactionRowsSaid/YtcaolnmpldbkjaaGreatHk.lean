/- Words of this session: the functions that are told by hand are sound; every function has a name. -/
import Derived.Test.YtcaolnmpldbkjaaGreatAx29
import Derived.Test.YtcaolnmpldbkjaaGreatChecked
namespace Go.Proofs.YtcaolnmpldbkjaaGreatA
open Go Go.Proofs Go.RowKit
set_option linter.unusedVariables false
theorem named : Named Tryz.prog := by
  have h : (Tryz.prog.funcs.toList.all fun fn => !(fn.name == "runtime.NumGoroutine")) = true := by kernel_rfl
  intro f fn hf e
  have := List.all_eq_true.1 h fn (List.mem_of_getElem? (by simpa using hf))
  simp [e] at this
end Go.Proofs.YtcaolnmpldbkjaaGreatA
