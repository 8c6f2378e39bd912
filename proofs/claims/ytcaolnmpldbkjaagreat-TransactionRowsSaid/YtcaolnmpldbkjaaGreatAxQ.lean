/- Words of this session: rules of temporaries that ask nothing of their user. -/
import Derived.Test.YtcaolnmpldbkjaaGreatAx28
namespace Go.Proofs.YtcaolnmpldbkjaaGreatA
open Go Go.RowKit
set_option linter.unusedVariables false
theorem upd_if (τ : Tp) (d : Nat) (v : V) (i : Nat) : upd τ d v i = if i = d then v else τ i := (rfl)
theorem ev_tmp' {n i : Nat} {τ : Tp} : ev (T n τ) (.tmp i) = some (if i < n then τ i else undefV) := by
  by_cases hi : i < n
  · rw [ev, T_get hi, if_pos hi]
  · rw [ev, if_neg hi, getL_eq, T, List.getD_eq_getElem?_getD, List.getElem?_eq_none (by simp; exact Nat.le_of_not_lt hi)]; rfl
section
variable {P : Program} {H : Hooks} {n : Nat} {τ : Tp} {h : Heap}
theorem wpc_cond' {i : Nat} (a b : Code) (Q : Post) : wpc P H n (.cond (.tmp i) a b) Q τ h = if i < n then WC (τ i) (wpc P H n a Q τ h) (wpc P H n b Q τ h) else False := by
  by_cases hi : i < n
  · rw [if_pos hi]; exact wpc_cond P H n τ h hi a b Q
  · rw [if_neg hi]
    show (∃ v, opF n τ (.tmp i) = some v ∧ _) = _
    simp [opF, hi]
theorem resV_tmp' {i : Nat} (l : List ResultVar) : resV P (T n τ) h (.tmp i :: l) = (resV P (T n τ) h l).map fun vs => (if i < n then τ i else undefV) :: vs := by
  by_cases hi : i < n
  · rw [if_pos hi]; exact resV_tmp P h hi l
  · rw [if_neg hi, resV]
    rw [show getL (T n τ) i = undefV by rw [getL_eq, T, List.getD_eq_getElem?_getD, List.getElem?_eq_none (by simp; exact Nat.le_of_not_lt hi)]; rfl]
end
end Go.Proofs.YtcaolnmpldbkjaaGreatA
