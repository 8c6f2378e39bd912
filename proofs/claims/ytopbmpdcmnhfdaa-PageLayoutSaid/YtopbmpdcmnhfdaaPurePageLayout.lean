/- For every kind and every list of cells: Build and New give the specified bytes or the specified errors. No condition (the text itself passes over more than 600 cells, or cells of more than 1,100 bytes). -/
import Derived.Test.YtopbmpdcmnhfdaaPureG
import Derived.Test.YtopbmpdcmnhfdaaStmtPageLayout
namespace Go.Proofs.Ytopbmpdcmnhfdaa.Pure
open Go.RowKit Go.Proofs.Ytopbmpdcmnhfdaa.P Go.Proofs.YtopbmpdcmnhfdaaH Go.Proofs.YtopbmpdcmnhfdaaW.PrintWords Go.Proofs.YtopbmpdcmnhfdaaW.PrintLast
set_option linter.unusedVariables false
theorem Bytes.append {a b : List Int} (ha : Bytes a) (hb : Bytes b) : Bytes (a ++ b) := fun n hn => (List.mem_append.1 hn).elim (ha n) (hb n)
theorem bytes_slots (cs : List (List Int)) (j : Nat) : Bytes (slotsTo cs j) := by
  induction j with
  | zero => intro n hn; cases hn
  | succ j ih =>
    refine ih.append fun n hn => ?_
    simp only [two, List.mem_cons, List.not_mem_nil, or_false] at hn
    rcases hn with rfl | rfl <;> omega
theorem bytes_body (cs : List (List Int)) (hc : ∀ c ∈ cs, Bytes c) (j : Nat) : Bytes (bodyTo cs j) := by
  induction j with
  | zero => intro n hn; cases hn
  | succ j ih =>
    refine Bytes.append ?_ ih
    rw [List.getD_eq_getElem?_getD]
    cases h : cs[j]? with
    | none => intro n hn; cases hn
    | some c => exact hc c (List.mem_of_getElem? h)
theorem bytes_zeros (n : Nat) : Bytes (List.replicate n (0 : Int)) := fun m hm => by rw [List.eq_of_mem_replicate hm]; omega
theorem bytes_layout (kd : Int) (hk : 0 ≤ kd ∧ kd ≤ 255) (cs : List (List Int)) (hc : ∀ c ∈ cs, Bytes c) : Bytes (layoutS kd cs) := by
  refine Bytes.append (Bytes.append (fun n hn => ?_) (bytes_slots cs _)) (Bytes.append (bytes_zeros _) (Bytes.append (bytes_body cs hc _) (fun n hn => ?_)))
  · simp only [headS, List.mem_cons, List.not_mem_nil, or_false] at hn
    rcases hn with rfl | rfl | rfl <;> omega
  · simp only [List.mem_cons, List.not_mem_nil, or_false, or_self] at hn
    omega
theorem PageLayout : StmtPageLayout.Pure := by
  intro kd cs hk0 ⟨hm, hm2, hw⟩
  refine Ev.rounds (Ev.bind awake_ev (Ev.if_pos rfl ?_))
  obtain ⟨b, hb, hfew⟩ := few_ev cs hm
  refine Ev.bind hb ?_
  cases b with
  | false => exact Ev.if_neg (by decide) (Ev.now _)
  | true =>
    obtain ⟨hs, hc⟩ := hfew rfl
    refine Ev.if_pos rfl ?_
    have hby : ∀ c ∈ cs, Bytes c := fun c h => Bytes.of_wf (hw c h).2.2
    by_cases hk : kd < 0 ∨ 255 < kd
    · refine Ev.bind (build_arg kd cs hk) (Ev.bind (refbuild_arg kd cs hk) (Ev.bind (refbuild_arg kd [] hk) (Ev.if_pos rfl (Ev.bindc (same_refl (fun n hn => by cases hn)) (Ev.if_pos rfl (Ev.if_neg (by decide) ?_))))))
      exact Ev.bind (Ev.bind (build_arg kd [] hk) (Ev.now _)) (Ev.const rfl)
    · have hk' : 0 ≤ kd ∧ kd ≤ 255 := by omega
      have h1 := build_f kd cs hk' (by omega) (fun c h => by have := hc c h; omega)
      have h2 := refbuild_f kd cs hk' hs hc
      have h3 := build_f kd [] hk' (by simp) (fun c h => by cases h)
      have h4 := refbuild_f kd [] hk' (by simp) (fun c h => by cases h)
      rw [if_pos (by decide)] at h3 h4
      refine Ev.bind h1 (Ev.bind h2 (Ev.bind h4 (Ev.if_pos rfl ?_)))
      have hsame : Bytes ((if totalS cs ≤ 1024 then (layoutS kd cs, (0 : Int)) else (([] : List Int), 6)).1) := by
        by_cases ht : totalS cs ≤ 1024
        · rw [if_pos ht]; exact bytes_layout kd hk' cs hby
        · rw [if_neg ht]; intro n hn; cases hn
      refine Ev.bindc (same_refl hsame) (Ev.if_pos rfl (Ev.if_pos rfl (Ev.bind (Ev.bind h3 (Ev.now _)) ?_)))
      exact Ev.bindc (same_refl (bytes_layout kd hk' [] (fun c h => by cases h))) (Ev.if_pos rfl (Ev.now _))
end Go.Proofs.Ytopbmpdcmnhfdaa.Pure
