/- For every byte string of at most 1,100 bytes that is a valid page: Build of its kind and its cells gives its first 1,020 bytes. No condition. -/
import Derived.Test.YtopbmpdcmnhfdaaPureF
namespace Go.Proofs.Ytopbmpdcmnhfdaa.Pure
open Go.RowKit Go.Proofs.Ytopbmpdcmnhfdaa.P Go.Proofs.YtopbmpdcmnhfdaaH Go.Proofs.YtopbmpdcmnhfdaaW.PrintWords Go.Proofs.YtopbmpdcmnhfdaaW.PrintLast
set_option linter.unusedVariables false
theorem PageDetermined : lineagelaw14_PageDetermined.Pure := by
  intro l hm hl hw
  have hb := Bytes.of_wf hw
  refine Ev.rounds (Ev.bind awake_ev (Ev.if_pos rfl ?_))
  by_cases hlen : (l.length : Int) > 1100
  · exact Ev.if_pos hlen (Ev.step (fun k => lineagelaw14_PageDetermined.j0.eq_2 _ _ k) (Ev.if_pos rfl (Ev.now _)))
  · refine Ev.if_neg hlen ?_
    by_cases hv : Valid l
    · have h0 := hb.rd 0
      have hc := cells_len hb hv
      have hn := num_range hb 1
      have hl := hv.len
      refine Ev.bind (kind_yes hb hv) (Ev.step (fun k => lineagelaw14_PageDetermined.j0.eq_2 _ _ k) (Ev.if_neg (by simp; omega) (Ev.bind (kind_yes hb hv) (Ev.bind (cells_yes hb hv) ?_))))
      have hbu := build_f (rd l 0) (cellsS l) h0 (by omega) (fun c hcm => by
        unfold cellsS cellsTo at hcm
        obtain ⟨i, hi, rfl⟩ := List.mem_map.1 hcm
        unfold cellS
        rw [List.length_drop, List.length_take]
        omega)
      rw [if_pos (total_fits hb hv), layout_cells hb hv] at hbu
      refine Ev.bind hbu (Ev.if_pos rfl (Ev.if_pos (by omega) (Ev.if_pos (by rw [List.length_append, List.length_take]; simp; omega) (Ev.if_pos (by omega) ?_))))
      rw [List.take_append_of_le_length (by rw [List.length_take]; omega), List.take_take, Nat.min_self]
      exact Ev.bindc (same_refl (hb.take _)) (Ev.now _)
    · exact Ev.bind (kind_no hb hv) (Ev.step (fun k => lineagelaw14_PageDetermined.j0.eq_2 _ _ k) (Ev.if_pos (by decide) (Ev.now _)))
end Go.Proofs.Ytopbmpdcmnhfdaa.Pure
