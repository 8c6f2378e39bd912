/- For every byte string p of at most 1,100 bytes and every i: Kind, Count, Free, Cell, Cells, Seal and Check of the program and of the reference return the same. No condition. -/
import Derived.Test.YtopbmpdcmnhfdaaPureC
namespace Go.Proofs.Ytopbmpdcmnhfdaa.Pure
open Go.RowKit Go.Proofs.Ytopbmpdcmnhfdaa.P Go.Proofs.YtopbmpdcmnhfdaaH Go.Proofs.YtopbmpdcmnhfdaaW.PrintWords Go.Proofs.YtopbmpdcmnhfdaaW.PrintLast
set_option linter.unusedVariables false

theorem reading_of {l : List Int} {i : Int} (hb : Bytes l) (hl : l.length ≤ 1100) {c : List Int} {ok : Bool} {kd ct fr e : Int} {cs : List (List Int)} {s : List Int} (hc : Bytes c) (hs : Bytes s) (hcs : cs.length ≤ 1000000)
    (h1 : Ev (fun k => page_Cell.f k l i) (c, ok)) (h2 : Ev (fun k => lineageref14_Cell.f k l i) (c, ok)) (h3 : Ev (fun k => page_Kind.f k l) kd) (h4 : Ev (fun k => lineageref14_Kind.f k l) kd)
    (h5 : Ev (fun k => page_Count.f k l) ct) (h6 : Ev (fun k => lineageref14_Count.f k l) ct) (h7 : Ev (fun k => page_Free.f k l) fr) (h8 : Ev (fun k => lineageref14_Free.f k l) fr)
    (h9 : Ev (fun k => page_Cells.f k l) cs) (h10 : Ev (fun k => lineageref14_Cells.f k l) cs) (h11 : Ev (fun k => page_Seal.f k l) s) (h12 : Ev (fun k => lineageref14_Seal.f k l) s)
    (h13 : Ev (fun k => page_Check.f k l) e) (h14 : Ev (fun k => lineageref14_Check.f k l) e) : Ev (fun k => lineagelaw14_PageReading.f k l i) true := by
  refine Ev.bind awake_ev (Ev.if_pos rfl (Ev.if_neg (by omega) (Ev.bind h1 (Ev.bind h2 (Ev.bind h3 (Ev.bind h4 (Ev.if_pos rfl (Ev.bind h5 (Ev.bind h6 (Ev.if_pos rfl (Ev.bind h7 (Ev.bind h8 (Ev.if_pos rfl (Ev.bind h9 (Ev.bind h10 (Ev.bind (list_refl cs hcs) (Ev.if_pos rfl (Ev.if_pos (by simp) ?_))))))))))))))))))
  refine Ev.bindc (same_refl hc) (Ev.if_pos rfl (Ev.bind h11 (Ev.bind h12 (Ev.bindc (same_refl hs) (Ev.if_pos rfl (Ev.bind h13 (Ev.bind h14 (Ev.const ?_))))))))
  simp
theorem PageReading : lineagelaw14_PageReading.Pure := by
  intro l i hm hl hw hi
  have hb := Bytes.of_wf hw
  by_cases hlen : (l.length : Int) > 1100
  · exact (Ev.rounds (Ev.bind awake_ev (Ev.if_pos rfl (Ev.if_pos hlen (Ev.now _)))))
  · refine Ev.rounds ?_
    have hn := num_range hb 1
    by_cases hv : Valid l
    · have hcs : (cellsS l).length ≤ 1000000 := by unfold cellsS; rw [cellsTo_length]; omega
      have hcell : ∃ c ok, Bytes c ∧ Ev (fun k => page_Cell.f k l i) (c, ok) ∧ Ev (fun k => lineageref14_Cell.f k l i) (c, ok) := by
        by_cases h : 0 ≤ i ∧ i < num l 1
        · exact ⟨_, _, bytes_cellS hb i, cell_yes hb hv h.1 h.2, refcell_yes hb hv h.1 h.2⟩
        · exact ⟨_, _, Bytes.nil, cell_none hb hv (by omega), refcell_none hb hv (by omega)⟩
      obtain ⟨c, ok, hc, h1, h2⟩ := hcell
      by_cases hse : SealedS l
      · exact reading_of hb (by omega) hc (bytes_sealS hb) hcs h1 h2 (kind_yes hb hv) (refkind_yes hb hv) (count_yes hb hv) (refcount_yes hb hv) (free_yes hb hv) (reffree_yes hb hv) (cells_yes hb hv) (refcells_yes hb hv) (seal_yes hb hv) (refseal_yes hb hv) (check_yes hb hv hse) (refcheck_yes hb hv hse)
      · exact reading_of hb (by omega) hc (bytes_sealS hb) hcs h1 h2 (kind_yes hb hv) (refkind_yes hb hv) (count_yes hb hv) (refcount_yes hb hv) (free_yes hb hv) (reffree_yes hb hv) (cells_yes hb hv) (refcells_yes hb hv) (seal_yes hb hv) (refseal_yes hb hv) (check_unsealed hb hv hse) (refcheck_unsealed hb hv hse)
    · exact reading_of hb (by omega) Bytes.nil Bytes.nil (by simp) (cell_no hb hv i) (refcell_no hb hv i) (kind_no hb hv) (refkind_no hb hv) (count_no hb hv) (refcount_no hb hv) (free_no hb hv) (reffree_no hb hv) (cells_no hb hv) (refcells_no hb hv) (seal_no hb hv) (refseal_no hb hv) (check_no hb hv) (refcheck_no hb hv)
end Go.Proofs.Ytopbmpdcmnhfdaa.Pure
