/- Plain law, page: what hangs on the first 1,020 bytes alone. -/
import Derived.Test.YtopbmpdcmnhfdaaPureC
namespace Go.Proofs.Ytopbmpdcmnhfdaa.Pure
open Go.RowKit Go.Proofs.Ytopbmpdcmnhfdaa.P Go.Proofs.YtopbmpdcmnhfdaaH Go.Proofs.YtopbmpdcmnhfdaaW.PrintWords Go.Proofs.YtopbmpdcmnhfdaaW.PrintLast
set_option linter.unusedVariables false

theorem rd_take {l m : List Int} (h : l.take 1020 = m.take 1020) {j : Int} (h0 : 0 ≤ j) (h1 : j < 1020) : rd l j = rd m j := by
  have := congrArg (fun x : List Int => x.getD j.toNat 0) h
  simp only [List.getD_eq_getElem?_getD] at this
  rw [List.getElem?_take_of_lt (by omega), List.getElem?_take_of_lt (by omega)] at this
  unfold rd
  rw [List.getD_eq_getElem?_getD, List.getD_eq_getElem?_getD]
  exact this
theorem num_take {l m : List Int} (h : l.take 1020 = m.take 1020) {j : Int} (h0 : 0 ≤ j) (h1 : j + 1 < 1020) : num l j = num m j := by
  unfold num
  rw [rd_take h h0 (by omega), rd_take h (j := j + 1) (by omega) (by omega)]
theorem offs_take {l m : List Int} (h : l.take 1020 = m.take 1020) {i : Int} (h1 : i < 508) : offs l i = offs m i := by
  unfold offs
  by_cases hi : i < 0
  · rw [if_pos hi, if_pos hi]
  · rw [if_neg hi, if_neg hi, num_take h (by omega) (by omega)]
theorem valid_take {l m : List Int} (h : l.take 1020 = m.take 1020) (hl : m.length = 1024) (hv : Valid l) : Valid m := by
  have e : num l 1 = num m 1 := num_take h (by omega) (by omega)
  have hs := hv.slots
  refine ⟨hl, by rw [← e]; exact hs, fun i h0 h1 => ?_, ?_, fun j h0 h1 => ?_⟩
  · rw [← offs_take h (by omega), ← offs_take h (by omega)]; exact hv.mono i h0 (by omega)
  · rw [← e, ← offs_take h (by omega)]; exact hv.last
  · rw [← e] at h0 h1
    rw [← offs_take h (by omega)] at h1
    have ht : offs l (num l 1 - 1) ≤ 1020 := by
      by_cases h2 : num l 1 - 1 < 0
      · unfold offs; rw [if_pos h2]; omega
      · exact top_of hv (by omega) (by omega)
    by_cases hj : 0 ≤ j
    · rw [← rd_take h hj (by omega)]; exact hv.zero j h0 h1
    · have hn : 0 ≤ 3 + 2 * num l 1 ∨ True := .inr trivial
      have h3 := hv.zero j h0 h1
      unfold rd at h3 ⊢
      rw [show j.toNat = (0 : Int).toNat by omega] at h3 ⊢
      exact (rd_take h (j := 0) (by omega) (by omega)).symm.trans h3
theorem cells_take {l m : List Int} (h : l.take 1020 = m.take 1020) (hb : Bytes l) (hv : Valid l) : cellsS m = cellsS l := by
  have e : num l 1 = num m 1 := num_take h (by omega) (by omega)
  have hs := hv.slots
  unfold cellsS cellsTo
  rw [← e]
  apply List.map_congr_left
  intro i hi
  have hi2 : i < (num l 1).toNat := List.mem_range.1 hi
  have ht := top_of hv (i := (i : Int) - 1) (by omega) (by omega)
  unfold cellS
  rw [← offs_take h (by omega), ← offs_take h (by omega)]
  congr 1
  have := congrArg (fun x : List Int => x.take (offs l ((i : Int) - 1)).toNat) h
  simp only [List.take_take] at this
  rw [Nat.min_eq_left (by omega)] at this
  exact this.symm
theorem sealS_take {l : List Int} (hl : l.length = 1024) : (sealS l).take 1020 = l.take 1020 := by
  unfold sealS
  rw [List.take_append_of_le_length (by rw [List.length_take]; omega), List.take_take, Nat.min_self]
theorem sealS_sealS {l : List Int} (hl : l.length = 1024) : SealedS (sealS l) := by
  show (sealS l).take 1020 ++ crcBytes (crcS ((sealS l).take 1020)) = sealS l
  rw [sealS_take hl]
  rfl
theorem crcBytes_inj {s t : Int} (hs : 0 ≤ s ∧ s < 4294967296) (ht : 0 ≤ t ∧ t < 4294967296) (h : crcBytes s = crcBytes t) : s = t := by
  simp only [crcBytes, List.cons.injEq, and_true] at h
  omega
end Go.Proofs.Ytopbmpdcmnhfdaa.Pure
