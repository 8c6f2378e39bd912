/- Plain law, page: a valid page is what Build lays out of its kind and cells, but for its checksum. -/
import Derived.Test.YtopbmpdcmnhfdaaPureE
namespace Go.Proofs.Ytopbmpdcmnhfdaa.Pure
open Go.RowKit Go.Proofs.Ytopbmpdcmnhfdaa.P Go.Proofs.YtopbmpdcmnhfdaaH Go.Proofs.YtopbmpdcmnhfdaaW.PrintWords Go.Proofs.YtopbmpdcmnhfdaaW.PrintLast
set_option linter.unusedVariables false
set_option linter.unusedSectionVars false

def seg (l : List Int) (a b : Nat) : List Int := (l.take b).drop a
theorem seg_length (l : List Int) (a b : Nat) (hb : b ≤ l.length) : (seg l a b).length = b - a := by
  unfold seg
  rw [List.length_drop, List.length_take, Nat.min_eq_left hb]
theorem seg_append (l : List Int) {a b c : Nat} (h1 : a ≤ b) (h2 : b ≤ c) (h3 : c ≤ l.length) : seg l a b ++ seg l b c = seg l a c := by
  unfold seg
  have e : l.take b = (l.take c).take b := by rw [List.take_take, Nat.min_eq_left h2]
  rw [e]
  have e2 := List.take_append_drop (b - a) ((l.take c).drop a)
  rw [List.drop_drop, show a + (b - a) = b by omega] at e2
  rw [← e2, List.drop_take]
theorem seg_two (l : List Int) (i : Nat) (h : i + 2 ≤ l.length) : seg l i (i + 2) = [rd l i, rd l ((i : Int) + 1)] := by
  unfold seg
  apply List.ext_getElem?
  intro j
  rw [List.getElem?_drop, List.getElem?_take]
  unfold rd
  rw [List.getD_eq_getElem?_getD, List.getD_eq_getElem?_getD, show ((i : Int) + 1).toNat = i + 1 by omega, Int.toNat_natCast, List.getElem?_eq_getElem (show i < l.length by omega), List.getElem?_eq_getElem (show i + 1 < l.length by omega)]
  match j with
  | 0 => rw [if_pos (by omega), Nat.add_zero, List.getElem?_eq_getElem (by omega)]; rfl
  | 1 => rw [if_pos (by omega), List.getElem?_eq_getElem (by omega)]; rfl
  | j + 2 => rw [if_neg (by omega)]; rfl
theorem seg_zero (l : List Int) (a b : Nat) (hb : b ≤ l.length) (hz : ∀ j, a ≤ j → j < b → rd l (j : Int) = 0) : seg l a b = List.replicate (b - a) 0 := by
  apply List.ext_getElem
  · rw [seg_length l a b hb, List.length_replicate]
  · intro j h1 h2
    rw [seg_length l a b hb] at h1
    have := hz (a + j) (by omega) (by omega)
    unfold rd at this
    rw [List.getD_eq_getElem?_getD, Int.toNat_natCast, List.getElem?_eq_getElem (by omega)] at this
    have e : (seg l a b)[j]'(by rw [seg_length l a b hb]; exact h1) = l[a + j] := by
      simp only [seg]
      rw [List.getElem_drop, List.getElem_take]
    rw [e, List.getElem_replicate]
    exact this
theorem two_num (l : List Int) (hb : Bytes l) (i : Int) : two (num l i) = [rd l i, rd l (i + 1)] := by
  have h1 := hb.rd i
  have h2 := hb.rd (i + 1)
  unfold two num
  rw [show (rd l i * 256 + rd l (i + 1)) / 256 % 256 = rd l i by omega, show (rd l i * 256 + rd l (i + 1)) % 256 = rd l (i + 1) by omega]
section
variable {l : List Int} (hb : Bytes l) (hv : Valid l)
include hb hv
theorem cellS_length {i : Nat} (hi : (i : Int) < num l 1) : ((cellS l i).length : Int) = offs l ((i : Int) - 1) - offs l i := by
  have hm := hv.mono i (by omega) hi
  have ht := top_of hv (i := (i : Int) - 1) (by omega) (by omega)
  have hr := offs_range hb i
  have hl := hv.len
  exact len_cut l _ _ hr.1 hm (by omega)
theorem getD_cells {j : Nat} (hj : (j : Int) < num l 1) : (cellsS l).getD j [] = cellS l j := by
  unfold cellsS
  have := rd_cells (l := l) (num l 1).toNat (i := (j : Int)) (by omega) (by omega)
  unfold rd_L1 at this
  rwa [Int.toNat_natCast] at this
theorem cells_len : ((cellsS l).length : Int) = num l 1 := by
  have := num_range hb 1
  unfold cellsS
  rw [cellsTo_length]
  omega
theorem sum_cells (j : Nat) (hj : (j : Int) ≤ num l 1) : (sumLen ((cellsS l).take j) : Int) = 1020 - offs l ((j : Int) - 1) := by
  induction j with
  | zero => simp [sumLen, offs]
  | succ j ih =>
    have hc := cells_len hb hv
    rw [sumLen_take_succ _ j (by omega), getD_cells hb hv (by omega)]
    have h1 := cellS_length hb hv (i := j) (by omega)
    have h2 := ih (by omega)
    rw [show ((j + 1 : Nat) : Int) - 1 = (j : Int) by omega]
    omega
theorem body_cells (j : Nat) (hj : (j : Int) ≤ num l 1) : bodyTo (cellsS l) j = seg l (offs l ((j : Int) - 1)).toNat 1020 := by
  have hl := hv.len
  induction j with
  | zero =>
    rw [bodyTo]
    unfold offs
    rw [if_pos (by omega)]
    unfold seg
    rw [List.drop_eq_nil_of_le (by rw [List.length_take]; omega)]
  | succ j ih =>
    have hm := hv.mono j (by omega) (by omega)
    have ht := top_of hv (i := (j : Int) - 1) (by omega) (by omega)
    have hr := offs_range hb j
    rw [bodyTo, getD_cells hb hv (by omega), ih (by omega), show ((j + 1 : Nat) : Int) - 1 = (j : Int) by omega]
    exact seg_append l (by omega) (by omega) (by omega)
theorem slots_cells (j : Nat) (hj : (j : Int) ≤ num l 1) : slotsTo (cellsS l) j = seg l 3 (3 + 2 * j) := by
  have hl := hv.len
  have hs := hv.slots
  induction j with
  | zero =>
    unfold seg
    rw [slotsTo, List.drop_eq_nil_of_le (by rw [List.length_take]; omega)]
  | succ j ih =>
    rw [slotsTo, ih (by omega), sum_cells hb hv (j + 1) (by omega), show ((j + 1 : Nat) : Int) - 1 = (j : Int) by omega, show (1020 : Int) - (1020 - offs l j) = offs l j by omega]
    have e : offs l j = num l (3 + 2 * (j : Int)) := by unfold offs; rw [if_neg (by omega)]
    have e2 := seg_two l (3 + 2 * j) (by omega)
    rw [e, two_num l hb, show 3 + 2 * (j : Int) = ((3 + 2 * j : Nat) : Int) by omega, ← e2]
    exact seg_append l (by omega) (by omega) (by omega)
theorem total_cells : (totalS (cellsS l) : Int) = 1027 + 2 * num l 1 - offs l (num l 1 - 1) := by
  have hc := cells_len hb hv
  have hn := num_range hb 1
  have h := sum_cells hb hv (num l 1).toNat (by omega)
  rw [List.take_of_length_le (by omega), show (((num l 1).toNat : Nat) : Int) - 1 = num l 1 - 1 by omega] at h
  unfold totalS
  omega
theorem total_fits : totalS (cellsS l) ≤ 1024 := by
  have h := total_cells hb hv
  have hl := hv.last
  omega
theorem layout_cells : layoutS (rd l 0) (cellsS l) = l.take 1020 ++ [0, 0, 0, 0] := by
  have hc := cells_len hb hv
  have hn := num_range hb 1
  have hl := hv.len
  have hs := hv.slots
  have hlast := hv.last
  have htop : offs l (num l 1 - 1) ≤ 1020 := by
    by_cases h2 : num l 1 - 1 < 0
    · unfold offs; rw [if_pos h2]; omega
    · exact top_of hv (by omega) (by omega)
  obtain ⟨n, hn2⟩ : ∃ n : Nat, num l 1 = n := ⟨(num l 1).toNat, by omega⟩
  have hcn : (cellsS l).length = n := by omega
  rw [hn2] at hlast htop hs
  unfold layoutS pageTo
  rw [hcn, slots_cells hb hv n (by omega), body_cells hb hv n (by omega)]
  have hsum := sum_cells hb hv n (by omega)
  have hz : 1020 - sumLen ((cellsS l).take n) - 3 - 2 * n = (offs l ((n : Int) - 1)).toNat - (3 + 2 * n) := by rw [← hn2] at hsum ⊢; omega
  have hhead : headS (rd l 0) (cellsS l) = seg l 0 3 := by
    have e1 := seg_two l 0 (by omega)
    have e2 := seg_two l 1 (by omega)
    have e3 := two_num l hb 1
    have h0 := hb.rd 1
    have h1 := hb.rd 2
    unfold headS
    rw [hcn, ← hn2]
    unfold two at e3
    have e4 : seg l 0 3 = [rd l 0, rd l 1, rd l 2] := by
      have := seg_append l (a := 0) (b := 1) (c := 3) (by omega) (by omega) (by omega)
      rw [← this, e2]
      have e5 : seg l 0 1 = [rd l 0] := by
        have := seg_append l (a := 0) (b := 1) (c := 2) (by omega) (by omega) (by omega)
        rw [e1] at this
        have hlen := seg_length l 0 1 (by omega)
        match hx : seg l 0 1 with
        | [] => rw [hx] at hlen; simp at hlen
        | [a] => rw [hx] at this; simp at this; rw [this.1]
        | a :: b :: r => rw [hx] at hlen; simp at hlen
      rw [e5]
      rfl
    rw [e4]
    simp only [List.cons.injEq, and_true, true_and]
    simp only [List.cons.injEq, and_true] at e3
    exact ⟨e3.1, e3.2⟩
  have hzero := seg_zero l (3 + 2 * n) (offs l ((n : Int) - 1)).toNat (by omega) (fun j h1 h2 => hv.zero j (by omega) (by rw [← hn2] at h2; omega))
  rw [hhead, hz, ← hzero, seg_append l (by omega) (by omega) (by omega), ← List.append_assoc, ← List.append_assoc, seg_append l (by omega) (by omega) (by omega), seg_append l (by omega) (by omega) (by omega)]
  rfl
end
end Go.Proofs.Ytopbmpdcmnhfdaa.Pure
