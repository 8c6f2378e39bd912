/- Words of this session: chapter 14: pages as lists of numbers: what a page holds, how it is laid. -/
import Derived.Test.YtopbmpdcmnhfdaaAx36
import Derived.Test.YtopbmpdcmnhfdaaAx38
namespace Go.Proofs.YtopbmpdcmnhfdaaA
open Go Go.Proofs Go.RowKit
set_option linter.unusedVariables false
set_option linter.unusedSimpArgs false
set_option linter.unusedSectionVars false
set_option maxRecDepth 10000
def rd (l : List Int) (i : Int) : Int := l.getD i.toNat 0
def Bytes (l : List Int) : Prop := ∀ x ∈ l, 0 ≤ x ∧ x ≤ 255
theorem Bytes.rd {l : List Int} (h : Bytes l) (i : Int) : 0 ≤ rd l i ∧ rd l i ≤ 255 := by
  unfold Go.Proofs.YtopbmpdcmnhfdaaA.rd
  rw [List.getD_eq_getElem?_getD]
  cases e : l[i.toNat]? with
  | none => simp
  | some x => exact h x (List.mem_of_getElem? e)
theorem Bytes.take {l : List Int} (h : Bytes l) (n : Nat) : Bytes (l.take n) := fun x hx => h x (List.mem_of_mem_take hx)
theorem Bytes.drop {l : List Int} (h : Bytes l) (n : Nat) : Bytes (l.drop n) := fun x hx => h x (List.mem_of_mem_drop hx)
def num (l : List Int) (i : Int) : Int := rd l i * 256 + rd l (i + 1)
def offs (l : List Int) (i : Int) : Int := if i < 0 then 1020 else num l (3 + 2 * i)
theorem num_range {l : List Int} (h : Bytes l) (i : Int) : 0 ≤ num l i ∧ num l i ≤ 65535 := by
  have h1 := h.rd i
  have h2 := h.rd (i + 1)
  unfold num
  omega
theorem offs_range {l : List Int} (h : Bytes l) (i : Int) : 0 ≤ offs l i ∧ offs l i ≤ 65535 := by
  unfold offs
  split
  · omega
  · exact num_range h _
theorem len_cut (l : List Int) (a b : Int) (ha : 0 ≤ a) (hb : a ≤ b) (hl : b ≤ (l.length : Int)) : (((l.take b.toNat).drop a.toNat).length : Int) = b - a := by
  rw [List.length_drop, List.length_take]
  omega

structure Valid (l : List Int) : Prop where
  len : l.length = 1024
  slots : 3 + 2 * num l 1 ≤ 1020
  mono : ∀ i, 0 ≤ i → i < num l 1 → offs l i ≤ offs l (i - 1)
  last : 3 + 2 * num l 1 ≤ offs l (num l 1 - 1)
  zero : ∀ j, 3 + 2 * num l 1 ≤ j → j < offs l (num l 1 - 1) → rd l j = 0
theorem offs_top {l : List Int} (d : Nat) : ∀ {n i : Int}, (∀ j, 0 ≤ j → j < n → offs l j ≤ offs l (j - 1)) → -1 ≤ i → i < n → i + 1 = d → offs l i ≤ 1020 := by
  induction d with
  | zero =>
    intro n i hm h0 h1 hd
    obtain rfl : i = -1 := by omega
    unfold offs
    rw [if_pos (by omega)]
    omega
  | succ d ih =>
    intro n i hm h0 h1 hd
    have := ih hm (i := i - 1) (by omega) (by omega) (by omega)
    have := hm i (by omega) h1
    omega
theorem valid_starts {l : List Int} (hv : Valid l) (d : Nat) : ∀ i, 0 ≤ i → i < num l 1 → num l 1 - 1 - i = d → 3 + 2 * num l 1 ≤ offs l i := by
  induction d with
  | zero =>
    intro i h0 h1 hd
    have e : i = num l 1 - 1 := by omega
    rw [e]
    exact hv.last
  | succ d ih =>
    intro i h0 h1 hd
    have h2 := ih (i + 1) (by omega) (by omega) (by omega)
    have h3 := hv.mono (i + 1) (by omega) (by omega)
    rw [show i + 1 - 1 = i by omega] at h3
    omega
def cellS (l : List Int) (i : Int) : List Int := (l.take (offs l (i - 1)).toNat).drop (offs l i).toNat
def cellsTo (l : List Int) (n : Nat) : List (List Int) := (List.range n).map (fun (i : Nat) => cellS l i)
def cellsS (l : List Int) : List (List Int) := cellsTo l (num l 1).toNat
theorem cellsTo_length (l : List Int) (n : Nat) : (cellsTo l n).length = n := by simp [cellsTo]
theorem cellsTo_succ (l : List Int) (n : Nat) : cellsTo l (n + 1) = cellsTo l n ++ [cellS l n] := by
  unfold cellsTo
  rw [List.range_succ, List.map_append]
  rfl
theorem bytes_cellS {l : List Int} (hb : Bytes l) (i : Int) : Bytes (cellS l i) := (hb.take _).drop _
theorem top_of {l : List Int} (hv : Valid l) {i : Int} (h0 : -1 ≤ i) (h1 : i < num l 1) : offs l i ≤ 1020 := offs_top (i + 1).toNat (n := num l 1) hv.mono h0 h1 (by omega)
theorem getD_cellsTo {l : List Int} (n : Nat) {i : Nat} (h1 : i < n) : (cellsTo l n).getD i [] = cellS l i := by
  rw [List.getD_eq_getElem?_getD]
  unfold cellsTo
  rw [List.getElem?_map, List.getElem?_range h1]; rfl
theorem rd_take {l m : List Int} (h : l.take 1020 = m.take 1020) {j : Int} (h0 : 0 ≤ j) (h1 : j < 1020) : rd l j = rd m j := by
  have := congrArg (fun x : List Int => x.getD j.toNat 0) h
  simp only [List.getD_eq_getElem?_getD] at this
  rw [List.getElem?_take_of_lt (by omega), List.getElem?_take_of_lt (by omega)] at this
  unfold rd
  rw [List.getD_eq_getElem?_getD, List.getD_eq_getElem?_getD]
  exact this
theorem num_take {l m : List Int} (h : l.take 1020 = m.take 1020) {j : Int} (h0 : 0 ≤ j) (h1 : j + 1 < 1020) : num l j = num m j := by
  unfold num
  rw [rd_take h h0 (by omega), rd_take h (j := j + 1) (by omega) (by omega)]
theorem offs_take {l m : List Int} (h : l.take 1020 = m.take 1020) {i : Int} (h1 : i < 508) : offs l i = offs m i := by
  unfold offs
  by_cases hi : i < 0
  · rw [if_pos hi, if_pos hi]
  · rw [if_neg hi, if_neg hi, num_take h (by omega) (by omega)]
theorem valid_take {l m : List Int} (h : l.take 1020 = m.take 1020) (hl : m.length = 1024) (hv : Valid l) : Valid m := by
  have e : num l 1 = num m 1 := num_take h (by omega) (by omega)
  have hs := hv.slots
  refine ⟨hl, by rw [← e]; exact hs, fun i h0 h1 => ?_, ?_, fun j h0 h1 => ?_⟩
  · rw [← offs_take h (by omega), ← offs_take h (by omega)]; exact hv.mono i h0 (by omega)
  · rw [← e, ← offs_take h (by omega)]; exact hv.last
  · rw [← e] at h0 h1
    rw [← offs_take h (by omega)] at h1
    have ht : offs l (num l 1 - 1) ≤ 1020 := by
      by_cases h2 : num l 1 - 1 < 0
      · unfold offs; rw [if_pos h2]; omega
      · exact top_of hv (by omega) (by omega)
    by_cases hj : 0 ≤ j
    · rw [← rd_take h hj (by omega)]; exact hv.zero j h0 h1
    · have hn : 0 ≤ 3 + 2 * num l 1 ∨ True := .inr trivial
      have h3 := hv.zero j h0 h1
      unfold rd at h3 ⊢
      rw [show j.toNat = (0 : Int).toNat by omega] at h3 ⊢
      exact (rd_take h (j := 0) (by omega) (by omega)).symm.trans h3
theorem cells_take {l m : List Int} (h : l.take 1020 = m.take 1020) (hb : Bytes l) (hv : Valid l) : cellsS m = cellsS l := by
  have e : num l 1 = num m 1 := num_take h (by omega) (by omega)
  have hs := hv.slots
  unfold cellsS cellsTo
  rw [← e]
  apply List.map_congr_left
  intro i hi
  have hi2 : i < (num l 1).toNat := List.mem_range.1 hi
  have ht := top_of hv (i := (i : Int) - 1) (by omega) (by omega)
  unfold cellS
  rw [← offs_take h (by omega), ← offs_take h (by omega)]
  congr 1
  have := congrArg (fun x : List Int => x.take (offs l ((i : Int) - 1)).toNat) h
  simp only [List.take_take] at this
  rw [Nat.min_eq_left (by omega)] at this
  exact this.symm
def sumLen (cs : List (List Int)) : Nat := (cs.map List.length).sum
def two (n : Int) : List Int := [n / 256 % 256, n % 256]
def slotsTo (cs : List (List Int)) : Nat → List Int
  | 0 => []
  | j + 1 => slotsTo cs j ++ two (1020 - (sumLen (cs.take (j + 1)) : Int))
def bodyTo (cs : List (List Int)) : Nat → List Int
  | 0 => []
  | j + 1 => cs.getD j [] ++ bodyTo cs j
def headS (kd : Int) (cs : List (List Int)) : List Int := [kd, (cs.length : Int) / 256 % 256, (cs.length : Int) % 256]
def pageTo (kd : Int) (cs : List (List Int)) (j : Nat) : List Int := headS kd cs ++ slotsTo cs j ++ (List.replicate (1020 - sumLen (cs.take j) - 3 - 2 * j) 0 ++ (bodyTo cs j ++ [0, 0, 0, 0]))
def layoutS (kd : Int) (cs : List (List Int)) : List Int := pageTo kd cs cs.length
def totalS (cs : List (List Int)) : Nat := 7 + sumLen cs + 2 * cs.length
theorem sumLen_take_succ (cs : List (List Int)) (j : Nat) (hj : j < cs.length) : sumLen (cs.take (j + 1)) = sumLen (cs.take j) + (cs.getD j []).length := by
  unfold sumLen
  rw [List.take_succ_eq_append_getElem hj, List.map_append, List.sum_append, List.getD_eq_getElem?_getD, List.getElem?_eq_getElem hj]
  simp
theorem sumLen_take_le (cs : List (List Int)) (j : Nat) : sumLen (cs.take j) ≤ sumLen cs := by
  have h : sumLen cs = sumLen (cs.take j) + sumLen (cs.drop j) := by
    unfold sumLen
    rw [← List.sum_append, ← List.map_append, List.take_append_drop]
  omega
theorem slotsTo_length (cs : List (List Int)) (j : Nat) : (slotsTo cs j).length = 2 * j := by
  induction j with
  | zero => rfl
  | succ j ih => rw [slotsTo, List.length_append, ih]; simp [two]; omega
theorem bodyTo_length (cs : List (List Int)) (j : Nat) (hj : j ≤ cs.length) : (bodyTo cs j).length = sumLen (cs.take j) := by
  induction j with
  | zero => simp [bodyTo, sumLen]
  | succ j ih => rw [bodyTo, List.length_append, ih (by omega), sumLen_take_succ cs j (by omega)]; omega
theorem pageTo_length (kd : Int) (cs : List (List Int)) (j : Nat) (hj : j ≤ cs.length) (h : 3 + 2 * j + sumLen (cs.take j) ≤ 1020) : (pageTo kd cs j).length = 1024 := by
  unfold pageTo headS
  simp only [List.length_append, List.length_replicate, slotsTo_length, bodyTo_length cs j hj, List.length_cons, List.length_nil]
  omega
theorem set_two (A B : List Int) (z : Nat) (x y : Int) : ((A ++ (List.replicate (z + 2) 0 ++ B)).set A.length x).set (A.length + 1) y = (A ++ [x, y]) ++ (List.replicate z 0 ++ B) := by
  rw [List.set_append_right A.length x (Nat.le_refl _), List.set_append_right (A.length + 1) y (by omega), Nat.sub_self, show A.length + 1 - A.length = 1 by omega]
  simp [List.replicate_succ]
theorem set_three (z : Nat) (a b c : Int) : (((List.replicate (z + 3) (0 : Int)).set 0 a).set 1 b).set 2 c = [a, b, c] ++ List.replicate z 0 := by simp [List.replicate_succ]
def seg (l : List Int) (a b : Nat) : List Int := (l.take b).drop a
theorem seg_length (l : List Int) (a b : Nat) (hb : b ≤ l.length) : (seg l a b).length = b - a := by
  unfold seg
  rw [List.length_drop, List.length_take, Nat.min_eq_left hb]
theorem seg_append (l : List Int) {a b c : Nat} (h1 : a ≤ b) (h2 : b ≤ c) (h3 : c ≤ l.length) : seg l a b ++ seg l b c = seg l a c := by
  unfold seg
  have e : l.take b = (l.take c).take b := by rw [List.take_take, Nat.min_eq_left h2]
  rw [e]
  have e2 := List.take_append_drop (b - a) ((l.take c).drop a)
  rw [List.drop_drop, show a + (b - a) = b by omega] at e2
  rw [← e2, List.drop_take]
theorem seg_two (l : List Int) (i : Nat) (h : i + 2 ≤ l.length) : seg l i (i + 2) = [rd l i, rd l ((i : Int) + 1)] := by
  unfold seg
  apply List.ext_getElem?
  intro j
  rw [List.getElem?_drop, List.getElem?_take]
  unfold rd
  rw [List.getD_eq_getElem?_getD, List.getD_eq_getElem?_getD, show ((i : Int) + 1).toNat = i + 1 by omega, Int.toNat_natCast, List.getElem?_eq_getElem (show i < l.length by omega), List.getElem?_eq_getElem (show i + 1 < l.length by omega)]
  match j with
  | 0 => rw [if_pos (by omega), Nat.add_zero, List.getElem?_eq_getElem (by omega)]; rfl
  | 1 => rw [if_pos (by omega), List.getElem?_eq_getElem (by omega)]; rfl
  | j + 2 => rw [if_neg (by omega)]; rfl
theorem seg_zero (l : List Int) (a b : Nat) (hb : b ≤ l.length) (hz : ∀ j, a ≤ j → j < b → rd l (j : Int) = 0) : seg l a b = List.replicate (b - a) 0 := by
  apply List.ext_getElem
  · rw [seg_length l a b hb, List.length_replicate]
  · intro j h1 h2
    rw [seg_length l a b hb] at h1
    have := hz (a + j) (by omega) (by omega)
    unfold rd at this
    rw [List.getD_eq_getElem?_getD, Int.toNat_natCast, List.getElem?_eq_getElem (by omega)] at this
    have e : (seg l a b)[j]'(by rw [seg_length l a b hb]; exact h1) = l[a + j] := by
      simp only [seg]
      rw [List.getElem_drop, List.getElem_take]
    rw [e, List.getElem_replicate]
    exact this
theorem two_num (l : List Int) (hb : Bytes l) (i : Int) : two (num l i) = [rd l i, rd l (i + 1)] := by
  have h1 := hb.rd i
  have h2 := hb.rd (i + 1)
  unfold two num
  rw [show (rd l i * 256 + rd l (i + 1)) / 256 % 256 = rd l i by omega, show (rd l i * 256 + rd l (i + 1)) % 256 = rd l (i + 1) by omega]
section
variable {l : List Int} (hb : Bytes l) (hv : Valid l)
include hb hv
theorem cellS_length {i : Nat} (hi : (i : Int) < num l 1) : ((cellS l i).length : Int) = offs l ((i : Int) - 1) - offs l i := by
  have hm := hv.mono i (by omega) hi
  have ht := top_of hv (i := (i : Int) - 1) (by omega) (by omega)
  have hr := offs_range hb i
  have hl := hv.len
  exact len_cut l _ _ hr.1 hm (by omega)
theorem getD_cells {j : Nat} (hj : (j : Int) < num l 1) : (cellsS l).getD j [] = cellS l j := by
  unfold cellsS
  exact getD_cellsTo _ (by omega)
theorem cells_len : ((cellsS l).length : Int) = num l 1 := by
  have := num_range hb 1
  unfold cellsS
  rw [cellsTo_length]
  omega
theorem sum_cells (j : Nat) (hj : (j : Int) ≤ num l 1) : (sumLen ((cellsS l).take j) : Int) = 1020 - offs l ((j : Int) - 1) := by
  induction j with
  | zero => simp [sumLen, offs]
  | succ j ih =>
    have hc := cells_len hb hv
    rw [sumLen_take_succ _ j (by omega), getD_cells hb hv (by omega)]
    have h1 := cellS_length hb hv (i := j) (by omega)
    have h2 := ih (by omega)
    rw [show ((j + 1 : Nat) : Int) - 1 = (j : Int) by omega]
    omega
theorem body_cells (j : Nat) (hj : (j : Int) ≤ num l 1) : bodyTo (cellsS l) j = seg l (offs l ((j : Int) - 1)).toNat 1020 := by
  have hl := hv.len
  induction j with
  | zero =>
    rw [bodyTo]
    unfold offs
    rw [if_pos (by omega)]
    unfold seg
    rw [List.drop_eq_nil_of_le (by rw [List.length_take]; omega)]
  | succ j ih =>
    have hm := hv.mono j (by omega) (by omega)
    have ht := top_of hv (i := (j : Int) - 1) (by omega) (by omega)
    have hr := offs_range hb j
    rw [bodyTo, getD_cells hb hv (by omega), ih (by omega), show ((j + 1 : Nat) : Int) - 1 = (j : Int) by omega]
    exact seg_append l (by omega) (by omega) (by omega)
theorem slots_cells (j : Nat) (hj : (j : Int) ≤ num l 1) : slotsTo (cellsS l) j = seg l 3 (3 + 2 * j) := by
  have hl := hv.len
  have hs := hv.slots
  induction j with
  | zero =>
    unfold seg
    rw [slotsTo, List.drop_eq_nil_of_le (by rw [List.length_take]; omega)]
  | succ j ih =>
    rw [slotsTo, ih (by omega), sum_cells hb hv (j + 1) (by omega), show ((j + 1 : Nat) : Int) - 1 = (j : Int) by omega, show (1020 : Int) - (1020 - offs l j) = offs l j by omega]
    have e : offs l j = num l (3 + 2 * (j : Int)) := by unfold offs; rw [if_neg (by omega)]
    have e2 := seg_two l (3 + 2 * j) (by omega)
    rw [e, two_num l hb, show 3 + 2 * (j : Int) = ((3 + 2 * j : Nat) : Int) by omega, ← e2]
    exact seg_append l (by omega) (by omega) (by omega)
theorem total_cells : (totalS (cellsS l) : Int) = 1027 + 2 * num l 1 - offs l (num l 1 - 1) := by
  have hc := cells_len hb hv
  have hn := num_range hb 1
  have h := sum_cells hb hv (num l 1).toNat (by omega)
  rw [List.take_of_length_le (by omega), show (((num l 1).toNat : Nat) : Int) - 1 = num l 1 - 1 by omega] at h
  unfold totalS
  omega
theorem total_fits : totalS (cellsS l) ≤ 1024 := by
  have h := total_cells hb hv
  have hl := hv.last
  omega
theorem layout_cells : layoutS (rd l 0) (cellsS l) = l.take 1020 ++ [0, 0, 0, 0] := by
  have hc := cells_len hb hv
  have hn := num_range hb 1
  have hl := hv.len
  have hs := hv.slots
  have hlast := hv.last
  have htop : offs l (num l 1 - 1) ≤ 1020 := by
    by_cases h2 : num l 1 - 1 < 0
    · unfold offs; rw [if_pos h2]; omega
    · exact top_of hv (by omega) (by omega)
  obtain ⟨n, hn2⟩ : ∃ n : Nat, num l 1 = n := ⟨(num l 1).toNat, by omega⟩
  have hcn : (cellsS l).length = n := by omega
  rw [hn2] at hlast htop hs
  unfold layoutS pageTo
  rw [hcn, slots_cells hb hv n (by omega), body_cells hb hv n (by omega)]
  have hsum := sum_cells hb hv n (by omega)
  have hz : 1020 - sumLen ((cellsS l).take n) - 3 - 2 * n = (offs l ((n : Int) - 1)).toNat - (3 + 2 * n) := by rw [← hn2] at hsum ⊢; omega
  have hhead : headS (rd l 0) (cellsS l) = seg l 0 3 := by
    have e1 := seg_two l 0 (by omega)
    have e2 := seg_two l 1 (by omega)
    have e3 := two_num l hb 1
    have h0 := hb.rd 1
    have h1 := hb.rd 2
    unfold headS
    rw [hcn, ← hn2]
    unfold two at e3
    have e4 : seg l 0 3 = [rd l 0, rd l 1, rd l 2] := by
      have := seg_append l (a := 0) (b := 1) (c := 3) (by omega) (by omega) (by omega)
      rw [← this, e2]
      have e5 : seg l 0 1 = [rd l 0] := by
        have := seg_append l (a := 0) (b := 1) (c := 2) (by omega) (by omega) (by omega)
        rw [e1] at this
        have hlen := seg_length l 0 1 (by omega)
        match hx : seg l 0 1 with
        | [] => rw [hx] at hlen; simp at hlen
        | [a] => rw [hx] at this; simp at this; rw [this.1]
        | a :: b :: r => rw [hx] at hlen; simp at hlen
      rw [e5]
      rfl
    rw [e4]
    simp only [List.cons.injEq, and_true, true_and]
    simp only [List.cons.injEq, and_true] at e3
    exact ⟨e3.1, e3.2⟩
  have hzero := seg_zero l (3 + 2 * n) (offs l ((n : Int) - 1)).toNat (by omega) (fun j h1 h2 => hv.zero j (by omega) (by rw [← hn2] at h2; omega))
  rw [hhead, hz, ← hzero, seg_append l (by omega) (by omega) (by omega), ← List.append_assoc, ← List.append_assoc, seg_append l (by omega) (by omega) (by omega), seg_append l (by omega) (by omega) (by omega)]
  rfl
end
theorem Bytes.append {a b : List Int} (ha : Bytes a) (hb : Bytes b) : Bytes (a ++ b) := fun n hn => (List.mem_append.1 hn).elim (ha n) (hb n)
theorem bytes_slots (cs : List (List Int)) (j : Nat) : Bytes (slotsTo cs j) := by
  induction j with
  | zero => intro n hn; cases hn
  | succ j ih =>
    refine ih.append fun n hn => ?_
    simp only [two, List.mem_cons, List.not_mem_nil, or_false] at hn
    rcases hn with rfl | rfl <;> omega
theorem bytes_body (cs : List (List Int)) (hc : ∀ c ∈ cs, Bytes c) (j : Nat) : Bytes (bodyTo cs j) := by
  induction j with
  | zero => intro n hn; cases hn
  | succ j ih =>
    refine Bytes.append ?_ ih
    rw [List.getD_eq_getElem?_getD]
    cases h : cs[j]? with
    | none => intro n hn; cases hn
    | some c => exact hc c (List.mem_of_getElem? h)
theorem bytes_zeros (n : Nat) : Bytes (List.replicate n (0 : Int)) := fun m hm => by rw [List.eq_of_mem_replicate hm]; omega
theorem bytes_layout (kd : Int) (hk : 0 ≤ kd ∧ kd ≤ 255) (cs : List (List Int)) (hc : ∀ c ∈ cs, Bytes c) : Bytes (layoutS kd cs) := by
  refine Bytes.append (Bytes.append (fun n hn => ?_) (bytes_slots cs _)) (Bytes.append (bytes_zeros _) (Bytes.append (bytes_body cs hc _) (fun n hn => ?_)))
  · simp only [headS, List.mem_cons, List.not_mem_nil, or_false] at hn
    rcases hn with rfl | rfl | rfl <;> omega
  · simp only [List.mem_cons, List.not_mem_nil, or_false, or_self] at hn
    omega
/-! ### what was laid, read -/
theorem rd_right (A B : List Int) {i : Int} (h : (A.length : Int) ≤ i) : rd (A ++ B) i = rd B (i - A.length) := by
  unfold rd
  rw [List.getD_eq_getElem?_getD, List.getD_eq_getElem?_getD, List.getElem?_append_right (by omega)]
  congr 2; omega
theorem rd_left (A B : List Int) {i : Int} (h0 : 0 ≤ i) (h : i < (A.length : Int)) : rd (A ++ B) i = rd A i := by
  unfold rd
  rw [List.getD_eq_getElem?_getD, List.getD_eq_getElem?_getD, List.getElem?_append_left (by omega)]
theorem rd_zeros (n : Nat) (i : Int) : rd (List.replicate n (0 : Int)) i = 0 := by
  unfold rd
  rw [List.getD_eq_getElem?_getD, List.getElem?_replicate]
  split <;> rfl
theorem slots_at (cs : List (List Int)) (i : Nat) : ∀ j : Nat, i < j → ∃ R, (slotsTo cs j).drop (2 * i) = two (1020 - (sumLen (cs.take (i + 1)) : Int)) ++ R
  | 0, h => by omega
  | j + 1, h => by
    rw [slotsTo]
    by_cases e : i = j
    · subst e
      exact ⟨[], by rw [List.drop_left' (slotsTo_length cs i), List.append_nil]⟩
    · obtain ⟨R, hR⟩ := slots_at cs i j (by omega)
      refine ⟨R ++ two (1020 - (sumLen (cs.take (j + 1)) : Int)), ?_⟩
      rw [List.drop_append_of_le_length (by rw [slotsTo_length]; omega), hR, List.append_assoc]
theorem body_at (cs : List (List Int)) (i : Nat) : ∀ j : Nat, i ≤ j → ∃ X, bodyTo cs j = X ++ bodyTo cs i
  | 0, h => by
    have : i = 0 := by omega
    subst this
    exact ⟨[], rfl⟩
  | j + 1, h => by
    by_cases e : i = j + 1
    · subst e; exact ⟨[], rfl⟩
    · obtain ⟨X, hX⟩ := body_at cs i j (by omega)
      exact ⟨cs.getD j [] ++ X, by rw [bodyTo, hX, List.append_assoc]⟩
section
variable {kd : Int} {cs : List (List Int)} (hk : 0 ≤ kd ∧ kd ≤ 255) (hf : totalS cs ≤ 1024)
include hk hf
theorem lay_len : (layoutS kd cs).length = 1024 := by
  unfold totalS at hf
  exact pageTo_length kd cs cs.length (Nat.le_refl _) (by rw [List.take_length]; omega)
theorem lay_kind : rd (layoutS kd cs) 0 = kd := by
  unfold layoutS pageTo headS; rfl
theorem lay_count : num (layoutS kd cs) 1 = cs.length := by
  unfold totalS at hf
  have h1 : rd (layoutS kd cs) 1 = (cs.length : Int) / 256 % 256 := by unfold layoutS pageTo headS; rfl
  have h2 : rd (layoutS kd cs) (1 + 1) = (cs.length : Int) % 256 := by unfold layoutS pageTo headS; rfl
  unfold num
  rw [h1, h2]; omega
theorem lay_offs {i : Nat} (hi : i < cs.length) : offs (layoutS kd cs) i = 1020 - (sumLen (cs.take (i + 1)) : Int) := by
  unfold totalS at hf
  have hs := sumLen_take_le cs (i + 1)
  obtain ⟨R, hR⟩ := slots_at cs i cs.length hi
  unfold offs
  rw [if_neg (by omega)]
  have hh : (headS kd cs).length = 3 := rfl
  have hd : (layoutS kd cs).drop (3 + 2 * i) = two (1020 - (sumLen (cs.take (i + 1)) : Int)) ++ (R ++ (List.replicate (1020 - sumLen (cs.take cs.length) - 3 - 2 * cs.length) 0 ++ (bodyTo cs cs.length ++ [0, 0, 0, 0]))) := by
    unfold layoutS pageTo
    rw [List.append_assoc, List.drop_append, List.drop_of_length_le (by rw [hh]; omega), hh, List.nil_append, show 3 + 2 * i - 3 = 2 * i by omega, List.drop_append_of_le_length (by rw [slotsTo_length]; omega), hR, List.append_assoc]
  have hx : ∀ k : Nat, rd (layoutS kd cs) ((3 + 2 * i + k : Nat) : Int) = rd ((layoutS kd cs).drop (3 + 2 * i)) (k : Int) := fun k => by
    unfold rd
    rw [List.getD_eq_getElem?_getD, List.getD_eq_getElem?_getD, List.getElem?_drop, Int.toNat_natCast, Int.toNat_natCast]
  unfold num
  have e0 := hx 0
  have e1 := hx 1
  rw [hd] at e0 e1
  rw [show ((3 : Int) + 2 * (i : Int)) = ((3 + 2 * i + 0 : Nat) : Int) by omega, e0, show (((3 + 2 * i + 0 : Nat) : Int) + 1) = ((3 + 2 * i + 1 : Nat) : Int) by omega, e1]
  have r0 : ∀ T, rd (two (1020 - (sumLen (cs.take (i + 1)) : Int)) ++ T) ((0 : Nat) : Int) = (1020 - (sumLen (cs.take (i + 1)) : Int)) / 256 % 256 := fun T => rfl
  have r1 : ∀ T, rd (two (1020 - (sumLen (cs.take (i + 1)) : Int)) ++ T) ((1 : Nat) : Int) = (1020 - (sumLen (cs.take (i + 1)) : Int)) % 256 := fun T => rfl
  rw [r0, r1]; omega
theorem lay_offs' {i : Nat} (hi : i ≤ cs.length) : offs (layoutS kd cs) ((i : Int) - 1) = 1020 - (sumLen (cs.take i) : Int) := by
  cases i with
  | zero => unfold offs; rw [if_pos (by omega)]; simp [sumLen]
  | succ i => rw [show ((i + 1 : Nat) : Int) - 1 = (i : Int) by omega]; exact lay_offs hk hf (by omega)
theorem lay_valid : Valid (layoutS kd cs) := by
  have hc := lay_count hk hf
  have hf2 := hf
  unfold totalS at hf2
  refine ⟨lay_len hk hf, by rw [hc]; omega, fun i h0 h1 => ?_, ?_, fun j h0 h1 => ?_⟩
  · rw [hc] at h1
    obtain ⟨n, rfl⟩ : ∃ n : Nat, i = (n : Int) := ⟨i.toNat, by omega⟩
    rw [lay_offs hk hf (by omega), lay_offs' hk hf (by omega), sumLen_take_succ cs n (by omega)]; omega
  · rw [hc, lay_offs' hk hf (Nat.le_refl _), List.take_length]; omega
  · rw [hc] at h0 h1
    rw [lay_offs' hk hf (Nat.le_refl _), List.take_length] at h1
    unfold layoutS pageTo
    have hh : (headS kd cs).length = 3 := rfl
    have hl : (headS kd cs ++ slotsTo cs cs.length).length = 3 + 2 * cs.length := by rw [List.length_append, hh, slotsTo_length]
    rw [rd_right _ _ (by rw [hl]; omega), hl, List.take_length, rd_left _ _ (by omega) (by rw [List.length_replicate]; omega), rd_zeros]
theorem lay_cell {i : Nat} (hi : i < cs.length) : cellS (layoutS kd cs) i = cs.getD i [] := by
  have hl := lay_len hk hf
  have hf2 := hf
  unfold totalS at hf2
  obtain ⟨X, hX⟩ := body_at cs (i + 1) cs.length hi
  have hs := sumLen_take_le cs (i + 1)
  have hss := sumLen_take_succ cs i hi
  have hbl := bodyTo_length cs i (by omega)
  have hP : ∃ Q, layoutS kd cs = Q ++ (cs.getD i [] ++ (bodyTo cs i ++ [0, 0, 0, 0])) := by
    refine ⟨headS kd cs ++ slotsTo cs cs.length ++ (List.replicate (1020 - sumLen (cs.take cs.length) - 3 - 2 * cs.length) 0 ++ X), ?_⟩
    unfold layoutS pageTo
    rw [hX, bodyTo]; simp only [List.append_assoc]
  obtain ⟨Q, hQ⟩ := hP
  have hql : Q.length = 1020 - sumLen (cs.take (i + 1)) := by
    have := congrArg List.length hQ
    rw [hl] at this
    simp only [List.length_append, hbl, List.length_cons, List.length_nil] at this
    omega
  unfold cellS
  rw [lay_offs hk hf hi, lay_offs' hk hf (by omega), hQ, ← List.append_assoc, List.take_left' (by rw [List.length_append, hql]; omega), List.drop_left' (by rw [hql]; omega)]
theorem lay_cells : cellsS (layoutS kd cs) = cs := by
  have hc := lay_count hk hf
  refine List.ext_getElem (by unfold cellsS; rw [cellsTo_length, hc]; omega) fun j h1 h2 => ?_
  have e1 : (cellsS (layoutS kd cs)).getD j [] = cellS (layoutS kd cs) j := getD_cellsTo _ (by rw [hc]; omega)
  rw [lay_cell hk hf h2, List.getD_eq_getElem?_getD, List.getD_eq_getElem?_getD, List.getElem?_eq_getElem h1, List.getElem?_eq_getElem h2] at e1
  exact e1
end
end Go.Proofs.YtopbmpdcmnhfdaaA
