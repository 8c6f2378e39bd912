/- Plain law, page: kinds, counts, cells, checksums and seals of both texts. -/
import Derived.Test.YtopbmpdcmnhfdaaPureA
import Derived.Test.YtopbmpdcmnhfdaaCWords
namespace Go.Proofs.Ytopbmpdcmnhfdaa.Pure
open Go.RowKit Go.Proofs.Ytopbmpdcmnhfdaa.P Go.Proofs.YtopbmpdcmnhfdaaH Go.Proofs.YtopbmpdcmnhfdaaW.PrintWords Go.Proofs.YtopbmpdcmnhfdaaW.PrintLast
set_option linter.unusedVariables false

theorem kind_yes {l : List Int} (hb : Bytes l) (hv : Valid l) : Ev (fun k => page_Kind.f k l) (rd l 0) := by
  have h0 := hb.rd 0
  have hl := hv.len
  refine Ev.bind ((valid_ev l hb).yes hv) (Ev.if_pos rfl (Ev.if_pos (by omega) (Ev.const ?_)))
  rw [wrap64_of (by omega) (by omega)]
theorem kind_no {l : List Int} (hb : Bytes l) (hv : ¬ Valid l) : Ev (fun k => page_Kind.f k l) (-1) := Ev.bind ((valid_ev l hb).no hv) (Ev.if_neg (by decide) (Ev.now _))
theorem refkind_yes {l : List Int} (hb : Bytes l) (hv : Valid l) : Ev (fun k => lineageref14_Kind.f k l) (rd l 0) := by
  have h0 := hb.rd 0
  have hl := hv.len
  refine Ev.bind ((refvalid_ev l hb).yes hv) (Ev.if_pos rfl (Ev.if_pos (by omega) (Ev.const ?_)))
  rw [wrap64_of (by omega) (by omega)]
theorem refkind_no {l : List Int} (hb : Bytes l) (hv : ¬ Valid l) : Ev (fun k => lineageref14_Kind.f k l) (-1) := Ev.bind ((refvalid_ev l hb).no hv) (Ev.if_neg (by decide) (Ev.now _))
theorem count_yes {l : List Int} (hb : Bytes l) (hv : Valid l) : Ev (fun k => page_Count.f k l) (num l 1) :=
  Ev.bind ((valid_ev l hb).yes hv) (Ev.if_pos rfl (Ev.bindc (number_f hb hv.len (by omega) (by omega)) (Ev.now _)))
theorem count_no {l : List Int} (hb : Bytes l) (hv : ¬ Valid l) : Ev (fun k => page_Count.f k l) 0 := Ev.bind ((valid_ev l hb).no hv) (Ev.if_neg (by decide) (Ev.now _))
theorem refcount_yes {l : List Int} (hb : Bytes l) (hv : Valid l) : Ev (fun k => lineageref14_Count.f k l) (num l 1) :=
  Ev.bind ((refvalid_ev l hb).yes hv) (Ev.if_pos rfl (Ev.bindc (refnumber_f hb hv.len (by omega) (by omega)) (Ev.now _)))
theorem refcount_no {l : List Int} (hb : Bytes l) (hv : ¬ Valid l) : Ev (fun k => lineageref14_Count.f k l) 0 := Ev.bind ((refvalid_ev l hb).no hv) (Ev.if_neg (by decide) (Ev.now _))
def freeS (l : List Int) : Int := offs l (num l 1 - 1) - 3 - 2 * num l 1
theorem free_yes {l : List Int} (hb : Bytes l) (hv : Valid l) : Ev (fun k => page_Free.f k l) (freeS l) := by
  have hn := num_range hb 1
  have ho := offs_range hb (num l 1 - 1)
  have hs := hv.slots
  refine Ev.bind ((valid_ev l hb).yes hv) (Ev.if_pos rfl (Ev.bindc (number_f hb hv.len (by omega) (by omega)) ?_))
  rw [wrap64_of (x := num l 1 - 1) (by omega) (by omega)]
  refine Ev.bindc (offset_f hb hv.len (by omega) (by omega)) (Ev.const ?_)
  rw [wrap64_of (x := 2 * num l 1) (by omega) (by omega), wrap64_of (x := offs l (num l 1 - 1) - 3) (by omega) (by omega), wrap64_of (by omega) (by omega)]
  rfl
theorem free_no {l : List Int} (hb : Bytes l) (hv : ¬ Valid l) : Ev (fun k => page_Free.f k l) 0 := Ev.bind ((valid_ev l hb).no hv) (Ev.if_neg (by decide) (Ev.now _))
theorem reffree_yes {l : List Int} (hb : Bytes l) (hv : Valid l) : Ev (fun k => lineageref14_Free.f k l) (freeS l) := by
  have hn := num_range hb 1
  have ho := offs_range hb (num l 1 - 1)
  have hs := hv.slots
  refine Ev.bind ((refvalid_ev l hb).yes hv) (Ev.if_pos rfl (Ev.bindc (refnumber_f hb hv.len (by omega) (by omega)) ?_))
  rw [wrap64_of (x := num l 1 - 1) (by omega) (by omega)]
  refine Ev.bindc (start_f hb hv.len (by omega) (by omega)) (Ev.const ?_)
  rw [wrap64_of (x := 2 * num l 1) (by omega) (by omega), wrap64_of (x := offs l (num l 1 - 1) - 3) (by omega) (by omega), wrap64_of (by omega) (by omega)]
  rfl
theorem reffree_no {l : List Int} (hb : Bytes l) (hv : ¬ Valid l) : Ev (fun k => lineageref14_Free.f k l) 0 := Ev.bind ((refvalid_ev l hb).no hv) (Ev.if_neg (by decide) (Ev.now _))

/-! ### cells -/
def cellS (l : List Int) (i : Int) : List Int := (l.take (offs l (i - 1)).toNat).drop (offs l i).toNat
def cellsTo (l : List Int) (n : Nat) : List (List Int) := (List.range n).map (fun (i : Nat) => cellS l i)
def cellsS (l : List Int) : List (List Int) := cellsTo l (num l 1).toNat
theorem cellsTo_length (l : List Int) (n : Nat) : (cellsTo l n).length = n := by simp [cellsTo]
theorem cellsTo_succ (l : List Int) (n : Nat) : cellsTo l (n + 1) = cellsTo l n ++ [cellS l n] := by
  unfold cellsTo
  rw [List.range_succ, List.map_append]
  rfl
theorem bytes_cellS {l : List Int} (hb : Bytes l) (i : Int) : Bytes (cellS l i) := (hb.take _).drop _
theorem top_of {l : List Int} (hv : Valid l) {i : Int} (h0 : -1 ≤ i) (h1 : i < num l 1) : offs l i ≤ 1020 := offs_top (i + 1).toNat (n := num l 1) hv.mono h0 h1 (by omega)
theorem cell_yes {l : List Int} (hb : Bytes l) (hv : Valid l) {i : Int} (h0 : 0 ≤ i) (h1 : i < num l 1) : Ev (fun k => page_Cell.f k l i) (cellS l i, true) := by
  have hs := hv.slots
  have hm := hv.mono i h0 h1
  have ht := top_of hv (i := i - 1) (by omega) (by omega)
  have hl := hv.len
  have hr := offs_range hb i
  refine Ev.if_neg (by omega) (Ev.bind (count_yes hb hv) (Ev.step (fun k => page_Cell.j0.eq_2 _ _ _ k) (Ev.if_neg (by simp; omega) ?_)))
  rw [wrap64_of (x := i - 1) (by omega) (by omega)]
  refine Ev.bindc (offset_f hb hv.len (by omega) (by omega)) (Ev.bindc (offset_f hb hv.len (by omega) (by omega)) (Ev.if_pos (by omega) (Ev.if_pos hm (Ev.if_pos (by omega) (Ev.bindc (a := cellS l i) ?_ (Ev.now _))))))
  unfold slices_Clone_byte_byte.f
  rw [if_pos (by rw [List.length_drop, List.length_take]; omega)]
  rfl
theorem cell_none {l : List Int} (hb : Bytes l) (hv : Valid l) {i : Int} (h : i < 0 ∨ num l 1 ≤ i) : Ev (fun k => page_Cell.f k l i) (([] : List Int), false) := by
  by_cases hi : i < 0
  · exact Ev.if_pos hi (Ev.step (fun k => page_Cell.j0.eq_2 _ _ _ k) (Ev.if_pos rfl (Ev.now _)))
  · exact Ev.if_neg hi (Ev.bind (count_yes hb hv) (Ev.step (fun k => page_Cell.j0.eq_2 _ _ _ k) (Ev.if_pos (by simp; omega) (Ev.now _))))
theorem cell_no {l : List Int} (hb : Bytes l) (hv : ¬ Valid l) (i : Int) : Ev (fun k => page_Cell.f k l i) (([] : List Int), false) := by
  by_cases hi : i < 0
  · exact Ev.if_pos hi (Ev.step (fun k => page_Cell.j0.eq_2 _ _ _ k) (Ev.if_pos rfl (Ev.now _)))
  · exact Ev.if_neg hi (Ev.bind (count_no hb hv) (Ev.step (fun k => page_Cell.j0.eq_2 _ _ _ k) (Ev.if_pos (by simp; omega) (Ev.now _))))
theorem cells_loop {l : List Int} (hb : Bytes l) (hv : Valid l) (d : Nat) : ∀ i : Nat, num l 1 - i = d → Ev (fun k => page_Cells.l0 k l (cellsTo l i) (num l 1) i) (cellsS l) := by
  have hs := hv.slots
  induction d with
  | zero =>
    intro i hd
    refine Ev.step (fun k => page_Cells.l0.eq_2 _ _ _ _ k) (Ev.if_neg (by omega) (Ev.const ?_))
    unfold cellsS
    rw [show (num l 1).toNat = i by omega]
  | succ d ih =>
    intro i hd
    refine Ev.step (fun k => page_Cells.l0.eq_2 _ _ _ _ k) (Ev.if_pos (by omega) (Ev.bind (cell_yes hb hv (by omega) (by omega)) (Ev.if_pos (by rw [cellsTo_length]; omega) ?_)))
    have h := ih (i + 1) (by omega)
    rw [cellsTo_succ] at h
    rw [wrap64_of (by omega) (by omega)]
    exact h
theorem cells_yes {l : List Int} (hb : Bytes l) (hv : Valid l) : Ev (fun k => page_Cells.f k l) (cellsS l) := by
  have hn := num_range hb 1
  exact Ev.bind (count_yes hb hv) (cells_loop hb hv (num l 1).toNat 0 (by omega))
theorem cells_no {l : List Int} (hb : Bytes l) (hv : ¬ Valid l) : Ev (fun k => page_Cells.f k l) [] :=
  Ev.bind (count_no hb hv) (Ev.step (fun k => page_Cells.l0.eq_2 _ _ _ _ k) (Ev.if_neg (by omega) (Ev.now _)))
theorem refcells_loop {l : List Int} (hb : Bytes l) (hv : Valid l) (d : Nat) : ∀ i : Nat, num l 1 - i = d → Ev (fun k => lineageref14_Cells.l0 k l (cellsTo l i) i) (cellsS l) := by
  have hs := hv.slots
  have hl := hv.len
  induction d with
  | zero =>
    intro i hd
    refine Ev.step (fun k => lineageref14_Cells.l0.eq_2 _ _ _ k) (Ev.bind (refcount_yes hb hv) (Ev.if_neg (by omega) (Ev.const ?_)))
    unfold cellsS
    rw [show (num l 1).toNat = i by omega]
  | succ d ih =>
    intro i hd
    have hm := hv.mono i (by omega) (by omega)
    have ht := top_of hv (i := i - 1) (by omega) (by omega)
    have hr := offs_range hb i
    refine Ev.step (fun k => lineageref14_Cells.l0.eq_2 _ _ _ k) (Ev.bind (refcount_yes hb hv) (Ev.if_pos (by omega) (Ev.bindc rfl ?_)))
    rw [wrap64_of (x := (i : Int) - 1) (by omega) (by omega)]
    refine Ev.bindc (start_f hb hl (by omega) (by omega)) (Ev.bindc (start_f hb hl (by omega) (by omega)) (Ev.if_pos (by omega) (Ev.if_pos hm (Ev.if_pos (by omega) (Ev.if_pos ?_ (Ev.if_pos (by rw [cellsTo_length]; omega) ?_))))))
    · rw [List.length_drop, List.length_take]; simp; omega
    · have h := ih (i + 1) (by omega)
      rw [cellsTo_succ] at h
      rw [wrap64_of (by omega) (by omega)]
      exact h
theorem refcells_yes {l : List Int} (hb : Bytes l) (hv : Valid l) : Ev (fun k => lineageref14_Cells.f k l) (cellsS l) := by
  have hn := num_range hb 1
  exact refcells_loop hb hv (num l 1).toNat 0 (by omega)
theorem refcells_no {l : List Int} (hb : Bytes l) (hv : ¬ Valid l) : Ev (fun k => lineageref14_Cells.f k l) [] :=
  Ev.step (fun k => lineageref14_Cells.l0.eq_2 _ _ _ k) (Ev.bind (refcount_no hb hv) (Ev.if_neg (by omega) (Ev.now _)))
theorem rd_cells {l : List Int} (n : Nat) {i : Int} (h0 : 0 ≤ i) (h1 : i < n) : rd_L1 (cellsTo l n) i = cellS l i := by
  unfold rd_L1 cellsTo
  rw [List.getD_eq_getElem?_getD, List.getElem?_eq_getElem (by simp; omega)]
  simp
  rw [show max i 0 = i by omega]
theorem refcell_yes {l : List Int} (hb : Bytes l) (hv : Valid l) {i : Int} (h0 : 0 ≤ i) (h1 : i < num l 1) : Ev (fun k => lineageref14_Cell.f k l i) (cellS l i, true) := by
  have hc : ((cellsS l).length : Int) = num l 1 := by unfold cellsS; rw [cellsTo_length]; have := num_range hb 1; omega
  refine Ev.bind (refcells_yes hb hv) (Ev.if_neg (by omega) (Ev.if_neg (by omega) (Ev.if_pos h0 (Ev.if_pos (by omega) (Ev.const ?_)))))
  unfold cellsS
  rw [rd_cells _ h0 (by omega)]
theorem refcell_none {l : List Int} (hb : Bytes l) (hv : Valid l) {i : Int} (h : i < 0 ∨ num l 1 ≤ i) : Ev (fun k => lineageref14_Cell.f k l i) (([] : List Int), false) := by
  have hc : ((cellsS l).length : Int) = num l 1 := by unfold cellsS; rw [cellsTo_length]; have := num_range hb 1; omega
  refine Ev.bind (refcells_yes hb hv) ?_
  by_cases hi : i < 0
  · exact Ev.if_pos hi (Ev.now _)
  · exact Ev.if_neg hi (Ev.if_pos (by omega) (Ev.now _))
theorem refcell_no {l : List Int} (hb : Bytes l) (hv : ¬ Valid l) (i : Int) : Ev (fun k => lineageref14_Cell.f k l i) (([] : List Int), false) := by
  refine Ev.bind (refcells_no hb hv) ?_
  by_cases hi : i < 0
  · exact Ev.if_pos hi (Ev.now _)
  · exact Ev.if_neg hi (Ev.if_pos (by simp; omega) (Ev.now _))

/-! ### equal lists of byte lists -/
theorem same_refl {l : List Int} (hb : Bytes l) : lineageref14_Same.f l l = some true := by
  unfold lineageref14_Same.f
  simp
theorem same_f {l m : List Int} (hl : Bytes l) (hm : Bytes m) : lineageref14_Same.f l m = some (decide (l = m)) := by
  unfold lineageref14_Same.f
  rw [same_eq hl hm]
theorem list_loop (a : List (List Int)) (ha : a.length ≤ 1000000) (d : Nat) : ∀ i : Int, 0 ≤ i → (a.length : Int) - i = d → Ev (fun k => lineageref14_List.l0 k a a i) true := by
  induction d with
  | zero =>
    intro i h0 hd
    exact Ev.step (fun k => lineageref14_List.l0.eq_2 _ _ _ k) (Ev.if_neg (by omega) (Ev.now _))
  | succ d ih =>
    intro i h0 hd
    refine Ev.step (fun k => lineageref14_List.l0.eq_2 _ _ _ k) (Ev.if_pos (by omega) (Ev.if_pos h0 (Ev.if_pos (by omega) (Ev.bindc (a := true) (by unfold lineageref14_Same.f; simp) (Ev.if_pos rfl ?_)))))
    rw [wrap64_of (by omega) (by omega)]
    exact ih (i + 1) (by omega) (by omega)
theorem list_refl (a : List (List Int)) (ha : a.length ≤ 1000000) : Ev (fun k => lineageref14_List.f k a a) true := Ev.if_pos rfl (list_loop a ha a.length 0 (by omega) (by omega))

/-! ### the checksum -/
theorem rd_drop (l : List Int) (i : Int) (h0 : 0 ≤ i) (h1 : i < (l.length : Int)) : l.drop i.toNat = rd l i :: l.drop (i + 1).toNat := by
  rw [List.drop_eq_getElem_cons (by omega), show (i + 1).toNat = i.toNat + 1 by omega]
  unfold rd
  rw [List.getD_eq_getElem?_getD, List.getElem?_eq_getElem (by omega)]
  rfl
theorem crc_inner (l : List Int) (i r : Int) (n : Nat) : ∀ (j : Nat) (s : Int), j + n = 8 → Ev (fun k => codec_Checksum.l0 k (crcRounds n s) l (l.length : Int) (wrap64 (i + 1))) r → Ev (fun k => codec_Checksum.l1 k s l (l.length : Int) i (j : Int)) r := by
  induction n with
  | zero =>
    intro j s hj h
    exact Ev.step (fun k => codec_Checksum.l1.eq_2 _ _ _ _ _ k) (Ev.if_neg (by omega) h)
  | succ n ih =>
    intro j s hj h
    refine Ev.step (fun k => codec_Checksum.l1.eq_2 _ _ _ _ _ k) (Ev.if_pos (by omega) ?_)
    rw [wrap64_of (x := (j : Int) + 1) (by omega) (by omega)]
    unfold crcRounds crcRound at h
    by_cases hc : Go.bits .and .u32 s 1 = 1
    · rw [if_pos hc] at h
      exact Ev.if_pos hc (ih (j + 1) _ (by omega) h)
    · rw [if_neg hc] at h
      exact Ev.if_neg hc (ih (j + 1) _ (by omega) h)
theorem crc_loop (l : List Int) (hl : l.length ≤ 1000000000) (d : Nat) : ∀ (i : Int) (s : Int), 0 ≤ i → (l.length : Int) - i = d → Ev (fun k => codec_Checksum.l0 k s l (l.length : Int) i) (Go.bits .xor .u32 4294967295 (crcFold s (l.drop i.toNat))) := by
  induction d with
  | zero =>
    intro i s h0 hd
    refine Ev.step (fun k => codec_Checksum.l0.eq_2 _ _ _ _ k) (Ev.if_neg (by omega) (Ev.const ?_))
    rw [List.drop_eq_nil_of_le (by omega)]
    rfl
  | succ d ih =>
    intro i s h0 hd
    refine Ev.step (fun k => codec_Checksum.l0.eq_2 _ _ _ _ k) (Ev.if_pos (by omega) (Ev.if_pos h0 (Ev.if_pos (by omega) (crc_inner l i _ 8 0 _ (by omega) ?_))))
    rw [wrap64_of (x := i + 1) (by omega) (by omega), rd_drop l i h0 (by omega)]
    exact ih (i + 1) _ (by omega) (by omega)
theorem crc_f (l : List Int) (hl : l.length ≤ 1000000000) : Ev (fun k => codec_Checksum.f k l) (crcS l) := crc_loop l hl l.length 0 _ (by omega) (by omega)
theorem refcrc_inner (l : List Int) (i r : Int) (n : Nat) : ∀ (j : Nat) (s : Int), j + n = 8 → Ev (fun k => lineageref04_Checksum.l0 k l (crcRounds n s) (wrap64 (i + 1))) r → Ev (fun k => lineageref04_Checksum.l1 k l s i (j : Int)) r := by
  induction n with
  | zero =>
    intro j s hj h
    exact Ev.step (fun k => lineageref04_Checksum.l1.eq_2 _ _ _ _ k) (Ev.if_neg (by omega) h)
  | succ n ih =>
    intro j s hj h
    refine Ev.step (fun k => lineageref04_Checksum.l1.eq_2 _ _ _ _ k) (Ev.if_pos (by omega) ?_)
    rw [wrap64_of (x := (j : Int) + 1) (by omega) (by omega)]
    unfold crcRounds crcRound at h
    by_cases hc : Go.bits .and .u32 s 1 = 1
    · rw [if_pos hc] at h
      exact Ev.if_pos hc (ih (j + 1) _ (by omega) h)
    · rw [if_neg hc] at h
      exact Ev.if_neg hc (ih (j + 1) _ (by omega) h)
theorem refcrc_loop (l : List Int) (hl : l.length ≤ 1000000000) (d : Nat) : ∀ (i : Int) (s : Int), 0 ≤ i → (l.length : Int) - i = d → Ev (fun k => lineageref04_Checksum.l0 k l s i) (Go.bits .xor .u32 4294967295 (crcFold s (l.drop i.toNat))) := by
  induction d with
  | zero =>
    intro i s h0 hd
    refine Ev.step (fun k => lineageref04_Checksum.l0.eq_2 _ _ _ k) (Ev.if_neg (by omega) (Ev.const ?_))
    rw [List.drop_eq_nil_of_le (by omega), bits_xor_comm]
    rfl
  | succ d ih =>
    intro i s h0 hd
    refine Ev.step (fun k => lineageref04_Checksum.l0.eq_2 _ _ _ k) (Ev.if_pos (by omega) (Ev.if_pos h0 (refcrc_inner l i _ 8 0 _ (by omega) ?_)))
    rw [wrap64_of (x := i + 1) (by omega) (by omega), rd_drop l i h0 (by omega)]
    exact ih (i + 1) _ (by omega) (by omega)
theorem refcrc_f (l : List Int) (hl : l.length ≤ 1000000000) : Ev (fun k => lineageref04_Checksum.f k l) (crcS l) := refcrc_loop l hl l.length 0 _ (by omega) (by omega)

/-! ### seals -/
def crcBytes (t : Int) : List Int := [t / 16777216 % 256, t / 65536 % 256, t / 256 % 256, t % 256]
def sealS (l : List Int) : List Int := l.take 1020 ++ crcBytes (crcS (l.take 1020))
theorem bytes_crcBytes (t : Int) : Bytes (crcBytes t) := by
  intro x hx
  simp [crcBytes] at hx
  rcases hx with rfl | rfl | rfl | rfl <;> omega
theorem bytes_sealS {l : List Int} (hb : Bytes l) : Bytes (sealS l) := (hb.take _).append (bytes_crcBytes _)
theorem set4 (l : List Int) (hl : l.length = 1024) (a b c d : Int) : (((l.set 1020 a).set 1021 b).set 1022 c).set 1023 d = l.take 1020 ++ [a, b, c, d] := by
  apply List.ext_getElem?
  intro i
  rw [List.getElem?_set, List.getElem?_set, List.getElem?_set, List.getElem?_set, List.getElem?_append, List.length_take, hl]
  by_cases h : i < 1020
  · rw [if_neg (by omega), if_neg (by omega), if_neg (by omega), if_neg (by omega), if_pos (by omega), List.getElem?_take_of_lt h]
  · rw [if_neg (show ¬ i < min 1020 1024 by omega)]
    by_cases h4 : i < 1024
    · have : i = 1020 ∨ i = 1021 ∨ i = 1022 ∨ i = 1023 := by omega
      rcases this with rfl | rfl | rfl | rfl <;> simp [hl]
    · rw [if_neg (by omega), if_neg (by omega), if_neg (by omega), if_neg (by omega), List.getElem?_eq_none (by omega), List.getElem?_eq_none (by simp; omega)]
theorem put_f (l : List Int) (hl : l.length = 1024) (i n : Int) (h0 : 0 ≤ i) (h1 : i + 1 < 1024) : page_put.f l i n = some ((l.set i.toNat (n / 256 % 256)).set (i + 1).toNat (n % 256)) := by
  unfold page_put.f
  rw [wrap64_of (x := i + 1) (by omega) (by omega), if_pos h0, if_pos (by omega), if_pos (by omega), if_pos (by omega)]
theorem seal_yes {l : List Int} (hb : Bytes l) (hv : Valid l) : Ev (fun k => page_Seal.f k l) (sealS l) := by
  have hl := hv.len
  have ht := crcS_range (l.take 1020)
  refine Ev.bind ((valid_ev l hb).yes hv) (Ev.if_pos rfl (Ev.bindc (a := l) (by unfold slices_Clone_byte_byte.f; rw [if_pos (by omega)]) (Ev.if_pos (by omega) (Ev.bind (crc_f _ (by rw [List.length_take]; omega)) ?_))))
  have hm : Go.bits .and .u32 (crcS (l.take 1020)) 65535 = crcS (l.take 1020) % 65536 := bits_mask .u32 32 (by decide) (fun n h0 h1 => by rw [IntKind.wrap_u32]; omega) 16 (by decide) _ ht.1 ht.2
  rw [wrap64_of (x := crcS (l.take 1020) / 65536) (by omega) (by omega), hm, wrap64_of (x := crcS (l.take 1020) % 65536) (by omega) (by omega)]
  refine Ev.bindc (put_f l hl _ _ (by omega) (by omega)) (Ev.bindc (put_f _ (by rw [List.length_set, List.length_set]; exact hl) _ _ (by omega) (by omega)) (Ev.const ?_))
  have e := set4 l hl (crcS (l.take 1020) / 65536 / 256 % 256) (crcS (l.take 1020) / 65536 % 256) (crcS (l.take 1020) % 65536 / 256 % 256) (crcS (l.take 1020) % 65536 % 256)
  show some ((((l.set 1020 _).set 1021 _).set 1022 _).set 1023 _) = _
  rw [e]
  unfold sealS crcBytes
  rw [show crcS (l.take 1020) / 65536 / 256 % 256 = crcS (l.take 1020) / 16777216 % 256 by omega, show crcS (l.take 1020) % 65536 / 256 % 256 = crcS (l.take 1020) / 256 % 256 by omega, show crcS (l.take 1020) % 65536 % 256 = crcS (l.take 1020) % 256 by omega]
theorem seal_no {l : List Int} (hb : Bytes l) (hv : ¬ Valid l) : Ev (fun k => page_Seal.f k l) [] := Ev.bind ((valid_ev l hb).no hv) (Ev.if_neg (by decide) (Ev.now _))
theorem refseal_yes {l : List Int} (hb : Bytes l) (hv : Valid l) : Ev (fun k => lineageref14_Seal.f k l) (sealS l) := by
  have hl := hv.len
  refine Ev.bind ((refvalid_ev l hb).yes hv) (Ev.if_pos rfl (Ev.if_pos (by omega) (Ev.bind (refcrc_f _ (by rw [List.length_take]; omega)) (Ev.bindc rfl (Ev.if_pos (by rw [List.length_take]; simp; omega) (Ev.bindc rfl (Ev.bindc rfl (Ev.if_pos (by simp; omega) (Ev.const ?_)))))))))
  rfl
theorem refseal_no {l : List Int} (hb : Bytes l) (hv : ¬ Valid l) : Ev (fun k => lineageref14_Seal.f k l) [] := Ev.bind ((refvalid_ev l hb).no hv) (Ev.if_neg (by decide) (Ev.now _))
theorem equal_loop (a b : List Int) (hab : a.length = b.length) (hl : a.length ≤ 1000000000) (d : Nat) : ∀ i : Int, 0 ≤ i → (a.length : Int) - i = d → EvB (fun k => slices_Equal_byte_byte.l0 k a b (a.length : Int) i) (a.drop i.toNat = b.drop i.toNat) := by
  induction d with
  | zero =>
    intro i h0 hd
    exact EvB.step (fun k => slices_Equal_byte_byte.l0.eq_2 _ _ _ _ k) (EvB.if_neg (by omega) (EvB.at_true (by rw [List.drop_eq_nil_of_le (by omega), List.drop_eq_nil_of_le (by omega)])))
  | succ d ih =>
    intro i h0 hd
    have e : (a.drop i.toNat = b.drop i.toNat) ↔ rd a i = rd b i ∧ a.drop (i + 1).toNat = b.drop (i + 1).toNat := by
      rw [rd_drop a i h0 (by omega), rd_drop b i h0 (by omega), List.cons.injEq]
    refine EvB.step (fun k => slices_Equal_byte_byte.l0.eq_2 _ _ _ _ k) (EvB.if_pos (by omega) (EvB.if_pos h0 (EvB.if_pos (by omega) (EvB.if_pos (by omega) ?_))))
    by_cases hc : rd a i = rd b i
    · refine EvB.if_pos hc ?_
      rw [wrap64_of (by omega) (by omega)]
      exact (ih (i + 1) (by omega) (by omega)).imp (by rw [e]; exact ⟨fun h => ⟨hc, h⟩, fun h => h.2⟩)
    · exact EvB.if_neg hc (EvB.at_false (by rw [e]; exact fun h => hc h.1))
theorem equal_ev (a b : List Int) (hl : a.length ≤ 1000000000) : EvB (fun k => slices_Equal_byte_byte.f k a b) (a = b) := by
  by_cases hc : a.length = b.length
  · refine EvB.if_pos (by omega) ((equal_loop a b hc hl a.length 0 (by omega) (by omega)).imp (by simp))
  · exact EvB.if_neg (by omega) (EvB.at_false (fun h => hc (by rw [h])))
theorem sealS_length {l : List Int} (hv : l.length = 1024) : (sealS l).length = 1024 := by
  unfold sealS crcBytes
  rw [List.length_append, List.length_take]
  simp [hv]
def SealedS (l : List Int) : Prop := sealS l = l
theorem check_yes {l : List Int} (hb : Bytes l) (hv : Valid l) (hs : SealedS l) : Ev (fun k => page_Check.f k l) 0 :=
  Ev.bind ((valid_ev l hb).yes hv) (Ev.if_pos rfl (Ev.bind (seal_yes hb hv) (Ev.bind ((equal_ev _ _ (by rw [sealS_length hv.len]; omega)).yes hs) (Ev.if_pos rfl (Ev.now _)))))
theorem check_unsealed {l : List Int} (hb : Bytes l) (hv : Valid l) (hs : ¬ SealedS l) : Ev (fun k => page_Check.f k l) 12 :=
  Ev.bind ((valid_ev l hb).yes hv) (Ev.if_pos rfl (Ev.bind (seal_yes hb hv) (Ev.bind ((equal_ev _ _ (by rw [sealS_length hv.len]; omega)).no hs) (Ev.if_neg (by decide) (Ev.now _)))))
theorem check_no {l : List Int} (hb : Bytes l) (hv : ¬ Valid l) : Ev (fun k => page_Check.f k l) 12 := Ev.bind ((valid_ev l hb).no hv) (Ev.if_neg (by decide) (Ev.now _))
theorem refcheck_yes {l : List Int} (hb : Bytes l) (hv : Valid l) (hs : SealedS l) : Ev (fun k => lineageref14_Check.f k l) 0 :=
  Ev.bind ((refvalid_ev l hb).yes hv) (Ev.if_pos rfl (Ev.bind (refseal_yes hb hv) (Ev.bindc (a := true) (by rw [same_f (bytes_sealS hb) hb]; simpa [SealedS] using hs) (Ev.if_pos rfl (Ev.now _)))))
theorem refcheck_unsealed {l : List Int} (hb : Bytes l) (hv : Valid l) (hs : ¬ SealedS l) : Ev (fun k => lineageref14_Check.f k l) 12 :=
  Ev.bind ((refvalid_ev l hb).yes hv) (Ev.if_pos rfl (Ev.bind (refseal_yes hb hv) (Ev.bindc (a := false) (by rw [same_f (bytes_sealS hb) hb]; simpa [SealedS] using hs) (Ev.if_neg (by decide) (Ev.now _)))))
theorem refcheck_no {l : List Int} (hb : Bytes l) (hv : ¬ Valid l) : Ev (fun k => lineageref14_Check.f k l) 12 := Ev.bind ((refvalid_ev l hb).no hv) (Ev.if_neg (by decide) (Ev.now _))
end Go.Proofs.Ytopbmpdcmnhfdaa.Pure
