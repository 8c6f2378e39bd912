/- Plain law, page: what the readers of both texts compute over a list of bytes. -/
import Derived.Test.YtopbmpdcmnhfdaaPWords
import Derived.Test.YtopbmpdcmnhfdaaPx
namespace Go.Proofs.Ytopbmpdcmnhfdaa.Pure
open Go.RowKit Go.Proofs.Ytopbmpdcmnhfdaa.P Go.Proofs.YtopbmpdcmnhfdaaH Go.Proofs.YtopbmpdcmnhfdaaW.PrintWords Go.Proofs.YtopbmpdcmnhfdaaW.PrintLast
set_option linter.unusedVariables false

def num (l : List Int) (i : Int) : Int := rd l i * 256 + rd l (i + 1)
def offs (l : List Int) (i : Int) : Int := if i < 0 then 1020 else num l (3 + 2 * i)
theorem num_range {l : List Int} (h : Bytes l) (i : Int) : 0 ≤ num l i ∧ num l i ≤ 65535 := by
  have h1 := h.rd i
  have h2 := h.rd (i + 1)
  unfold num
  omega
theorem offs_range {l : List Int} (h : Bytes l) (i : Int) : 0 ≤ offs l i ∧ offs l i ≤ 65535 := by
  unfold offs
  split
  · omega
  · exact num_range h _
theorem number_f {l : List Int} (h : Bytes l) (hl : l.length = 1024) {i : Int} (h0 : 0 ≤ i) (h1 : i + 1 < 1024) : page_number.f l i = some (num l i) := by
  unfold page_number.f
  rw [wrap64_of (x := i + 1) (by omega) (by omega), if_pos h0, if_pos (by omega), if_pos (by omega), if_pos (by omega), or_bytes (h.rd _) (h.rd _)]
  rfl
theorem refnumber_f {l : List Int} (h : Bytes l) (hl : l.length = 1024) {i : Int} (h0 : 0 ≤ i) (h1 : i + 1 < 1024) : lineageref14_number.f l i = some (num l i) := by
  have ha := h.rd i
  have hb := h.rd (i + 1)
  unfold lineageref14_number.f
  rw [wrap64_of (x := i + 1) (by omega) (by omega), if_pos h0, if_pos (by omega), if_pos (by omega), if_pos (by omega)]
  rw [wrap64_of (x := rd l i) (by omega) (by omega), wrap64_of (x := rd l (i + 1)) (by omega) (by omega), wrap64_of (x := 256 * rd l i) (by omega) (by omega), wrap64_of (by omega) (by omega)]
  unfold num
  rw [Int.mul_comm]
theorem offset_f {l : List Int} (h : Bytes l) (hl : l.length = 1024) {i : Int} (h0 : -1 ≤ i) (h1 : i < 509) : page_offset.f l i = some (offs l i) := by
  unfold page_offset.f offs
  by_cases hi : i < 0
  · rw [if_pos hi, if_pos hi]
  · rw [if_neg hi, if_neg hi, wrap64_of (x := 2 * i) (by omega) (by omega), wrap64_of (x := 3 + 2 * i) (by omega) (by omega), number_f h hl (by omega) (by omega)]
    rfl
theorem start_f {l : List Int} (h : Bytes l) (hl : l.length = 1024) {i : Int} (h0 : -1 ≤ i) (h1 : i < 509) : lineageref14_start.f l i = some (offs l i) := by
  unfold lineageref14_start.f offs
  by_cases hi : i < 0
  · rw [if_pos hi, if_pos hi]
  · rw [if_neg hi, if_neg hi, wrap64_of (x := 2 * i) (by omega) (by omega), wrap64_of (x := 3 + 2 * i) (by omega) (by omega), refnumber_f h hl (by omega) (by omega)]
    rfl

/-! ### a byte that isn't zero -/
theorem index_ev (l : List Int) (hl : l.length ≤ 1024) (d : Nat) : ∀ i : Int, 0 ≤ i → (l.length : Int) - i = d → ∃ r, Ev (fun k => slices_IndexFunc_byte_byte_at_1_52.l0 k l (l.length : Int) i) r ∧ (r ≥ 0 ↔ ∃ j, i ≤ j ∧ j < (l.length : Int) ∧ rd l j ≠ 0) := by
  induction d with
  | zero =>
    intro i h0 hd
    refine ⟨-1, Ev.step (fun k => slices_IndexFunc_byte_byte_at_1_52.l0.eq_2 _ _ _ k) (Ev.if_neg (by omega) (Ev.now _)), ⟨fun h => by omega, fun ⟨j, h1, h2, _⟩ => by omega⟩⟩
  | succ d ih =>
    intro i h0 hd
    by_cases hz : rd l i = 0
    · obtain ⟨r, hr, hr2⟩ := ih (i + 1) (by omega) (by omega)
      refine ⟨r, Ev.step (fun k => slices_IndexFunc_byte_byte_at_1_52.l0.eq_2 _ _ _ k) (Ev.if_pos (by omega) (Ev.if_pos h0 (Ev.if_pos (by omega) (Ev.bindc (a := false) (by simp [page_valid_1.f, hz]) (Ev.if_neg (by decide) ?_))))), hr2.trans ⟨fun ⟨j, h1, h2, h3⟩ => ⟨j, by omega, h2, h3⟩, fun ⟨j, h1, h2, h3⟩ => ⟨j, ?_, h2, h3⟩⟩⟩
      · rw [wrap64_of (by omega) (by omega)]; exact hr
      · have : i ≠ j := fun e => h3 (e ▸ hz)
        omega
    · refine ⟨i, Ev.step (fun k => slices_IndexFunc_byte_byte_at_1_52.l0.eq_2 _ _ _ k) (Ev.if_pos (by omega) (Ev.if_pos h0 (Ev.if_pos (by omega) (Ev.bindc (a := true) (by simp [page_valid_1.f, hz]) (Ev.if_pos rfl (Ev.now _)))))), ⟨fun _ => ⟨i, by omega, by omega, hz⟩, fun _ => h0⟩⟩
theorem contains_ev (l : List Int) (hl : l.length ≤ 1024) : EvB (fun k => slices_ContainsFunc_byte_byte_at_1_52.f k l) (∃ j : Int, 0 ≤ j ∧ j < (l.length : Int) ∧ rd l j ≠ 0) := by
  obtain ⟨r, hr, h2⟩ := index_ev l hl l.length 0 (by omega) (by omega)
  exact ⟨decide (r ≥ 0), Ev.bind hr (Ev.now _), by rw [decide_eq_true_iff]; exact h2⟩
theorem rd_cut (l : List Int) (a b j : Int) (ha : 0 ≤ a) (hb : a ≤ b) (hl : b ≤ (l.length : Int)) (h0 : 0 ≤ j) (h1 : j < b - a) : rd ((l.take b.toNat).drop a.toNat) j = rd l (a + j) := by
  unfold rd
  rw [List.getD_eq_getElem?_getD, List.getD_eq_getElem?_getD, List.getElem?_drop, List.getElem?_take_of_lt (by omega), show (a + j).toNat = a.toNat + j.toNat by omega]
theorem len_cut (l : List Int) (a b : Int) (ha : 0 ≤ a) (hb : a ≤ b) (hl : b ≤ (l.length : Int)) : (((l.take b.toNat).drop a.toNat).length : Int) = b - a := by
  rw [List.length_drop, List.length_take]
  omega

/-! ### valid pages -/
structure Valid (l : List Int) : Prop where
  len : l.length = 1024
  slots : 3 + 2 * num l 1 ≤ 1020
  mono : ∀ i, 0 ≤ i → i < num l 1 → offs l i ≤ offs l (i - 1)
  last : 3 + 2 * num l 1 ≤ offs l (num l 1 - 1)
  zero : ∀ j, 3 + 2 * num l 1 ≤ j → j < offs l (num l 1 - 1) → rd l j = 0
theorem offs_top {l : List Int} (d : Nat) : ∀ {n i : Int}, (∀ j, 0 ≤ j → j < n → offs l j ≤ offs l (j - 1)) → -1 ≤ i → i < n → i + 1 = d → offs l i ≤ 1020 := by
  induction d with
  | zero =>
    intro n i hm h0 h1 hd
    obtain rfl : i = -1 := by omega
    unfold offs
    rw [if_pos (by omega)]
    omega
  | succ d ih =>
    intro n i hm h0 h1 hd
    have := ih hm (i := i - 1) (by omega) (by omega) (by omega)
    have := hm i (by omega) h1
    omega
theorem valid_loop (l : List Int) (hb : Bytes l) (hl : l.length = 1024) (hs : 3 + 2 * num l 1 ≤ 1020) (d : Nat) : ∀ i : Int, 0 ≤ i → num l 1 - i = d → (∀ j, 0 ≤ j → j < i → offs l j ≤ offs l (j - 1)) →
    EvB (fun k => page_valid.l0 k l (num l 1) (3 + 2 * num l 1) (num l 1) i) (Valid l) := by
  have hn := num_range hb 1
  induction d with
  | zero =>
    intro i h0 hd hm
    obtain rfl : i = num l 1 := by omega
    refine EvB.step (fun k => page_valid.l0.eq_2 _ _ _ _ _ k) (EvB.if_neg (by omega) ?_)
    rw [wrap64_of (x := num l 1 - 1) (by omega) (by omega)]
    refine EvB.bindc (offset_f hb hl (by omega) (by omega)) ?_
    by_cases hlast : offs l (num l 1 - 1) ≥ 3 + 2 * num l 1
    · refine EvB.if_pos hlast (EvB.if_pos (by omega) (EvB.if_pos (by omega) ?_))
      have htop : offs l (num l 1 - 1) ≤ 1020 := offs_top (num l 1).toNat (n := num l 1) hm (by omega) (by omega) (by omega)
      refine EvB.if_pos (by rw [hl]; omega) ?_
      obtain ⟨b, h1, h2⟩ := contains_ev ((l.take (offs l (num l 1 - 1)).toNat).drop (3 + 2 * num l 1).toNat) (by rw [List.length_drop, List.length_take]; omega)
      refine ⟨!b, Ev.bind h1 (Ev.now _), ?_⟩
      rw [len_cut l _ _ (by omega) hlast (by omega)] at h2
      have h3 : b = false ↔ ¬ ∃ j : Int, 0 ≤ j ∧ j < offs l (num l 1 - 1) - (3 + 2 * num l 1) ∧ rd ((l.take (offs l (num l 1 - 1)).toNat).drop (3 + 2 * num l 1).toNat) j ≠ 0 := by
        rw [← h2]; cases b <;> simp
      rw [Bool.not_eq_true', h3]
      constructor
      · intro hno
        refine ⟨hl, hs, hm, hlast, fun j hj1 hj2 => ?_⟩
        by_cases hz : rd l j = 0
        · exact hz
        · refine absurd ⟨j - (3 + 2 * num l 1), by omega, by omega, ?_⟩ hno
          rw [rd_cut l _ _ _ (by omega) hlast (by omega) (by omega) (by omega), show 3 + 2 * num l 1 + (j - (3 + 2 * num l 1)) = j by omega]
          exact hz
      · rintro hv ⟨j, hj1, hj2, hj3⟩
        rw [rd_cut l _ _ _ (by omega) hlast (by omega) (by omega) (by omega)] at hj3
        exact hj3 (hv.zero _ (by omega) (by omega))
    · exact EvB.if_neg hlast (EvB.at_false (fun hv => hlast hv.last))
  | succ d ih =>
    intro i h0 hd hm
    refine EvB.step (fun k => page_valid.l0.eq_2 _ _ _ _ _ k) (EvB.if_pos (by omega) ?_)
    rw [wrap64_of (x := i - 1) (by omega) (by omega), wrap64_of (x := i + 1) (by omega) (by omega)]
    refine EvB.bindc (offset_f hb hl (by omega) (by omega)) (EvB.bindc (offset_f hb hl (by omega) (by omega)) ?_)
    by_cases hc : offs l i > offs l (i - 1)
    · exact EvB.if_pos hc (EvB.at_false (fun hv => by have := hv.mono i h0 (by omega); omega))
    · refine EvB.if_neg hc (ih (i + 1) (by omega) (by omega) (fun j hj1 hj2 => ?_))
      by_cases e : j = i
      · subst e; omega
      · exact hm j hj1 (by omega)
theorem valid_ev (l : List Int) (hb : Bytes l) : EvB (fun k => page_valid.f k l) (Valid l) := by
  have hn := num_range hb 1
  by_cases hl : l.length = 1024
  · refine EvB.if_pos (by omega) (EvB.bindc (number_f hb hl (by omega) (by omega)) ?_)
    rw [wrap64_of (x := 2 * num l 1) (by omega) (by omega), wrap64_of (x := 3 + 2 * num l 1) (by omega) (by omega)]
    by_cases hs : 3 + 2 * num l 1 > 1020
    · exact EvB.if_pos hs (EvB.at_false (fun hv => by have := hv.slots; omega))
    · exact EvB.if_neg hs (valid_loop l hb hl (by omega) (num l 1).toNat 0 (by omega) (by omega) (fun j h1 h2 => by omega))
  · exact EvB.if_neg (by omega) (EvB.at_false (fun hv => hl hv.len))
theorem refvalid_loop1 (l : List Int) (hb : Bytes l) (hl : l.length = 1024) (hs : 3 + 2 * num l 1 ≤ 1020) (hm : ∀ j, 0 ≤ j → j < num l 1 → offs l j ≤ offs l (j - 1)) (hlast : 3 + 2 * num l 1 ≤ offs l (num l 1 - 1)) (d : Nat) :
    ∀ i : Int, 3 + 2 * num l 1 ≤ i → i ≤ offs l (num l 1 - 1) → offs l (num l 1 - 1) - i = d → (∀ j, 3 + 2 * num l 1 ≤ j → j < i → rd l j = 0) → EvB (fun k => lineageref14_Valid.l1 k l (num l 1) i) (Valid l) := by
  have hn := num_range hb 1
  have htop : offs l (num l 1 - 1) ≤ 1020 := offs_top (num l 1).toNat (n := num l 1) hm (by omega) (by omega) (by omega)
  induction d with
  | zero =>
    intro i h0 h1 hd hz
    refine EvB.step (fun k => lineageref14_Valid.l1.eq_2 _ _ _ k) ?_
    rw [wrap64_of (x := num l 1 - 1) (by omega) (by omega)]
    refine EvB.bindc (start_f hb hl (by omega) (by omega)) (EvB.if_neg (by omega) (EvB.at_true ⟨hl, hs, hm, hlast, fun j hj1 hj2 => hz j hj1 (by omega)⟩))
  | succ d ih =>
    intro i h0 h1 hd hz
    refine EvB.step (fun k => lineageref14_Valid.l1.eq_2 _ _ _ k) ?_
    rw [wrap64_of (x := num l 1 - 1) (by omega) (by omega), wrap64_of (x := i + 1) (by omega) (by omega)]
    refine EvB.bindc (start_f hb hl (by omega) (by omega)) (EvB.if_pos (by omega) (EvB.if_pos (by omega) (EvB.if_pos (by omega) ?_)))
    by_cases h : rd l i = 0
    · refine EvB.if_pos h (ih (i + 1) (by omega) (by omega) (by omega) (fun j hj1 hj2 => ?_))
      by_cases e : j = i
      · subst e; exact h
      · exact hz j hj1 (by omega)
    · exact EvB.if_neg h (EvB.at_false (fun hv => h (hv.zero i h0 (by omega))))
theorem valid_starts {l : List Int} (hv : Valid l) (d : Nat) : ∀ i, 0 ≤ i → i < num l 1 → num l 1 - 1 - i = d → 3 + 2 * num l 1 ≤ offs l i := by
  induction d with
  | zero =>
    intro i h0 h1 hd
    have e : i = num l 1 - 1 := by omega
    rw [e]
    exact hv.last
  | succ d ih =>
    intro i h0 h1 hd
    have h2 := ih (i + 1) (by omega) (by omega) (by omega)
    have h3 := hv.mono (i + 1) (by omega) (by omega)
    rw [show i + 1 - 1 = i by omega] at h3
    omega
theorem refvalid_loop0 (l : List Int) (hb : Bytes l) (hl : l.length = 1024) (hs : 3 + 2 * num l 1 ≤ 1020) (d : Nat) : ∀ i : Int, 0 ≤ i → num l 1 - i = d → (∀ j, 0 ≤ j → j < i → offs l j ≤ offs l (j - 1) ∧ 3 + 2 * num l 1 ≤ offs l j) →
    EvB (fun k => lineageref14_Valid.l0 k l (num l 1) i) (Valid l) := by
  have hn := num_range hb 1
  induction d with
  | zero =>
    intro i h0 hd hm
    obtain rfl : i = num l 1 := by omega
    refine EvB.step (fun k => lineageref14_Valid.l0.eq_2 _ _ _ k) (EvB.if_neg (by omega) ?_)
    rw [wrap64_of (x := 2 * num l 1) (by omega) (by omega), wrap64_of (x := 3 + 2 * num l 1) (by omega) (by omega)]
    have hlast : 3 + 2 * num l 1 ≤ offs l (num l 1 - 1) := by
      by_cases h : num l 1 = 0
      · rw [h]; unfold offs; rw [if_pos (by omega)]; omega
      · exact (hm _ (by omega) (by omega)).2
    exact refvalid_loop1 l hb hl hs (fun j h1 h2 => (hm j h1 h2).1) hlast (offs l (num l 1 - 1) - (3 + 2 * num l 1)).toNat _ (by omega) hlast (by omega) (fun j h1 h2 => by omega)
  | succ d ih =>
    intro i h0 hd hm
    refine EvB.step (fun k => lineageref14_Valid.l0.eq_2 _ _ _ k) (EvB.if_pos (by omega) ?_)
    rw [wrap64_of (x := i - 1) (by omega) (by omega), wrap64_of (x := i + 1) (by omega) (by omega), wrap64_of (x := 2 * num l 1) (by omega) (by omega), wrap64_of (x := 3 + 2 * num l 1) (by omega) (by omega)]
    refine EvB.bindc (start_f hb hl (by omega) (by omega)) (EvB.bindc (start_f hb hl (by omega) (by omega)) ?_)
    by_cases hc : offs l i > offs l (i - 1)
    · exact EvB.if_pos hc (EvB.at_false (fun hv => by have := hv.mono i h0 (by omega); omega))
    · refine EvB.if_neg hc (EvB.bindc (start_f hb hl (by omega) (by omega)) ?_)
      by_cases hc2 : offs l i < 3 + 2 * num l 1
      · exact EvB.if_pos hc2 (EvB.at_false (fun hv => by have := valid_starts hv (num l 1 - 1 - i).toNat i h0 (by omega) (by omega); omega))
      · refine EvB.if_neg hc2 (ih (i + 1) (by omega) (by omega) (fun j hj1 hj2 => ?_))
        by_cases e : j = i
        · subst e; omega
        · exact hm j hj1 (by omega)
theorem refvalid_ev (l : List Int) (hb : Bytes l) : EvB (fun k => lineageref14_Valid.f k l) (Valid l) := by
  have hn := num_range hb 1
  by_cases hl : l.length = 1024
  · refine EvB.if_pos (by omega) (EvB.bindc (refnumber_f hb hl (by omega) (by omega)) ?_)
    rw [wrap64_of (x := 2 * num l 1) (by omega) (by omega), wrap64_of (x := 3 + 2 * num l 1) (by omega) (by omega)]
    by_cases hs : 3 + 2 * num l 1 > 1020
    · exact EvB.if_pos hs (EvB.at_false (fun hv => by have := hv.slots; omega))
    · exact EvB.if_neg hs (refvalid_loop0 l hb hl (by omega) (num l 1).toNat 0 (by omega) (by omega) (fun j h1 h2 => by omega))
  · exact EvB.if_neg (by omega) (EvB.at_false (fun hv => hl hv.len))
end Go.Proofs.Ytopbmpdcmnhfdaa.Pure
