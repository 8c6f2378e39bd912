/- Plain law, page: what the reference's Build lays; Few. -/
import Derived.Test.YtopbmpdcmnhfdaaPureE
namespace Go.Proofs.Ytopbmpdcmnhfdaa.Pure
open Go.RowKit Go.Proofs.Ytopbmpdcmnhfdaa.P Go.Proofs.YtopbmpdcmnhfdaaH Go.Proofs.YtopbmpdcmnhfdaaW.PrintWords Go.Proofs.YtopbmpdcmnhfdaaW.PrintLast
set_option linter.unusedVariables false

theorem tdiv256 (p : Int) (h : 0 ≤ p) : Int.tdiv p 256 = p / 256 := Int.tdiv_eq_ediv_of_nonneg h
theorem tmod256 (p : Int) (h : 0 ≤ p) : Int.tmod p 256 = p % 256 := Int.tmod_eq_emod_of_nonneg h
theorem pad_loop (b : List Int) (p : Int) (hp : p ≤ 1020) (hb : b.length ≤ 1000000) (d : Nat) : ∀ (a : List Int), (a.length : Int) + d = p →
    Ev (fun k => lineageref14_Build.l1 k a b p) (a ++ (List.replicate d 0 ++ (b ++ [0, 0, 0, 0])), 0) := by
  induction d with
  | zero =>
    intro a ha
    refine Ev.step (fun k => lineageref14_Build.l1.eq_2 _ _ _ k) (Ev.if_neg (by omega) (Ev.if_pos (by omega) (Ev.bindc rfl (Ev.bindc rfl (Ev.if_pos (by simp only [List.length_append, List.length_cons, List.length_nil]; omega) (Ev.const ?_))))))
    simp
  | succ d ih =>
    intro a ha
    refine Ev.step (fun k => lineageref14_Build.l1.eq_2 _ _ _ k) (Ev.if_pos (by omega) (Ev.if_pos (by omega) ?_))
    have h := ih (a ++ [0]) (by simp; omega)
    have e : a ++ (List.replicate (d + 1) 0 ++ (b ++ [0, 0, 0, 0])) = (a ++ [0]) ++ (List.replicate d 0 ++ (b ++ [0, 0, 0, 0])) := by
      rw [List.replicate_succ]; simp
    rw [e]
    exact h
theorem sum_le (cs : List (List Int)) (hc : ∀ c ∈ cs, c.length ≤ 1100) : sumLen cs ≤ 1100 * cs.length := by
  induction cs with
  | nil => simp [sumLen]
  | cons c cs ih =>
    have h1 := hc c (by simp)
    have h2 := ih (fun c' h => hc c' (by simp [h]))
    have e : sumLen (c :: cs) = c.length + sumLen cs := by simp [sumLen]
    rw [e, List.length_cons]
    omega
theorem lay_loop (kd : Int) (cs : List (List Int)) (hs : cs.length ≤ 600) (hc : ∀ c ∈ cs, c.length ≤ 1100) (d : Nat) : ∀ j : Nat, j + d = cs.length → (0 < j → 3 + 2 * (cs.length : Int) ≤ 1020 - (sumLen (cs.take j) : Int)) →
    Ev (fun k => lineageref14_Build.l0 k cs (headS kd cs ++ slotsTo cs j) (bodyTo cs j) (1020 - (sumLen (cs.take j) : Int)) (j : Int)) (if totalS cs ≤ 1024 then (layoutS kd cs, 0) else (([] : List Int), 6)) := by
  have hsum := sum_le cs hc
  induction d with
  | zero =>
    intro j hj hinv
    have hj2 : cs.take j = cs := List.take_of_length_le (by omega)
    rw [hj2] at hinv ⊢
    have hA : (headS kd cs ++ slotsTo cs j).length = 3 + 2 * j := by rw [List.length_append, slotsTo_length]; simp [headS]
    have hB := bodyTo_length cs j (by omega)
    rw [hj2] at hB
    have h0 : j = 0 → sumLen cs = 0 := fun h => by
      have : cs = [] := List.length_eq_zero_iff.1 (by omega)
      rw [this]; rfl
    have ht : totalS cs ≤ 1024 := by
      unfold totalS
      rcases Nat.eq_zero_or_pos j with h | h
      · have := h0 h; omega
      · have := hinv h; omega
    rw [if_pos ht]
    unfold totalS at ht
    refine Ev.step (fun k => lineageref14_Build.l0.eq_2 _ _ _ _ _ k) (Ev.if_neg (by omega) ?_)
    have h := pad_loop (bodyTo cs j) (1020 - (sumLen cs : Int)) (by omega) (by omega) (1020 - sumLen cs - 3 - 2 * j) (headS kd cs ++ slotsTo cs j) (by omega)
    unfold layoutS pageTo
    rw [show cs.length = j by omega, hj2]
    exact h
  | succ d ih =>
    intro j hj hinv
    have h1 := sumLen_take_succ cs j (by omega)
    have h2 := sumLen_take_le cs (j + 1)
    have hA : (headS kd cs ++ slotsTo cs j).length = 3 + 2 * j := by rw [List.length_append, slotsTo_length]; simp [headS]
    have hB := bodyTo_length cs j (by omega)
    have hcj : (cs.getD j []).length ≤ 1100 := by
      rw [List.getD_eq_getElem?_getD, List.getElem?_eq_getElem (by omega)]
      exact hc _ (List.getElem_mem _)
    have hw : wrap64 (1020 - (sumLen (cs.take j) : Int) - ((rd_L1 cs (j : Int)).length : Int)) = 1020 - (sumLen (cs.take (j + 1)) : Int) := by
      rw [rd_L1_getD, wrap64_of (by omega) (by omega)]; omega
    have hw2 : wrap64 (3 + wrap64 (2 * (cs.length : Int))) = 3 + 2 * (cs.length : Int) := by
      rw [wrap64_of (x := 2 * (cs.length : Int)) (by omega) (by omega), wrap64_of (by omega) (by omega)]
    refine Ev.step (fun k => lineageref14_Build.l0.eq_2 _ _ _ _ _ k) (Ev.if_pos (by omega) (Ev.if_pos (by omega) ?_))
    rw [hw, hw2]
    by_cases hbig : 1020 - (sumLen (cs.take (j + 1)) : Int) < 3 + 2 * (cs.length : Int)
    · refine Ev.if_pos hbig (Ev.const ?_)
      rw [if_neg (by unfold totalS; omega)]
    · rw [tdiv256 _ (by omega), tmod256 _ (by omega), wrap64_of (x := (1020 - (sumLen (cs.take (j + 1)) : Int)) / 256) (by omega) (by omega), rd_L1_getD, wrap64_of (x := (j : Int) + 1) (by omega) (by omega)]
      refine Ev.if_neg hbig (Ev.bindc rfl (Ev.if_pos (by simp only [hA, List.length_cons, List.length_nil]; omega) (Ev.bindc rfl (Ev.if_pos (by simp only [List.length_nil]; omega) (Ev.bindc rfl (Ev.if_pos (by simp only [List.nil_append]; omega) ?_))))))
      have h := ih (j + 1) (by omega) (fun _ => by omega)
      rw [bodyTo, slotsTo, ← List.append_assoc] at h
      rw [List.nil_append, show (1020 - (sumLen (cs.take (j + 1)) : Int)) % 256 % 256 = (1020 - (sumLen (cs.take (j + 1)) : Int)) % 256 by omega]
      exact h
theorem refbuild_arg (kd : Int) (cs : List (List Int)) (h : kd < 0 ∨ 255 < kd) : Ev (fun k => lineageref14_Build.f k kd cs) (([] : List Int), 1) := by
  by_cases h0 : kd < 0
  · exact Ev.if_pos h0 (Ev.step (fun k => lineageref14_Build.j0.eq_2 _ _ _ k) (Ev.if_pos rfl (Ev.now _)))
  · exact Ev.if_neg h0 (Ev.step (fun k => lineageref14_Build.j0.eq_2 _ _ _ k) (Ev.if_pos (by simp; omega) (Ev.now _)))
theorem refbuild_f (kd : Int) (cs : List (List Int)) (hk : 0 ≤ kd ∧ kd ≤ 255) (hs : cs.length ≤ 600) (hc : ∀ c ∈ cs, c.length ≤ 1100) : Ev (fun k => lineageref14_Build.f k kd cs) (if totalS cs ≤ 1024 then (layoutS kd cs, 0) else (([] : List Int), 6)) := by
  refine Ev.if_neg (by omega) (Ev.step (fun k => lineageref14_Build.j0.eq_2 _ _ _ k) (Ev.if_neg (by simp; omega) ?_))
  have h := lay_loop kd cs hs hc cs.length 0 (by omega) (fun h => absurd h (by omega))
  rw [show kd % 256 = kd by omega, wrap64_of (x := (cs.length : Int) / 256) (by omega) (by omega)]
  simpa [sumLen, slotsTo, bodyTo, headS] using h
theorem few_loop (cs : List (List Int)) (hs : cs.length ≤ maxLen) (d : Nat) : ∀ j : Nat, j + d = cs.length → ∃ b, Ev (fun k => lineageref14_Few.l0 k cs (j : Int)) b ∧ (b = true → ∀ i, j ≤ i → i < cs.length → (cs.getD i []).length ≤ 1100) := by
  unfold maxLen at hs
  induction d with
  | zero =>
    intro j hj
    exact ⟨true, Ev.step (fun k => lineageref14_Few.l0.eq_2 _ _ k) (Ev.if_neg (by omega) (Ev.now _)), fun _ i h1 h2 => by omega⟩
  | succ d ih =>
    intro j hj
    by_cases hbig : ((rd_L1 cs (j : Int)).length : Int) > 1100
    · exact ⟨false, Ev.step (fun k => lineageref14_Few.l0.eq_2 _ _ k) (Ev.if_pos (by omega) (Ev.if_pos (by omega) (Ev.if_pos hbig (Ev.now _)))), fun h => by cases h⟩
    · obtain ⟨b, h1, h2⟩ := ih (j + 1) (by omega)
      refine ⟨b, Ev.step (fun k => lineageref14_Few.l0.eq_2 _ _ k) (Ev.if_pos (by omega) (Ev.if_pos (by omega) (Ev.if_neg hbig ?_))), fun hb i hi hi2 => ?_⟩
      · rw [wrap64_of (x := (j : Int) + 1) (by omega) (by omega)]
        exact h1
      · rcases Nat.eq_or_lt_of_le hi with h | h
        · rw [rd_L1_getD, h] at hbig
          omega
        · exact h2 hb i (by omega) hi2
theorem few_ev (cs : List (List Int)) (hs : cs.length ≤ maxLen) : ∃ b, Ev (fun k => lineageref14_Few.f k cs 600) b ∧ (b = true → cs.length ≤ 600 ∧ ∀ c ∈ cs, c.length ≤ 1100) := by
  by_cases hn : (cs.length : Int) > 600
  · exact ⟨false, Ev.if_pos hn (Ev.now _), fun h => by cases h⟩
  · obtain ⟨b, h1, h2⟩ := few_loop cs hs cs.length 0 (by omega)
    refine ⟨b, Ev.if_neg hn h1, fun hb => ⟨by omega, fun c hc => ?_⟩⟩
    obtain ⟨i, hi, rfl⟩ := List.getElem_of_mem hc
    have := h2 hb i (by omega) hi
    rwa [List.getD_eq_getElem?_getD, List.getElem?_eq_getElem hi] at this
end Go.Proofs.Ytopbmpdcmnhfdaa.Pure
