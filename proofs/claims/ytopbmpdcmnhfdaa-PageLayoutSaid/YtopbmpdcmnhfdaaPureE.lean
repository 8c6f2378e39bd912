/- Plain law, page: what Build lays, in both texts. -/
import Derived.Test.YtopbmpdcmnhfdaaPureD
namespace Go.Proofs.Ytopbmpdcmnhfdaa.Pure
open Go.RowKit Go.Proofs.Ytopbmpdcmnhfdaa.P Go.Proofs.YtopbmpdcmnhfdaaH Go.Proofs.YtopbmpdcmnhfdaaW.PrintWords Go.Proofs.YtopbmpdcmnhfdaaW.PrintLast
set_option linter.unusedVariables false

def sumLen (cs : List (List Int)) : Nat := (cs.map List.length).sum
def two (n : Int) : List Int := [n / 256 % 256, n % 256]
def slotsTo (cs : List (List Int)) : Nat → List Int
  | 0 => []
  | j + 1 => slotsTo cs j ++ two (1020 - (sumLen (cs.take (j + 1)) : Int))
def bodyTo (cs : List (List Int)) : Nat → List Int
  | 0 => []
  | j + 1 => cs.getD j [] ++ bodyTo cs j
def headS (kd : Int) (cs : List (List Int)) : List Int := [kd, (cs.length : Int) / 256 % 256, (cs.length : Int) % 256]
def pageTo (kd : Int) (cs : List (List Int)) (j : Nat) : List Int := headS kd cs ++ slotsTo cs j ++ (List.replicate (1020 - sumLen (cs.take j) - 3 - 2 * j) 0 ++ (bodyTo cs j ++ [0, 0, 0, 0]))
def layoutS (kd : Int) (cs : List (List Int)) : List Int := pageTo kd cs cs.length
def totalS (cs : List (List Int)) : Nat := 7 + sumLen cs + 2 * cs.length
theorem sumLen_take_succ (cs : List (List Int)) (j : Nat) (hj : j < cs.length) : sumLen (cs.take (j + 1)) = sumLen (cs.take j) + (cs.getD j []).length := by
  unfold sumLen
  rw [List.take_succ_eq_append_getElem hj, List.map_append, List.sum_append, List.getD_eq_getElem?_getD, List.getElem?_eq_getElem hj]
  simp
theorem sumLen_take_le (cs : List (List Int)) (j : Nat) : sumLen (cs.take j) ≤ sumLen cs := by
  have h : sumLen cs = sumLen (cs.take j) + sumLen (cs.drop j) := by
    unfold sumLen
    rw [← List.sum_append, ← List.map_append, List.take_append_drop]
  omega
theorem slotsTo_length (cs : List (List Int)) (j : Nat) : (slotsTo cs j).length = 2 * j := by
  induction j with
  | zero => rfl
  | succ j ih => rw [slotsTo, List.length_append, ih]; simp [two]; omega
theorem bodyTo_length (cs : List (List Int)) (j : Nat) (hj : j ≤ cs.length) : (bodyTo cs j).length = sumLen (cs.take j) := by
  induction j with
  | zero => simp [bodyTo, sumLen]
  | succ j ih => rw [bodyTo, List.length_append, ih (by omega), sumLen_take_succ cs j (by omega)]; omega
theorem pageTo_length (kd : Int) (cs : List (List Int)) (j : Nat) (hj : j ≤ cs.length) (h : 3 + 2 * j + sumLen (cs.take j) ≤ 1020) : (pageTo kd cs j).length = 1024 := by
  unfold pageTo headS
  simp only [List.length_append, List.length_replicate, slotsTo_length, bodyTo_length cs j hj, List.length_cons, List.length_nil]
  omega
theorem set_two (A B : List Int) (z : Nat) (x y : Int) : ((A ++ (List.replicate (z + 2) 0 ++ B)).set A.length x).set (A.length + 1) y = (A ++ [x, y]) ++ (List.replicate z 0 ++ B) := by
  rw [List.set_append_right A.length x (Nat.le_refl _), List.set_append_right (A.length + 1) y (by omega), Nat.sub_self, show A.length + 1 - A.length = 1 by omega]
  simp [List.replicate_succ]
theorem set_three (z : Nat) (a b c : Int) : (((List.replicate (z + 3) (0 : Int)).set 0 a).set 1 b).set 2 c = [a, b, c] ++ List.replicate z 0 := by simp [List.replicate_succ]
theorem rd_L1_getD (cs : List (List Int)) (j : Nat) : rd_L1 cs (j : Int) = cs.getD j [] := by simp [rd_L1]

theorem build_arg (kd : Int) (cs : List (List Int)) (h : kd < 0 ∨ 255 < kd) : Ev (fun k => page_Build.f k kd cs) (([] : List Int), 1) := by
  by_cases h0 : kd < 0
  · exact Ev.if_pos h0 (Ev.step (fun k => page_Build.j0.eq_2 _ _ _ k) (Ev.if_pos rfl (Ev.now _)))
  · exact Ev.if_neg h0 (Ev.step (fun k => page_Build.j0.eq_2 _ _ _ k) (Ev.if_pos (by simp; omega) (Ev.now _)))
theorem fill_loop (kd : Int) (cs : List (List Int)) (ht : totalS cs ≤ 1024) (d : Nat) : ∀ j : Nat, j + d = cs.length → Ev (fun k => page_Build.l1 k (pageTo kd cs j) (1020 - (sumLen (cs.take j) : Int)) cs (cs.length : Int) (j : Int)) (layoutS kd cs, 0) := by
  unfold totalS at ht
  induction d with
  | zero =>
    intro j hj
    refine Ev.step (fun k => page_Build.l1.eq_2 _ _ _ _ _ k) (Ev.if_neg (by omega) (Ev.const ?_))
    unfold layoutS
    rw [show j = cs.length by omega]
  | succ d ih =>
    intro j hj
    have h1 := sumLen_take_succ cs j (by omega)
    have h2 := sumLen_take_le cs (j + 1)
    have h3 := pageTo_length kd cs j (by omega) (by omega)
    have hw : wrap64 (1020 - (sumLen (cs.take j) : Int) - ((cs.getD j []).length : Int)) = 1020 - (sumLen (cs.take (j + 1)) : Int) := by
      rw [wrap64_of (by omega) (by omega)]; omega
    refine Ev.step (fun k => page_Build.l1.eq_2 _ _ _ _ _ k) (Ev.if_pos (by omega) (Ev.if_pos (by omega) (Ev.if_pos (by omega) ?_)))
    rw [rd_L1_getD, hw]
    refine Ev.if_pos (by omega) (Ev.if_pos (by omega) ?_)
    -- the cell goes in
    have hA : (headS kd cs ++ slotsTo cs j).length = 3 + 2 * j := by rw [List.length_append, slotsTo_length]; simp [headS]
    have hz : 1020 - sumLen (cs.take j) - 3 - 2 * j = (1020 - sumLen (cs.take (j + 1)) - 3 - 2 * (j + 1) + 2) + (cs.getD j []).length := by omega
    have hcopy : copyat_25_25.f (pageTo kd cs j) (1020 - (sumLen (cs.take (j + 1)) : Int)) (cs.getD j []) = some (((cs.getD j []).length : Int), headS kd cs ++ slotsTo cs j ++ (List.replicate (1020 - sumLen (cs.take (j + 1)) - 3 - 2 * (j + 1) + 2) 0 ++ (bodyTo cs (j + 1) ++ [0, 0, 0, 0]))) := by
      unfold copyat_25_25.f copyatF
      rw [if_pos (by omega), if_pos (by omega), h3, show (1020 - (sumLen (cs.take (j + 1)) : Int)).toNat = 1020 - sumLen (cs.take (j + 1)) by omega]
      have e1 : (pageTo kd cs j).take (1020 - sumLen (cs.take (j + 1))) = headS kd cs ++ slotsTo cs j ++ List.replicate (1020 - sumLen (cs.take (j + 1)) - 3 - 2 * (j + 1) + 2) 0 := by
        unfold pageTo
        rw [hz, List.take_append, hA, List.take_of_length_le (by omega), List.take_append_of_le_length (by rw [List.length_replicate]; omega), List.take_replicate]
        congr 2
        omega
      have e2 : (pageTo kd cs j).drop (1020 - sumLen (cs.take (j + 1)) + (cs.getD j []).length) = bodyTo cs j ++ [0, 0, 0, 0] := by
        unfold pageTo
        rw [List.drop_append, hA, List.drop_eq_nil_of_le (by omega), List.nil_append, List.drop_append, List.drop_eq_nil_of_le (by rw [List.length_replicate]; omega), List.nil_append, List.length_replicate, show 1020 - sumLen (cs.take (j + 1)) + (cs.getD j []).length - (3 + 2 * j) - (1020 - sumLen (cs.take j) - 3 - 2 * j) = 0 by omega, List.drop_zero]
      rw [e1, e2, List.take_of_length_le (l := cs.getD j []) (by omega), show min (1024 - (1020 - sumLen (cs.take (j + 1)))) (cs.getD j []).length = (cs.getD j []).length by omega]
      simp only [bodyTo, List.append_assoc]
    refine Ev.bindc hcopy ?_
    rw [wrap64_of (x := 2 * (j : Int)) (by omega) (by omega), wrap64_of (x := 3 + 2 * (j : Int)) (by omega) (by omega), wrap64_of (x := (j : Int) + 1) (by omega) (by omega)]
    have hput := set_two (headS kd cs ++ slotsTo cs j) (bodyTo cs (j + 1) ++ [0, 0, 0, 0]) (1020 - sumLen (cs.take (j + 1)) - 3 - 2 * (j + 1)) ((1020 - (sumLen (cs.take (j + 1)) : Int)) / 256 % 256) ((1020 - (sumLen (cs.take (j + 1)) : Int)) % 256)
    rw [hA] at hput
    have hlen : (headS kd cs ++ slotsTo cs j ++ (List.replicate (1020 - sumLen (cs.take (j + 1)) - 3 - 2 * (j + 1) + 2) 0 ++ (bodyTo cs (j + 1) ++ [0, 0, 0, 0]))).length = 1024 := by
      rw [List.length_append, hA]
      simp only [List.length_append, List.length_replicate, bodyTo_length cs (j + 1) (by omega), List.length_cons, List.length_nil]
      omega
    have hp := put_f _ hlen (3 + 2 * (j : Int)) (1020 - (sumLen (cs.take (j + 1)) : Int)) (by omega) (by omega)
    rw [show (3 + 2 * (j : Int)).toNat = 3 + 2 * j by omega, show (3 + 2 * (j : Int) + 1).toNat = 3 + 2 * j + 1 by omega, hput] at hp
    refine Ev.bindc hp ?_
    have hih := ih (j + 1) (by omega)
    have e3 : headS kd cs ++ slotsTo cs j ++ [(1020 - (sumLen (cs.take (j + 1)) : Int)) / 256 % 256, (1020 - (sumLen (cs.take (j + 1)) : Int)) % 256] ++ (List.replicate (1020 - sumLen (cs.take (j + 1)) - 3 - 2 * (j + 1)) 0 ++ (bodyTo cs (j + 1) ++ [0, 0, 0, 0])) = pageTo kd cs (j + 1) := by
      unfold pageTo
      rw [slotsTo, List.append_assoc (headS kd cs) (slotsTo cs j)]
      rfl
    rw [e3]
    exact hih
theorem size_loop (kd : Int) (cs : List (List Int)) (hk : 0 ≤ kd ∧ kd ≤ 255) (hs : cs.length ≤ 1000000) (hc : ∀ c ∈ cs, c.length ≤ 1000000) (d : Nat) : ∀ j : Nat, j + d = cs.length → 7 + sumLen (cs.take j) + 2 * j ≤ 1024 →
    Ev (fun k => page_Build.l0 k kd cs (7 + (sumLen (cs.take j) : Int) + 2 * j) cs (cs.length : Int) (j : Int)) (if totalS cs ≤ 1024 then (layoutS kd cs, 0) else (([] : List Int), 6)) := by
  induction d with
  | zero =>
    intro j hj hle
    have hj2 : cs.take j = cs := List.take_of_length_le (by omega)
    rw [hj2] at hle
    refine Ev.step (fun k => page_Build.l0.eq_2 _ _ _ _ _ _ k) (Ev.if_neg (by omega) (Ev.if_pos (by omega) (Ev.bindc rfl (Ev.if_pos (by rw [List.length_replicate]; decide) ?_))))
    have ht : totalS cs ≤ 1024 := by unfold totalS; omega
    rw [if_pos ht]
    have hn : cs.length ≤ 508 := by omega
    have hp := put_f ((List.replicate 1024 (0 : Int)).set (0 : Int).toNat (kd % 256)) (by rw [List.length_set, List.length_replicate]) 1 (cs.length : Int) (by omega) (by omega)
    refine Ev.bindc hp ?_
    have e : (((List.replicate 1024 (0 : Int)).set (0 : Int).toNat (kd % 256)).set (1 : Int).toNat ((cs.length : Int) / 256 % 256)).set (1 + 1 : Int).toNat ((cs.length : Int) % 256) = pageTo kd cs 0 := by
      have e0 := set_three 1021 kd ((cs.length : Int) / 256 % 256) ((cs.length : Int) % 256)
      rw [show kd % 256 = kd by omega]
      refine e0.trans ?_
      unfold pageTo headS slotsTo bodyTo
      rw [List.take_zero, show sumLen [] = 0 from rfl, show 1020 - 0 - 3 - 2 * 0 = 1017 from rfl, List.append_nil, List.nil_append, show (1021 : Nat) = 1017 + 4 from rfl, ← List.replicate_append_replicate]
      rfl
    rw [e]
    have h := fill_loop kd cs ht cs.length 0 (by omega)
    rw [List.take_zero, show sumLen [] = 0 from rfl] at h
    exact h
  | succ d ih =>
    intro j hj hle
    have h1 := sumLen_take_succ cs j (by omega)
    have h2 := sumLen_take_le cs (j + 1)
    have hcj : (cs.getD j []).length ≤ 1000000 := by
      rw [List.getD_eq_getElem?_getD, List.getElem?_eq_getElem (by omega)]
      exact hc _ (List.getElem_mem _)
    refine Ev.step (fun k => page_Build.l0.eq_2 _ _ _ _ _ _ k) (Ev.if_pos (by omega) (Ev.if_pos (by omega) (Ev.if_pos (by omega) ?_)))
    have hw : wrap64 (7 + (sumLen (cs.take j) : Int) + 2 * (j : Int) + wrap64 (((rd_L1 cs (j : Int)).length : Int) + 2)) = 7 + (sumLen (cs.take (j + 1)) : Int) + 2 * ((j + 1 : Nat) : Int) := by
      rw [rd_L1_getD, wrap64_of (x := ((cs.getD j []).length : Int) + 2) (by omega) (by omega), wrap64_of (by omega) (by omega)]
      omega
    rw [hw, wrap64_of (x := (j : Int) + 1) (by omega) (by omega)]
    by_cases hbig : 7 + (sumLen (cs.take (j + 1)) : Int) + 2 * ((j + 1 : Nat) : Int) > 1024
    · refine Ev.if_pos hbig (Ev.const ?_)
      rw [if_neg (by unfold totalS; omega)]
    · exact Ev.if_neg hbig (ih (j + 1) (by omega) (by omega))
theorem build_f (kd : Int) (cs : List (List Int)) (hk : 0 ≤ kd ∧ kd ≤ 255) (hs : cs.length ≤ 1000000) (hc : ∀ c ∈ cs, c.length ≤ 1000000) : Ev (fun k => page_Build.f k kd cs) (if totalS cs ≤ 1024 then (layoutS kd cs, 0) else (([] : List Int), 6)) := by
  refine Ev.if_neg (by omega) (Ev.step (fun k => page_Build.j0.eq_2 _ _ _ k) (Ev.if_neg (by simp; omega) ?_))
  have h := size_loop kd cs hk hs hc cs.length 0 (by omega) (by simp [sumLen])
  simpa [sumLen] using h
end Go.Proofs.Ytopbmpdcmnhfdaa.Pure
