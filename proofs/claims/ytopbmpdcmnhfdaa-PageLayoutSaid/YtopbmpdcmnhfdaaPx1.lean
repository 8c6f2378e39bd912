-- Written by wip/hp.py, a program of this session, over the kit's printer; texts proved by hand are put among the printed ones.
import Derived.Test.YtopbmpdcmnhfdaaPx0
namespace Go.Proofs.Ytopbmpdcmnhfdaa.P
open Go.Proofs.YtopbmpdcmnhfdaaH
open Go.RowKit Go.Proofs.YtopbmpdcmnhfdaaW.PrintWords Go.Proofs.YtopbmpdcmnhfdaaW.PrintLast Go.Proofs.YtopbmpdcmnhfdaaW.PrintMore
attribute [local go_sem] max2_int min2_int max_two min_two max_three min_three max_four min_four   -- for this text's walks alone
set_option linter.unusedVariables false
set_option linter.unusedSimpArgs false

/-! ### page_put: function 38 -/
def page_put.f (l0 : List Int) (a1 : Int) (a2 : Int) : Option (List Int) := if 0 ≤ a1 then (if a1 < (l0.length : Int) then (if 0 ≤ (wrap64 (a1 + 1)) then (if (wrap64 (a1 + 1)) < (l0.length : Int) then (some ((l0.set (a1 : Int).toNat ((a2 / 256) % 256)).set ((wrap64 (a1 + 1)) : Int).toNat ((a2) % 256))) else (none)) else (none)) else (none)) else (none)
set_option maxHeartbeats 8000000 in
set_option maxRecDepth 100000 in
theorem page_put.calls (P0_ : Nat → Prop) (u9000_ : Value) (l0 : List Int) (a1 : Int) (a2 : Int) (r : List Int) (w0 w : World) (hB : Below w0.heap.size w0 w) (ho0 : Kd.R (Kd.int .u8) 5 w w0.heap.size P0_ u9000_ l0) (h : page_put.f l0 a1 a2 = some r) :
    Calls Try.prog 38 #[u9000_, .int .i64 a1, .int .i64 a2] w fun e w' => e = .returned (.tuple #[]) ∧ Kd.R (Kd.int .u8) 5 w' w0.heap.size (fun k_ => (P0_ k_ ∨ w.heap.size ≤ k_)) u9000_ r ∧ Below w0.heap.size w0 w' ∧ Kept w w' (fun k_ => P0_ k_) := by
  have HO0 := Aside0.mk (show Kd.R (Kd.int .u8) 5 w w0.heap.size (fun k_ => (P0_ k_ ∨ w.heap.size ≤ k_)) u9000_ l0 from Kd.R_mono ho0 (fun k_ hk => (.inl hk)))
  have HK := Aside0.mk (Kept.refl w (fun k_ => P0_ k_))
  have HW0 := Aside0.mk hB.size
  have HB := Aside0.mk hB
  clear hB
  have H : (if 0 ≤ a1 then (if a1 < (l0.length : Int) then (if 0 ≤ (wrap64 (a1 + 1)) then (if (wrap64 (a1 + 1)) < (l0.length : Int) then (some ((l0.set (a1 : Int).toNat ((a2 / 256) % 256)).set ((wrap64 (a1 + 1)) : Int).toNat ((a2) % 256))) else (none)) else (none)) else (none)) else (none)) = some r := h
  clear h
  by_cases c4 : 0 ≤ a1
  · rw [if_pos c4] at H
    have c4b0 : decide (0 ≤ a1) = true := decide_eq_true c4
    clear c4
    by_cases c5 : a1 < (l0.length : Int)
    · rw [if_pos c5] at H
      have c5b0 : decide (a1 < (l0.length : Int)) = true := decide_eq_true c5
      clear c5
      obtain ⟨y101, hy101⟩ : ∃ y_ : List Int, y_ = (l0.set (a1 : Int).toNat ((a2 / 256) % 256)) := ⟨_, rfl⟩
      replace H : (if 0 ≤ (wrap64 (a1 + 1)) then (if (wrap64 (a1 + 1)) < (l0.length : Int) then (some (y101.set ((wrap64 (a1 + 1)) : Int).toNat ((a2) % 256))) else (none)) else (none)) = some r := by first | (rw [hy101]; with_reducible exact H) | (have H2_ := (Option.bind_some _ _).symm.trans H; rw [hy101]; with_reducible exact H2_) | (have H2_ := (Option.bind_some _ _).symm.trans H; with_reducible exact H2_) | with_reducible exact H | (rw [hy101]; exact H) | exact H
      have Ny101 := Aside0.mk hy101
      clear hy101
      obtain ⟨ji7, hji7⟩ : ∃ j_ : Int, (wrap64 (a1 + 1)) = j_ := ⟨_, rfl⟩
      replace H : (if 0 ≤ (ji7) then (if (ji7) < (l0.length : Int) then (some (y101.set ((ji7) : Int).toNat ((a2) % 256))) else (none)) else (none)) = some r := by first | (rw [hji7] at H; exact H) | (simp only [hji7] at H ⊢; exact H)
      have hji7w : (IntKind.i64.wrap (a1 + 1)) = ji7 := (i64_w _).trans hji7
      by_cases c8 : 0 ≤ (ji7)
      · rw [if_pos c8] at H
        have c8b0 : decide (0 ≤ (ji7)) = true := decide_eq_true c8
        clear c8
        by_cases c9 : (ji7) < (l0.length : Int)
        · rw [if_pos c9] at H
          have c9b0 : decide ((ji7) < (l0.length : Int)) = true := decide_eq_true c9
          clear c9
          obtain ⟨y102, hy102⟩ : ∃ y_ : List Int, y_ = (y101.set ((ji7) : Int).toNat ((a2) % 256)) := ⟨_, rfl⟩
          replace H : (some y102) = some r := by first | (rw [hy102]; with_reducible exact H) | (have H2_ := (Option.bind_some _ _).symm.trans H; rw [hy102]; with_reducible exact H2_) | (have H2_ := (Option.bind_some _ _).symm.trans H; with_reducible exact H2_) | with_reducible exact H | (rw [hy102]; exact H) | exact H
          have Ny102 := Aside0.mk hy102
          clear hy102
          obtain rfl := Option.some.inj H
          have p6 : 0 ≤ (a1 : Int) := of_decide_eq_true (by first | (with_reducible assumption) | assumption)
          have q6 : (a1 : Int) < ((l0.length : Int) : Int) := of_decide_eq_true (by first | (with_reducible assumption) | assumption)
          obtain ⟨go6, co6, eo6, gb6, gl6, cl6, HG6⟩ := Kd.R_form HO0.out (by omega)
          (first | cases eo6 | (injection eo6 with ea_ en_ ec_; (first | subst ea_ | (injection ea_ with ea_; subst ea_)); subst ec_; clear en_))
          have GB6 := Aside0.mk gb6
          have GG6 := Aside0.mk HG6
          clear gb6 gl6 HG6
          have HMgo6 := Aside0.mk (show (P0_ go6 ∨ w.heap.size ≤ go6) from (HO0.out.1 _ rfl))
          obtain ⟨hx6_0, hf6_0⟩ := Kd.R_celln 0 HO0.out (a1 : Int) p6 q6
          replace p6 := eq_true p6
          replace q6 := eq_true q6
          have HP11 := Kd.R_putg HO0.out (a1 : Int) ((a2 / 256) % 256)
          go_enter Try.func38, Try.ntmps38
          go_wp2_with (first | ((with_reducible refine gate_store (t := 5) (p := 16) rfl ?_); refine store_event (t := 5) (p := 16) (v := ?vo_w12) (w1 := (w.setCell ⟨go6, (a1 : Int).toNat, none⟩ (.int .u8 ((a2 / 256) % 256)))) ?hg ?ho ?hn ?hr ?_; (case ho => rfl); (case hg => rfl); (case hn => rfl); (case hr => first | (go_simp; done) | (go_simp; rfl)); intro w12 hw; have hg : w.grownBy w12 (some go6) := (by rw [hw]; exact HP11.2); have hp_ : Kd.R (Kd.int .u8) 5 w12 w0.heap.size (fun k_ => (P0_ k_ ∨ w.heap.size ≤ k_)) (.slice (some ⟨go6, 0, none⟩) l0.length co6) y101 := (by rw [hw, Ny101.out]; exact HP11.1); clear HP11; have n0_ := Aside0.mk (hp_); have n1_ := Aside0.mk ((by rw [hw]; exact below_set (HB.out) GB6.out : Below w0.heap.size w0 w12)); have n2_ := Aside0.mk (Kept.of_grown (S := (fun k_ => P0_ k_)) hg (by repeat (first | (with_reducible first | exact HK.out | apply Kept.alloc | apply Kept.drewN | apply Kept.drew) | exact HK.out)) (fun k_ e_ => (HO0.out.1 k_ e_))); clear HO0; clear HB; clear HK; have HO0 := n0_; have HB := n1_; have HK := n2_; clear n0_ n1_ n2_; clear hg hw hp_; have p10 : 0 ≤ ((ji7) : Int) := of_decide_eq_true (by first | (with_reducible assumption) | assumption); have q10 : ((ji7) : Int) < ((l0.length : Int) : Int) := of_decide_eq_true (by first | (with_reducible assumption) | assumption); obtain ⟨hx10_0, hf10_0⟩ := Kd.R_celln 0 HO0.out ((ji7) : Int) p10 q10; replace p10 := eq_true p10; replace q10 := eq_true q10; obtain ⟨hy13_, hz13_⟩ := Kd.R_celln 0 HO0.out ((ji7) : Int) (of_decide_eq_true (by first | (with_reducible assumption) | assumption)) (of_decide_eq_true (by first | (with_reducible assumption) | assumption)); have HP13 := Kd.R_putg HO0.out ((ji7) : Int) ((a2) % 256)) | ((with_reducible refine gate_store (t := 5) (p := 17) rfl ?_); refine store_event (t := 5) (p := 17) (v := ?vo_w14) (w1 := (w12.setCell ⟨go6, ((ji7) : Int).toNat, none⟩ (.int .u8 ((a2) % 256)))) ?hg ?ho ?hn ?hr ?_; (case ho => rfl); (case hg => rfl); (case hn => rfl); (case hr => first | (go_simp; done) | (go_simp; rfl)); intro w14 hw; have hg : w12.grownBy w14 (some go6) := (by rw [hw]; exact HP13.2); have hp_ : Kd.R (Kd.int .u8) 5 w14 w0.heap.size (fun k_ => (P0_ k_ ∨ w.heap.size ≤ k_)) (.slice (some ⟨go6, 0, none⟩) l0.length co6) y102 := (by rw [hw, Ny102.out]; exact HP13.1); clear HP13; have n0_ := Aside0.mk (hp_); have n1_ := Aside0.mk ((by rw [hw]; exact below_set (HB.out) GB6.out : Below w0.heap.size w0 w14)); have n2_ := Aside0.mk (Kept.of_grown (S := (fun k_ => P0_ k_)) hg (by repeat (first | (with_reducible first | exact HK.out | apply Kept.alloc | apply Kept.drewN | apply Kept.drew) | exact HK.out)) (fun k_ e_ => (HO0.out.1 k_ e_))); clear HO0; clear HB; clear HK; have HO0 := n0_; have HB := n1_; have HK := n2_; clear n0_ n1_ n2_; clear hg hw hp_))
          first | go_end0 | ((try simp only [Exit.inBlock, Exit.then]); refine bodyPost_ret (results_none rfl _ _ _) rfl ?_)
          exact ⟨by first | rfl | (simp [errW_none, errW_some] <;> rfl) | (simp only [← hji7]; first | rfl | (simp [errW_none, errW_some] <;> rfl)) | (simp [*, errW_none, errW_some] <;> rfl), by (with_reducible repeat (first | apply Kd.R_alloc | apply Kd.R_drewN | apply Kd.R_drew)); exact HO0.out, by repeat (first | (with_reducible first | exact HB.out | apply below_alloc | apply pw_below_drewN | apply below_drew1) | exact HB.out), by repeat (first | (with_reducible first | exact HK.out | apply Kept.alloc | apply Kept.drewN | apply Kept.drew) | exact HK.out)⟩
        · rw [if_neg c9] at H
          exact absurd H (by simp)
      · rw [if_neg c8] at H
        exact absurd H (by simp)
    · rw [if_neg c5] at H
      exact absurd H (by simp)
  · rw [if_neg c4] at H
    exact absurd H (by simp)

def copyat_25_25.f (l0 : List Int) (a1 : Int) (l2 : List Int) : Option (Int × List Int) := copyatF l0 a1 l2
theorem copyat_25_25.calls (P0_ : Nat → Prop) (u9000_ : Value) (l0 : List Int) (a1 : Int) (A2 : Option Addr) (c2 : Nat) (l2 : List Int) (r1 : Int) (r2 : List Int) (w0 w : World) (hB : Below w0.heap.size w0 w) (ho0 : Kd.R (Kd.int .u8) 5 w w0.heap.size P0_ u9000_ l0) (hr2 : ∀ W_, Kept w W_ (fun k_ => P0_ k_) → Kd.C (Kd.int .u8) W_ A2 l2.length l2) (hc2 : l2.length ≤ c2) (h : copyat_25_25.f l0 a1 l2 = some (r1, r2)) :
    CopyRun Try.prog 25 25 u9000_ a1 (.slice A2 l2.length c2) w fun e w' => e = .returned (.int .i64 r1) ∧ Kd.R (Kd.int .u8) 5 w' w0.heap.size (fun k_ => (P0_ k_ ∨ w.heap.size ≤ k_)) u9000_ r2 ∧ Below w0.heap.size w0 w' ∧ Kept w w' (fun k_ => P0_ k_) :=
  copyat_calls (Kd.int .u8) Try.prog 25 25 5 Try.underlying25 (info_size info5) rfl (scalar_KM) P0_ u9000_ l0 a1 A2 c2 l2 r1 r2 w0 w hB ho0 hr2 hc2 h

/-! ### page_Build: function 13 -/
mutual
def page_Build.j0 : Nat → Int → List (List Int) → Bool → Option (List Int × Int)
  | 0, _, _, _ => none
  | k + 1, x0, x1, x18 => if x18 = true then (some (([] : List Int), 1)) else (page_Build.l0 k x0 x1 7 x1 (x1.length : Int) 0)
def page_Build.l0 : Nat → Int → List (List Int) → Int → List (List Int) → Int → Int → Option (List Int × Int)
  | 0, _, _, _, _, _, _ => none
  | k + 1, x0, x1, x6, x19, x20, x21 => if x21 < x20 then (if 0 ≤ x21 then (if x21 < (x19.length : Int) then (if (wrap64 (x6 + (wrap64 (((rd_L1 x19 x21).length : Int) + 2)))) > 1024 then (some (([] : List Int), 6)) else (page_Build.l0 k x0 x1 (wrap64 (x6 + (wrap64 (((rd_L1 x19 x21).length : Int) + 2)))) x19 x20 (wrap64 (x21 + 1)))) else (none)) else (none)) else (if 1024 ≤ 281474976710656 then ((some (List.replicate 1024 0 : List Int)).bind fun y104 => (if 0 < (y104.length : Int) then ((page_put.f (y104.set (0 : Int).toNat ((x0) % 256)) 1 (x1.length : Int)).bind fun t108 => (page_Build.l1 k t108 1020 x1 (x1.length : Int) 0)) else (none))) else (none))
def page_Build.l1 : Nat → List Int → Int → List (List Int) → Int → Int → Option (List Int × Int)
  | 0, _, _, _, _, _ => none
  | k + 1, x9, x10, x42, x43, x44 => if x44 < x43 then (if 0 ≤ x44 then (if x44 < (x42.length : Int) then (if 0 ≤ (wrap64 (x10 - ((rd_L1 x42 x44).length : Int))) then (if (wrap64 (x10 - ((rd_L1 x42 x44).length : Int))) ≤ (x9.length : Int) then ((copyat_25_25.f x9 (wrap64 (x10 - ((rd_L1 x42 x44).length : Int))) (rd_L1 x42 x44)).bind fun bt114 => ((page_put.f bt114.2 (wrap64 (3 + (wrap64 (2 * x44)))) (wrap64 (x10 - ((rd_L1 x42 x44).length : Int)))).bind fun t116 => (page_Build.l1 k t116 (wrap64 (x10 - ((rd_L1 x42 x44).length : Int))) x42 x43 (wrap64 (x44 + 1))))) else (none)) else (none)) else (none)) else (none)) else (some (x9, 0))
end
def page_Build.f (k : Nat) (a0 : Int) (l1 : List (List Int)) : Option (List Int × Int) := if a0 < 0 then (page_Build.j0 k a0 l1 true) else (page_Build.j0 k a0 l1 (decide (a0 > 255)))
theorem page_Build.mono_l : ∀ k, (∀ y0 y1 y2, LeO (page_Build.j0 k y0 y1 y2) (page_Build.j0 (k + 1) y0 y1 y2)) ∧ (∀ y0 y1 y2 y3 y4 y5, LeO (page_Build.l0 k y0 y1 y2 y3 y4 y5) (page_Build.l0 (k + 1) y0 y1 y2 y3 y4 y5)) ∧ (∀ y0 y1 y2 y3 y4, LeO (page_Build.l1 k y0 y1 y2 y3 y4) (page_Build.l1 (k + 1) y0 y1 y2 y3 y4))
  | 0 => ⟨fun _ _ _ r h => by simp [page_Build.j0] at h, fun _ _ _ _ _ _ r h => by simp [page_Build.l0] at h, fun _ _ _ _ _ r h => by simp [page_Build.l1] at h⟩
  | k + 1 => by
    obtain ⟨ih0, ih1, ih2⟩ := page_Build.mono_l k
    refine ⟨?_, ?_, ?_⟩
    · intro y0 y1 y2
      unfold page_Build.j0
      repeat' first
      | (with_reducible exact ih0 _ _ _)
      | (with_reducible exact ih1 _ _ _ _ _ _)
      | (with_reducible exact ih2 _ _ _ _ _)
      | (with_reducible exact LeO.refl _)
      | (with_reducible exact LeO.none _)
      | (with_reducible refine LeO.ite ?_ ?_)
      | (with_reducible refine LeO.bind ?_ (fun _ => ?_))
      | exact ih0 _ _ _
      | exact ih1 _ _ _ _ _ _
      | exact ih2 _ _ _ _ _
      | exact LeO.none _
      | refine LeO.ite ?_ ?_
      | refine LeO.bind ?_ (fun _ => ?_)
    · intro y0 y1 y2 y3 y4 y5
      unfold page_Build.l0
      repeat' first
      | (with_reducible exact ih0 _ _ _)
      | (with_reducible exact ih1 _ _ _ _ _ _)
      | (with_reducible exact ih2 _ _ _ _ _)
      | (with_reducible exact LeO.refl _)
      | (with_reducible exact LeO.none _)
      | (with_reducible refine LeO.ite ?_ ?_)
      | (with_reducible refine LeO.bind ?_ (fun _ => ?_))
      | exact ih0 _ _ _
      | exact ih1 _ _ _ _ _ _
      | exact ih2 _ _ _ _ _
      | exact LeO.none _
      | refine LeO.ite ?_ ?_
      | refine LeO.bind ?_ (fun _ => ?_)
    · intro y0 y1 y2 y3 y4
      unfold page_Build.l1
      repeat' first
      | (with_reducible exact ih0 _ _ _)
      | (with_reducible exact ih1 _ _ _ _ _ _)
      | (with_reducible exact ih2 _ _ _ _ _)
      | (with_reducible exact LeO.refl _)
      | (with_reducible exact LeO.none _)
      | (with_reducible refine LeO.ite ?_ ?_)
      | (with_reducible refine LeO.bind ?_ (fun _ => ?_))
      | exact ih0 _ _ _
      | exact ih1 _ _ _ _ _ _
      | exact ih2 _ _ _ _ _
      | exact LeO.none _
      | refine LeO.ite ?_ ?_
      | refine LeO.bind ?_ (fun _ => ?_)
theorem page_Build.mono : ∀ a0 a1 k, LeO (page_Build.f k a0 a1) (page_Build.f (k + 1) a0 a1) := by
  intro a0 a1 k
  obtain ⟨ih0, ih1, ih2⟩ := page_Build.mono_l k
  unfold page_Build.f
  repeat' first
      | (with_reducible exact ih0 _ _ _)
      | (with_reducible exact ih1 _ _ _ _ _ _)
      | (with_reducible exact ih2 _ _ _ _ _)
      | (with_reducible exact LeO.refl _)
      | (with_reducible exact LeO.none _)
      | (with_reducible refine LeO.ite ?_ ?_)
      | (with_reducible refine LeO.bind ?_ (fun _ => ?_))
      | exact ih0 _ _ _
      | exact ih1 _ _ _ _ _ _
      | exact ih2 _ _ _ _ _
      | exact LeO.none _
      | refine LeO.ite ?_ ?_
      | refine LeO.bind ?_ (fun _ => ?_)
set_option maxHeartbeats 8000000 in
set_option maxRecDepth 100000 in
theorem page_Build.calls (k : Nat) (a0 : Int) (A1 : Option Addr) (c1 : Nat) (l1 : List (List Int)) (r1 : List Int) (r2 : Int) (w : World) (hr1 : Kd.C (Kd.slice 5 (Kd.int .u8)) w A1 l1.length l1) (hc1 : l1.length ≤ c1) (h : page_Build.f k a0 l1 = some (r1, r2)) :
    Calls Try.prog 13 #[.int .i64 a0, .slice A1 l1.length c1] w fun e w' => ∃ v0_ : Value, e = .returned (.tuple #[v0_, .int .i64 r2]) ∧ Kd.R (Kd.int .u8) 5 w' w.heap.size (fun _ => True) v0_ r1 ∧ Below w.heap.size w w' := by
  have HR1 := Aside0.mk hr1
  have HC1 := Aside0.mk hc1
  clear hr1 hc1
  have HB := Aside0.mk (Below.refl w.heap.size w)
  have H : (if a0 < 0 then (page_Build.j0 k a0 l1 true) else (page_Build.j0 k a0 l1 (decide (a0 > 255)))) = some (r1, r2) := h
  clear h
  have HC3 := Aside0.mk H
  clear H
  go_enter Try.func13, Try.ntmps13
  go_upto_region 1 with (fail)
  go_cut [18] (fun v18 wc => ∃ (kq : Nat) (x18_2 : Bool), v18 = .bool x18_2 ∧ Aside0 (page_Build.j0 kq a0 l1 x18_2 = some (r1, r2)) ∧ Aside0 (kq ≤ k) ∧ Aside0 (Below w.heap.size w wc))
  case first =>
    have H := HC3.out
    clear HC3
    by_cases c4 : a0 < 0
    · rw [if_pos c4] at H
      have c4b0 : decide (a0 < 0) = true := decide_eq_true c4
      clear c4
      (first | rw [c4b0] | (simp only [i64_w, i32_w]; rw [c4b0]) | skip)
      have H' := Aside0.mk H
      clear H
      go_wp2
      go_meet
      case rel => exact ⟨_, (true), (by first | rfl | (simp; done) | (simp [*]; done)), H', ⟨by first | omega | exact Nat.le_refl _⟩, ⟨by repeat (first | (with_reducible first | exact HB.out | apply below_alloc | apply pw_below_drewN | apply below_drew1) | exact HB.out)⟩⟩
    · rw [if_neg c4] at H
      have c4b0 : decide (a0 < 0) = false := decide_eq_false c4
      clear c4
      (first | rw [c4b0] | (simp only [i64_w, i32_w]; rw [c4b0]) | skip)
      have H' := Aside0.mk H
      clear H
      go_wp2
      go_meet
      case rel => exact ⟨_, (decide (a0 > 255)), (by first | rfl | (simp; done) | (simp [*]; done)), H', ⟨by first | omega | exact Nat.le_refl _⟩, ⟨by repeat (first | (with_reducible first | exact HB.out | apply below_alloc | apply pw_below_drewN | apply below_drew1) | exact HB.out)⟩⟩
  case rest =>
    clear HC3
    try clear c1
    try clear p2
    try clear c4
    try clear c4b0
    obtain ⟨kq, x18_2, rfl, HA, HJ2, HB⟩ := hcut
    cases kq with
    | zero => exact absurd HA.out (by simp [page_Build.j0])
    | succ kj2 =>
      have H := HA.out
      clear HA
      simp only [page_Build.j0] at H
      by_cases c5 : x18_2 = true
      · subst c5
        have H1 : (some (([] : List Int), 1)) = some (r1, r2) := by rw [if_pos rfl] at H; exact H
        clear H
        have H := H1
        clear H1
        simp only [Option.some.injEq, Prod.mk.injEq] at H
        obtain ⟨rfl, rfl⟩ := H
        go_wp2
        go_ret2
        exact ⟨_, by first | rfl | (simp [errW_none, errW_some] <;> rfl) | (simp [*, errW_none, errW_some] <;> rfl), by first | exact Kd.R_nil _ _ _ _ _ | exact Kd.N_nil _ _ _ _ _ | exact Kd.V_nil _ _ _ _ _ | exact Kd.Q_nil _ _ _ _ _ | exact Kd.S_nil _ _ _ _ _, by repeat (first | (with_reducible first | exact HB.out | apply below_alloc | apply pw_below_drewN | apply below_drew1) | exact HB.out)⟩
      · replace c5 := Bool.eq_false_iff.mpr c5
        subst c5
        have H1 : (page_Build.l0 kj2 a0 l1 7 l1 (l1.length : Int) 0) = some (r1, r2) := by rw [if_neg (show ¬ (false = true) by decide)] at H; exact H
        clear H
        have H := H1
        clear H1
        have H' := Aside0.mk H
        clear H
        go_wp2
        go_loopg [6, 21] kj2 (fun kq v6 v21 w' => ∃ (x6_2 : Int) (x21_2 : Int), v6 = .int .i64 x6_2 ∧ v21 = .int .i64 x21_2 ∧ Aside0 (page_Build.l0 kq a0 l1 x6_2 l1 (l1.length : Int) x21_2 = some (r1, r2)) ∧ Aside0 (kq ≤ kj2) ∧ Aside0 (Below w.heap.size w w'))
        case atStart => exact ⟨(7), (0), (by first | rfl | (simp; done) | (simp [*]; done)), (by first | rfl | (simp; done) | (simp [*]; done)), H', ⟨Nat.le_refl _⟩, ⟨by repeat (first | (with_reducible first | exact HB.out | apply below_alloc | apply pw_below_drewN | apply below_drew1) | exact HB.out)⟩⟩
        case round =>
          clear H'
          try clear c1
          try clear p2
          try clear c4
          try clear c4b0
          try clear c5
          try clear p2
          obtain ⟨x6_2, x21_2, rfl, rfl, HA, HK2, HB⟩ := hrel
          cases gk with
          | zero => exact absurd HA.out (by simp [page_Build.l0])
          | succ k2 =>
            have H := HA.out
            clear HA
            simp only [page_Build.l0] at H
            by_cases c6 : x21_2 < (l1.length : Int)
            · rw [if_pos c6] at H
              have c6b0 : decide (x21_2 < (l1.length : Int)) = true := decide_eq_true c6
              clear c6
              by_cases c7 : 0 ≤ x21_2
              · rw [if_pos c7] at H
                have c7b0 : decide (0 ≤ x21_2) = true := decide_eq_true c7
                clear c7
                by_cases c8 : x21_2 < (l1.length : Int)
                · rw [if_pos c8] at H
                  have c8b0 : decide (x21_2 < (l1.length : Int)) = true := decide_eq_true c8
                  clear c8
                  by_cases c9 : (wrap64 (x6_2 + (wrap64 (((rd_L1 l1 x21_2).length : Int) + 2)))) > 1024
                  · rw [if_pos c9] at H
                    have c9b0 : decide (1024 < (wrap64 (x6_2 + (wrap64 (((rd_L1 l1 x21_2).length : Int) + 2))))) = true := decide_eq_true c9
                    clear c9
                    simp only [Option.some.injEq, Prod.mk.injEq] at H
                    obtain ⟨rfl, rfl⟩ := H
                    have p103 : 0 ≤ (x21_2 : Int) := of_decide_eq_true (by first | (with_reducible assumption) | assumption)
                    have q103 : x21_2 < (l1.length : Int) := of_decide_eq_true (by first | (with_reducible assumption) | assumption)
                    obtain ⟨ad103, A103_0, c103_0, e103, hx103_0, hl103_0, hi103_0⟩ := at_L1 HR1.out x21_2 p103 q103
                    cases e103
                    replace hx103_0 := (HB.out.cell (World.block_lt_of_cell? w _ hx103_0)).trans hx103_0
                    have HR103_0 := Aside0.mk hi103_0
                    have HC103_0 := Aside0.mk hl103_0
                    clear hi103_0 hl103_0
                    replace p103 := eq_true p103
                    replace q103 := eq_true q103
                    go_wp2
                    go_ret2
                    exact ⟨_, by first | rfl | (simp [errW_none, errW_some] <;> rfl) | (simp [*, errW_none, errW_some] <;> rfl), by first | exact Kd.R_nil _ _ _ _ _ | exact Kd.N_nil _ _ _ _ _ | exact Kd.V_nil _ _ _ _ _ | exact Kd.Q_nil _ _ _ _ _ | exact Kd.S_nil _ _ _ _ _, by repeat (first | (with_reducible first | exact HB.out | apply below_alloc | apply pw_below_drewN | apply below_drew1) | exact HB.out)⟩
                  · rw [if_neg c9] at H
                    have c9b0 : decide (1024 < (wrap64 (x6_2 + (wrap64 (((rd_L1 l1 x21_2).length : Int) + 2))))) = false := decide_eq_false c9
                    clear c9
                    have H' := Aside0.mk H
                    clear H
                    have p103 : 0 ≤ (x21_2 : Int) := of_decide_eq_true (by first | (with_reducible assumption) | assumption)
                    have q103 : x21_2 < (l1.length : Int) := of_decide_eq_true (by first | (with_reducible assumption) | assumption)
                    obtain ⟨ad103, A103_0, c103_0, e103, hx103_0, hl103_0, hi103_0⟩ := at_L1 HR1.out x21_2 p103 q103
                    cases e103
                    replace hx103_0 := (HB.out.cell (World.block_lt_of_cell? w _ hx103_0)).trans hx103_0
                    have HR103_0 := Aside0.mk hi103_0
                    have HC103_0 := Aside0.mk hl103_0
                    clear hi103_0 hl103_0
                    replace p103 := eq_true p103
                    replace q103 := eq_true q103
                    go_wp2
                    go_roundg k2
                    case measure => have := HJ2.out; have := HK2.out; omega
                    case rel => exact ⟨(wrap64 (x6_2 + (wrap64 (((rd_L1 l1 x21_2).length : Int) + 2)))), (wrap64 (x21_2 + 1)), (by first | rfl | (simp; done) | (simp [*]; done)), (by first | rfl | (simp; done) | (simp [*]; done)), H', ⟨by have := HJ2.out; have := HK2.out; omega⟩, ⟨by repeat (first | (with_reducible first | exact HB.out | apply below_alloc | apply pw_below_drewN | apply below_drew1) | exact HB.out)⟩⟩
                · rw [if_neg c8] at H
                  exact absurd H (by simp)
              · rw [if_neg c7] at H
                exact absurd H (by simp)
            · rw [if_neg c6] at H
              have c6b0 : decide (x21_2 < (l1.length : Int)) = false := decide_eq_false c6
              clear c6
              by_cases c10 : 1024 ≤ 281474976710656
              · rw [if_pos c10] at H
                have c10b0 := eq_true c10
                have c10b1 : decide (1024 ≤ 281474976710656) = true := decide_eq_true c10
                clear c10
                obtain ⟨y104, hy104⟩ : ∃ y_ : List Int, y_ = (List.replicate 1024 0) := ⟨_, rfl⟩
                replace H : (if 0 < (y104.length : Int) then ((page_put.f (y104.set (0 : Int).toNat ((a0) % 256)) 1 (l1.length : Int)).bind fun t108 => (page_Build.l1 k2 t108 1020 l1 (l1.length : Int) 0)) else (none)) = some (r1, r2) := by first | (rw [hy104]; with_reducible exact H) | (have H2_ := (Option.bind_some _ _).symm.trans H; rw [hy104]; with_reducible exact H2_) | (have H2_ := (Option.bind_some _ _).symm.trans H; with_reducible exact H2_) | with_reducible exact H | (rw [hy104]; exact H) | exact H
                have Ny104 := Aside0.mk hy104
                clear hy104
                by_cases c11 : 0 < (y104.length : Int)
                · rw [if_pos c11] at H
                  have c11b0 : decide (0 < (y104.length : Int)) = true := decide_eq_true c11
                  have c11b1 : decide (0 < y104.length) = true := decide_eq_true (by omega)
                  clear c11
                  obtain ⟨y107, hy107⟩ : ∃ y_ : List Int, y_ = (y104.set (0 : Int).toNat ((a0) % 256)) := ⟨_, rfl⟩
                  replace H : ((page_put.f y107 1 (l1.length : Int)).bind fun t108 => (page_Build.l1 k2 t108 1020 l1 (l1.length : Int) 0)) = some (r1, r2) := by first | (rw [hy107]; with_reducible exact H) | (have H2_ := (Option.bind_some _ _).symm.trans H; rw [hy107]; with_reducible exact H2_) | (have H2_ := (Option.bind_some _ _).symm.trans H; with_reducible exact H2_) | with_reducible exact H | (rw [hy107]; exact H) | exact H
                  have Ny107 := Aside0.mk hy107
                  clear hy107
                  replace H := Option.bind_eq_some_iff.mp H
                  obtain ⟨t108, A130, H⟩ := H
                  replace H : (page_Build.l1 k2 t108 1020 l1 (l1.length : Int) 0) = some (r1, r2) := H
                  have A13 := Aside0.mk A130
                  clear A130
                  have H' := Aside0.mk H
                  clear H
                  go_wp2_with (first | ((with_reducible refine gate_dst (N := 33) rfl ?_); refine Kd.R_make (Kd.int .u8) _ 5 rfl (N := 33) rfl 25 _ _ rfl 1024 rfl rfl Try.underlying25 (.int .u8 0) 1 info5 rfl (by decide) (by omega) 0 (ok := fun _ => True) (okp := fun _ => True) rfl (fun _ hk => hk) trivial (by omega) (by omega) (Below.refl _ _) (Nat.le_refl _) ?_; intro v105 w14 ho15 hb hg_ hnew_; clear hg_ hnew_; (first | rw [← Ny104.out] at ho15 | (simp only [Int.reduceToNat] at ho15; rw [← Ny104.out] at ho15)); have n0_ := Aside0.mk (Kd.R_lower ho15 (below_size (by repeat (first | (with_reducible first | exact HB.out | apply below_alloc | apply pw_below_drewN | apply below_drew1) | exact HB.out)))); have n1_ := Aside0.mk (below_step (by repeat (first | (with_reducible first | exact HB.out | apply below_alloc | apply pw_below_drewN | apply below_drew1) | exact HB.out)) hb); clear HB; have HO106 := n0_; have HB := n1_; clear n0_ n1_; clear hb ho15; have p12 : 0 ≤ (0 : Int) := (by omega); have q12 : (0 : Int) < ((y104.length : Int) : Int) := of_decide_eq_true (by first | (with_reducible assumption) | assumption); have qi12 : (0 < y104.length) = True := eq_true (by omega); obtain ⟨go12, co12, eo12, gb12, gl12, cl12, HG12⟩ := Kd.R_form HO106.out (by omega); (first | cases eo12 | (injection eo12 with ea_ en_ ec_; (first | subst ea_ | (injection ea_ with ea_; subst ea_)); subst ec_; clear en_)); have GB12 := Aside0.mk gb12; have GG12 := Aside0.mk HG12; clear gb12 gl12 HG12; obtain ⟨hx12_0, hf12_0⟩ := Kd.R_celln 0 HO106.out (0 : Int) p12 q12; (try rw [show ((0 : Int)).toNat = 0 from rfl] at hx12_0); (try simp only [Nat.reduceMul, Nat.zero_mul, Nat.zero_add, Nat.reduceAdd] at hx12_0); (try rw [show ((0 : Int)).toNat = 0 from rfl] at hf12_0); (try simp only [Nat.reduceMul, Nat.zero_mul, Nat.zero_add, Nat.reduceAdd] at hf12_0); replace p12 := eq_true p12; replace q12 := eq_true q12; obtain ⟨hy16_, hz16_⟩ := Kd.R_celln 0 HO106.out (0 : Int) (by omega) (of_decide_eq_true (by first | (with_reducible assumption) | assumption)); (try simp only [Int.reduceToNat, Int.toNat_zero, Int.toNat_ofNat, Nat.reduceMul, Nat.zero_mul, Nat.zero_add] at hy16_ hz16_); (try rw [show ((0 : Int)).toNat = 0 from rfl] at hy16_); (try rw [show ((0 : Int)).toNat = 0 from rfl] at hz16_); have HP16 := Kd.R_putg HO106.out (0 : Int) ((a0) % 256)) | ((with_reducible refine gate_store (t := 5) (p := 37) rfl ?_); refine store_event (t := 5) (p := 37) (v := ?vo_w17) (w1 := (w14.setCell ⟨go12, (0 : Int).toNat, none⟩ (.int .u8 ((a0) % 256)))) ?hg ?ho ?hn ?hr ?_; (case ho => rfl); (case hg => rfl); (case hn => rfl); (case hr => first | (go_simp; done) | (go_simp; rfl)); intro w17 hw; have hg : w14.grownBy w17 (some go12) := (by rw [hw]; exact HP16.2); have hp_ : Kd.R (Kd.int .u8) 5 w17 w.heap.size (fun _ => True) (.slice (some ⟨go12, 0, none⟩) y104.length co12) y107 := (by rw [hw, Ny107.out]; exact HP16.1); clear HP16; have n0_ := Aside0.mk (hp_); have n1_ := Aside0.mk ((by rw [hw]; exact below_set (HB.out) GB12.out : Below w.heap.size w w17)); clear HO106; clear HB; have HO106 := n0_; have HB := n1_; clear n0_ n1_; clear hg hw hp_) | ((with_reducible refine gate_callee (f := 38) rfl ?_); refine goesL_ (some 41) rfl rfl Try.func38 (by kernel_rfl) rfl #[.slice (some ⟨go12, 0, none⟩) y104.length co12, .int .i64 1, .int .i64 (l1.length : Int)] rfl (by (try simp only [List.map_toArray, List.map_cons, List.map_nil]); first | done | rfl | (simp only [List.length_drop, List.length_take]; rfl)) ?_; (with_reducible refine (page_put.calls (fun k_ => some k_ = (.slice (some ⟨go12, 0, none⟩) y104.length co12 : Value).ownBlock) (.slice (some ⟨go12, 0, none⟩) y104.length co12) y107 1 (l1.length : Int) t108 w _ ?side1 ?side2 A13.out).mono ?_); (case side1 => repeat (first | (with_reducible first | exact HB.out | apply below_alloc | apply pw_below_drewN | apply below_drew1) | exact HB.out)); (case side2 => exact Kd.R_tight rfl HO106.out); rintro e w18 ⟨rfl, hy0, hb, hkp⟩; refine ⟨_, rfl, ?_⟩; have n0_ := Aside0.mk (Kd.R_reok rfl hy0 (fun k_ e_ => HO106.out.1 k_ e_)); have n1_ := Aside0.mk (hb); clear HO106; clear HB; have HO106 := n0_; have HB := n1_; clear n0_ n1_; (try clear hb); (try clear hkp); (try clear hy0)))
                  go_loopg [10, 44] k2 (fun kq v10 v44 w' => ∃ (x9_3 : List Int) (x10_3 : Int) (x44_3 : Int), v10 = .int .i64 x10_3 ∧ v44 = .int .i64 x44_3 ∧ Aside0 (page_Build.l1 kq x9_3 x10_3 l1 (l1.length : Int) x44_3 = some (r1, r2)) ∧ Aside0 (kq ≤ k2) ∧ Aside0 (Kd.R (Kd.int .u8) 5 w' w.heap.size (fun _ => True) (.slice (some ⟨go12, 0, none⟩) y104.length co12) x9_3) ∧ Aside0 (Below w.heap.size w w'))
                  case atStart => exact ⟨(t108), (1020), (0), (by first | rfl | (simp; done) | (simp [*]; done)), (by first | rfl | (simp; done) | (simp [*]; done)), H', ⟨Nat.le_refl _⟩, ⟨by (with_reducible repeat (first | apply Kd.R_alloc | apply Kd.R_drewN | apply Kd.R_drew)); exact HO106.out⟩, ⟨by repeat (first | (with_reducible first | exact HB.out | apply below_alloc | apply pw_below_drewN | apply below_drew1) | exact HB.out)⟩⟩
                  case round =>
                    clear H'
                    try clear c1
                    try clear p1
                    try clear q1
                    try clear hx1
                    try clear qi1
                    try clear p2
                    try clear c3
                    try clear c4
                    try clear c4b0
                    try clear c5
                    try clear c6
                    try clear c6b0
                    try clear p6
                    try clear c7
                    try clear c7b0
                    try clear c8
                    try clear c8b0
                    try clear c9
                    try clear c9b0
                    try clear c10
                    try clear c10b0
                    try clear c10b1
                    try clear p10
                    try clear q10
                    try clear hx10
                    try clear c11
                    try clear c11b0
                    try clear c11b1
                    try clear p12
                    try clear q12
                    try clear hx12
                    try clear qi12
                    try clear hf12
                    try clear c13
                    try clear hx103_0
                    try clear hx12_0
                    try clear p103
                    try clear p12
                    try clear p2
                    try clear q103
                    try clear q12
                    obtain ⟨x9_3, x10_3, x44_3, rfl, rfl, HA, HK3, HO_9, HB⟩ := hrel
                    have hl9_3 := (Kd.R_reads' HO_9.out).1
                    rw [hl9_3] at HO_9
                    (try simp only [hl9_3])
                    cases gk with
                    | zero => exact absurd HA.out (by simp [page_Build.l1])
                    | succ k3 =>
                      have H := HA.out
                      clear HA
                      simp only [page_Build.l1] at H
                      by_cases c19 : x44_3 < (l1.length : Int)
                      · rw [if_pos c19] at H
                        have c19b0 : decide (x44_3 < (l1.length : Int)) = true := decide_eq_true c19
                        clear c19
                        by_cases c20 : 0 ≤ x44_3
                        · rw [if_pos c20] at H
                          have c20b0 : decide (0 ≤ x44_3) = true := decide_eq_true c20
                          clear c20
                          by_cases c21 : x44_3 < (l1.length : Int)
                          · rw [if_pos c21] at H
                            have c21b0 : decide (x44_3 < (l1.length : Int)) = true := decide_eq_true c21
                            clear c21
                            obtain ⟨ji22, hji22⟩ : ∃ j_ : Int, (wrap64 (x10_3 - ((rd_L1 l1 x44_3).length : Int))) = j_ := ⟨_, rfl⟩
                            replace H : (if 0 ≤ (ji22) then (if (ji22) ≤ (x9_3.length : Int) then ((copyat_25_25.f x9_3 (ji22) (rd_L1 l1 x44_3)).bind fun bt114 => ((page_put.f bt114.2 (wrap64 (3 + (wrap64 (2 * x44_3)))) (ji22)).bind fun t116 => (page_Build.l1 k3 t116 ji22 l1 (l1.length : Int) (wrap64 (x44_3 + 1))))) else (none)) else (none)) = some (r1, r2) := by first | (rw [hji22] at H; exact H) | (simp only [hji22] at H ⊢; exact H)
                            have hji22w : (IntKind.i64.wrap (x10_3 - ((rd_L1 l1 x44_3).length : Int))) = ji22 := (i64_w _).trans hji22
                            by_cases c23 : 0 ≤ (ji22)
                            · rw [if_pos c23] at H
                              have c23b0 := eq_true c23
                              have c23b1 : decide (0 ≤ (ji22)) = true := decide_eq_true c23
                              clear c23
                              by_cases c24 : (ji22) ≤ (x9_3.length : Int)
                              · rw [if_pos c24] at H
                                have c24b0 := eq_true c24
                                have c24b1 : decide ((ji22) ≤ (x9_3.length : Int)) = true := decide_eq_true c24
                                clear c24
                                obtain ⟨y110, hy110⟩ : ∃ y_ : List Int, y_ = (x9_3.drop ((ji22) : Int).toNat) := ⟨_, rfl⟩
                                replace H : ((copyat_25_25.f x9_3 (ji22) (rd_L1 l1 x44_3)).bind fun bt114 => ((page_put.f bt114.2 (wrap64 (3 + (wrap64 (2 * x44_3)))) (ji22)).bind fun t116 => (page_Build.l1 k3 t116 ji22 l1 (l1.length : Int) (wrap64 (x44_3 + 1))))) = some (r1, r2) := by first | (rw [hy110]; with_reducible exact H) | (have H2_ := (Option.bind_some _ _).symm.trans H; rw [hy110]; with_reducible exact H2_) | (have H2_ := (Option.bind_some _ _).symm.trans H; with_reducible exact H2_) | with_reducible exact H | (rw [hy110]; exact H) | exact H
                                have Ny110 := Aside0.mk hy110
                                clear hy110
                                replace H := Option.bind_eq_some_iff.mp H
                                obtain ⟨⟨t114, t115⟩, A250, H⟩ := H
                                replace H : ((page_put.f t115 (wrap64 (3 + (wrap64 (2 * x44_3)))) (ji22)).bind fun t116 => (page_Build.l1 k3 t116 ji22 l1 (l1.length : Int) (wrap64 (x44_3 + 1)))) = some (r1, r2) := H
                                have A25 := Aside0.mk A250
                                clear A250
                                replace H := Option.bind_eq_some_iff.mp H
                                obtain ⟨t116, A260, H⟩ := H
                                replace H : (page_Build.l1 k3 t116 ji22 l1 (l1.length : Int) (wrap64 (x44_3 + 1))) = some (r1, r2) := H
                                have A26 := Aside0.mk A260
                                clear A260
                                have H' := Aside0.mk H
                                clear H
                                have p109 : 0 ≤ (x44_3 : Int) := of_decide_eq_true (by first | (with_reducible assumption) | assumption)
                                have q109 : x44_3 < (l1.length : Int) := of_decide_eq_true (by first | (with_reducible assumption) | assumption)
                                obtain ⟨ad109, A109_0, c109_0, e109, hx109_0, hl109_0, hi109_0⟩ := at_L1 HR1.out x44_3 p109 q109
                                cases e109
                                replace hx109_0 := (HB.out.cell (World.block_lt_of_cell? w _ hx109_0)).trans hx109_0
                                have HR109_0 := Aside0.mk hi109_0
                                have HC109_0 := Aside0.mk hl109_0
                                clear hi109_0 hl109_0
                                replace p109 := eq_true p109
                                replace q109 := eq_true q109
                                have q27 : ((ji22) : Int) ≤ ((x9_3.length : Int) : Int) := of_decide_eq_true (by first | (with_reducible assumption) | assumption)
                                obtain ⟨i027, hi027, _, hsz27, _⟩ := info_parts info5
                                have hroom27 : x9_3.length ≤ co12 := (Kd.R_reads' HO_9.out).2.1
                                have hC27 : Kd.C (Kd.int .u8) _ (some ⟨go12, 0, none⟩) x9_3.length x9_3 := (Kd.R_reads' HO_9.out).2.2
                                have q027 : (0 : Int) ≤ ((ji22) : Int) := of_decide_eq_true (by first | (with_reducible assumption) | assumption)
                                have hcut27 := cut_from (P := Try.prog) 25 5 .i64 Try.underlying25 hi027 1 hsz27 (some ⟨go12, 0, none⟩) x9_3.length co12 (ji22) q027 q27
                                have hr27 := Kd.C_drop (m := ((ji22) : Int).toNat) (c := co12) hC27 (by omega) hroom27
                                obtain ⟨A27, hA27⟩ : ∃ A1, A1 = (if co12 = ((ji22) : Int).toNat then (some ⟨go12, 0, none⟩) else ((some ⟨go12, 0, none⟩) : Option Addr).map (·.add (((ji22) : Int).toNat * 1))) := ⟨_, rfl⟩
                                obtain ⟨c27, hc27⟩ : ∃ c1, c1 = co12 - ((ji22) : Int).toNat := ⟨_, rfl⟩
                                have hy27 : y110.length = x9_3.length - ((ji22) : Int).toNat := (by rw [Ny110.out, List.length_drop] <;> omega)
                                rw [show (x9_3).drop ((ji22) : Int).toNat = y110 from Ny110.out.symm] at hr27
                                replace hr27 : Kd.C (Kd.int .u8) _ A27 y110.length y110 := (by rw [hA27]; exact hr27)
                                rw [← hy27, ← hA27, ← hc27] at hcut27
                                have HR113 := Aside0.mk hr27
                                have HC113 := Aside0.mk (show y110.length ≤ c27 from by rw [hy27, hc27]; exact Nat.sub_le_sub_right hroom27 _)
                                clear hr27 hC27 hroom27 hi027 hsz27 hc27
                                have KY27 := Aside0.mk hy27
                                have KA27 := Aside0.mk hA27
                                clear hy27 hA27
                                have KL27 := Aside0.mk (show ((ji22) : Int).toNat ≤ x9_3.length from by omega)
                                replace q27 := eq_true q27
                                go_wp2_with (first | ((with_reducible refine gate_builtin (b := .copy) (xs := #[.tmp 55, .tmp 56]) rfl ?_); refine copy_event (some 57) rfl rfl (.tmp 55) (.tmp 56) 25 25 rfl _ (.slice A109_0 (rd_L1 l1 x44_3).length c109_0) rfl (by first | rfl | (simp only [List.length_drop, List.length_take]; rfl)) (.slice (some ⟨go12, 0, none⟩) x9_3.length co12) (ji22) ?hcv ?_; (case hcv => exact cutof_of KY27.out KA27.out); (with_reducible refine (copyat_25_25.calls (fun k_ => some k_ = (.slice (some ⟨go12, 0, none⟩) x9_3.length co12 : Value).ownBlock) (.slice (some ⟨go12, 0, none⟩) x9_3.length co12) x9_3 (ji22) _ _ (rd_L1 l1 x44_3) t114 t115 w _ ?side1 ?side2 ?side3 ?side4 A25.out).mono ?_); (case side1 => repeat (first | (with_reducible first | exact HB.out | apply below_alloc | apply pw_below_drewN | apply below_drew1) | exact HB.out)); (case side2 => exact Kd.R_tight rfl HO_9.out); (case side3 => exact Kd.C_kept_came (Kd.heap_int .u8) HR109_0.out (by repeat (first | (with_reducible first | exact HB.out | apply below_alloc | apply pw_below_drewN | apply below_drew1) | exact HB.out)) (fun k_ hs_ => (fun e_ => Kd.R_base HO_9.out k_ e_.symm) hs_)); (case side4 => exact HC109_0.out); rintro e w28 ⟨rfl, hy0, hb, hkp⟩; refine ⟨_, rfl, ?_⟩; have n0_ := Aside0.mk (Kd.R_reok rfl hy0 (fun k_ e_ => HO_9.out.1 k_ e_)); have n1_ := Aside0.mk (hb); clear HO_9; clear HB; have HO_9 := n0_; have HB := n1_; clear n0_ n1_; (try clear hb); (try clear hkp); (try clear hy0)) | ((with_reducible refine gate_callee (f := 38) rfl ?_); refine goesL_ (some 63) rfl rfl Try.func38 (by kernel_rfl) rfl #[.slice (some ⟨go12, 0, none⟩) x9_3.length co12, .int .i64 (wrap64 (3 + (wrap64 (2 * x44_3)))), .int .i64 ji22] rfl (by (try simp only [List.map_toArray, List.map_cons, List.map_nil]); first | done | (simp only [hji22]; rfl) | rfl | (simp only [List.length_drop, List.length_take]; rfl)) ?_; (with_reducible refine (page_put.calls (fun k_ => some k_ = (.slice (some ⟨go12, 0, none⟩) x9_3.length co12 : Value).ownBlock) (.slice (some ⟨go12, 0, none⟩) x9_3.length co12) t115 (wrap64 (3 + (wrap64 (2 * x44_3)))) ji22 t116 w _ ?side1 ?side2 A26.out).mono ?_); (case side1 => repeat (first | (with_reducible first | exact HB.out | apply below_alloc | apply pw_below_drewN | apply below_drew1) | exact HB.out)); (case side2 => exact Kd.R_tight rfl HO_9.out); rintro e w29 ⟨rfl, hy0, hb, hkp⟩; refine ⟨_, rfl, ?_⟩; have n0_ := Aside0.mk (Kd.R_reok rfl hy0 (fun k_ e_ => HO_9.out.1 k_ e_)); have n1_ := Aside0.mk (hb); clear HO_9; clear HB; have HO_9 := n0_; have HB := n1_; clear n0_ n1_; (try clear hb); (try clear hkp); (try clear hy0)))
                                (try simp only [← hl9_3])
                                go_roundg k3
                                case measure => have := HJ2.out; have := HK2.out; have := HK3.out; omega
                                case rel => exact ⟨(t116), (ji22), (wrap64 (x44_3 + 1)), (by first | rfl | (simp; done) | (simp only [← hji22] <;> (first | rfl | simp)) | (simp [*]; done)), (by first | rfl | (simp; done) | (simp [*]; done)), H', ⟨by have := HJ2.out; have := HK2.out; have := HK3.out; omega⟩, ⟨by (try simp only [hl9_3]); (with_reducible repeat (first | apply Kd.R_alloc | apply Kd.R_drewN | apply Kd.R_drew)); exact HO_9.out⟩, ⟨by repeat (first | (with_reducible first | exact HB.out | apply below_alloc | apply pw_below_drewN | apply below_drew1) | exact HB.out)⟩⟩
                              · rw [if_neg c24] at H
                                exact absurd H (by simp)
                            · rw [if_neg c23] at H
                              exact absurd H (by simp)
                          · rw [if_neg c21] at H
                            exact absurd H (by simp)
                        · rw [if_neg c20] at H
                          exact absurd H (by simp)
                      · rw [if_neg c19] at H
                        have c19b0 : decide (x44_3 < (l1.length : Int)) = false := decide_eq_false c19
                        clear c19
                        simp only [Option.some.injEq, Prod.mk.injEq] at H
                        obtain ⟨rfl, rfl⟩ := H
                        go_wp2
                        go_ret2
                        exact ⟨_, by first | rfl | (simp [errW_none, errW_some] <;> rfl) | (simp [*, errW_none, errW_some] <;> rfl), by (with_reducible repeat (first | apply Kd.R_alloc | apply Kd.R_drewN | apply Kd.R_drew)); exact HO_9.out, by repeat (first | (with_reducible first | exact HB.out | apply below_alloc | apply pw_below_drewN | apply below_drew1) | exact HB.out)⟩
                · rw [if_neg c11] at H
                  exact absurd H (by simp)
              · rw [if_neg c10] at H
                exact absurd H (by simp)

end Go.Proofs.Ytopbmpdcmnhfdaa.P
