-- Written by wip/hp.py, a program of this session, over the kit's printer; texts proved by hand are put among the printed ones.
import Derived.Test.YtopbmpdcmnhfdaaPx0
import Derived.Test.YtopbmpdcmnhfdaaPx3
import Derived.Test.YtopbmpdcmnhfdaaPx5
import Derived.Test.YtopbmpdcmnhfdaaPx6
import Derived.Test.YtopbmpdcmnhfdaaPx8
import Derived.Test.YtopbmpdcmnhfdaaPx9
import Derived.Test.YtopbmpdcmnhfdaaPx10
namespace Go.Proofs.Ytopbmpdcmnhfdaa.P
open Go.Proofs.YtopbmpdcmnhfdaaH
open Go.RowKit Go.Proofs.YtopbmpdcmnhfdaaW.PrintWords Go.Proofs.YtopbmpdcmnhfdaaW.PrintLast Go.Proofs.YtopbmpdcmnhfdaaW.PrintMore
attribute [local go_sem] max2_int min2_int max_two min_two max_three min_three max_four min_four   -- for this text's walks alone
set_option linter.unusedVariables false
set_option linter.unusedSimpArgs false

/-! ### lineagelaw14_PageChecksum: function 6 -/
def lineagelaw14_PageChecksum.j0 : Nat → Int → Int → List Int → Bool → Option (Bool)
  | 0, _, _, _, _ => none
  | k + 1, x1, x2, x7, x42 => if x42 = true then (some false) else (if 0 ≤ (Int.tmod (wrap64 (x1)) 1024) then (if (Int.tmod (wrap64 (x1)) 1024) < (x7.length : Int) then (if (rd x7 (Int.tmod (wrap64 (x1)) 1024)) = x2 then (some true) else ((page_Check.f k (x7.set ((Int.tmod (wrap64 (x1)) 1024) : Int).toNat x2)).bind fun t383 => (some (t383 == 12)))) else (none)) else (none))
def lineagelaw14_PageChecksum.f (k : Nat) (l0 : List Int) (a1 : Int) (a2 : Int) : Option (Bool) := (lineagelaw14_awake.f k).bind fun t367 => (if t367 = true then (if (l0.length : Int) > 1100 then (some true) else ((page_Seal.f k l0).bind fun t368 => ((page_Kind.f k l0).bind fun t371 => (if t371 < 0 then (if (t368.length : Int) = 0 then ((page_Check.f k l0).bind fun t372 => (some (t372 == 12))) else (some false)) else (if (t368.length : Int) = 1024 then ((page_Check.f k t368).bind fun t373 => (if t373 = 0 then ((page_Cells.f k t368).bind fun t374 => ((page_Cells.f k l0).bind fun t377 => ((lineageref14_List.f k t374 t377).bind fun t380 => (lineagelaw14_PageChecksum.j0 k a1 a2 t368 (!t380))))) else (lineagelaw14_PageChecksum.j0 k a1 a2 t368 true))) else (lineagelaw14_PageChecksum.j0 k a1 a2 t368 true)))))) else (some false))
theorem lineagelaw14_PageChecksum.mono_l : ∀ k, (∀ y0 y1 y2 y3, LeO (lineagelaw14_PageChecksum.j0 k y0 y1 y2 y3) (lineagelaw14_PageChecksum.j0 (k + 1) y0 y1 y2 y3))
  | 0 => fun _ _ _ _ r h => by simp [lineagelaw14_PageChecksum.j0] at h
  | k + 1 => by
    have ih0 := lineagelaw14_PageChecksum.mono_l k
    · intro y0 y1 y2 y3
      unfold lineagelaw14_PageChecksum.j0
      repeat' first
      | (with_reducible exact ih0 _ _ _ _)
      | (with_reducible exact lineagelaw14_awake.mono _)
      | (with_reducible exact lineageref14_List.mono _ _ _)
      | (with_reducible exact page_Cells.mono _ _)
      | (with_reducible exact page_Check.mono _ _)
      | (with_reducible exact page_Kind.mono _ _)
      | (with_reducible exact page_Seal.mono _ _)
      | (with_reducible exact LeO.refl _)
      | (with_reducible exact LeO.none _)
      | (with_reducible refine LeO.ite ?_ ?_)
      | (with_reducible refine LeO.bind ?_ (fun _ => ?_))
      | exact ih0 _ _ _ _
      | exact lineagelaw14_awake.mono _
      | exact lineageref14_List.mono _ _ _
      | exact page_Cells.mono _ _
      | exact page_Check.mono _ _
      | exact page_Kind.mono _ _
      | exact page_Seal.mono _ _
      | exact LeO.none _
      | refine LeO.ite ?_ ?_
      | refine LeO.bind ?_ (fun _ => ?_)
theorem lineagelaw14_PageChecksum.mono : ∀ a0 a1 a2 k, LeO (lineagelaw14_PageChecksum.f k a0 a1 a2) (lineagelaw14_PageChecksum.f (k + 1) a0 a1 a2) := by
  intro a0 a1 a2 k
  have ih0 := lineagelaw14_PageChecksum.mono_l k
  unfold lineagelaw14_PageChecksum.f
  repeat' first
      | (with_reducible exact ih0 _ _ _ _)
      | (with_reducible exact lineagelaw14_awake.mono _)
      | (with_reducible exact lineageref14_List.mono _ _ _)
      | (with_reducible exact page_Cells.mono _ _)
      | (with_reducible exact page_Check.mono _ _)
      | (with_reducible exact page_Kind.mono _ _)
      | (with_reducible exact page_Seal.mono _ _)
      | (with_reducible exact LeO.refl _)
      | (with_reducible exact LeO.none _)
      | (with_reducible refine LeO.ite ?_ ?_)
      | (with_reducible refine LeO.bind ?_ (fun _ => ?_))
      | exact ih0 _ _ _ _
      | exact lineagelaw14_awake.mono _
      | exact lineageref14_List.mono _ _ _
      | exact page_Cells.mono _ _
      | exact page_Check.mono _ _
      | exact page_Kind.mono _ _
      | exact page_Seal.mono _ _
      | exact LeO.none _
      | refine LeO.ite ?_ ?_
      | refine LeO.bind ?_ (fun _ => ?_)
set_option maxHeartbeats 8000000 in
set_option maxRecDepth 100000 in
theorem lineagelaw14_PageChecksum.calls (k : Nat) (A0 : Option Addr) (c0 : Nat) (l0 : List Int) (a1 : Int) (a2 : Int) (r : Bool) (w : World) (hr0 : Kd.C (Kd.int .u8) w A0 l0.length l0) (hc0 : l0.length ≤ c0) (h : lineagelaw14_PageChecksum.f k l0 a1 a2 = some r) :
    Calls Try.prog 6 #[.slice A0 l0.length c0, .int .u16 a1, .int .u8 a2] w fun e w' => e = .returned (.bool r) ∧ Below w.heap.size w w' := by
  have HR0 := Aside0.mk hr0
  have HC0 := Aside0.mk hc0
  clear hr0 hc0
  have HB := Aside0.mk (Below.refl w.heap.size w)
  have H : ((lineagelaw14_awake.f k).bind fun t367 => (if t367 = true then (if (l0.length : Int) > 1100 then (some true) else ((page_Seal.f k l0).bind fun t368 => ((page_Kind.f k l0).bind fun t371 => (if t371 < 0 then (if (t368.length : Int) = 0 then ((page_Check.f k l0).bind fun t372 => (some (t372 == 12))) else (some false)) else (if (t368.length : Int) = 1024 then ((page_Check.f k t368).bind fun t373 => (if t373 = 0 then ((page_Cells.f k t368).bind fun t374 => ((page_Cells.f k l0).bind fun t377 => ((lineageref14_List.f k t374 t377).bind fun t380 => (lineagelaw14_PageChecksum.j0 k a1 a2 t368 (!t380))))) else (lineagelaw14_PageChecksum.j0 k a1 a2 t368 true))) else (lineagelaw14_PageChecksum.j0 k a1 a2 t368 true)))))) else (some false))) = some r := h
  clear h
  replace H := Option.bind_eq_some_iff.mp H
  obtain ⟨t367, A40, H⟩ := H
  replace H : (if t367 = true then (if (l0.length : Int) > 1100 then (some true) else ((page_Seal.f k l0).bind fun t368 => ((page_Kind.f k l0).bind fun t371 => (if t371 < 0 then (if (t368.length : Int) = 0 then ((page_Check.f k l0).bind fun t372 => (some (t372 == 12))) else (some false)) else (if (t368.length : Int) = 1024 then ((page_Check.f k t368).bind fun t373 => (if t373 = 0 then ((page_Cells.f k t368).bind fun t374 => ((page_Cells.f k l0).bind fun t377 => ((lineageref14_List.f k t374 t377).bind fun t380 => (lineagelaw14_PageChecksum.j0 k a1 a2 t368 (!t380))))) else (lineagelaw14_PageChecksum.j0 k a1 a2 t368 true))) else (lineagelaw14_PageChecksum.j0 k a1 a2 t368 true)))))) else (some false)) = some r := H
  have A4 := Aside0.mk A40
  clear A40
  by_cases c5 : t367 = true
  · subst c5
    have H1 : (if (l0.length : Int) > 1100 then (some true) else ((page_Seal.f k l0).bind fun t368 => ((page_Kind.f k l0).bind fun t371 => (if t371 < 0 then (if (t368.length : Int) = 0 then ((page_Check.f k l0).bind fun t372 => (some (t372 == 12))) else (some false)) else (if (t368.length : Int) = 1024 then ((page_Check.f k t368).bind fun t373 => (if t373 = 0 then ((page_Cells.f k t368).bind fun t374 => ((page_Cells.f k l0).bind fun t377 => ((lineageref14_List.f k t374 t377).bind fun t380 => (lineagelaw14_PageChecksum.j0 k a1 a2 t368 (!t380))))) else (lineagelaw14_PageChecksum.j0 k a1 a2 t368 true))) else (lineagelaw14_PageChecksum.j0 k a1 a2 t368 true)))))) = some r := by rw [if_pos rfl] at H; exact H
    clear H
    have H := H1
    clear H1
    by_cases c6 : (l0.length : Int) > 1100
    · rw [if_pos c6] at H
      have c6b0 : decide (1100 < (l0.length : Int)) = true := decide_eq_true c6
      have c6b1 : decide (1100 < l0.length) = true := decide_eq_true (by omega)
      clear c6
      obtain rfl := Option.some.inj H
      go_enter Try.func6, Try.ntmps6
      go_wp2_with (first | ((with_reducible refine gate_callee (f := 11) rfl ?_); refine goesL_ (some 9) rfl rfl Try.func11 (by kernel_rfl) rfl #[] rfl (by (try simp only [List.map_toArray, List.map_cons, List.map_nil]); first | done | rfl | (simp only [List.length_drop, List.length_take]; rfl)) ?_; (with_reducible refine (lineagelaw14_awake.calls k  true _ A4.out).mono ?_); rintro e w7 ⟨rfl, hb⟩; refine ⟨_, rfl, ?_⟩; have n0_ := Aside0.mk (below_step (by repeat (first | (with_reducible first | exact HB.out | apply below_alloc | apply pw_below_drewN | apply below_drew1) | exact HB.out)) hb); clear HB; have HB := n0_; clear n0_; (try clear hb); (try clear hb2); (try clear hk); (try clear hi)))
      go_ret
      exact ⟨by first | rfl | (simp [errW_none, errW_some] <;> rfl) | (simp [*, errW_none, errW_some] <;> rfl), by repeat (first | (with_reducible first | exact HB.out | apply below_alloc | apply pw_below_drewN | apply below_drew1) | exact HB.out)⟩
    · rw [if_neg c6] at H
      have c6b0 : decide (1100 < (l0.length : Int)) = false := decide_eq_false c6
      have c6b1 : decide (1100 < l0.length) = false := decide_eq_false (by omega)
      clear c6
      replace H := Option.bind_eq_some_iff.mp H
      obtain ⟨t368, A80, H⟩ := H
      replace H : ((page_Kind.f k l0).bind fun t371 => (if t371 < 0 then (if (t368.length : Int) = 0 then ((page_Check.f k l0).bind fun t372 => (some (t372 == 12))) else (some false)) else (if (t368.length : Int) = 1024 then ((page_Check.f k t368).bind fun t373 => (if t373 = 0 then ((page_Cells.f k t368).bind fun t374 => ((page_Cells.f k l0).bind fun t377 => ((lineageref14_List.f k t374 t377).bind fun t380 => (lineagelaw14_PageChecksum.j0 k a1 a2 t368 (!t380))))) else (lineagelaw14_PageChecksum.j0 k a1 a2 t368 true))) else (lineagelaw14_PageChecksum.j0 k a1 a2 t368 true)))) = some r := H
      have A8 := Aside0.mk A80
      clear A80
      replace H := Option.bind_eq_some_iff.mp H
      obtain ⟨t371, A90, H⟩ := H
      replace H : (if t371 < 0 then (if (t368.length : Int) = 0 then ((page_Check.f k l0).bind fun t372 => (some (t372 == 12))) else (some false)) else (if (t368.length : Int) = 1024 then ((page_Check.f k t368).bind fun t373 => (if t373 = 0 then ((page_Cells.f k t368).bind fun t374 => ((page_Cells.f k l0).bind fun t377 => ((lineageref14_List.f k t374 t377).bind fun t380 => (lineagelaw14_PageChecksum.j0 k a1 a2 t368 (!t380))))) else (lineagelaw14_PageChecksum.j0 k a1 a2 t368 true))) else (lineagelaw14_PageChecksum.j0 k a1 a2 t368 true))) = some r := H
      have A9 := Aside0.mk A90
      clear A90
      by_cases c10 : t371 < 0
      · rw [if_pos c10] at H
        have c10b0 : decide (t371 < 0) = true := decide_eq_true c10
        clear c10
        by_cases c11 : (t368.length : Int) = 0
        · rw [if_pos c11] at H
          have c11b0 : ((t368.length : Int) == 0) = true := beq_iff_eq.mpr c11
          have c11b1 : ((t368.length : Int) != 0) = false := bne_eq_false_iff_eq.mpr c11
          clear c11
          replace H := Option.bind_eq_some_iff.mp H
          obtain ⟨t372, A120, H⟩ := H
          replace H : (some (t372 == 12)) = some r := H
          have A12 := Aside0.mk A120
          clear A120
          obtain rfl := Option.some.inj H
          go_enter Try.func6, Try.ntmps6
          go_wp2_with (first | ((with_reducible refine gate_callee (f := 11) rfl ?_); refine goesL_ (some 9) rfl rfl Try.func11 (by kernel_rfl) rfl #[] rfl (by (try simp only [List.map_toArray, List.map_cons, List.map_nil]); first | done | rfl | (simp only [List.length_drop, List.length_take]; rfl)) ?_; (with_reducible refine (lineagelaw14_awake.calls k  true _ A4.out).mono ?_); rintro e w13 ⟨rfl, hb⟩; refine ⟨_, rfl, ?_⟩; have n0_ := Aside0.mk (below_step (by repeat (first | (with_reducible first | exact HB.out | apply below_alloc | apply pw_below_drewN | apply below_drew1) | exact HB.out)) hb); clear HB; have HB := n0_; clear n0_; (try clear hb); (try clear hb2); (try clear hk); (try clear hi)) | ((with_reducible refine gate_callee (f := 28) rfl ?_); refine goesL_ (some 15) rfl rfl Try.func28 (by kernel_rfl) rfl #[.slice A0 l0.length c0] rfl (by (try simp only [List.map_toArray, List.map_cons, List.map_nil]); first | done | rfl | (simp only [List.length_drop, List.length_take]; rfl)) ?_; (with_reducible refine (page_Seal.calls k _ _ l0 t368 _ ?side1 ?side2 A8.out).mono ?_); (case side1 => repeat (first | exact (Kd.C_below HR0.out HB.out) | (with_reducible refine Kd.C_alloc ?_ _) | (with_reducible refine Kd.C_drewN ?_ _) | (with_reducible refine Kd.C_drew ?_))); (case side2 => exact HC0.out); rintro e w14 ⟨v369, rfl, ho0, hb⟩; refine ⟨_, rfl, ?_⟩; have n0_ := Aside0.mk (Kd.R_lower ho0 (below_size (by repeat (first | (with_reducible first | exact HB.out | apply below_alloc | apply pw_below_drewN | apply below_drew1) | exact HB.out)))); have n1_ := Aside0.mk (below_step (by repeat (first | (with_reducible first | exact HB.out | apply below_alloc | apply pw_below_drewN | apply below_drew1) | exact HB.out)) hb); clear HB; have HO370 := n0_; have HB := n1_; clear n0_ n1_; (try clear hb); (try clear hb2); (try clear hk); (try clear hi); (try clear ho0)) | ((with_reducible refine gate_callee (f := 17) rfl ?_); refine goesL_ (some 17) rfl rfl Try.func17 (by kernel_rfl) rfl #[.slice A0 l0.length c0] rfl (by (try simp only [List.map_toArray, List.map_cons, List.map_nil]); first | done | rfl | (simp only [List.length_drop, List.length_take]; rfl)) ?_; (with_reducible refine (page_Kind.calls k _ _ l0 t371 _ ?side1 ?side2 A9.out).mono ?_); (case side1 => repeat (first | exact (Kd.C_below HR0.out HB.out) | (with_reducible refine Kd.C_alloc ?_ _) | (with_reducible refine Kd.C_drewN ?_ _) | (with_reducible refine Kd.C_drew ?_))); (case side2 => exact HC0.out); rintro e w' ⟨rfl, ⟨nd, rfl⟩⟩; refine ⟨_, rfl, ?_⟩; obtain ⟨Ao15, co15, eo15⟩ := Kd.R_slice HO370.out; subst eo15) | (go_at_call 30; (with_reducible refine (page_Check.calls k _ _ l0 t372 _ ?side1 ?side2 A12.out).mono ?_); (case side1 => repeat (first | exact (Kd.C_below HR0.out (by repeat (first | (with_reducible first | exact HB.out | apply below_alloc | apply pw_below_drewN | apply below_drew1) | exact HB.out))) | (with_reducible refine Kd.C_alloc ?_ _) | (with_reducible refine Kd.C_drewN ?_ _) | (with_reducible refine Kd.C_drew ?_))); (case side2 => exact HC0.out); rintro e w16 ⟨rfl, hb⟩; have n0_ := Aside0.mk (Kd.R_below (by (with_reducible repeat (first | apply Kd.R_alloc | apply Kd.R_drewN | apply Kd.R_drew)); exact HO370.out) hb); have n1_ := Aside0.mk (below_step (by repeat (first | (with_reducible first | exact HB.out | apply below_alloc | apply pw_below_drewN | apply below_drew1) | exact HB.out)) hb); clear HO370; clear HB; have HO370 := n0_; have HB := n1_; clear n0_ n1_; (try clear hb); (try clear hb2); (try clear hk); (try clear hi)))
          go_ret
          exact ⟨by first | rfl | (simp [errW_none, errW_some] <;> rfl) | (simp [*, errW_none, errW_some] <;> rfl), by repeat (first | (with_reducible first | exact HB.out | apply below_alloc | apply pw_below_drewN | apply below_drew1) | exact HB.out)⟩
        · rw [if_neg c11] at H
          have c11b0 : ((t368.length : Int) == 0) = false := beq_eq_false_iff_ne.mpr c11
          have c11b1 : ((t368.length : Int) != 0) = true := bne_iff_ne.mpr c11
          have c11b2 : ¬ (t368 = []) := fun h_ => c11 (by rw [h_]; rfl)
          obtain rfl := Option.some.inj H
          go_enter Try.func6, Try.ntmps6
          go_wp2_with (first | ((with_reducible refine gate_callee (f := 11) rfl ?_); refine goesL_ (some 9) rfl rfl Try.func11 (by kernel_rfl) rfl #[] rfl (by (try simp only [List.map_toArray, List.map_cons, List.map_nil]); first | done | rfl | (simp only [List.length_drop, List.length_take]; rfl)) ?_; (with_reducible refine (lineagelaw14_awake.calls k  true _ A4.out).mono ?_); rintro e w17 ⟨rfl, hb⟩; refine ⟨_, rfl, ?_⟩; have n0_ := Aside0.mk (below_step (by repeat (first | (with_reducible first | exact HB.out | apply below_alloc | apply pw_below_drewN | apply below_drew1) | exact HB.out)) hb); clear HB; have HB := n0_; clear n0_; (try clear hb); (try clear hb2); (try clear hk); (try clear hi)) | ((with_reducible refine gate_callee (f := 28) rfl ?_); refine goesL_ (some 15) rfl rfl Try.func28 (by kernel_rfl) rfl #[.slice A0 l0.length c0] rfl (by (try simp only [List.map_toArray, List.map_cons, List.map_nil]); first | done | rfl | (simp only [List.length_drop, List.length_take]; rfl)) ?_; (with_reducible refine (page_Seal.calls k _ _ l0 t368 _ ?side1 ?side2 A8.out).mono ?_); (case side1 => repeat (first | exact (Kd.C_below HR0.out HB.out) | (with_reducible refine Kd.C_alloc ?_ _) | (with_reducible refine Kd.C_drewN ?_ _) | (with_reducible refine Kd.C_drew ?_))); (case side2 => exact HC0.out); rintro e w18 ⟨v369, rfl, ho0, hb⟩; refine ⟨_, rfl, ?_⟩; have n0_ := Aside0.mk (Kd.R_lower ho0 (below_size (by repeat (first | (with_reducible first | exact HB.out | apply below_alloc | apply pw_below_drewN | apply below_drew1) | exact HB.out)))); have n1_ := Aside0.mk (below_step (by repeat (first | (with_reducible first | exact HB.out | apply below_alloc | apply pw_below_drewN | apply below_drew1) | exact HB.out)) hb); clear HB; have HO370 := n0_; have HB := n1_; clear n0_ n1_; (try clear hb); (try clear hb2); (try clear hk); (try clear hi); (try clear ho0)) | ((with_reducible refine gate_callee (f := 17) rfl ?_); refine goesL_ (some 17) rfl rfl Try.func17 (by kernel_rfl) rfl #[.slice A0 l0.length c0] rfl (by (try simp only [List.map_toArray, List.map_cons, List.map_nil]); first | done | rfl | (simp only [List.length_drop, List.length_take]; rfl)) ?_; (with_reducible refine (page_Kind.calls k _ _ l0 t371 _ ?side1 ?side2 A9.out).mono ?_); (case side1 => repeat (first | exact (Kd.C_below HR0.out HB.out) | (with_reducible refine Kd.C_alloc ?_ _) | (with_reducible refine Kd.C_drewN ?_ _) | (with_reducible refine Kd.C_drew ?_))); (case side2 => exact HC0.out); rintro e w' ⟨rfl, ⟨nd, rfl⟩⟩; refine ⟨_, rfl, ?_⟩; obtain ⟨Ao19, co19, eo19⟩ := Kd.R_slice HO370.out; subst eo19))
          go_ret
          exact ⟨by first | rfl | (simp [errW_none, errW_some] <;> rfl) | (simp [*, errW_none, errW_some] <;> rfl), by repeat (first | (with_reducible first | exact HB.out | apply below_alloc | apply pw_below_drewN | apply below_drew1) | exact HB.out)⟩
      · rw [if_neg c10] at H
        have c10b0 : decide (t371 < 0) = false := decide_eq_false c10
        clear c10
        have HC20 := Aside0.mk H
        clear H
        go_enter Try.func6, Try.ntmps6
        go_upto_region 8 with (first | ((with_reducible refine gate_callee (f := 11) rfl ?_); refine goesL_ (some 9) rfl rfl Try.func11 (by kernel_rfl) rfl #[] rfl (by (try simp only [List.map_toArray, List.map_cons, List.map_nil]); first | done | rfl | (simp only [List.length_drop, List.length_take]; rfl)) ?_; (with_reducible refine (lineagelaw14_awake.calls k  true _ A4.out).mono ?_); rintro e w21 ⟨rfl, hb⟩; refine ⟨_, rfl, ?_⟩; have n0_ := Aside0.mk (below_step (by repeat (first | (with_reducible first | exact HB.out | apply below_alloc | apply pw_below_drewN | apply below_drew1) | exact HB.out)) hb); clear HB; have HB := n0_; clear n0_; (try clear hb); (try clear hb2); (try clear hk); (try clear hi)) | ((with_reducible refine gate_callee (f := 28) rfl ?_); refine goesL_ (some 15) rfl rfl Try.func28 (by kernel_rfl) rfl #[.slice A0 l0.length c0] rfl (by (try simp only [List.map_toArray, List.map_cons, List.map_nil]); first | done | rfl | (simp only [List.length_drop, List.length_take]; rfl)) ?_; (with_reducible refine (page_Seal.calls k _ _ l0 t368 _ ?side1 ?side2 A8.out).mono ?_); (case side1 => repeat (first | exact (Kd.C_below HR0.out HB.out) | (with_reducible refine Kd.C_alloc ?_ _) | (with_reducible refine Kd.C_drewN ?_ _) | (with_reducible refine Kd.C_drew ?_))); (case side2 => exact HC0.out); rintro e w22 ⟨v369, rfl, ho0, hb⟩; refine ⟨_, rfl, ?_⟩; have n0_ := Aside0.mk (Kd.R_lower ho0 (below_size (by repeat (first | (with_reducible first | exact HB.out | apply below_alloc | apply pw_below_drewN | apply below_drew1) | exact HB.out)))); have n1_ := Aside0.mk (below_step (by repeat (first | (with_reducible first | exact HB.out | apply below_alloc | apply pw_below_drewN | apply below_drew1) | exact HB.out)) hb); clear HB; have HO370 := n0_; have HB := n1_; clear n0_ n1_; (try clear hb); (try clear hb2); (try clear hk); (try clear hi); (try clear ho0)) | ((with_reducible refine gate_callee (f := 17) rfl ?_); refine goesL_ (some 17) rfl rfl Try.func17 (by kernel_rfl) rfl #[.slice A0 l0.length c0] rfl (by (try simp only [List.map_toArray, List.map_cons, List.map_nil]); first | done | rfl | (simp only [List.length_drop, List.length_take]; rfl)) ?_; (with_reducible refine (page_Kind.calls k _ _ l0 t371 _ ?side1 ?side2 A9.out).mono ?_); (case side1 => repeat (first | exact (Kd.C_below HR0.out HB.out) | (with_reducible refine Kd.C_alloc ?_ _) | (with_reducible refine Kd.C_drewN ?_ _) | (with_reducible refine Kd.C_drew ?_))); (case side2 => exact HC0.out); rintro e w' ⟨rfl, ⟨nd, rfl⟩⟩; refine ⟨_, rfl, ?_⟩))
        (try simp only [Act.put, List.setIfInBounds_toArray, List.set_cons_zero, List.set_cons_succ])
        go_cut [42] (fun v42 wc => ∃ (kq : Nat) (x42_19 : Bool), v42 = .bool x42_19 ∧ Aside0 (lineagelaw14_PageChecksum.j0 kq a1 a2 t368 x42_19 = some r) ∧ Aside0 (kq ≤ k) ∧ Aside0 (Kd.R (Kd.int .u8) 5 wc w.heap.size (fun _ => True) v369 t368) ∧ Aside0 (Below w.heap.size w wc))
        case first =>
          have H := HC20.out
          clear HC20
          by_cases c23 : (t368.length : Int) = 1024
          · rw [if_pos c23] at H
            have c23b0 : ((t368.length : Int) == 1024) = true := beq_iff_eq.mpr c23
            have c23b1 : ((t368.length : Int) != 1024) = false := bne_eq_false_iff_eq.mpr c23
            clear c23
            (first | rw [c23b0] | (simp only [i64_w, i32_w]; rw [c23b0]) | skip)
            replace H := Option.bind_eq_some_iff.mp H
            obtain ⟨t373, A240, H⟩ := H
            replace H : (if t373 = 0 then ((page_Cells.f k t368).bind fun t374 => ((page_Cells.f k l0).bind fun t377 => ((lineageref14_List.f k t374 t377).bind fun t380 => (lineagelaw14_PageChecksum.j0 k a1 a2 t368 (!t380))))) else (lineagelaw14_PageChecksum.j0 k a1 a2 t368 true)) = some r := H
            have A24 := Aside0.mk A240
            clear A240
            by_cases c25 : t373 = 0
            · rw [if_pos c25] at H
              have c25b0 : (t373 == 0) = true := beq_iff_eq.mpr c25
              have c25b1 : (t373 != 0) = false := bne_eq_false_iff_eq.mpr c25
              clear c25
              replace H := Option.bind_eq_some_iff.mp H
              obtain ⟨t374, A260, H⟩ := H
              replace H : ((page_Cells.f k l0).bind fun t377 => ((lineageref14_List.f k t374 t377).bind fun t380 => (lineagelaw14_PageChecksum.j0 k a1 a2 t368 (!t380)))) = some r := H
              have A26 := Aside0.mk A260
              clear A260
              replace H := Option.bind_eq_some_iff.mp H
              obtain ⟨t377, A270, H⟩ := H
              replace H : ((lineageref14_List.f k t374 t377).bind fun t380 => (lineagelaw14_PageChecksum.j0 k a1 a2 t368 (!t380))) = some r := H
              have A27 := Aside0.mk A270
              clear A270
              replace H := Option.bind_eq_some_iff.mp H
              obtain ⟨t380, A280, H⟩ := H
              replace H : (lineagelaw14_PageChecksum.j0 k a1 a2 t368 (!t380)) = some r := H
              have A28 := Aside0.mk A280
              clear A280
              have H' := Aside0.mk H
              clear H
              obtain ⟨Ao29, co29, eo29⟩ := Kd.R_slice HO370.out
              subst eo29
              go_wp2_with (first | (go_at_call 30; (with_reducible refine (page_Check.calls k _ _ t368 t373 _ ?side1 ?side2 A24.out).mono ?_); (case side1 => repeat (first | exact (Kd.R_reads' HO370.out).2.2 | (with_reducible refine Kd.C_alloc ?_ _) | (with_reducible refine Kd.C_drewN ?_ _) | (with_reducible refine Kd.C_drew ?_))); (case side2 => exact (Kd.R_reads' HO370.out).2.1); rintro e w30 ⟨rfl, hb⟩; have n0_ := Aside0.mk (Kd.R_below (by (with_reducible repeat (first | apply Kd.R_alloc | apply Kd.R_drewN | apply Kd.R_drew)); exact HO370.out) hb); have n1_ := Aside0.mk (below_step (by repeat (first | (with_reducible first | exact HB.out | apply below_alloc | apply pw_below_drewN | apply below_drew1) | exact HB.out)) hb); clear HO370; clear HB; have HO370 := n0_; have HB := n1_; clear n0_ n1_; (try clear hb); (try clear hb2); (try clear hk); (try clear hi)) | (go_at_call 18; (with_reducible refine (page_Cells.calls k _ _ t368 t374 _ ?side1 ?side2 A26.out).mono ?_); (case side1 => repeat (first | exact (Kd.R_reads' HO370.out).2.2 | (with_reducible refine Kd.C_alloc ?_ _) | (with_reducible refine Kd.C_drewN ?_ _) | (with_reducible refine Kd.C_drew ?_))); (case side2 => exact (Kd.R_reads' HO370.out).2.1); rintro e w31 ⟨v375, rfl, ho0, hb⟩; have n0_ := Aside0.mk (Kd.R_below (by (with_reducible repeat (first | apply Kd.R_alloc | apply Kd.R_drewN | apply Kd.R_drew)); exact HO370.out) hb); have n1_ := Aside0.mk (Kd.S_lower (Kd.S_new' ho0 (Kd.R_lt (by (with_reducible repeat (first | apply Kd.R_alloc | apply Kd.R_drewN | apply Kd.R_drew)); exact HO370.out))) (below_size (by repeat (first | (with_reducible first | exact HB.out | apply below_alloc | apply pw_below_drewN | apply below_drew1) | exact HB.out)))); have n2_ := Aside0.mk (below_step (by repeat (first | (with_reducible first | exact HB.out | apply below_alloc | apply pw_below_drewN | apply below_drew1) | exact HB.out)) hb); clear HO370; clear HB; have HO370 := n0_; have HO376 := n1_; have HB := n2_; clear n0_ n1_ n2_; (try clear hb); (try clear hb2); (try clear hk); (try clear hi); (try clear ho0)) | (go_at_call 18; (with_reducible refine (page_Cells.calls k _ _ l0 t377 _ ?side1 ?side2 A27.out).mono ?_); (case side1 => repeat (first | exact (Kd.C_below HR0.out HB.out) | (with_reducible refine Kd.C_alloc ?_ _) | (with_reducible refine Kd.C_drewN ?_ _) | (with_reducible refine Kd.C_drew ?_))); (case side2 => exact HC0.out); rintro e w32 ⟨v378, rfl, ho0, hb⟩; have n0_ := Aside0.mk (Kd.R_below (by (with_reducible repeat (first | apply Kd.R_alloc | apply Kd.R_drewN | apply Kd.R_drew)); exact HO370.out) hb); have n1_ := Aside0.mk (Kd.S_elder' (by (with_reducible repeat (first | apply Kd.S_alloc | apply Kd.S_drewN | apply Kd.S_drew)); exact HO376.out) (Kd.S_base ho0) hb); have n2_ := Aside0.mk (Kd.S_lower (Kd.S_new' (Kd.S_new' ho0 (Kd.R_lt (by (with_reducible repeat (first | apply Kd.R_alloc | apply Kd.R_drewN | apply Kd.R_drew)); exact HO370.out))) (Kd.S_lt (by (with_reducible repeat (first | apply Kd.S_alloc | apply Kd.S_drewN | apply Kd.S_drew)); exact HO376.out))) (below_size (by repeat (first | (with_reducible first | exact HB.out | apply below_alloc | apply pw_below_drewN | apply below_drew1) | exact HB.out)))); have n3_ := Aside0.mk (below_step (by repeat (first | (with_reducible first | exact HB.out | apply below_alloc | apply pw_below_drewN | apply below_drew1) | exact HB.out)) hb); clear HO370; clear HO376; clear HB; have HO370 := n0_; have HO376 := n1_; have HO379 := n2_; have HB := n3_; clear n0_ n1_ n2_ n3_; (try clear hb); (try clear hb2); (try clear hk); (try clear hi); (try clear ho0); obtain ⟨Ao33, co33, eo33⟩ := Kd.S_slice HO376.out; subst eo33; obtain ⟨Ao34, co34, eo34⟩ := Kd.S_slice HO379.out; subst eo34) | (go_at_call 26; (with_reducible refine (lineageref14_List.calls k _ _ t374 _ _ t377 t380 _ ?side1 ?side2 ?side3 ?side4 A28.out).mono ?_); (case side1 => repeat (first | exact (Kd.S_reads' HO376.out).2.2 | (with_reducible refine Kd.C_alloc ?_ _) | (with_reducible refine Kd.C_drewN ?_ _) | (with_reducible refine Kd.C_drew ?_))); (case side2 => exact (Kd.S_reads' HO376.out).2.1); (case side3 => repeat (first | exact (Kd.S_reads' HO379.out).2.2 | (with_reducible refine Kd.C_alloc ?_ _) | (with_reducible refine Kd.C_drewN ?_ _) | (with_reducible refine Kd.C_drew ?_))); (case side4 => exact (Kd.S_reads' HO379.out).2.1); rintro e w' ⟨rfl, ⟨nd, rfl⟩⟩))
              go_meet
              case rel => exact ⟨_, (!t380), (by first | rfl | (simp; done) | (simp [*]; done)), H', ⟨by first | omega | exact Nat.le_refl _⟩, ⟨by (with_reducible repeat (first | apply Kd.R_alloc | apply Kd.R_drewN | apply Kd.R_drew)); exact HO370.out⟩, ⟨by repeat (first | (with_reducible first | exact HB.out | apply below_alloc | apply pw_below_drewN | apply below_drew1) | exact HB.out)⟩⟩
            · rw [if_neg c25] at H
              have c25b0 : (t373 == 0) = false := beq_eq_false_iff_ne.mpr c25
              have c25b1 : (t373 != 0) = true := bne_iff_ne.mpr c25
              have H' := Aside0.mk H
              clear H
              obtain ⟨Ao35, co35, eo35⟩ := Kd.R_slice HO370.out
              subst eo35
              go_wp2_with (first | (go_at_call 30; (with_reducible refine (page_Check.calls k _ _ t368 t373 _ ?side1 ?side2 A24.out).mono ?_); (case side1 => repeat (first | exact (Kd.R_reads' HO370.out).2.2 | (with_reducible refine Kd.C_alloc ?_ _) | (with_reducible refine Kd.C_drewN ?_ _) | (with_reducible refine Kd.C_drew ?_))); (case side2 => exact (Kd.R_reads' HO370.out).2.1); rintro e w36 ⟨rfl, hb⟩; have n0_ := Aside0.mk (Kd.R_below (by (with_reducible repeat (first | apply Kd.R_alloc | apply Kd.R_drewN | apply Kd.R_drew)); exact HO370.out) hb); have n1_ := Aside0.mk (below_step (by repeat (first | (with_reducible first | exact HB.out | apply below_alloc | apply pw_below_drewN | apply below_drew1) | exact HB.out)) hb); clear HO370; clear HB; have HO370 := n0_; have HB := n1_; clear n0_ n1_; (try clear hb); (try clear hb2); (try clear hk); (try clear hi)))
              go_meet
              case rel => exact ⟨_, (true), (by first | rfl | (simp; done) | (simp [*]; done)), H', ⟨by first | omega | exact Nat.le_refl _⟩, ⟨by (with_reducible repeat (first | apply Kd.R_alloc | apply Kd.R_drewN | apply Kd.R_drew)); exact HO370.out⟩, ⟨by repeat (first | (with_reducible first | exact HB.out | apply below_alloc | apply pw_below_drewN | apply below_drew1) | exact HB.out)⟩⟩
          · rw [if_neg c23] at H
            have c23b0 : ((t368.length : Int) == 1024) = false := beq_eq_false_iff_ne.mpr c23
            have c23b1 : ((t368.length : Int) != 1024) = true := bne_iff_ne.mpr c23
            (first | rw [c23b0] | (simp only [i64_w, i32_w]; rw [c23b0]) | skip)
            have H' := Aside0.mk H
            clear H
            obtain ⟨Ao37, co37, eo37⟩ := Kd.R_slice HO370.out
            subst eo37
            go_wp2
            go_meet
            case rel => exact ⟨_, (true), (by first | rfl | (simp; done) | (simp [*]; done)), H', ⟨by first | omega | exact Nat.le_refl _⟩, ⟨by (with_reducible repeat (first | apply Kd.R_alloc | apply Kd.R_drewN | apply Kd.R_drew)); exact HO370.out⟩, ⟨by repeat (first | (with_reducible first | exact HB.out | apply below_alloc | apply pw_below_drewN | apply below_drew1) | exact HB.out)⟩⟩
        case rest =>
          clear HC20
          try clear c1
          try clear c2
          try clear p2
          try clear c5
          try clear c6
          try clear c6b0
          try clear c6b1
          try clear c10
          try clear c10b0
          try clear c11
          try clear c11b0
          try clear c11b1
          try clear c11b2
          try clear c17
          try clear c23
          try clear c23b0
          try clear c23b1
          try clear c25
          try clear c25b0
          try clear c25b1
          try clear c28
          obtain ⟨kq, x42_19, rfl, HA, HJ19, HO_7, HB⟩ := hcut
          cases kq with
          | zero => exact absurd HA.out (by simp [lineagelaw14_PageChecksum.j0])
          | succ kj19 =>
            have H := HA.out
            clear HA
            simp only [lineagelaw14_PageChecksum.j0] at H
            by_cases c38 : x42_19 = true
            · subst c38
              have H1 : (some false) = some r := by rw [if_pos rfl] at H; exact H
              clear H
              have H := H1
              clear H1
              obtain rfl := Option.some.inj H
              go_wp2
              go_ret
              exact ⟨by first | rfl | (simp [errW_none, errW_some] <;> rfl) | (simp [*, errW_none, errW_some] <;> rfl), by repeat (first | (with_reducible first | exact HB.out | apply below_alloc | apply pw_below_drewN | apply below_drew1) | exact HB.out)⟩
            · replace c38 := Bool.eq_false_iff.mpr c38
              subst c38
              have H1 : (if 0 ≤ (Int.tmod (wrap64 (a1)) 1024) then (if (Int.tmod (wrap64 (a1)) 1024) < (t368.length : Int) then (if (rd t368 (Int.tmod (wrap64 (a1)) 1024)) = a2 then (some true) else ((page_Check.f kj19 (t368.set ((Int.tmod (wrap64 (a1)) 1024) : Int).toNat a2)).bind fun t383 => (some (t383 == 12)))) else (none)) else (none)) = some r := by rw [if_neg (show ¬ (false = true) by decide)] at H; exact H
              clear H
              have H := H1
              clear H1
              obtain ⟨ji39, hji39⟩ : ∃ j_ : Int, (Int.tmod (wrap64 (a1)) 1024) = j_ := ⟨_, rfl⟩
              replace H : (if 0 ≤ (ji39) then (if (ji39) < (t368.length : Int) then (if (rd t368 (ji39)) = a2 then (some true) else ((page_Check.f kj19 (t368.set ((ji39) : Int).toNat a2)).bind fun t383 => (some (t383 == 12)))) else (none)) else (none)) = some r := by first | (rw [hji39] at H; exact H) | (simp only [hji39] at H ⊢; exact H)
              by_cases c40 : 0 ≤ (ji39)
              · rw [if_pos c40] at H
                have c40b0 : decide (0 ≤ (ji39)) = true := decide_eq_true c40
                clear c40
                by_cases c41 : (ji39) < (t368.length : Int)
                · rw [if_pos c41] at H
                  have c41b0 : decide ((ji39) < (t368.length : Int)) = true := decide_eq_true c41
                  clear c41
                  by_cases c42 : (rd t368 (ji39)) = a2
                  · rw [if_pos c42] at H
                    have c42b0 : ((rd t368 (ji39)) == a2) = true := beq_iff_eq.mpr c42
                    have c42b1 : ((rd t368 (ji39)) != a2) = false := bne_eq_false_iff_eq.mpr c42
                    clear c42
                    obtain rfl := Option.some.inj H
                    obtain ⟨Ao43, co43, eo43⟩ := Kd.R_slice HO_7.out
                    subst eo43
                    have p381 : 0 ≤ ((ji39) : Int) := of_decide_eq_true (by first | (with_reducible assumption) | assumption)
                    have q381 : (ji39) < (t368.length : Int) := of_decide_eq_true (by first | (with_reducible assumption) | assumption)
                    obtain ⟨ad381, e381, hx381_0⟩ := Kd.at_int (Kd.R_reads' HO_7.out).2.2 (ji39) p381 q381
                    cases e381
                    replace p381 := eq_true p381
                    replace q381 := eq_true q381
                    go_wp2
                    go_ret
                    exact ⟨by first | rfl | (simp [errW_none, errW_some] <;> rfl) | (simp only [← hji39]; first | rfl | (simp [errW_none, errW_some] <;> rfl)) | (simp [*, errW_none, errW_some] <;> rfl), by repeat (first | (with_reducible first | exact HB.out | apply below_alloc | apply pw_below_drewN | apply below_drew1) | exact HB.out)⟩
                  · rw [if_neg c42] at H
                    have c42b0 : ((rd t368 (ji39)) == a2) = false := beq_eq_false_iff_ne.mpr c42
                    have c42b1 : ((rd t368 (ji39)) != a2) = true := bne_iff_ne.mpr c42
                    obtain ⟨y382, hy382⟩ : ∃ y_ : List Int, y_ = (t368.set ((ji39) : Int).toNat a2) := ⟨_, rfl⟩
                    replace H : ((page_Check.f kj19 y382).bind fun t383 => (some (t383 == 12))) = some r := by first | (rw [hy382]; with_reducible exact H) | (have H2_ := (Option.bind_some _ _).symm.trans H; rw [hy382]; with_reducible exact H2_) | (have H2_ := (Option.bind_some _ _).symm.trans H; with_reducible exact H2_) | with_reducible exact H | (rw [hy382]; exact H) | exact H
                    have Ny382 := Aside0.mk hy382
                    clear hy382
                    replace H := Option.bind_eq_some_iff.mp H
                    obtain ⟨t383, A450, H⟩ := H
                    replace H : (some (t383 == 12)) = some r := H
                    have A45 := Aside0.mk A450
                    clear A450
                    obtain rfl := Option.some.inj H
                    obtain ⟨Ao46, co46, eo46⟩ := Kd.R_slice HO_7.out
                    subst eo46
                    have p381 : 0 ≤ ((ji39) : Int) := of_decide_eq_true (by first | (with_reducible assumption) | assumption)
                    have q381 : (ji39) < (t368.length : Int) := of_decide_eq_true (by first | (with_reducible assumption) | assumption)
                    obtain ⟨ad381, e381, hx381_0⟩ := Kd.at_int (Kd.R_reads' HO_7.out).2.2 (ji39) p381 q381
                    cases e381
                    replace p381 := eq_true p381
                    replace q381 := eq_true q381
                    have p44 : 0 ≤ ((ji39) : Int) := of_decide_eq_true (by first | (with_reducible assumption) | assumption)
                    have q44 : ((ji39) : Int) < ((t368.length : Int) : Int) := of_decide_eq_true (by first | (with_reducible assumption) | assumption)
                    obtain ⟨go44, co44, eo44, gb44, gl44, cl44, HG44⟩ := Kd.R_form HO_7.out (by omega)
                    (first | cases eo44 | (injection eo44 with ea_ en_ ec_; (first | subst ea_ | (injection ea_ with ea_; subst ea_)); subst ec_; clear en_))
                    have GB44 := Aside0.mk gb44
                    have GG44 := Aside0.mk HG44
                    clear gb44 gl44 HG44
                    (first | simp only [add_plain] at hx381_0 | skip)
                    obtain ⟨hx44_0, hf44_0⟩ := Kd.R_celln 0 HO_7.out ((ji39) : Int) p44 q44
                    replace p44 := eq_true p44
                    replace q44 := eq_true q44
                    have HP47 := Kd.R_putg HO_7.out ((ji39) : Int) a2
                    go_wp2_with (first | ((with_reducible refine gate_store (t := 5) (p := 55) rfl ?_); refine store_event (t := 5) (p := 55) (v := ?vo_w48) (w1 := (wc.setCell ⟨go44, ((ji39) : Int).toNat, none⟩ (.int .u8 a2))) ?hg ?ho ?hn ?hr ?_; (case ho => rfl); (case hg => rfl); (case hn => rfl); (case hr => first | (go_simp; done) | (go_simp; rfl)); intro w48 hw; have hg : wc.grownBy w48 (some go44) := (by rw [hw]; exact HP47.2); have hp_ : Kd.R (Kd.int .u8) 5 w48 w.heap.size (fun _ => True) (.slice (some ⟨go44, 0, none⟩) t368.length co46) y382 := (by rw [hw, Ny382.out]; exact HP47.1); clear HP47; have n0_ := Aside0.mk (hp_); have n1_ := Aside0.mk ((by rw [hw]; exact below_set (HB.out) GB44.out : Below w.heap.size w w48)); clear HO_7; clear HB; have HO_7 := n0_; have HB := n1_; clear n0_ n1_; clear hg hw hp_) | ((with_reducible refine gate_callee (f := 30) rfl ?_); refine goesL_ (some 57) rfl rfl Try.func30 (by kernel_rfl) rfl #[.slice (some ⟨go44, 0, none⟩) y382.length co46] rfl (by (try simp only [List.map_toArray, List.map_cons, List.map_nil]); first | done | (rw [show y382.length = t368.length from (Kd.R_reads' HO_7.out).1.symm] <;> rfl) | rfl | (simp only [List.length_drop, List.length_take]; rfl)) ?_; (with_reducible refine (page_Check.calls kj19 _ _ y382 t383 _ ?side1 ?side2 A45.out).mono ?_); (case side1 => repeat (first | exact (Kd.R_reads' HO_7.out).2.2 | (with_reducible refine Kd.C_alloc ?_ _) | (with_reducible refine Kd.C_drewN ?_ _) | (with_reducible refine Kd.C_drew ?_))); (case side2 => rw [show y382.length = t368.length from (Kd.R_reads' HO_7.out).1.symm]; exact (Kd.R_reads' HO_7.out).2.1); rintro e w49 ⟨rfl, hb⟩; refine ⟨_, rfl, ?_⟩; have n0_ := Aside0.mk (Kd.R_below (by (with_reducible repeat (first | apply Kd.R_alloc | apply Kd.R_drewN | apply Kd.R_drew)); exact HO_7.out) hb); have n1_ := Aside0.mk (below_step (by repeat (first | (with_reducible first | exact HB.out | apply below_alloc | apply pw_below_drewN | apply below_drew1) | exact HB.out)) hb); clear HO_7; clear HB; have HO_7 := n0_; have HB := n1_; clear n0_ n1_; (try clear hb); (try clear hb2); (try clear hk); (try clear hi)))
                    go_ret
                    exact ⟨by first | rfl | (simp [errW_none, errW_some] <;> rfl) | (simp only [← hji39]; first | rfl | (simp [errW_none, errW_some] <;> rfl)) | (simp [*, errW_none, errW_some] <;> rfl), by repeat (first | (with_reducible first | exact HB.out | apply below_alloc | apply pw_below_drewN | apply below_drew1) | exact HB.out)⟩
                · rw [if_neg c41] at H
                  exact absurd H (by simp)
              · rw [if_neg c40] at H
                exact absurd H (by simp)
  · replace c5 := Bool.eq_false_iff.mpr c5
    subst c5
    have H1 : (some false) = some r := by rw [if_neg (show ¬ (false = true) by decide)] at H; exact H
    clear H
    have H := H1
    clear H1
    obtain rfl := Option.some.inj H
    go_enter Try.func6, Try.ntmps6
    go_wp2_with (first | ((with_reducible refine gate_callee (f := 11) rfl ?_); refine goesL_ (some 9) rfl rfl Try.func11 (by kernel_rfl) rfl #[] rfl (by (try simp only [List.map_toArray, List.map_cons, List.map_nil]); first | done | rfl | (simp only [List.length_drop, List.length_take]; rfl)) ?_; (with_reducible refine (lineagelaw14_awake.calls k  false _ A4.out).mono ?_); rintro e w50 ⟨rfl, hb⟩; refine ⟨_, rfl, ?_⟩; have n0_ := Aside0.mk (below_step (by repeat (first | (with_reducible first | exact HB.out | apply below_alloc | apply pw_below_drewN | apply below_drew1) | exact HB.out)) hb); clear HB; have HB := n0_; clear n0_; (try clear hb); (try clear hb2); (try clear hk); (try clear hi)))
    go_ret
    exact ⟨by first | rfl | (simp [errW_none, errW_some] <;> rfl) | (simp [*, errW_none, errW_some] <;> rfl), by repeat (first | (with_reducible first | exact HB.out | apply below_alloc | apply pw_below_drewN | apply below_drew1) | exact HB.out)⟩

/-- THE ONE PURE STATEMENT of lineagelaw14_PageChecksum: yours. -/
def lineagelaw14_PageChecksum.Pure : Prop := ∀ (l0 : List Int) (a1 : Int) (a2 : Int), l0.length ≤ maxLen → l0.length * 1 ≤ 140737488351232 → (∀ x ∈ l0, (Lit.int .u8 x).wf = true) → (Lit.int .u16 a1).wf = true → (Lit.int .u8 a2).wf = true → ∃ k, lineagelaw14_PageChecksum.f k l0 a1 a2 = some true
theorem lineagelaw14_PageChecksum.walk (P : lineagelaw14_PageChecksum.Pure) (a0 : Option Addr) (len0 cap0 : Nat) (z0 : List Int) (a1 : Int) (a2 : Int) (w : World) (w0 : (a0 = none ∧ len0 = 0 ∧ cap0 = 0 ∧ z0 = []) ∨ ∃ x, a0 = some x ∧ len0 ≤ cap0 ∧ cap0 ≤ maxLen ∧ z0.length = cap0 ∧ (∀ i, i < z0.length → w.cell? (x.add i) = some (.int .u8 (z0.getD i 0))) ∧ ∀ n ∈ z0, (Lit.int .u8 n).wf = true) (y0 : len0 * 1 ≤ 140737488351232) (w1 : (Lit.int .u16 a1).wf = true) (w2 : (Lit.int .u8 a2).wf = true) :
    Calls Try.prog 6 #[.slice a0 len0 cap0, .int .u16 a1, .int .u8 a2] w fun e w' => e = .returned (.bool true) ∧ Below w.heap.size w w' := by
  obtain ⟨l0, rfl, hr0, hm0, hw0, hc0⟩ := ReadsInt.ofRowC w0
  obtain ⟨k, h⟩ := P l0 a1 a2 hm0 y0 hw0 w1 w2
  refine (lineagelaw14_PageChecksum.calls k _ _ l0 a1 a2 true w (Kd.C_of_reads (d := (0 : Int)) (h1 := fun _ => rfl) hr0) hc0 h).mono ?_
  rintro e w' ⟨rfl, hd⟩
  exact ⟨rfl, hd⟩

end Go.Proofs.Ytopbmpdcmnhfdaa.P
