/- Words of this session beside the printer's: the builtin copy into a row of the call's own. -/
import Derived.Test.YtopbmpdcmnhfdaaWNEv
import Derived.Test.YtopbmpdcmnhfdaaWMore
import Derived.Test.YtopbmpdcmnhfdaaWSized
import Derived.Test.YtopbmpdcmnhfdaaWRepsOne
import Derived.Laws.CopyOwn
import Derived.Lib.SliceRun
import Derived.Lib.SlBytesConst
import Derived.Lib.ConvBytes
namespace Go.Proofs.YtopbmpdcmnhfdaaH
open Go.RowKit Go.Proofs.YtopbmpdcmnhfdaaW.PrintWords Go.Proofs.YtopbmpdcmnhfdaaW.PrintLast Go.Proofs.YtopbmpdcmnhfdaaW.PrintMore
set_option linter.unusedVariables false
set_option linter.unusedSimpArgs false

/-! ### copy(u[lo:], src): u a row of the call's own -/
def copyatF {α : Type} (l0 : List α) (a1 : Int) (l2 : List α) : Option (Int × List α) :=
  if 0 ≤ a1 then (if a1 ≤ (l0.length : Int) then some (((min (l0.length - a1.toNat) l2.length : Nat) : Int), l0.take a1.toNat ++ (l2.take (l0.length - a1.toNat) ++ l0.drop (a1.toNat + l2.length))) else none) else none
def CutOf (u : Value) (lo : Int) (v1 : Value) : Prop :=
  (lo = 0 ∧ v1 = u) ∨ ∃ A0 n c A c', u = .slice A0 n c ∧ v1 = .slice A (n - lo.toNat) c' ∧ A = (if c = lo.toNat then A0 else A0.map (·.add (lo.toNat * 1)))
theorem cutof_of {A0 A : Option Addr} {n c c' y : Nat} {lo : Int} (hy : y = n - lo.toNat) (hA : A = (if c = lo.toNat then A0 else A0.map (·.add (lo.toNat * 1)))) : CutOf (.slice A0 n c) lo (.slice A y c') := .inr ⟨A0, n, c, A, c', rfl, by rw [hy], hA⟩
def CopyRun (P : Program) (dT sT : TypeId) (u : Value) (lo : Int) (v2 : Value) (w : World) (R : Ending → World → Prop) : Prop :=
  ∃ v w', (∀ v1 ty, CutOf u lo v1 → (Builtin.copy_ #[dT, sT] ty #[v1, v2]).run P w = .ok v w') ∧ R (.returned v) w'
theorem CopyRun.mono {P : Program} {dT sT : TypeId} {u : Value} {lo : Int} {v2 : Value} {w : World} {R R' : Ending → World → Prop} (h : CopyRun P dT sT u lo v2 w R) (hr : ∀ e w', R e w' → R' e w') : CopyRun P dT sT u lo v2 w R' :=
  let ⟨v, w', h1, h2⟩ := h; ⟨v, w', h1, hr _ _ h2⟩
theorem copy_event {P : Program} {ops : Array Oper} {rest : List Oper} {o : Oper} {a : Act} {Q : Exit → Act → World → Prop} {W : World} (N : Option Tmp) (hd : o.dst = N) (hg : o.guard = none) (d s : Operand) (dT sT : TypeId)
    (ho : o.op = .call { callee := .builtin .copy, args := #[d, s], argTypes := #[dT, sT] }) (v1 v2 : Value) (h1 : a.eval d = v1) (h2 : a.eval s = v2) (u : Value) (lo : Int) (hv1 : CutOf u lo v1)
    (h : CopyRun P dT sT u lo v2 W fun e w' => ∃ v, e = .returned v ∧ wpList P ops Q rest (a.put N v) w') : wpList P ops Q (o :: rest) a W := by
  refine wpList_plain hg fun K hK => ?_
  obtain ⟨v, w', hrun, v', he, hw⟩ := h
  obtain rfl : v = v' := by injection he
  have hrun := hrun v1 o.type hv1
  unfold Oper.wp
  simp [execOp, ho, resolve, invoke, builtin, h1, h2, hrun, Result.andThen]
  exact hK _ _ (by rw [hd]; exact hw)

theorem take_drop_same {α : Type} (l : List α) (i n : Nat) (h : i ≤ l.length) (h0 : min (l.length - i) n = 0) (l2 : List α) (hn : l2.length = n) : l.take i ++ (l2.take (l.length - i) ++ l.drop (i + n)) = l := by
  rcases Nat.lt_or_ge i l.length with h1 | h1
  · have : n = 0 := by omega
    subst this
    obtain rfl : l2 = [] := List.eq_nil_of_length_eq_zero hn
    simp
  · rw [List.take_of_length_le h1, show l.length - i = 0 by omega, List.drop_eq_nil_of_le (by omega)]
    simp

theorem splice_lists {β : Type} (X Y : List β) (i : Nat) (h : i ≤ X.length) : X.take i ++ (Y.take (X.length - i) ++ X.drop (i + Y.length)) = X.take i ++ (Y.take (min (X.length - i) Y.length) ++ X.drop (i + min (X.length - i) Y.length)) := by
  rcases Nat.le_total Y.length (X.length - i) with h1 | h1
  · rw [Nat.min_eq_right h1, List.take_of_length_le h1, List.take_of_length_le (Nat.le_refl _)]
  · rw [Nat.min_eq_left h1]
    rw [List.drop_eq_nil_of_le (show X.length ≤ i + Y.length by omega), List.drop_eq_nil_of_le (show X.length ≤ i + (X.length - i) by omega)]

theorem Reps.at1 {α : Type} {R : α → List Value → Prop} {ps : List α} {cs : List Value} (h : Reps R 1 ps cs) (j : Nat) (hj : j < ps.length) : ∃ u, cs[j]? = some u ∧ R ps[j] [u] := by
  have hl : cs.length = ps.length := by have := h.1; omega
  refine ⟨cs[j], List.getElem?_eq_getElem (by omega), ?_⟩
  have := h.2 j ps[j] (List.getElem?_eq_getElem hj)
  rw [Nat.mul_one, List.take_one, List.head?_drop, List.getElem?_eq_getElem (by omega)] at this
  exact this
theorem Reps.of1 {α : Type} {R : α → List Value → Prop} {ps : List α} {cs : List Value} (hl : cs.length = ps.length) (h : ∀ j (hj : j < ps.length), ∃ u, cs[j]? = some u ∧ R ps[j] [u]) : Reps R 1 ps cs := by
  refine ⟨by omega, fun j p hp => ?_⟩
  obtain ⟨hj, rfl⟩ := List.getElem?_eq_some_iff.1 hp
  obtain ⟨u, hu, hr⟩ := h j hj
  obtain ⟨hj2, rfl⟩ := List.getElem?_eq_some_iff.1 hu
  rw [Nat.mul_one, List.take_one, List.head?_drop, List.getElem?_eq_getElem hj2]
  exact hr
theorem Reps.splice1 {α : Type} {R R' R2 : α → List Value → Prop} {X Y : List α} {cx cy : List Value} (hx : Reps R 1 X cx) (hy : Reps R2 1 Y cy) (h1 : ∀ p c, R p c → R' p c) (h2 : ∀ p c, R2 p c → R' p c) (i n : Nat) (hi : i + n ≤ X.length) (hn : n ≤ Y.length) :
    Reps R' 1 (X.take i ++ (Y.take n ++ X.drop (i + n))) (cx.take i ++ (cy.take n ++ cx.drop (i + n))) := by
  have lx : cx.length = X.length := by have := hx.1; omega
  have ly : cy.length = Y.length := by have := hy.1; omega
  refine Reps.of1 (by simp [lx, ly]) fun j hj => ?_
  have hj' : j < X.length := by simp at hj; omega
  rcases Nat.lt_or_ge j i with h3 | h3
  · obtain ⟨u, hu, hr⟩ := Reps.at1 hx j hj'
    refine ⟨u, ?_, ?_⟩
    · rw [List.getElem?_append_left (by simp; omega), List.getElem?_take_of_lt h3]; exact hu
    · rw [List.getElem_append_left (by simp; omega), List.getElem_take]; exact h1 _ _ hr
  · rcases Nat.lt_or_ge j (i + n) with h4 | h4
    · obtain ⟨u, hu, hr⟩ := Reps.at1 hy (j - i) (by omega)
      have e1 : (cx.take i).length = i := by simp; omega
      have e2 : (X.take i).length = i := by simp; omega
      refine ⟨u, ?_, ?_⟩
      · rw [List.getElem?_append_right (by omega), e1, List.getElem?_append_left (by simp; omega), List.getElem?_take_of_lt (by omega)]; exact hu
      · rw [List.getElem_append_right (by omega)]
        simp only [e2]
        rw [List.getElem_append_left (by simp; omega), List.getElem_take]; exact h2 _ _ hr
    · obtain ⟨u, hu, hr⟩ := Reps.at1 hx j hj'
      have e1 : (cx.take i).length = i := by simp; omega
      have e2 : (X.take i).length = i := by simp; omega
      have e3 : (cy.take n).length = n := by simp; omega
      have e4 : (Y.take n).length = n := by simp; omega
      refine ⟨u, ?_, ?_⟩
      · rw [List.getElem?_append_right (by omega), e1, List.getElem?_append_right (by omega), e3, List.getElem?_drop, show i + n + (j - i - n) = j by omega]; exact hu
      · rw [List.getElem_append_right (by omega)]
        simp only [e2]
        rw [List.getElem_append_right (by omega)]
        simp only [e4]
        rw [List.getElem_drop]
        simp only [show i + n + (j - i - n) = j by omega]
        exact h1 _ _ hr

theorem copyat_calls {α : Type} (d : Kd α) (P : Program) (dT sT e : TypeId) (hT : P.underlying dT = some (.slice e)) (hsz : (P.info? e).map (·.size) = some 1) (hd1 : d.sz = 1) (hKM : ∀ (w w' : World) (base : Nat) (ok : Nat → Prop) x cs, d.K w x cs → d.M w' base ok x cs)
    (P0_ : Nat → Prop) (u : Value) (l0 : List α) (a1 : Int) (A2 : Option Addr) (c2 : Nat) (l2 : List α) (r1 : Int) (r2 : List α) (w0 w : World) (hB : Below w0.heap.size w0 w) (ho0 : Kd.R d e w w0.heap.size P0_ u l0)
    (hr2 : ∀ W_, Kept w W_ (fun k_ => P0_ k_) → Kd.C d W_ A2 l2.length l2) (hc2 : l2.length ≤ c2) (h : copyatF l0 a1 l2 = some (r1, r2)) :
    CopyRun P dT sT u a1 (.slice A2 l2.length c2) w fun en w' => en = .returned (.int .i64 r1) ∧ Kd.R d e w' w0.heap.size (fun k_ => (P0_ k_ ∨ w.heap.size ≤ k_)) u r2 ∧ Below w0.heap.size w0 w' ∧ Kept w w' (fun k_ => P0_ k_) := by
  unfold copyatF at h
  by_cases h0 : 0 ≤ a1
  · rw [if_pos h0] at h
    by_cases h1 : a1 ≤ (l0.length : Int)
    · rw [if_pos h1] at h
      simp only [Option.some.injEq, Prod.mk.injEq] at h
      obtain ⟨rfl, rfl⟩ := h
      obtain ⟨i, rfl⟩ := Int.eq_ofNat_of_zero_le h0
      simp only [Int.toNat_natCast]
      have hi : i ≤ l0.length := by omega
      have hC := hr2 w (Kept.refl _ _)
      obtain ⟨hok, inner, ho, hr⟩ := ho0
      rw [hd1] at ho hr
      have hil : inner.length = l0.length := by have := hr.1; omega
      by_cases hz : min (l0.length - i) l2.length = 0
      · refine ⟨goInt 0, w, ?_, ?_, ?_, hB, Kept.refl _ _⟩
        · intro v1 ty hv1
          obtain ⟨A, c, hu⟩ := own_slice ho
          have hv : ∃ A' c', v1 = .slice A' (l0.length - i) c' := by
            rcases hv1 with ⟨hz0, rfl⟩ | ⟨A0, n, c0, A', c', hu', hv, _⟩
            · obtain rfl : i = 0 := by omega
              exact ⟨A, c, by simpa using hu⟩
            · rw [hu] at hu'
              injection hu' with _ hn _
              subst hn
              exact ⟨A', c', by simpa using hv⟩
          obtain ⟨A', c', rfl⟩ := hv
          exact run_copy_none w dT sT ty e A' A2 (l0.length - i) c' l2.length c2 hT hsz (by have : Nat.min l2.length (l0.length - i) = min l2.length (l0.length - i) := rfl; omega)
        · rw [hz]; rfl
        · rw [take_drop_same l0 i _ hi hz l2 rfl]
          exact ⟨fun k hk => .inl (hok k hk), inner, by rw [hd1]; exact ho, by rw [hd1]; exact hr.imp_ (fun _ _ hp => d.M_mono (fun k hk => ⟨.inl hk.1, hk.2⟩) hp)⟩
      · have hl2 : 0 < l2.length := by omega
        obtain ⟨ad, rfl, _⟩ := hC.2.2 hl2
        obtain ⟨in2, hr_2, hc_2⟩ := ReadsRow.inner_ hC
        rw [hd1] at hr_2
        have hil2 : in2.length = l2.length := by have := hr_2.1; omega
        obtain ⟨n, hn⟩ : ∃ n, n = min (l0.length - i) l2.length := ⟨_, rfl⟩
        rcases ho.2 with ⟨_, hnil⟩ | ⟨g, cap, cur, rfl, hg, hb, hnc, hcm, hcs, hcur⟩
        · omega
        rw [Nat.mul_one] at hcs hcur
        have hgP : P0_ g := hok g rfl
        have hfit : i + (in2.take n).length ≤ cur.size := by rw [List.length_take]; omega
        have h1c : ∀ v ∈ in2.take n, v.oneCell' = true := by
          intro v hv
          obtain ⟨j, hj, rfl⟩ := List.getElem_of_mem (List.mem_of_mem_take hv)
          obtain ⟨x, hx, hK⟩ := Reps.at1 hr_2 j (by omega)
          rw [List.getElem?_eq_getElem hj] at hx
          obtain rfl : in2[j] = x := by injection hx
          exact d.K_one hK _ (by simp)
        refine ⟨goInt (in2.take n).length, w.setRow g (cur.toList.take i ++ in2.take n ++ cur.toList.drop (i + (in2.take n).length)).toArray, ?_, ?_, ?_, below_setRow hB hg _, ?_⟩
        · intro v1 ty hv1
          have hv : ∃ c', v1 = .slice (some ⟨g, i, none⟩) (l0.length - i) c' := by
            rcases hv1 with ⟨hz0, rfl⟩ | ⟨A0, n', c0, A', c', hu', hv, hA⟩
            · obtain rfl : i = 0 := by omega
              exact ⟨cap, by simp⟩
            · injection hu' with e1 e2 e3
              subst e1 e2 e3
              rw [if_neg (by simp only [Int.toNat_natCast]; omega)] at hA
              subst hA
              refine ⟨c', ?_⟩
              rw [hv]
              simp [add_plain]
          obtain ⟨c', rfl⟩ := hv
          refine run_copy_row P w dT sT ty e g i (l0.length - i) c' ad l2.length c2 cur e (in2.take n) hT hsz hb ?_ ?_ hfit h1c
          · rw [List.length_take]; have : Nat.min l2.length (l0.length - i) = min l2.length (l0.length - i) := rfl; omega
          · intro j v hj
            have := List.getElem?_take (l := in2) (i := n) (j := j)
            rw [hj] at this
            split at this
            · exact hc_2 j v this.symm
            · cases this
        · rw [List.length_take, show min n in2.length = min (l0.length - i) l2.length by omega]; rfl
        · have hlen : (in2.take n).length = n := by rw [List.length_take]; omega
          have hsp := Reps.splice1 (R' := d.M (w.setRow g (cur.toList.take i ++ in2.take n ++ cur.toList.drop (i + (in2.take n).length)).toArray) w0.heap.size (fun k => (P0_ k ∨ w.heap.size ≤ k) ∧ some k ≠ (Value.slice (some ⟨g, 0, none⟩) l0.length cap).ownBlock)) hr hr_2
            (fun p c hp => d.M_mono (fun k hk => ⟨.inl hk.1, hk.2⟩) (d.M_move (fun k hk => setRow_other w g k _ (fun e_ => hk.2 (by rw [e_]; rfl))) hp)) (fun p c hp => hKM _ _ _ _ _ _ hp) i n (by omega) (by omega)
          have er : l0.take i ++ (l2.take (l0.length - i) ++ l0.drop (i + l2.length)) = l0.take i ++ (l2.take n ++ l0.drop (i + n)) := by rw [hn]; exact splice_lists l0 l2 i hi
          have hln : (l0.take i ++ (l2.take n ++ l0.drop (i + n))).length = l0.length := by simp; omega
          rw [er]
          refine ⟨fun k hk => .inl (hok k hk), _, ?_, by rw [hd1]; exact hsp⟩
          rw [hd1, hln]
          refine ⟨by simp [hil, hil2]; omega, .inr ⟨g, cap, _, rfl, hg, setRow_heap w g cur _ e _ hb, hnc, hcm, ?_, ?_⟩⟩
          · simp [hlen]; omega
          · rw [Nat.mul_one, hlen]
            rw [← hcur]
            apply List.ext_getElem?
            intro j
            have hcl : cur.toList.length = cap := by simpa using hcs
            rcases Nat.lt_or_ge j l0.length with hj | hj
            · rw [List.getElem?_take_of_lt hj]
              rcases Nat.lt_or_ge j i with h3 | h3
              · rw [List.append_assoc, List.getElem?_append_left (by simp; omega), List.getElem?_append_left (by simp; omega), List.getElem?_take_of_lt h3, List.getElem?_take_of_lt h3, List.getElem?_take_of_lt hj]
              · have q1 : (cur.toList.take i).length = i := by rw [List.length_take]; omega
                have q2 : ((cur.toList.take l0.length).take i).length = i := by rw [List.length_take, List.length_take]; omega
                rw [List.append_assoc, List.getElem?_append_right (l₁ := cur.toList.take i) (by omega), List.getElem?_append_right (l₁ := (cur.toList.take l0.length).take i) (by omega), q1, q2]
                rcases Nat.lt_or_ge j (i + n) with h4 | h4
                · rw [List.getElem?_append_left (l₁ := in2.take n) (l₂ := cur.toList.drop (i + n)) (by omega), List.getElem?_append_left (l₁ := in2.take n) (l₂ := (cur.toList.take l0.length).drop (i + n)) (by omega)]
                · rw [List.getElem?_append_right (l₁ := in2.take n) (l₂ := cur.toList.drop (i + n)) (by omega), List.getElem?_append_right (l₁ := in2.take n) (l₂ := (cur.toList.take l0.length).drop (i + n)) (by omega), List.getElem?_drop, List.getElem?_drop, hlen, List.getElem?_take_of_lt (by omega)]
            · rw [List.getElem?_eq_none (by simp; omega), List.getElem?_eq_none (by simp; omega)]
        · exact ⟨by simp [World.setRow], fun k hk hn => setRow_other w g k _ (fun e_ => hn (by rw [e_]; exact hgP))⟩
    · rw [if_neg h1] at h; cases h
  · rw [if_neg h0] at h; cases h
theorem info_size {P : Program} {e : TypeId} {z : Option Value} {s b : Nat} (h : (P.info? e).map (fun i => (i.zero, i.size, i.bytes)) = some (z, s, b)) : (P.info? e).map (·.size) = some s := by
  obtain ⟨i, hi, he⟩ := Option.map_eq_some_iff.1 h
  simp only [Prod.mk.injEq] at he
  rw [hi]
  simp [he.2.1]
theorem scalar_KM {α : Type} {enc : α → Value} {h1 : ∀ x, (enc x).oneCell' = true} : ∀ (w w' : World) (base : Nat) (ok : Nat → Prop) x cs, (Kd.scalar enc h1).K w x cs → (Kd.scalar enc h1).M w' base ok x cs := fun _ _ _ _ _ _ h => h
/-! ### []byte("..") of a constant, []byte(s): the row is marked, so it is told as what is only read -/
def OpRun (P : Program) (m : Sem Value) (w : World) (R : Ending → World → Prop) : Prop := ∃ v w', m.run P w = .ok v w' ∧ R (.returned v) w'
theorem OpRun.mono {P : Program} {m : Sem Value} {w : World} {R R' : Ending → World → Prop} (h : OpRun P m w R) (hr : ∀ e w', R e w' → R' e w') : OpRun P m w R' :=
  let ⟨v, w', h1, h2⟩ := h; ⟨v, w', h1, hr _ _ h2⟩
theorem conv_event {P : Program} {ops : Array Oper} {rest : List Oper} {o : Oper} {a : Act} {Q : Exit → Act → World → Prop} {W : World} (N : Option Tmp) (hd : o.dst = N) (hg : o.guard = none) (T T' : TypeId) (x : Operand)
    (ho : o.op = .convert T T' x) (v1 : Value) (h1 : a.eval x = v1) (h : OpRun P (convert T T' v1) W fun e w' => ∃ v, e = .returned v ∧ wpList P ops Q rest (a.put N v) w') : wpList P ops Q (o :: rest) a W := by
  refine wpList_plain hg fun K hK => ?_
  obtain ⟨v, w', hrun, v', he, hw⟩ := h
  obtain rfl : v = v' := by injection he
  unfold Oper.wp
  simp [execOp, ho, h1, hrun, Result.andThen]
  exact hK _ _ (by rw [hd]; exact hw)
/-- A block whose first cells are these numbers: read as a row, wherever that block stays. -/
theorem C_of_block {W : World} {g : Nat} {C : Array Value} {e : TypeId} {fr : Nat × Nat} {xs : List Int} (hb : W.heap[g]? = some (.cells C e fr)) (hC : ∀ (j : Nat) (x : Int), xs[j]? = some x → C[j]? = some (Value.int .u8 x)) (hm : xs.length ≤ 9223372036854775807) : Kd.C (Kd.int .u8) W (some ⟨g, 0, none⟩) xs.length xs := by
  refine ⟨rfl, hm, fun _ => ⟨_, rfl, fun j p hp => ⟨[.int .u8 p], rfl, rfl, fun i u hu => ?_⟩⟩⟩
  cases i with
  | succ i => simp at hu
  | zero =>
    obtain rfl : Value.int .u8 p = u := by simpa using hu
    rw [add_plain, show j * (Kd.int .u8).sz + 0 = j from by show j * 1 + 0 = j; omega]
    simp [World.cell?, hb, hC j p hp]
theorem V_of_block {W : World} {base g c : Nat} {C : Array Value} {e : TypeId} {fr : Nat × Nat} {xs : List Int} (hb : W.heap[g]? = some (.cells C e fr)) (hC : ∀ (j : Nat) (x : Int), xs[j]? = some x → C[j]? = some (Value.int .u8 x)) (hc : xs.length ≤ c) (hm : xs.length ≤ 9223372036854775807) (ok : Nat → Prop) (hok : ok g) :
    Kd.V (Kd.int .u8) e W base ok (.slice (some ⟨g, 0, none⟩) xs.length c) xs :=
  Kd.V_mk hc (fun W' hW => C_of_block ((hW g hok (Array.getElem?_eq_some_iff.1 hb).1).trans hb) hC hm)
theorem bconst_calls (P : Program) (T e : TypeId) (hT : P.underlying T = some (.slice e)) (he : P.underlying e = some (.int .u8)) (xs : List Int) (hm : xs.length ≤ 9223372036854775807) (r : List Int) (w : World) (h : some xs = some r) :
    OpRun P (convert T T (.slice (some ⟨w.heap.size, 0, none⟩) xs.length xs.length)) (w.alloc (.cells (nums .u8 xs).toArray e)) fun en w' => ∃ v0_ : Value, en = .returned (v0_) ∧ Kd.V (Kd.int .u8) e w' w.heap.size (fun k_ => w.heap.size ≤ k_) v0_ r ∧ Below w.heap.size w w' := by
  obtain rfl : xs = r := by injection h
  refine ⟨_, _, Lib.run_convert_bytes_const (P := P) w T e _ _ _ hT he, _, rfl, ?_, below_alloc (Below.refl _ _) _⟩
  refine V_of_block (e := e) (heap_alloc_new w _) (fun j x hj => ?_) (Nat.le_refl _) hm _ (Nat.le_refl _)
  simp [nums, hj]
theorem bytesof_calls (P : Program) (S T e : TypeId) (hS : P.underlying S = some .string) (hT : P.underlying T = some (.slice e)) (he : P.underlying e = some (.int .u8)) (a0 : ByteArray) (r : List Int) (w : World) (h : (if a0.size ≤ 9223372036854775807 then some (bytesOf a0) else none) = some r) :
    OpRun P (convert S T (.string a0)) w fun en w' => ∃ v0_ : Value, en = .returned (v0_) ∧ Kd.V (Kd.int .u8) e w' w.heap.size (fun k_ => w.heap.size ≤ k_) v0_ r ∧ Below w.heap.size w w' := by
  by_cases hl : a0.size ≤ 9223372036854775807
  · rw [if_pos hl] at h
    obtain rfl : bytesOf a0 = r := by injection h
    refine ⟨_, _, Lib.run_convert_string_bytes (P := P) w S T e a0 hS hT he, _, rfl, ?_, ⟨?_, ?_, ?_, ?_, ?_⟩⟩
    · rw [← bytesOf_length a0]
      refine V_of_block (Lib.bytesWorld_at_new w e a0) (fun j x hj => ?_) ?_ (by rw [bytesOf_length]; exact hl) _ (Nat.le_refl _)
      · have hlt : j < (bytesOf a0).length := (List.getElem?_eq_some_iff.1 hj).1
        rw [bytesOf_length] at hlt
        simp only [bytesOf, List.getElem?_map, Option.map_eq_some_iff] at hj
        obtain ⟨b, hb, rfl⟩ := hj
        rw [Array.getElem?_toList] at hb
        have hlt2 : j < a0.data.size := hlt
        simp only [Lib.bytesCells]
        rw [Array.getElem?_append_left (by simpa using hlt2)]
        simp [hb]
      · have := grownCap_ge w a0.size 0 e
        rw [bytesOf_length]
        exact this
    · simp [Lib.bytesWorld, World.freeze, World.alloc, World.drew, -World.alloc_eq, -World.drew_eq]
    · simp [Lib.bytesWorld, World.freeze, World.alloc, World.drew, -World.alloc_eq, -World.drew_eq]
    · simp [Lib.bytesWorld, World.freeze, World.alloc, World.drew, -World.alloc_eq, -World.drew_eq]
    · rw [Lib.bytesWorld_size]; omega
    · intro k hk
      exact Lib.bytesWorld_at_old w e a0 k hk
  · rw [if_neg hl] at h; cases h
end Go.Proofs.YtopbmpdcmnhfdaaH
