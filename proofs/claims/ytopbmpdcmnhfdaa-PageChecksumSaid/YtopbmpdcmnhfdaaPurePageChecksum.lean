/- For every byte string p of at most 1,100 bytes, every place and every byte: a sealed page passes Check and has the cells of the page; after a change of a single byte it does not pass. No condition. -/
import Derived.Test.YtopbmpdcmnhfdaaPureD
namespace Go.Proofs.Ytopbmpdcmnhfdaa.Pure
open Go.RowKit Go.Proofs.Ytopbmpdcmnhfdaa.P Go.Proofs.YtopbmpdcmnhfdaaH Go.Proofs.YtopbmpdcmnhfdaaW.PrintWords Go.Proofs.YtopbmpdcmnhfdaaW.PrintLast
set_option linter.unusedVariables false

theorem changed_ev {l : List Int} (hb : Bytes l) (hv : Valid l) (i : Nat) (hi : i < 1024) {x : Int} (hx : 0 ≤ x ∧ x ≤ 255) (hne : rd (sealS l) i ≠ x) : Ev (fun k => page_Check.f k ((sealS l).set i x)) 12 := by
  have hl := hv.len
  have hsl := sealS_length hl
  have hbs := bytes_sealS hb
  have hb2 : Bytes ((sealS l).set i x) := hbs.set i hx.1 hx.2
  have hat : (sealS l)[i]'(by omega) ≠ x := by
    intro e
    apply hne
    unfold rd
    rw [List.getD_eq_getElem?_getD, Int.toNat_natCast, List.getElem?_eq_getElem (by omega)]
    exact e
  by_cases hv2 : Valid ((sealS l).set i x)
  · refine check_unsealed hb2 hv2 (fun hs => ?_)
    unfold SealedS at hs
    have hset := hs
    by_cases hi2 : i < 1020
    · have e1 : ((sealS l).set i x).take 1020 = (l.take 1020).set i x := by
        rw [List.take_set, sealS_take hl]
      have e2 : ((sealS l).set i x).drop 1020 = (sealS l).drop 1020 := by
        rw [List.drop_set, if_pos (by omega)]
      have e3 : (sealS ((sealS l).set i x)).drop 1020 = crcBytes (crcS ((l.take 1020).set i x)) := by
        show (((sealS l).set i x).take 1020 ++ crcBytes (crcS (((sealS l).set i x).take 1020))).drop 1020 = _
        rw [e1, List.drop_append_of_le_length (by simp [hl]), List.drop_eq_nil_of_le (by simp [hl]), List.nil_append]
      have e4 : (sealS l).drop 1020 = crcBytes (crcS (l.take 1020)) := by
        unfold sealS
        rw [List.drop_append_of_le_length (by simp [hl]), List.drop_eq_nil_of_le (by simp [hl]), List.nil_append]
      rw [hs, e2, e4] at e3
      have e5 := crcBytes_inj (crcS_range _) (crcS_range _) e3
      have hlt : i < (l.take 1020).length := by rw [List.length_take]; omega
      have e6 := crcS_set (l.take 1020) (hb.take _) i hlt hx e5.symm
      apply hat
      rw [e6]
      unfold sealS
      rw [List.getElem_append_left hlt]
    · have e1 : ((sealS l).set i x).take 1020 = (sealS l).take 1020 := by rw [List.take_set_of_le (by omega)]
      have e2 : sealS ((sealS l).set i x) = sealS l := by
        show ((sealS l).set i x).take 1020 ++ crcBytes (crcS (((sealS l).set i x).take 1020)) = sealS l
        rw [e1, sealS_take hl]
        rfl
      rw [e2] at hs
      have := congrArg (fun z : List Int => z[i]?) hs
      simp only [List.getElem?_set] at this
      rw [if_pos trivial, if_pos (by omega), List.getElem?_eq_getElem (by omega)] at this
      injection this with this
      exact hat this
  · exact check_no hb2 hv2
theorem PageChecksum : lineagelaw14_PageChecksum.Pure := by
  intro l a x hm hl hw ha hx
  have hb := Bytes.of_wf hw
  have hx := wf_u8 hx
  have ha : 0 ≤ a ∧ a ≤ 65535 := by
    simp [Lit.wf, IntKind.min, IntKind.max, IntKind.signed, IntKind.bits] at ha
    omega
  refine Ev.rounds (Ev.bind awake_ev (Ev.if_pos rfl ?_))
  by_cases hlen : (l.length : Int) > 1100
  · exact Ev.if_pos hlen (Ev.now _)
  · refine Ev.if_neg hlen ?_
    by_cases hv : Valid l
    · have h0 := hb.rd 0
      have hlv := hv.len
      have hsl := sealS_length hlv
      have hbs := bytes_sealS hb
      have hvs : Valid (sealS l) := valid_take (sealS_take hlv).symm hsl hv
      have hn := num_range hb 1
      refine Ev.bind (seal_yes hb hv) (Ev.bind (kind_yes hb hv) (Ev.if_neg (by omega) (Ev.if_pos (by omega) (Ev.bind (check_yes hbs hvs (sealS_sealS hlv)) (Ev.if_pos rfl ?_)))))
      refine Ev.bind (cells_yes hbs hvs) (Ev.bind (cells_yes hb hv) ?_)
      rw [cells_take (sealS_take hlv).symm hb hv]
      refine Ev.bind (list_refl _ (by unfold cellsS; rw [cellsTo_length]; omega)) (Ev.step (fun k => lineagelaw14_PageChecksum.j0.eq_2 _ _ _ _ k) (Ev.if_neg (by decide) ?_))
      have ei : Int.tmod (wrap64 a) 1024 = ((a % 1024).toNat : Int) := by
        rw [wrap64_of (by omega) (by omega), Int.tmod_eq_emod_of_nonneg ha.1]
        omega
      rw [ei]
      refine Ev.if_pos (by omega) (Ev.if_pos (by omega) ?_)
      by_cases hc : rd (sealS l) ((a % 1024).toNat : Int) = x
      · exact Ev.if_pos hc (Ev.now _)
      · refine Ev.if_neg hc (Ev.bind (changed_ev hb hv (a % 1024).toNat (by omega) hx hc) (Ev.const ?_))
        rfl
    · exact Ev.bind (seal_no hb hv) (Ev.bind (kind_no hb hv) (Ev.if_pos (by decide) (Ev.if_pos rfl (Ev.bind (check_no hb hv) (Ev.const rfl)))))
end Go.Proofs.Ytopbmpdcmnhfdaa.Pure
