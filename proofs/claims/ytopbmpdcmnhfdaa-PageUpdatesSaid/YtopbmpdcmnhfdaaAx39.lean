/- Words of this session: slices.Replace where what comes in is not longer than what goes, told by hand at slices of open capacity. -/
import Derived.Test.YtopbmpdcmnhfdaaAx34
namespace Go.Proofs.YtopbmpdcmnhfdaaA
open Go Go.RowKit
set_option linter.unusedVariables false
set_option linter.unusedSimpArgs false
/-- What comes in: nothing, or the rows of another block. -/
def VS (h : Heap) (id : Nat) (vp : Option (Nat × Nat)) (M : List (List V)) : Prop :=
  (vp = none ∧ M = []) ∨ ∃ (q : Nat) (QA QB : List V), vp = some (q, QA.length) ∧ h[q]? = some (.cells (QA ++ M.flatten ++ QB) .rw) ∧ id ≠ q ∧ 1 ≤ M.length
def RepW (P : Program) (H0 : Hooks) (f : FuncId) (sz : Nat) (z : List V) : Prop :=
  ∀ {h : Heap} {id c : Nat} {k : Kd} {A sp : List V} {rows M : List (List V)} {vp : Option (Nat × Nat)} {vc : Option Nat} {i j : Nat}, h[id]? = some (.cells (A ++ rows.flatten ++ sp) k) → k ≠ .ro → Wd sz rows → rows.flatten.all V.leaf = true → VS h id vp M → Wd sz M → M.flatten.all V.leaf = true → (vp = none → vc = some 0) →
    i < j → j ≤ rows.length → i + M.length ≤ j → rows.length ≤ c → rows.length ≤ 2 ^ 47 →
    WR (callE P H0 f [.slice (some (id, A.length)) rows.length (some c), .int .i64 i, .int .i64 j, .slice vp M.length vc] h) fun r h' => r = .slice (some (id, A.length)) (i + M.length + (rows.length - j)) (some c) ∧ h' = h.set id (.cells (A ++ (rows.take i ++ M ++ rows.drop j ++ List.replicate (j - (i + M.length)) z).flatten ++ sp) k)
/-- The cells that come in. -/
def vsC (h : Heap) (id sz : Nat) (vp : Option (Nat × Nat)) (vl : Nat) (vc : Option Nat) : Option (List V) := match vp with
  | none => if vl = 0 ∧ vc = some 0 then some [] else none
  | some (q, qo) => match h[q]? with
    | some (.cells vs .rw) => if id ≠ q ∧ 1 ≤ vl ∧ qo + vl * sz ≤ vs.length ∧ ((vs.drop qo).take (vl * sz)).all V.leaf = true then some ((vs.drop qo).take (vl * sz)) else none
    | _ => none
noncomputable def repHook (sz : Nat) (F : List V → Heap → Option (V × Heap)) (args : List V) (h : Heap) : Option (V × Heap) := match args with
  | [.slice (some (id, off)) len none, .int .i64 i, .int .i64 j, .slice vp vl vc] => if i = j then F args h else match h[id]?, vsC h id sz vp vl vc with
    | some (.cells cs (.gr e)), some m =>
      if e = sz ∧ off + len * sz = cs.length ∧ 0 ≤ i ∧ i < j ∧ j ≤ len ∧ i + vl ≤ j ∧ len ≤ 2 ^ 47 ∧ (cs.drop off).all V.leaf = true then
        some (.slice (some (h.length, 0)) (i.toNat + vl + (len - j.toNat)) none, h.set id .dead ++ [.cells ((cs.drop off).take (i.toNat * sz) ++ m ++ (cs.drop off).drop (j.toNat * sz)) (.gr sz)])
      else none
    | _, _ => none
  | _ => F args h
theorem repHook_goes {P : Program} {H0 : Hooks} {f : FuncId} {sz : Nat} {z : List V} (hm : P.follows .mixedOrders = true) (hN : Named P) (hH : SoundH P H0) (hs : 1 ≤ sz) (hz : z.length = sz) (hzc : ∀ v ∈ z, Cst v) (hw : RepW P H0 f sz z) {args : List V} {h : Heap} {v : V} {h' : Heap} (q : repHook sz (callE P H0 f) args h = some (v, h')) (ι : Mp) (w : World) (A : Array Value) (hr : Rel ι h w) (ha : RVs ι args A.toList) (hfr : Free ι h.length h'.length) :
    CallsTo P f A w fun x w' => ∃ κ, RV κ v x ∧ Stp ι h w κ h' w' := by
  unfold repHook at q
  split at q
  · rename_i id off len i j vp vl vc
    split at q
    · exact sound_of hm hN hH f _ _ _ _ q ι w A hr ha hfr
    rename_i hijne
    split at q
    · rename_i cs e m hb hmC
      split at q
      · rename_i hc
        obtain ⟨rfl, hend, hi0, hij, hj, hvj, hl47, hcl⟩ := hc
        cases q
        obtain ⟨rows, B0, hrows, hrl, hrw⟩ := rows_of len e (cs.drop off) (by rw [List.length_drop]; omega)
        have hB0 : B0 = [] := by
          have := congrArg List.length hrows
          rw [List.length_drop, List.length_append, hrw.len, hrl] at this
          exact List.eq_nil_of_length_eq_zero (by omega)
        subst hB0
        rw [List.append_nil] at hrows
        have hlt := lt_of_some hb
        obtain ⟨M, rfl, hMl, hMw, hMlf, hvn, hvs, hmem⟩ : ∃ M : List (List V), m = M.flatten ∧ M.length = vl ∧ Wd e M ∧ M.flatten.all V.leaf = true ∧ (vp = none → vc = some 0) ∧ (∀ o, VS (h.set id o) id vp M) ∧ ∀ v ∈ M.flatten, ∃ q qo vs, vp = some (q, qo) ∧ h[q]? = some (.cells vs .rw) ∧ v ∈ vs := by
          unfold vsC at hmC
          split at hmC
          · split at hmC
            · rename_i hc0
              cases hmC
              exact ⟨[], rfl, hc0.1.symm, fun _ h => by (cases h), rfl, fun _ => hc0.2, fun _ => .inl ⟨rfl, rfl⟩, fun v hv => by (cases hv)⟩
            · cases hmC
          · rename_i q qo
            split at hmC
            · rename_i vs hq
              split at hmC
              · rename_i hc1
                obtain ⟨hne, hvl, hqf, hvsl⟩ := hc1
                cases hmC
                obtain ⟨M, QB, hM, hMl, hMw⟩ := rows_of vl e (vs.drop qo) (by rw [List.length_drop]; omega)
                have hMt : (vs.drop qo).take (vl * e) = M.flatten := by rw [hM]; exact List.take_left' (by rw [hMw.len, hMl])
                have hQl : (vs.take qo).length = qo := by rw [List.length_take]; omega
                refine ⟨M, hMt, hMl, hMw, by rw [← hMt]; exact hvsl, fun h => by (cases h), fun o => .inr ⟨q, vs.take qo, QB, by rw [hQl], ?_, hne, by omega⟩, fun v hv => ⟨q, qo, vs, rfl, hq, ?_⟩⟩
                · rw [List.getElem?_set_ne hne, hq, List.append_assoc, ← hM, List.take_append_drop]
                · rw [← hMt] at hv
                  exact List.mem_of_mem_drop (List.mem_of_mem_take hv)
              · cases hmC
            · cases hmC
        have hcs : cs = cs.take off ++ rows.flatten := by rw [← hrows, List.take_append_drop]
        have hAl : (cs.take off).length = off := by rw [List.length_take]; omega
        have hnew : (cs.drop off).take (i.toNat * e) ++ M.flatten ++ (cs.drop off).drop (j.toNat * e) = (rows.take i.toNat ++ M ++ rows.drop j.toNat).flatten := by
          rw [hrows, hrw.ftake, hrw.fdrop]; simp
        rw [hnew]
        have hnl : (rows.take i.toNat ++ M ++ rows.drop j.toNat).length = i.toNat + vl + (len - j.toNat) := by simp [hrl, hMl]; omega
        have hnw : Wd e (rows.take i.toNat ++ M ++ rows.drop j.toNat) := ((hrw.take _).app hMw).app (hrw.drop _)
        have hii : ((i.toNat : Nat) : Int) = i := by omega
        have hjj : ((j.toNat : Nat) : Int) = j := by omega
        obtain ⟨_, _, hAe, hX, hrest⟩ := ha.head
        obtain ⟨_, _, rfl, _, hrest⟩ := hrest.head
        obtain ⟨_, _, rfl, _, hrest⟩ := hrest.head
        obtain ⟨_, _, rfl, hY, _⟩ := hrest.head
        have hzw : Wd e (List.replicate (j.toNat - (i.toNat + vl)) z) := fun r hr => by rw [List.eq_of_mem_replicate hr]; exact hz
        refine open_sound (m := i.toNat + vl + (len - j.toNat)) hm hN hH hb hs hend (.inl (by omega)) (by rw [hnw.len, hnl]) (fun sp c hlc hfit hsp => ?_) hr ha (fun j h1 h2 => hfr j h1 (by simp; omega)) (fun v hv => ?_)
        · have hb' : (h.set id (.cells (cs ++ sp) (.gr e)))[id]? = some (.cells (cs.take off ++ rows.flatten ++ sp) (.gr e)) := by rw [List.getElem?_set_self hlt, ← hcs]
          have hww := hw (i := i.toNat) (j := j.toNat) (c := c) (vp := vp) (vc := vc) hb' (by simp) hrw (by rw [← hrows]; exact hcl) (hvs _) hMw hMlf hvn (by omega) (by omega) (by omega) (by omega) (by rw [hrl]; exact hl47)
          rw [hAl, hrl, hMl, hii, hjj] at hww
          refine hww.mono ?_
          rintro r h' ⟨rfl, rfl⟩
          refine ⟨by simp, fun j h1 h2 => by rw [List.getElem?_set_ne (Ne.symm h2), List.getElem?_set_ne (Ne.symm h2)], .inl ⟨rfl, by omega, _, List.getElem?_set_self (by simpa using hlt), ?_, ?_, ?_⟩⟩
          · have hcsl := congrArg List.length hcs
            rw [List.length_append, hAl, hrw.len, hrl] at hcsl
            rw [List.length_append, List.length_append, List.length_append, hAl, (hnw.app hzw).len, List.length_append, hnl, List.length_replicate, show i.toNat + vl + (len - j.toNat) + (j.toNat - (i.toNat + vl)) = len by omega]
            omega
          · rw [List.append_assoc, List.drop_left' hAl, List.flatten_append, List.append_assoc]
            exact List.take_left' (by rw [hnw.len, hnl])
          · intro v hv
            rw [List.flatten_append, ← List.append_assoc, List.append_assoc, List.drop_left' (by rw [List.length_append, hAl, hnw.len, hnl])] at hv
            rcases List.mem_append.1 hv with hv | hv
            · obtain ⟨r, hr1, hv⟩ := List.mem_flatten.1 hv
              rw [List.eq_of_mem_replicate hr1] at hv
              exact hzc v hv
            · exact hsp v hv
        · obtain ⟨r, hr1, hv⟩ := List.mem_flatten.1 hv
          have hcase : v ∈ cs ∨ v ∈ M.flatten := by
            simp only [List.mem_append] at hr1
            rcases hr1 with (hr1 | hr1) | hr1
            · left; rw [hcs]; exact List.mem_append_right _ (List.mem_flatten.2 ⟨r, List.mem_of_mem_take hr1, hv⟩)
            · right; exact List.mem_flatten.2 ⟨r, hr1, hv⟩
            · left; rw [hcs]; exact List.mem_append_right _ (List.mem_flatten.2 ⟨r, List.mem_of_mem_drop hr1, hv⟩)
          rcases hcase with hv | hv
          · cases hX with
            | slice _ _ _ _ _ _ pl hj _ => exact block_known hr hj hb v hv
          · obtain ⟨q, qo, vs, rfl, hq, hv⟩ := hmem v hv
            cases hY with
            | slice _ _ _ _ _ _ pl hj _ => exact block_known hr hj hq v hv
      · cases q
    · cases q
  · exact sound_of hm hN hH f _ _ _ _ q ι w A hr ha hfr
theorem repHook_mono {P : Program} {H0 : Hooks} {f : FuncId} {sz : Nat} (hm : P.follows .mixedOrders = true) (hH : SoundH P H0) {args : List V} {h : Heap} {r : V × Heap} (q : repHook sz (callE P H0 f) args h = some r) : Mono h r.2 := by
  unfold repHook at q
  split at q
  · split at q
    · exact callE_mono hm hH q
    split at q
    · rename_i hb _
      split at q
      · cases q
        exact (Mono.set hb (by simp)).trans (.push _ _)
      · cases q
    · cases q
  · exact callE_mono hm hH q
/-- What slices.Replace gives to a slice of the call's own that has come of append. -/
theorem Gr.replace {sz : Nat} {F : List V → Heap → Option (V × Heap)} {α : Type} {b : Nat} {h : Heap} {p : Option (Nat × Nat)} {oid : Option Nat} {enc : α → List V} {ys zs : List α} (g : Gr b h p none oid sz enc ys) (hb : b ≤ h.length) {vp : Option (Nat × Nat)} {vc : Option Nat} (hv : (vp = none ∧ zs = [] ∧ vc = some 0) ∨ ∃ q, vp = some (q, 0) ∧ h[q]? = some (.cells (zs.flatMap enc) .rw) ∧ oid ≠ some q ∧ 1 ≤ zs.length)
    (hzw : ∀ y ∈ zs, (enc y).length = sz) (hzl : ∀ y ∈ zs, (enc y).all V.leaf = true) {i j : Nat} (hij : i < j) (hj : j ≤ ys.length) (hvj : i + zs.length ≤ j) :
    ∃ p' oid' h', repHook sz F [.slice p ys.length none, .int .i64 i, .int .i64 j, .slice vp zs.length vc] h = some (.slice p' (i + zs.length + (ys.length - j)) none, h') ∧ Gr b h' p' none oid' sz enc (ys.take i ++ zs ++ ys.drop j) ∧ (oid' = oid ∨ oid' = some h.length) ∧ (h.length ≤ h'.length) ∧ (∀ i, oid ≠ some i → i < h.length → h'[i]? = h[i]?) ∧ (∀ i, i < b → h'[i]? = h[i]?) := by
  have hw2 : ∀ y ∈ ys.take i ++ zs ++ ys.drop j, (enc y).length = sz := fun y hy => by
    simp only [List.mem_append] at hy
    rcases hy with (hy | hy) | hy
    · exact g.sl.width y (List.mem_of_mem_take hy)
    · exact hzw y hy
    · exact g.sl.width y (List.mem_of_mem_drop hy)
  have hl2 : ∀ y ∈ ys.take i ++ zs ++ ys.drop j, (enc y).all V.leaf = true := fun y hy => by
    simp only [List.mem_append] at hy
    rcases hy with (hy | hy) | hy
    · exact g.leaf y (List.mem_of_mem_take hy)
    · exact hzl y hy
    · exact g.leaf y (List.mem_of_mem_drop hy)
  have hlen : (ys.take i ++ zs ++ ys.drop j).length = i + zs.length + (ys.length - j) := by simp; omega
  have hsm := g.sl.small
  have hnew : ∀ hh : Heap, hh.length = h.length → Gr b (hh ++ [.cells ((ys.take i ++ zs ++ ys.drop j).flatMap enc) (.gr sz)]) (some (h.length, 0)) none (some h.length) sz enc (ys.take i ++ zs ++ ys.drop j) := by
    intro hh hhl
    have hc : (hh ++ [O.cells ((ys.take i ++ zs ++ ys.drop j).flatMap enc) (.gr sz)])[h.length]? = some (.cells ((ys.take i ++ zs ++ ys.drop j).flatMap enc) (.gr sz)) := snoc_last _ hhl.symm
    refine ⟨.whole hc hw2 rfl (by rw [hlen]; omega), .inr ⟨_, 0, _, _, rfl, rfl, hc, .inr ⟨rfl, rfl, ?_⟩⟩, fun id e => (by cases e; exact hb), hl2⟩
    rw [flatMap_len hw2]; omega
  rcases g.kind with ⟨_, hc, _⟩ | ⟨id, off, C, k, rfl, rfl, e3, e4⟩
  · cases hc
  · have hbi := g.base id rfl
    have hlt := lt_of_some e3
    obtain ⟨C', k', h1, h2, h3⟩ := g.sl.reads id off rfl
    rw [e3] at h1; cases h1
    have hfl := flat_of_reads g.sl.width h2 h3
    rcases e4 with ⟨hc, _⟩ | ⟨_, rfl, hend⟩
    · cases hc
    · have hcd : C.drop off = ys.flatMap enc := by
        rw [← hfl]; exact (List.take_of_length_le (by rw [List.length_drop]; omega)).symm
      have hvc : vsC h id sz vp zs.length vc = some (zs.flatMap enc) := by
        unfold vsC
        rcases hv with ⟨rfl, rfl, rfl⟩ | ⟨q, rfl, hq, hne, h1⟩
        · rfl
        · have hzlen := flatMap_len hzw
          have ht : (zs.flatMap enc).take (zs.length * sz) = zs.flatMap enc := List.take_of_length_le (by rw [hzlen]; exact Nat.le_refl _)
          simp only [hq, List.drop_zero, ht]
          rw [if_pos ⟨fun e => hne (by rw [e]), h1, by rw [hzlen]; omega, all_leaf hzl⟩]
      have hres : repHook sz F [.slice (some (id, off)) ys.length none, .int .i64 i, .int .i64 j, .slice vp zs.length vc] h = some (.slice (some (h.length, 0)) (i + zs.length + (ys.length - j)) none, h.set id .dead ++ [.cells ((ys.take i ++ zs ++ ys.drop j).flatMap enc) (.gr sz)]) := by
        unfold repHook
        simp only []
        rw [if_neg (by omega)]
        simp only [e3, hvc, hcd]
        rw [if_pos ⟨trivial, hend, by omega, by omega, by omega, by omega, by omega, all_leaf g.leaf⟩]
        rw [Int.toNat_natCast, Int.toNat_natCast, flatMap_take g.sl.width, flatMap_drop g.sl.width]
        simp
      refine ⟨_, _, _, hres, hnew _ (by simp), .inr rfl, by simp, fun j hj hjl => ?_, fun j hj => ?_⟩
      · rw [List.getElem?_append_left (by simpa using hjl), List.getElem?_set_ne (fun e => hj (by rw [e]))]
      · rw [List.getElem?_append_left (by simp; omega), List.getElem?_set_ne (by omega)]
end Go.Proofs.YtopbmpdcmnhfdaaA
