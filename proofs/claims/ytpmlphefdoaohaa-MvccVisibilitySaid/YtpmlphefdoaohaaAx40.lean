/- Words of this session: slices.SortFunc as the library tells it: a hook. -/
import Derived.Test.YtpmlphefdoaohaaAx36
import Derived.Shelf.SlSortCmp.WholeK
namespace Go.Proofs.YtpmlphefdoaohaaA
open Go Go.RowKit Go.Shelf Go.Sort
set_option linter.unusedVariables false
set_option linter.unusedSimpArgs false
set_option linter.unusedSectionVars false
set_option maxRecDepth 10000
/-- A kind of element: its cells in the second reading and in the model. -/
structure Elm {α : Type} (k : Nat) (encV : α → List V) (encM : α → List Value) (dec : List V → Option α) : Prop where
  pos : 0 < k
  lenV : ∀ a, (encV a).length = k
  lenM : ∀ a, (encM a).length = k
  is : ∀ r a, dec r = some a → r = encV a
  back : ∀ a, dec (encV a) = some a
  one : ∀ a, ∀ v ∈ encM a, v.oneCell' = true
  leaf : ∀ a, (encV a).all V.leaf = true
  uniq : ∀ (ι : Mp) (a : α) (i : Nat) (v : V) (c : Value), (encV a)[i]? = some v → RV ι v c → (encM a)[i]? = some c
  enc : ∀ (ι : Mp) (a : α), RVs ι (encV a) (encM a)
def rowsOf {α : Type} (k : Nat) (dec : List V → Option α) : Nat → List V → Option (List α)
  | 0, _ => some []
  | n + 1, C => match dec (C.take k) with
    | some a => match rowsOf k dec n (C.drop k) with
      | some l => some (a :: l)
      | none => none
    | none => none
def srtL {α : Type} (cf : α → α → Int) (D : List α) : List α := D.mergeSort fun x y => decide (cf x y ≤ 0)
def srtHook {α : Type} (k : Nat) (encV : α → List V) (dec : List V → Option α) (cf : α → α → Int) (G : FuncId) (F : List V → Heap → Option (V × Heap)) (args : List V) (h : Heap) : Option (V × Heap) := match args with
  | [.slice (some (id, off)) n c, .func g [] []] => match h[id]? with
    | some (.cells C kd) => match rowsOf k dec n (C.drop off) with
      | some D => if g = G ∧ kd ≠ .ro ∧ off + n * k ≤ C.length ∧ 1 ≤ n ∧ n < 4611686018427387904 then some (.tuple [], h.set id (.cells (splice C off ((srtL cf D).flatMap encV)) kd)) else F args h
      | none => F args h
    | _ => F args h
  | _ => F args h
theorem rowsOf_eq {α : Type} {k : Nat} {encV : α → List V} {encM : α → List Value} {dec : List V → Option α} (E : Elm k encV encM dec) : ∀ {n : Nat} {C : List V} {D : List α}, rowsOf k dec n C = some D → D.length = n ∧ (n * k ≤ C.length → C.take (n * k) = D.flatMap encV)
  | 0, C, D, h => by cases h; exact ⟨rfl, fun _ => by simp⟩
  | n + 1, C, D, h => by
    unfold rowsOf at h
    split at h
    · rename_i a ha
      split at h
      · rename_i l hl
        cases h
        obtain ⟨h1, h2⟩ := rowsOf_eq E hl
        refine ⟨by simp [h1], fun hle => ?_⟩
        have he := E.is _ _ ha
        rw [Nat.add_mul, Nat.one_mul] at hle ⊢
        rw [Nat.add_comm (n * k) k, List.take_add, he, h2 (by rw [List.length_drop]; omega), List.flatMap_cons]
      · cases h
    · cases h
theorem rowsOf_enc {α : Type} {k : Nat} {encV : α → List V} {encM : α → List Value} {dec : List V → Option α} (E : Elm k encV encM dec) : ∀ (D : List α) (R : List V), rowsOf k dec D.length (D.flatMap encV ++ R) = some D
  | [], R => rfl
  | a :: D, R => by
    rw [List.length_cons, List.flatMap_cons, List.append_assoc]
    unfold rowsOf
    rw [List.take_left' (E.lenV a), E.back, List.drop_left' (E.lenV a), rowsOf_enc E D R]
theorem flat_get {α β : Type} {enc : α → List β} {k : Nat} (hk : 0 < k) : ∀ {l : List α} (_ : ∀ a ∈ l, (enc a).length = k) (t : Nat), (l.flatMap enc)[t]? = (l[t / k]?).bind fun a => (enc a)[t % k]?
  | [], _, t => by simp
  | a :: l, h, t => by
    have ha := h a (by simp)
    rw [List.flatMap_cons]
    by_cases ht : t < k
    · rw [List.getElem?_append_left (by omega), Nat.div_eq_of_lt ht, Nat.mod_eq_of_lt ht]; rfl
    · obtain ⟨s, rfl⟩ : ∃ s, t = s + k := ⟨t - k, by omega⟩
      rw [List.getElem?_append_right (by omega), ha, Nat.add_sub_cancel, flat_get hk (fun b hb => h b (by simp [hb])) s, Nat.add_div_right s hk, Nat.add_mod_right, List.getElem?_cons_succ]
theorem flatK_get {α : Type} [Inhabited α] {enc : α → List Value} {k : Nat} (hk : 0 < k) (hl : ∀ a, (enc a).length = k) (D : List α) (t : Nat) (ht : t < D.length * k) : ∃ (hd : t / k < D.length), (enc D[t / k])[t % k]? = some (flatK enc k D.toArray)[t]! := by
  have hd : t / k < D.length := Nat.div_lt_of_lt_mul (by rw [Nat.mul_comm]; exact ht)
  refine ⟨hd, ?_⟩
  rw [get_flatK enc k D.toArray t (by simpa using ht)]
  have e1 : D.toArray[t / k]! = D[t / k] := by rw [getElem!_pos D.toArray (t / k) (by simpa using hd)]; simp
  have hm : t % k < (enc D[t / k]).length := by rw [hl]; exact Nat.mod_lt _ hk
  rw [e1, getElem!_pos (enc D[t / k]) (t % k) hm, List.getElem?_eq_getElem hm]
/-- Draws, and blocks that nothing stands for. -/
theorem Stp.far {ι : Mp} {h : Heap} {w : World} (hr : Rel ι h w) (n : Nat) (os : Array Obj) : Stp ι h w ι h (Go.Sort.grow (Go.Sort.ahead w n) os) := by
  have hh : ∀ b, b < w.heap.size → (Go.Sort.grow (Go.Sort.ahead w n) os).heap[b]? = w.heap[b]? := fun b hb => by
    show (w.heap ++ os)[b]? = _
    rw [Array.getElem?_append_left hb]
  refine ⟨.refl ι, fun _ _ x => .inl x, ⟨fun id pl o a b => ?_, hr.sep⟩, fun _ x => .inl x, fun _ x => .inl x, rfl, rfl, rfl, ?_, fun b hb _ => hh b hb, Nat.le_refl _, Nat.le_add_right _ _⟩
  · have := hr.ok id pl o a b
    exact this.mono (.refl ι) fun ha => hh _ (this.lt ha)
  · show w.heap.size ≤ (w.heap ++ os).size
    rw [Array.size_append]; omega
theorem mapBlock_eq {w : World} {blk : Nat} {C : Array Value} {E : TypeId} {fz : Nat × Nat} (f : Array Value → Array Value) (n : Nat) (h : w.heap[blk]? = some (.cells C E fz)) : mapBlock (Go.Sort.ahead w n) blk f = Go.Sort.ahead { w with heap := w.heap.setIfInBounds blk (.cells (f C) E fz) } n := by
  have hlt : blk < w.heap.size := (Array.getElem?_eq_some_iff.1 h).1
  have : w.heap.modify blk (onCells f) = w.heap.setIfInBounds blk (.cells (f C) E fz) := by
    apply Array.ext_getElem?
    intro j
    rw [Array.getElem?_modify]
    by_cases hj : blk = j
    · subst hj
      rw [if_pos rfl, Array.getElem?_setIfInBounds_self_of_lt hlt, h]; rfl
    · rw [if_neg hj, Array.getElem?_setIfInBounds_ne hj]
  unfold mapBlock Go.Sort.ahead
  simp only [this]
section
variable {α : Type} [Inhabited α] {k : Nat} {encV : α → List V} {encM : α → List Value} {dec : List V → Option α} {cf : α → α → Int}
theorem SrtOK.srt (hO : SWO (ltOf cf)) (hsw : ∀ x y, cf y x = - cf x y) (h0 : ∀ x y, cf x y = 0 → x = y) {D D' : List α} (hp : D'.Perm D) (hs : ∀ i j, i < j → j < D'.length → ltOf cf D'[j]! D'[i]! = false) : D' = srtL cf D := by
  have hle : ∀ x y, (cf x y ≤ 0) ↔ ltOf cf y x = false := fun x y => by unfold ltOf; rw [hsw x y]; simp
  refine List.Perm.eq_of_pairwise (le := fun x y => (decide (cf x y ≤ 0)) = true) (fun a b _ _ h1 h2 => ?_) ?_ ?_ (hp.trans (List.mergeSort_perm _ _).symm)
  · have h1 := of_decide_eq_true h1
    have h2 := of_decide_eq_true h2
    rw [hsw a b] at h2
    exact h0 a b (by omega)
  · rw [List.pairwise_iff_getElem]
    intro i j hi hj hij
    have := hs i j hij hj
    rw [getElem!_pos D' j hj, getElem!_pos D' i hi] at this
    exact decide_eq_true ((hle _ _).2 this)
  · refine List.pairwise_mergeSort (fun a b c h1 h2 => ?_) (fun a b => ?_) D
    · have h1 := (hle _ _).1 (of_decide_eq_true h1)
      have h2 := (hle _ _).1 (of_decide_eq_true h2)
      exact decide_eq_true ((hle _ _).2 (hO.ntrans c b a h2 h1))
    · rw [Bool.or_eq_true, decide_eq_true_eq, decide_eq_true_eq, hsw a b]; omega
theorem srtHook_goes {P : Program} {ρ : Ren} {H0 : Hooks} (hm : P.follows .mixedOrders = true) (hN : Named P) (hH : SoundH P H0) (E : Elm k encV encM dec) (L : SlLaysF0.n6 P ρ) (aE : ∀ w, (isAgg (ρ.t 24)).run P w = .ok true w) (zE : ∀ w, (Go.sizeOf (ρ.t 24)).run P w = .ok k w)
    (hO : SWO (ltOf cf)) (hsw : ∀ x y, cf y x = - cf x y) (h0 : ∀ x y, cf x y = 0 → x = y) {f : FuncId} (hfe : ρ.f 6 = f) {fn : Func} {code : Code} (hf : P.funcs[f]? = some fn) (hb : fn.body = some code) {G : FuncId} (eg : ∀ args w, (callFunc G args).run P w = .ok (.enter G args) w)
    (hcmp : ∀ (W : World) (x y : α), Calls P G #[.agg (encM x).toArray, .agg (encM y).toArray] W fun e w' => e = .returned (.int .i64 (cf x y)) ∧ ∃ q os', w' = Go.Sort.grow (W.drewN q) os')
    {args : List V} {h : Heap} {v : V} {h' : Heap} (q : srtHook k encV dec cf G (callE P H0 f) args h = some (v, h')) (ι : Mp) (w : World) (A : Array Value) (hr : Rel ι h w) (ha : RVs ι args A.toList) (hfr : Free ι h.length h'.length) :
    CallsTo P f A w fun x w' => ∃ κ, RV κ v x ∧ Stp ι h w κ h' w' := by
  have fall : callE P H0 f args h = some (v, h') → CallsTo P f A w fun x w' => ∃ κ, RV κ v x ∧ Stp ι h w κ h' w' := fun q => sound_of hm hN hH f args h v h' q ι w A hr ha hfr
  unfold srtHook at q
  split at q
  · rename_i id off n c g
    split at q
    · rename_i C kd hc
      split at q
      · rename_i D hD
        split at q
        · rename_i hcond
          obtain ⟨rfl, hkd, hle, hn1, hn2⟩ := hcond
          cases q
          obtain ⟨hDl, hDe⟩ := rowsOf_eq E hD
          have hDe := hDe (by rw [List.length_drop]; omega)
          have hpos := E.pos
          obtain ⟨X, l1, e1, hX, hl1⟩ := ha.head
          obtain ⟨Y, l2, e2, hY, hl2⟩ := hl1.head
          have e3 := hl2.nil_inv
          subst e3; subst e2
          have hA : A = #[X, Y] := Array.toList_inj.1 e1
          subst hA
          obtain ⟨Ad, c', pl, rfl, hpl, _, _, _, hAd⟩ := hX.slice_at
          obtain rfl := hAd (by omega)
          obtain rfl : Y = .func (.func g) #[] #[] := by
            cases hY with
            | func f a b A B haa hbb h1 h2 =>
              have e1 : A = #[] := Array.eq_empty_of_size_eq_zero haa.symm
              have e2 : B = #[] := Array.eq_empty_of_size_eq_zero hbb.symm
              rw [e1, e2]
          obtain ⟨C', E', fz, g1, g2, g3, g4⟩ := hr.ok id pl _ hpl hc
          have hblk : pl.blk < w.heap.size := (Array.getElem?_eq_some_iff.1 g1).1
          have hget : ∀ t, t < n * k → ∀ (hd : t / k < D.length), C[off + t]? = (encV D[t / k])[t % k]? := fun t ht hd => by
            have h1 : ((C.drop off).take (n * k))[t]? = (D.flatMap encV)[t]? := by rw [hDe]
            rw [List.getElem?_take_of_lt ht, List.getElem?_drop, flat_get hpos (fun a _ => E.lenV a), List.getElem?_eq_getElem hd] at h1
            exact h1
          have hfzok : w.frozen? ⟨pl.blk, 0, none⟩ = false ∨ True := .inr trivial
          have hCs : ∀ t, t < n * k → pl.off + off + t < C'.size := fun t ht => by
            have hlt : off + t < C.length := by omega
            obtain ⟨_, c, hc', _⟩ := g2 (off + t) C[off + t] (List.getElem?_eq_getElem hlt)
            have := (Array.getElem?_eq_some_iff.1 hc').1
            omega
          have hH2 : HoldsK encM k w pl.blk (pl.off + off) D.toArray := by
            intro j hj
            rw [size_flatK] at hj
            have hj' : j < D.length * k := by simpa using hj
            obtain ⟨hd, hfk⟩ := flatK_get hpos E.lenM D j hj'
            rw [hDl] at hj'
            have hvl : j % k < (encV D[j / k]).length := by rw [E.lenV]; exact Nat.mod_lt _ hpos
            have hcv := hget j hj' hd
            rw [List.getElem?_eq_getElem hvl] at hcv
            obtain ⟨_, cc, hcc, hrv⟩ := g2 _ _ hcv
            have hu := E.uniq ι D[j / k] (j % k) _ cc (List.getElem?_eq_getElem hvl) hrv
            rw [hfk] at hu
            have hu := Option.some.inj hu
            constructor
            · show w.cell? ⟨pl.blk, pl.off + off + j, none⟩ = some (_root_.id (flatK encM k D.toArray)[j]!)
              rw [cell_of_row w _ _ _ _ _ g1, Nat.add_assoc, hcc, hu]; rfl
            · simp only [World.frozen?, g1]
              have := hCs j hj'
              rcases g3 hkd with z | ⟨z, _⟩
              · simp [z]
              · simp only [Bool.and_eq_false_iff, decide_eq_false_iff_not]; left; omega
          have hlaid : CmpLays P g #[] encM k cf pl.blk (pl.off + off) D.toArray.size w := fun m os dk _ x y => hcmp _ x y
          have hsz : D.toArray.size < 4611686018427387904 := by simp [hDl]; exact hn2
          have hcon := AnyQ.slices_SortFunc L k aE zE encM E.lenM E.one cf hO g #[] pl.blk (pl.off + off) c' D.toArray w eg hlaid hH2 hblk hsz
          rw [hfe] at hcon
          have hsize : D.toArray.size = n := by simp [hDl]
          rw [hsize] at hcon
          left
          have hnm := hN f fn hf
          refine ⟨by simp [callFunc, hf, hb, hnm], hcon.mono ?_⟩
          rintro e w' ⟨rfl, d', m, os, hperm, hsorted, rfl⟩
          obtain ⟨hps, _, hpp⟩ := hperm
          have hd'n : d'.size = n := by rw [hps, hsize]
          have hpp' : d'.toList.Perm D := by
            rw [show n = d'.size from hd'n.symm] at hpp
            have h1 : d'.extract 0 d'.size = d' := by simp
            have h2 : D.toArray.extract 0 d'.size = D.toArray := by rw [hd'n, ← hsize]; simp
            rw [h1, h2] at hpp
            exact hpp
          have hD' : d'.toList = srtL cf D := SrtOK.srt hO hsw h0 hpp' fun i j hij hj => by
            have hj' : j < d'.size := by simpa using hj
            have := hsorted i j (Nat.zero_le _) hij (by omega)
            rw [getElem!_pos d' j hj', getElem!_pos d' i (by omega)] at this
            rw [getElem!_pos d'.toList j hj, getElem!_pos d'.toList i (by omega)]
            simpa using this
          refine ⟨_, rfl, ι, .tuple [] #[] rfl (fun i v c h => by simp at h), ?_⟩
          rw [← hD']
          have hdl : d'.toList.length = n := by simpa using hd'n
          have hlen' : (d'.toList.flatMap encV).length = n * k := by rw [← hdl]; exact flatMap_len fun a _ => E.lenV a
          have hds : d' = d'.toList.toArray := by simp
          have hstu : Stp ι h w ι (h.set id (.cells (splice C off (d'.toList.flatMap encV)) kd)) { w with heap := w.heap.setIfInBounds pl.blk (.cells (putCells (fun v => v) (pl.off + off) (flatK encM k d') C') E' fz) } := by
            refine Stp.upd hr hpl hc (by cases kd <;> first | rfl | exact absurd rfl hkd) ?_
            refine ⟨_, E', fz, Array.getElem?_setIfInBounds_self_of_lt hblk, ?_, ?_, g4.1, ?_⟩
            · intro i v hv
              unfold splice at hv
              rw [splice_get _ _ _ (by rw [hlen']; exact hle)] at hv
              unfold putCells
              rw [Array.getElem?_mapIdx]
              rw [size_flatK, hd'n]
              split at hv
              · rename_i hin
                rw [hlen'] at hin
                rw [flat_get hpos (fun a _ => E.lenV a)] at hv
                have hlt : i - off < d'.toList.length * k := by rw [hdl]; omega
                obtain ⟨hd, hfk⟩ := flatK_get hpos E.lenM d'.toList (i - off) hlt
                rw [List.getElem?_eq_getElem hd] at hv
                have hv : (encV d'.toList[(i - off) / k])[(i - off) % k]? = some v := hv
                have hlf := List.all_eq_true.1 (E.leaf d'.toList[(i - off) / k]) v (List.mem_of_getElem? hv)
                have hCi := hCs (i - off) (by omega)
                refine ⟨hlf, (flatK encM k d')[i - off]!, ?_, (E.enc ι _).2 _ _ _ hv (by rw [hfk, ← hds])⟩
                rw [Array.getElem?_eq_getElem (show pl.off + i < C'.size by omega), Option.map_some, if_pos ⟨by omega, by omega⟩]
                rw [show pl.off + i - (pl.off + off) = i - off by omega]
              · rename_i hin
                rw [hlen'] at hin
                obtain ⟨hlf, cc, hcc, hrv⟩ := g2 i v hv
                refine ⟨hlf, cc, ?_, hrv⟩
                rw [hcc, Option.map_some, if_neg (by omega)]
            · intro hk'
              unfold putCells
              rw [Array.size_mapIdx]
              exact g3 hk'
            · intro e hg
              obtain ⟨p1, p2, p3, q3⟩ := g4.2 e hg
              have hsl : (splice C off (d'.toList.flatMap encV)).length = C.length := by unfold splice; exact splice_length _ _ _ (by rw [hlen']; exact hle)
              unfold putCells
              refine ⟨p1, p2, by rw [Array.size_mapIdx]; exact p3, fun j hj hlt => ?_⟩
              rw [hsl] at hj
              obtain ⟨v, cc, hl, hc1, hc2⟩ := q3 j hj hlt
              refine ⟨v, cc, hl, ?_, hc2⟩
              rw [Array.getElem?_mapIdx, hc1, Option.map_some, size_flatK, hd'n, if_neg (by omega)]
          have hw : sortWorldK encM k w pl.blk (pl.off + off) m d' os = Go.Sort.grow (Go.Sort.ahead { w with heap := w.heap.setIfInBounds pl.blk (.cells (putCells (fun v => v) (pl.off + off) (flatK encM k d') C') E' fz) } m) os := by
            unfold sortWorldK putRowK putRow
            rw [mapBlock_eq _ m g1]; rfl
          rw [hw]
          exact hstu.trans (Stp.far hstu.rel m os)
        · exact fall q
      · exact fall q
    · exact fall q
  · exact fall q
theorem srtHook_mono {P : Program} {H0 : Hooks} (hm : P.follows .mixedOrders = true) (hH : SoundH P H0) {f G : FuncId} {args : List V} {h : Heap} {r : V × Heap} (q : srtHook k encV dec cf G (callE P H0 f) args h = some r) : Mono h r.2 := by
  have fall : callE P H0 f args h = some r → Mono h r.2 := fun q => callE_mono hm hH q
  unfold srtHook at q
  split at q
  · split at q
    · rename_i C kd hc
      split at q
      · split at q
        · cases q
          exact Mono.set hc (by simp)
        · exact fall q
      · exact fall q
    · exact fall q
  · exact fall q
end
end Go.Proofs.YtpmlphefdoaohaaA
