/- Words of this session: conversions, slicing, making and building of the second reading hold of the model. -/
import Derived.Test.YtcaolnmpldbkjaaGreatAx5
import Derived.Laws.BytesString
import Derived.Laws.MakeOwn
namespace Go.Proofs.YtcaolnmpldbkjaaGreatA
open Go Go.RowKit
set_option linter.unusedVariables false
set_option linter.unusedSimpArgs false

section
variable {P : Program} {ι : Mp} {t : List V} {a : Act} {h h' : Heap} {w : World}

/-! ### slicing -/
theorem boundV_none {d top n : Nat} (hb : boundV none d top = some n) : n = d := by cases hb; rfl
theorem boundV_some {v : V} {d top n : Nat} (hb : boundV (some v) d top = some n) {X : Value} (hx : RV ι v X) (top' : Nat) (ht : top ≤ top') : (∀ (code : BoundsCode) (w : World), (Instr.sliceBound X top' code).run P w = .ok n w) ∧ n ≤ top := by
  unfold boundV at hb
  split at hb
  · rename_i e; cases e
  · rename_i k i e
    cases e
    split at hb
    · rename_i hc
      cases hb
      cases hx
      have : 0 ≤ i ∧ i ≤ (top' : Int) := ⟨hc.1, by omega⟩
      exact ⟨fun code w => by simp [Instr.sliceBound, asIntOf, this], by omega⟩
    · cases hb
  · cases hb
theorem evO_rv (ht : RVs ι t a.tmps.toList) {x : Option Operand} {v : Option V} (h : evO t x = some v) : (∀ u, v = some u → ∃ c, x.map a.eval = some c ∧ RV ι u c) ∧ (v = none → x.map a.eval = none) := by
  cases x with
  | none => cases h; exact ⟨fun u h => (by cases h), fun _ => rfl⟩
  | some x =>
    unfold evO at h
    cases hq : ev t x with
    | none => simp [hq] at h
    | some u => simp [hq] at h; subst h; exact ⟨fun u' e => (by cases e; exact ⟨_, rfl, ev_rv ht hq⟩), fun e => by cases e⟩
theorem bounds_run {len c : Nat} {cap : Option Nat} (hcap : cap = some c ∨ cap = none) (hlc : len ≤ c) {lo hi mx : Option V} {LO HI MX : Option Value}
    (hlo : (∀ u, lo = some u → ∃ c, LO = some c ∧ RV ι u c) ∧ (lo = none → LO = none)) (hhi : (∀ u, hi = some u → ∃ c, HI = some c ∧ RV ι u c) ∧ (hi = none → HI = none)) (hmx : (∀ u, mx = some u → ∃ c, MX = some c ∧ RV ι u c) ∧ (mx = none → MX = none))
    (size : Nat) (p : Option (Nat × Nat)) {r : V} (hs : sliceV h size p len cap lo hi mx = some r) (b : Bool) (w : World) :
    ∃ l hh m : Nat, (Instr.sliceBounds b len c LO HI MX).run P w = .ok (l, hh, m) w ∧ l ≤ hh ∧ hh ≤ m ∧ m ≤ c ∧
      (r = .slice (if m = l then p else advV size l p) (hh - l) (some (m - l)) ∨ (mx = none ∧ cap = none ∧ m = c ∧ hh ≤ len ∧ fitsV h size p = true ∧ r = .slice (advV size l p) (hh - l) none)) := by
  have htop : cap.getD len ≤ c := by rcases hcap with e | e <;> subst e <;> simp; exact hlc
  cases mx with
  | some mv =>
    obtain ⟨MX', rfl, hMX⟩ := hmx.1 _ rfl
    simp only [sliceV] at hs
    split at hs
    · rename_i m hv hm
      obtain ⟨HI', rfl, hHI⟩ := hhi.1 _ rfl
      obtain ⟨r1, b1⟩ := boundV_some (P := P) hm hMX c htop
      split at hs
      · rename_i hh hhh
        obtain ⟨r2, b2⟩ := boundV_some (P := P) hhh hHI m (Nat.le_refl _)
        split at hs
        · rename_i l hl
          cases hs
          cases lo with
          | none =>
            obtain rfl := hlo.2 rfl
            obtain rfl := boundV_none hl
            exact ⟨0, hh, m, by simp [Instr.sliceBounds, r1, r2], by omega, b2, by omega, .inl rfl⟩
          | some lv =>
            obtain ⟨LO', rfl, hLO⟩ := hlo.1 _ rfl
            obtain ⟨r3, b3⟩ := boundV_some (P := P) hl hLO hh (Nat.le_refl _)
            exact ⟨l, hh, m, by simp [Instr.sliceBounds, r1, r2, r3], b3, b2, by omega, .inl rfl⟩
        · cases hs
      · cases hs
    · cases hs
  | none =>
    obtain rfl := hmx.2 rfl
    simp only [sliceV] at hs
    split at hs
    · rename_i hh hhh
      split at hs
      · rename_i l hl
        have key : ∃ f : l ≤ hh ∧ hh ≤ c ∧ (cap = none → hh ≤ len), (Instr.sliceBounds b len c LO HI none).run P w = .ok (l, hh, c) w := by
          cases hi with
          | none =>
            obtain rfl := hhi.2 rfl
            obtain rfl := boundV_none hhh
            cases lo with
            | none =>
              obtain rfl := hlo.2 rfl
              obtain rfl := boundV_none hl
              exact ⟨⟨by omega, hlc, fun _ => Nat.le_refl _⟩, by simp [Instr.sliceBounds]⟩
            | some lv =>
              obtain ⟨LO', rfl, hLO⟩ := hlo.1 _ rfl
              obtain ⟨r3, b3⟩ := boundV_some (P := P) hl hLO _ (Nat.le_refl _)
              exact ⟨⟨b3, hlc, fun _ => Nat.le_refl _⟩, by simp [Instr.sliceBounds, r3]⟩
          | some hv =>
            obtain ⟨HI', rfl, hHI⟩ := hhi.1 _ rfl
            obtain ⟨r2, b2⟩ := boundV_some (P := P) hhh hHI c htop
            have b2' : cap = none → hh ≤ len := fun e => by subst e; simpa using b2
            cases lo with
            | none =>
              obtain rfl := hlo.2 rfl
              obtain rfl := boundV_none hl
              exact ⟨⟨by omega, by omega, b2'⟩, by simp [Instr.sliceBounds, r2]⟩
            | some lv =>
              obtain ⟨LO', rfl, hLO⟩ := hlo.1 _ rfl
              obtain ⟨r3, b3⟩ := boundV_some (P := P) hl hLO _ (Nat.le_refl _)
              exact ⟨⟨b3, by omega, b2'⟩, by simp [Instr.sliceBounds, r2, r3]⟩
        obtain ⟨⟨f1, f2, f3⟩, hrun⟩ := key
        refine ⟨l, hh, c, hrun, f1, f2, Nat.le_refl _, ?_⟩
        rcases hcap with e | e
        · subst e
          simp only [Option.some.injEq] at hs
          exact .inl hs.symm
        · subst e
          simp only at hs
          split at hs
          · rename_i hfit
            cases hs
            exact .inr ⟨rfl, rfl, rfl, f3 rfl, hfit, rfl⟩
          · cases hs
      · cases hs
    · cases hs
theorem slice_inv {p : Option (Nat × Nat)} {len : Nat} {cap : Option Nat} {X : Value} (h : RV ι (.slice p len cap) X) : ∃ A c, X = .slice A len c ∧ len ≤ c ∧ (cap = some c ∨ cap = none) := by
  cases h with
  | sliceN => exact ⟨none, 0, rfl, Nat.le_refl _, .inl rfl⟩
  | slice id off _ _ c A pl hi hs =>
    refine ⟨some A, c, rfl, ?_⟩
    rcases hs with ⟨h1, h2, h3⟩ | hs
    · exact ⟨by omega, .inl (by rw [h2, h3])⟩
    cases cap with
    | some n => exact ⟨(by have := hs.2.2.2.1; have := hs.2.2.1; omega), .inl (by rw [hs.2.2.1])⟩
    | none => rcases hs.2.2 with q | q
              · exact ⟨q.2.1, .inr rfl⟩
              · exact ⟨by omega, .inr rfl⟩
/-- The slice that slicing gives. -/
theorem sliced_rv (hr : Rel ι h w) {p : Option (Nat × Nat)} {len c size l hh m : Nat} {cap : Option Nat} {A : Option Addr} {r : V} {mx : Option V} (hv : RV ι (.slice p len cap) (.slice A len c)) (h1 : l ≤ hh) (h2 : hh ≤ m) (h3 : m ≤ c)
    (hc : r = .slice (if m = l then p else advV size l p) (hh - l) (some (m - l)) ∨ (mx = none ∧ cap = none ∧ m = c ∧ hh ≤ len ∧ fitsV h size p = true ∧ r = .slice (advV size l p) (hh - l) none)) :
    RV ι r (.slice (if m = l then A else A.map (·.add (l * size))) (hh - l) (m - l)) := by
  cases hv with
  | sliceN =>
    have hm : m = 0 := by omega
    have hl : l = 0 := by omega
    have hh0 : hh = 0 := by omega
    subst hm; subst hl; subst hh0
    rcases hc with rfl | ⟨_, e, _⟩
    · exact .sliceN
    · cases e
  | slice id off _ _ _ A pl hi hs =>
    rcases hs with ⟨rfl, rfl, rfl⟩ | hs
    · obtain rfl : m = 0 := by omega
      obtain rfl : l = 0 := by omega
      obtain rfl : hh = 0 := by omega
      rcases hc with rfl | ⟨_, e, _⟩
      · exact .slice _ _ _ _ _ _ pl hi (.inl ⟨rfl, rfl, rfl⟩)
      · cases e
    obtain ⟨hb, hsp, hs⟩ := hs
    have hadd : ∀ n, A.off = pl.off + off → (A.add n) = ⟨pl.blk, pl.off + off + n, none⟩ := by
      intro n e1
      cases A; simp at e1 hb hsp; subst e1; subst hb; subst hsp
      exact addr_add _ _ _
    -- the first form, wherever the address is told or nothing is left
    have first : (m = 0 ∨ A.off = pl.off + off) → RV ι (.slice (if m = l then some (id, off) else advV size l (some (id, off))) (hh - l) (some (m - l))) (.slice (if m = l then some A else (some A).map (·.add (l * size))) (hh - l) (m - l)) := by
      intro hq
      by_cases hml : m = l
      · rw [if_pos hml, if_pos hml]
        exact .slice _ _ _ _ _ _ pl hi (.inr ⟨hb, hsp, rfl, by omega, .inl (by omega)⟩)
      · have e3 : A.off = pl.off + off := by omega
        rw [if_neg hml, if_neg hml]
        simp only [Option.map_some, hadd _ e3]
        exact .slice _ _ _ _ _ _ pl hi (.inr ⟨rfl, rfl, rfl, by omega, .inr (by simp [Nat.add_assoc])⟩)
    cases cap with
    | some n =>
      obtain ⟨e, e2, e3⟩ := hs
      subst e
      rcases hc with rfl | ⟨_, e, _⟩
      · exact first (by omega)
      · cases e
    | none =>
      rcases hc with rfl | ⟨hmx, _, rfl, hle, hfit, rfl⟩
      · refine first ?_
        rcases hs with ⟨e3, _⟩ | ⟨e5, e6⟩
        · exact .inr e3
        · exact .inl (by omega)
      · rcases hs with ⟨e3, e2, e4⟩ | ⟨e5, e6⟩
        · by_cases hml : m = l
          · rw [if_pos hml]
            exact .slice _ _ _ _ _ _ pl hi (.inr ⟨hb, hsp, .inr ⟨by omega, by omega⟩⟩)
          · rw [if_neg hml]
            simp only [Option.map_some, hadd _ e3]
            refine .slice _ _ _ _ _ _ pl hi (.inr ⟨rfl, rfl, .inl ⟨by simp [Nat.add_assoc], by omega, fun hg => ?_⟩⟩)
            have hsz : pl.esz = size := by
              simp only [fitsV] at hfit
              split at hfit
              · rename_i cs hcs
                obtain ⟨C, E, fz, _, _, _, q, _⟩ := hr.ok id pl _ hi hcs
                rw [q rfl] at hg; cases hg
              · rename_i cs e hcs
                obtain ⟨C, E, fz, _, _, _, _, q⟩ := hr.ok id pl _ hi hcs
                rw [(q e rfl).2.1]; simpa using hfit
              · cases hfit
            have := e4 hg
            rw [hsz] at this ⊢
            rw [← this, Nat.sub_mul]
            have : l * size ≤ m * size := Nat.mul_le_mul_right _ (by omega)
            omega
        · have : (if m = l then some A else (some A).map (·.add (l * size))) = some A := by rw [if_pos (by omega)]
          rw [this]
          exact .slice _ _ _ _ _ _ pl hi (.inr ⟨hb, hsp, .inr ⟨by omega, by omega⟩⟩)
theorem slice_out (hr : Rel ι h w) (ht : RVs ι t a.tmps.toList) {ty : TypeId} {x : Operand} {lo hi mx : Option Operand} {r : V × Heap} (hp : p_slice P t h ty x lo hi mx = some r) :
    Out P (do pure (.value (← Instr.sliceAt ty (a.eval x) (lo.map a.eval) (hi.map a.eval) (mx.map a.eval)))) w ι h r.1 r.2 := by
  unfold p_slice at hp
  split at hp
  · rename_i v l1 l2 l3 hx hlo hhi hmx
    cases hq : sliceOp P h ty v l1 l2 l3 with
    | none => simp [hq] at hp
    | some z =>
      simp [hq] at hp; subst hp
      have e := ev_rv ht hx
      have elo := evO_rv ht hlo
      have ehi := evO_rv ht hhi
      have emx := evO_rv ht hmx
      refine .val hr ?_
      unfold sliceOp at hq
      split at hq
      · -- a string
        rename_i s hu
        generalize a.eval x = q at e
        cases e with | str _ B hB =>
        have hlen : s.length = B.size := by rw [← hB, bytesOf_length]
        split at hq
        · rename_i hh hhh
          rw [hlen] at hhh
          obtain hmx0 := emx.2 rfl
          split at hq
          · rename_i l hl
            cases hq
            have hrun : (Instr.sliceBounds false B.size B.size (lo.map a.eval) (hi.map a.eval) none).run P w = .ok (l, hh, B.size) w ∧ l ≤ hh ∧ hh ≤ B.size := by
              cases l2 with
              | none =>
                rw [ehi.2 rfl]
                obtain rfl := boundV_none hhh
                cases l1 with
                | none =>
                  rw [elo.2 rfl]
                  obtain rfl := boundV_none hl
                  exact ⟨by simp [Instr.sliceBounds], by omega, by omega⟩
                | some lv =>
                  obtain ⟨L, hL, hLO⟩ := elo.1 _ rfl
                  obtain ⟨r3, b3⟩ := boundV_some (P := P) hl hLO _ (Nat.le_refl _)
                  rw [hL]
                  exact ⟨by simp [Instr.sliceBounds, r3], b3, by omega⟩
              | some hv =>
                obtain ⟨H, hH, hHI⟩ := ehi.1 _ rfl
                obtain ⟨r2, b2⟩ := boundV_some (P := P) hhh hHI B.size (Nat.le_refl _)
                rw [hH]
                cases l1 with
                | none =>
                  rw [elo.2 rfl]
                  obtain rfl := boundV_none hl
                  exact ⟨by simp [Instr.sliceBounds, r2], by omega, b2⟩
                | some lv =>
                  obtain ⟨L, hL, hLO⟩ := elo.1 _ rfl
                  obtain ⟨r3, b3⟩ := boundV_some (P := P) hl hLO _ (Nat.le_refl _)
                  rw [hL]
                  exact ⟨by simp [Instr.sliceBounds, r2, r3], b3, b2⟩
            obtain ⟨hrun, b1, b2⟩ := hrun
            refine ⟨.string (B.extract l hh), ?_, .str _ _ ?_⟩
            · rw [hmx0]
              simp [Instr.sliceAt, Instr.slice, under_run hu, hrun]
            · rw [← hB]
              simp [bytesOf, ByteArray.data_extract, Array.toList_extract, List.map_take, List.map_drop]
              rw [List.drop_take]
          · cases hq
        · cases hq
      · rename_i el p len cap hu
        split at hq
        · rename_i n hn
          obtain ⟨A, c, hX, hlc, hcap⟩ := slice_inv e
          obtain ⟨l, hh, m, hrun, b1, b2, b3, hc⟩ := bounds_run (P := P) hcap hlc elo ehi emx n p hq true w
          refine ⟨_, ?_, sliced_rv hr (hX ▸ e) b1 b2 b3 hc⟩
          rw [hX]
          simp [Instr.sliceAt, Instr.slice, under_run hu, hrun, szT_run hn]
        · cases hq
      · rename_i n el id off hu
        split at hq
        · rename_i z' hn
          generalize a.eval x = q at e
          cases e with
          | ptr _ _ pl hi =>
            have e' : RV ι (.slice (some (id, off)) n (some n)) (.slice (some ⟨pl.blk, pl.off + off, none⟩) n n) := .slice _ _ _ _ _ _ pl hi (.inr ⟨rfl, rfl, rfl, Nat.le_refl _, .inr rfl⟩)
            obtain ⟨l, hh, m, hrun, b1, b2, b3, hc⟩ := bounds_run (P := P) (.inl rfl) (Nat.le_refl n) elo ehi emx z' _ hq false w
            have rv := sliced_rv hr e' b1 b2 b3 hc
            refine ⟨_, ?_, rv⟩
            simp [Instr.sliceAt, Instr.sureAddr, under_run hu, hrun, szT_run hn]
            split <;> rfl
        · cases hq
      · cases hq
  · cases hp

/-! ### conversions -/
theorem bytesIn_ints : ∀ {cs : List V} {s : List Int}, bytesIn cs = some s → cs = s.map (.int .u8) ∧ ∀ n ∈ s, 0 ≤ n ∧ n < 256
  | [], s, h => by cases h; exact ⟨rfl, fun n h => by cases h⟩
  | c :: cs, s, h => by
    unfold bytesIn at h
    split at h
    · rename_i e; cases e
    · rename_i n vs e
      cases e
      split at h
      · rename_i hn
        cases hq : bytesIn cs with
        | none => simp [hq] at h
        | some s' =>
          simp [hq] at h; subst h
          obtain ⟨e1, e2⟩ := bytesIn_ints hq
          refine ⟨by rw [e1]; rfl, fun m hm => ?_⟩
          rcases List.mem_cons.1 hm with rfl | hm
          · exact hn
          · exact e2 m hm
      · cases h
    · cases h
theorem bytesOf_push (ns : List Int) (hn : ∀ n ∈ ns, 0 ≤ n ∧ n < 256) (s : ByteArray) : bytesOf (ns.foldl (fun r n => r.push (UInt8.ofNat n.toNat)) s) = bytesOf s ++ ns := by
  induction ns generalizing s with
  | nil => simp
  | cons n ns ih =>
    rw [List.foldl_cons, ih (fun m hm => hn m (by simp [hm]))]
    have h1 := hn n (by simp)
    have : bytesOf (s.push (UInt8.ofNat n.toNat)) = bytesOf s ++ [n] := by
      simp only [bytesOf, ByteArray.push, Array.toList_push, List.map_append, List.map_cons, List.map_nil]
      congr 2
      have : (UInt8.ofNat n.toNat).toNat = n.toNat := by
        rw [UInt8.toNat_ofNat']; exact Nat.mod_eq_of_lt (by omega)
      rw [this]; omega
    rw [this]; simp
theorem rvs_ints {s : List Int} {C : List Value} (h : RVs ι (s.map (.int .u8)) C) : C = s.map (.int .u8) := by
  induction s generalizing C with
  | nil => exact h.nil_inv
  | cons n s ih =>
    obtain ⟨c, C', rfl, hc, h'⟩ := RVs.head h
    cases hc
    rw [ih h']; rfl
theorem ints_rvs (ι : Mp) (s : List Int) : RVs ι (s.map (.int .u8)) (s.map (.int .u8)) :=
  ⟨by simp, fun i v c x y => by
    rw [List.getElem?_map] at x y
    cases hs : s[i]? with
    | none => simp [hs] at x
    | some n => simp [hs] at x y; subst x; subst y; exact .int _ _⟩
/-- A block told anew, for reading alone. -/
theorem Stp.retell {ι : Mp} {h : Heap} {w : World} {fz' : Nat × Nat} (hr : Rel ι h w) (hf : ι h.length = none) {id : Nat} {pl : Pl} {cs : List V} {k : Kd} (hi : ι id = some pl) (hc : h[id]? = some (.cells cs k)) (hk : (O.cells cs k).wr = true) {C : Array Value} {E : TypeId} {fz : Nat × Nat}
    (h1 : w.heap[pl.blk]? = some (.cells C E fz)) (h2 : ∀ (i : Nat) (v : V), cs[i]? = some v → v.leaf = true ∧ ∃ c, C[pl.off + i]? = some c ∧ RV ι v c) :
    Stp ι h w (Go.Proofs.YtcaolnmpldbkjaaGreatA.ext ι h.length ⟨pl.blk, pl.off, 0, 0, false⟩) (h.set id .dead ++ [.cells cs .ro]) { w with heap := w.heap.setIfInBounds pl.blk (.cells C E fz') } := by
  have st := Stp.upd hr hi hc hk (o' := .dead) (x := .cells C E fz') trivial
  have hlt : pl.blk < w.heap.size := (Array.getElem?_eq_some_iff.1 h1).1
  have hidl : id < h.length := (List.getElem?_eq_some_iff.1 hc).1
  have hsub := ext_sub (pl := ⟨pl.blk, pl.off, 0, 0, false⟩) hf
  have hcase : ∀ (j : Nat) (q : Pl) (y : O), Go.Proofs.YtcaolnmpldbkjaaGreatA.ext ι h.length ⟨pl.blk, pl.off, 0, 0, false⟩ j = some q → (h.set id .dead ++ [O.cells cs .ro])[j]? = some y →
      (j = h.length ∧ q = ⟨pl.blk, pl.off, 0, 0, false⟩ ∧ y = .cells cs .ro) ∨ (j < h.length ∧ ι j = some q ∧ (h.set id .dead)[j]? = some y) := by
    intro j q y h3 h4
    by_cases e1 : j = h.length
    · subst e1
      rw [ext_new] at h3
      rw [List.getElem?_append_right (by simp), List.length_set, Nat.sub_self] at h4
      cases h3; cases h4
      exact .inl ⟨rfl, rfl, rfl⟩
    · right
      have hj : j < h.length := by have := (List.getElem?_eq_some_iff.1 h4).1; simp at this; omega
      refine ⟨hj, by simpa [Go.Proofs.YtcaolnmpldbkjaaGreatA.ext, e1] using h3, ?_⟩
      rwa [List.getElem?_append_left (by simpa using hj)] at h4
  refine ⟨hsub, ?_, ⟨?_, ?_⟩, ?_, ?_, rfl, rfl, rfl, st.size, st.frame, by simp, Nat.le_refl _⟩
  · intro j q hq
    by_cases e1 : j = h.length
    · exact .inr ⟨by omega, by simp; omega⟩
    · exact .inl (by simpa [Go.Proofs.YtcaolnmpldbkjaaGreatA.ext, e1] using hq)
  · intro j q y h3 h4
    rcases hcase j q y h3 h4 with ⟨_, rfl, rfl⟩ | ⟨hj, h5, h6⟩
    · refine ⟨C, E, fz', Array.getElem?_setIfInBounds_self_of_lt hlt, fun i v hv => ?_, fun q => absurd rfl q, fun _ => rfl, fun e q => by cases q⟩
      obtain ⟨ul, u, u1, u2⟩ := h2 i v hv
      exact ⟨ul, u, u1, u2.mono hsub⟩
    · exact (st.rel.ok j q y h5 h6).mono hsub fun _ => rfl
  · intro i j pi pj oi oj hij h3 h4 h5 h6 h7 h8
    rcases hcase i pi oi h3 h5 with ⟨_, rfl, rfl⟩ | ⟨hi2, a1, a2⟩
    · cases h7
    · rcases hcase j pj oj h4 h6 with ⟨_, rfl, rfl⟩ | ⟨hj2, b1, b2⟩
      · have hne : i ≠ id := fun e => by
          subst e
          rw [List.getElem?_set_self hidl] at a2; cases a2; cases h7
        rw [List.getElem?_set_ne (Ne.symm hne)] at a2
        exact hr.sep i id pi pl oi _ hne a1 hi a2 hc h7 (O.wr_alive hk)
      · exact st.rel.sep i j pi pj oi oj hij a1 b1 a2 b2 h7 h8
  · rintro b ⟨j, q, y, h3, h4, h5, h6⟩
    rcases hcase j q y h3 h4 with ⟨_, rfl, rfl⟩ | ⟨_, b1, b2⟩
    · cases h5
    · exact st.own b ⟨j, q, y, b1, b2, h5, h6⟩
  · rintro b ⟨j, q, y, h3, h4, h5, h6⟩
    rcases hcase j q y h3 h4 with ⟨_, rfl, rfl⟩ | ⟨_, b1, b2⟩
    · exact .inl ⟨id, pl, _, hi, hc, O.wr_alive hk, h6⟩
    · exact st.alv b ⟨j, q, y, b1, b2, h5, h6⟩
theorem convert_out (hr : Rel ι h w) (ht : RVs ι t a.tmps.toList) {src dst : TypeId} {x : Operand} {r : V × Heap} (hp : p_convert P t h src dst x = some r) (hf : Free ι h.length r.2.length) : Out P (do pure (.value (← convert src dst (a.eval x)))) w ι h r.1 r.2 := by
  unfold p_convert at hp
  split at hp
  · rename_i v hx
    have e := ev_rv ht hx
    generalize a.eval x = q at e
    unfold convV at hp
    split at hp
    · rename_i k k' n hs hd
      cases hp; cases e
      exact .val hr ⟨.int k (k.wrap n), by simp [convert, under_run hd, run_underlying hs, Conv.intToInt], .int _ _⟩
    · rename_i s hs hd
      cases hp; cases e with | str _ B hB =>
      exact .val hr ⟨.string B, by simp [convert, under_run hd, run_underlying hs], .str _ _ hB⟩
    · rename_i ds el s hs hd
      cases e with | str _ B hB =>
      split at hp
      · rename_i he
        simp at hp
        subst hp
        generalize hc : (Question.appendCap B.size 0 el).cut (w.tape w.drawn (.appendCap B.size 0 el)) = cap
        have hcap : B.size ≤ cap := by rw [← hc]; simp [Question.cut]
        have hsl : s.length = B.size := by rw [← hB, bytesOf_length]
        let C : Array Value := (B.data.map fun b => Value.int .u8 b.toNat) ++ Array.replicate (cap - B.size) (.int .u8 0)
        have hCs : C.size = cap := by simp [C]; have : B.data.size = B.size := rfl; omega
        have hst := newC_run (hr.drew) (hf.first (by simp)) (s.map (.int .u8)) (.gr 1) (by simp) C el (C.size, C.size + 1) (.inr ⟨Nat.le_refl _, by simp⟩) (by
          intro i v hv
          rw [List.getElem?_map] at hv
          cases hs' : s[i]? with
          | none => simp [hs'] at hv
          | some n =>
            simp [hs'] at hv; subst hv
            refine ⟨rfl, .int .u8 n, ?_, .int _ _⟩
            rw [← hB] at hs'
            simp only [bytesOf, List.getElem?_map] at hs'
            cases hb : B.data.toList[i]? with
            | none => simp [hb] at hs'
            | some u =>
              simp [hb] at hs'
              have hlt : i < B.data.size := by simpa using (List.getElem?_eq_some_iff.1 hb).1
              have hb' : B.data[i]? = some u := by simpa using hb
              simp only [C]
              rw [Array.getElem?_append_left (by simpa using hlt), Array.getElem?_map, hb']
              simp [← hs']) (by
          intro e he
          cases he
          intro j hj hlt
          refine ⟨.int .u8 0, .int .u8 0, rfl, ?_, .int _ _⟩
          have hBd : (B.data.map fun b => Value.int .u8 b.toNat).size = B.size := by simp
          simp only [List.length_map, Nat.zero_add] at hj
          rw [Nat.zero_add, hCs] at hlt
          simp only [C]
          rw [Array.getElem?_append_right (by rw [hBd]; omega), Array.getElem?_replicate, if_pos (by rw [hBd]; omega)])
        refine .val' ⟨_, _, .slice (some ⟨w.heap.size, 0, none⟩) B.size cap, ?_, ?_, (Stp.drew hr).trans hst⟩
        · have hsh : (w.drew.alloc (.cells C el)).shape? w.heap.size = some (el, C.size) := by
            have := heap_alloc_new w.drew (.cells C el)
            simp only [World.shape?, show w.heap.size = w.drew.heap.size from rfl, this]
          have hfz : (w.drew.alloc (.cells C el)).freeze { block := w.heap.size, off := C.size } 1 = w.drew.alloc (.cells C el (C.size, C.size + 1)) := by
            simp only [World.freeze, World.alloc]
            rw [if_neg (by simp)]
            congr 1
            apply Array.ext_getElem?
            intro j
            rw [Array.getElem?_modify, Array.getElem?_push, Array.getElem?_push]
            have hd : w.drew.heap.size = w.heap.size := rfl
            rw [hd]
            by_cases hj : j = w.heap.size
            · subst hj; simp
            · rw [if_neg (Ne.symm hj), if_neg hj, if_neg hj]
          have hmark : (markStringish ⟨w.heap.size, 0, none⟩).run P (w.drew.alloc (.cells C el)) = .ok () (w.drew.alloc (.cells C el (C.size, C.size + 1))) := by
            simp only [markStringish, Sem.run_bind, run_shape, Result.andThen_ok, hsh, run_freeze, hfz]
          have hq : (Question.appendCap B.size 0 el).forced = false := rfl
          simp only [convert, Sem.run_bind, under_run hd, run_underlying hs, Result.andThen_ok, under_run he, Conv.stringToBytes, run_choose, hq, Bool.false_eq_true, if_false, hc, newRow, run_newObj, World.drew_eq, World.alloc_eq, Sem.run_pure]
          exact (by
            have : (markStringish ⟨w.drew.heap.size, 0, none⟩).run P (w.drew.alloc (.cells C el)) = _ := hmark
            simp only [C] at this ⊢
            rw [this]
            rfl)
        · have hok : SliceOk ⟨w.heap.size, 0, C.size, (Kd.gr 1).sz, true⟩ 0 s.length none cap ⟨w.heap.size, 0, none⟩ := .inr ⟨rfl, rfl, .inl ⟨rfl, by omega, fun _ => by simp [Kd.sz, hCs]⟩⟩
          rw [← hsl]
          exact .slice h.length 0 s.length none cap _ _ (ext_new _ _ _) hok
      · cases hp
    · rename_i el p len c hs hd
      split at hp
      · rename_i he
        cases hp
        cases e
        refine .val hr ⟨.string .empty, ?_, .str _ _ rfl⟩
        rw [run_convert_bytes_string w src dst el _ _ _ hs he hd]
        simp [Conv.bytesToString]
      · rename_i id off he
        split at hp
        · rename_i cs hcs
          cases hq : bytesIn cs with
          | none => simp [hq] at hp
          | some s =>
            simp [hq] at hp; subst hp
            obtain ⟨e1, e2⟩ := bytesIn_ints hq
            obtain ⟨A, c', pl, hX, hpl, _, _, _, hA⟩ := e.slice_at
            obtain ⟨C, hrun, hrv, hlen, _⟩ := loadN_run (P := P) hr hcs hpl
            have hC : C = s.map (.int .u8) := rvs_ints (by rw [← e1]; exact hrv)
            have hload : (loadCells A len).run P w = .ok (s.map (Value.int .u8)).toArray w := by
              by_cases h0 : 0 < len
              · rw [hA h0, ← hC]; exact hrun
              · have : len = 0 := by omega
                subst this
                have : s = [] := by
                  have h9 := hlen; rw [e1] at h9; simpa using h9
                subst this
                rfl
            refine .val hr ⟨.string (s.foldl (fun r n => r.push (UInt8.ofNat n.toNat)) ByteArray.empty), ?_, .str _ _ (by rw [bytesOf_push s e2]; rfl)⟩
            rw [hX, run_convert_bytes_string w src dst el _ _ _ hs he hd]
            exact run_bytesToString w A len c' s hload
        · cases hp
      · cases hp
    · rename_i e1 e2 id off len c hs hd
      have key : ∀ cs k, k ≠ .ro → k ≠ .rw → h[id]? = some (.cells cs k) → (src == dst && !(len == 0 && c == some 0)) = true → P.underlying e2 = some (.int .u8) → Out P (do pure (.value (← convert src dst q))) w ι h (.slice (some (id, off)) len c) h := by
        intro cs k hk hkw hid hsd hu
        obtain ⟨hsd, hz⟩ : (src == dst) = true ∧ ¬ (len = 0 ∧ c = some 0) := by
          simp only [Bool.and_eq_true, Bool.not_eq_true', Bool.and_eq_false_iff, beq_eq_false_iff_ne] at hsd
          exact ⟨hsd.1, fun ⟨x, y⟩ => hsd.2.elim (fun q => q x) fun q => q y⟩
        obtain ⟨A, c', pl, hX, hpl, hA1, hA2, _, _⟩ := e.slice_at
        replace hA1 := hA1 hz
        replace hA2 := hA2 hz
        obtain ⟨C, E, fz, h1, h2, h3, h4, h5⟩ := hr.ok id pl _ hpl hid
        have hlt : pl.blk < w.heap.size := (Array.getElem?_eq_some_iff.1 h1).1
        let fz' : Nat × Nat := if fz.1 == fz.2 then (C.size, C.size + 1) else (min fz.1 C.size, max fz.2 (C.size + 1))
        have hst : Stp ι h w ι (h.set id (.cells cs k)) { w with heap := w.heap.setIfInBounds pl.blk (.cells C E fz') } := by
          refine Stp.upd hr hpl hid (by cases k <;> first | rfl | exact absurd rfl hk) ⟨C, E, fz', Array.getElem?_setIfInBounds_self_of_lt hlt, h2, fun _ => ?_, h4, h5⟩
          refine .inr ⟨?_, hkw⟩
          simp only [fz']
          split
          · exact Nat.le_refl _
          · rename_i hne
            have := h3 hk
            simp at hne
            simp only []
            omega
        rw [set_self _ _ _ hid] at hst
        refine .val' ⟨ι, _, .slice (some A) len c', ?_, hX ▸ e, hst⟩
        have hsh : w.shape? A.block = some (E, C.size) := by rw [hA1]; simp [World.shape?, h1]
        have hfr : w.freeze { block := A.block, off := C.size } 1 = { w with heap := w.heap.setIfInBounds pl.blk (.cells C E fz') } := by
          rw [hA1]
          simp only [World.freeze]
          rw [if_neg (by simp)]
          congr 1
          apply Array.ext_getElem?
          intro j
          rw [Array.getElem?_modify]
          by_cases hj : pl.blk = j
          · subst hj
            rw [if_pos rfl, Array.getElem?_setIfInBounds_self_of_lt hlt, h1]
            rfl
          · rw [if_neg hj, Array.getElem?_setIfInBounds_ne hj]
        rw [hX]
        simp only [convert, Sem.run_bind, under_run hd, run_underlying hs, Result.andThen_ok, hsd, under_run hu, markStringish, run_shape, hsh, run_freeze, hfr, Sem.run_pure]
      split at hp
      · rename_i cs g hsd hu hid
        cases hp
        exact key cs (.gr g) (by simp) (by simp) hid hsd hu
      · rename_i cs hsd hu hid
        split at hp
        · rename_i n
          simp only [newC_eq, Option.some.injEq] at hp
          subst hp
          obtain ⟨hsd, hz⟩ : (src == dst) = true ∧ ¬ (len = 0 ∧ some n = some 0) := by
            simp only [Bool.and_eq_true, Bool.not_eq_true', Bool.and_eq_false_iff, beq_eq_false_iff_ne] at hsd
            exact ⟨hsd.1, fun ⟨x, y⟩ => hsd.2.elim (fun q => q x) fun q => q y⟩
          cases e with
          | slice _ _ _ _ c' A pl hpl hs2 =>
          have hA1 : A.block = pl.blk := by rcases hs2 with ⟨q1, q2, _⟩ | q; exact absurd ⟨q1, q2⟩ hz; exact q.1
          have hA2 : A.spot = none := by rcases hs2 with ⟨q1, q2, _⟩ | q; exact absurd ⟨q1, q2⟩ hz; exact q.2.1
          obtain ⟨C, E, fz, h1, h2, h3, h4, h5⟩ := hr.ok id pl _ hpl hid
          let fz' : Nat × Nat := if fz.1 == fz.2 then (C.size, C.size + 1) else (min fz.1 C.size, max fz.2 (C.size + 1))
          have hfn : ι h.length = none := hf h.length (Nat.le_refl _) (by simp)
          have hst := Stp.retell (fz' := fz') hr hfn hpl hid rfl h1 h2
          refine .val' ⟨_, _, .slice (some A) len c', ?_, .slice h.length off len (some n) c' A ⟨pl.blk, pl.off, 0, 0, false⟩ (ext_new _ _ _) hs2, hst⟩
          have hsh : w.shape? A.block = some (E, C.size) := by rw [hA1]; simp [World.shape?, h1]
          have hfr : w.freeze { block := A.block, off := C.size } 1 = { w with heap := w.heap.setIfInBounds pl.blk (.cells C E fz') } := by
            rw [hA1]
            simp only [World.freeze]
            rw [if_neg (by simp)]
            congr 1
            have hlt : pl.blk < w.heap.size := (Array.getElem?_eq_some_iff.1 h1).1
            apply Array.ext_getElem?
            intro j
            rw [Array.getElem?_modify]
            by_cases hj : pl.blk = j
            · subst hj
              rw [if_pos rfl, Array.getElem?_setIfInBounds_self_of_lt hlt, h1]
              rfl
            · rw [if_neg hj, Array.getElem?_setIfInBounds_ne hj]
          simp only [convert, Sem.run_bind, under_run hd, run_underlying hs, Result.andThen_ok, hsd, under_run hu, markStringish, run_shape, hsh, run_freeze, hfr, Sem.run_pure]
        · cases hp
      · cases hp
    · cases hp
  · cases hp
end
end Go.Proofs.YtcaolnmpldbkjaaGreatA
