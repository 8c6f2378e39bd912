/- Words of this session: functions without a text that the second reading is told by hand: counting a byte, seeking a byte. -/
import Derived.Test.YtngcicclaehpbaaDoorAx36
import Derived.Test.YtngcicclaehpbaaDoorAx24
import Derived.Shelf.Bytes.SlCountOne
import Derived.Shelf.Bytes.SlIndexAt
import GoSem.Extern.BytealgCount
import GoSem.Extern.BytealgIndexByte
namespace Go.Proofs.YtngcicclaehpbaaDoorA
open Go Go.RowKit
set_option linter.unusedVariables false
set_option linter.unusedSimpArgs false
def idxL : List Int → Int → Int
  | [], _ => -1
  | b :: l, c => if b = c then 0 else if idxL l c = -1 then -1 else idxL l c + 1
theorem u8_inj {a b : Int} (ha : 0 ≤ a ∧ a < 256) (hb : 0 ≤ b ∧ b < 256) (h : UInt8.ofNat a.toNat = UInt8.ofNat b.toNat) : a = b := by
  have := congrArg UInt8.toNat h
  rw [UInt8.toNat_ofNat', UInt8.toNat_ofNat'] at this
  omega
theorem idx_eq : ∀ {s : List Int} {c : Int}, (∀ b ∈ s, 0 ≤ b ∧ b < 256) → 0 ≤ c ∧ c < 256 → Go.Lib.indexByte (Go.Lib.bytesOf s) c.toNat.toUInt8 = idxL s c
  | [], c, _, _ => rfl
  | b :: s, c, hb, hc => by
    have ih := idx_eq (s := s) (fun x hx => hb x (by simp [hx])) hc
    show Go.Lib.indexByte (UInt8.ofNat b.toNat :: Go.Lib.bytesOf s) _ = _
    rw [Go.Lib.indexByte, idxL, ih]
    by_cases e : b = c
    · subst e
      rw [if_pos rfl, if_pos (by simp)]
    · rw [if_neg e, if_neg (fun q => e (u8_inj (hb b (by simp)) hc (by simpa using q)))]
      by_cases q : idxL s c = -1
      · rw [if_pos q, if_pos (by simp [q])]
      · rw [if_neg q, if_neg (by simpa using q)]
theorem count_eq : ∀ {s : List Int} {c : Int}, (∀ b ∈ s, 0 ≤ b ∧ b < 256) → 0 ≤ c ∧ c < 256 → Go.Lib.countByte (Go.Lib.bytesOf s) c.toNat.toUInt8 = s.count c
  | [], c, _, _ => rfl
  | b :: s, c, hb, hc => by
    have ih := count_eq (s := s) (fun x hx => hb x (by simp [hx])) hc
    show (UInt8.ofNat b.toNat :: Go.Lib.bytesOf s).count _ = _
    have ih' : (Go.Lib.bytesOf s).count c.toNat.toUInt8 = s.count c := ih
    rw [List.count_cons, List.count_cons, ih']
    by_cases e : b = c
    · subst e; simp
    · rw [if_neg (fun q => e (u8_inj (hb b (by simp)) hc (by simpa using q))), if_neg (by simpa using e)]
/-- The bytes that a slice holds. -/
def bytesAt (h : Heap) (p : Option (Nat × Nat)) (n : Nat) : Option (List Int) := match p with
  | none => if n = 0 then some [] else none
  | some (id, off) => match loadN h id off n with
    | some cs => bytesIn cs
    | none => none
def cntHook (args : List V) (h : Heap) : Option (V × Heap) := match args with
  | [.slice p n _, .int .u8 x] => match bytesAt h p n with
    | some s => if 0 ≤ x ∧ x < 256 then some (.int .i64 (s.count x : Nat), h) else none
    | none => none
  | _ => none
def idxHook (args : List V) (h : Heap) : Option (V × Heap) := match args with
  | [.slice p n _, .int .u8 x] => match bytesAt h p n with
    | some s => if 0 ≤ x ∧ x < 256 then some (.int .i64 (idxL s x), h) else none
    | none => none
  | _ => none
theorem cntHook_heap {args : List V} {h : Heap} {r : V × Heap} (q : cntHook args h = some r) : r.2 = h := by
  unfold cntHook at q
  split at q
  · split at q
    · split at q
      · cases q; rfl
      · cases q
    · cases q
  · cases q
theorem idxHook_heap {args : List V} {h : Heap} {r : V × Heap} (q : idxHook args h = some r) : r.2 = h := by
  unfold idxHook at q
  split at q
  · split at q
    · split at q
      · cases q; rfl
      · cases q
    · cases q
  · cases q
theorem cntHook_mono {args : List V} {h : Heap} {r : V × Heap} (q : cntHook args h = some r) : Mono h r.2 := by rw [cntHook_heap q]; exact Mono.refl _
theorem idxHook_mono {args : List V} {h : Heap} {r : V × Heap} (q : idxHook args h = some r) : Mono h r.2 := by rw [idxHook_heap q]; exact Mono.refl _
/-- Where a slice's bytes lie in memory. -/
theorem bytesAt_cells {ι : Mp} {h : Heap} {w : World} (hr : Rel ι h w) {p : Option (Nat × Nat)} {n : Nat} {c : Option Nat} {X : Value} (hx : RV ι (.slice p n c) X) {s : List Int} (q : bytesAt h p n = some s) :
    ∃ A c', X = .slice A n c' ∧ s.length = n ∧ (∀ b ∈ s, 0 ≤ b ∧ b < 256) ∧ (A = none → n = 0 ∧ c' = 0) ∧ ∀ a, A = some a → ∀ i, i < n → w.cell? (a.add i) = some (.int .u8 (s.getD i 0)) := by
  cases p with
  | none =>
    simp only [bytesAt] at q
    split at q
    · rename_i h0
      cases q; subst h0
      cases hx
      exact ⟨none, 0, rfl, rfl, by simp, fun _ => ⟨rfl, rfl⟩, fun a e => by cases e⟩
    · cases q
  | some q2 =>
    obtain ⟨id, off⟩ := q2
    simp only [bytesAt] at q
    split at q
    · rename_i cs hcs
      obtain ⟨e1, e2⟩ := bytesIn_ints q
      obtain ⟨A, c', pl, hX, hpl, _, _, _, hA⟩ := hx.slice_at
      unfold loadN at hcs
      split at hcs
      · rename_i C k hc
        split at hcs
        · rename_i hle
          simp only [Option.some.injEq] at hcs
          have hlen : s.length = n := by
            have := congrArg List.length e1
            rw [← hcs] at this
            simp at this; omega
          obtain ⟨D, E, fz, h1, h2, h3, h4⟩ := hr.ok id pl _ hpl hc
          refine ⟨some A, c', hX, hlen, e2, fun e => (by cases e), fun a ea i hi => ?_⟩
          cases ea
          rw [hA (by omega), addr_add, cell_of_row w _ _ _ _ _ h1]
          have hv : C[off + i]? = some (.int .u8 (s.getD i 0)) := by
            have h5 : ((C.drop off).take n)[i]? = (s.map (V.int .u8))[i]? := by rw [hcs, e1]
            rw [List.getElem?_take_of_lt hi, List.getElem?_drop, List.getElem?_map, List.getElem?_eq_getElem (by omega : i < s.length)] at h5
            rw [h5, List.getD_eq_getElem?_getD, List.getElem?_eq_getElem (by omega : i < s.length)]; rfl
          obtain ⟨_, x, hx2, hrv⟩ := h2 _ _ hv
          cases hrv
          rw [Nat.add_assoc]; exact hx2
        · cases hcs
      · cases hcs
    · cases q
theorem cntHook_goes {P : Program} {f : FuncId} {fn : Func} (hf : P.funcs[f]? = some fn) (hname : (fn.name == "runtime.NumGoroutine") = false) (hb : fn.body.isNone = true) (hn : Extern.findNext fn = none)
    (he : Extern.find fn = some Extern.BytealgCount.count) {args : List V} {h : Heap} {v : V} {h' : Heap} (q : cntHook args h = some (v, h')) (ι : Mp) (w : World) (A : Array Value) (hr : Rel ι h w) (ha : RVs ι args A.toList) (hfr : Free ι h.length h'.length) :
    CallsTo P f A w fun x w' => ∃ κ, RV κ v x ∧ Stp ι h w κ h' w' := by
  have q0 := cntHook_heap q
  simp only at q0
  subst q0
  unfold cntHook at q
  split at q
  · rename_i p n c x
    split at q
    · rename_i s hs
      split at q
      · rename_i hx0
        cases q
        right
        obtain ⟨X, l1, e1, hX, hl1⟩ := ha.head
        obtain ⟨Y, l2, e2, hY, hl2⟩ := hl1.head
        have e3 := hl2.nil_inv
        subst e3; subst e2
        have hA : A = #[X, Y] := by cases A; simp_all
        subst hA
        cases hY
        obtain ⟨a, c', rfl, hlen, hby, hnone, hcell⟩ := bytesAt_cells hr hX hs
        refine ⟨.int .i64 (s.count x : Nat), w, ?_, ι, .int _ _, .refl hr⟩
        rw [run_callFunc_extern hf hname hb hn he]
        cases a with
        | none =>
          obtain ⟨h1, h2⟩ := hnone rfl
          subst h1; subst h2
          have : s = [] := List.eq_nil_of_length_eq_zero hlen
          subst this
          have := Go.Lib.run_countString (P := P) ByteArray.empty x w
          change (Extern.BytealgCount.count #[.string ByteArray.empty, .int .u8 x]).run P w = _ at this
          have e : (Extern.BytealgCount.count #[.slice none 0 0, .int .u8 x]).run P w = (Extern.BytealgCount.count #[.string ByteArray.empty, .int .u8 x]).run P w := rfl
          rw [e, this]; rfl
        | some a =>
          rw [Go.Lib.run_countAt w a n c' s hlen (hcell a rfl) x, count_eq hby hx0]; rfl
      · cases q
    · cases q
  · cases q
theorem idxHook_goes {P : Program} {f : FuncId} {fn : Func} (hf : P.funcs[f]? = some fn) (hname : (fn.name == "runtime.NumGoroutine") = false) (hb : fn.body.isNone = true) (hn : Extern.findNext fn = none)
    (he : Extern.find fn = some Extern.BytealgIndexByte.indexByte) {args : List V} {h : Heap} {v : V} {h' : Heap} (q : idxHook args h = some (v, h')) (ι : Mp) (w : World) (A : Array Value) (hr : Rel ι h w) (ha : RVs ι args A.toList) (hfr : Free ι h.length h'.length) :
    CallsTo P f A w fun x w' => ∃ κ, RV κ v x ∧ Stp ι h w κ h' w' := by
  have q0 := idxHook_heap q
  simp only at q0
  subst q0
  unfold idxHook at q
  split at q
  · rename_i p n c x
    split at q
    · rename_i s hs
      split at q
      · rename_i hx0
        cases q
        right
        obtain ⟨X, l1, e1, hX, hl1⟩ := ha.head
        obtain ⟨Y, l2, e2, hY, hl2⟩ := hl1.head
        have e3 := hl2.nil_inv
        subst e3; subst e2
        have hA : A = #[X, Y] := by cases A; simp_all
        subst hA
        cases hY
        obtain ⟨a, c', rfl, hlen, hby, hnone, hcell⟩ := bytesAt_cells hr hX hs
        refine ⟨.int .i64 (idxL s x), w, ?_, ι, .int _ _, .refl hr⟩
        rw [run_callFunc_extern hf hname hb hn he]
        cases a with
        | none =>
          obtain ⟨h1, h2⟩ := hnone rfl
          subst h1; subst h2
          have : s = [] := List.eq_nil_of_length_eq_zero hlen
          subst this
          rw [Go.Lib.run_indexByteNil w 0 0 x]; rfl
        | some a =>
          rw [Go.Lib.run_indexByteAt w a n c' s hlen (hcell a rfl) x, idx_eq hby hx0]; rfl
      · cases q
    · cases q
  · cases q
theorem bytesAt_sl {h hh : Heap} {p : Option (Nat × Nat)} {s : List Int} (sl : Sl h p 1 eb s) (e : Ext h hh) (hb : ∀ b ∈ s, 0 ≤ b ∧ b < 256) : bytesAt hh p s.length = some s := by
  cases p with
  | none => have := sl.nil rfl; subst this; rfl
  | some q =>
    obtain ⟨id, off⟩ := q
    have := (sl.ext e).all rfl
    rw [Nat.mul_one] at this
    simp only [bytesAt, this]
    exact bytesIn_eb hb
end Go.Proofs.YtngcicclaehpbaaDoorA
