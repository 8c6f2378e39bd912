/- Words of this session: slices.Delete, told by hand at slices of open capacity. -/
import Derived.Test.YtcaolnmpldbkjaaGreatAx33
namespace Go.Proofs.YtcaolnmpldbkjaaGreatA
open Go Go.RowKit
set_option linter.unusedVariables false
set_option linter.unusedSimpArgs false
theorem cut3 {h : Heap} {sz len c : Nat} {p : Option (Nat × Nat)} {k k' k'' : IntKind} {a b m : Int} (h0 : 0 ≤ a) (hab : a ≤ b) (hbm : b ≤ m) (hm : m ≤ c) : ∃ p', sliceV h sz p len (some c) (some (.int k a)) (some (.int k' b)) (some (.int k'' m)) = some (.slice p' (b.toNat - a.toNat) (some (m.toNat - a.toNat))) := by
  unfold sliceV
  simp only [boundV, Option.getD_some]
  rw [if_pos ⟨by omega, hm⟩]
  simp only []
  rw [if_pos ⟨by omega, by omega⟩]
  simp only []
  rw [if_pos ⟨h0, by omega⟩]
  exact ⟨_, rfl⟩
def DelW (P : Program) (H0 : Hooks) (f : FuncId) (sz : Nat) (z : List V) : Prop :=
  ∀ {h : Heap} {id c : Nat} {k : Kd} {A sp : List V} {rows : List (List V)} {i j : Nat}, h[id]? = some (.cells (A ++ rows.flatten ++ sp) k) → k ≠ .ro → Wd sz rows → rows.flatten.all V.leaf = true → i < j → j ≤ rows.length → rows.length ≤ c → rows.length ≤ 2 ^ 47 →
    WR (callE P H0 f [.slice (some (id, A.length)) rows.length (some c), .int .i64 i, .int .i64 j] h) fun r h' => r = .slice (some (id, A.length)) (i + (rows.length - j)) (some c) ∧ h' = h.set id (.cells (A ++ (rows.take i ++ rows.drop j ++ List.replicate (j - i) z).flatten ++ sp) k)
noncomputable def delHook (sz : Nat) (F : List V → Heap → Option (V × Heap)) (args : List V) (h : Heap) : Option (V × Heap) := match args with
  | [.slice (some (id, off)) len none, .int .i64 i, .int .i64 j] => match h[id]? with
    | some (.cells cs (.gr e)) =>
      if e = sz ∧ off + len * sz = cs.length ∧ 0 ≤ i ∧ i < j ∧ j ≤ len ∧ len ≤ 2 ^ 47 ∧ (cs.drop off).all V.leaf = true then
        some (.slice (some (h.length, 0)) (i.toNat + (len - j.toNat)) none, h.set id .dead ++ [.cells ((cs.drop off).take (i.toNat * sz) ++ (cs.drop off).drop (j.toNat * sz)) (.gr sz)])
      else none
    | _ => none
  | _ => F args h
theorem delHook_goes {P : Program} {H0 : Hooks} {f : FuncId} {sz : Nat} {z : List V} (hm : P.follows .mixedOrders = true) (hN : Named P) (hH : SoundH P H0) (hs : 1 ≤ sz) (hz : z.length = sz) (hzc : ∀ v ∈ z, Cst v) (hw : DelW P H0 f sz z) {args : List V} {h : Heap} {v : V} {h' : Heap} (q : delHook sz (callE P H0 f) args h = some (v, h')) (ι : Mp) (w : World) (A : Array Value) (hr : Rel ι h w) (ha : RVs ι args A.toList) (hfr : Free ι h.length h'.length) :
    CallsTo P f A w fun x w' => ∃ κ, RV κ v x ∧ Stp ι h w κ h' w' := by
  unfold delHook at q
  split at q
  · rename_i id off len i j
    split at q
    · rename_i cs e hb
      split at q
      · rename_i hc
        obtain ⟨rfl, hend, hi0, hij, hj, hl47, hcl⟩ := hc
        cases q
        obtain ⟨rows, B0, hrows, hrl, hrw⟩ := rows_of len e (cs.drop off) (by rw [List.length_drop]; omega)
        have hB0 : B0 = [] := by
          have := congrArg List.length hrows
          rw [List.length_drop, List.length_append, hrw.len, hrl] at this
          exact List.eq_nil_of_length_eq_zero (by omega)
        subst hB0
        rw [List.append_nil] at hrows
        have hcs : cs = cs.take off ++ rows.flatten := by rw [← hrows, List.take_append_drop]
        have hAl : (cs.take off).length = off := by rw [List.length_take]; omega
        have hnew : (cs.drop off).take (i.toNat * e) ++ (cs.drop off).drop (j.toNat * e) = (rows.take i.toNat ++ rows.drop j.toNat).flatten := by
          rw [hrows, hrw.ftake, hrw.fdrop]; simp
        rw [hnew]
        have hnl : (rows.take i.toNat ++ rows.drop j.toNat).length = i.toNat + (len - j.toNat) := by simp [hrl]; omega
        have hnw : Wd e (rows.take i.toNat ++ rows.drop j.toNat) := (hrw.take _).app (hrw.drop _)
        have hii : ((i.toNat : Nat) : Int) = i := by omega
        have hjj : ((j.toNat : Nat) : Int) = j := by omega
        obtain ⟨_, _, hAe, hX, _⟩ := ha.head
        have hlt := lt_of_some hb
        have hzw : Wd e (List.replicate (j.toNat - i.toNat) z) := fun r hr => by rw [List.eq_of_mem_replicate hr]; exact hz
        refine open_sound (m := i.toNat + (len - j.toNat)) hm hN hH hb hs hend (.inl (by omega)) (by rw [hnw.len, hnl]) (fun sp c hlc hfit hsp => ?_) hr ha (fun j h1 h2 => hfr j h1 (by simp; omega)) (fun v hv => ?_)
        · have hb' : (h.set id (.cells (cs ++ sp) (.gr e)))[id]? = some (.cells (cs.take off ++ rows.flatten ++ sp) (.gr e)) := by rw [List.getElem?_set_self hlt, ← hcs]
          have hww := hw (i := i.toNat) (j := j.toNat) (c := c) hb' (by simp) hrw (by rw [← hrows]; exact hcl) (by omega) (by omega) (by omega) (by rw [hrl]; exact hl47)
          rw [hAl, hrl, hii, hjj] at hww
          refine hww.mono ?_
          rintro r h' ⟨rfl, rfl⟩
          refine ⟨by simp, fun j h1 h2 => by rw [List.getElem?_set_ne (Ne.symm h2), List.getElem?_set_ne (Ne.symm h2)], .inl ⟨rfl, by omega, _, List.getElem?_set_self (by simpa using hlt), ?_, ?_, ?_⟩⟩
          · have hcsl := congrArg List.length hcs
            rw [List.length_append, hAl, hrw.len, hrl] at hcsl
            rw [List.length_append, List.length_append, List.length_append, hAl, (hnw.app hzw).len, List.length_append, hnl, List.length_replicate, show i.toNat + (len - j.toNat) + (j.toNat - i.toNat) = len by omega]
            omega
          · rw [List.append_assoc, List.drop_left' hAl, List.flatten_append, List.append_assoc]
            exact List.take_left' (by rw [hnw.len, hnl])
          · intro v hv
            rw [List.flatten_append, ← List.append_assoc, List.append_assoc, List.drop_left' (by rw [List.length_append, hAl, hnw.len, hnl])] at hv
            rcases List.mem_append.1 hv with hv | hv
            · obtain ⟨r, hr1, hv⟩ := List.mem_flatten.1 hv
              rw [List.eq_of_mem_replicate hr1] at hv
              exact hzc v hv
            · exact hsp v hv
        · obtain ⟨r, hr1, hv⟩ := List.mem_flatten.1 hv
          have hv : v ∈ cs := by
            rw [hcs]
            refine List.mem_append_right _ (List.mem_flatten.2 ⟨r, ?_, hv⟩)
            rcases List.mem_append.1 hr1 with hr1 | hr1
            · exact List.mem_of_mem_take hr1
            · exact List.mem_of_mem_drop hr1
          cases hX with
          | slice _ _ _ _ _ _ pl hj _ => exact block_known hr hj hb v hv
      · cases q
    · cases q
  · exact sound_of hm hN hH f _ _ _ _ q ι w A hr ha hfr
theorem delHook_mono {P : Program} {H0 : Hooks} {f : FuncId} {sz : Nat} (hm : P.follows .mixedOrders = true) (hH : SoundH P H0) {args : List V} {h : Heap} {r : V × Heap} (q : delHook sz (callE P H0 f) args h = some r) : Mono h r.2 := by
  unfold delHook at q
  split at q
  · split at q
    · rename_i hb
      split at q
      · cases q
        exact (Mono.set hb (by simp)).trans (.push _ _)
      · cases q
    · cases q
  · exact callE_mono hm hH q
/-- What slices.Delete gives to a slice of the call's own that has come of append. -/
theorem Gr.delete {sz : Nat} {F : List V → Heap → Option (V × Heap)} {α : Type} {b : Nat} {h : Heap} {p : Option (Nat × Nat)} {oid : Option Nat} {enc : α → List V} {ys : List α} (g : Gr b h p none oid sz enc ys) (hb : b ≤ h.length) {i j : Nat} (hij : i < j) (hj : j ≤ ys.length) :
    ∃ p' oid' h', delHook sz F [.slice p ys.length none, .int .i64 i, .int .i64 j] h = some (.slice p' (i + (ys.length - j)) none, h') ∧ Gr b h' p' none oid' sz enc (ys.take i ++ ys.drop j) ∧ (oid' = oid ∨ oid' = some h.length) ∧ (h.length ≤ h'.length) ∧ (∀ i, oid ≠ some i → i < h.length → h'[i]? = h[i]?) ∧ (∀ i, i < b → h'[i]? = h[i]?) := by
  have hw2 : ∀ y ∈ ys.take i ++ ys.drop j, (enc y).length = sz := fun y hy => by
    simp only [List.mem_append] at hy
    rcases hy with hy | hy
    · exact g.sl.width y (List.mem_of_mem_take hy)
    · exact g.sl.width y (List.mem_of_mem_drop hy)
  have hl2 : ∀ y ∈ ys.take i ++ ys.drop j, (enc y).all V.leaf = true := fun y hy => by
    simp only [List.mem_append] at hy
    rcases hy with hy | hy
    · exact g.leaf y (List.mem_of_mem_take hy)
    · exact g.leaf y (List.mem_of_mem_drop hy)
  have hlen : (ys.take i ++ ys.drop j).length = i + (ys.length - j) := by simp; omega
  have hsm := g.sl.small
  have hnew : ∀ hh : Heap, hh.length = h.length → Gr b (hh ++ [.cells ((ys.take i ++ ys.drop j).flatMap enc) (.gr sz)]) (some (h.length, 0)) none (some h.length) sz enc (ys.take i ++ ys.drop j) := by
    intro hh hhl
    have hc : (hh ++ [O.cells ((ys.take i ++ ys.drop j).flatMap enc) (.gr sz)])[h.length]? = some (.cells ((ys.take i ++ ys.drop j).flatMap enc) (.gr sz)) := snoc_last _ hhl.symm
    refine ⟨.whole hc hw2 rfl (by rw [hlen]; omega), .inr ⟨_, 0, _, _, rfl, rfl, hc, .inr ⟨rfl, rfl, ?_⟩⟩, fun id e => (by cases e; exact hb), hl2⟩
    rw [flatMap_len hw2]; omega
  rcases g.kind with ⟨_, hc, _⟩ | ⟨id, off, C, k, rfl, rfl, e3, e4⟩
  · cases hc
  · have hbi := g.base id rfl
    have hlt := lt_of_some e3
    obtain ⟨C', k', h1, h2, h3⟩ := g.sl.reads id off rfl
    rw [e3] at h1; cases h1
    have hfl := flat_of_reads g.sl.width h2 h3
    rcases e4 with ⟨hc, _⟩ | ⟨_, rfl, hend⟩
    · cases hc
    · have hcd : C.drop off = ys.flatMap enc := by
        rw [← hfl]; exact (List.take_of_length_le (by rw [List.length_drop]; omega)).symm
      have hres : delHook sz F [.slice (some (id, off)) ys.length none, .int .i64 i, .int .i64 j] h = some (.slice (some (h.length, 0)) (i + (ys.length - j)) none, h.set id .dead ++ [.cells ((ys.take i ++ ys.drop j).flatMap enc) (.gr sz)]) := by
        unfold delHook
        simp only [e3, hcd]
        rw [if_pos ⟨trivial, hend, by omega, by omega, by omega, by omega, all_leaf g.leaf⟩]
        rw [Int.toNat_natCast, Int.toNat_natCast, flatMap_take g.sl.width, flatMap_drop g.sl.width]
        simp
      refine ⟨_, _, _, hres, hnew _ (by simp), .inr rfl, by simp, fun j hj hjl => ?_, fun j hj => ?_⟩
      · rw [List.getElem?_append_left (by simpa using hjl), List.getElem?_set_ne (fun e => hj (by rw [e]))]
      · rw [List.getElem?_append_left (by simp; omega), List.getElem?_set_ne (by omega)]
end Go.Proofs.YtcaolnmpldbkjaaGreatA
