/- Words of this session: slices.Insert, told by hand at slices of open capacity. -/
import Derived.Test.YtcaolnmpldbkjaaGreatAx32
namespace Go.Proofs.YtcaolnmpldbkjaaGreatA
open Go Go.RowKit
set_option linter.unusedVariables false
set_option linter.unusedSimpArgs false
/-- Cells are rows and what is left. -/
theorem rows_of : ∀ (m sz : Nat) (l : List V), m * sz ≤ l.length → ∃ (Z : List (List V)) (B : List V), l = Z.flatten ++ B ∧ Z.length = m ∧ Wd sz Z
  | 0, sz, l, _ => ⟨[], l, rfl, rfl, fun _ h => by cases h⟩
  | m + 1, sz, l, h => by
    rw [Nat.add_mul, Nat.one_mul] at h
    obtain ⟨Z, B, h1, h2, h3⟩ := rows_of m sz (l.drop sz) (by rw [List.length_drop]; omega)
    refine ⟨l.take sz :: Z, B, ?_, by simp [h2], fun r hr => ?_⟩
    · rw [List.flatten_cons, List.append_assoc, ← h1, List.take_append_drop]
    · rcases List.mem_cons.1 hr with e | e
      · subst e; rw [List.length_take]; omega
      · exact h3 r e
/-- What slices.Insert leaves. -/
def InsR (h : Heap) (id c n m sz : Nat) (k : Kd) (A sp : List V) (new : List (List V)) (r : V) (h' : Heap) : Prop :=
  (r = .slice (some (id, A.length)) (n + m) (some c) ∧ n + m ≤ c ∧ ∃ (Z : List (List V)) (B : List V), sp = Z.flatten ++ B ∧ Z.length = m ∧ Wd sz Z ∧ h' = h.set id (.cells (A ++ new.flatten ++ B) k)) ∨
  (r = .slice (some (h.length, 0)) (n + m) none ∧ h' = h ++ [.cells new.flatten (.gr sz)])
def InsW (P : Program) (H0 : Hooks) (f : FuncId) (sz bytes : Nat) : Prop :=
  ∀ {h : Heap} {id c q : Nat} {k : Kd} {A sp QA QB : List V} {rows M : List (List V)} {vc : Option Nat} {i : Nat}, h[id]? = some (.cells (A ++ rows.flatten ++ sp) k) → k ≠ .ro → Wd sz rows → rows.flatten.all V.leaf = true →
    h[q]? = some (.cells (QA ++ M.flatten ++ QB) .rw) → Wd sz M → M.flatten.all V.leaf = true → id ≠ q → 1 ≤ M.length → i ≤ rows.length → rows.length ≤ c → c * sz ≤ rows.length * sz + sp.length → (rows.length + M.length) * bytes ≤ 2 ^ 47 →
    WR (callE P H0 f [.slice (some (id, A.length)) rows.length (some c), .int .i64 i, .slice (some (q, QA.length)) M.length vc] h) (InsR h id c rows.length M.length sz k A sp (rows.take i ++ M ++ rows.drop i))
noncomputable def insHook (sz bytes : Nat) (F : List V → Heap → Option (V × Heap)) (args : List V) (h : Heap) : Option (V × Heap) := match args with
  | [.slice (some (id, off)) len none, .int .i64 i, .slice (some (q, qo)) vl vc] => match h[id]?, h[q]? with
    | some (.cells cs (.gr e)), some (.cells vs .rw) =>
      if e = sz ∧ id ≠ q ∧ off + len * sz = cs.length ∧ 0 ≤ i ∧ i ≤ len ∧ 1 ≤ vl ∧ qo + vl * sz ≤ vs.length ∧ (len + vl) * bytes ≤ 2 ^ 47 ∧ (cs.drop off).all V.leaf = true ∧ ((vs.drop qo).take (vl * sz)).all V.leaf = true then
        some (.slice (some (h.length, 0)) (len + vl) none, h.set id .dead ++ [.cells ((cs.drop off).take (i.toNat * sz) ++ (vs.drop qo).take (vl * sz) ++ (cs.drop off).drop (i.toNat * sz)) (.gr sz)])
      else none
    | _, _ => none
  | _ => F args h
theorem insHook_goes {P : Program} {H0 : Hooks} {f : FuncId} {sz bytes : Nat} (hm : P.follows .mixedOrders = true) (hN : Named P) (hH : SoundH P H0) (hs : 1 ≤ sz) (hw : InsW P H0 f sz bytes) {args : List V} {h : Heap} {v : V} {h' : Heap} (q : insHook sz bytes (callE P H0 f) args h = some (v, h')) (ι : Mp) (w : World) (A : Array Value) (hr : Rel ι h w) (ha : RVs ι args A.toList) (hfr : Free ι h.length h'.length) :
    CallsTo P f A w fun x w' => ∃ κ, RV κ v x ∧ Stp ι h w κ h' w' := by
  unfold insHook at q
  split at q
  · rename_i id off len i b qo vl vc
    split at q
    · rename_i cs e vs hb hq
      split at q
      · rename_i hc
        obtain ⟨rfl, hne, hend, hi0, hi, hvl, hqf, hby, hcl, hvsl⟩ := hc
        cases q
        obtain ⟨rows, B0, hrows, hrl, hrw⟩ := rows_of len e (cs.drop off) (by rw [List.length_drop]; omega)
        have hB0 : B0 = [] := by
          have := congrArg List.length hrows
          rw [List.length_drop, List.length_append, hrw.len, hrl] at this
          exact List.eq_nil_of_length_eq_zero (by omega)
        subst hB0
        rw [List.append_nil] at hrows
        obtain ⟨M, QB, hM, hMl, hMw⟩ := rows_of vl e (vs.drop qo) (by rw [List.length_drop]; omega)
        have hcs : cs = cs.take off ++ rows.flatten := by rw [← hrows, List.take_append_drop]
        have hvs : vs = vs.take qo ++ M.flatten ++ QB := by rw [List.append_assoc, ← hM, List.take_append_drop]
        have hAl : (cs.take off).length = off := by rw [List.length_take]; omega
        have hQl : (vs.take qo).length = qo := by rw [List.length_take]; omega
        have hMt : (vs.drop qo).take (vl * e) = M.flatten := by
          rw [hM]; exact List.take_left' (by rw [hMw.len, hMl])
        have hnew : (cs.drop off).take (i.toNat * e) ++ (vs.drop qo).take (vl * e) ++ (cs.drop off).drop (i.toNat * e) = (rows.take i.toNat ++ M ++ rows.drop i.toNat).flatten := by
          rw [hMt, hrows, hrw.ftake, hrw.fdrop]; simp
        rw [hnew]
        have hnl : (rows.take i.toNat ++ M ++ rows.drop i.toNat).length = len + vl := by simp [hrl, hMl]; omega
        have hnw : Wd e (rows.take i.toNat ++ M ++ rows.drop i.toNat) := ((hrw.take _).app hMw).app (hrw.drop _)
        have hii : ((i.toNat : Nat) : Int) = i := by omega
        obtain ⟨_, _, hAe, hX, hrest⟩ := ha.head
        obtain ⟨_, _, rfl, _, hrest⟩ := hrest.head
        obtain ⟨_, _, rfl, hY, _⟩ := hrest.head
        have hlt := lt_of_some hb
        refine open_sound (m := len + vl) hm hN hH hb hs hend (.inr (by omega)) (by rw [hnw.len, hnl]) (fun sp c hlc hfit hsp => ?_) hr ha (fun j h1 h2 => hfr j h1 (by simp; omega)) (fun v hv => ?_)
        · have hq' : (h.set id (.cells (cs ++ sp) (.gr e)))[b]? = some (.cells (vs.take qo ++ M.flatten ++ QB) .rw) := by rw [List.getElem?_set_ne hne, ← hvs]; exact hq
          have hb' : (h.set id (.cells (cs ++ sp) (.gr e)))[id]? = some (.cells (cs.take off ++ rows.flatten ++ sp) (.gr e)) := by rw [List.getElem?_set_self hlt, ← hcs]
          have hrl2 : rows.flatten.all V.leaf = true := by rw [← hrows]; exact hcl
          have hMl2 : M.flatten.all V.leaf = true := by rw [← hMt]; exact hvsl
          rw [List.length_append] at hfit
          have hww := hw (i := i.toNat) (vc := vc) (c := c) hb' (by simp) hrw hrl2 hq' hMw hMl2 hne (by omega) (by omega) (by omega) (by rw [hrl]; omega) (by rw [hrl, hMl]; exact hby)
          rw [hAl, hQl, hrl, hMl, hii] at hww
          refine hww.mono ?_
          intro r h' hR
          rcases hR with ⟨rfl, hmc, Z, B, hsp2, hZ, hZw, rfl⟩ | ⟨rfl, rfl⟩
          · refine ⟨by simp, fun j h1 h2 => by rw [List.getElem?_set_ne (Ne.symm h2), List.getElem?_set_ne (Ne.symm h2)], .inl ⟨by rw [hAl], hmc, _, List.getElem?_set_self (by simpa using hlt), ?_, ?_, ?_⟩⟩
            · rw [hsp2]
              simp only [List.length_append, hnw.len, hnl, hZw.len, hZ, hAl]
              rw [Nat.add_mul]; omega
            · rw [List.append_assoc, List.drop_left' hAl]
              exact List.take_left' (by rw [hnw.len, hnl])
            · intro v hv
              rw [List.drop_left' (by rw [List.length_append, hAl, hnw.len, hnl])] at hv
              exact hsp v (by rw [hsp2]; exact List.mem_append_right _ hv)
          · refine ⟨by simp, fun j h1 h2 => by rw [List.getElem?_append_left (by simpa using h1), List.getElem?_set_ne (Ne.symm h2)], .inr ⟨h.length, by simp, Nat.le_refl _, snoc_last _ (by simp)⟩⟩
        · obtain ⟨r, hr1, hv⟩ := List.mem_flatten.1 hv
          have hcase : (v ∈ cs) ∨ v ∈ vs := by
            simp only [List.mem_append] at hr1
            rcases hr1 with (hr1 | hr1) | hr1
            · left; rw [hcs]; exact List.mem_append_right _ (List.mem_flatten.2 ⟨r, List.mem_of_mem_take hr1, hv⟩)
            · right; rw [hvs]; exact List.mem_append_left _ (List.mem_append_right _ (List.mem_flatten.2 ⟨r, hr1, hv⟩))
            · left; rw [hcs]; exact List.mem_append_right _ (List.mem_flatten.2 ⟨r, List.mem_of_mem_drop hr1, hv⟩)
          rcases hcase with hv | hv
          · cases hX with
            | slice _ _ _ _ _ _ pl hj _ => exact block_known hr hj hb v hv
          · cases hY with
            | slice _ _ _ _ _ _ pl hj _ => exact block_known hr hj hq v hv
      · cases q
    · cases q
  · exact sound_of hm hN hH f _ _ _ _ q ι w A hr ha hfr
theorem callE_mono {P : Program} {H0 : Hooks} (hm : P.follows .mixedOrders = true) (hH : SoundH P H0) {f : FuncId} {args : List V} {h : Heap} {r : V × Heap} (q : callE P H0 f args h = some r) : Mono h r.2 := by
  obtain ⟨n, hn⟩ := callE_cont q
  exact hookV_mono hH (callV_mono fun c s r => runV_mono hH.mono (drawV_sound hm) n c s r) _ _ _ _ hn
theorem insHook_mono {P : Program} {H0 : Hooks} {f : FuncId} {sz bytes : Nat} (hm : P.follows .mixedOrders = true) (hH : SoundH P H0) {args : List V} {h : Heap} {r : V × Heap} (q : insHook sz bytes (callE P H0 f) args h = some r) : Mono h r.2 := by
  unfold insHook at q
  split at q
  · split at q
    · rename_i hb hq
      split at q
      · cases q
        exact (Mono.set hb (by simp)).trans (.push _ _)
      · cases q
    · cases q
  · exact callE_mono hm hH q
/-- slices.Insert at a slice of no cells and no block. -/
def InsN (P : Program) (H0 : Hooks) (f : FuncId) (sz bytes : Nat) : Prop :=
  ∀ {h : Heap} {q : Nat} {QA QB : List V} {M : List (List V)} {vc : Option Nat}, h[q]? = some (.cells (QA ++ M.flatten ++ QB) .rw) → Wd sz M → M.flatten.all V.leaf = true → 1 ≤ M.length → M.length * bytes ≤ 2 ^ 47 →
    WR (callE P H0 f [.slice none 0 (some 0), .int .i64 0, .slice (some (q, QA.length)) M.length vc] h) fun r h' => r = .slice (some (h.length, 0)) M.length none ∧ h' = h ++ [.cells M.flatten (.gr sz)]
theorem map_flat {α : Type} (enc : α → List V) (ys : List α) : (ys.map enc).flatten = ys.flatMap enc := by rw [List.flatMap_def]
/-- What slices.Insert gives to a slice of the call's own. -/
theorem Gr.insert {P : Program} {H0 : Hooks} {f : FuncId} {sz bytes : Nat} (hw : InsW P H0 f sz bytes) (hn : InsN P H0 f sz bytes) {α : Type} {b : Nat} {h : Heap} {p : Option (Nat × Nat)} {c oid : Option Nat} {enc : α → List V} {ys zs : List α} (g : Gr b h p c oid sz enc ys) (hb : b ≤ h.length) {q : Nat} {vc : Option Nat} (hq : h[q]? = some (.cells (zs.flatMap enc) .rw)) (hne : oid ≠ some q)
    (hzw : ∀ y ∈ zs, (enc y).length = sz) (hzl : ∀ y ∈ zs, (enc y).all V.leaf = true) (hm : 1 ≤ zs.length) {i : Nat} (hi : i ≤ ys.length) (hB : (ys.length + zs.length) * bytes ≤ 2 ^ 47) (hS : ys.length + zs.length ≤ 2 ^ 47) :
    ∃ p' oid' h', insHook sz bytes (callE P H0 f) [.slice p ys.length c, .int .i64 i, .slice (some (q, 0)) zs.length vc] h = some (.slice p' (ys.length + zs.length) none, h') ∧ Gr b h' p' none oid' sz enc (ys.take i ++ zs ++ ys.drop i) ∧ (oid' = oid ∨ oid' = some h.length) ∧ (h.length ≤ h'.length) ∧ (∀ i, oid ≠ some i → i < h.length → h'[i]? = h[i]?) ∧ (∀ i, i < b → h'[i]? = h[i]?) := by
  have hw2 : ∀ y ∈ ys.take i ++ zs ++ ys.drop i, (enc y).length = sz := fun y hy => by
    simp only [List.mem_append] at hy
    rcases hy with (hy | hy) | hy
    · exact g.sl.width y (List.mem_of_mem_take hy)
    · exact hzw y hy
    · exact g.sl.width y (List.mem_of_mem_drop hy)
  have hl2 : ∀ y ∈ ys.take i ++ zs ++ ys.drop i, (enc y).all V.leaf = true := fun y hy => by
    simp only [List.mem_append] at hy
    rcases hy with (hy | hy) | hy
    · exact g.leaf y (List.mem_of_mem_take hy)
    · exact hzl y hy
    · exact g.leaf y (List.mem_of_mem_drop hy)
  have hlen : (ys.take i ++ zs ++ ys.drop i).length = ys.length + zs.length := by simp; omega
  have hnew : ∀ hh : Heap, hh.length = h.length → Gr b (hh ++ [.cells ((ys.take i ++ zs ++ ys.drop i).flatMap enc) (.gr sz)]) (some (h.length, 0)) none (some h.length) sz enc (ys.take i ++ zs ++ ys.drop i) := by
    intro hh hhl
    have hc : (hh ++ [O.cells ((ys.take i ++ zs ++ ys.drop i).flatMap enc) (.gr sz)])[h.length]? = some (.cells ((ys.take i ++ zs ++ ys.drop i).flatMap enc) (.gr sz)) := snoc_last _ hhl.symm
    refine ⟨.whole hc hw2 rfl (by rw [hlen]; exact hS), .inr ⟨_, 0, _, _, rfl, rfl, hc, .inr ⟨rfl, rfl, ?_⟩⟩, fun id e => (by cases e; exact hb), hl2⟩
    rw [flatMap_len hw2]; omega
  have hMw : Wd sz (zs.map enc) := fun r hr => by
    obtain ⟨y, hy, rfl⟩ := List.mem_map.1 hr
    exact hzw y hy
  have hq2 : h[q]? = some (.cells ([] ++ (zs.map enc).flatten ++ []) .rw) := by rw [hq, map_flat]; simp
  have hMl : (zs.map enc).flatten.all V.leaf = true := by rw [map_flat]; exact all_leaf hzl
  rcases g.kind with ⟨rfl, rfl, ho⟩ | ⟨id, off, C, k, rfl, rfl, e3, e4⟩
  · have hy : ys = [] := g.sl.nil rfl
    subst hy
    have hi0 : i = 0 := by simpa using hi
    subst hi0
    obtain ⟨r, h', e1, rfl, rfl⟩ := hn (vc := vc) hq2 hMw hMl (by simpa using hm) (by simpa using hB)
    simp only [List.length_map, List.length_nil] at e1
    refine ⟨some (h.length, 0), some h.length, h ++ [O.cells (zs.map enc).flatten (.gr sz)], ?_, ?_, .inr rfl, ?_, ?_, ?_⟩
    · rw [List.length_nil, Nat.zero_add]
      exact e1
    · rw [map_flat]
      simpa using hnew h rfl
    · simp
    · intro j _ hj; exact List.getElem?_append_left hj
    · intro j hj; exact List.getElem?_append_left (by omega)
  · have hbi := g.base id rfl
    have hlt := lt_of_some e3
    have hne' : id ≠ q := fun e => hne (by rw [e])
    obtain ⟨C', k', h1, h2, h3⟩ := g.sl.reads id off rfl
    rw [e3] at h1; cases h1
    have hfl := flat_of_reads g.sl.width h2 h3
    rcases e4 with ⟨rfl, hk⟩ | ⟨rfl, rfl, hend⟩
    · have hC : C = C.take off ++ (ys.map enc).flatten ++ (C.drop (off + ys.length * sz)) := by
        rw [map_flat, ← hfl, List.append_assoc, ← List.drop_drop, List.take_append_drop, List.take_append_drop]
      have hAl : (C.take off).length = off := by rw [List.length_take]; omega
      have hyw : Wd sz (ys.map enc) := fun r hr => by
        obtain ⟨y, hy, rfl⟩ := List.mem_map.1 hr
        exact g.sl.width y hy
      have hyl : (ys.map enc).flatten.all V.leaf = true := by rw [map_flat]; exact all_leaf g.leaf
      obtain ⟨r, h', e1, hR⟩ := hw (c := ys.length) (i := i) (vc := vc) (by rw [e3, ← hC]) hk hyw hyl hq2 hMw hMl hne' (by simpa using hm) (by simpa using hi) (by simp) (by simp) (by simpa using hB)
      simp only [List.length_map, List.length_nil, hAl] at e1 hR
      rcases hR with ⟨_, h9, _⟩ | ⟨rfl, rfl⟩
      · omega
      · refine ⟨_, _, _, e1, ?_, .inr rfl, ?_, ?_, ?_⟩
        · have e : (List.take i (ys.map enc) ++ zs.map enc ++ List.drop i (ys.map enc)).flatten = (ys.take i ++ zs ++ ys.drop i).flatMap enc := by
            rw [← map_flat]; simp [List.map_take, List.map_drop]
          rw [e]; exact hnew h rfl
        · simp
        · intro j _ hj; exact List.getElem?_append_left hj
        · intro j hj; exact List.getElem?_append_left (by omega)
    · have hcd : C.drop off = ys.flatMap enc := by
        rw [← hfl]; exact (List.take_of_length_le (by rw [List.length_drop]; omega)).symm
      have hzlen := flatMap_len hzw
      have hres : insHook sz bytes (callE P H0 f) [.slice (some (id, off)) ys.length none, .int .i64 i, .slice (some (q, 0)) zs.length vc] h = some (.slice (some (h.length, 0)) (ys.length + zs.length) none, h.set id .dead ++ [.cells ((ys.take i ++ zs ++ ys.drop i).flatMap enc) (.gr sz)]) := by
        unfold insHook
        simp only [e3, hq, hcd, List.drop_zero]
        rw [if_pos ⟨trivial, hne', hend, by omega, by omega, hm, by rw [hzlen]; omega, hB, all_leaf g.leaf, by rw [List.take_of_length_le (by rw [hzlen]; exact Nat.le_refl _)]; exact all_leaf hzl⟩]
        rw [Int.toNat_natCast, flatMap_take g.sl.width, flatMap_drop g.sl.width, show (zs.flatMap enc).take (zs.length * sz) = zs.flatMap enc from List.take_of_length_le (by rw [hzlen]; exact Nat.le_refl _)]
        simp
      refine ⟨_, _, _, hres, hnew _ (by simp), .inr rfl, by simp, fun j hj hjl => ?_, fun j hj => ?_⟩
      · rw [List.getElem?_append_left (by simpa using hjl), List.getElem?_set_ne (fun e => hj (by rw [e]))]
      · rw [List.getElem?_append_left (by simp; omega), List.getElem?_set_ne (by omega)]
end Go.Proofs.YtcaolnmpldbkjaaGreatA
