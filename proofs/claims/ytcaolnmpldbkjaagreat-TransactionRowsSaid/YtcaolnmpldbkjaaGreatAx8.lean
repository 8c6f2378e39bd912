/- Words of this session: the builtins of the second reading hold of the model. -/
import Derived.Test.YtcaolnmpldbkjaaGreatAx7
namespace Go.Proofs.YtcaolnmpldbkjaaGreatA
open Go Go.RowKit
set_option linter.unusedVariables false
set_option linter.unusedSimpArgs false

section
variable {P : Program} {ι : Mp} {t : List V} {a : Act} {h h' : Heap} {w : World}

theorem lenV_run {v : V} {x : Value} {n : Nat} (h : lenV v = some n) (hv : RV ι v x) (w : World) : (Builtin.lenOf x).run P w = .ok n w := by
  cases v <;> simp [lenV] at h
  · rename_i s; subst h; cases hv with | str _ B hB => simp [Builtin.lenOf, ← hB, bytesOf_length]
  · subst h; cases hv <;> simp [Builtin.lenOf]
theorem firstV_run (hr : Rel ι h w) {size n : Nat} {v : V} {vs : List V} (hl : firstV size n h v = some vs) {x : Value} (hv : RV ι v x) (hn : ∀ k, lenV v = some k → n ≤ k) :
    ∃ cs : List Value, (Builtin.firstCells size n x).run P w = .ok cs.toArray w ∧ RVs ι vs cs := by
  unfold firstV at hl
  split at hl
  · rename_i id off len cap
    obtain ⟨A, c, pl, rfl, hi, hb, hs, hlc, hA⟩ := hv.slice_at
    obtain ⟨cs, hrun, hrv, hlen, _⟩ := loadN_run (P := P) hr hl hi
    by_cases h0 : 0 < len
    · refine ⟨cs, ?_, hrv⟩
      rw [hA h0]
      exact hrun
    · have hn0 : n = 0 := by have := hn len rfl; omega
      subst hn0
      simp at hlen
      subst hlen
      exact ⟨[], by simp [Builtin.firstCells, loadCells, loadCellsFrom], .nil ι⟩
  · cases hl; cases hv; exact ⟨[], by simp [Builtin.firstCells], .nil ι⟩
  · rename_i s
    cases hl; cases hv with | str _ B hB =>
    refine ⟨(s.take n).map (.int .u8), ?_, ints_rvs ι _⟩
    simp only [Builtin.firstCells, Sem.run_pure]
    congr 1
    rw [← hB]
    apply Array.toList_inj.1
    simp [bytesOf, ByteArray.data_extract, List.map_take, Function.comp_def]
  · cases hl
theorem loadN_length {id off n : Nat} {vs : List V} (hl : loadN h id off n = some vs) : vs.length = n ∧ ∃ cs k, h[id]? = some (.cells cs k) ∧ off + n ≤ cs.length ∧ vs = (cs.drop off).take n := by
  unfold loadN at hl
  split at hl
  · rename_i cs k hc
    split at hl
    · rename_i hle
      cases hl
      exact ⟨by simp; omega, cs, k, hc, hle, rfl⟩
    · cases hl
  · cases hl

theorem rowT_under {xt : TypeId} (h : rowT P xt = true) : (∃ e, P.underlying xt = some (.slice e)) ∨ P.underlying xt = some .string := by
  unfold rowT at h
  split at h
  · rename_i e q; exact .inl ⟨e, q⟩
  · rename_i q; exact .inr q
  · cases h
theorem append_grow_run {st xt ty e : TypeId} {i : TypeInfo} {zv : Value} (hu : P.underlying st = some (.slice e)) (hd : rowT P xt = true) (hi : P.info? e = some i) (hz : i.zero = some zv)
    {A : Option Addr} {len c n : Nat} {x : Value} {old new : List Value} (hlen : (Builtin.lenOf x).run P w = .ok n w) (ho : (Builtin.firstCells i.size len (.slice A len c)).run P w.drew = .ok old.toArray w.drew) (hn' : (Builtin.firstCells i.size n x).run P w.drew = .ok new.toArray w.drew)
    (hgrow : ¬ (len + n ≤ c)) (hb : (len + n) * i.bytes ≤ 2 ^ 47) (hb2 : len + n ≤ 2 ^ 47) :
    ∃ cap, len + n ≤ cap ∧ (Builtin.append_ #[st, xt] ty #[.slice A len c, x]).run P w = .ok (.slice (some ⟨w.heap.size, 0, none⟩) (len + n) cap)
      (w.drew.alloc (.cells ((old ++ new).toArray ++ Builtin.zeroCells zv.cells (cap - (len + n))) e)) := by
  refine ⟨(Question.appendCap (len + n) c e).cut (w.tape w.drawn (.appendCap (len + n) c e)), by simp [Question.cut], ?_⟩
  have hfit := growslice_fits (bytes := i.bytes) (show c < len + n by omega) (by simpa using hb)
  have h63 : ¬ ((9223372036854775807 : Int) < (len : Int) + n) := by
    have : (2:Nat)^47 = 140737488355328 := by decide
    omega
  have hf : ¬ (281474976710656 < Builtin.nextslicecap (len + n) c * i.bytes) := by omega
  have hq : (Question.appendCap (len + n) c e).forced = false := rfl
  rcases rowT_under hd with ⟨e', hd⟩ | hd
  all_goals simp [Builtin.append_, run_underlying hu, run_underlying hd, sizeOf, typeInfo, hi, zeroValue, hz, hlen, hgrow, h63, hf, hq, ho, hn', newRow]
  all_goals (congr 2; rw [← Array.append_assoc]; congr 1; simp)
theorem append_room_run {st xt ty e : TypeId} {i : TypeInfo} (hu : P.underlying st = some (.slice e)) (hd : rowT P xt = true) (hi : P.info? e = some i)
    {A : Option Addr} {len c n : Nat} {x : Value} {new : List Value} (hlen : (Builtin.lenOf x).run P w = .ok n w) (hnew : (Builtin.firstCells i.size n x).run P w = .ok new.toArray w) (hroom : len + n ≤ c) {w' : World}
    (hst : match A with | some a => (storeCells (a.add (len * i.size)) new).run P w = .ok () w' | none => w' = w) :
    (Builtin.append_ #[st, xt] ty #[.slice A len c, x]).run P w = .ok (.slice A (len + n) c) w' := by
  rcases rowT_under hd with ⟨e', hd⟩ | hd
  all_goals
    cases A with
    | none => subst hst; simp [Builtin.append_, run_underlying hu, run_underlying hd, sizeOf, typeInfo, hi, hlen, hroom, hnew]
    | some a => simp [Builtin.append_, run_underlying hu, run_underlying hd, sizeOf, typeInfo, hi, hlen, hroom, hnew, hst]

theorem storeCells_nil (A : Addr) (w : World) : (storeCells A []).run P w = .ok () w := rfl
theorem zeroCells_size (z : Array Value) (n : Nat) : (Builtin.zeroCells z n).size = n * z.size := by simp [Builtin.zeroCells]
/-- A slice that grows into a block of its own. -/
theorem grow_out (hr : Rel ι h w) {st xt ty e : TypeId} {i : TypeInfo} {zv : Value} (hu : P.underlying st = some (.slice e)) (hd : rowT P xt = true) (hi : P.info? e = some i) (hz : i.zero = some zv) (hZ : zv.cells.size = i.size)
    {p : Option (Nat × Nat)} {cap : Option Nat} {A : Option Addr} {len c n : Nat} {x : V} {X : Value} (hs : RV ι (.slice p len cap) (.slice A len c)) (hx : RV ι x X) (hln : lenV x = some n)
    {old new : List V} (ho : firstV i.size len h (.slice p len cap) = some old) (hn : firstV i.size n h x = some new) (hol : ∀ v ∈ old, v.leaf = true) (hnl : ∀ v ∈ new, v.leaf = true) (hoz : old.length = len * i.size) (hnz : new.length = n * i.size)
    (hgrow : ¬ (len + n ≤ c)) (hb : (len + n) * i.bytes ≤ 2 ^ 47) (hb2 : len + n ≤ 2 ^ 47) :
    ∃ cap' C, len + n ≤ cap' ∧ C.size = cap' * i.size ∧ (Builtin.append_ #[st, xt] ty #[.slice A len c, X]).run P w = .ok (.slice (some ⟨w.heap.size, 0, none⟩) (len + n) cap') (w.drew.alloc (.cells C e)) ∧
      (∀ (j : Nat) (v : V), (old ++ new)[j]? = some v → v.leaf = true ∧ ∃ u, C[j]? = some u ∧ RV ι v u) ∧ ∀ z : List V, RVs (fun _ => none) z zv.cells.toList → (∀ v ∈ z, v.leaf = true) → Spare (old ++ new).length 0 C.size C := by
  obtain ⟨oc, horun, horv⟩ := firstV_run (P := P) hr.drew ho hs (fun k hk => by simp [lenV] at hk; omega)
  obtain ⟨nc, hnrun, hnrv⟩ := firstV_run (P := P) hr.drew hn hx (fun k hk => by rw [hln] at hk; cases hk; exact Nat.le_refl _)
  obtain ⟨cap', hc, hrun⟩ := append_grow_run (P := P) (w := w) (ty := ty) hu hd hi hz (lenV_run hln hx w) horun hnrun hgrow hb hb2
  refine ⟨cap', _, hc, ?_, hrun, ?_, ?_⟩
  · rw [Array.size_append, zeroCells_size, hZ]
    have e1 : oc.length = len * i.size := by rw [← hoz, horv.1]
    have e2 : nc.length = n * i.size := by rw [← hnz, hnrv.1]
    rw [List.size_toArray, List.length_append, e1, e2, ← Nat.add_mul, ← Nat.add_mul]
    congr 1; omega
  · intro j v hv
    have hrv := horv.append hnrv
    obtain ⟨u, hu1, hu2⟩ := hrv.get hv
    refine ⟨?_, u, ?_, hu2⟩
    · rcases List.mem_append.1 (List.mem_of_getElem? hv) with hm | hm
      · exact hol v hm
      · exact hnl v hm
    · have hlt : j < (oc ++ nc).length := (List.getElem?_eq_some_iff.1 hu1).1
      rw [Array.getElem?_append_left (by simpa using hlt)]
      simpa using hu1
  · intro z hz hzl
    have hzs : z.length = i.size := by rw [hz.1]; simpa using hZ
    intro j hj hlt
    rw [Nat.zero_add] at hj hlt
    have e1 : oc.length = old.length := horv.1.symm
    have e2 : nc.length = new.length := hnrv.1.symm
    have e3 : (oc ++ nc).toArray.size = (old ++ new).length := by simp [e1, e2]
    rw [Array.size_append, zeroCells_size, e3, hZ] at hlt
    have hpos : 0 < i.size := by
      rcases Nat.eq_zero_or_pos i.size with h0 | h0
      · rw [h0] at hlt; omega
      · exact h0
    have hj2 : (j - (old ++ new).length) % i.size < zv.cells.size := by rw [hZ]; exact Nat.mod_lt _ hpos
    have hjr : j - (old ++ new).length < (cap' - (len + n)) * zv.cells.size := by rw [hZ]; omega
    obtain ⟨u, hu1, hu2⟩ := hz.get (List.getElem?_eq_getElem (show (j - (old ++ new).length) % i.size < z.length by rw [hzs]; exact Nat.mod_lt _ hpos))
    refine ⟨_, u, hzl _ (List.getElem_mem _), ?_, hu2⟩
    rw [Array.getElem?_append_right (by rw [e3]; omega), e3]
    unfold Builtin.zeroCells
    rw [Array.getElem?_map, Array.getElem?_range, if_pos hjr]
    simp only [Option.map_some]
    rw [hZ, getElem!_pos zv.cells _ hj2]
    rw [Array.getElem?_toList, Array.getElem?_eq_getElem hj2] at hu1
    exact hu1
/-- A block that is left: nothing is said of it any more. -/
theorem Stp.kill (hr : Rel ι h w) {id : Nat} {o : O} (ho : h[id]? = some o) : Stp ι h w ι (h.set id .dead) w := by
  have hcase : ∀ j y, (h.set id .dead)[j]? = some y → (j = id ∧ y = .dead) ∨ (j ≠ id ∧ h[j]? = some y) := by
    intro j y hy
    by_cases e : j = id
    · subst e; rw [List.getElem?_set_self (List.getElem?_eq_some_iff.1 ho).1] at hy; cases hy; exact .inl ⟨rfl, rfl⟩
    · rw [List.getElem?_set_ne (Ne.symm e)] at hy; exact .inr ⟨e, hy⟩
  refine ⟨.refl ι, fun _ _ x => .inl x, ⟨fun j q y g1 g2 => ?_, fun i j pi pj oi oj hij g1 g2 g3 g4 g5 g6 => ?_⟩, ?_, ?_, rfl, rfl, rfl, Nat.le_refl _, fun _ _ _ => rfl, by simp, Nat.le_refl _⟩
  · rcases hcase j y g2 with ⟨rfl, rfl⟩ | ⟨_, g3⟩
    · trivial
    · exact hr.ok j q y g1 g3
  · rcases hcase i oi g3 with ⟨rfl, rfl⟩ | ⟨_, g3⟩
    · cases g5
    · rcases hcase j oj g4 with ⟨rfl, rfl⟩ | ⟨_, g4⟩
      · cases g6
      · exact hr.sep i j pi pj oi oj hij g1 g2 g3 g4 g5 g6
  · rintro b ⟨j, q, y, g1, g2, g3, g4⟩
    rcases hcase j y g2 with ⟨rfl, rfl⟩ | ⟨_, g5⟩
    · cases g3
    · exact .inl ⟨j, q, y, g1, g5, g3, g4⟩
  · rintro b ⟨j, q, y, g1, g2, g3, g4⟩
    rcases hcase j y g2 with ⟨rfl, rfl⟩ | ⟨_, g5⟩
    · cases g3
    · exact .inl ⟨j, q, y, g1, g5, g3, g4⟩
/-- A block of memory that nothing stands for takes a new name. -/
theorem Rel.adopt (hr : Rel ι h w) (hf : ι h.length = none) {pl : Pl} {o : O} (hok : OK (ext ι h.length pl) w pl o) (hno : ∀ j pj oj, ι j = some pj → h[j]? = some oj → oj.alive = true → pj.blk ≠ pl.blk) : Rel (ext ι h.length pl) (h ++ [o]) w := by
  have hsub := ext_sub (pl := pl) hf
  have hcase : ∀ id q y, ext ι h.length pl id = some q → (h ++ [o])[id]? = some y → (id = h.length ∧ q = pl ∧ y = o) ∨ (ι id = some q ∧ h[id]? = some y ∧ id ≠ h.length) := by
    intro id q y h1 h2
    by_cases e : id = h.length
    · subst e
      rw [ext_new] at h1
      rw [getElem?_push_self] at h2
      cases h1; cases h2
      exact .inl ⟨rfl, rfl, rfl⟩
    · right
      have h3 : ι id = some q := by simpa [ext, e] using h1
      have hlt : id < h.length := by
        have := (List.getElem?_eq_some_iff.1 h2).1
        simp at this; omega
      rw [getElem?_push_lt hlt] at h2
      exact ⟨h3, h2, e⟩
  refine ⟨fun id q y h1 h2 => ?_, fun i j pi pj oi oj hij h1 h2 h3 h4 hw ha => ?_⟩
  · rcases hcase id q y h1 h2 with ⟨_, rfl, rfl⟩ | ⟨a, b, _⟩
    · exact hok
    · exact (hr.ok id q y a b).mono hsub fun _ => rfl
  · rcases hcase i pi oi h1 h3 with ⟨e1, rfl, rfl⟩ | ⟨a1, b1, _⟩ <;> rcases hcase j pj oj h2 h4 with ⟨e2, rfl, rfl⟩ | ⟨a2, b2, _⟩
    · omega
    · exact Ne.symm (hno j pj oj a2 b2 ha)
    · exact hno i pi oi a1 b1 (O.wr_alive hw)
    · exact hr.sep i j pi pj oi oj hij a1 a2 b1 b2 hw ha
theorem spare_of {z : List V} {Z : Array Value} (hz : RVs (fun _ => none) z Z.toList) (hzl : ∀ v ∈ z, v.leaf = true) (X : Array Value) (k : Nat) : Spare X.size 0 (X ++ Builtin.zeroCells Z k).size (X ++ Builtin.zeroCells Z k) := by
  intro j hj hlt
  rw [Nat.zero_add] at hj hlt
  have hzs : z.length = Z.size := by simpa using hz.1
  rw [Array.size_append, zeroCells_size] at hlt
  have hpos : 0 < Z.size := by
    rcases Nat.eq_zero_or_pos Z.size with h0 | h0
    · rw [h0] at hlt; omega
    · exact h0
  have hj2 : (j - X.size) % Z.size < Z.size := Nat.mod_lt _ hpos
  have hjr : j - X.size < k * Z.size := by omega
  obtain ⟨u, hu1, hu2⟩ := hz.get (List.getElem?_eq_getElem (show (j - X.size) % Z.size < z.length by rw [hzs]; exact hj2))
  refine ⟨_, u, hzl _ (List.getElem_mem _), ?_, hu2⟩
  rw [Array.getElem?_append_right hj]
  unfold Builtin.zeroCells
  rw [Array.getElem?_map, Array.getElem?_range, if_pos hjr]
  simp only [Option.map_some]
  rw [getElem!_pos Z _ hj2]
  rw [Array.getElem?_toList, Array.getElem?_eq_getElem hj2] at hu1
  exact hu1
theorem append_make_run {st xt ty e : TypeId} {k0 : IntKind} {i : TypeInfo} {zv : Value} (hu : P.underlying st = some (.slice e)) (hd : P.underlying xt = some (.int k0)) (hi : P.info? e = some i) (hz : i.zero = some zv)
    {A : Option Addr} {len c : Nat} {kx : IntKind} {l : Int} {old : List Value} (h0 : 0 ≤ IntKind.i64.wrap l) (hs0 : ¬ i.size = 0) (ho : (Builtin.firstCells i.size len (.slice A len c)).run P w.drew = .ok old.toArray w.drew)
    (hgrow : ¬ (len + (IntKind.i64.wrap l).toNat ≤ c)) (hlc : len ≤ c) (hb : (len + (IntKind.i64.wrap l).toNat) * i.bytes ≤ 2 ^ 47) (hb2 : len + (IntKind.i64.wrap l).toNat ≤ 2 ^ 47) :
    ∃ cap, len + (IntKind.i64.wrap l).toNat ≤ cap ∧ (Builtin.append_ #[st, xt] ty #[.slice A len c, .int kx l]).run P w = .ok (.slice (some ⟨w.heap.size, 0, none⟩) (len + (IntKind.i64.wrap l).toNat) cap)
      (w.drew.alloc (.cells ((old ++ (Builtin.zeroCells zv.cells (IntKind.i64.wrap l).toNat).toList).toArray ++ Builtin.zeroCells zv.cells (cap - (len + (IntKind.i64.wrap l).toNat))) e)) := by
  refine ⟨(Question.appendCap (len + (IntKind.i64.wrap l).toNat) c e).cut (w.tape w.drawn (.appendCap (len + (IntKind.i64.wrap l).toNat) c e)), by simp [Question.cut], ?_⟩
  generalize hw : IntKind.i64.wrap l = q at *
  obtain ⟨n, rfl⟩ : ∃ n : Nat, q = n := ⟨q.toNat, by omega⟩
  simp only [Int.toNat_natCast] at *
  have hfit := growslice_fits (bytes := i.bytes) (show c < len + n by omega) (by simpa using hb)
  have h63 : ¬ ((9223372036854775807 : Int) < (len : Int) + n) := by
    have : (2:Nat)^47 = 140737488355328 := by decide
    omega
  have hf : ¬ (281474976710656 < Builtin.nextslicecap (len + n) c * i.bytes) := by omega
  have hnb : ¬ ((281474976710656 : Int) < (n : Int) * i.bytes) := by
    have h1 : n * i.bytes ≤ (len + n) * i.bytes := Nat.mul_le_mul_right _ (by omega)
    have h2 : ((n * i.bytes : Nat) : Int) = (n : Int) * i.bytes := by simp
    have : (2:Nat)^47 = 140737488355328 := by decide
    omega
  have hn0 : ¬ (n = 0) := by omega
  have hneg : ¬ ((n : Int) < 0) := by omega
  have hns : ¬ (n * i.size = 0) := by rw [Nat.mul_eq_zero]; rintro (q | q) <;> omega
  have hq : (Question.appendCap (len + n) c e).forced = false := rfl
  simp [Builtin.append_, run_underlying hu, run_underlying hd, sizeOf, typeInfo, hi, zeroValue, hz, hgrow, h63, hf, hq, ho, newRow, asInt, asIntOf, hw, hnb, hneg, hns]
  all_goals (congr 2; rw [← Array.append_assoc]; congr 1; simp)
theorem append_out (hr : Rel ι h w) {st xt ty : TypeId} {s x : V} {S X : Value} (hs : RV ι s S) (hx : RV ι x X) {r : V × Heap} (hp : appendV P st xt s x h = some r) (hf : Free ι h.length r.2.length) :
    ∃ κ w' y, (Builtin.append_ #[st, xt] ty #[S, X]).run P w = .ok y w' ∧ RV κ r.1 y ∧ Stp ι h w κ r.2 w' := by
  unfold appendV at hp
  split at hp
  · rename_i e p len cap hu0 hd
    have hu := elemT_under hu0
    split at hp
    · rename_i size bytes z n hsz hbt hz hln
      obtain ⟨i, zv, hi, hzero, hrvz, hlenz, hlfz, hrunz⟩ := zerosT_run hz ι
      have hsi : i.size = size := by simpa [szT, hi] using hsz
      obtain ⟨i', hi', hbi⟩ := byT_run hbt w
      rw [hi] at hi'; cases hi'
      subst hsi; subst hbi
      have hZ : zv.cells.size = i.size := by rw [← hlenz]; have := hrvz.1; simpa using this.symm
      have hlenX := lenV_run (P := P) hln hx w
      obtain ⟨A, c, rfl, hlc, hcap⟩ := slice_inv hs
      split at hp
      · -- nothing to append
        rename_i h0
        subst h0
        cases hp
        refine ⟨ι, w, .slice A len c, ?_, hs, .refl hr⟩
        have hnew : (Builtin.firstCells i.size 0 X).run P w = .ok ([] : List Value).toArray w := by
          cases hx <;> simp [lenV] at hln <;> first | (simp [Builtin.firstCells, loadCells, loadCellsFrom]; done) | (rename_i A' _ _ _; simp [Builtin.firstCells, loadCells, loadCellsFrom])
        have := append_room_run (P := P) (w := w) (ty := ty) (A := A) (len := len) (c := c) hu hd hi hlenX hnew (by omega) (w' := w) (by
          cases A with
          | none => rfl
          | some a => exact storeCells_nil _ _)
        simpa using this
      · rename_i h0
        split at hp
        · cases hp
        · rename_i new hnew
          unfold appRest at hp
          split at hp
          · cases hp
          · rename_i hcond
            have c1 : new.length = n * i.size := by omega
            have c2 : ∀ v ∈ new, v.leaf = true := by
              cases hb : new.all V.leaf with
              | true => exact fun v hv => List.all_eq_true.1 hb v hv
              | false => exact absurd (.inr (.inl hb)) hcond
            have c3 : len + n ≤ 2 ^ 47 := by omega
            cases cap with
            | some c' =>
              dsimp only at hp
              obtain rfl : c' = c := by
                rcases hcap with e | e
                · cases e; rfl
                · cases e
              split at hp
              · rename_i hroom
                split at hp
                · rename_i id off
                  cases hq : storeN h id (off + len * i.size) new with
                  | none => simp [hq] at hp
                  | some h1 =>
                    simp [hq] at hp; subst hp
                    obtain ⟨nc, hnrun, hnrv⟩ := firstV_run (P := P) hr hnew hx (fun k hk => by rw [hln] at hk; cases hk; exact Nat.le_refl _)
                    cases hs with
                    | slice _ _ _ _ _ A pl hi' hsok =>
                      have hsok := hsok.resolve_left (by rintro ⟨e1, e2, e3⟩; omega)
                      have hoff : A = ⟨pl.blk, pl.off + off, none⟩ := by
                        obtain ⟨q1, q2, q3, q4, q5⟩ := hsok
                        have : A.off = pl.off + off := by omega
                        cases A; simp at q1 q2 this; simp [q1, q2, this]
                      obtain ⟨w', hrun, hst⟩ := storeN_run (P := P) hr hq hi' hnrv
                      refine ⟨ι, w', .slice (some A) (len + n) c', ?_, .slice _ _ _ _ _ _ pl hi' ?_, hst⟩
                      · refine append_room_run (P := P) hu hd hi hlenX hnrun hroom ?_
                        simp only
                        rw [hoff, addr_add, Nat.add_assoc]; exact hrun
                      · exact .inr ⟨hsok.1, hsok.2.1, hsok.2.2.1, hroom, hsok.2.2.2.2⟩
                · cases hp
              · rename_i hroom
                unfold growV at hp
                split at hp
                · cases hp
                · rename_i hb
                  split at hp
                  · rename_i old ho
                    split at hp
                    · rename_i hol
                      have hoz : old.length = len * i.size := by
                        cases p with
                        | none =>
                          cases hs
                          simp [firstV] at ho; subst ho; simp
                        | some q => obtain ⟨id, off⟩ := q; exact (loadN_length ho).1
                      obtain ⟨cap', C, g1, g2, g3, g4, g5⟩ := grow_out (P := P) (ty := ty) hr hu hd hi hzero hZ hs hx hln ho hnew (fun v hv => List.all_eq_true.1 hol v hv) c2 hoz c1 hroom (by omega) c3
                      have g6 := g5 z (by obtain ⟨i', zv', hi', hz', hr', _⟩ := zerosT_run hz (fun _ => none); rw [hi] at hi'; cases hi'; rw [hzero] at hz'; cases hz'; exact hr') hlfz
                      have hst := newC_out (hr.drew) (by simp) hp hf C e g4 (fun e' he => by cases he; exact g6)
                      refine ⟨_, _, _, g3, ?_, (Stp.drew hr).trans hst⟩
                      simp at hp; subst hp
                      have hok : SliceOk ⟨w.heap.size, 0, C.size, (Kd.gr i.size).sz, true⟩ 0 (len + n) none cap' ⟨w.heap.size, 0, none⟩ := .inr ⟨rfl, rfl, .inl ⟨rfl, g1, fun _ => by simp [Kd.sz, g2]⟩⟩
                      exact .slice _ _ _ _ _ _ _ (ext_new _ _ _) hok
                    · cases hp
                  · cases hp
            | none =>
              cases p with
              | none => cases hs
              | some q =>
              obtain ⟨id, off⟩ := q
              dsimp only at hp
              unfold ontoV at hp
              split at hp
              · cases hp
              · rename_i hb
                split at hp
                · rename_i cs eg old hid ho
                  split at hp
                  · rename_i hc4
                    obtain ⟨hend, hol, rfl⟩ := hc4
                    simp at hp; subst hp
                    have hoz : old.length = len * i.size := (loadN_length ho).1
                    obtain ⟨A, c', pl, hX, hpl, hA1, hA2, hlc', hA⟩ := hs.slice_at
                    replace hA1 := hA1 (by simp)
                    replace hA2 := hA2 (by simp)
                    cases hX
                    obtain ⟨C0, E, fz, k1, k2, k3, k4, k5⟩ := hr.ok id pl _ hpl hid
                    obtain ⟨k5a, k5b, k5c, k5f⟩ := k5 _ rfl
                    have hkill := Stp.kill hr hid
                    by_cases hroom : len + n ≤ c
                    · -- in place
                      cases hs with
                      | slice _ _ _ _ _ _ pl2 hpl2 hsok =>
                      rw [hpl] at hpl2; cases hpl2
                      obtain ⟨q1, q2, q3⟩ := hsok.resolve_left (by rintro ⟨e1, e2, e3⟩; cases e2)
                      have q4 : A.off = pl.off + off ∧ (pl.gr = true → off + c * pl.esz = pl.tot) := by
                        rcases q3 with q | q
                        · exact ⟨q.1, q.2.2⟩
                        · omega
                      have hoff : A = ⟨pl.blk, pl.off + off, none⟩ := by
                        have := q4.1
                        cases A; simp at q1 q2 this; simp [q1, q2, this]
                      have htot := q4.2 k5a
                      rw [k5b] at htot
                      obtain ⟨nc, hnrun, hnrv⟩ := firstV_run (P := P) hr hnew hx (fun k hk => by rw [hln] at hk; cases hk; exact Nat.le_refl _)
                      have hncl : nc.length = n * i.size := by rw [← hnrv.1, c1]
                      have hfit : pl.off + off + len * i.size + nc.length ≤ C0.size := by
                        rw [hncl]
                        have hk5 : pl.off + (off + c * i.size) ≤ C0.size := by rw [htot]; exact k5c
                        have : (len + n) * i.size ≤ c * i.size := Nat.mul_le_mul_right _ hroom
                        rw [Nat.add_mul] at this
                        omega
                      have h1c : ∀ u ∈ nc, u.oneCell' = true := by
                        intro u hu
                        obtain ⟨j, hj1, hj2⟩ := List.getElem_of_mem hu
                        have hjv : j < new.length := by rw [hnrv.1]; exact hj1
                        exact (hnrv.2 j new[j] u (List.getElem?_eq_getElem hjv) (by rw [← hj2]; exact List.getElem?_eq_getElem hj1)).leaf_one (c2 _ (List.getElem_mem hjv))
                      have hrun := run_storeCells_fz P pl.blk (pl.off + off + len * i.size) E fz nc 0 C0 w k1 ((k3 (by simp)).imp_right And.left) (by simpa using hfit) h1c
                      rw [Nat.add_zero] at hrun
                      have hlt : pl.blk < w.heap.size := (Array.getElem?_eq_some_iff.1 k1).1
                      generalize hD : (C0.toList.take (pl.off + off + len * i.size) ++ nc ++ C0.toList.drop (pl.off + off + len * i.size + nc.length)) = D at hrun
                      have hDg : ∀ j, D[j]? = if pl.off + off + len * i.size ≤ j ∧ j < pl.off + off + len * i.size + nc.length then nc[j - (pl.off + off + len * i.size)]? else C0.toList[j]? := by
                        intro j; rw [← hD]; exact splice_get _ _ _ (by simpa using hfit) j
                      have hDl : D.length = C0.size := by rw [← hD, splice_length _ _ _ (by simpa using hfit)]; simp
                      have hupd := Stp.upd hr hpl hid rfl (o' := .dead) (x := .cells D.toArray E fz) trivial
                      have hlen2 : (h.set id .dead).length = h.length := by simp
                      have hfree : ι (h.set id .dead).length = none := by rw [hlen2]; exact hf.first (by simp)
                      have hok : OK (ext ι (h.set id .dead).length ⟨pl.blk, pl.off + off, pl.tot - off, i.size, true⟩) { w with heap := w.heap.setIfInBounds pl.blk (.cells D.toArray E fz) } ⟨pl.blk, pl.off + off, pl.tot - off, i.size, true⟩ (.cells (old ++ new) (.gr i.size)) := by
                        refine ⟨D.toArray, E, fz, Array.getElem?_setIfInBounds_self_of_lt hlt, ?_, fun _ => ?_, (fun e => by cases e), fun e he => ?_⟩
                        · intro j v hv
                          have hsub := ext_sub (pl := ⟨pl.blk, pl.off + off, pl.tot - off, i.size, true⟩) hfree
                          dsimp only
                          rw [List.getElem?_toArray, hDg]
                          by_cases hj : j < old.length
                          · rw [List.getElem?_append_left hj] at hv
                            rw [if_neg (by omega)]
                            have hv' : cs[off + j]? = some v := by
                              obtain ⟨_, cs', k', e1, _, e3⟩ := loadN_length ho
                              rw [hid] at e1; cases e1
                              rw [e3] at hv
                              rw [List.getElem?_take] at hv
                              split at hv
                              · rw [List.getElem?_drop] at hv; exact hv
                              · cases hv
                            obtain ⟨lf, u, hu1, hu2⟩ := k2 _ _ hv'
                            exact ⟨lf, u, by rw [Nat.add_assoc]; simpa using hu1, hu2.mono hsub⟩
                          · have hvl : j < (old ++ new).length := (List.getElem?_eq_some_iff.1 hv).1
                            rw [List.getElem?_append_right (by omega)] at hv
                            obtain ⟨u, hu1, hu2⟩ := hnrv.get hv
                            refine ⟨c2 v (List.mem_of_getElem? hv), u, ?_, hu2.mono hsub⟩
                            simp only [List.length_append, c1] at hvl
                            rw [if_pos ⟨by omega, by omega⟩, ← hu1]
                            congr 1
                            omega
                        · rcases k3 (by simp) with q | q
                          · exact .inl q
                          · exact .inr ⟨by simpa [hDl] using q.1, by simp⟩
                        · cases he
                          refine ⟨rfl, rfl, ?_, fun j hj hlt => ?_⟩
                          · simp only [List.size_toArray, hDl]
                            have : off ≤ pl.tot := by rw [← htot]; omega
                            omega
                          · have hll : (old ++ new).length = len * i.size + n * i.size := by rw [List.length_append, hoz, c1]
                            dsimp only at hj
                            dsimp only at hlt
                            have hoff : off ≤ pl.tot := by rw [← htot]; omega
                            rw [hll] at hj
                            obtain ⟨v, u, hlv, hu1, hu2⟩ := k5f j (by rw [← hend]; omega) (by omega)
                            refine ⟨v, u, hlv, ?_, hu2⟩
                            have hneg : ∀ q : Prop, (j < pl.off + off + len * i.size + nc.length → q) := fun q hq => by
                              rw [hncl] at hq; omega
                            rw [List.getElem?_toArray, hDg, if_neg (fun hq => hneg False hq.2), Array.getElem?_toList]
                            exact hu1
                      have hrel := Rel.adopt hupd.rel hfree hok (by
                        intro j pj oj g1 g2 g3 e
                        by_cases ej : j = id
                        · subst ej
                          rw [List.getElem?_set_self (List.getElem?_eq_some_iff.1 hid).1] at g2
                          cases g2; cases g3
                        · rw [List.getElem?_set_ne (Ne.symm ej)] at g2
                          exact hr.sep id j pl pj _ oj (Ne.symm ej) hpl g1 hid g2 rfl g3 e.symm)
                      refine ⟨ext ι (h.set id .dead).length ⟨pl.blk, pl.off + off, pl.tot - off, i.size, true⟩, { w with heap := w.heap.setIfInBounds pl.blk (.cells D.toArray E fz) }, .slice (some A) (len + n) c, ?_, ?_, ?_⟩
                      · refine append_room_run (P := P) (w' := { w with heap := w.heap.setIfInBounds pl.blk (.cells D.toArray E fz) }) hu hd hi hlenX hnrun hroom ?_
                        simp only
                        rw [hoff, addr_add]
                        exact hrun
                      · have hsok' : SliceOk ⟨pl.blk, pl.off + off, pl.tot - off, i.size, true⟩ 0 (len + n) none c A := .inr ⟨q1, q2, .inl ⟨by rw [q4.1]; rfl, hroom, fun _ => by simp only []; omega⟩⟩
                        have := RV.slice (ι := ext ι (h.set id .dead).length ⟨pl.blk, pl.off + off, pl.tot - off, i.size, true⟩) (h.set id .dead).length 0 (len + n) none c A _ (ext_new _ _ _) hsok'
                        rw [hlen2] at this ⊢
                        exact this
                      · refine ⟨ext_sub hfree, ?_, hrel, ?_, ?_, rfl, rfl, rfl, by simp, ?_, by simp, Nat.le_refl _⟩
                        · intro j q hq
                          by_cases e : j = (h.set id .dead).length
                          · right; rw [hlen2] at e; simp; omega
                          · left; unfold ext at hq; rw [if_neg e] at hq; exact hq
                        · rintro b ⟨j, q, y, g1, g2, g3, g4⟩
                          left
                          by_cases e : j = (h.set id .dead).length
                          · subst e
                            rw [ext_new] at g1; cases g1
                            exact ⟨id, pl, _, hpl, hid, rfl, g4⟩
                          · have g1' : ι j = some q := by unfold ext at g1; rw [if_neg e] at g1; exact g1
                            have hjl : j < (h.set id .dead).length := by
                              have := (List.getElem?_eq_some_iff.1 g2).1
                              simp at this e ⊢; omega
                            rw [getElem?_push_lt hjl] at g2
                            by_cases ej : j = id
                            · subst ej
                              rw [List.getElem?_set_self (List.getElem?_eq_some_iff.1 hid).1] at g2
                              cases g2; cases g3
                            · rw [List.getElem?_set_ne (Ne.symm ej)] at g2
                              exact ⟨j, q, y, g1', g2, g3, g4⟩
                        · rintro b ⟨j, q, y, g1, g2, g3, g4⟩
                          left
                          by_cases e : j = (h.set id .dead).length
                          · subst e
                            rw [ext_new] at g1; cases g1
                            exact ⟨id, pl, _, hpl, hid, rfl, g4⟩
                          · have g1' : ι j = some q := by unfold ext at g1; rw [if_neg e] at g1; exact g1
                            have hjl : j < (h.set id .dead).length := by
                              have := (List.getElem?_eq_some_iff.1 g2).1
                              simp at this e ⊢; omega
                            rw [getElem?_push_lt hjl] at g2
                            by_cases ej : j = id
                            · subst ej
                              rw [List.getElem?_set_self (List.getElem?_eq_some_iff.1 hid).1] at g2
                              cases g2; cases g3
                            · rw [List.getElem?_set_ne (Ne.symm ej)] at g2
                              exact ⟨j, q, y, g1', g2, g3, g4⟩
                        · intro b hb hn
                          refine Array.getElem?_setIfInBounds_ne fun e => hn ⟨id, pl, _, hpl, hid, rfl, e⟩
                    · -- a new block
                      obtain ⟨cap', C, g1, g2, g3, g4, g5⟩ := grow_out (P := P) (ty := ty) hr hu hd hi hzero hZ hs hx hln ho hnew (fun v hv => List.all_eq_true.1 hol v hv) c2 hoz c1 hroom (by omega) c3
                      have g6 := g5 z (by obtain ⟨i', zv', hi', hz', hr', _⟩ := zerosT_run hz (fun _ => none); rw [hi] at hi'; cases hi'; rw [hzero] at hz'; cases hz'; exact hr') hlfz
                      have hlen2 : (h.set id .dead).length = h.length := by simp
                      have hfree : ι (h.set id .dead).length = none := by rw [hlen2]; exact hf.first (by simp)
                      have hst := newC_run (hkill.rel.drew) hfree (old ++ new) (.gr i.size) (by simp) C e (0, 0) (.inl rfl) g4 (fun e' he => by cases he; exact g6)
                      refine ⟨_, _, _, g3, ?_, (hkill.trans (Stp.drew hkill.rel)).trans hst⟩
                      have hok : SliceOk ⟨w.heap.size, 0, C.size, (Kd.gr i.size).sz, true⟩ 0 (len + n) none cap' ⟨w.heap.size, 0, none⟩ := .inr ⟨rfl, rfl, .inl ⟨rfl, g1, fun _ => by simp [Kd.sz, g2]⟩⟩
                      have := RV.slice (ι := ext ι (h.set id .dead).length ⟨w.heap.size, 0, C.size, (Kd.gr i.size).sz, true⟩) (h.set id .dead).length 0 (len + n) none cap' _ _ (ext_new _ _ _) hok
                      rw [hlen2] at this ⊢
                      exact this
                  · cases hp
                · cases hp
    · cases hp
  · rename_i e p len c hu0 hd0
    have hu := elemT_under hu0
    unfold appendZ at hp
    split at hp
    · rename_i k0 kx l size bytes z hd hsz hbt hz
      obtain ⟨i, zv, hi, hzero, hrvz, hlenz, hlfz, hrunz⟩ := zerosT_run hz ι
      have hsi : i.size = size := by simpa [szT, hi] using hsz
      obtain ⟨i', hi', hbi⟩ := byT_run hbt w
      rw [hi] at hi'; cases hi'
      subst hsi; subst hbi
      have hZ : zv.cells.size = i.size := by rw [← hlenz]; have := hrvz.1; simpa using this.symm
      obtain ⟨A, c', rfl, hlc, hcap⟩ := slice_inv hs
      obtain rfl : c = c' := by
        rcases hcap with e | e
        · cases e; rfl
        · cases e
      cases hx
      split at hp
      · cases hp
      · rename_i hcond
        unfold growV at hp
        split at hp
        · cases hp
        · split at hp
          · rename_i old ho
            split at hp
            · rename_i hol
              have hoz : old.length = len * i.size := by
                cases p with
                | none =>
                  cases hs
                  simp [firstV] at ho; subst ho; simp
                | some q => obtain ⟨id, off⟩ := q; exact (loadN_length ho).1
              obtain ⟨oc, horun, horv⟩ := firstV_run (P := P) hr.drew ho hs (fun k hk => by simp [lenV] at hk; omega)
              obtain ⟨cap', hc, hrun⟩ := append_make_run (P := P) (w := w) (ty := ty) (kx := kx) hu hd hi hzero (l := l) (by omega) (by omega) horun (by omega) hlc (by omega) (by omega)
              generalize hn : (IntKind.i64.wrap l).toNat = n at *
              have hnrv : RVs ι (reps n z) (Builtin.zeroCells zv.cells n).toList := reps_rv hrvz n
              have hC : ((oc ++ (Builtin.zeroCells zv.cells n).toList).toArray ++ Builtin.zeroCells zv.cells (cap' - (len + n))).size = cap' * i.size := by
                have e1 : oc.length = len * i.size := by rw [← hoz, horv.1]
                rw [Array.size_append, zeroCells_size, hZ, List.size_toArray, List.length_append, e1, Array.length_toList, zeroCells_size, hZ, ← Nat.add_mul, ← Nat.add_mul]
                congr 1; omega
              have hcells := horv.append hnrv
              have hst := newC_out (hr.drew) (by simp) hp hf ((oc ++ (Builtin.zeroCells zv.cells n).toList).toArray ++ Builtin.zeroCells zv.cells (cap' - (len + n))) e (fun j v hv => by
                obtain ⟨u, hu1, hu2⟩ := hcells.get hv
                refine ⟨?_, u, ?_, hu2⟩
                · rcases List.mem_append.1 (List.mem_of_getElem? hv) with hm | hm
                  · exact List.all_eq_true.1 hol v hm
                  · exact reps_leaf hlfz n v hm
                · have hlt : j < (oc ++ (Builtin.zeroCells zv.cells n).toList).length := (List.getElem?_eq_some_iff.1 hu1).1
                  rw [Array.getElem?_append_left (by simpa using hlt), List.getElem?_toArray]
                  exact hu1) (fun e' he => by
                have hsp := spare_of (by obtain ⟨i', zv', hi', hz', hr', _⟩ := zerosT_run hz (fun _ => none); rw [hi] at hi'; cases hi'; rw [hzero] at hz'; cases hz'; exact hr') hlfz (oc ++ (Builtin.zeroCells zv.cells n).toList).toArray (cap' - (len + n))
                have e9 : (old ++ reps n z).length = (oc ++ (Builtin.zeroCells zv.cells n).toList).toArray.size := by
                  rw [List.size_toArray]; exact hcells.1
                rw [e9]; exact hsp)
              refine ⟨_, _, _, hrun, ?_, (Stp.drew hr).trans hst⟩
              simp at hp; subst hp
              have hok : SliceOk ⟨w.heap.size, 0, ((oc ++ (Builtin.zeroCells zv.cells n).toList).toArray ++ Builtin.zeroCells zv.cells (cap' - (len + n))).size, (Kd.gr i.size).sz, true⟩ 0 (len + n) none cap' ⟨w.heap.size, 0, none⟩ := .inr ⟨rfl, rfl, .inl ⟨rfl, hc, fun _ => by simp only [Kd.sz, hC]; omega⟩⟩
              exact .slice _ _ _ _ _ _ _ (ext_new _ _ _) hok
            · cases hp
          · cases hp
    · cases hp
  · cases hp
end
end Go.Proofs.YtcaolnmpldbkjaaGreatA
