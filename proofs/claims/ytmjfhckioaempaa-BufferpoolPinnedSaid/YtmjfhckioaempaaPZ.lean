/- Words of this session: chapter 16: maps of pages; pins. -/
import Derived.Test.YtmjfhckioaempaaPV
namespace Go.Proofs.YtmjfhckioaempaaA
open Go Go.Proofs Go.RowKit
set_option linter.unusedVariables false
set_option linter.unusedSimpArgs false
set_option maxRecDepth 10000
set_option maxHeartbeats 4000000
/-- An entry of a map of pages. -/
structure Me where
  p : Option (Nat × Nat)
  c : Option Nat
  data : List Int
  born : Nat
theorem keySame_int (a b : Int) : keySame (.int .i64 a) (.int .i64 b) = some (a == b) := by unfold keySame; exact if_pos rfl
def entsV : Nat → List Me → List (V × V × Nat)
  | _, [] => []
  | k, m :: ms => (.int .i64 k, .slice m.p m.data.length m.c, m.born) :: entsV (k + 1) ms
theorem entsV_app (k : Nat) (a : List Me) (b : Me) : entsV k (a ++ [b]) = entsV k a ++ [(.int .i64 ((k + a.length : Nat) : Int), .slice b.p b.data.length b.c, b.born)] := by
  induction a generalizing k with
  | nil => rfl
  | cons m a ih =>
    show _ :: entsV (k + 1) (a ++ [b]) = _
    rw [ih, List.length_cons, show k + 1 + a.length = k + (a.length + 1) by omega]
    rfl
theorem entsV_len (k : Nat) (a : List Me) : (entsV k a).length = a.length := by
  induction a generalizing k with
  | nil => rfl
  | cons m a ih => show (entsV (k + 1) a).length + 1 = _; rw [ih]; rfl
theorem find_in {k n i : Nat} {ms : List Me} (h1 : k ≤ n) (h2 : n - k < ms.length) : findV (.int .i64 (n : Int)) (entsV k ms) i = some (some (i + (n - k), .slice (ms[n - k]).p (ms[n - k]).data.length (ms[n - k]).c, (ms[n - k]).born)) := by
  induction ms generalizing k i with
  | nil => simp at h2
  | cons m ms ih =>
    show (match keySame (.int .i64 (n : Int)) (.int .i64 (k : Int)) with
      | some true => some (some (i, V.slice m.p m.data.length m.c, m.born))
      | some false => findV (.int .i64 (n : Int)) (entsV (k + 1) ms) (i + 1)
      | none => none) = _
    rw [keySame_int]
    by_cases c : n = k
    · subst c
      simp
    · have : ((n : Int) == (k : Int)) = false := by simp; omega
      rw [this]
      simp only []
      rw [ih (by omega) (by simp at h2; omega)]
      have e : n - k = (n - (k + 1)) + 1 := by omega
      simp only [e, List.getElem_cons_succ]
      congr 3; omega
theorem find_out {k : Nat} {n : Int} {i : Nat} {ms : List Me} (h : n < k ∨ (k + ms.length : Int) ≤ n) : findV (.int .i64 n) (entsV k ms) i = some none := by
  induction ms generalizing k i with
  | nil => rfl
  | cons m ms ih =>
    show (match keySame (.int .i64 n) (.int .i64 (k : Int)) with
      | some true => some (some (i, V.slice m.p m.data.length m.c, m.born))
      | some false => findV (.int .i64 n) (entsV (k + 1) ms) (i + 1)
      | none => none) = _
    rw [keySame_int]
    rw [List.length_cons] at h
    have : (n == (k : Int)) = false := by simp; omega
    rw [this]
    simp only []
    exact ih (by omega)
theorem entsV_set {k j : Nat} {ms : List Me} {m : Me} (hj : j < ms.length) (hb : m.born = (ms[j]).born) : (entsV k ms).set j (.int .i64 ((k + j : Nat) : Int), .slice m.p m.data.length m.c, (ms[j]).born) = entsV k (ms.set j m) := by
  induction ms generalizing k j with
  | nil => simp at hj
  | cons x ms ih =>
    cases j with
    | zero =>
      show (V.int .i64 ((k + 0 : Nat) : Int), V.slice m.p m.data.length m.c, x.born) :: entsV (k + 1) ms = _
      show _ = (V.int .i64 (k : Int), V.slice m.p m.data.length m.c, m.born) :: entsV (k + 1) ms
      rw [hb]; rfl
    | succ j =>
      show (V.int .i64 (k : Int), V.slice x.p x.data.length x.c, x.born) :: (entsV (k + 1) ms).set j (V.int .i64 ((k + (j + 1) : Nat) : Int), V.slice m.p m.data.length m.c, (ms[j]'(by simp at hj; omega)).born) = _
      have := ih (k := k + 1) (j := j) (by simp at hj; omega) hb
      rw [show k + 1 + j = k + (j + 1) by omega] at this
      rw [this]; rfl
/-- A map of pages in memory; its blocks are none of the pool's. -/
structure MapAt (hh : Heap) (mb : Nat) (own : Nat → Prop) (ms : List Me) : Prop where
  blk : ∃ clock, hh[mb]? = some (.map (entsV 0 ms) clock)
  no : ¬ own mb
  dat : ∀ m ∈ ms, Sl hh m.p 1 eb m.data ∧ ∀ a o, m.p = some (a, o) → ¬ own a
theorem MapAt.kp {h1 h2 : Heap} {mb : Nat} {o1 o2 : Nat → Prop} {ms : List Me} (m : MapAt h1 mb o1 ms) (k : Kp h1 h2 o1 o2) : MapAt h2 mb o2 ms := by
  obtain ⟨⟨cl, h⟩, hn, hd⟩ := m
  exact ⟨⟨cl, k.get h hn⟩, k.not (lt_of_some h) hn, fun x hx => ⟨(hd x hx).1.keep fun a o z => k.fr a ((hd x hx).1.lt z) ((hd x hx).2 a o z), fun a o z => k.not ((hd x hx).1.lt z) ((hd x hx).2 a o z)⟩⟩
theorem MapAt.ext {h1 h2 : Heap} {mb : Nat} {o1 : Nat → Prop} {ms : List Me} (m : MapAt h1 mb o1 ms) (e : Ext h1 h2) : MapAt h2 mb o1 ms := m.kp (Kp.ext e _)
theorem Sl.neMap {h : Heap} {mb cl : Nat} {es : List (V × V × Nat)} (hm : h[mb]? = some (.map es cl)) {p : Option (Nat × Nat)} {ys : List Int} (s : Sl h p 1 eb ys) : ∀ a o, p = some (a, o) → a ≠ mb := fun a o z e => by
  obtain ⟨C, k, h1, _⟩ := s.reads a o z
  rw [e, hm] at h1; cases h1
/-- The map's block is stored to. -/
theorem Mid.put {b : Nat} {h0 : Heap} {I : Ids} {pages frames i : Nat} {S : Bp} {oid : Option Nat} {hh : Heap} (m : Mid b h0 I pages frames i S oid hh) {mb cl cl' : Nat} {es es' : List (V × V × Nat)} (hm : hh[mb]? = some (.map es cl)) (hn : ¬ ownP I oid mb) (h0m : h0.length ≤ mb) :
    Mid b h0 I pages frames i S oid (hh.set mb (.map es' cl')) := by
  refine ⟨m.at'.keepX (x := mb) (by rw [List.length_set]; exact Nat.le_refl _) (fun j _ hj => set_other _ hj) hn (fun f hf => Sl.neMap hm (m.at'.dat f hf).1.sl) (fun w hw => Sl.neMap hm (m.at'.dk.dat w hw).1.sl), m.inv, m.pages, m.frames, ⟨by rw [List.length_set]; exact m.kp.le, fun j hj hn' => ?_, m.kp.ow⟩⟩
  rw [set_other _ (by omega)]; exact m.kp.fr j hj hn'
/-- An entry is written anew. -/
theorem MapAt.put {hh : Heap} {mb n : Nat} {own : Nat → Prop} {ms : List Me} (m : MapAt hh mb own ms) {cl : Nat} (hb : hh[mb]? = some (.map (entsV 0 ms) cl)) (hn : n < ms.length) {p : Option (Nat × Nat)} {c : Option Nat} {data : List Int} (hd : Sl hh p 1 eb data) (hp : ∀ a o, p = some (a, o) → ¬ own a) :
    MapAt (hh.set mb (.map ((entsV 0 ms).set n (.int .i64 (n : Int), .slice p data.length c, (ms[n]).born)) cl)) mb own (ms.set n ⟨p, c, data, (ms[n]).born⟩) := by
  have hlt := lt_of_some hb
  refine ⟨⟨cl, ?_⟩, m.no, fun x hx => ?_⟩
  · rw [set_same _ hlt]
    have := entsV_set (k := 0) hn (m := ⟨p, c, data, (ms[n]).born⟩) rfl
    rw [Nat.zero_add] at this
    rw [← this]
  · rcases List.mem_or_eq_of_mem_set hx with hx | rfl
    · exact ⟨(m.dat x hx).1.keep fun a o z => set_other _ (Sl.neMap hb (m.dat x hx).1 a o z), (m.dat x hx).2⟩
    · exact ⟨hd.keep fun a o z => set_other _ (Sl.neMap hb hd a o z), hp⟩
theorem MapAt.add {hh : Heap} {mb : Nat} {own : Nat → Prop} {ms : List Me} (m : MapAt hh mb own ms) {cl : Nat} (hb : hh[mb]? = some (.map (entsV 0 ms) cl)) {p : Option (Nat × Nat)} {c : Option Nat} {data : List Int} (hd : Sl hh p 1 eb data) (hp : ∀ a o, p = some (a, o) → ¬ own a) :
    MapAt (hh.set mb (.map (entsV 0 ms ++ [(.int .i64 (ms.length : Int), .slice p data.length c, cl)]) (cl + 1))) mb own (ms ++ [⟨p, c, data, cl⟩]) := by
  have hlt := lt_of_some hb
  refine ⟨⟨cl + 1, ?_⟩, m.no, fun x hx => ?_⟩
  · rw [set_same _ hlt, entsV_app, Nat.zero_add]
  · rcases List.mem_append.1 hx with hx | hx
    · exact ⟨(m.dat x hx).1.keep fun a o z => set_other _ (Sl.neMap hb (m.dat x hx).1 a o z), (m.dat x hx).2⟩
    · rw [List.mem_singleton] at hx
      subst hx
      exact ⟨hd.keep fun a o z => set_other _ (Sl.neMap hb hd a o z), hp⟩
theorem holds_init {D : Dk} {pages frames k : Nat} (h1 : D.pend = []) (h2 : ∀ k, k < pages → pg D.dur k = fillB k) (hk : k < pages) : Holds ⟨D, pages, List.replicate frames emptyFr, 0, 0⟩ k (fillB k) := by
  refine .inr ⟨fun f hf q => ?_, ?_⟩
  · obtain ⟨_, rfl⟩ := List.mem_replicate.1 hf
    have : (-1 : Int) = (k : Int) := q
    omega
  · show _ = pg (cur D) k
    unfold cur
    rw [h1]
    exact (h2 k hk).symm
theorem un_keeps0 {S S' : Bp} {N : Nat} {page e : Int} (v : PIn S N) (u : UnR S page S' e) :
    PIn S' N ∧ S'.pages = S.pages ∧ S'.frames.length = S.frames.length ∧ S'.D = S.D ∧ S'.frames.map Fr.page = S.frames.map Fr.page ∧ (∀ k d, Holds S k d → Holds S' k d) := by
  rcases u with ⟨h1, rfl, rfl⟩ | ⟨i, hi, h2, rfl, rfl⟩
  · exact ⟨v, rfl, rfl, rfl, rfl, fun _ _ q => q⟩
  · obtain ⟨h3, _, hp⟩ := pinF_some h2
    have hf := v.fr i hi
    have hdn := dirtyN_set hi { S.frames[i] with pins := (S.frames[i]).pins - 1 }
    refine ⟨v.one (Nat.le_refl N) v.big hi rfl rfl v.pd ⟨by show 0 ≤ (S.frames[i]).pins - 1; omega, by have := hf.2.1; show (S.frames[i]).pins - 1 ≤ _; omega, ?_⟩ (fun _ _ _ _ => rfl) ?_ v.ctr, rfl, List.length_set .., rfl, set_page hi rfl, fun k d q => Holds.one hi (f := { S.frames[i] with pins := (S.frames[i]).pins - 1 }) rfl q (fun _ => rfl) (fun _ => rfl)⟩
    · rcases hf.2.2 with q | q
      · omega
      · exact .inr q
    · have := v.cnt
      show S.D.pend.length + _ ≤ _
      have hdd : ({ S.frames[i] with pins := (S.frames[i]).pins - 1 } : Fr).dirty = (S.frames[i]).dirty := rfl
      rw [hdd] at hdn
      omega
/-- How often a page is pinned. -/
def pinsOf (S : Bp) (k : Int) : Int := match findF k S.frames with
  | some i => (S.frames[i]?.map Fr.pins).getD 0
  | none => 0
theorem pinsOf_at {S : Bp} {k : Int} {i : Nat} (h : findF k S.frames = some i) (hi : i < S.frames.length) : pinsOf S k = (S.frames[i]).pins := by
  unfold pinsOf
  rw [h]
  simp only [List.getElem?_eq_getElem hi, Option.map_some, Option.getD_some]
theorem pins_c {b : Nat} {h : Heap} {I : Ids} {S : Bp} {oid : Option Nat} (d : PAt b h I S oid) (page : Int) : WR (callE Try.prog hk 29 [.ptr (some (I.pi, 0)), .int .i64 page] h) fun r h' => Ext h h' ∧ r = .int .i64 (pinsOf S page) := by
  refine (pins_ok d page).mono ?_
  rintro r h2 ⟨e2, ⟨q, rfl⟩ | ⟨i, hi, q, rfl⟩⟩
  · exact ⟨e2, by unfold pinsOf; rw [q]⟩
  · exact ⟨e2, by rw [pinsOf_at q hi]⟩
/-- A pinned page is unpinned. -/
theorem un_one {S S' : Bp} {N : Nat} {page e : Int} (v : PIn S N) (hp : 0 < pinsOf S page) (u : UnR S page S' e) : e = 0 ∧ pinsOf S' page = pinsOf S page - 1 ∧ ∀ k, k ≠ page → pinsOf S' k = pinsOf S k := by
  have hex : ∃ i, findF page S.frames = some i := by
    cases hq : findF page S.frames with
    | none => unfold pinsOf at hp; rw [hq] at hp; exact absurd hp (show ¬ (0 : Int) < 0 by decide)
    | some i => exact ⟨i, rfl⟩
  obtain ⟨i, hi⟩ := hex
  obtain ⟨hl, h0, h1, _⟩ := findF_some hi
  have hpp := pinsOf_at hi hl
  have hpf : pinF page S.frames = some i := by rw [pinF_find hi hl, if_pos (by omega)]
  rcases u with ⟨q, _⟩ | ⟨j, hj, q, rfl, rfl⟩
  · rw [hpf] at q; cases q
  · rw [hpf] at q; cases q
    have hm := set_page hl (f := { S.frames[i] with pins := (S.frames[i]).pins - 1 }) rfl
    have hff : ∀ k, findF k (S.frames.set i { S.frames[i] with pins := (S.frames[i]).pins - 1 }) = findF k S.frames := fun k => by rw [findF_map, hm, ← findF_map]
    refine ⟨rfl, ?_, fun k hk => ?_⟩
    · rw [pinsOf_at (S := ⟨S.D, S.pages, S.frames.set i { S.frames[i] with pins := (S.frames[i]).pins - 1 }, S.hand, S.reads⟩) ((hff page).trans hi) (by rw [List.length_set]; exact hl), hpp]
      simp only [List.getElem_set_self]
    · cases hq : findF k S.frames with
      | none => unfold pinsOf; rw [hff, hq]
      | some j =>
        obtain ⟨hl2, h02, h12, _⟩ := findF_some hq
        rw [pinsOf_at (S := ⟨S.D, S.pages, S.frames.set i { S.frames[i] with pins := (S.frames[i]).pins - 1 }, S.hand, S.reads⟩) ((hff k).trans hq) (by rw [List.length_set]; exact hl2), pinsOf_at hq hl2]
        have hij : i ≠ j := fun c => by subst c; exact hk (by rw [← h12, h1])
        simp only [List.getElem_set_ne hij]
theorem all_zero {S : Bp} {N : Nat} (v : PIn S N) (h : ∀ k, k < S.pages → pinsOf S (k : Int) ≤ 0) : ∀ f ∈ S.frames, f.pins = 0 := fun f hf => by
  obtain ⟨i, hi, rfl⟩ := List.getElem_of_mem hf
  have hv := v.fr i hi
  rcases hv.2.2 with q | q
  · exact q.2.2
  · obtain ⟨n, hn⟩ := Int.eq_ofNat_of_zero_le q.1
    obtain ⟨j, hj⟩ := findF_ex (page := (n : Int)) (by omega) hf hn
    obtain ⟨hl, _, h1, _⟩ := findF_some hj
    have hji : j = i := v.dis j i hl hi (by rw [h1]; omega) (by rw [h1, hn])
    subst hji
    have := h n (by omega)
    rw [pinsOf_at hj hl] at this
    have := hv.1
    omega
theorem zero_all {S : Bp} (h : ∀ f ∈ S.frames, f.pins = 0) (k : Int) : pinsOf S k = 0 := by
  cases hq : findF k S.frames with
  | none => unfold pinsOf; rw [hq]
  | some j =>
    obtain ⟨hl, _⟩ := findF_some hq
    rw [pinsOf_at hq hl]; exact h _ (List.getElem_mem hl)
/-- With the disk at work and nothing pinned, a page is pinned, and unpinned again. -/
theorem pin_fresh {S S' : Bp} {N : Nat} {page : Nat} {e : Int} {dd : List Int} (v : PIn S N) (hN : N + 1 ≤ 1000) (hz : ∀ f ∈ S.frames, f.pins = 0) (hf : S.D.failed = false) (hc : S.D.ctr < 0) (hpg : page < S.pages) (u : PinR S page S' e dd) :
    e = 0 ∧ S'.D.failed = false ∧ S'.D.ctr < 0 ∧ pinsOf S' (page : Int) = 1 ∧ ∃ i, ∃ hi : i < S'.frames.length, (S'.frames[i]).page = (page : Int) ∧ (S'.frames[i]).pins = 1 ∧ ∀ j (hj : j < S'.frames.length), j ≠ i → (S'.frames[j]).pins = 0 := by
  have hv := pin_keeps v hN u
  have fin : ∀ i (hi : i < S'.frames.length), (S'.frames[i]).page = (page : Int) → (S'.frames[i]).pins = 1 → pinsOf S' (page : Int) = 1 := fun i hi h1 h2 => by
    obtain ⟨j, hj⟩ := findF_ex (page := (page : Int)) (by omega) (List.getElem_mem hi) h1
    obtain ⟨hl, _, h3, _⟩ := findF_some hj
    have := hv.1.dis j i hl hi (by rw [h3]; omega) (by rw [h3, h1])
    subst this
    rw [pinsOf_at hj hl]; exact h2
  rcases u with ⟨h, _⟩ | ⟨_, _, i, hi, h, rfl, rfl, _⟩ | ⟨n, hn, hn2, hno, r, rs, lo, hq⟩
  · omega
  · obtain ⟨hl, h0, h1, _⟩ := findF_some h
    have hp := hz _ (List.getElem_mem hi)
    have e1 : ((S.frames.set i { S.frames[i] with pins := (S.frames[i]).pins + 1, ref := true })[i]'(by rw [List.length_set]; exact hi)) = { S.frames[i] with pins := (S.frames[i]).pins + 1, ref := true } := List.getElem_set_self ..
    have e2 : ((S.frames.set i { S.frames[i] with pins := (S.frames[i]).pins + 1, ref := true })[i]'(by rw [List.length_set]; exact hi)).pins = 1 := by rw [e1]; show (S.frames[i]).pins + 1 = 1; omega
    have e3 : ((S.frames.set i { S.frames[i] with pins := (S.frames[i]).pins + 1, ref := true })[i]'(by rw [List.length_set]; exact hi)).page = (page : Int) := by rw [e1]; exact h1
    refine ⟨rfl, hf, hc, fin i (by rw [List.length_set]; exact hi) e3 e2, i, by rw [List.length_set]; exact hi, e3, e2, fun j hj hne => ?_⟩
    simp only [List.getElem_set_ne (Ne.symm hne)]
    exact hz _ (List.getElem_mem _)
  · have hnp : n = page := by omega
    subst hnp
    have hex : ∃ f ∈ S.frames, f.pins = 0 := by
      have hl : 0 < S.frames.length := by have := v.hand; omega
      exact ⟨_, List.getElem_mem hl, hz _ (List.getElem_mem hl)⟩
    have hr := lo_room hf hc hex lo
    have hk := (lo_keeps v hN hn2 hno lo).2.2.2.2
    rcases hk with ⟨z, _⟩ | ⟨p, c, dd', rfl, _, hrd, _, _, j, a, hnew, _⟩
    · exact absurd z hr.1
    · rcases hq with ⟨z, _⟩ | ⟨_, _, _, he⟩
      · cases z
      · have hjl : j < S'.frames.length := by rw [a.len]; exact a.jl
        have e2 : (S'.frames[j]).pins = 1 := by rw [hnew]
        have e3 : (S'.frames[j]).page = (n : Int) := by rw [hnew]
        refine ⟨he, hr.2.1, hr.2.2, fin j hjl e3 e2, j, hjl, e3, e2, fun k hk' hne => ?_⟩
        have hk2 : k < S.frames.length := by rw [← a.len]; exact hk'
        rw [(a.eq k hk2 hne).2.2.1]
        exact hz _ (List.getElem_mem hk2)
theorem Mid.disk {b : Nat} {h0 : Heap} {I : Ids} {pages frames i : Nat} {S : Bp} {oid oid' : Option Nat} {hh h2 : Heap} {D1 : Dk} (m : Mid b h0 I pages frames i S oid hh) (dk : DAt b h2 I.di I.du D1 oid' (fun i => i = I.pi ∨ i = I.fr)) (k : Kp hh h2 (ownD I.di I.du oid) (ownD I.di I.du oid')) (hv : PIn ⟨D1, S.pages, S.frames, S.hand, S.reads⟩ i) :
    Mid b h0 I pages frames i ⟨D1, S.pages, S.frames, S.hand, S.reads⟩ oid' h2 ∧ Kp hh h2 (ownP I oid) (ownP I oid') := by
  obtain ⟨d, k2⟩ := m.at'.disk dk k
  exact ⟨⟨d, hv, m.pages, m.frames, m.kp.trans k2⟩, k2⟩
end Go.Proofs.YtmjfhckioaempaaA
