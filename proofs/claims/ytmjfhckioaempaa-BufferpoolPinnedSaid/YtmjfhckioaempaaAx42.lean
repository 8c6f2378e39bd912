/- Words of this session: maps whose keys are numbers, as lists of entries. -/
import Derived.Test.YtmjfhckioaempaaAx41
namespace Go.Proofs.YtmjfhckioaempaaA
open Go Go.RowKit
set_option linter.unusedVariables false
set_option linter.unusedSimpArgs false
/-- An entry of a map whose keys are numbers. -/
structure Ge (β : Type) where
  k : Int
  v : β
  born : Nat
section
variable {β : Type}
def gents (enc : β → V) (ms : List (Ge β)) : List (V × V × Nat) := ms.map fun m => (.int .i64 m.k, enc m.v, m.born)
structure GOk (ms : List (Ge β)) (cl : Nat) : Prop where
  keys : (ms.map Ge.k).Nodup
  lt : ∀ m ∈ ms, m.born < cl
  nd : (ms.map Ge.born).Nodup
theorem GOk.nil : GOk ([] : List (Ge β)) 0 := ⟨by simp, by simp, by simp⟩
theorem GOk.ents {ms : List (Ge β)} {cl : Nat} (g : GOk ms cl) (enc : β → V) : EntsOk (gents enc ms) cl := by
  refine ⟨fun e he => ?_, ?_⟩
  · obtain ⟨m, hm, rfl⟩ := List.mem_map.1 he
    exact g.lt m hm
  · have : (gents enc ms).map (·.2.2) = ms.map Ge.born := by unfold gents; rw [List.map_map]; rfl
    rw [this]; exact g.nd
/-- Where a key stands. -/
def atG (k : Int) (ms : List (Ge β)) : Option Nat := ms.findIdx? fun m => k == m.k
def getG (k : Int) (ms : List (Ge β)) : Option β := ((atG k ms).bind fun i => ms[i]?).map Ge.v
def putG (cl : Nat) (k : Int) (v : β) (ms : List (Ge β)) : List (Ge β) := match atG k ms with
  | some i => ms.set i ⟨k, v, ((ms[i]?).map Ge.born).getD 0⟩
  | none => ms ++ [⟨k, v, cl⟩]
def clG (cl : Nat) (k : Int) (ms : List (Ge β)) : Nat := match atG k ms with
  | some i => cl
  | none => cl + 1
theorem atG_some {k : Int} {ms : List (Ge β)} {i : Nat} (h : atG k ms = some i) : ∃ hi : i < ms.length, (ms[i]).k = k := by
  unfold atG at h
  rw [List.findIdx?_eq_some_iff_getElem] at h
  obtain ⟨hi, h1, _⟩ := h
  exact ⟨hi, by simpa using (eq_of_beq h1).symm⟩
theorem atG_none {k : Int} {ms : List (Ge β)} (h : atG k ms = none) : ∀ m ∈ ms, m.k ≠ k := fun m hm e => by
  unfold atG at h
  rw [List.findIdx?_eq_none_iff] at h
  have := h m hm
  simp [e] at this
theorem keySame_i (a b : Int) : keySame (.int .i64 a) (.int .i64 b) = some (a == b) := by unfold keySame; exact if_pos rfl
theorem findV_g {enc : β → V} {k : Int} : ∀ {ms : List (Ge β)} {i : Nat}, findV (.int .i64 k) (gents enc ms) i = some (((atG k ms).bind fun j => (ms[j]?).map fun m => (i + j, enc m.v, m.born)))
  | [], i => rfl
  | m :: ms, i => by
    show (match keySame (.int .i64 k) (.int .i64 m.k) with
      | some true => some (some (i, enc m.v, m.born))
      | some false => findV (.int .i64 k) (gents enc ms) (i + 1)
      | none => none) = _
    rw [keySame_i]
    by_cases c : k = m.k
    · have e1 : (k == m.k) = true := by simp [c]
      have : atG k (m :: ms) = some 0 := by unfold atG; rw [List.findIdx?_cons]; simp [e1]
      rw [this, e1]; rfl
    · have e1 : (k == m.k) = false := by simp [c]
      have : atG k (m :: ms) = (atG k ms).map (· + 1) := by unfold atG; rw [List.findIdx?_cons]; simp [e1]
      rw [this, e1]
      simp only []
      rw [findV_g]
      cases atG k ms with
      | none => rfl
      | some j =>
        simp only [Option.map_some, Option.bind_some, List.getElem?_cons_succ]
        congr 2
        funext x
        congr 1
        omega
theorem mapPut_g {enc : β → V} {ms : List (Ge β)} {cl id : Nat} {h : Heap} (hb : h[id]? = some (.map (gents enc ms) cl)) (k : Int) (v : β) :
    mapPut (.int .i64 k) (enc v) id h h[id]? = some (h.set id (.map (gents enc (putG cl k v ms)) (clG cl k ms))) := by
  rw [hb]
  unfold mapPut putG clG
  simp only [findV_g]
  cases q : atG k ms with
  | none => simp [gents]
  | some i =>
    obtain ⟨hi, hk⟩ := atG_some q
    simp only [Option.bind_some, List.getElem?_eq_getElem hi, Option.map_some, Nat.zero_add, Option.getD_some]
    simp only [gents, List.map_set]
theorem mapGet_g {enc : β → V} {ms : List (Ge β)} (k : Int) (z : V) : mapGet (.int .i64 k) z false (some (gents enc ms)) = some (match getG k ms with
    | some v => enc v
    | none => z) := by
  unfold mapGet getG
  simp only [findV_g]
  cases q : atG k ms with
  | none => simp
  | some i =>
    obtain ⟨hi, hk⟩ := atG_some q
    simp [List.getElem?_eq_getElem hi]
theorem getG_some {k : Int} {ms : List (Ge β)} {v : β} (h : getG k ms = some v) : ∃ m ∈ ms, m.k = k ∧ m.v = v := by
  unfold getG at h
  cases q : atG k ms with
  | none => rw [q] at h; simp at h
  | some i =>
    obtain ⟨hi, hk⟩ := atG_some q
    rw [q] at h
    simp [List.getElem?_eq_getElem hi] at h
    exact ⟨ms[i], List.getElem_mem hi, hk, h⟩
theorem getG_none {k : Int} {ms : List (Ge β)} (h : getG k ms = none) : ∀ m ∈ ms, m.k ≠ k := by
  unfold getG at h
  cases q : atG k ms with
  | none => exact atG_none q
  | some i =>
    obtain ⟨hi, hk⟩ := atG_some q
    rw [q] at h
    simp [List.getElem?_eq_getElem hi] at h
theorem GOk.uniq {ms : List (Ge β)} {cl : Nat} (g : GOk ms cl) {x y : Ge β} (hx : x ∈ ms) (hy : y ∈ ms) (h : x.k = y.k) : x = y := by
  obtain ⟨i, hi, rfl⟩ := List.getElem_of_mem hx
  obtain ⟨j, hj, rfl⟩ := List.getElem_of_mem hy
  have e : i = j := by
    refine Classical.byContradiction fun hne => ?_
    have p := List.pairwise_iff_getElem.1 g.keys
    rcases Nat.lt_or_gt_of_ne hne with q | q
    · exact p i j (by simpa using hi) (by simpa using hj) q (by simpa using h)
    · exact p j i (by simpa using hj) (by simpa using hi) q (by simpa using h.symm)
  subst e; rfl
/-- What an entry of the map that was put to is. -/
theorem putG_mem {cl : Nat} {k : Int} {v : β} {ms : List (Ge β)} {m : Ge β} (h : m ∈ putG cl k v ms) : (m.k = k ∧ m.v = v) ∨ m ∈ ms := by
  unfold putG at h
  cases q : atG k ms with
  | none =>
    rw [q] at h
    rcases List.mem_append.1 h with h | h
    · exact .inr h
    · rw [List.mem_singleton] at h; subst h; exact .inl ⟨rfl, rfl⟩
  | some i =>
    rw [q] at h
    rcases List.mem_or_eq_of_mem_set h with h | h
    · exact .inr h
    · subst h; exact .inl ⟨rfl, rfl⟩
theorem putG_in {cl : Nat} {k : Int} {v : β} {ms : List (Ge β)} : ∃ m ∈ putG cl k v ms, m.k = k ∧ m.v = v := by
  unfold putG
  cases q : atG k ms with
  | none => exact ⟨⟨k, v, cl⟩, by simp, rfl, rfl⟩
  | some i =>
    obtain ⟨hi, hk⟩ := atG_some q
    exact ⟨_, List.mem_of_getElem? (List.getElem?_set_self hi), rfl, rfl⟩
theorem putG_keep {cl : Nat} {k : Int} {v : β} {ms : List (Ge β)} {m : Ge β} (hm : m ∈ ms) (hk : m.k ≠ k) : m ∈ putG cl k v ms := by
  unfold putG
  cases q : atG k ms with
  | none => exact List.mem_append_left _ hm
  | some i =>
    obtain ⟨hi, hki⟩ := atG_some q
    obtain ⟨j, hj, rfl⟩ := List.getElem_of_mem hm
    have hne : i ≠ j := fun e => by subst e; exact hk hki
    exact List.mem_of_getElem? (by show (ms.set i _)[j]? = _; rw [List.getElem?_set_ne hne, List.getElem?_eq_getElem hj])
theorem GOk.put {ms : List (Ge β)} {cl : Nat} (g : GOk ms cl) (k : Int) (v : β) : GOk (putG cl k v ms) (clG cl k ms) := by
  unfold putG clG
  cases q : atG k ms with
  | none =>
    have hn := atG_none q
    refine ⟨?_, fun m hm => ?_, ?_⟩
    · show (List.map Ge.k (ms ++ [⟨k, v, cl⟩])).Nodup
      rw [List.map_append, List.nodup_append]
      exact ⟨g.keys, by simp, fun a ha b hb => by
        simp only [List.map_cons, List.map_nil, List.mem_singleton] at hb
        subst hb
        obtain ⟨m, hm, rfl⟩ := List.mem_map.1 ha
        exact hn m hm⟩
    · rcases List.mem_append.1 hm with hm | hm
      · exact Nat.lt_succ_of_lt (g.lt m hm)
      · rw [List.mem_singleton] at hm; subst hm; exact Nat.lt_succ_self _
    · show (List.map Ge.born (ms ++ [⟨k, v, cl⟩])).Nodup
      rw [List.map_append, List.nodup_append]
      exact ⟨g.nd, by simp, fun a ha b hb => by
        simp only [List.map_cons, List.map_nil, List.mem_singleton] at hb
        subst hb
        obtain ⟨m, hm, rfl⟩ := List.mem_map.1 ha
        exact Nat.ne_of_lt (g.lt m hm)⟩
  | some i =>
    obtain ⟨hi, hk⟩ := atG_some q
    have e : ((ms[i]?).map Ge.born).getD 0 = (ms[i]).born := by rw [List.getElem?_eq_getElem hi]; rfl
    refine ⟨?_, fun m hm => ?_, ?_⟩
    · show (List.map Ge.k (ms.set i _)).Nodup
      rw [List.map_set]
      have : (List.map Ge.k ms).set i k = List.map Ge.k ms := by
        apply List.ext_getElem (by simp)
        intro j h1 h2
        by_cases c : i = j
        · subst c; simp [hk]
        · simp [List.getElem_set_ne c]
      rw [this]; exact g.keys
    · rcases List.mem_or_eq_of_mem_set hm with hm | rfl
      · exact g.lt m hm
      · show ((ms[i]?).map Ge.born).getD 0 < cl
        rw [e]; exact g.lt _ (List.getElem_mem hi)
    · show (List.map Ge.born (ms.set i _)).Nodup
      rw [List.map_set]
      have : (List.map Ge.born ms).set i (((ms[i]?).map Ge.born).getD 0) = List.map Ge.born ms := by
        apply List.ext_getElem (by simp)
        intro j h1 h2
        by_cases c : i = j
        · subst c; simp [e]
        · simp [List.getElem_set_ne c]
      rw [this]; exact g.nd
theorem getG_mem {ms : List (Ge β)} {cl : Nat} (g : GOk ms cl) {m : Ge β} (hm : m ∈ ms) : getG m.k ms = some m.v := by
  cases q : getG m.k ms with
  | none => exact absurd rfl (getG_none q m hm)
  | some v =>
    obtain ⟨m', h1, h2, h3⟩ := getG_some q
    rw [← h3, g.uniq h1 hm h2]
theorem getG_put {ms : List (Ge β)} {cl : Nat} (g : GOk ms cl) (k k' : Int) (v : β) : getG k' (putG cl k v ms) = if k' = k then some v else getG k' ms := by
  have g2 := g.put k v
  by_cases c : k' = k
  · rw [if_pos c]
    obtain ⟨m, h1, h2, h3⟩ := putG_in (cl := cl) (k := k) (v := v) (ms := ms)
    have := getG_mem g2 h1
    rw [h2, h3] at this
    rw [c]; exact this
  · rw [if_neg c]
    cases q : getG k' ms with
    | none =>
      cases q2 : getG k' (putG cl k v ms) with
      | none => rfl
      | some v' =>
        obtain ⟨m, h1, h2, h3⟩ := getG_some q2
        rcases putG_mem h1 with h | h
        · exact absurd (h2.symm.trans h.1) c
        · exact absurd h2 (getG_none q m h)
    | some v' =>
      obtain ⟨m, h1, h2, h3⟩ := getG_some q
      have := getG_mem g2 (putG_keep (cl := cl) (v := v) h1 (by rw [h2]; exact c))
      rw [h2, h3] at this
      exact this
theorem putG_len {ms : List (Ge β)} {cl : Nat} {k : Int} {v : β} : (putG cl k v ms).length ≤ ms.length + 1 := by
  unfold putG
  cases atG k ms with
  | none => simp
  | some i => simp
theorem gents_len {enc : β → V} {ms : List (Ge β)} : (gents enc ms).length = ms.length := by unfold gents; rw [List.length_map]
/-- A map in memory, whose block is none of those that are owned. -/
structure MapP (enc : β → V) (hh : Heap) (mb : Nat) (own : Nat → Prop) (ms : List (Ge β)) (cl : Nat) : Prop where
  blk : hh[mb]? = some (.map (gents enc ms) cl)
  ok : GOk ms cl
  no : ¬ own mb
theorem MapP.ext {enc : β → V} {h1 h2 : Heap} {mb cl : Nat} {own : Nat → Prop} {ms : List (Ge β)} (m : MapP enc h1 mb own ms cl) (e : Ext h1 h2) : MapP enc h2 mb own ms cl := ⟨e _ _ m.blk, m.ok, m.no⟩
theorem MapP.put {enc : β → V} {hh : Heap} {mb cl : Nat} {own : Nat → Prop} {ms : List (Ge β)} (m : MapP enc hh mb own ms cl) (k : Int) (v : β) : MapP enc (hh.set mb (.map (gents enc (putG cl k v ms)) (clG cl k ms))) mb own (putG cl k v ms) (clG cl k ms) :=
  ⟨set_same _ (lt_of_some m.blk), m.ok.put k v, m.no⟩
theorem MapP.other {enc : β → V} {hh : Heap} {mb cl : Nat} {own : Nat → Prop} {ms : List (Ge β)} (m : MapP enc hh mb own ms cl) {x : Nat} (o : O) (hx : mb ≠ x) : MapP enc (hh.set x o) mb own ms cl := ⟨(set_other o hx).trans m.blk, m.ok, m.no⟩
theorem MapP.get {enc : β → V} {hh : Heap} {mb cl : Nat} {own : Nat → Prop} {ms : List (Ge β)} (m : MapP enc hh mb own ms cl) {k : Int} {z : β} {w : β} (hw : (getG k ms).getD z = w) : mapGet (.int .i64 k) (enc z) false (some (gents enc ms)) = some (enc w) := by
  rw [mapGet_g]
  cases q : getG k ms with
  | none => rw [q] at hw; rw [← hw]; rfl
  | some v => rw [q] at hw; rw [← hw]; rfl
end
end Go.Proofs.YtmjfhckioaempaaA
