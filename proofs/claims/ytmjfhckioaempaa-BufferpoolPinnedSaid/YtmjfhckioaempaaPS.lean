/- Words of this session: chapter 16: what stays true of a pool. Words of this session: chapter 16: what the calls keep. Words of this session: chapter 16: what the calls keep: all of them. -/
import Derived.Test.YtmjfhckioaempaaPP
namespace Go.Proofs.YtmjfhckioaempaaA
open Go Go.Proofs Go.RowKit
set_option linter.unusedVariables false
set_option linter.unusedSimpArgs false
set_option maxRecDepth 10000
set_option maxHeartbeats 2000000
def cur (D : Dk) : List Int := applyAll D.dur D.pend
def dirtyN (fs : List Fr) : Nat := fs.countP Fr.dirty
/-- A frame is right. -/
def FrOk (S : Bp) (N : Nat) (f : Fr) : Prop :=
  0 ≤ f.pins ∧ f.pins ≤ N ∧ ((f.page < 0 ∧ f.dirty = false ∧ f.pins = 0) ∨ (0 ≤ f.page ∧ f.page < S.pages ∧ f.data.length = 1024 ∧ (f.dirty = false → f.data = pg (cur S.D) f.page.toNat)))
structure PIn (S : Bp) (N : Nat) : Prop where
  dur : S.D.dur.length = S.pages * 1024
  pages : S.pages ≤ 4096
  fl : S.frames.length ≤ 8
  fr : ∀ i (hi : i < S.frames.length), FrOk S N S.frames[i]
  dis : ∀ i j (hi : i < S.frames.length) (hj : j < S.frames.length), 0 ≤ (S.frames[i]).page → (S.frames[i]).page = (S.frames[j]).page → i = j
  pd : ∀ w ∈ S.D.pend, ∃ k, w.off = k * 1024 ∧ w.data.length = 1024 ∧ k < S.pages
  cnt : S.D.pend.length + dirtyN S.frames ≤ N
  ctr : S.D.ctr ≤ 9223372036854775807
  reads : 0 ≤ S.reads ∧ S.reads ≤ N
  hand : S.hand < S.frames.length
  big : N ≤ 1000
theorem PIn.cur_len {S : Bp} {N : Nat} (v : PIn S N) : (cur S.D).length = S.pages * 1024 := by
  unfold cur
  rw [applyAll_len, v.dur]
  intro w hw
  obtain ⟨k, h1, h2, h3⟩ := v.pd w hw
  rw [h1, h2, v.dur]; omega
theorem PIn.frm {S : Bp} {N : Nat} (v : PIn S N) {f : Fr} (hf : f ∈ S.frames) : FrOk S N f := by
  obtain ⟨i, hi, rfl⟩ := List.getElem_of_mem hf
  exact v.fr i hi
theorem PIn.okp {S : Bp} {N : Nat} (v : PIn S N) : Okp S := by
  have hb := v.big
  refine ⟨v.dur, v.pages, fun f hf => ?_, fun f hf h0 => ?_, by have := v.cnt; omega, v.ctr, by have := v.reads; omega⟩
  · have := v.frm hf
    exact ⟨this.1, by have := this.2.1; omega⟩
  · rcases (v.frm hf).2.2 with h | h
    · omega
    · exact ⟨h.2.1, h.2.2.1⟩
theorem PIn.mono {S : Bp} {N M : Nat} (v : PIn S N) (h : N ≤ M) (hM : M ≤ 1000) : PIn S M :=
  ⟨v.dur, v.pages, v.fl, fun i hi => ⟨(v.fr i hi).1, by have := (v.fr i hi).2.1; omega, (v.fr i hi).2.2⟩, v.dis, v.pd, by have := v.cnt; omega, v.ctr, by have := v.reads; omega, v.hand, hM⟩
theorem PIn.lst {S : Bp} {N : Nat} (v : PIn S N) (q : Fr → Bool) : (lstP q S.frames).length ≤ 12 := by
  unfold lstP
  rw [List.length_map]
  exact Nat.le_trans (List.length_filter_le _ _) (by have := v.fl; omega)
/-- What is at a page: in its frame, or on the disk. -/
def Holds (S : Bp) (k : Nat) (d : List Int) : Prop :=
  (∃ i, ∃ hi : i < S.frames.length, (S.frames[i]).page = (k : Int) ∧ d = (S.frames[i]).data) ∨ ((∀ f ∈ S.frames, f.page ≠ (k : Int)) ∧ d = pg (cur S.D) k)
theorem Holds.func {S : Bp} {N : Nat} (v : PIn S N) {k : Nat} {a b : List Int} (h1 : Holds S k a) (h2 : Holds S k b) : a = b := by
  rcases h1 with ⟨i, hi, e1, rfl⟩ | ⟨n1, rfl⟩
  · rcases h2 with ⟨j, hj, e2, rfl⟩ | ⟨n2, _⟩
    · have := v.dis i j hi hj (by rw [e1]; omega) (by rw [e1, e2])
      subst this; rfl
    · exact absurd e1 (n2 _ (List.getElem_mem hi))
  · rcases h2 with ⟨j, hj, e2, rfl⟩ | ⟨_, rfl⟩
    · exact absurd e2 (n1 _ (List.getElem_mem hj))
    · rfl
/-- Frames that are alike but for one place (and flags). -/
structure Agr (fs fs' : List Fr) (j : Nat) : Prop where
  len : fs'.length = fs.length
  jl : j < fs.length
  eq : ∀ i (hi : i < fs.length), i ≠ j → (fs'[i]'(by rw [len]; exact hi)).page = (fs[i]).page ∧ (fs'[i]'(by rw [len]; exact hi)).data = (fs[i]).data ∧ (fs'[i]'(by rw [len]; exact hi)).pins = (fs[i]).pins ∧ (fs'[i]'(by rw [len]; exact hi)).dirty = (fs[i]).dirty
theorem Agr.set {fs : List Fr} {j : Nat} (hj : j < fs.length) (f : Fr) : Agr fs (fs.set j f) j :=
  ⟨by rw [List.length_set], hj, fun i hi hn => by rw [List.getElem_set_ne (Ne.symm hn)]; exact ⟨rfl, rfl, rfl, rfl⟩⟩
theorem Agr.clr {fs : List Fr} {cl : List Int} {j : Nat} (hj : j < fs.length) (f : Fr) : Agr fs ((clrF fs cl).set j f) j :=
  ⟨by rw [List.length_set, clrF_len], hj, fun i hi hn => by
    simp only [List.getElem_set_ne (Ne.symm hn)]
    rw [clrF_get hi]
    split <;> exact ⟨rfl, rfl, rfl, rfl⟩⟩
theorem dirtyN_agr {fs fs' : List Fr} {j : Nat} (a : Agr fs fs' j) : dirtyN fs' + (if (fs[j]'a.jl).dirty then 1 else 0) = dirtyN fs + (if (fs'[j]'(by rw [a.len]; exact a.jl)).dirty then 1 else 0) := by
  have hj := a.jl
  have hj' : j < fs'.length := by rw [a.len]; exact hj
  have h1 : fs = fs.take j ++ fs[j] :: fs.drop (j + 1) := by rw [← List.drop_eq_getElem_cons hj, List.take_append_drop]
  have h2 : fs' = fs'.take j ++ fs'[j] :: fs'.drop (j + 1) := by rw [← List.drop_eq_getElem_cons hj', List.take_append_drop]
  have e1 : (fs'.take j).map Fr.dirty = (fs.take j).map Fr.dirty := by
    apply List.ext_getElem (by simp [a.len])
    intro i q1 q2
    simp only [List.length_map, List.length_take] at q1 q2
    simp only [List.getElem_map, List.getElem_take]
    exact (a.eq i (by omega) (by omega)).2.2.2
  have e2 : (fs'.drop (j + 1)).map Fr.dirty = (fs.drop (j + 1)).map Fr.dirty := by
    apply List.ext_getElem (by simp [a.len])
    intro i q1 q2
    simp only [List.length_map, List.length_drop] at q1 q2
    simp only [List.getElem_map, List.getElem_drop]
    exact (a.eq (j + 1 + i) (by omega) (by omega)).2.2.2
  have cm : ∀ l : List Fr, l.countP Fr.dirty = (l.map Fr.dirty).countP id := fun l => by rw [List.countP_map]; rfl
  unfold dirtyN
  have x1 : fs.countP Fr.dirty = (fs.take j).countP Fr.dirty + ((if (fs[j]).dirty then 1 else 0) + (fs.drop (j + 1)).countP Fr.dirty) := by
    conv => lhs; rw [h1]
    rw [List.countP_append, List.countP_cons]; omega
  have x2 : fs'.countP Fr.dirty = (fs'.take j).countP Fr.dirty + ((if (fs'[j]).dirty then 1 else 0) + (fs'.drop (j + 1)).countP Fr.dirty) := by
    conv => lhs; rw [h2]
    rw [List.countP_append, List.countP_cons]; omega
  have y1 : (fs'.take j).countP Fr.dirty = (fs.take j).countP Fr.dirty := by rw [cm, cm, e1]
  have y2 : (fs'.drop (j + 1)).countP Fr.dirty = (fs.drop (j + 1)).countP Fr.dirty := by rw [cm, cm, e2]
  omega
theorem WrO.cur {D D1 : Dk} {k : Nat} {data : List Int} {e : Int} (h : WrO D (k * 1024) data D1 e) : (e = 0 ∧ D.failed = false ∧ D1.failed = false ∧ D1.dur = D.dur ∧ (∃ w : Pw, w.off = k * 1024 ∧ w.data = data ∧ D1.pend = D.pend ++ [w]) ∧ cur D1 = putL (cur D) (k * 1024) data) ∨ (e = 11 ∧ D1.failed = true ∧ D1.dur = D.dur ∧ D1.pend = D.pend) := by
  unfold WrO at h
  split at h
  · rename_i hf
    obtain ⟨rfl, rfl⟩ := h
    exact .inr ⟨rfl, hf, rfl, rfl⟩
  · rename_i hf
    split at h
    · obtain ⟨rfl, rfl⟩ := h
      exact .inr ⟨rfl, rfl, rfl, rfl⟩
    · obtain ⟨rfl, w, h1, h2, rfl⟩ := h
      refine .inl ⟨rfl, by simpa using hf, rfl, rfl, ⟨w, h1, h2, rfl⟩, ?_⟩
      show applyAll D.dur (D.pend ++ [w]) = _
      rw [applyAll_app]
      show putL (applyAll D.dur D.pend) w.off w.data = _
      rw [h1, h2]; rfl
end Go.Proofs.YtmjfhckioaempaaA
namespace Go.Proofs.YtmjfhckioaempaaA
open Go Go.Proofs Go.RowKit
set_option linter.unusedVariables false
set_option linter.unusedSimpArgs false
set_option maxRecDepth 10000
set_option maxHeartbeats 2000000
theorem PIn.step {S S' : Bp} {N M j : Nat} (v : PIn S N) (hNM : N ≤ M) (hN : M ≤ 1000) (hp : S'.pages = S.pages) (a : Agr S.frames S'.frames j) (hdur : S'.D.dur.length = S.D.dur.length)
    (hpd : ∀ w ∈ S'.D.pend, ∃ k, w.off = k * 1024 ∧ w.data.length = 1024 ∧ k < S.pages) (hfr : FrOk S' M (S'.frames[j]'(by rw [a.len]; exact a.jl)))
    (hcl : ∀ i (hi : i < S.frames.length), i ≠ j → 0 ≤ (S.frames[i]).page → pg (cur S'.D) (S.frames[i]).page.toNat = pg (cur S.D) (S.frames[i]).page.toNat)
    (hdis : ∀ i (hi : i < S.frames.length), i ≠ j → 0 ≤ (S'.frames[j]'(by rw [a.len]; exact a.jl)).page → (S.frames[i]).page ≠ (S'.frames[j]'(by rw [a.len]; exact a.jl)).page)
    (hcnt : S'.D.pend.length + dirtyN S'.frames ≤ M) (hctr : S'.D.ctr ≤ 9223372036854775807) (hreads : 0 ≤ S'.reads ∧ S'.reads ≤ M) (hhand : S'.hand < S'.frames.length) : PIn S' M := by
  refine ⟨by rw [hdur, hp]; exact v.dur, by rw [hp]; exact v.pages, by rw [a.len]; exact v.fl, fun i hi => ?_, fun i k hi hk h0 he => ?_, by rw [hp]; exact hpd, hcnt, hctr, by have := hreads; constructor <;> omega, hhand, hN⟩
  · have hi' : i < S.frames.length := by rw [← a.len]; exact hi
    by_cases c : i = j
    · subst c; exact hfr
    · obtain ⟨e1, e2, e3, e4⟩ := a.eq i hi' c
      obtain ⟨f1, f2, f3⟩ := v.fr i hi'
      refine ⟨by rw [e3]; exact f1, by rw [e3]; omega, ?_⟩
      rw [e1, e2, e3, e4, hp]
      rcases f3 with f3 | ⟨f3, f4, f5, f6⟩
      · exact .inl f3
      · exact .inr ⟨f3, f4, f5, fun q => by rw [hcl i hi' c f3]; exact f6 q⟩
  · have hi' : i < S.frames.length := by rw [← a.len]; exact hi
    have hk' : k < S.frames.length := by rw [← a.len]; exact hk
    by_cases c1 : i = j
    · by_cases c2 : k = j
      · rw [c1, c2]
      · subst c1
        rw [(a.eq k hk' c2).1] at he
        exact absurd he.symm (hdis k hk' c2 h0)
    · by_cases c2 : k = j
      · subst c2
        rw [(a.eq i hi' c1).1] at he h0
        exact absurd he (hdis i hi' c1 (by rw [← he]; exact h0))
      · rw [(a.eq i hi' c1).1] at he h0
        rw [(a.eq k hk' c2).1] at he
        exact v.dis i k hi' hk' h0 he
/-- Only the disk's counter and flag are changed. -/
theorem PIn.dsame {S : Bp} {N : Nat} {D1 : Dk} (v : PIn S N) (h1 : D1.dur = S.D.dur) (h2 : D1.pend = S.D.pend) (h3 : D1.ctr ≤ 9223372036854775807) : PIn ⟨D1, S.pages, S.frames, S.hand, S.reads⟩ N ∧ ∀ k d, Holds S k d ↔ Holds ⟨D1, S.pages, S.frames, S.hand, S.reads⟩ k d := by
  have hc : cur D1 = cur S.D := by unfold cur; rw [h1, h2]
  refine ⟨⟨by rw [h1]; exact v.dur, v.pages, v.fl, fun i hi => ?_, v.dis, by rw [h2]; exact v.pd, by rw [h2]; exact v.cnt, h3, v.reads, v.hand, v.big⟩, fun k d => ?_⟩
  · have := v.fr i hi
    unfold FrOk at this ⊢
    rw [hc]; exact this
  · unfold Holds
    rw [hc]
/-- What loading does. -/
theorem lo_keeps {S S' : Bp} {N page : Nat} {r : V} {rs : Option (Option (Nat × Nat) × Option Nat × List Int)} (v : PIn S N) (hN : N + 1 ≤ 1000) (hpg : page < S.pages) (hno : findF (page : Int) S.frames = none) (lo : LoO S page r S' rs) :
    PIn S' (N + 1) ∧ S'.pages = S.pages ∧ S'.frames.length = S.frames.length ∧ (∀ k d, k < S.pages → Holds S k d → Holds S' k d) ∧
    ((rs = none ∧ S'.frames = S.frames ∧ S'.reads = S.reads) ∨ ∃ p c dd, rs = some (p, c, dd) ∧ Holds S' page dd ∧ S'.reads = S.reads + 1 ∧ S.D.failed = false ∧ S'.D.failed = false ∧ ∃ j, ∃ a : Agr S.frames S'.frames j, (S'.frames[j]'(by rw [a.len]; exact a.jl)) = ⟨page, p, c, dd, 1, false, true⟩ ∧ ((S.frames[j]'a.jl).page < 0 ∨ ((∀ f ∈ S.frames, 0 ≤ f.page) ∧ (S.frames[j]'a.jl).pins = 0))) := by
  have hnp := findF_none hno (by omega)
  have hcl0 := v.cur_len
  rcases lo with ⟨h1, h2, rfl, rfl, rfl⟩ | ⟨j, hand, cl, D1, e, ch, hj, hwe, hr⟩
  · exact ⟨v.mono (by omega) hN, rfl, rfl, fun k d _ q => q, .inl ⟨rfl, rfl, rfl⟩⟩
  have hold := v.fr j hj
  have hlt := ch.lt v.hand
  -- what the write did
  have hw : (e = 0 ∧ D1.failed = false ∧ S.D.failed = false ∧ 0 ≤ (S.frames[j]).page ∧ (S.frames[j]).dirty = true ∧ D1.dur = S.D.dur ∧ D1.pend.length = S.D.pend.length + 1 ∧ (∀ w ∈ D1.pend, ∃ k, w.off = k * 1024 ∧ w.data.length = 1024 ∧ k < S.pages) ∧ (∀ k, k < S.pages → pg (cur D1) k = if (S.frames[j]).page.toNat = k then (S.frames[j]).data else pg (cur S.D) k) ∧ D1.ctr ≤ 9223372036854775807) ∨
      (e = 0 ∧ D1 = S.D ∧ (S.frames[j]).dirty = false) ∨ (e ≠ 0 ∧ D1.dur = S.D.dur ∧ D1.pend = S.D.pend ∧ D1.ctr ≤ 9223372036854775807) := by
    unfold WroE at hwe
    split at hwe
    · rename_i hd
      obtain ⟨off, h1, wo⟩ := hwe
      obtain ⟨pn, hpn⟩ := Int.eq_ofNat_of_zero_le hd.1
      rcases hold.2.2 with q | ⟨q1, q2, q3, q4⟩
      · omega
      have hoff : off = pn * 1024 := by omega
      have hct := wo.len.2.2 v.ctr
      rw [hoff] at wo
      rcases wo.cur with ⟨rfl, w1, w2, w3, ⟨w, w4, w5, w6⟩, w7⟩ | ⟨rfl, w2, w3, w4⟩
      · refine .inl ⟨rfl, w2, w1, hd.1, hd.2, w3, by rw [w6]; simp, fun x hx => ?_, fun k hk => ?_, hct⟩
        · rw [w6] at hx
          rcases List.mem_append.1 hx with hx | hx
          · exact v.pd x hx
          · rw [List.mem_singleton] at hx
            subst hx
            exact ⟨pn, w4, by rw [w5]; exact q3, by omega⟩
        · rw [w7, pg_put q3 (by rw [hcl0]; omega) (by rw [hcl0]; omega)]
          have : (S.frames[j]).page.toNat = pn := by omega
          rw [this]
      · exact .inr (.inr ⟨by decide, w3, w4, hct⟩)
    · rename_i hd
      obtain ⟨rfl, rfl⟩ := hwe
      refine .inr (.inl ⟨rfl, rfl, ?_⟩)
      rcases hold.2.2 with q | q
      · exact q.2.1
      · cases hq : (S.frames[j]).dirty
        · rfl
        · exact absurd ⟨q.1, hq⟩ hd
  rcases hr with ⟨he, rfl, rfl, rfl⟩ | ⟨rfl, hf, rfl, rfl, rfl⟩ | ⟨rfl, hf, p, c, data, hdata, rfl, rfl, rfl⟩
  · rcases hw with w | w | w
    · exact absurd w.1 he
    · exact absurd w.1 he
    · have := (v.mono (Nat.le_succ N) hN).dsame w.2.1 w.2.2.1 w.2.2.2
      exact ⟨this.1, rfl, rfl, fun k d _ q => (this.2 k d).1 q, .inl ⟨rfl, rfl, rfl⟩⟩
  · rcases hw with w | w | w
    · rw [w.2.1] at hf; cases hf
    · obtain ⟨_, rfl, _⟩ := w
      have := (v.mono (Nat.le_succ N) hN).dsame (D1 := S.D) rfl rfl v.ctr
      exact ⟨this.1, rfl, rfl, fun k d _ q => q, .inl ⟨rfl, rfl, rfl⟩⟩
    · exact absurd rfl w.1
  · have hdata : data = pg (cur D1) page := hdata
    have a : Agr S.frames ((clrF S.frames cl).set j ⟨page, p, c, data, 1, false, true⟩) j := .clr hj _
    have hnew : ((clrF S.frames cl).set j ⟨page, p, c, data, 1, false, true⟩)[j]'(by rw [a.len]; exact hj) = (⟨page, p, c, data, 1, false, true⟩ : Fr) := List.getElem_set_self ..
    have hpgs : ∀ k, k < S.pages → (∀ i (hi : i < S.frames.length), i = j → (S.frames[i]).page ≠ (k : Int)) → pg (cur D1) k = pg (cur S.D) k := fun k hk hne => by
      rcases hw with w | w | w
      · have h0 := w.2.2.2.1
        have hpj := hne j hj rfl
        rw [w.2.2.2.2.2.2.2.2.1 k hk, if_neg]
        intro q; exact hpj (by omega)
      · rw [w.2.1]
      · exact absurd rfl w.1
    have hdl : D1.dur = S.D.dur := by
      rcases hw with w | w | w
      · exact w.2.2.2.2.2.1
      · rw [w.2.1]
      · exact absurd rfl w.1
    have hDf : S.D.failed = false := by
      rcases hw with w | w | w
      · exact w.2.2.1
      · rw [← w.2.1]; exact hf
      · exact absurd rfl w.1
    have hdlen : data.length = 1024 := by
      have hin : ∀ w ∈ D1.pend, w.off + w.data.length ≤ D1.dur.length := fun w hw' => by
        have : ∃ k, w.off = k * 1024 ∧ w.data.length = 1024 ∧ k < S.pages := by
          rcases hw with q | q | q
          · exact q.2.2.2.2.2.2.2.1 w hw'
          · rw [q.2.1] at hw'; exact v.pd w hw'
          · exact absurd rfl q.1
        obtain ⟨k, h1, h2, h3⟩ := this
        rw [h1, h2, hdl, v.dur]; omega
      rw [hdata]
      unfold pg cur
      rw [List.length_take, List.length_drop, applyAll_len hin, hdl, v.dur]; omega
    have hdn := dirtyN_agr a
    rw [hnew] at hdn
    have hin : PIn ⟨D1, S.pages, (clrF S.frames cl).set j ⟨page, p, c, data, 1, false, true⟩, hand, S.reads + 1⟩ (N + 1) := by
      refine v.step (Nat.le_succ N) hN rfl a (by rw [hdl]) ?_ ?_ ?_ ?_ ?_ ?_ ?_ ?_
      · intro w hw'
        rcases hw with q | q | q
        · exact q.2.2.2.2.2.2.2.1 w hw'
        · have hw' : w ∈ D1.pend := hw'
          rw [q.2.1] at hw'; exact v.pd w hw'
        · exact absurd rfl q.1
      · rw [hnew]
        exact ⟨(show (0 : Int) ≤ 1 by decide), by show (1 : Int) ≤ ((N + 1 : Nat) : Int); omega, .inr ⟨by show (0 : Int) ≤ (page : Int); omega, by show (page : Int) < (S.pages : Int); omega, hdlen, fun _ => hdata⟩⟩
      · intro i hi hn h0
        rcases (v.fr i hi).2.2 with q | q
        · omega
        · refine hpgs _ (by omega) fun i' hi' e' q' => hn ?_
          subst e'
          exact v.dis i i' hi hi' h0 (by rw [q']; omega)
      · intro i hi hn _ q
        rw [hnew] at q
        exact hnp _ (List.getElem_mem hi) q
      · have := v.cnt
        show D1.pend.length + dirtyN ((clrF S.frames cl).set j ⟨page, p, c, data, 1, false, true⟩) ≤ N + 1
        rcases hw with q | q | q
        · rw [q.2.2.2.2.1] at hdn
          simp at hdn
          have := q.2.2.2.2.2.2.1
          omega
        · rw [q.2.2] at hdn
          simp at hdn
          rw [q.2.1]; omega
        · exact absurd rfl q.1
      · rcases hw with q | q | q
        · exact q.2.2.2.2.2.2.2.2.2
        · show D1.ctr ≤ _; rw [q.2.1]; exact v.ctr
        · exact absurd rfl q.1
      · have := v.reads
        show 0 ≤ S.reads + 1 ∧ S.reads + 1 ≤ _
        constructor <;> omega
      · show hand < ((clrF S.frames cl).set j _).length
        rw [a.len]; exact hlt.2.1
    have hh : ∀ k d, k < S.pages → Holds S k d → Holds ⟨D1, S.pages, (clrF S.frames cl).set j ⟨page, p, c, data, 1, false, true⟩, hand, S.reads + 1⟩ k d := by
      intro k d hk q
      rcases q with ⟨i, hi, e1, rfl⟩ | ⟨n1, rfl⟩
      · by_cases c : i = j
        · subst c
          refine .inr ⟨fun f hf' q => ?_, ?_⟩
          · obtain ⟨i', hi', rfl⟩ := List.getElem_of_mem hf'
            have hi2 : i' < S.frames.length := by rw [← a.len]; exact hi'
            by_cases c2 : i' = i
            · subst c2
              have q := q
              rw [hnew] at q
              exact hnp _ (List.getElem_mem hi) (by rw [e1]; exact q.symm)
            · have q := q
              rw [(a.eq i' hi2 c2).1] at q
              exact c2 (v.dis i' i hi2 hi (by rw [q]; omega) (by rw [q, e1]))
          · show _ = pg (cur D1) k
            have hkn : (S.frames[i]).page.toNat = k := by omega
            rcases hw with w | w | w
            · rw [w.2.2.2.2.2.2.2.2.1 k hk, if_pos hkn]
            · rcases hold.2.2 with z | z
              · omega
              · rw [w.2.1, ← hkn]; exact z.2.2.2 w.2.2
            · exact absurd rfl w.1
        · refine .inl ⟨i, by rw [a.len]; exact hi, ?_, ?_⟩
          · rw [(a.eq i hi c).1]; exact e1
          · exact (a.eq i hi c).2.1.symm
      · by_cases c : k = page
        · subst c
          refine .inl ⟨j, by rw [a.len]; exact hj, by rw [hnew], ?_⟩
          rw [hnew]
          show _ = data
          rw [hdata]
          exact (hpgs _ hk fun i hi _ => n1 _ (List.getElem_mem hi)).symm
        · refine .inr ⟨fun f hf' q => ?_, (hpgs _ hk fun i hi _ => n1 _ (List.getElem_mem hi)).symm⟩
          obtain ⟨i', hi', rfl⟩ := List.getElem_of_mem hf'
          have hi2 : i' < S.frames.length := by rw [← a.len]; exact hi'
          by_cases c2 : i' = j
          · subst c2
            rw [hnew] at q
            exact c (by have : (page : Int) = (k : Int) := q; omega)
          · rw [(a.eq i' hi2 c2).1] at q
            exact n1 _ (List.getElem_mem hi2) q
    refine ⟨hin, rfl, a.len, hh, .inr ⟨p, c, data, rfl, .inl ⟨j, by rw [a.len]; exact hj, by rw [hnew], by rw [hnew]⟩, rfl, hDf, hf, j, a, hnew, ?_⟩⟩
    rcases ch with ⟨h1, _, _⟩ | ⟨h1, t, vic, hjt, _⟩
    · obtain ⟨hi, h2, _⟩ := List.findIdx?_eq_some_iff_getElem.1 h1
      unfold emptyQ at h2
      exact .inl (of_decide_eq_true h2)
    · have h2 := List.findIdx?_eq_none_iff.1 h1
      refine .inr ⟨fun f hf' => ?_, ?_⟩
      · have := h2 f hf'
        unfold emptyQ at this
        simp only [decide_eq_false_iff_not] at this
        omega
      · have := vic.stop.1
        rw [← hjt] at this
        unfold pinsAt at this
        rw [List.getElem?_eq_getElem hj] at this
        simp only [Option.map_some, Option.getD_some] at this
        have := hold.1
        omega
end Go.Proofs.YtmjfhckioaempaaA
namespace Go.Proofs.YtmjfhckioaempaaA
open Go Go.Proofs Go.RowKit
set_option linter.unusedVariables false
set_option linter.unusedSimpArgs false
set_option maxRecDepth 10000
set_option maxHeartbeats 2000000
/-- One frame is changed, its page stays. -/
theorem PIn.one {S : Bp} {N M j : Nat} (v : PIn S N) (hNM : N ≤ M) (hM : M ≤ 1000) (hj : j < S.frames.length) {f : Fr} {D1 : Dk} (hpage : f.page = (S.frames[j]).page) (hdur : D1.dur.length = S.D.dur.length) (hpd : ∀ w ∈ D1.pend, ∃ k, w.off = k * 1024 ∧ w.data.length = 1024 ∧ k < S.pages)
    (hfr : FrOk ⟨D1, S.pages, S.frames.set j f, S.hand, S.reads⟩ M f) (hcl : ∀ i (hi : i < S.frames.length), i ≠ j → 0 ≤ (S.frames[i]).page → pg (cur D1) (S.frames[i]).page.toNat = pg (cur S.D) (S.frames[i]).page.toNat)
    (hcnt : D1.pend.length + dirtyN (S.frames.set j f) ≤ M) (hctr : D1.ctr ≤ 9223372036854775807) : PIn ⟨D1, S.pages, S.frames.set j f, S.hand, S.reads⟩ M := by
  have hnew : (S.frames.set j f)[j]'(by rw [List.length_set]; exact hj) = f := List.getElem_set_self ..
  refine v.step hNM hM rfl (.set hj f) hdur hpd (by rw [hnew]; exact hfr) hcl (fun i hi hn h0 q => ?_) hcnt hctr ?_ (by show S.hand < (S.frames.set j f).length; rw [List.length_set]; exact v.hand)
  · rw [hnew] at q h0
    rw [hpage] at q h0
    exact hn (v.dis i j hi hj (by rw [q]; exact h0) q)
  · have := v.reads
    show 0 ≤ S.reads ∧ S.reads ≤ _
    constructor <;> omega
theorem Holds.one {S : Bp} {j : Nat} (hj : j < S.frames.length) {f : Fr} {D1 : Dk} (hpage : f.page = (S.frames[j]).page) {k : Nat} {d : List Int} (h : Holds S k d) (hd : (S.frames[j]).page = (k : Int) → f.data = (S.frames[j]).data) (hc : (S.frames[j]).page ≠ (k : Int) → pg (cur D1) k = pg (cur S.D) k) : Holds ⟨D1, S.pages, S.frames.set j f, S.hand, S.reads⟩ k d := by
  rcases h with ⟨i, hi, e1, rfl⟩ | ⟨n1, rfl⟩
  · by_cases c : i = j
    · subst c
      exact .inl ⟨i, by rw [List.length_set]; exact hi, by rw [List.getElem_set_self, hpage]; exact e1, by rw [List.getElem_set_self]; exact (hd e1).symm⟩
    · exact .inl ⟨i, by rw [List.length_set]; exact hi, by rw [List.getElem_set_ne (Ne.symm c)]; exact e1, by rw [List.getElem_set_ne (Ne.symm c)]⟩
  · refine .inr ⟨fun g hg => ?_, (hc (n1 _ (List.getElem_mem hj))).symm⟩
    rcases List.mem_or_eq_of_mem_set hg with hg | rfl
    · exact n1 g hg
    · rw [hpage]; exact n1 _ (List.getElem_mem hj)
theorem dirtyN_set {fs : List Fr} {j : Nat} (hj : j < fs.length) (f : Fr) : dirtyN (fs.set j f) + (if (fs[j]).dirty then 1 else 0) = dirtyN fs + (if f.dirty then 1 else 0) := by
  have := dirtyN_agr (Agr.set hj f)
  rwa [List.getElem_set_self] at this
theorem up_keeps {S S' : Bp} {N : Nat} {page e : Int} {data : List Int} (v : PIn S N) (hN : N + 1 ≤ 1000) (u : UpR S page data S' e) :
    PIn S' (N + 1) ∧ S'.pages = S.pages ∧ S'.frames.length = S.frames.length ∧ S'.reads = S.reads ∧ S'.frames.map Fr.page = S.frames.map Fr.page ∧
    ((e ≠ 0 ∧ S' = S) ∨ (e = 0 ∧ data.length = 1024 ∧ ∃ n : Nat, page = n ∧ n < S.pages ∧ Holds S' n data ∧ ∀ k d, k ≠ n → Holds S k d → Holds S' k d)) := by
  rcases u with ⟨h1, rfl, rfl⟩ | ⟨h1, h2, rfl, rfl⟩ | ⟨i, hi, h1, h2, rfl, p', c', rfl⟩
  · exact ⟨v.mono (by omega) hN, rfl, rfl, rfl, rfl, .inl ⟨by decide, rfl⟩⟩
  · exact ⟨v.mono (by omega) hN, rfl, rfl, rfl, rfl, .inl ⟨by decide, rfl⟩⟩
  · obtain ⟨h3, _, hp⟩ := pinF_some h2
    obtain ⟨_, h0, h4, _⟩ := findF_some h3
    obtain ⟨n, rfl⟩ := Int.eq_ofNat_of_zero_le h0
    have hf := v.fr i hi
    have hnp : n < S.pages := by
      rcases hf.2.2 with q | q
      · omega
      · omega
    have hdn := dirtyN_set hi ⟨(S.frames[i]).page, p', c', data, (S.frames[i]).pins, true, (S.frames[i]).ref⟩
    refine ⟨v.one (Nat.le_succ N) hN hi rfl rfl v.pd ⟨hf.1, by have := hf.2.1; show (S.frames[i]).pins ≤ _; omega, .inr ⟨by show (0 : Int) ≤ (S.frames[i]).page; omega, by show (S.frames[i]).page < (S.pages : Int); omega, h1, fun q => by cases q⟩⟩ (fun _ _ _ _ => rfl) ?_ v.ctr, rfl, List.length_set .., rfl, set_page hi rfl, .inr ⟨rfl, h1, n, rfl, hnp, ?_, fun k d hk q => ?_⟩⟩
    · have := v.cnt
      simp only [if_true] at hdn
      omega
    · exact .inl ⟨i, by rw [List.length_set]; exact hi, by rw [List.getElem_set_self]; exact h4, by rw [List.getElem_set_self]⟩
    · exact Holds.one hi (f := ⟨(S.frames[i]).page, p', c', data, (S.frames[i]).pins, true, (S.frames[i]).ref⟩) rfl q (fun z => absurd (by omega) hk) (fun _ => rfl)
theorem un_keeps {S S' : Bp} {N : Nat} {page e : Int} (v : PIn S N) (hN : N + 1 ≤ 1000) (u : UnR S page S' e) :
    PIn S' (N + 1) ∧ S'.pages = S.pages ∧ S'.frames.length = S.frames.length ∧ S'.reads = S.reads ∧ S'.frames.map Fr.page = S.frames.map Fr.page ∧ (∀ k d, Holds S k d → Holds S' k d) := by
  rcases u with ⟨h1, rfl, rfl⟩ | ⟨i, hi, h2, rfl, rfl⟩
  · exact ⟨v.mono (by omega) hN, rfl, rfl, rfl, rfl, fun _ _ q => q⟩
  · obtain ⟨h3, _, hp⟩ := pinF_some h2
    have hf := v.fr i hi
    have hdn := dirtyN_set hi { S.frames[i] with pins := (S.frames[i]).pins - 1 }
    refine ⟨v.one (Nat.le_succ N) hN hi rfl rfl v.pd ⟨by show 0 ≤ (S.frames[i]).pins - 1; omega, by have := hf.2.1; show (S.frames[i]).pins - 1 ≤ _; omega, ?_⟩ (fun _ _ _ _ => rfl) ?_ v.ctr, rfl, List.length_set .., rfl, set_page hi rfl, fun k d q => Holds.one hi (f := { S.frames[i] with pins := (S.frames[i]).pins - 1 }) rfl q (fun _ => rfl) (fun _ => rfl)⟩
    · rcases hf.2.2 with q | q
      · omega
      · exact .inr q
    · have := v.cnt
      show S.D.pend.length + _ ≤ _
      have hdd : ({ S.frames[i] with pins := (S.frames[i]).pins - 1 } : Fr).dirty = (S.frames[i]).dirty := rfl
      rw [hdd] at hdn
      omega
theorem lst_nodup {S : Bp} {N : Nat} (v : PIn S N) (q : Fr → Bool) : (lstP q S.frames).Nodup := by
  have h1 : S.frames.Pairwise fun f g => 0 ≤ f.page → f.page ≠ g.page := by
    rw [List.pairwise_iff_getElem]
    intro i j hi hj hij h0 he
    have := v.dis i j hi hj h0 he
    omega
  have h2 := h1.sublist (List.filter_sublist (p := lstQ q))
  unfold lstP List.Nodup
  rw [List.pairwise_map]
  refine h2.imp_of_mem fun {a b} ha hb h => h ?_
  have := (List.mem_filter.1 ha).2
  unfold lstQ at this
  simp only [Bool.and_eq_true, decide_eq_true_eq] at this
  exact this.1
theorem fl_keeps {S' : Bp} {N : Nat} {e : Int} : ∀ {zs : List Int} {S : Bp}, PIn S N → zs.Nodup → (∀ z ∈ zs, ∃ i, ∃ hi : i < S.frames.length, (S.frames[i]).page = z ∧ (S.frames[i]).dirty = true) → FlR zs S S' e → PIn S' N ∧ S'.pages = S.pages ∧ S'.frames.length = S.frames.length ∧ S'.reads = S.reads ∧ S'.frames.map Fr.page = S.frames.map Fr.page ∧ (∀ k d, k < S.pages → Holds S k d → Holds S' k d)
  | [], S, v, _, _, h => by
    obtain ⟨rfl, rfl⟩ := h
    exact ⟨v, rfl, rfl, rfl, rfl, fun _ _ _ q => q⟩
  | z :: zs, S, v, hnd, hdz, h => by
    obtain ⟨i, hi, off, D1, e1, h1, h2, wo, h3⟩ := h
    obtain ⟨_, h0, h4, _⟩ := findF_some h1
    obtain ⟨n, rfl⟩ := Int.eq_ofNat_of_zero_le h0
    have hoff : off = n * 1024 := by omega
    have hct := wo.len.2.2 v.ctr
    rw [hoff] at wo
    have hf := v.fr i hi
    have hfp : (S.frames[i]).page < S.pages ∧ (S.frames[i]).data.length = 1024 := by
      rcases hf.2.2 with q | q
      · omega
      · exact ⟨q.2.1, q.2.2.1⟩
    rcases h3 with ⟨he, rfl, rfl⟩ | ⟨rfl, h3⟩
    · rcases wo.cur with w | ⟨_, w2, w3, w4⟩
      · exact absurd w.1 he
      · have := v.dsame w3 w4 hct
        exact ⟨this.1, rfl, rfl, rfl, rfl, fun k d _ q => (this.2 k d).1 q⟩
    · rcases wo.cur with ⟨_, w1, w2, w3, ⟨w, w4, w5, w6⟩, w7⟩ | ⟨q, _⟩
      rotate_left
      · exact absurd q (by decide)
      obtain ⟨i', hi', hp', hd'⟩ := hdz n (by simp)
      have hii : i' = i := v.dis i' i hi' hi (by rw [hp']; omega) (by rw [hp', h4])
      subst hii
      have hcl0 := v.cur_len
      have hpgs : ∀ k, k < S.pages → pg (cur D1) k = if n = k then (S.frames[i']).data else pg (cur S.D) k := fun k hk => by
        rw [w7, pg_put hfp.2 (by rw [hcl0]; omega) (by rw [hcl0]; omega)]
      have hdn := dirtyN_set hi { S.frames[i'] with dirty := false }
      have hv : PIn ⟨D1, S.pages, S.frames.set i' { S.frames[i'] with dirty := false }, S.hand, S.reads⟩ N := by
        refine v.one (Nat.le_refl N) v.big hi rfl (by rw [w3]) (fun x hx => ?_) ⟨hf.1, hf.2.1, .inr ⟨by show 0 ≤ (S.frames[i']).page; omega, hfp.1, hfp.2, fun _ => ?_⟩⟩ (fun k hk hn hk0 => ?_) ?_ hct
        · rw [w6] at hx
          rcases List.mem_append.1 hx with hx | hx
          · exact v.pd x hx
          · rw [List.mem_singleton] at hx
            subst hx
            exact ⟨n, w4, by rw [w5]; exact hfp.2, by omega⟩
        · show (S.frames[i']).data = pg (cur D1) (S.frames[i']).page.toNat
          rw [hpgs _ (by omega), if_pos (by omega)]
        · rcases (v.fr k hk).2.2 with q | q
          · omega
          · rw [hpgs _ (by omega), if_neg]
            intro z
            exact hn (v.dis k i' hk hi hk0 (by omega))
        · have := v.cnt
          rw [hd'] at hdn
          simp at hdn
          rw [w6, List.length_append]
          simp only [List.length_cons, List.length_nil]
          omega
      rw [List.nodup_cons] at hnd
      have ih := fl_keeps hv hnd.2 (fun z hz => by
        obtain ⟨k, hk, e2, e3⟩ := hdz z (by simp [hz])
        have hkn : k ≠ i' := fun c => by subst c; rw [e2] at h4; exact hnd.1 (by rw [← h4]; exact hz)
        exact ⟨k, by rw [List.length_set]; exact hk, by rw [List.getElem_set_ne (Ne.symm hkn)]; exact e2, by rw [List.getElem_set_ne (Ne.symm hkn)]; exact e3⟩) h3
      refine ⟨ih.1, ih.2.1, ih.2.2.1.trans (List.length_set ..), ih.2.2.2.1, ih.2.2.2.2.1.trans (set_page hi rfl), fun k d hk q => ih.2.2.2.2.2 k d hk ?_⟩
      refine Holds.one hi (f := { S.frames[i'] with dirty := false }) (D1 := D1) rfl q (fun _ => rfl) (fun z => ?_)
      rw [hpgs k hk, if_neg]
      intro c; exact z (by omega)
theorem dirty_ex {S : Bp} {zs : List Int} (hp : zs.Perm (lstP Fr.dirty S.frames)) : ∀ z ∈ zs, ∃ i, ∃ hi : i < S.frames.length, (S.frames[i]).page = z ∧ (S.frames[i]).dirty = true := fun z hz => by
  have := hp.mem_iff.1 hz
  unfold lstP at this
  obtain ⟨f, hf, rfl⟩ := List.mem_map.1 this
  obtain ⟨hf1, hf2⟩ := List.mem_filter.1 hf
  unfold lstQ at hf2
  simp only [Bool.and_eq_true] at hf2
  obtain ⟨i, hi, rfl⟩ := List.getElem_of_mem hf1
  exact ⟨i, hi, rfl, hf2.2⟩
theorem pin_keeps {S S' : Bp} {N : Nat} {page e : Int} {dd : List Int} (v : PIn S N) (hN : N + 1 ≤ 1000) (u : PinR S page S' e dd) :
    PIn S' (N + 1) ∧ S'.pages = S.pages ∧ S'.frames.length = S.frames.length ∧ (∀ k d, k < S.pages → Holds S k d → Holds S' k d) ∧ (e = 0 → ∃ n : Nat, page = n ∧ n < S.pages ∧ Holds S n dd) ∧
    ((S'.reads = S.reads ∧ S'.frames.map Fr.page = S.frames.map Fr.page ∧ (e = 0 → ∃ i, findF page S.frames = some i)) ∨
     (S'.reads = S.reads + 1 ∧ e = 0 ∧ findF page S.frames = none ∧ ∃ j, ∃ a : Agr S.frames S'.frames j, (S'.frames[j]'(by rw [a.len]; exact a.jl)).page = page ∧ ((S.frames[j]'a.jl).page < 0 ∨ ∀ f ∈ S.frames, 0 ≤ f.page))) := by
  rcases u with ⟨h1, rfl, rfl, rfl⟩ | ⟨h1, h2, i, hi, h3, rfl, rfl, rfl⟩ | ⟨n, rfl, h1, h2, r, rs, lo, h3⟩
  · exact ⟨v.mono (by omega) hN, rfl, rfl, fun _ _ _ q => q, fun q => absurd q (by decide), .inl ⟨rfl, rfl, fun q => absurd q (by decide)⟩⟩
  · obtain ⟨_, h0, h4, _⟩ := findF_some h3
    obtain ⟨n, rfl⟩ := Int.eq_ofNat_of_zero_le h0
    have hf := v.fr i hi
    have hdn := dirtyN_set hi { S.frames[i] with pins := (S.frames[i]).pins + 1, ref := true }
    refine ⟨v.one (Nat.le_succ N) hN hi rfl rfl v.pd ⟨by have := hf.1; show 0 ≤ (S.frames[i]).pins + 1; omega, by have := hf.2.1; show (S.frames[i]).pins + 1 ≤ _; omega, ?_⟩ (fun _ _ _ _ => rfl) ?_ v.ctr, rfl, List.length_set .., fun k d hk q => Holds.one hi (f := { S.frames[i] with pins := (S.frames[i]).pins + 1, ref := true }) rfl q (fun _ => rfl) (fun _ => rfl), fun _ => ⟨n, rfl, by omega, .inl ⟨i, hi, h4, rfl⟩⟩, .inl ⟨rfl, set_page hi rfl, fun _ => ⟨i, h3⟩⟩⟩
    · rcases hf.2.2 with q | q
      · omega
      · exact .inr q
    · have := v.cnt
      show S.D.pend.length + _ ≤ _
      have hdd : ({ S.frames[i] with pins := (S.frames[i]).pins + 1, ref := true } : Fr).dirty = (S.frames[i]).dirty := rfl
      rw [hdd] at hdn
      omega
  · obtain ⟨k1, k2, k3, k4, k5⟩ := lo_keeps v hN h1 h2 lo
    refine ⟨k1, k2, k3, k4, fun he => ?_, ?_⟩
    · rcases h3 with ⟨_, q, _⟩ | ⟨p, c, rfl, _⟩
      · exact absurd he q
      · rcases k5 with ⟨q, _⟩ | ⟨p', c', dd', q, hh, _⟩
        · cases q
        · simp only [Option.some.injEq, Prod.mk.injEq] at q
          obtain ⟨rfl, rfl, rfl⟩ := q
          refine ⟨n, rfl, h1, ?_⟩
          -- the page was on the disk: it holds there as well
          have hno := findF_none h2 (by omega)
          have hs : Holds S n (pg (cur S.D) n) := .inr ⟨hno, rfl⟩
          have := Holds.func k1 (k4 n _ h1 hs) hh
          rw [← this]; exact hs
    · rcases k5 with ⟨q1, q2, q3⟩ | ⟨p', c', dd', q, hh, hr, _, _, j, a, hn, hor⟩
      · refine .inl ⟨q3, by rw [q2], fun he => ?_⟩
        rcases h3 with ⟨_, q, _⟩ | ⟨p, c, z, _⟩
        · exact absurd he q
        · rw [q1] at z; cases z
      · refine .inr ⟨hr, ?_, h2, j, a, by rw [hn], ?_⟩
        · rcases h3 with ⟨z, _⟩ | ⟨_, _, _, he⟩
          · rw [z] at q; cases q
          · exact he
        · rcases hor with z | z
          · exact .inl z
          · exact .inr z.1
def upd' (c : Cl) : List Int := if c.kind = 1 then dat c.fill 1024 else dat c.fill c.n.toNat
/-- What any call does. -/
theorem call_keeps {S S' : Bp} {N : Nat} {c : Cl} {e : Int} {dd : List Int} (v : PIn S N) (hN : N + 1 ≤ 1000) (hcn : c.n ≤ 9223372036854775807) (cr : CallR S c S' e dd) :
    PIn S' (N + 1) ∧ S'.pages = S.pages ∧ S'.frames.length = S.frames.length ∧
    (∀ k d, k < S.pages → Holds S k d → ¬ ((c.kind = 1 ∨ c.kind = 6) ∧ e = 0 ∧ c.page = (k : Int)) → Holds S' k d) ∧
    ((c.kind = 1 ∨ c.kind = 6) → e = 0 → ∃ n : Nat, c.page = n ∧ n < S.pages ∧ (upd' c).length = 1024 ∧ Holds S' n (upd' c)) ∧
    (c.kind = 0 → e = 0 → ∃ n : Nat, c.page = n ∧ n < S.pages ∧ Holds S n dd) ∧
    ((S'.reads = S.reads ∧ S'.frames.map Fr.page = S.frames.map Fr.page ∧ (c.kind = 0 → e = 0 → ∃ i, findF c.page S.frames = some i)) ∨
     (c.kind = 0 ∧ S'.reads = S.reads + 1 ∧ e = 0 ∧ findF c.page S.frames = none ∧ ∃ j, ∃ a : Agr S.frames S'.frames j, (S'.frames[j]'(by rw [a.len]; exact a.jl)).page = c.page ∧ ((S.frames[j]'a.jl).page < 0 ∨ ∀ f ∈ S.frames, 0 ≤ f.page))) := by
  unfold CallR at cr
  by_cases c0 : c.kind = 0
  · rw [if_pos c0] at cr
    obtain ⟨k1, k2, k3, k4, k5, k6⟩ := pin_keeps v hN cr
    refine ⟨k1, k2, k3, fun k d hk q _ => k4 k d hk q, fun q => by omega, fun _ => k5, ?_⟩
    rcases k6 with ⟨q1, q2, q3⟩ | ⟨q1, q2, q3, q4⟩
    · exact .inl ⟨q1, q2, fun _ => q3⟩
    · exact .inr ⟨c0, q1, q2, q3, q4⟩
  rw [if_neg c0] at cr
  obtain ⟨rfl, cr⟩ := cr
  by_cases c1 : c.kind = 1
  · rw [if_pos c1] at cr
    have hud : upd' c = dat c.fill 1024 := if_pos c1
    obtain ⟨k1, k2, k3, k4, k5, k6⟩ := up_keeps v hN cr
    rw [hud]
    rcases k6 with ⟨q, rfl⟩ | ⟨rfl, h1, n, h2, h3, h4, h5⟩
    · exact ⟨k1, k2, k3, fun _ _ _ z _ => z, fun _ z => absurd z q, fun z => absurd z c0, .inl ⟨k4, k5, fun z => absurd z c0⟩⟩
    · exact ⟨k1, k2, k3, fun k d hk z hn => h5 k d (fun w => hn ⟨.inl c1, rfl, by rw [h2, w]⟩) z, fun _ _ => ⟨n, h2, h3, h1, h4⟩, fun z => absurd z c0, .inl ⟨k4, k5, fun z => absurd z c0⟩⟩
  rw [if_neg c1] at cr
  have nou : ∀ (hk6 : c.kind ≠ 6), (PIn S' (N + 1) ∧ S'.pages = S.pages ∧ S'.frames.length = S.frames.length ∧ S'.reads = S.reads ∧ S'.frames.map Fr.page = S.frames.map Fr.page ∧ (∀ k d, k < S.pages → Holds S k d → Holds S' k d)) → _ := fun hk6 q => (show PIn S' (N + 1) ∧ S'.pages = S.pages ∧ S'.frames.length = S.frames.length ∧
    (∀ k d, k < S.pages → Holds S k d → ¬ ((c.kind = 1 ∨ c.kind = 6) ∧ e = 0 ∧ c.page = (k : Int)) → Holds S' k d) ∧
    ((c.kind = 1 ∨ c.kind = 6) → e = 0 → ∃ n : Nat, c.page = n ∧ n < S.pages ∧ (upd' c).length = 1024 ∧ Holds S' n (upd' c)) ∧
    (c.kind = 0 → e = 0 → ∃ n : Nat, c.page = n ∧ n < S.pages ∧ Holds S n []) ∧
    ((S'.reads = S.reads ∧ S'.frames.map Fr.page = S.frames.map Fr.page ∧ (c.kind = 0 → e = 0 → ∃ i, findF c.page S.frames = some i)) ∨
     (c.kind = 0 ∧ S'.reads = S.reads + 1 ∧ e = 0 ∧ findF c.page S.frames = none ∧ ∃ j, ∃ a : Agr S.frames S'.frames j, (S'.frames[j]'(by rw [a.len]; exact a.jl)).page = c.page ∧ ((S.frames[j]'a.jl).page < 0 ∨ ∀ f ∈ S.frames, 0 ≤ f.page))) from
    ⟨q.1, q.2.1, q.2.2.1, fun k d hk z _ => q.2.2.2.2.2 k d hk z, fun z => by omega, fun z => absurd z c0, .inl ⟨q.2.2.2.1, q.2.2.2.2.1, fun z => absurd z c0⟩⟩)
  by_cases c2 : c.kind = 2
  · rw [if_pos c2] at cr
    obtain ⟨k1, k2, k3, k4, k5, k6⟩ := un_keeps v hN cr
    exact nou (by omega) ⟨k1, k2, k3, k4, k5, fun k d _ q => k6 k d q⟩
  rw [if_neg c2] at cr
  by_cases c3 : c.kind = 3
  · rw [if_pos c3] at cr
    obtain ⟨zs, _, hp, fl⟩ := cr
    obtain ⟨k1, k2, k3, k4, k5, k6⟩ := fl_keeps v (hp.nodup_iff.2 (lst_nodup v _)) (dirty_ex hp) fl
    exact nou (by omega) ⟨k1.mono (by omega) hN, k2, k3, k4, k5, k6⟩
  rw [if_neg c3] at cr
  by_cases c4 : c.kind = 4
  · rw [if_pos c4] at cr
    obtain ⟨rfl, rfl⟩ := cr
    have := (v.mono (Nat.le_succ N) hN).dsame (D1 := ⟨S.D.dur, S.D.pend, max c.n (-1), S.D.failed⟩) rfl rfl (by show max c.n (-1) ≤ _; omega)
    exact nou (by omega) ⟨this.1, rfl, rfl, rfl, rfl, fun k d _ q => (this.2 k d).1 q⟩
  rw [if_neg c4] at cr
  by_cases c5 : c.kind = 5
  · rw [if_pos c5] at cr
    obtain ⟨rfl, rfl⟩ := cr
    have hc : cur ⟨applyAll S.D.dur S.D.pend, [], -1, false⟩ = cur S.D := rfl
    refine nou (by omega) ⟨⟨?_, v.pages, v.fl, fun i hi => ?_, v.dis, by simp, ?_, by show (-1 : Int) ≤ _; decide, by have := v.reads; show 0 ≤ S.reads ∧ S.reads ≤ _; constructor <;> omega, v.hand, hN⟩, rfl, rfl, rfl, rfl, fun k d _ q => ?_⟩
    · exact v.cur_len
    · have := v.fr i hi
      exact ⟨this.1, by have := this.2.1; show (S.frames[i]).pins ≤ _; omega, this.2.2⟩
    · have := v.cnt
      show 0 + dirtyN S.frames ≤ _
      omega
    · exact q
  rw [if_neg c5] at cr
  by_cases c6 : c.kind = 6
  · rw [if_pos c6] at cr
    have hud : upd' c = dat c.fill c.n.toNat := if_neg c1
    obtain ⟨k1, k2, k3, k4, k5, k6⟩ := up_keeps v hN cr
    rw [hud]
    rcases k6 with ⟨q, rfl⟩ | ⟨rfl, h1, n, h2, h3, h4, h5⟩
    · exact ⟨k1, k2, k3, fun _ _ _ z _ => z, fun _ z => absurd z q, fun z => absurd z c0, .inl ⟨k4, k5, fun z => absurd z c0⟩⟩
    · exact ⟨k1, k2, k3, fun k d hk z hn => h5 k d (fun w => hn ⟨.inr c6, rfl, by rw [h2, w]⟩) z, fun _ _ => ⟨n, h2, h3, h1, h4⟩, fun z => absurd z c0, .inl ⟨k4, k5, fun z => absurd z c0⟩⟩
  · rw [if_neg c6] at cr
    obtain ⟨rfl, rfl⟩ := cr
    exact nou c6 ⟨v.mono (by omega) hN, rfl, rfl, rfl, rfl, fun _ _ _ q => q⟩
end Go.Proofs.YtmjfhckioaempaaA
