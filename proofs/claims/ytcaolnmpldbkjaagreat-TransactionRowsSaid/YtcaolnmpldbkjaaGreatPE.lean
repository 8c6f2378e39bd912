/- Words of this session: chapter 47: Rows. -/
import Derived.Test.YtcaolnmpldbkjaaGreatPG
namespace Go.Proofs.YtcaolnmpldbkjaaGreatA
open Go Go.Proofs Go.RowKit
set_option linter.unusedVariables false
set_option linter.unusedSimpArgs false
set_option maxRecDepth 10000
set_option maxHeartbeats 4000000
theorem def_ok' {h : Heap} {ti : Nat} {snap : Int} {ds : List Td} {ops : List Lo} (t : TxR h ti snap ds ops) (table : Int) : WR (callE Tryz.prog hk 27 [.ptr (some (ti, 0)), .int .i64 table] h) fun r h' => Ext h h' ∧ ∃ d : Td, r = .tuple [.agg d.enc, .bool (ds.any fun d => decide (d.id = table))] := by
  refine (def_ok t table).mono ?_
  rintro r h' ⟨e, hd⟩
  refine ⟨e, ?_⟩
  rw [any_of_idx]
  unfold DefR at hd
  split at hd
  · rename_i i hi
    obtain ⟨_, rfl⟩ := hd
    rw [hi]
    exact ⟨_, rfl⟩
  · rename_i hi
    subst hd; rw [hi]
    exact ⟨⟨0, [], none, some 0, [], none, some 0, [], none, 0, some 0⟩, rfl⟩
theorem AddK.trans {a b c : Heap} {mb k7 : Nat} {o1 o2 o3 : Option Nat} (x : AddK a b mb k7 o1 o2) (y : AddK b c mb k7 o2 o3) : AddK a c mb k7 o1 o3 := by
  obtain ⟨x1, x2, x3⟩ := x
  obtain ⟨y1, y2, y3⟩ := y
  refine ⟨by omega, ?_, fun i hi h1 h2 h3 => ?_⟩
  · rcases y2 with rfl | ⟨k, rfl, z⟩
    · exact x2
    · exact .inr ⟨k, rfl, by omega⟩
  · rw [y3 i (by omega) h1 h2 ?_, x3 i hi h1 h2 h3]
    rcases x2 with rfl | ⟨k, rfl, z⟩
    · exact h3
    · intro q; cases q; omega
theorem foldl_take {α β : Type} {f : β → α → β} {l : List α} {i : Nat} {b : β} (hi : i < l.length) : (l.take (i + 1)).foldl f b = f ((l.take i).foldl f b) l[i] := by
  rw [List.take_succ_eq_append_getElem hi, List.foldl_append]; rfl
theorem rows_ok {h : Heap} {ti : Nat} {snap : Int} {ds : List Td} {ops : List Lo} (t : TxR h ti snap ds ops) (hB : ops.length ≤ 16) (hB2 : ∀ o ∈ ops, o.vals.length ≤ 100000) {p : Option (Nat × Nat)} {c : Option Nat} {ys : List Ver} (hs : Vers h p ys) (hC : ys.length ≤ 20) (hC2 : ∀ y ∈ ys, y.vals.length ≤ 100000) (table : Int) :
    WR (callE Tryz.prog hk 10 [.ptr (some (ti, 0)), .int .i64 table, .slice p ys.length c] h) fun r h' => Ext h h' ∧ ∃ p' c' zs, r = .slice p' zs.length c' ∧ Vers h' p' zs ∧ RowsR ds ops snap table ys zs := by
  obtain ⟨⟨dp, dc, lp, lc, hti, hds, hls⟩, hdo, hlo⟩ := id t
  have hn := hls.nil'
  have hsm := hls.small
  refine WR.call (hH := rfl) Tryz.func10 rfl (n := 62) rfl rfl (by simp) ?_
  obtain ⟨g, hg, g4, g7, gm, g8, ex, hgl⟩ : ∃ g, h ++ [O.cells [V.int .i64 table] .rw] ++ [O.cells [V.slice none 0 (some 0)] .rw] ++ [O.map [] 0] ++ [O.cells [V.map (some (h.length + 1 + 1))] .rw] = g ∧ g[h.length]? = some (O.cells [V.int .i64 table] .rw) ∧ g[h.length + 1]? = some (O.cells [V.slice none 0 (some 0)] .rw) ∧ g[h.length + 1 + 1]? = some (O.map [] 0) ∧ g[h.length + 1 + 1 + 1]? = some (O.cells [V.map (some (h.length + 1 + 1))] .rw) ∧ Ext h g ∧ g.length = h.length + 4 := ⟨_, rfl, by simp, by simp, (snoc_old _ (by simp)).trans (snoc_last _ (by simp)), snoc_last _ (by simp), (by (repeat (first | assumption | apply Ext.refl | apply Ext.app | (apply Ext.set <;> omega) | exact Ext.trans (by assumption) (by assumption) | (refine Ext.trans ?_ (by assumption))))), by simp⟩
  have hdf := def_ok' (t.ext ex) table
  simp -dsimp (disch := first | with_reducible assumption | omega | (intro h_; cases h_; done) | (simp only [LN] <;> omega) | (simp only [LF]; done) | (repeat (first | with_reducible assumption | apply Ext.refl | apply Ext.app | (apply Ext.set <;> omega) | (refine Ext.trans ?_ (by assumption))))) only [AX, TY, AD, mapPut, entsOf, oneV, builtinV, idsOf, mapId, touchB, Nat.reduceLT, Nat.reduceLeDiff, Nat.reduceEqDiff, Nat.reduceAdd, Nat.reduceMul, Int.reduceBEq, Int.reduceEq, Int.reduceNeg, Int.reduceLT, Int.reduceLE, Int.reduceAdd, Int.reduceSub, Int.reduceMul, Int.reduceToNat, Int.reduceGT, Nat.reduceBEq, Nat.reducePow, Nat.reduceGT, reduceCtorEq, ↓reduceIte, hg, loadN_fact g4]
  refine hdf.mono ?_
  rintro _ h1 ⟨e1, d, rfl⟩
  generalize hdb : (ds.any fun d => decide (d.id = table)) = db
  have ti1 := e1 _ _ (ex _ _ hti)
  have l1 := e1.le
  obtain ⟨h2, hh2, ex2, l2⟩ : ∃ h2, h1 ++ [O.cells d.enc .rw] = h2 ∧ Ext h1 h2 ∧ h2.length = h1.length + 1 := ⟨_, rfl, (by (repeat (first | assumption | apply Ext.refl | apply Ext.app | (apply Ext.set <;> omega) | exact Ext.trans (by assumption) (by assumption) | (refine Ext.trans ?_ (by assumption))))), by simp⟩
  have ti2 := ex2 _ _ ti1
  have hlv := live_ok (c := c) (hs.ext ((ex.trans e1).trans ex2)) (by omega) hC2 snap
  simp only [Td.enc] at hh2
  simp -dsimp (disch := first | with_reducible assumption | omega | (intro h_; cases h_; done) | (simp only [LN] <;> omega) | (simp only [LF]; done) | (repeat (first | with_reducible assumption | apply Ext.refl | apply Ext.app | (apply Ext.set <;> omega) | (refine Ext.trans ?_ (by assumption))))) only [AX, TY, AD, mapPut, entsOf, oneV, builtinV, idsOf, mapId, touchB, Nat.reduceLT, Nat.reduceLeDiff, Nat.reduceEqDiff, Nat.reduceAdd, Nat.reduceMul, Int.reduceBEq, Int.reduceEq, Int.reduceNeg, Int.reduceLT, Int.reduceLE, Int.reduceAdd, Int.reduceSub, Int.reduceMul, Int.reduceToNat, Int.reduceGT, Nat.reduceBEq, Nat.reducePow, Nat.reduceGT, reduceCtorEq, ↓reduceIte, Td.enc, hh2, loadN_fact ti2]
  refine hlv.mono ?_
  rintro _ h3 ⟨e3, p3, c3, ls, rfl, hv3, hk3, hl3, hf3, hp3⟩
  have ex23 := (ex.trans e1).trans ex2
  have l02 : h.length + 4 ≤ h2.length := by omega
  have l3 := e3.le
  have t3 := t.ext (ex23.trans e3)
  have eg3 : Ext g h3 := (e1.trans ex2).trans e3
  have hn3 := hv3.sl.nil'
  have hs3 := hv3.sl.small
  have ls20 : ls.length ≤ 20 := by omega
  have hlv3 : ∀ y ∈ ls, y.vals.length ≤ 100000 := fun y hy => by
    have : y.key ∈ (ys.filter fun v => sees v.cr v.dl snap).map Ver.key := by rw [← hk3]; exact List.mem_map_of_mem hy
    obtain ⟨z, hz, e⟩ := List.mem_map.1 this
    have h5 := hC2 z (List.mem_filter.1 hz).1
    have h6 : z.vals = y.vals := congrArg Key.vals e
    rw [← h6]; exact h5
  have at0 : AddAt h.length h3 h.length (h.length + 1 + 1 + 1) (h.length + 1 + 1) (h.length + 1) none table [] :=
    ⟨eg3 _ _ g4, eg3 _ _ g8, ⟨[], 0, eg3 _ _ gm, rfl⟩, ⟨none, some 0, eg3 _ _ g7, .nil _ _ _ _⟩, by simp, by simp, by omega⟩
  generalize hk4 : h.length = k4 at *
  generalize hk7 : k4 + 1 = k7 at *
  generalize hmb : k7 + 1 = mb at *
  generalize hk8 : mb + 1 = k8 at *
  obtain ⟨q1, hq1⟩ : ∃ q1 : Key → Bool, q1 = fun k => !db || !gone ops k.a k.b := ⟨_, rfl⟩
  simp -dsimp (disch := first | with_reducible assumption | omega | (intro h_; cases h_; done) | (simp only [LN] <;> omega) | (simp only [LF]; done) | (repeat (first | with_reducible assumption | apply Ext.refl | apply Ext.app | (apply Ext.set <;> omega) | (refine Ext.trans ?_ (by assumption))))) only [AX, TY, AD, mapPut, entsOf, oneV, builtinV, idsOf, mapId, touchB, Nat.reduceLT, Nat.reduceLeDiff, Nat.reduceEqDiff, Nat.reduceAdd, Nat.reduceMul, Int.reduceBEq, Int.reduceEq, Int.reduceNeg, Int.reduceLT, Int.reduceLE, Int.reduceAdd, Int.reduceSub, Int.reduceMul, Int.reduceToNat, Int.reduceGT, Nat.reduceBEq, Nat.reducePow, Nat.reduceGT, reduceCtorEq, ↓reduceIte]
  refine W.loop (fun m τ hh => ∃ (i : Nat) (zs : List Ver) (oid : Option Nat), m + i = ls.length ∧ τ 0 = .ptr (some (ti, 0)) ∧ τ 7 = .ptr (some (k7, 0)) ∧ τ 9 = .func 25 [] [.ptr (some (k4, 0)), .ptr (some (k8, 0)), .ptr (some (k7, 0))] ∧ τ 11 = .bool db ∧ τ 29 = .slice p3 ls.length c3 ∧ τ 30 = .int .i64 ls.length ∧ τ 31 = .int .i64 i ∧ AddAt k4 hh k4 k8 mb k7 oid table zs ∧ AddK h3 hh mb k7 none oid ∧ zs.map Ver.key = (((ls.map Ver.key).take i).filter q1).foldl (addK table) [] ∧ zs.length ≤ i) ?_ (m := ls.length) ?_
  rotate_left
  · refine ⟨0, [], none, by simp, ?_⟩
    have k0 : AddK h3 h3 mb k7 none none := .ext (.refl _)
    simp -dsimp (disch := first | with_reducible assumption | omega | (intro h_; cases h_; done) | (simp only [LN] <;> omega) | (simp only [LF]; done) | (repeat (first | with_reducible assumption | apply Ext.refl | apply Ext.app | (apply Ext.set <;> omega) | (refine Ext.trans ?_ (by assumption))))) only [AX, TY, AD, mapPut, entsOf, oneV, builtinV, idsOf, mapId, touchB, Nat.reduceLT, Nat.reduceLeDiff, Nat.reduceEqDiff, Nat.reduceAdd, Nat.reduceMul, Int.reduceBEq, Int.reduceEq, Int.reduceNeg, Int.reduceLT, Int.reduceLE, Int.reduceAdd, Int.reduceSub, Int.reduceMul, Int.reduceToNat, Int.reduceGT, Nat.reduceBEq, Nat.reducePow, Nat.reduceGT, reduceCtorEq, ↓reduceIte]
    repeat' (first | assumption | refine And.intro ?_ ?_)
    all_goals first | rfl | omega | (simp; done) | (simp; omega; done) | skip
  rintro m τ hh ⟨i, zs, oid, hm, t0, t7, t9, t11, t29, t30, t31, at1, ak, hkz, hle⟩
  have keep3 : ∀ a, a < h3.length → a ≠ mb → a ≠ k7 → hh[a]? = h3[a]? := fun a q1 q2 q3 => ak.2.2 a q1 q2 q3 (by simp)
  have lhh := ak.1
  have e0 : Ext h hh := Ext.of_keep fun a ha => by rw [keep3 a (by omega) (by omega) (by omega)]; exact (ex23.trans e3).same ha
  have tx1 := t.ext e0
  by_cases c1 : (i : Int) < (ls.length : Int)
  rotate_left
  · have hown := own_ok tx1 (by omega) hB2
    simp -dsimp (disch := first | with_reducible assumption | omega | (intro h_; cases h_; done) | (simp only [LN] <;> omega) | (simp only [LF]; done) | (repeat (first | with_reducible assumption | apply Ext.refl | apply Ext.app | (apply Ext.set <;> omega) | (refine Ext.trans ?_ (by assumption))))) only [AX, TY, AD, mapPut, entsOf, oneV, builtinV, idsOf, mapId, touchB, Nat.reduceLT, Nat.reduceLeDiff, Nat.reduceEqDiff, Nat.reduceAdd, Nat.reduceMul, Int.reduceBEq, Int.reduceEq, Int.reduceNeg, Int.reduceLT, Int.reduceLE, Int.reduceAdd, Int.reduceSub, Int.reduceMul, Int.reduceToNat, Int.reduceGT, Nat.reduceBEq, Nat.reducePow, Nat.reduceGT, reduceCtorEq, ↓reduceIte, t0, t7, t9, t11, t29, t30, t31, c1]
    refine hown.mono ?_
    rintro _ h6 ⟨e6, p6, c6, os, rfl, hv6, hk6, hs6, hf6, hp6, hl6⟩
    have hn6 := hv6.sl.nil'
    have hs6' := hv6.sl.small
    have l6 := e6.le
    have e06 : Ext h h6 := e0.trans e6
    have tx6 := t.ext e06
    have hlv6 : ∀ y ∈ os, y.vals.length ≤ 100000 := fun y hy => by
      have : y.key ∈ ownK ops := hk6.mem_iff.1 (List.mem_map_of_mem hy)
      unfold ownK at this
      obtain ⟨z, hz, e⟩ := List.mem_map.1 this
      have h5 := hB2 z (List.mem_filter.1 hz).1
      have h6 : z.vals = y.vals := congrArg Key.vals e
      rw [← h6]; exact h5
    have at6 := at1.ext e6
    have hol : ∀ k, oid = some k → k < hh.length := fun k q => by obtain ⟨_, _, gr⟩ := at1.c7; exact gr.2.lt q
    have hmk : ls.length ≤ i := by omega
    have hseen : zs.map Ver.key = (seenK ds ops snap table (ys.map Ver.key)).foldl (addK table) [] := by
      rw [hkz, List.take_of_length_le (by simpa using hmk), hk3, hq1, ← hdb]
      unfold seenK
      simp only [List.filter_map]
      rfl
    simp -dsimp (disch := first | with_reducible assumption | omega | (intro h_; cases h_; done) | (simp only [LN] <;> omega) | (simp only [LF]; done) | (repeat (first | with_reducible assumption | apply Ext.refl | apply Ext.app | (apply Ext.set <;> omega) | (refine Ext.trans ?_ (by assumption))))) only [AX, TY, AD, mapPut, entsOf, oneV, builtinV, idsOf, mapId, touchB, Nat.reduceLT, Nat.reduceLeDiff, Nat.reduceEqDiff, Nat.reduceAdd, Nat.reduceMul, Int.reduceBEq, Int.reduceEq, Int.reduceNeg, Int.reduceLT, Int.reduceLE, Int.reduceAdd, Int.reduceSub, Int.reduceMul, Int.reduceToNat, Int.reduceGT, Nat.reduceBEq, Nat.reducePow, Nat.reduceGT, reduceCtorEq, ↓reduceIte]
    refine W.loop (fun m τ h7 => ∃ (j : Nat) (ws : List Ver) (o7 : Option Nat), m + j = os.length ∧ τ 7 = .ptr (some (k7, 0)) ∧ τ 9 = .func 25 [] [.ptr (some (k4, 0)), .ptr (some (k8, 0)), .ptr (some (k7, 0))] ∧ τ 49 = .slice p6 os.length c6 ∧ τ 50 = .int .i64 os.length ∧ τ 51 = .int .i64 j ∧ AddAt k4 h7 k4 k8 mb k7 o7 table ws ∧ AddK h6 h7 mb k7 oid o7 ∧ ws.map Ver.key = ((os.map Ver.key).take j).foldl (addK table) (zs.map Ver.key) ∧ ws.length ≤ zs.length + j) ?_ (m := os.length) ?_
    rotate_left
    · refine ⟨0, zs, oid, by simp, ?_⟩
      have k0 : AddK h6 h6 mb k7 oid oid := .ext (.refl _)
      simp -dsimp (disch := first | with_reducible assumption | omega | (intro h_; cases h_; done) | (simp only [LN] <;> omega) | (simp only [LF]; done) | (repeat (first | with_reducible assumption | apply Ext.refl | apply Ext.app | (apply Ext.set <;> omega) | (refine Ext.trans ?_ (by assumption))))) only [AX, TY, AD, mapPut, entsOf, oneV, builtinV, idsOf, mapId, touchB, Nat.reduceLT, Nat.reduceLeDiff, Nat.reduceEqDiff, Nat.reduceAdd, Nat.reduceMul, Int.reduceBEq, Int.reduceEq, Int.reduceNeg, Int.reduceLT, Int.reduceLE, Int.reduceAdd, Int.reduceSub, Int.reduceMul, Int.reduceToNat, Int.reduceGT, Nat.reduceBEq, Nat.reducePow, Nat.reduceGT, reduceCtorEq, ↓reduceIte, t0, t7, t9, t11, t29, t30, t31]
      repeat' (first | assumption | refine And.intro ?_ ?_)
      all_goals first | rfl | omega | (simp; done) | (simp; omega; done) | skip
    rintro m2 τ2 h7 ⟨j, ws, o7, hm2, t7, t9, t49, t50, t51, at7, ak7, hk7', hle7⟩
    have keep6 : ∀ a, a < h6.length → a ≠ mb → a ≠ k7 → oid ≠ some a → h7[a]? = h6[a]? := fun a q1 q2 q3 q4 => ak7.2.2 a q1 q2 q3 q4
    have lh7 := ak7.1
    by_cases c2 : (j : Int) < (os.length : Int)
    rotate_left
    · obtain ⟨pz, cz, c77, gr7⟩ := at7.c7
      have hso := srtV_ok gr7 (by omega)
      have no7 := at7.no
      have hv7 := at7.val
      have lt7 := lt_of_some c77
      simp -dsimp (disch := first | with_reducible assumption | omega | (intro h_; cases h_; done) | (simp only [LN] <;> omega) | (simp only [LF]; done) | (repeat (first | with_reducible assumption | apply Ext.refl | apply Ext.app | (apply Ext.set <;> omega) | (refine Ext.trans ?_ (by assumption))))) only [AX, TY, AD, mapPut, entsOf, oneV, builtinV, idsOf, mapId, touchB, Nat.reduceLT, Nat.reduceLeDiff, Nat.reduceEqDiff, Nat.reduceAdd, Nat.reduceMul, Int.reduceBEq, Int.reduceEq, Int.reduceNeg, Int.reduceLT, Int.reduceLE, Int.reduceAdd, Int.reduceSub, Int.reduceMul, Int.reduceToNat, Int.reduceGT, Nat.reduceBEq, Nat.reducePow, Nat.reduceGT, reduceCtorEq, ↓reduceIte, t7, t9, t49, t50, t51, c2, loadN_fact c77]
      refine hso.mono ?_
      rintro r h8 ⟨us, hp8, hs8, gk8⟩
      have c78 := (gk8.fr k7 lt7 no7.2.2.2).trans c77
      have hul := hp8.length_eq
      simp -dsimp (disch := first | with_reducible assumption | omega | (intro h_; cases h_; done) | (simp only [LN] <;> omega) | (simp only [LF]; done) | (repeat (first | with_reducible assumption | apply Ext.refl | apply Ext.app | (apply Ext.set <;> omega) | (refine Ext.trans ?_ (by assumption))))) only [AX, TY, AD, mapPut, entsOf, oneV, builtinV, idsOf, mapId, touchB, Nat.reduceLT, Nat.reduceLeDiff, Nat.reduceEqDiff, Nat.reduceAdd, Nat.reduceMul, Int.reduceBEq, Int.reduceEq, Int.reduceNeg, Int.reduceLT, Int.reduceLE, Int.reduceAdd, Int.reduceSub, Int.reduceMul, Int.reduceToNat, Int.reduceGT, Nat.reduceBEq, Nat.reducePow, Nat.reduceGT, reduceCtorEq, ↓reduceIte, t7, loadN_fact c78]
      refine ⟨Ext.of_keep fun a ha => ?_, pz, cz, us, by rw [hul], ⟨gk8.gr.sl, fun y hy => ?_⟩, os.map Ver.key, hk6, ?_, hs8⟩
      · have f1 : oid ≠ some a := fun q => by
          rcases ak.2.1 with z | ⟨k, z, z2⟩
          · rw [z] at q; cases q
          · rw [z] at q; cases q; omega
        have f2 : o7 ≠ some a := fun q => by
          rcases ak7.2.1 with z | ⟨k, z, z2⟩
          · rw [z] at q; exact f1 q
          · rw [z] at q; cases q; omega
        rw [gk8.fr a (by omega) f2, keep6 a (by omega) (by omega) (by omega) f1]
        exact e06.same (by omega)
      · obtain ⟨u1, u2⟩ := hv7 y (hp8.mem_iff.1 hy)
        exact Sl.keep u1 fun a o z => gk8.fr a (Sl.lt u1 z) (u2 a o z).2.2
      · refine (hp8.map Ver.key).trans ?_
        rw [hk7', List.take_of_length_le (by simp; omega), List.foldl_append, hseen]
    have hj : j < os.length := by omega
    have hom := List.getElem_mem hj
    have fz : ∀ a, hh.length ≤ a → a ≠ mb ∧ a ≠ k7 ∧ oid ≠ some a := fun a ha => ⟨by omega, by omega, fun q => by have := hol a q; omega⟩
    have slv : Sl h7 p6 5 Ver.enc os := Sl.keep hv6.sl fun a o z => by
      obtain ⟨f1, f2, f3⟩ := fz a (hp6 a o z)
      exact keep6 a (hv6.sl.lt z) f1 f2 f3
    have hla := slv.load0 (.refl _) hj (m := 5) (by decide)
    have tk : ∀ x : Ver, x.enc.take 5 = x.enc := fun _ => rfl
    rw [tk] at hla
    have hvx : VOK h7 os[j] := Sl.keep (hv6.ok _ hom) fun a o z => by
      obtain ⟨f1, f2, f3⟩ := fz a (hf6 _ hom a o z)
      exact keep6 a (Sl.lt (hv6.ok _ hom) z) f1 f2 f3
    have hfx := hf6 _ hom
    have hvl := hlv6 _ hom
    have htk : ((os.map Ver.key).take (j + 1)).foldl (addK table) (zs.map Ver.key) = addK table (ws.map Ver.key) os[j].key := by
      rw [foldl_take (by simpa using hj), hk7', List.getElem_map]
    generalize hx : os[j] = x at hla hvx hfx hvl htk
    obtain ⟨g', hg', gx, ex', hgl'⟩ : ∃ g', h7 ++ [O.cells x.enc .rw] = g' ∧ g'[h7.length]? = some (O.cells x.enc .rw) ∧ Ext h7 g' ∧ g'.length = h7.length + 1 := ⟨_, rfl, by simp, (by (repeat (first | assumption | apply Ext.refl | apply Ext.app | (apply Ext.set <;> omega) | exact Ext.trans (by assumption) (by assumption) | (refine Ext.trans ?_ (by assumption))))), by simp⟩
    have hadd := add_ok (at7.ext ex') (by omega) (by omega) x (Sl.ext hvx ex') hvl fun a o z => ⟨(fz a (hfx a o z)).2.1, (fz a (hfx a o z)).1⟩
    simp only [Ver.enc] at hla hg' gx hadd
    simp -dsimp (disch := first | with_reducible assumption | omega | (intro h_; cases h_; done) | (simp only [LN] <;> omega) | (simp only [LF]; done) | (repeat (first | with_reducible assumption | apply Ext.refl | apply Ext.app | (apply Ext.set <;> omega) | (refine Ext.trans ?_ (by assumption))))) only [AX, TY, AD, mapPut, entsOf, oneV, builtinV, idsOf, mapId, touchB, Nat.reduceLT, Nat.reduceLeDiff, Nat.reduceEqDiff, Nat.reduceAdd, Nat.reduceMul, Int.reduceBEq, Int.reduceEq, Int.reduceNeg, Int.reduceLT, Int.reduceLE, Int.reduceAdd, Int.reduceSub, Int.reduceMul, Int.reduceToNat, Int.reduceGT, Nat.reduceBEq, Nat.reducePow, Nat.reduceGT, reduceCtorEq, ↓reduceIte, t7, t9, t49, t50, t51, c2, hla, hg', loadN_fact gx]
    refine hadd.mono ?_
    rintro r h8 ⟨zs', oid', b1, b2, b3, b4⟩
    have b5 : AddK h7 g' mb k7 o7 o7 := AddK.ext ex'
    have b6 := ak7.trans (b5.trans b4)
    have b7 := b2.trans htk.symm
    have b8 : zs'.length ≤ zs.length + (j + 1) := by omega
    simp -dsimp (disch := first | with_reducible assumption | omega | (intro h_; cases h_; done) | (simp only [LN] <;> omega) | (simp only [LF]; done) | (repeat (first | with_reducible assumption | apply Ext.refl | apply Ext.app | (apply Ext.set <;> omega) | (refine Ext.trans ?_ (by assumption))))) only [AX, TY, AD, mapPut, entsOf, oneV, builtinV, idsOf, mapId, touchB, Nat.reduceLT, Nat.reduceLeDiff, Nat.reduceEqDiff, Nat.reduceAdd, Nat.reduceMul, Int.reduceBEq, Int.reduceEq, Int.reduceNeg, Int.reduceLT, Int.reduceLE, Int.reduceAdd, Int.reduceSub, Int.reduceMul, Int.reduceToNat, Int.reduceGT, Nat.reduceBEq, Nat.reducePow, Nat.reduceGT, reduceCtorEq, ↓reduceIte, t7, t9, t49, t50, t51, wrap_in]
    refine ⟨m2 - 1, by omega, j + 1, zs', oid', ?_⟩
    repeat' (first | assumption | refine And.intro ?_ ?_)
    all_goals first | rfl | omega | (simp; done) | (simp; omega; done) | skip
  have hi : i < ls.length := by omega
  have hom := List.getElem_mem hi
  have slv : Sl hh p3 5 Ver.enc ls := Sl.keep hv3.sl fun a o z => keep3 a (hv3.sl.lt z) (by have := hp3 a o z; omega) (by have := hp3 a o z; omega)
  have hla := slv.load0 (.refl _) hi (m := 5) (by decide)
  have tk : ∀ x : Ver, x.enc.take 5 = x.enc := fun _ => rfl
  rw [tk] at hla
  have hvx : VOK hh ls[i] := Sl.keep (hv3.ok _ hom) fun a o z => keep3 a (Sl.lt (hv3.ok _ hom) z) (by have := hf3 _ hom a o z; omega) (by have := hf3 _ hom a o z; omega)
  have hfx := hf3 _ hom
  have hvl := hlv3 _ hom
  have htk : (((ls.map Ver.key).take (i + 1)).filter q1).foldl (addK table) [] = if q1 ls[i].key then addK table (zs.map Ver.key) ls[i].key else zs.map Ver.key := by
    rw [hkz, List.take_succ_eq_append_getElem (by simpa using hi), List.filter_append, List.foldl_append, List.getElem_map, filter_one]
    split <;> rfl
  generalize hx : ls[i] = x at hla hvx hfx hvl htk
  have hqx : q1 x.key = (!db || !gone ops x.a x.b) := by rw [hq1]; rfl
  obtain ⟨g', hg', gx, ex', hgl'⟩ : ∃ g', hh ++ [O.cells x.enc .rw] = g' ∧ g'[hh.length]? = some (O.cells x.enc .rw) ∧ Ext hh g' ∧ g'.length = hh.length + 1 := ⟨_, rfl, by simp, (by (repeat (first | assumption | apply Ext.refl | apply Ext.app | (apply Ext.set <;> omega) | exact Ext.trans (by assumption) (by assumption) | (refine Ext.trans ?_ (by assumption))))), by simp⟩
  have hhas := has_ok (tx1.ext ex') x.a x.b del_is
  have hgo : (ops.any fun o => decide (o.a = x.a ∧ o.b = x.b) && o.del) = gone ops x.a x.b := rfl
  rw [hgo] at hhas
  have hadd : ∀ hq, Ext g' hq → WR (callE Tryz.prog hk 25 [.agg x.enc, .ptr (some (k4, 0)), .ptr (some (k8, 0)), .ptr (some (k7, 0))] hq) fun r h' => ∃ zs' oid', AddAt k4 h' k4 k8 mb k7 oid' table zs' ∧ zs'.map Ver.key = addK table (zs.map Ver.key) x.key ∧ zs'.length ≤ zs.length + 1 ∧ AddK hh h' mb k7 oid oid' := fun hq eq => by
    refine (add_ok (at1.ext (ex'.trans eq)) (by have := eq.le; omega) (by omega) x (Sl.ext hvx (ex'.trans eq)) hvl fun a o z => by have := hfx a o z; omega).mono ?_
    rintro r h' ⟨zs', oid', b1, b2, b3, b4⟩
    have b5 : AddK hh hq mb k7 oid oid := AddK.ext (ex'.trans eq)
    exact ⟨zs', oid', b1, b2, b3, b5.trans b4⟩
  simp only [Ver.enc] at hla hg' gx hadd
  cases hd : db
  · rw [hd] at t11 hqx
    rw [hqx] at htk
    simp -dsimp (disch := first | with_reducible assumption | omega | (intro h_; cases h_; done) | (simp only [LN] <;> omega) | (simp only [LF]; done) | (repeat (first | with_reducible assumption | apply Ext.refl | apply Ext.app | (apply Ext.set <;> omega) | (refine Ext.trans ?_ (by assumption))))) only [AX, TY, AD, mapPut, entsOf, oneV, builtinV, idsOf, mapId, touchB, Nat.reduceLT, Nat.reduceLeDiff, Nat.reduceEqDiff, Nat.reduceAdd, Nat.reduceMul, Int.reduceBEq, Int.reduceEq, Int.reduceNeg, Int.reduceLT, Int.reduceLE, Int.reduceAdd, Int.reduceSub, Int.reduceMul, Int.reduceToNat, Int.reduceGT, Nat.reduceBEq, Nat.reducePow, Nat.reduceGT, reduceCtorEq, ↓reduceIte, t0, t7, t9, t11, t29, t30, t31, c1, hla, hg', loadN_fact gx]
    refine (hadd g' (.refl _)).mono ?_
    rintro r h5 ⟨zs', oid', b1, b2, b3, b4⟩
    have b6 := ak.trans b4
    have b7 := b2.trans htk.symm
    have b8 : zs'.length ≤ i + 1 := by omega
    simp -dsimp (disch := first | with_reducible assumption | omega | (intro h_; cases h_; done) | (simp only [LN] <;> omega) | (simp only [LF]; done) | (repeat (first | with_reducible assumption | apply Ext.refl | apply Ext.app | (apply Ext.set <;> omega) | (refine Ext.trans ?_ (by assumption))))) only [AX, TY, AD, mapPut, entsOf, oneV, builtinV, idsOf, mapId, touchB, Nat.reduceLT, Nat.reduceLeDiff, Nat.reduceEqDiff, Nat.reduceAdd, Nat.reduceMul, Int.reduceBEq, Int.reduceEq, Int.reduceNeg, Int.reduceLT, Int.reduceLE, Int.reduceAdd, Int.reduceSub, Int.reduceMul, Int.reduceToNat, Int.reduceGT, Nat.reduceBEq, Nat.reducePow, Nat.reduceGT, reduceCtorEq, ↓reduceIte, t0, t7, t9, t11, t29, t30, t31, wrap_in]
    refine ⟨m - 1, by omega, i + 1, zs', oid', ?_⟩
    repeat' (first | assumption | refine And.intro ?_ ?_)
    all_goals first | rfl | omega | (simp; done) | (simp; omega; done) | skip
  rw [hd] at t11 hqx
  simp -dsimp (disch := first | with_reducible assumption | omega | (intro h_; cases h_; done) | (simp only [LN] <;> omega) | (simp only [LF]; done) | (repeat (first | with_reducible assumption | apply Ext.refl | apply Ext.app | (apply Ext.set <;> omega) | (refine Ext.trans ?_ (by assumption))))) only [AX, TY, AD, mapPut, entsOf, oneV, builtinV, idsOf, mapId, touchB, Nat.reduceLT, Nat.reduceLeDiff, Nat.reduceEqDiff, Nat.reduceAdd, Nat.reduceMul, Int.reduceBEq, Int.reduceEq, Int.reduceNeg, Int.reduceLT, Int.reduceLE, Int.reduceAdd, Int.reduceSub, Int.reduceMul, Int.reduceToNat, Int.reduceGT, Nat.reduceBEq, Nat.reducePow, Nat.reduceGT, reduceCtorEq, ↓reduceIte, t0, t7, t9, t11, t29, t30, t31, c1, hla, hg', loadN_fact gx]
  refine hhas.mono ?_
  rintro _ h4 ⟨e4, rfl⟩
  have gx4 := e4 _ _ gx
  cases hgn : gone ops x.a x.b
  rotate_left
  · rw [hgn] at hqx
    rw [hqx] at htk
    have b6 := ak.trans (AddK.ext (mb := mb) (k7 := k7) (oid := oid) (ex'.trans e4))
    have b5 := at1.ext (ex'.trans e4)
    have b7 := htk.symm
    have b8 : zs.length ≤ i + 1 := by omega
    simp -dsimp (disch := first | with_reducible assumption | omega | (intro h_; cases h_; done) | (simp only [LN] <;> omega) | (simp only [LF]; done) | (repeat (first | with_reducible assumption | apply Ext.refl | apply Ext.app | (apply Ext.set <;> omega) | (refine Ext.trans ?_ (by assumption))))) only [AX, TY, AD, mapPut, entsOf, oneV, builtinV, idsOf, mapId, touchB, Nat.reduceLT, Nat.reduceLeDiff, Nat.reduceEqDiff, Nat.reduceAdd, Nat.reduceMul, Int.reduceBEq, Int.reduceEq, Int.reduceNeg, Int.reduceLT, Int.reduceLE, Int.reduceAdd, Int.reduceSub, Int.reduceMul, Int.reduceToNat, Int.reduceGT, Nat.reduceBEq, Nat.reducePow, Nat.reduceGT, reduceCtorEq, ↓reduceIte, t0, t7, t9, t11, t29, t30, t31, wrap_in]
    refine ⟨m - 1, by omega, i + 1, zs, oid, ?_⟩
    repeat' (first | assumption | refine And.intro ?_ ?_)
    all_goals first | rfl | omega | (simp; done) | (simp; omega; done) | skip
  rw [hgn] at hqx
  rw [hqx] at htk
  simp -dsimp (disch := first | with_reducible assumption | omega | (intro h_; cases h_; done) | (simp only [LN] <;> omega) | (simp only [LF]; done) | (repeat (first | with_reducible assumption | apply Ext.refl | apply Ext.app | (apply Ext.set <;> omega) | (refine Ext.trans ?_ (by assumption))))) only [AX, TY, AD, mapPut, entsOf, oneV, builtinV, idsOf, mapId, touchB, Nat.reduceLT, Nat.reduceLeDiff, Nat.reduceEqDiff, Nat.reduceAdd, Nat.reduceMul, Int.reduceBEq, Int.reduceEq, Int.reduceNeg, Int.reduceLT, Int.reduceLE, Int.reduceAdd, Int.reduceSub, Int.reduceMul, Int.reduceToNat, Int.reduceGT, Nat.reduceBEq, Nat.reducePow, Nat.reduceGT, reduceCtorEq, ↓reduceIte, t0, t7, t9, t11, t29, t30, t31, loadN_fact gx4]
  refine (hadd h4 e4).mono ?_
  rintro r h5 ⟨zs', oid', b1, b2, b3, b4⟩
  have b6 := ak.trans b4
  have b7 := b2.trans htk.symm
  have b8 : zs'.length ≤ i + 1 := by omega
  simp -dsimp (disch := first | with_reducible assumption | omega | (intro h_; cases h_; done) | (simp only [LN] <;> omega) | (simp only [LF]; done) | (repeat (first | with_reducible assumption | apply Ext.refl | apply Ext.app | (apply Ext.set <;> omega) | (refine Ext.trans ?_ (by assumption))))) only [AX, TY, AD, mapPut, entsOf, oneV, builtinV, idsOf, mapId, touchB, Nat.reduceLT, Nat.reduceLeDiff, Nat.reduceEqDiff, Nat.reduceAdd, Nat.reduceMul, Int.reduceBEq, Int.reduceEq, Int.reduceNeg, Int.reduceLT, Int.reduceLE, Int.reduceAdd, Int.reduceSub, Int.reduceMul, Int.reduceToNat, Int.reduceGT, Nat.reduceBEq, Nat.reducePow, Nat.reduceGT, reduceCtorEq, ↓reduceIte, t0, t7, t9, t11, t29, t30, t31, wrap_in]
  refine ⟨m - 1, by omega, i + 1, zs', oid', ?_⟩
  repeat' (first | assumption | refine And.intro ?_ ?_)
  all_goals first | rfl | omega | (simp; done) | (simp; omega; done) | skip
end Go.Proofs.YtcaolnmpldbkjaaGreatA
