/- Words of this session: chapter 47: arguments of the laws, opened. -/
import Derived.Test.YtcaolnmpldbkjaaGreatPA
import Derived.Test.YtcaolnmpldbkjaaGreatPZ
namespace Go.Proofs.YtcaolnmpldbkjaaGreatA
open Go Go.Proofs Go.RowKit
set_option linter.unusedVariables false
@[reducible] def kVl : Kn := .cat (.int .i64) (.cat (.int .i64) .str)
@[reducible] def kVer : Kn := .cat (.cat (.int .i64) (.int .i64)) (.cat (.slice 3 32 kVl) (.cat (.int .i64) (.int .i64)))
@[reducible] def kOq : Kn := .cat (.int .u8) (.cat kVer (.int .i64))
@[reducible] def kCol : Kn := .cat .str (.int .i64)
@[reducible] def kTd : Kn := .cat (.int .i64) (.cat .str (.cat (.slice 2 24 kCol) (.cat (.slice 1 8 (.int .i64)) (.slice 3 48 (.cat (.int .i64) (.cat .str (.slice 1 8 (.int .i64))))))))
theorem vl_of {h : Heap} {r : List V} (q : Vw h kVl r) : ∃ y, r = Vl.enc y ∧ True := by
  obtain ⟨_, _, rfl, ⟨a, rfl, wa⟩, _, _, rfl, ⟨b, rfl, wb⟩, c, rfl, wc⟩ := q
  exact ⟨⟨a, b, c⟩, rfl, trivial⟩
theorem vers_of {h : Heap} {r : List V} (q : Vw h kVer r) : ∃ y, r = Ver.enc y ∧ VOK h y := by
  obtain ⟨_, _, rfl, ⟨_, _, rfl, ⟨a, rfl, wa⟩, b, rfl, wb⟩, _, _, rfl, hsl, _, _, rfl, ⟨x, rfl, wx⟩, y, rfl, wy⟩ := q
  obtain ⟨p, c, ys, rfl, hs, _⟩ := Vw.sl (by decide) Vl.enc (fun _ => True) (fun r => vl_of) hsl
  exact ⟨⟨a, b, p, some c, ys, x, y⟩, rfl, hs⟩
theorem oq_of {h : Heap} {r : List V} (q : Vw h kOq r) : ∃ y, r = Oq.enc y ∧ VOK h y.v := by
  obtain ⟨_, _, rfl, ⟨k, rfl, wk⟩, _, _, rfl, hv, n, rfl, wn⟩ := q
  obtain ⟨v, rfl, hv2⟩ := vers_of hv
  exact ⟨⟨k, v, n⟩, rfl, hv2⟩
theorem int_of {h : Heap} {r : List V} (q : Vw h (.int .i64) r) : ∃ y, r = ei y ∧ True := by
  obtain ⟨a, rfl, wa⟩ := q
  exact ⟨a, rfl, trivial⟩
theorem col_of {h : Heap} {r : List V} (q : Vw h kCol r) : ∃ y, r = Col.enc y ∧ True := by
  obtain ⟨_, _, rfl, ⟨a, rfl, wa⟩, b, rfl, wb⟩ := q
  exact ⟨⟨a, b⟩, rfl, trivial⟩
theorem td_of {h : Heap} {r : List V} (q : Vw h kTd r) : ∃ y, r = Td.enc y ∧ TdOK h y := by
  obtain ⟨_, _, rfl, ⟨a, rfl, wa⟩, _, _, rfl, ⟨b, rfl, wb⟩, _, _, rfl, hc, _, _, rfl, hk, ip, ic, rows, rfl, _⟩ := q
  obtain ⟨p, c, cols, rfl, hs, _⟩ := Vw.sl (by decide) Col.enc (fun _ => True) (fun r => col_of) hc
  obtain ⟨p2, c2, keys, rfl, hs2, _⟩ := Vw.sl (by decide) ei (fun _ => True) (fun r => int_of) hk
  exact ⟨⟨a, b, p, some c, cols, p2, some c2, keys, ip, rows.length, some ic⟩, rfl, hs, hs2⟩
theorem ArgV.vers {h : Heap} {v : V} (q : ArgV false (.slice 5 56 kVer) h v) : ∃ (p : Option (Nat × Nat)) (c : Nat) (ys : List Ver), v = .slice p ys.length (some c) ∧ Vers h p ys := by
  obtain ⟨p, c, ys, h1, h2, h3, _⟩ := q.sl (by decide) Ver.enc (VOK h) fun r => vers_of
  exact ⟨p, c, ys, h1, h2, h3⟩
theorem ArgV.oqs {h : Heap} {v : V} (q : ArgV false (.slice 7 72 kOq) h v) : ∃ (p : Option (Nat × Nat)) (c : Nat) (ys : List Oq), v = .slice p ys.length (some c) ∧ Oqs h p ys := by
  obtain ⟨p, c, ys, h1, h2, h3, _⟩ := q.sl (by decide) Oq.enc (fun o => VOK h o.v) fun r => oq_of
  exact ⟨p, c, ys, h1, h2, h3⟩
theorem ArgV.tds {h : Heap} {v : V} (q : ArgV false (.slice 5 96 kTd) h v) : ∃ (p : Option (Nat × Nat)) (c : Nat) (ys : List Td), v = .slice p ys.length (some c) ∧ Tds h p ys := by
  obtain ⟨p, c, ys, h1, h2, h3, _⟩ := q.sl (by decide) Td.enc (TdOK h) fun r => td_of
  exact ⟨p, c, ys, h1, h2, h3⟩
end Go.Proofs.YtcaolnmpldbkjaaGreatA
