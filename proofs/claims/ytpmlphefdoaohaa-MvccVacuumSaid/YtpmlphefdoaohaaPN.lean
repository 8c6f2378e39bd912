/- Words of this session: chapter 22: rows of the laws of a clock and of versions. -/
import Derived.Test.YtpmlphefdoaohaaPM
import Derived.Test.YtpmlphefdoaohaaPK
namespace Go.Proofs.YtpmlphefdoaohaaA
open Go Go.Proofs Go.RowKit
set_option linter.unusedVariables false
@[reducible] def kVl : Kn := .cat (.int .i64) (.cat (.int .i64) .str)
@[reducible] def kVer : Kn := .cat (.cat (.int .i64) (.int .i64)) (.cat (.slice 3 32 kVl) (.cat (.int .i64) (.int .i64)))
@[reducible] def kOp : Kn := .cat (.int .u8) (.int .i64)
theorem vl_of {h : Heap} {r : List V} (q : Vw h kVl r) : ∃ y, r = Vl.enc y ∧ True := by
  obtain ⟨_, _, rfl, ⟨a, rfl, wa⟩, _, _, rfl, ⟨b, rfl, wb⟩, c, rfl, wc⟩ := q
  exact ⟨⟨a, b, c⟩, rfl, trivial⟩
theorem vers_of {h : Heap} {r : List V} (q : Vw h kVer r) : ∃ y, r = Ver.enc y ∧ VOK h y := by
  obtain ⟨_, _, rfl, ⟨_, _, rfl, ⟨a, rfl, wa⟩, b, rfl, wb⟩, _, _, rfl, hsl, _, _, rfl, ⟨x, rfl, wx⟩, y, rfl, wy⟩ := q
  obtain ⟨p, c, ys, rfl, hs, _⟩ := Vw.sl (by decide) Vl.enc (fun _ => True) (fun r => vl_of) hsl
  exact ⟨⟨a, b, p, some c, ys, x, y⟩, rfl, hs⟩
theorem op_of {h : Heap} {r : List V} (q : Vw h kOp r) : ∃ y, r = Opn'.enc y ∧ True := by
  obtain ⟨_, _, rfl, ⟨a, rfl, wa⟩, b, rfl, wb⟩ := q
  exact ⟨⟨a, b⟩, rfl, trivial⟩
theorem b_of {h : Heap} {r : List V} (q : Vw h .bool r) : ∃ y, r = eB y ∧ True := by
  obtain ⟨b, rfl⟩ := q
  exact ⟨b, rfl, trivial⟩
theorem ArgV.vers {h : Heap} {v : V} (q : ArgV false (.slice 5 56 kVer) h v) : ∃ (p : Option (Nat × Nat)) (c : Nat) (ys : List Ver), v = .slice p ys.length (some c) ∧ Vers h p ys := by
  obtain ⟨p, c, ys, h1, h2, h3, _⟩ := q.sl (by decide) Ver.enc (VOK h) fun r => vers_of
  exact ⟨p, c, ys, h1, h2, h3⟩
theorem ArgV.ops {h : Heap} {v : V} (q : ArgV false (.slice 2 16 kOp) h v) : ∃ (p : Option (Nat × Nat)) (c : Nat) (ys : List Opn'), v = .slice p ys.length (some c) ∧ Sl h p 2 Opn'.enc ys := by
  obtain ⟨p, c, ys, h1, h2, h3, _⟩ := q.sl (by decide) Opn'.enc (fun _ => True) fun r => op_of
  exact ⟨p, c, ys, h1, h2⟩
theorem ArgV.bs {h : Heap} {v : V} (q : ArgV false (.slice 1 1 .bool) h v) : ∃ (p : Option (Nat × Nat)) (c : Nat) (ys : List Bool), v = .slice p ys.length (some c) ∧ Sl h p 1 eB ys := by
  obtain ⟨p, c, ys, h1, h2, h3, _⟩ := q.sl (by decide) eB (fun _ => True) fun r => b_of
  exact ⟨p, c, ys, h1, h2⟩
theorem row4 {h : Heap} (a0 a1 : V) (v0 : ArgV false (.int .i64) h a0) (v1 : ArgV false (.slice 2 16 kOp) h a1) : WR (callE Try.prog hk 4 [a0, a1] h) fun r h' => r = .bool true := by
  obtain ⟨a, rfl, _⟩ := v0.int
  obtain ⟨p, c, ys, rfl, hs⟩ := v1.ops
  exact law4_ok hs a
theorem row5 {h : Heap} (a0 a1 a2 a3 : V) (v0 : ArgV false (.slice 5 56 kVer) h a0) (v1 : ArgV false (.int .i64) h a1) (v2 : ArgV false (.int .i64) h a2) (v3 : ArgV false (.slice 1 1 .bool) h a3) : WR (callE Try.prog hk 5 [a0, a1, a2, a3] h) fun r h' => r = .bool true := by
  obtain ⟨p, c, ys, rfl, hs⟩ := v0.vers
  obtain ⟨a, rfl, _⟩ := v1.int
  obtain ⟨b, rfl, _⟩ := v2.int
  obtain ⟨pm, cm, ms, rfl, hm⟩ := v3.bs
  exact law5_ok hs hm a b
theorem row6 {h : Heap} (a0 a1 a2 a3 : V) (v0 : ArgV false (.int .i64) h a0) (v1 : ArgV false (.slice 2 16 kOp) h a1) (v2 : ArgV false (.slice 5 56 kVer) h a2) (v3 : ArgV false (.int .i64) h a3) : WR (callE Try.prog hk 6 [a0, a1, a2, a3] h) fun r h' => r = .bool true := by
  obtain ⟨a, rfl, _⟩ := v0.int
  obtain ⟨p, c, ops, rfl, hs⟩ := v1.ops
  obtain ⟨q, d, ys, rfl, hv⟩ := v2.vers
  obtain ⟨b, rfl, _⟩ := v3.int
  exact law6_ok hs hv a b
end Go.Proofs.YtpmlphefdoaohaaA
