/- Words of this session: chapter 22: arguments of the laws as versions. -/
import Derived.Test.YtpmlphefdoaohaaPF
namespace Go.Proofs.YtpmlphefdoaohaaA
open Go Go.Proofs Go.RowKit
set_option linter.unusedVariables false
@[reducible] def kVl : Kn := .cat (.int .i64) (.cat (.int .i64) .str)
@[reducible] def kVer : Kn := .cat (.cat (.int .i64) (.int .i64)) (.cat (.slice 3 32 kVl) (.cat (.int .i64) (.int .i64)))
theorem ver_of {h : Heap} {r : List V} (q : Vw h kVer r) : ∃ i i2 p n cc c d, r = [.int .i64 i, .int .i64 i2, .slice p n cc, .int .i64 c, .int .i64 d] := by
  obtain ⟨_, _, rfl, ⟨_, _, rfl, ⟨a, rfl, wa⟩, b, rfl, wb⟩, _, _, rfl, ⟨p, c, rows, rfl, _⟩, _, _, rfl, ⟨x, rfl, wx⟩, y, rfl, wy⟩ := q
  exact ⟨a, b, p, _, _, x, y, rfl⟩
theorem row3 {h : Heap} (a0 a1 a2 a3 : V) (v0 : ArgV true kVer h a0) (v1 : ArgV false (.int .i64) h a1) (v2 : ArgV false (.int .i64) h a2) (v3 : ArgV false (.int .i64) h a3) : WR (callE Try.prog hk 3 [a0, a1, a2, a3] h) fun r h' => r = .bool true := by
  obtain ⟨vs, rfl, q⟩ := v0
  obtain ⟨i, i2, p, n, cc, c, d, rfl⟩ := ver_of q
  obtain ⟨x, rfl, _⟩ := v1.int
  obtain ⟨y, rfl, _⟩ := v2.int
  obtain ⟨z, rfl, _⟩ := v3.int
  exact interval_ok c d x y z
end Go.Proofs.YtpmlphefdoaohaaA
