/- Words of this session: chapter 16: rows of BufferpoolNews, BufferpoolReads. -/
import Derived.Test.YtmjfhckioaempaaPV
namespace Go.Proofs.YtmjfhckioaempaaA
open Go Go.Proofs Go.RowKit
set_option linter.unusedVariables false
@[reducible] def kCl : Kn := .cat (.int .i64) (.cat (.int .i64) (.cat (.int .i64) (.int .u8)))
def ClOk (c : Cl) : Prop := c.n ≤ 9223372036854775807 ∧ 0 ≤ c.fill ∧ c.fill ≤ 255
theorem cl_of {h : Heap} {r : List V} (q : Vw h kCl r) : ∃ y, r = Cl.enc y ∧ ClOk y := by
  obtain ⟨_, _, rfl, ⟨a, rfl, wa⟩, _, _, rfl, ⟨b, rfl, wb⟩, _, _, rfl, ⟨c, rfl, wc⟩, d, rfl, wd⟩ := q
  exact ⟨⟨a, b, c, d⟩, rfl, (wf_i64 wc).2, wf_u8 wd⟩
theorem ArgV.cls {h : Heap} {v : V} (q : ArgV false (.slice 4 32 kCl) h v) : ∃ (p : Option (Nat × Nat)) (c : Nat) (ys : List Cl), v = .slice p ys.length (some c) ∧ Sl h p 4 Cl.enc ys ∧ ∀ y ∈ ys, ClOk y := by
  obtain ⟨p, c, ys, h1, h2, h3, _⟩ := q.sl (by decide) Cl.enc ClOk fun r => cl_of
  exact ⟨p, c, ys, h1, h2, h3⟩
theorem row3 {h : Heap} (a0 : V) (v0 : ArgV false (.int .i64) h a0) : WR (callE Try.prog hk 3 [a0] h) fun r h' => r = .bool true := by
  obtain ⟨a, rfl, _⟩ := v0.int
  exact law3_ok a
theorem row5 {h : Heap} (a0 a1 a2 : V) (v0 : ArgV false (.int .i64) h a0) (v1 : ArgV false (.int .i64) h a1) (v2 : ArgV false (.slice 4 32 kCl) h a2) : WR (callE Try.prog hk 5 [a0, a1, a2] h) fun r h' => r = .bool true := by
  obtain ⟨a, rfl, _⟩ := v0.int
  obtain ⟨b, rfl, _⟩ := v1.int
  obtain ⟨p, c, l, rfl, hs, hc⟩ := v2.cls
  exact law5_ok hs (fun c hc' => (hc c hc').1) a b
end Go.Proofs.YtmjfhckioaempaaA
