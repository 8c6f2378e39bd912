/- Words of this session: chapter 16: rows of BufferpoolContents, BufferpoolSurvives. -/
import Derived.Test.YtmjfhckioaempaaPZ
import Derived.Test.YtmjfhckioaempaaPX
namespace Go.Proofs.YtmjfhckioaempaaA
open Go Go.Proofs Go.RowKit
set_option linter.unusedVariables false
theorem row4 {h : Heap} (a0 a1 a2 : V) (v0 : ArgV false (.int .i64) h a0) (v1 : ArgV false (.int .i64) h a1) (v2 : ArgV false (.slice 4 32 kCl) h a2) : WR (callE Try.prog hk 4 [a0, a1, a2] h) fun r h' => r = .bool true := by
  obtain ⟨a, rfl, _⟩ := v0.int
  obtain ⟨b, rfl, _⟩ := v1.int
  obtain ⟨p, c, l, rfl, hs, hc⟩ := v2.cls
  exact law4_ok hs (fun c hc' => (hc c hc').1) a b
theorem row9 {h : Heap} (a0 a1 a2 a3 : V) (v0 : ArgV false (.int .i64) h a0) (v1 : ArgV false (.int .i64) h a1) (v2 : ArgV false (.slice 4 32 kCl) h a2) (v3 : ArgV false (.int .i64) h a3) : WR (callE Try.prog hk 9 [a0, a1, a2, a3] h) fun r h' => r = .bool true := by
  obtain ⟨a, rfl, _⟩ := v0.int
  obtain ⟨b, rfl, _⟩ := v1.int
  obtain ⟨p, c, l, rfl, hs, hc⟩ := v2.cls
  obtain ⟨f, rfl, wf⟩ := v3.int
  exact law9_ok hs (fun c hc' => (hc c hc').1) a b f (wf_i64 wf).2
end Go.Proofs.YtmjfhckioaempaaA
