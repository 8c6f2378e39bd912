/- Words of this session: chapter 47: the row of TransactionSnapshot. -/
import Derived.Test.YtcaolnmpldbkjaaPL
import Derived.Test.YtcaolnmpldbkjaaPO
namespace Go.Proofs.YtcaolnmpldbkjaaA
open Go Go.Proofs Go.RowKit
set_option linter.unusedVariables false
theorem rowSnap {h : Heap} (a0 a1 a2 a3 a4 : V) (v0 : ArgV false (.int .i64) h a0) (v1 : ArgV false (.slice 5 96 kTd) h a1) (v2 : ArgV false (.slice 7 72 kOq) h a2) (v3 : ArgV false (.slice 5 56 kVer) h a3) (v4 : ArgV false (.int .i64) h a4) :
    WR (callE Try.prog hk 3 [a0, a1, a2, a3, a4] h) fun r h' => r = .bool true := by
  obtain ⟨a, rfl, _⟩ := v0.int
  obtain ⟨p, c, ds, rfl, hs⟩ := v1.tds
  obtain ⟨q, d, os, rfl, ho⟩ := v2.oqs
  obtain ⟨r, e, ys, rfl, hv⟩ := v3.vers
  obtain ⟨b, rfl, _⟩ := v4.int
  exact snap_ok hs ho hv a b
end Go.Proofs.YtcaolnmpldbkjaaA
