/- Words of this session: chapter 7: what is told by hand is sound; arguments as entries. -/
import Derived.Test.YtagebnmealiedaaQA
import Derived.Test.YtagebnmealiedaaAx29
namespace Go.Proofs.YtagebnmealiedaaA
open Go Go.Proofs Go.RowKit
set_option linter.unusedVariables false
def Vl.G (v : Vl) : Prop := (-9223372036854775808 ≤ v.kind ∧ v.kind ≤ 9223372036854775807) ∧ (-9223372036854775808 ≤ v.int ∧ v.int ≤ 9223372036854775807) ∧ v.text.length ≤ 140737488351232 ∧ ∀ c ∈ v.text, 0 ≤ c ∧ c ≤ 255
def En.G (e : En) : Prop := (-9223372036854775808 ≤ e.n ∧ e.n ≤ 9223372036854775807) ∧ e.v.G
@[reducible] def kVl : Kn := .cat (.int .i64) (.cat (.int .i64) .str)
@[reducible] def kEn : Kn := .cat (.int .i64) kVl
theorem vl_of {h : Heap} {r : List V} (q : Vw h kVl r) : ∃ y, r = Vl.enc y ∧ Vl.G y := by
  obtain ⟨_, _, rfl, ⟨a, rfl, wa⟩, _, _, rfl, ⟨b, rfl, wb⟩, c, rfl, wc⟩ := q
  exact ⟨⟨a, b, c⟩, rfl, wf_i64 wa, wf_i64 wb, wc⟩
theorem en_of {h : Heap} {r : List V} (q : Vw h kEn r) : ∃ y, r = En.enc y ∧ En.G y := by
  obtain ⟨_, _, rfl, ⟨a, rfl, wa⟩, q⟩ := q
  obtain ⟨y, rfl, wy⟩ := vl_of q
  exact ⟨⟨a, y⟩, rfl, wf_i64 wa, wy⟩
theorem ArgV.ens {h : Heap} {v : V} (q : ArgV false (.slice 4 40 kEn) h v) : ∃ (p : Option (Nat × Nat)) (c : Nat) (ys : List En), v = .slice p ys.length (some c) ∧ Sl h p 4 En.enc ys ∧ (∀ y ∈ ys, En.G y) := by
  obtain ⟨p, c, ys, h1, h2, h3, _⟩ := q.sl (by decide) En.enc En.G fun r => en_of
  exact ⟨p, c, ys, h1, h2, h3⟩
end Go.Proofs.YtagebnmealiedaaA
