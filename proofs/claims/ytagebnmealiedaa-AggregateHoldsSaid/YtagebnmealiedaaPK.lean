/- Words of this session: chapter 7: what is told by hand is sound; arguments as entries. -/
import Derived.Test.YtagebnmealiedaaPN
import Derived.Test.YtagebnmealiedaaPQ
import Derived.Test.YtagebnmealiedaaPV
import Derived.Test.YtagebnmealiedaaHk
namespace Go.Proofs.YtagebnmealiedaaA
open Go Go.Proofs Go.RowKit
set_option linter.unusedVariables false
theorem hk_sound : SoundH Try.prog hk := by
  constructor
  · intro f g hf args h r q
    unfold hk at hf
    split at hf
    · cases hf; exact cmpHook_mono q
    · cases hf
  · intro f g hf args h v h' q ι w A hr ha hfr
    unfold hk at hf
    split at hf
    · rename_i e
      cases hf; subst e
      exact cmpHook_goes Try.func55 (by kernel_rfl) (by kernel_rfl) (by kernel_rfl) (by kernel_rfl) q ι w A hr ha hfr
    · cases hf
def Vl.G (v : Vl) : Prop := (-9223372036854775808 ≤ v.kind ∧ v.kind ≤ 9223372036854775807) ∧ (-9223372036854775808 ≤ v.int ∧ v.int ≤ 9223372036854775807) ∧ v.text.length ≤ 140737488351232 ∧ ∀ c ∈ v.text, 0 ≤ c ∧ c ≤ 255
def En.G (e : En) : Prop := (-9223372036854775808 ≤ e.n ∧ e.n ≤ 9223372036854775807) ∧ e.v.G
@[reducible] def kVl : Kn := .cat (.int .i64) (.cat (.int .i64) .str)
@[reducible] def kEn : Kn := .cat (.int .i64) kVl
theorem vl_of {h : Heap} {r : List V} (q : Vw h kVl r) : ∃ y, r = Vl.enc y ∧ Vl.G y := by
  obtain ⟨_, _, rfl, ⟨a, rfl, wa⟩, _, _, rfl, ⟨b, rfl, wb⟩, c, rfl, wc⟩ := q
  exact ⟨⟨a, b, c⟩, rfl, wf_i64 wa, wf_i64 wb, wc⟩
theorem en_of {h : Heap} {r : List V} (q : Vw h kEn r) : ∃ y, r = En.enc y ∧ En.G y := by
  obtain ⟨_, _, rfl, ⟨a, rfl, wa⟩, q⟩ := q
  obtain ⟨y, rfl, wy⟩ := vl_of q
  exact ⟨⟨a, y⟩, rfl, wf_i64 wa, wy⟩
theorem ArgV.ens {h : Heap} {v : V} (q : ArgV false (.slice 4 40 kEn) h v) : ∃ (p : Option (Nat × Nat)) (c : Nat) (ys : List En), v = .slice p ys.length (some c) ∧ Sl h p 4 En.enc ys ∧ (∀ y ∈ ys, En.G y) := by
  obtain ⟨p, c, ys, h1, h2, h3, _⟩ := q.sl (by decide) En.enc En.G fun r => en_of
  exact ⟨p, c, ys, h1, h2, h3⟩
theorem row3 {h : Heap} (a0 a1 : V) (v0 : ArgV false (.int .i64) h a0) (v1 : ArgV false (.slice 4 40 kEn) h a1) : WR (callE Try.prog hk 3 [a0, a1] h) fun r h' => r = .bool true := by
  obtain ⟨fn, rfl, _⟩ := v0.int
  obtain ⟨p, c, ys, rfl, hs, _⟩ := v1.ens
  exact law3_ok hs fn
theorem ArgV.vl {h : Heap} {v : V} (q : ArgV true kVl h v) : ∃ y, v = .agg (Vl.enc y) ∧ Vl.G y := by
  obtain ⟨vs, rfl, q⟩ := q
  obtain ⟨y, rfl, g⟩ := vl_of q
  exact ⟨y, rfl, g⟩
theorem row4 {h : Heap} (a0 a1 a2 a3 : V) (v0 : ArgV false (.int .i64) h a0) (v1 : ArgV false (.slice 4 40 kEn) h a1) (v2 : ArgV false (.int .i64) h a2) (v3 : ArgV false (.int .i64) h a3) : WR (callE Try.prog hk 4 [a0, a1, a2, a3] h) fun r h' => r = .bool true := by
  obtain ⟨fn, rfl, _⟩ := v0.int
  obtain ⟨p, c, ys, rfl, hs, _⟩ := v1.ens
  obtain ⟨i, rfl, _⟩ := v2.int
  obtain ⟨k, rfl, _⟩ := v3.int
  exact law4_ok hs fn i k
theorem row5 {h : Heap} (a0 a1 : V) (v0 : ArgV false (.int .i64) h a0) (v1 : ArgV false (.slice 4 40 kEn) h a1) : WR (callE Try.prog hk 5 [a0, a1] h) fun r h' => r = .bool true := by
  obtain ⟨fn, rfl, _⟩ := v0.int
  obtain ⟨p, c, ys, rfl, hs, _⟩ := v1.ens
  exact law5_ok hs fn
theorem row6 {h : Heap} (a0 a1 a2 a3 a4 : V) (v0 : ArgV false (.int .i64) h a0) (v1 : ArgV false (.slice 4 40 kEn) h a1) (v2 : ArgV true kVl h a2) (v3 : ArgV false (.int .i64) h a3) (v4 : ArgV true kVl h a4) : WR (callE Try.prog hk 6 [a0, a1, a2, a3, a4] h) fun r h' => r = .bool true := by
  obtain ⟨fn, rfl, _⟩ := v0.int
  obtain ⟨p, c, ys, rfl, hs, _⟩ := v1.ens
  obtain ⟨a, rfl, _⟩ := v2.vl
  obtain ⟨n, rfl, _⟩ := v3.int
  obtain ⟨b, rfl, _⟩ := v4.vl
  exact law6_ok hs fn a n b
theorem row7 {h : Heap} (a0 a1 a2 : V) (v0 : ArgV false (.int .i64) h a0) (v1 : ArgV true kVl h a1) (v2 : ArgV true kVl h a2) : WR (callE Try.prog hk 7 [a0, a1, a2] h) fun r h' => r = .bool true := by
  obtain ⟨op, rfl, _⟩ := v0.int
  obtain ⟨a, rfl, _⟩ := v1.vl
  obtain ⟨b, rfl, _⟩ := v2.vl
  exact law7_ok op a b
theorem row8 {h : Heap} (a0 a1 a2 : V) (v0 : ArgV false (.int .i64) h a0) (v1 : ArgV false (.int .i64) h a1) (v2 : ArgV false (.slice 4 40 kEn) h a2) : WR (callE Try.prog hk 8 [a0, a1, a2] h) fun r h' => r = .bool true := by
  obtain ⟨fn, rfl, _⟩ := v0.int
  obtain ⟨k, rfl, _⟩ := v1.int
  obtain ⟨p, c, ys, rfl, hs, _⟩ := v2.ens
  exact law8_ok hs fn k
theorem row9 {h : Heap} (a0 a1 a2 a3 : V) (v0 : ArgV false (.int .i64) h a0) (v1 : ArgV false (.int .i64) h a1) (v2 : ArgV true kVl h a2) (v3 : ArgV false (.slice 4 40 kEn) h a3) : WR (callE Try.prog hk 9 [a0, a1, a2, a3] h) fun r h' => r = .bool true := by
  obtain ⟨fn, rfl, _⟩ := v0.int
  obtain ⟨op, rfl, _⟩ := v1.int
  obtain ⟨b, rfl, _⟩ := v2.vl
  obtain ⟨p, c, ys, rfl, hs, _⟩ := v3.ens
  exact law9_ok hs fn op b
end Go.Proofs.YtagebnmealiedaaA
