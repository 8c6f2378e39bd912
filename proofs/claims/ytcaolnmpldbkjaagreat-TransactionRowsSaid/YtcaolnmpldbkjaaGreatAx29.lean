/- Words of this session: from an argument's view to a slice of elements; for rows. -/
import Derived.Test.YtcaolnmpldbkjaaGreatAx28
namespace Go.Proofs.YtcaolnmpldbkjaaGreatA
open Go Go.RowKit
set_option linter.unusedVariables false
set_option linter.unusedSimpArgs false
theorem enc_all {α : Type} {enc : α → List V} {G : α → Prop} : ∀ {rows : List (List V)}, (∀ r ∈ rows, ∃ y, r = enc y ∧ G y) → ∃ ys : List α, rows = ys.map enc ∧ ∀ y ∈ ys, G y
  | [], _ => ⟨[], rfl, by simp⟩
  | r :: rows, h => by
    obtain ⟨y, h1, h2⟩ := h r (by simp)
    obtain ⟨ys, h3, h4⟩ := enc_all (rows := rows) fun r hr => h r (by simp [hr])
    exact ⟨y :: ys, by rw [h1, h3]; rfl, fun z hz => by
      rcases List.mem_cons.1 hz with rfl | hz
      · exact h2
      · exact h4 z hz⟩
/-- A slice that came in, told by its elements. -/
theorem Vw.sl {α : Type} {h : Heap} {sz B : Nat} {e : Kn} {vs : List V} (hB : 1 ≤ B) (enc : α → List V) (G : α → Prop) (he : ∀ r, Vw h e r → ∃ y, r = enc y ∧ G y) (hv : Vw h (.slice sz B e) vs) :
    ∃ (p : Option (Nat × Nat)) (c : Nat) (ys : List α), vs = [.slice p ys.length (some c)] ∧ Sl h p sz enc ys ∧ (∀ y ∈ ys, G y) ∧ ys.length ≤ c ∧ c * B ≤ 140737488351232 ∧ (p = none → c = 0) := by
  obtain ⟨p, c, rows, h1, h2, h3, h4, h5, h6, h7⟩ := hv
  obtain ⟨ys, rfl, h8⟩ := enc_all (enc := enc) (G := G) (rows := rows) fun r hr => he r (h7 r hr).2
  have hw : ∀ y ∈ ys, (enc y).length = sz := fun y hy => (h7 _ (List.mem_map_of_mem hy)).1
  have hc : c ≤ c * B := Nat.le_mul_of_pos_right c (by omega)
  rw [List.length_map] at h1 h2
  refine ⟨p, c, ys, h1, ?_, h8, h2, h4, fun q => (h5 q).2⟩
  cases p with
  | none =>
    have := (h5 rfl).1
    have : ys = [] := by simpa using this
    subst this; exact .nil0 h sz enc
  | some q =>
    obtain ⟨a, b⟩ := q
    obtain ⟨rfl, h9⟩ := h6 a b rfl
    exact .whole h9 hw (by rw [List.flatMap_def]) (by omega)
theorem wf_i64 {n : Int} (h : (Lit.int .i64 n).wf = true) : -9223372036854775808 ≤ n ∧ n ≤ 9223372036854775807 := by
  simp only [Lit.wf, IntKind.min, IntKind.max, IntKind.signed, IntKind.bits, Bool.and_eq_true, decide_eq_true_eq] at h
  simpa using h
theorem wf_u8 {n : Int} (h : (Lit.int .u8 n).wf = true) : 0 ≤ n ∧ n ≤ 255 := by
  simp only [Lit.wf, IntKind.min, IntKind.max, IntKind.signed, IntKind.bits, Bool.and_eq_true, decide_eq_true_eq] at h
  simpa using h
theorem wf_u16 {n : Int} (h : (Lit.int .u16 n).wf = true) : 0 ≤ n ∧ n ≤ 65535 := by
  simp only [Lit.wf, IntKind.min, IntKind.max, IntKind.signed, IntKind.bits, Bool.and_eq_true, decide_eq_true_eq] at h
  simpa using h
theorem wf_u64 {n : Int} (h : (Lit.int .u64 n).wf = true) : 0 ≤ n ∧ n ≤ 18446744073709551615 := by
  simp only [Lit.wf, IntKind.min, IntKind.max, IntKind.signed, IntKind.bits, Bool.and_eq_true, decide_eq_true_eq] at h
  simpa using h
theorem ArgV.int {k : IntKind} {h : Heap} {v : V} (q : ArgV false (.int k) h v) : ∃ n, v = .int k n ∧ (Lit.int k n).wf = true := by
  obtain ⟨n, e, w⟩ := q
  simp only [List.cons.injEq, and_true] at e
  exact ⟨n, e, w⟩
theorem ArgV.bool {h : Heap} {v : V} (q : ArgV false .bool h v) : ∃ b, v = .bool b := by
  obtain ⟨n, e⟩ := q
  simp only [List.cons.injEq, and_true] at e
  exact ⟨n, e⟩
theorem ArgV.str {h : Heap} {v : V} (q : ArgV false .str h v) : ∃ s, v = .str s ∧ s.length ≤ 140737488351232 ∧ ∀ c ∈ s, 0 ≤ c ∧ c ≤ 255 := by
  obtain ⟨n, e, w⟩ := q
  simp only [List.cons.injEq, and_true] at e
  exact ⟨n, e, w⟩
theorem ArgV.sl {α : Type} {h : Heap} {sz B : Nat} {e : Kn} {v : V} (hB : 1 ≤ B) (enc : α → List V) (G : α → Prop) (he : ∀ r, Vw h e r → ∃ y, r = enc y ∧ G y) (q : ArgV false (.slice sz B e) h v) :
    ∃ (p : Option (Nat × Nat)) (c : Nat) (ys : List α), v = .slice p ys.length (some c) ∧ Sl h p sz enc ys ∧ (∀ y ∈ ys, G y) ∧ ys.length ≤ c ∧ c * B ≤ 140737488351232 ∧ (p = none → c = 0) := by
  obtain ⟨p, c, ys, e, w⟩ := Vw.sl hB enc G he q
  simp only [List.cons.injEq, and_true] at e
  exact ⟨p, c, ys, e, w⟩
end Go.Proofs.YtcaolnmpldbkjaaGreatA
