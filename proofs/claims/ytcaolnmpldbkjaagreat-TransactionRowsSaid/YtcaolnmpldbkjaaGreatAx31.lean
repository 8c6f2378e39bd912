/- Words of this session: rows of cells in a block: cut, copied, stored; slices of known capacity. -/
import Derived.Test.YtcaolnmpldbkjaaGreatAx30
namespace Go.Proofs.YtcaolnmpldbkjaaGreatA
open Go Go.RowKit
set_option linter.unusedVariables false
set_option linter.unusedSimpArgs false
/-- Rows of the same width. -/
def Wd (sz : Nat) (rows : List (List V)) : Prop := ∀ r ∈ rows, r.length = sz
theorem Wd.take {sz : Nat} {rows : List (List V)} (h : Wd sz rows) (n : Nat) : Wd sz (rows.take n) := fun r hr => h r (List.mem_of_mem_take hr)
theorem Wd.drop {sz : Nat} {rows : List (List V)} (h : Wd sz rows) (n : Nat) : Wd sz (rows.drop n) := fun r hr => h r (List.mem_of_mem_drop hr)
theorem Wd.app {sz : Nat} {a b : List (List V)} (h : Wd sz a) (k : Wd sz b) : Wd sz (a ++ b) := fun r hr => (List.mem_append.1 hr).elim (h r) (k r)
theorem flat_id (rows : List (List V)) : rows.flatMap (fun r => r) = rows.flatten := by rw [List.flatMap_def]; simp
theorem Wd.len {sz : Nat} {rows : List (List V)} (h : Wd sz rows) : rows.flatten.length = rows.length * sz := by
  have := flatMap_len (enc := fun r : List V => r) h
  rwa [flat_id] at this
theorem Wd.ftake {sz : Nat} {rows : List (List V)} (h : Wd sz rows) (n : Nat) : rows.flatten.take (n * sz) = (rows.take n).flatten := by
  have := flatMap_take (enc := fun r : List V => r) h n
  rwa [flat_id, flat_id] at this
theorem Wd.fdrop {sz : Nat} {rows : List (List V)} (h : Wd sz rows) (n : Nat) : rows.flatten.drop (n * sz) = (rows.drop n).flatten := by
  have := flatMap_drop (enc := fun r : List V => r) h n
  rwa [flat_id, flat_id] at this
/-- A block: cells, rows, cells. -/
theorem rows_part {A B : List V} {rows : List (List V)} {sz a m : Nat} (h : Wd sz rows) (hm : a + m ≤ rows.length) : ((A ++ rows.flatten ++ B).drop (A.length + a * sz)).take (m * sz) = ((rows.drop a).take m).flatten := by
  have h1 : a * sz + m * sz ≤ rows.length * sz := by rw [← Nat.add_mul]; exact Nat.mul_le_mul_right _ hm
  rw [List.append_assoc, ← List.drop_drop, List.drop_left, List.drop_append, List.take_append, h.fdrop, (h.drop a).ftake]
  have : m * sz - (rows.drop a).flatten.length = 0 := by rw [(h.drop a).len, List.length_drop, Nat.sub_mul]; omega
  rw [this]; simp
theorem rows_splice {A B : List V} {rows M : List (List V)} {sz a : Nat} (h : Wd sz rows) (hM : Wd sz M) (hm : a + M.length ≤ rows.length) :
    splice (A ++ rows.flatten ++ B) (A.length + a * sz) M.flatten = A ++ (rows.take a ++ M ++ rows.drop (a + M.length)).flatten ++ B := by
  have h1 : a * sz + M.length * sz ≤ rows.length * sz := by rw [← Nat.add_mul]; exact Nat.mul_le_mul_right _ hm
  unfold splice
  rw [hM.len]
  have e1 : (A ++ rows.flatten ++ B).take (A.length + a * sz) = A ++ (rows.take a).flatten := by
    rw [List.append_assoc, List.take_append, List.take_of_length_le (by omega), Nat.add_sub_cancel_left, List.take_append, h.ftake]
    have : a * sz - rows.flatten.length = 0 := by rw [h.len]; omega
    rw [this]; simp
  have e2 : (A ++ rows.flatten ++ B).drop (A.length + a * sz + M.length * sz) = (rows.drop (a + M.length)).flatten ++ B := by
    rw [List.append_assoc, Nat.add_assoc, ← Nat.add_mul, ← List.drop_drop, List.drop_left, List.drop_append, h.fdrop]
    have : (a + M.length) * sz - rows.flatten.length = 0 := by rw [h.len, Nat.add_mul]; omega
    rw [this]; simp
  rw [e1, e2]
  simp [List.append_assoc]
theorem rows_len {A B : List V} {rows : List (List V)} {sz : Nat} (h : Wd sz rows) : (A ++ rows.flatten ++ B).length = A.length + rows.length * sz + B.length := by
  rw [List.length_append, List.length_append, h.len]
theorem storeN_rows {h : Heap} {id : Nat} {A B : List V} {rows M : List (List V)} {k : Kd} {sz a : Nat} (hb : h[id]? = some (.cells (A ++ rows.flatten ++ B) k)) (hk : k ≠ .ro) (hr : Wd sz rows) (hM : Wd sz M) (hl : M.flatten.all V.leaf = true) (hm : a + M.length ≤ rows.length) :
    storeN h id (A.length + a * sz) M.flatten = some (h.set id (.cells (A ++ (rows.take a ++ M ++ rows.drop (a + M.length)).flatten ++ B) k)) := by
  have h1 : a * sz + M.length * sz ≤ rows.length * sz := by rw [← Nat.add_mul]; exact Nat.mul_le_mul_right _ hm
  rw [storeN_of hb hk (by rw [hM.len, rows_len hr]; omega) hl, rows_splice hr hM hm]
theorem loadN_rows {h : Heap} {id : Nat} {A B : List V} {rows : List (List V)} {k : Kd} {sz a m : Nat} (hb : h[id]? = some (.cells (A ++ rows.flatten ++ B) k)) (hr : Wd sz rows) (hm : a + m ≤ rows.length) :
    loadN h id (A.length + a * sz) (m * sz) = some ((rows.drop a).take m).flatten := by
  have h1 : a * sz + m * sz ≤ rows.length * sz := by rw [← Nat.add_mul]; exact Nat.mul_le_mul_right _ hm
  rw [loadN_of hb (by rw [rows_len hr]; omega), rows_part hr hm]
/-- copy between rows. -/
theorem copy_rows {h : Heap} {id q : Nat} {A B A' B' : List V} {rows rows' : List (List V)} {k k' : Kd} {sz a b dl xl : Nat} {xc : Option Nat} (hs : 1 ≤ sz) (hb : h[id]? = some (.cells (A ++ rows.flatten ++ B) k)) (hk : k ≠ .ro) (hr : Wd sz rows)
    (hq : h[q]? = some (.cells (A' ++ rows'.flatten ++ B') k')) (hr' : Wd sz rows') (hd : a + dl ≤ rows.length) (hx : b + xl ≤ rows'.length) (hle : xl ≤ dl) (hl : ((rows'.drop b).take xl).flatten.all V.leaf = true) :
    cpv sz (some (id, A.length + a * sz)) dl (.slice (some (q, A'.length + b * sz)) xl xc) xl h = some (.int .i64 xl, h.set id (.cells (A ++ (rows.take a ++ (rows'.drop b).take xl ++ rows.drop (a + xl)).flatten ++ B) k)) := by
  unfold cpv
  rw [show Nat.min xl dl = xl from Nat.min_eq_left hle]
  simp only [firstV]
  rw [loadN_rows hq hr' hx]
  simp only []
  have hlen : ((rows'.drop b).take xl).length = xl := by rw [List.length_take, List.length_drop]; omega
  have hst := storeN_rows (a := a) (M := (rows'.drop b).take xl) hb hk hr ((hr'.drop b).take xl) hl (by omega)
  rw [hlen] at hst
  split
  · rename_i h0
    have : xl = 0 := by
      have := ((hr'.drop b).take xl).len
      rw [h0, hlen] at this
      rcases Nat.eq_zero_or_pos xl with e | e
      · exact e
      · have := Nat.mul_pos e hs
        simp at *
        omega
    subst this
    congr 2
    rw [show rows.take a ++ (rows'.drop b).take 0 ++ rows.drop (a + 0) = rows by simp]
    have hlt := lt_of_some hb
    refine (List.ext_getElem? fun j => ?_)
    by_cases e : id = j
    · subst e; rw [List.getElem?_set_self hlt, hb]
    · rw [List.getElem?_set_ne e]
  · rw [hst]; rfl
/-- Cutting a slice of known capacity. -/
theorem cutK {h : Heap} {sz id off len c : Nat} {k k' : IntKind} {a b : Int} (h0 : 0 ≤ a) (hab : a ≤ b) (hb : b ≤ c) (hne : ¬ (c : Int) = a) : sliceV h sz (some (id, off)) len (some c) (some (.int k a)) (some (.int k' b)) none = some (.slice (some (id, off + a.toNat * sz)) (b.toNat - a.toNat) (some (c - a.toNat))) := by
  unfold sliceV
  simp only [boundV, Option.getD_some]
  rw [if_pos ⟨by omega, hb⟩]
  simp only []
  rw [if_pos ⟨h0, by omega⟩]
  simp only []
  rw [if_neg (by omega)]; rfl
theorem cutK_lo {h : Heap} {sz id off len c : Nat} {k : IntKind} {a : Int} (h0 : 0 ≤ a) (hb : a ≤ len) (hc : len ≤ c) (hne : ¬ (c : Int) = a) : sliceV h sz (some (id, off)) len (some c) (some (.int k a)) none none = some (.slice (some (id, off + a.toNat * sz)) (len - a.toNat) (some (c - a.toNat))) := by
  unfold sliceV
  simp only [boundV, Option.getD_some]
  rw [if_pos ⟨h0, hb⟩]
  simp only []
  rw [if_neg (by omega)]; rfl
theorem cutK_any {h : Heap} {sz len c : Nat} {p : Option (Nat × Nat)} {k : IntKind} {a : Int} (h0 : 0 ≤ a) (hb : a ≤ len) (hc : len ≤ c) : ∃ p', sliceV h sz p len (some c) (some (.int k a)) none none = some (.slice p' (len - a.toNat) (some (c - a.toNat))) := by
  unfold sliceV
  simp only [boundV, Option.getD_some]
  rw [if_pos ⟨h0, hb⟩]
  exact ⟨_, rfl⟩
theorem cutK_hi {h : Heap} {sz len c : Nat} {p : Option (Nat × Nat)} {k : IntKind} {b : Int} (h0 : 0 ≤ b) (hb : b ≤ c) : sliceV h sz p len (some c) none (some (.int k b)) none = some (.slice p b.toNat (some c)) := by
  unfold sliceV
  simp only [boundV, Option.getD_some]
  rw [if_pos ⟨h0, hb⟩]
  simp [advV_zero]
/-- Cutting a slice of open capacity. -/
theorem cutO_lo {h : Heap} {sz id off len : Nat} {k : IntKind} {a : Int} (h0 : 0 ≤ a) (hb : a ≤ len) (hf : fitsV h sz (some (id, off)) = true) : sliceV h sz (some (id, off)) len none (some (.int k a)) none none = some (.slice (some (id, off + a.toNat * sz)) (len - a.toNat) none) := by
  unfold sliceV
  simp only [boundV, Option.getD_none]
  rw [if_pos ⟨h0, hb⟩]
  simp [hf, advV]
end Go.Proofs.YtcaolnmpldbkjaaGreatA
