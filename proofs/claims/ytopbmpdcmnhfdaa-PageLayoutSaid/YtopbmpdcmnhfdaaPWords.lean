/- Plain words of this session: rounds, numbers, lists of bytes. No program in sight. -/
import Derived.Test.YtopbmpdcmnhfdaaHWords
namespace Go.Proofs.YtopbmpdcmnhfdaaH
open Go.RowKit Go.Proofs.YtopbmpdcmnhfdaaW.PrintWords Go.Proofs.YtopbmpdcmnhfdaaW.PrintLast Go.Proofs.YtopbmpdcmnhfdaaW.PrintMore
set_option linter.unusedVariables false

/-! ### rounds -/
theorem Ev.if_pos {α : Type} {c : Prop} [Decidable c] {A B : Nat → Option α} {r : α} (h : c) (k : Ev A r) : Ev (fun n => if c then A n else B n) r := by
  obtain ⟨K, k⟩ := k
  exact ⟨K, fun n hn => by show (if c then A n else B n) = some r; rw [_root_.if_pos h]; exact k n hn⟩
theorem Ev.if_neg {α : Type} {c : Prop} [Decidable c] {A B : Nat → Option α} {r : α} (h : ¬ c) (k : Ev B r) : Ev (fun n => if c then A n else B n) r := by
  obtain ⟨K, k⟩ := k
  exact ⟨K, fun n hn => by show (if c then A n else B n) = some r; rw [_root_.if_neg h]; exact k n hn⟩
theorem Ev.ite {α : Type} {c : Prop} [Decidable c] {A B : Nat → Option α} {r : α} (h1 : c → Ev A r) (h2 : ¬ c → Ev B r) : Ev (fun n => if c then A n else B n) r := by
  by_cases h : c
  · exact Ev.if_pos h (h1 h)
  · exact Ev.if_neg h (h2 h)
theorem Ev.bindc {α β : Type} {o : Option α} {f : Nat → α → Option β} {a : α} {r : β} (h : o = some a) (k : Ev (fun n => f n a) r) : Ev (fun n => o.bind (f n)) r := by
  subst h
  exact k
theorem Ev.const {α : Type} {o : Option α} {r : α} (h : o = some r) : Ev (fun _ => o) r := ⟨0, fun _ _ => h⟩
theorem Ev.eq {α : Type} {g : Nat → Option α} {r r' : α} (h : Ev g r) (e : r = r') : Ev g r' := e ▸ h
theorem Ev.unique {α : Type} {g : Nat → Option α} {r r' : α} (h : Ev g r) (h' : Ev g r') : r = r' := by
  obtain ⟨K, h⟩ := h
  obtain ⟨K', h'⟩ := h'
  have h1 := h (max K K') (by omega)
  rw [h' (max K K') (by omega)] at h1
  injection h1 with h1
  exact h1.symm

/-- A bool that is come to, and what it says. -/
def EvB (g : Nat → Option Bool) (P : Prop) : Prop := ∃ b, Ev g b ∧ (b = true ↔ P)
theorem EvB.mk {g : Nat → Option Bool} {P : Prop} {b : Bool} (h : Ev g b) (hb : b = true ↔ P) : EvB g P := ⟨b, h, hb⟩
theorem EvB.imp {g : Nat → Option Bool} {P Q : Prop} (h : EvB g P) (hPQ : P ↔ Q) : EvB g Q := let ⟨b, h1, h2⟩ := h; ⟨b, h1, h2.trans hPQ⟩
theorem EvB.yes {g : Nat → Option Bool} {P : Prop} (h : EvB g P) (hP : P) : Ev g true := by
  obtain ⟨b, h1, h2⟩ := h
  rwa [h2.2 hP] at h1
theorem EvB.no {g : Nat → Option Bool} {P : Prop} (h : EvB g P) (hP : ¬ P) : Ev g false := by
  obtain ⟨b, h1, h2⟩ := h
  cases b with
  | true => exact absurd (h2.1 rfl) hP
  | false => exact h1
theorem EvB.at_true {P : Prop} (h : P) : EvB (fun _ => some true) P := ⟨true, Ev.now _, ⟨fun _ => h, fun _ => rfl⟩⟩
theorem EvB.at_false {P : Prop} (h : ¬ P) : EvB (fun _ => some false) P := ⟨false, Ev.now _, ⟨fun e => (by cases e), fun h' => absurd h' h⟩⟩
theorem EvB.step {g f : Nat → Option Bool} {P : Prop} (h : ∀ k, g (k + 1) = f k) (k : EvB f P) : EvB g P := let ⟨b, h1, h2⟩ := k; ⟨b, Ev.step h h1, h2⟩
theorem EvB.if_pos {c : Prop} [Decidable c] {A B : Nat → Option Bool} {P : Prop} (h : c) (k : EvB A P) : EvB (fun n => if c then A n else B n) P := let ⟨b, h1, h2⟩ := k; ⟨b, Ev.if_pos h h1, h2⟩
theorem EvB.if_neg {c : Prop} [Decidable c] {A B : Nat → Option Bool} {P : Prop} (h : ¬ c) (k : EvB B P) : EvB (fun n => if c then A n else B n) P := let ⟨b, h1, h2⟩ := k; ⟨b, Ev.if_neg h h1, h2⟩
theorem EvB.bindc {β : Type} {o : Option β} {f : Nat → β → Option Bool} {a : β} {P : Prop} (h : o = some a) (k : EvB (fun n => f n a) P) : EvB (fun n => o.bind (f n)) P := let ⟨b, h1, h2⟩ := k; ⟨b, Ev.bindc h h1, h2⟩
theorem EvB.bind {β : Type} {g : Nat → Option β} {f : Nat → β → Option Bool} {a : β} {P : Prop} (h : Ev g a) (k : EvB (fun n => f n a) P) : EvB (fun n => (g n).bind (f n)) P := let ⟨b, h1, h2⟩ := k; ⟨b, Ev.bind h h1, h2⟩

/-! ### numbers -/
theorem wrap64_of {x : Int} (h0 : -9223372036854775808 ≤ x) (h1 : x ≤ 9223372036854775807) : wrap64 x = x := by unfold wrap64; omega
theorem wf_u8 {x : Int} (h : (Lit.int .u8 x).wf = true) : 0 ≤ x ∧ x ≤ 255 := by
  simp [Lit.wf, IntKind.min, IntKind.max, IntKind.signed, IntKind.bits] at h
  omega
/-- A list of bytes. -/
def Bytes (l : List Int) : Prop := ∀ x ∈ l, 0 ≤ x ∧ x ≤ 255
theorem Bytes.of_wf {l : List Int} (h : ∀ x ∈ l, (Lit.int .u8 x).wf = true) : Bytes l := fun x hx => wf_u8 (h x hx)
theorem Bytes.rd {l : List Int} (h : Bytes l) (i : Int) : 0 ≤ rd l i ∧ rd l i ≤ 255 := by
  unfold Go.Proofs.YtopbmpdcmnhfdaaW.PrintWords.rd
  rw [List.getD_eq_getElem?_getD]
  by_cases hl : i.toNat < l.length
  · rw [List.getElem?_eq_getElem hl]
    exact h _ (List.getElem_mem hl)
  · rw [List.getElem?_eq_none (by omega)]
    exact ⟨by decide, by decide⟩
theorem Bytes.take {l : List Int} (h : Bytes l) (n : Nat) : Bytes (l.take n) := fun x hx => h x (List.mem_of_mem_take hx)
theorem Bytes.drop {l : List Int} (h : Bytes l) (n : Nat) : Bytes (l.drop n) := fun x hx => h x (List.mem_of_mem_drop hx)
theorem Bytes.append {l m : List Int} (h : Bytes l) (k : Bytes m) : Bytes (l ++ m) := fun x hx => (List.mem_append.1 hx).elim (h x) (k x)
theorem Bytes.nil : Bytes [] := fun x hx => by cases hx
theorem Bytes.cons {a : Int} {l : List Int} (h0 : 0 ≤ a) (h1 : a ≤ 255) (h : Bytes l) : Bytes (a :: l) := fun x hx => by
  rcases List.mem_cons.1 hx with rfl | hx
  · exact ⟨h0, h1⟩
  · exact h x hx
theorem Bytes.set {l : List Int} (h : Bytes l) (i : Nat) {x : Int} (h0 : 0 ≤ x) (h1 : x ≤ 255) : Bytes (l.set i x) := fun y hy => by
  rcases List.mem_or_eq_of_mem_set hy with hy | rfl
  · exact h y hy
  · exact ⟨h0, h1⟩
theorem Bytes.replicate (n : Nat) {x : Int} (h0 : 0 ≤ x) (h1 : x ≤ 255) : Bytes (List.replicate n x) := fun y hy => by
  rw [(List.mem_replicate.1 hy).2]
  exact ⟨h0, h1⟩

/-- Two bytes put together. -/
theorem or_bytes {a b : Int} (ha : 0 ≤ a ∧ a ≤ 255) (hb : 0 ≤ b ∧ b ≤ 255) : Go.bits .or .i64 (wrap64 ((wrap64 a) * 256)) (wrap64 b) = a * 256 + b := by
  rw [wrap64_of (x := a) (by omega) (by omega), wrap64_of (x := a * 256) (by omega) (by omega), wrap64_of (x := b) (by omega) (by omega)]
  exact bits_join .i64 62 (by decide) (fun n h0 h1 => by rw [IntKind.wrap_i64]; omega) 8 _ _ (by omega) (by omega) (by omega) (by omega) (by omega) (by omega)

/-! ### strings of bytes -/
theorem loop_toList (bs : ByteArray) (d : Nat) : ∀ (i : Nat) (r : List UInt8), bs.size - i = d → ByteArray.toList.loop bs i r = r.reverse ++ bs.data.toList.drop i := by
  induction d with
  | zero =>
    intro i r h
    rw [ByteArray.toList.loop, _root_.if_neg (by omega), List.drop_eq_nil_of_le (by rw [data_length]; omega), List.append_nil]
  | succ d ih =>
    intro i r h
    have hi : i < bs.size := by omega
    rw [ByteArray.toList.loop, _root_.if_pos hi, ih (i + 1) _ (by omega), List.drop_eq_getElem_cons (show i < bs.data.toList.length by rw [data_length]; exact hi)]
    have e : bs.get! i = bs.data.toList[i]'(by rw [data_length]; exact hi) := by
      have hi' : i < bs.data.size := hi
      show bs.data[i]! = _
      rw [getElem!_pos bs.data i hi']
      simp
    rw [e]
    simp
theorem toList_data (bs : ByteArray) : bs.toList = bs.data.toList := by
  unfold ByteArray.toList
  rw [loop_toList bs bs.size 0 [] (by omega)]
  simp
theorem str_toList (l : List Int) : (strOfNums l).toList = l.map (fun n => UInt8.ofNat n.toNat) := by
  rw [toList_data]
  simp [strOfNums]
theorem ofNat_inj {a b : Int} (ha : 0 ≤ a ∧ a ≤ 255) (hb : 0 ≤ b ∧ b ≤ 255) (h : UInt8.ofNat a.toNat = UInt8.ofNat b.toNat) : a = b := by
  have := congrArg UInt8.toNat h
  simp at this
  omega
theorem str_eq {l m : List Int} (hl : Bytes l) (hm : Bytes m) : ((strOfNums l).toList = (strOfNums m).toList) ↔ l = m := by
  rw [str_toList, str_toList]
  constructor
  · intro h
    induction l generalizing m with
    | nil =>
      cases m with
      | nil => rfl
      | cons b m => simp at h
    | cons a l ih =>
      cases m with
      | nil => simp at h
      | cons b m =>
        rw [List.map_cons, List.map_cons] at h
        injection h with h1 h2
        rw [ofNat_inj (hl a (by simp)) (hm b (by simp)) h1, ih (fun x hx => hl x (by simp [hx])) (fun x hx => hm x (by simp [hx])) h2]
  · rintro rfl; rfl
theorem same_eq {l m : List Int} (hl : Bytes l) (hm : Bytes m) : ((strOfNums l).toList == (strOfNums m).toList) = decide (l = m) := by
  rw [Bool.eq_iff_iff]
  simp [str_eq hl hm]
end Go.Proofs.YtopbmpdcmnhfdaaH
