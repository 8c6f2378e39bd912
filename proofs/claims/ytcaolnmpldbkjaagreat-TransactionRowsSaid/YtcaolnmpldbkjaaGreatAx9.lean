/- Words of this session: copy, clear, len, min, max and maps of the second reading hold of the model. -/
import Derived.Test.YtcaolnmpldbkjaaGreatAx8
namespace Go.Proofs.YtcaolnmpldbkjaaGreatA
open Go Go.RowKit
set_option linter.unusedVariables false
set_option linter.unusedSimpArgs false

section
variable {P : Program} {ι : Mp} {t : List V} {a : Act} {h h' : Heap} {w : World}

/-- What a builtin gives. -/
def OutB (P : Program) (s : Sem Value) (w : World) (ι : Mp) (h : Heap) (v : V) (h' : Heap) : Prop := ∃ κ w' y, s.run P w = .ok y w' ∧ RV κ v y ∧ Stp ι h w κ h' w'
theorem OutB.same {s : Sem Value} {v : V} (hr : Rel ι h w) (hs : ∃ x, s.run P w = .ok x w ∧ RV ι v x) : OutB P s w ι h v h := let ⟨x, a, b⟩ := hs; ⟨ι, w, x, a, b, .refl hr⟩

theorem copy_out (hr : Rel ι h w) {dt ty : TypeId} {ts : List TypeId} {d x : V} {D X : Value} (hd : RV ι d D) (hx : RV ι x X) {r : V × Heap} (hp : copyV P dt d x h = some r) :
    OutB P (Builtin.copy_ (dt :: ts).toArray ty #[D, X]) w ι h r.1 r.2 := by
  unfold copyV at hp
  split at hp
  · rename_i e p dlen cap xl he hxl
    have hu := elemT_under he
    split at hp
    · rename_i size hsz
      split at hp
      · rename_i cs hcs
        obtain ⟨A, c, rfl, hlc, hcap⟩ := slice_inv hd
        have hle : Nat.min xl dlen ≤ xl := Nat.min_le_left _ _
        obtain ⟨C, hrun, hrv⟩ := firstV_run (P := P) hr hcs hx (fun k hk => by rw [hxl] at hk; cases hk; exact hle)
        have hlenX := lenV_run (P := P) hxl hx w
        have base : ∀ w', (match A with | some a => (storeCells a C).run P w = .ok () w' | none => w' = w) → (Builtin.copy_ (dt :: ts).toArray ty #[.slice A dlen c, X]).run P w = .ok (.int .i64 (Nat.min xl dlen)) w' := by
          intro w' hs
          cases A with
          | none => subst hs; simp [Builtin.copy_, run_underlying hu, hlenX, szT_run hsz, hrun, goInt]
          | some a => simp [Builtin.copy_, run_underlying hu, hlenX, szT_run hsz, hrun, goInt, hs]
        split at hp
        · rename_i id off
          split at hp
          · rename_i hnil
            cases hp
            subst hnil
            obtain rfl := hrv.nil_inv
            refine OutB.same hr ⟨_, base w ?_, .int _ _⟩
            cases A with
            | none => rfl
            | some a => rfl
          · rename_i hnil
            cases hq : storeN h id off cs with
            | none => simp [hq] at hp
            | some h1 =>
              simp [hq] at hp; subst hp
              obtain ⟨A', c', pl, hX, hpl, _, _, _, hA⟩ := hd.slice_at
              cases hX
              have h0 : 0 < dlen := by
                rcases Nat.eq_zero_or_pos dlen with e0 | e0
                · exfalso; apply hnil
                  subst e0
                  have hm : Nat.min xl 0 = 0 := Nat.min_zero _
                  rw [hm] at hcs
                  cases x <;> simp [firstV] at hcs
                  · exact hcs.symm ▸ rfl
                  · rename_i q _ _
                    cases q with
                    | none => simpa using hcs.symm
                    | some q => obtain ⟨i, o⟩ := q; have := (loadN_length hcs).1; simp at this; exact this
                · exact e0
              obtain ⟨w', hs, hst⟩ := storeN_run (P := P) hr hq hpl hrv
              refine ⟨ι, w', _, base w' ?_, .int _ _, hst⟩
              simp only
              rw [hA h0]; exact hs
        · cases hp
          cases hd
          exact OutB.same hr ⟨_, base w rfl, .int _ _⟩
      · cases hp
    · cases hp
  · cases hp
theorem clear_out (hr : Rel ι h w) {st ty : TypeId} {x : V} {X : Value} (hx : RV ι x X) {r : V × Heap} (hp : clearV P st x h = some r) : OutB P (Builtin.clear_ #[st] ty #[X]) w ι h r.1 r.2 := by
  have htup : RV ι (.tuple []) (.tuple #[]) := .tuple [] #[] rfl fun i v c h => by simp at h
  unfold clearV at hp
  split at hp
  · rename_i e p n cap hu
    obtain ⟨A, c, rfl, hlc, hcap⟩ := slice_inv hx
    split at hp
    · rename_i h0
      cases hp
      subst h0
      refine OutB.same hr ⟨.tuple #[], ?_, htup⟩
      cases A <;> simp [Builtin.clear_, run_underlying hu]
    · rename_i h0
      split at hp
      · rename_i z id off hz
        cases hq : storeN h id off (reps n z) with
        | none => simp [hq] at hp
        | some h1 =>
          simp [hq] at hp; subst hp
          obtain ⟨i, zv, hi, hzero, hrvz, hlenz, hlfz, hrunz⟩ := zerosT_run hz ι
          obtain ⟨A', c', pl, hX, hpl, _, _, _, hA⟩ := hx.slice_at
          cases hX
          obtain ⟨w', hs, hst⟩ := storeN_run (P := P) hr hq hpl (reps_rv hrvz n)
          refine ⟨ι, w', .tuple #[], ?_, htup, hst⟩
          have hA' := hA (by omega)
          subst hA'
          obtain ⟨m, rfl⟩ : ∃ m, n = m + 1 := ⟨n - 1, by omega⟩
          simp [Builtin.clear_, run_underlying hu, hrunz, Builtin.zeroCells]
          simp at hs
          rw [hs]; rfl
      · cases hp
  · cases hp
theorem len_out (hr : Rel ι h w) {st ty : TypeId} {x : V} {X : Value} (hx : RV ι x X) {v : V} (hp : lenB P st x h = some v) : OutB P (Builtin.len_ #[st] ty #[X]) w ι h v h := by
  refine OutB.same hr ?_
  unfold lenB at hp
  split at hp
  · rename_i s hu
    cases hp; cases hx with | str _ B hB =>
    exact ⟨.int .i64 s.length, by simp [Builtin.len_, run_underlying hu, goInt, ← hB, bytesOf_length], .int _ _⟩
  · rename_i hu; cases hp
    obtain ⟨A, c, rfl, _⟩ := slice_inv hx
    exact ⟨_, by simp [Builtin.len_, run_underlying hu, goInt], .int _ _⟩
  · rename_i hu; cases hp; cases hx
    exact ⟨_, by simp [Builtin.len_, run_underlying hu, goInt], .int _ _⟩
  · rename_i id hu
    split at hp
    · rename_i es cl hid
      cases hp
      cases hx with | map _ pl hpl =>
      obtain ⟨ES, h1, h2, _⟩ := hr.ok _ _ _ hpl hid
      exact ⟨.int .i64 es.length, by simp [Builtin.len_, run_underlying hu, goInt, getObj, Sem.run, h1, h2], .int _ _⟩
    · cases hp
  · rename_i n hu; cases hp
    exact ⟨_, by simp [Builtin.len_, run_underlying hu, goInt], .int _ _⟩
  · cases hp
theorem fold_run {f : V → V → Option V} {g : Value → Value → Sem Value} (hfg : ∀ {x y z : V} {X Y : Value}, f x y = some z → RV ι x X → RV ι y Y → ∃ Z, (g X Y).run P w = .ok Z w ∧ RV ι z Z) :
    ∀ {l : List V} {x z : V}, foldV f x l = some z → ∀ {X : Value} {L : List Value}, RV ι x X → RVs ι l L → ∃ Z, (L.foldlM g X).run P w = .ok Z w ∧ RV ι z Z
  | [], x, z, hq, X, L, hX, hL => by
    cases hq
    obtain rfl := hL.nil_inv
    exact ⟨X, by simp, hX⟩
  | y :: l, x, z, hq, X, L, hX, hL => by
    unfold foldV at hq
    split at hq
    · rename_i u hu
      obtain ⟨Y, L', rfl, hY, hL'⟩ := RVs.head hL
      obtain ⟨U, h1, h2⟩ := hfg hu hX hY
      obtain ⟨Z, h3, h4⟩ := fold_run hfg hq h2 hL'
      exact ⟨Z, by simp [List.foldlM_cons, h1, h3], h4⟩
    · cases hq
theorem max_out (hr : Rel ι h w) {ts : Array TypeId} {ty : TypeId} {x v : V} {l : List V} {L : List Value} (hL : RVs ι (x :: l) L) (hp : foldV max2V x l = some v) : OutB P (Builtin.max_ ts ty L.toArray) w ι h v h := by
  refine OutB.same hr ?_
  obtain ⟨X, L', rfl, hX, hL'⟩ := RVs.head hL
  obtain ⟨Z, h1, h2⟩ := fold_run (P := P) (w := w) (ι := ι) (f := max2V) (g := Builtin.max2) (fun {x y z X Y} hq hX hY => by
    unfold max2V at hq
    split at hq
    · cases hq; cases hX; cases hY; exact ⟨_, by simp [Builtin.max2], .int _ _⟩
    · cases hq) hp hX hL'
  exact ⟨Z, by simpa [Builtin.max_] using h1, h2⟩
theorem min_out (hr : Rel ι h w) {ts : Array TypeId} {ty : TypeId} {x v : V} {l : List V} {L : List Value} (hL : RVs ι (x :: l) L) (hp : foldV min2V x l = some v) : OutB P (Builtin.min_ ts ty L.toArray) w ι h v h := by
  refine OutB.same hr ?_
  obtain ⟨X, L', rfl, hX, hL'⟩ := RVs.head hL
  obtain ⟨Z, h1, h2⟩ := fold_run (P := P) (w := w) (ι := ι) (f := min2V) (g := Builtin.min2) (fun {x y z X Y} hq hX hY => by
    unfold min2V at hq
    split at hq
    · cases hq; cases hX; cases hY; exact ⟨_, by simp [Builtin.min2], .int _ _⟩
    · cases hq) hp hX hL'
  exact ⟨Z, by simpa [Builtin.min_] using h1, h2⟩

/-! ### maps -/
theorem pairKey_rv {j k : IntKind} {a b : Int} {K : Value} (hv : RV ι (.agg [.int j a, .int k b]) K) : K = .agg #[.int j a, .int k b] := by
  cases hv with | agg _ C hl h =>
  have hC : C.toList.length = 2 := by simpa using hl.symm
  obtain ⟨x, y, e⟩ : ∃ x y, C.toList = [x, y] := by
    match q : C.toList with
    | [] => rw [q] at hC; cases hC
    | [_] => rw [q] at hC; cases hC
    | [x, y] => exact ⟨x, y, rfl⟩
    | _ :: _ :: _ :: _ => rw [q] at hC; simp at hC
  have g0 : C[0]? = some x := by rw [← Array.getElem?_toList, e]; rfl
  have g1 : C[1]? = some y := by rw [← Array.getElem?_toList, e]; rfl
  have h0 := h 0 _ _ rfl g0
  have h1 := h 1 _ _ rfl g1
  cases h0; cases h1
  have : C = #[.int j a, .int k b] := by apply Array.toList_inj.1; rw [e]
  rw [this]
theorem keyOk_kind {kt : TypeId} {k : V} {K : Value} (hk : keyOk P kt k = true) (hv : RV ι k K) : ∃ d, P.underlying kt = some d ∧ ((∃ kk n m, k = .int kk n ∧ K = .int kk n ∧ d = .int m) ∨ (∃ s B, k = .str s ∧ K = .string B ∧ bytesOf B = s ∧ d = .string) ∨
    ∃ j a k' b f g, k = .agg [.int j a, .int k' b] ∧ K = .agg #[.int j a, .int k' b] ∧ d = .struct #[f, g] ∧ f.name ≠ "_" ∧ g.name ≠ "_" ∧ f.offset = 0 ∧ g.offset = 1 ∧ P.stoodInHeld kt = false ∧ (∃ q, P.underlying f.type = some (.int q)) ∧ ∃ q, P.underlying g.type = some (.int q)) := by
  unfold keyOk at hk
  split at hk
  · unfold pairKey at hk
    split at hk
    · rename_i fs hu
      split at hk
      · rename_i f g hfs
        simp only [Bool.and_eq_true, decide_eq_true_eq, Bool.not_eq_true'] at hk
        obtain ⟨⟨⟨⟨⟨h1, h2⟩, h3⟩, h4⟩, h5⟩, h6⟩ := hk
        have hfs' : fs = #[f, g] := by apply Array.toList_inj.1; rw [hfs]
        subst hfs'
        split at h6
        · rename_i q1 q2 u1 u2
          exact ⟨_, hu, .inr (.inr ⟨_, _, _, _, f, g, rfl, pairKey_rv hv, rfl, h1, h2, h3, h4, h5, ⟨_, u1⟩, _, u2⟩)⟩
        · cases h6
      · cases hk
    · cases hk
  · split at hk
    · rename_i kk n _ m hu; cases hv; exact ⟨_, hu, .inl ⟨_, _, m, rfl, rfl, rfl⟩⟩
    · cases hk
  · split at hk
    · rename_i s _ hu; cases hv with | str _ B hB => exact ⟨_, hu, .inr (.inl ⟨s, B, rfl, rfl, hB, rfl⟩)⟩
    · cases hk
  · cases hk
theorem part_int {t : TypeId} {q : IntKind} (hu : P.underlying t = some (.int q)) {cs : Array Value} {off : Nat} {v : Value} (hv : cs[off]? = some v) (w : World) : (part t cs off).run P w = .ok v w := by
  have : aggT P t = some false := by simp [aggT, hu, aggD]
  simp [part, aggT_run this, hv]
theorem checkKey_run {kt : TypeId} {k : V} {K : Value} (hk : keyOk P kt k = true) (hv : RV ι k K) (b : Bool) (w : World) : (Instr.checkKey b 10000 kt K).run P w = .ok () w := by
  obtain ⟨d, hu, h | h | h⟩ := keyOk_kind hk hv
  · obtain ⟨kk, n, m, rfl, rfl, rfl⟩ := h
    show (Instr.checkKey b (9999 + 1) kt _).run P w = _
    rw [Instr.checkKey]; simp [run_underlying hu]
  · obtain ⟨s, B, rfl, rfl, _, rfl⟩ := h
    show (Instr.checkKey b (9999 + 1) kt _).run P w = _
    rw [Instr.checkKey]; simp [run_underlying hu]
  · obtain ⟨j, x, k', y, f, g, rfl, rfl, rfl, h1, h2, h3, h4, _, ⟨q1, u1⟩, q2, u2⟩ := h
    have one : ∀ (t : TypeId) (q : IntKind) (v : Value), P.underlying t = some (.int q) → (∃ kk n, v = .int kk n) → (Instr.checkKey b 9999 t v).run P w = .ok () w := by
      rintro t q v hu ⟨kk, n, rfl⟩
      show (Instr.checkKey b (9998 + 1) t _).run P w = _
      rw [Instr.checkKey]; simp [run_underlying hu]
    show (Instr.checkKey b (9999 + 1) kt _).run P w = _
    rw [Instr.checkKey]
    have p1 := part_int (P := P) u1 (cs := #[.int j x, .int k' y]) (off := f.offset) (v := .int j x) (by rw [h3]; rfl) w
    have p2 := part_int (P := P) u2 (cs := #[.int j x, .int k' y]) (off := g.offset) (v := .int k' y) (by rw [h4]; rfl) w
    simp [run_underlying hu, h1, h2, p1, p2, one _ _ _ u1 ⟨_, _, rfl⟩, one _ _ _ u2 ⟨_, _, rfl⟩]
def EntOk (ι : Mp) (es : List (V × V × Nat)) (ES : List MapEntry) : Prop := es.length = ES.length ∧ ∀ (i : Nat) (k v : V) (b : Nat) (e : MapEntry), es[i]? = some (k, v, b) → ES[i]? = some e → RV ι k e.key ∧ RV ι v e.val ∧ e.born = b
theorem EntOk.tail {e : V × V × Nat} {es : List (V × V × Nat)} {E : MapEntry} {ES : List MapEntry} (h : EntOk ι (e :: es) (E :: ES)) : EntOk ι es ES :=
  ⟨by simpa using h.1, fun i k v b e x y => h.2 (i + 1) k v b e (by simpa using x) (by simpa using y)⟩
/-- A key of one piece. -/
def flatKey : V → Bool
  | .agg _ => false
  | _ => true
theorem keySame_run {kt : TypeId} {k k' : V} {K K' : Value} {b : Bool} (hk : keyOk P kt k = true) (hfl : flatKey k = true) (hs : keySame k k' = some b) (hv : RV ι k K) (hv' : RV ι k' K') {d : TypeDesc} (hd : P.underlying kt = some d) :
    Instr.sameNow d K K' = some b ∧ (b = true → Instr.sameBits 10000 K' K = true) := by
  obtain ⟨d', hu, h | h | h⟩ := keyOk_kind hk hv
  · obtain ⟨kk, n, m, rfl, rfl, rfl⟩ := h
    rw [hd] at hu; cases hu
    unfold keySame at hs
    split at hs
    · rename_i e1; cases e1
    · rename_i j x k y e1; cases e1; cases hv'
      split at hs
      · rename_i e; subst e; cases hs
        refine ⟨by simp [Instr.sameNow], fun hb => ?_⟩
        simp at hb; subst hb
        simp [Instr.sameBits]
      · cases hs
    · rename_i e1; cases e1
    · cases hs
  · obtain ⟨s, B, rfl, rfl, hB, rfl⟩ := h
    rw [hd] at hu; cases hu
    unfold keySame at hs
    split at hs
    · rename_i e1; cases e1
    · rename_i e1; cases e1
    · rename_i x y e1; cases e1; cases hs; cases hv' with | str _ B' hB' =>
      have e : (B == B') = (s == y) := by
        rw [beq_toListBytes, ← hB, ← hB', bytesOf_toList, bytesOf_toList, beq_map]
      refine ⟨by simp [Instr.sameNow, e], fun hb => ?_⟩
      have e2 : (B' == B) = true := by
        rw [← e, beq_toListBytes] at hb
        have := beq_iff_eq.1 hb
        rw [beq_toListBytes]
        simp [this]
      simpa [Instr.sameBits] using e2
    · cases hs
  · obtain ⟨j, a, k', b, f, g, rfl, _⟩ := h
    cases hfl
theorem findV_run {kt : TypeId} {k : V} {K : Value} (hk : keyOk P kt k = true) (hfl : flatKey k = true) (hv : RV ι k K) {d : TypeDesc} (hd : P.underlying kt = some d) : ∀ {es : List (V × V × Nat)} {ES : List MapEntry} (i : Nat), EntOk ι es ES → ∀ {r}, findV k es i = some r →
    (r = none ∧ Instr.findNow d K ES i = some none) ∨ (∃ j v b e, r = some (i + j, v, b) ∧ ES[j]? = some e ∧ (∃ k', es[j]? = some (k', v, b)) ∧ RV ι v e.val ∧ e.born = b ∧ Instr.findNow d K ES i = some (some (i + j, e.val)) ∧ Instr.sameBits 10000 e.key K = true)
  | [], ES, i, h, r, hr => by
    cases hr
    have : ES = [] := List.eq_nil_of_length_eq_zero h.1.symm
    subst this
    exact .inl ⟨rfl, rfl⟩
  | (k', v, b) :: es, ES, i, h, r, hr => by
    cases ES with
    | nil => have := h.1; simp at this
    | cons E ES =>
      obtain ⟨e1, e2, e3⟩ := h.2 0 k' v b E rfl rfl
      unfold findV at hr
      split at hr
      · rename_i hs
        cases hr
        obtain ⟨s1, s2⟩ := keySame_run hk hfl hs hv e1 hd
        exact .inr ⟨0, v, b, E, rfl, rfl, ⟨k', rfl⟩, e2, e3, by simp [Instr.findNow, s1], s2 rfl⟩
      · rename_i hs
        obtain ⟨s1, s2⟩ := keySame_run hk hfl hs hv e1 hd
        have hn : ∀ q, Instr.findNow d K (E :: ES) i = q ↔ Instr.findNow d K ES (i + 1) = q := by intro q; simp [Instr.findNow, s1]
        rcases findV_run hk hfl hv hd (i + 1) h.tail hr with ⟨rfl, g⟩ | ⟨j, v', b', e, rfl, g1, ⟨k'', g2⟩, g3, g4, g5, g6⟩
        · exact .inl ⟨rfl, (hn _).2 g⟩
        · refine .inr ⟨j + 1, v', b', e, by rw [Nat.add_assoc, Nat.add_comm 1], by simpa using g1, ⟨k'', by simpa using g2⟩, g3, g4, ?_, g6⟩
          rw [hn]
          rw [Nat.add_assoc, Nat.add_comm 1] at g5
          exact g5
      · cases hr
/-- The same for a key that is a struct of two numbers. -/
theorem findA_run {kt : TypeId} {j k : IntKind} {x y : Int} {f g : Field} (hu : P.underlying kt = some (.struct #[f, g])) (n1 : f.name ≠ "_") (n2 : g.name ≠ "_") (o1 : f.offset = 0) (o2 : g.offset = 1) (hst : P.stoodInHeld kt = false) {q1 q2 : IntKind} (u1 : P.underlying f.type = some (.int q1)) (u2 : P.underlying g.type = some (.int q2)) (w : World) :
    ∀ {es : List (V × V × Nat)} {ES : List MapEntry} (i : Nat), EntOk ι es ES → ∀ {r}, findV (.agg [.int j x, .int k y]) es i = some r →
    (r = none ∧ (Instr.findAsking kt (.agg #[.int j x, .int k y]) ES i).run P w = .ok none w) ∨ (∃ m v b e, r = some (i + m, v, b) ∧ ES[m]? = some e ∧ (∃ k', es[m]? = some (k', v, b)) ∧ RV ι v e.val ∧ e.born = b ∧ (Instr.findAsking kt (.agg #[.int j x, .int k y]) ES i).run P w = .ok (some (i + m, e.val)) w ∧ Instr.sameBits 10000 e.key (.agg #[.int j x, .int k y]) = true)
  | [], ES, i, h, r, hr => by
    cases hr
    have : ES = [] := List.eq_nil_of_length_eq_zero h.1.symm
    subst this
    exact .inl ⟨rfl, by simp [Instr.findAsking]⟩
  | (k', v, b) :: es, ES, i, h, r, hr => by
    cases ES with
    | nil => have := h.1; simp at this
    | cons E ES =>
      obtain ⟨e1, e2, e3⟩ := h.2 0 k' v b E rfl rfl
      have a1 : aggT P f.type = some false := by simp [aggT, u1, aggD]
      have a2 : aggT P g.type = some false := by simp [aggT, u2, aggD]
      have key : ∀ c, keySame (.agg [.int j x, .int k y]) k' = some c → ∃ x' y', k' = .agg [.int j x', .int k y'] ∧ c = (x == x' && y == y') ∧ (Op.equal kt (.agg #[.int j x, .int k y]) E.key).run P w = .ok c w := by
        intro c hc
        unfold keySame at hc
        split at hc
        · rename_i j1 x1 k1 y1 j2 x2 k2 y2 z1
          cases z1
          split at hc
          · rename_i hjk
            obtain ⟨rfl, rfl⟩ := hjk
            cases hc
            refine ⟨x2, y2, rfl, rfl, ?_⟩
            have hq : eqT P 40 kt (.agg [.int j x, .int k y]) (.agg [.int j x2, .int k y2]) = some (x == x2 && y == y2) := by
              simp only [eqT, hu, hst, eqFs, n1, n2, o1, o2, partV, a1, a2, u1, u2, if_false, Bool.false_eq_true, List.getElem?_cons_zero, List.getElem?_cons_succ, if_true]
              cases x == x2 <;> cases y == y2 <;> rfl
            have hX : RV ι (.agg [.int j x, .int k y]) (.agg #[.int j x, .int k y]) := .agg _ _ rfl fun i v c h1 h2 => by
              match i with
              | 0 => cases h1; cases h2; exact .int _ _
              | 1 => cases h1; cases h2; exact .int _ _
              | i + 2 => cases h1
            exact eqT_run 40 hq hX e1 10000 (by decide) w
          · cases hc
        · rename_i z; cases z
        · rename_i z; cases z
        · cases hc
      unfold findV at hr
      split at hr
      · rename_i hs
        cases hr
        obtain ⟨x', y', rfl, hc, hrun⟩ := key true hs
        have hE := pairKey_rv e1
        simp only [Bool.true_eq, Bool.and_eq_true, beq_iff_eq] at hc
        refine .inr ⟨0, v, b, E, rfl, rfl, ⟨_, rfl⟩, e2, e3, by simp [Instr.findAsking, hrun], ?_⟩
        rw [hE, hc.1, hc.2]
        show Instr.sameBits (9999 + 1) _ _ = true
        simp [Instr.sameBits]
      · rename_i hs
        obtain ⟨x', y', rfl, hc, hrun⟩ := key false hs
        have hn : (Instr.findAsking kt (.agg #[.int j x, .int k y]) (E :: ES) i).run P w = (Instr.findAsking kt (.agg #[.int j x, .int k y]) ES (i + 1)).run P w := by
          simp [Instr.findAsking, hrun]
        rcases findA_run hu n1 n2 o1 o2 hst u1 u2 w (i + 1) h.tail hr with ⟨rfl, g⟩ | ⟨m, v', b', e, rfl, g1, ⟨k'', g2⟩, g3, g4, g5, g6⟩
        · exact .inl ⟨rfl, by rw [hn]; exact g⟩
        · refine .inr ⟨m + 1, v', b', e, by rw [Nat.add_assoc, Nat.add_comm 1], by simpa using g1, ⟨k'', by simpa using g2⟩, g3, g4, ?_, g6⟩
          rw [hn, g5, Nat.add_assoc, Nat.add_comm 1]
      · cases hr
theorem findKey_run {kt : TypeId} {d : TypeDesc} (hd : P.underlying kt = some d) {K : Value} {ES : List MapEntry} {r : Option (Nat × Value)} (h : Instr.findNow d K ES 0 = some r) (w : World) : (Instr.findKey kt K ES).run P w = .ok r w := by
  simp [Instr.findKey, run_underlying hd, h]
/-- Where a key stands. -/
theorem findK_run {kt : TypeId} {k : V} {K : Value} (hk : keyOk P kt k = true) (hv : RV ι k K) {es : List (V × V × Nat)} {ES : List MapEntry} (h : EntOk ι es ES) {r : Option (Nat × V × Nat)} (hr : findV k es 0 = some r) (w : World) :
    (r = none ∧ (Instr.findKey kt K ES).run P w = .ok none w) ∨ (∃ j v b e, r = some (j, v, b) ∧ ES[j]? = some e ∧ (∃ k', es[j]? = some (k', v, b)) ∧ RV ι v e.val ∧ e.born = b ∧ (Instr.findKey kt K ES).run P w = .ok (some (j, e.val)) w ∧ Instr.sameBits 10000 e.key K = true) := by
  obtain ⟨d, hd, hkind⟩ := keyOk_kind hk hv
  by_cases hfl : flatKey k = true
  · rcases findV_run hk hfl hv hd 0 h hr with ⟨rfl, g⟩ | ⟨j, v', b', e, rfl, g1, g2, g3, g4, g5, g6⟩
    · exact .inl ⟨rfl, findKey_run hd g w⟩
    · rw [Nat.zero_add] at g5
      exact .inr ⟨j, v', b', e, by rw [Nat.zero_add], g1, g2, g3, g4, findKey_run hd g5 w, g6⟩
  · rcases hkind with h' | h' | h'
    · obtain ⟨_, _, _, rfl, _⟩ := h'; exact absurd rfl hfl
    · obtain ⟨_, _, rfl, _⟩ := h'; exact absurd rfl hfl
    · obtain ⟨j, x, k', y, f, g, rfl, rfl, rfl, h1, h2, h3, h4, h5, ⟨q1, u1⟩, q2, u2⟩ := h'
      have hkey : (Instr.findKey kt (.agg #[.int j x, .int k' y]) ES).run P w = (Instr.findAsking kt (.agg #[.int j x, .int k' y]) ES 0).run P w := by
        cases ES with
        | nil => simp [Instr.findKey, run_underlying hd, Instr.findNow, Instr.findAsking]
        | cons e ES => simp [Instr.findKey, run_underlying hd, Instr.findNow, Instr.sameNow]
      rw [hkey]
      rcases findA_run hd h1 h2 h3 h4 h5 u1 u2 w 0 h hr with ⟨rfl, g⟩ | ⟨m, v', b', e, rfl, g1, g2, g3, g4, g5, g6⟩
      · exact .inl ⟨rfl, g⟩
      · rw [Nat.zero_add] at g5
        exact .inr ⟨m, v', b', e, by rw [Nat.zero_add], g1, g2, g3, g4, g5, g6⟩
theorem mapOk {id : Nat} {pl : Pl} {es : List (V × V × Nat)} {cl : Nat} (hr : Rel ι h w) (hpl : ι id = some pl) (hid : h[id]? = some (.map es cl)) : ∃ ES : Array MapEntry, w.heap[pl.blk]? = some (.map ES cl) ∧ EntOk ι es ES.toList ∧ (getObj pl.blk).run P w = .ok (.map ES cl) w := by
  obtain ⟨ES, h1, h2, h3⟩ := hr.ok _ _ _ hpl hid
  exact ⟨ES, h1, ⟨by simpa using h2, fun i k v b e x y => h3 i k v b e x (by simpa using y)⟩, by simp [getObj, Sem.run, h1]⟩
theorem lookup_out (hr : Rel ι h w) (ht : RVs ι t a.tmps.toList) {ty : TypeId} {x y : Operand} {ok : Bool} {r : V × Heap} (hp : p_lookup P t h ty x y ok = some r) : Out P (do pure (.value (← Instr.lookup ty (a.eval x) (a.eval y) ok))) w ι h r.1 r.2 := by
  unfold p_lookup at hp
  split at hp
  · rename_i m k hx hy
    cases hq : lookupV P ty m k ok h with
    | none => simp [hq] at hp
    | some v =>
      simp [hq] at hp; subst hp
      refine .val hr ?_
      have e1 := ev_rv ht hx
      have e2 := ev_rv ht hy
      generalize a.eval x = X at e1
      generalize a.eval y = K at e2
      unfold lookupV at hq
      split at hq
      · rename_i kt et hu
        split at hq
        · rename_i hk
          split at hq
          · rename_i es z hes hz
            obtain ⟨i, zv, hi, hzero, hzrv, hzrun⟩ := zeroT_run hz ι
            obtain ⟨d, hd, _⟩ := keyOk_kind hk e2
            -- the entries
            have key : ∃ ES : Array MapEntry, EntOk ι es ES.toList ∧ ((X = .map none ∧ ES = #[]) ∨ ∃ b cl, X = .map (some b) ∧ (getObj b).run P w = .ok (.map ES cl) w) := by
              split at hes
              · cases hes; cases e1
                exact ⟨#[], ⟨rfl, fun i k v b e x y => by simp at x⟩, .inl ⟨rfl, rfl⟩⟩
              · rename_i id
                split at hes
                · rename_i es' cl hid
                  cases hes
                  cases e1 with | map _ pl hpl =>
                  obtain ⟨ES, h1, h2, h3⟩ := mapOk (P := P) hr hpl hid
                  exact ⟨ES, h2, .inr ⟨_, _, rfl, h3⟩⟩
                · cases hes
              · cases hes
            obtain ⟨ES, hEnt, hget⟩ := key
            have two : ∀ (v : V) (c : Value), RV ι v c → ∀ b, RV ι (if ok = true then V.tuple [v, .bool b] else v) (if ok = true then Value.tuple #[c, .bool b] else c) := by
              intro v c hv b
              split
              · have := RVs.cons hv (RVs.cons (.bool b) (RVs.nil ι))
                exact .tuple _ _ this.1 fun i v c p q => this.2 i v c p (by simpa using q)
              · exact hv
            cases hfind : findV k es 0 with
            | none => simp [hfind] at hq
            | some fr =>
              rcases findK_run (P := P) hk e2 hEnt hfind w with ⟨rfl, g⟩ | ⟨j, v', b', e, rfl, g1, _, g3, g4, g5, g6⟩
              · simp only [hfind, Option.some.injEq] at hq
                subst hq
                refine ⟨if ok = true then .tuple #[zv, .bool false] else zv, ?_, two _ _ hzrv false⟩
                rcases hget with ⟨rfl, rfl⟩ | ⟨b, cl, rfl, hget⟩
                · simp only [Instr.lookup, Sem.run_bind, run_underlying hu, Result.andThen_ok, Sem.run_pure, checkKey_run hk e2, g, hzrun]
                · simp only [Instr.lookup, Sem.run_bind, run_underlying hu, Result.andThen_ok, Sem.run_pure, hget, checkKey_run hk e2, g, hzrun]
              · simp only [hfind, Option.some.injEq] at hq
                subst hq
                refine ⟨if ok = true then .tuple #[e.val, .bool true] else e.val, ?_, two _ _ g3 true⟩
                rcases hget with ⟨rfl, rfl⟩ | ⟨b, cl, rfl, hget⟩
                · simp at g1
                · simp only [Instr.lookup, Sem.run_bind, run_underlying hu, Result.andThen_ok, Sem.run_pure, hget, checkKey_run hk e2, g5]
          · cases hq
        · cases hq
      · cases hq
  · cases hp
theorem EntOk.set {es : List (V × V × Nat)} {ES : Array MapEntry} (h : EntOk ι es ES.toList) (j : Nat) {k v : V} {b : Nat} {f : MapEntry → MapEntry} (hf : ∀ e, ES[j]? = some e → RV ι k (f e).key ∧ RV ι v (f e).val ∧ (f e).born = b) : EntOk ι (es.set j (k, v, b)) (ES.modify j f).toList := by
  refine ⟨by simpa using h.1, fun i k' v' b' e x y => ?_⟩
  rw [List.getElem?_set] at x
  have y' : (ES.modify j f)[i]? = some e := by rw [← Array.getElem?_toList]; exact y
  rw [Array.getElem?_modify] at y'
  split at x
  · rename_i hij
    rw [if_pos hij] at y'
    split at x
    · cases x
      cases hE : ES[i]? with
      | none => simp [hE] at y'
      | some e0 =>
        simp [hE] at y'; subst y'
        subst hij
        exact hf e0 hE
    · cases x
  · rename_i hij
    rw [if_neg hij] at y'
    exact h.2 i k' v' b' e x (by simpa using y')
theorem EntOk.push {es : List (V × V × Nat)} {ES : Array MapEntry} (h : EntOk ι es ES.toList) {k v : V} {b : Nat} {e : MapEntry} (hk : RV ι k e.key) (hv : RV ι v e.val) (hb : e.born = b) : EntOk ι (es ++ [(k, v, b)]) (ES.push e).toList := by
  refine ⟨by simpa using h.1, fun i k' v' b' e' x y => ?_⟩
  have hl : es.length = ES.size := by simpa using h.1
  have y' : (ES.push e)[i]? = some e' := by rw [← Array.getElem?_toList]; exact y
  rw [Array.getElem?_push] at y'
  by_cases hi : i < es.length
  · rw [List.getElem?_append_left hi] at x
    rw [if_neg (by omega)] at y'
    exact h.2 i k' v' b' e' x (by simpa using y')
  · rw [List.getElem?_append_right (by omega)] at x
    by_cases hi2 : i = ES.size
    · rw [if_pos hi2] at y'
      cases y'
      have : i - es.length = 0 := by omega
      rw [this] at x
      cases x
      exact ⟨hk, hv, hb⟩
    · have := (List.getElem?_eq_some_iff.1 x).1
      simp at this; omega
theorem EntOk.ok {es : List (V × V × Nat)} {ES : Array MapEntry} {cl : Nat} {pl : Pl} (h : EntOk ι es ES.toList) (hlt : pl.blk < w.heap.size) : OK ι { w with heap := w.heap.setIfInBounds pl.blk (.map ES cl) } pl (.map es cl) :=
  ⟨ES, Array.getElem?_setIfInBounds_self_of_lt hlt, by simpa using h.1, fun i k v b e x y => h.2 i k v b e x (by simpa using y)⟩
theorem setObj_run {b : Nat} {ES : Array MapEntry} {cl : Nat} (h : w.heap[b]? = some (.map ES cl)) (o : Obj) : (setObj b o).run P w = .ok () { w with heap := w.heap.setIfInBounds b o } := by simp [setObj, Sem.run, h]
theorem mapUpdate_run (hr : Rel ι h w) {ty : TypeId} {m k v : V} {M K U : Value} (hm : RV ι m M) (hk0 : RV ι k K) (hv : RV ι v U) {h1 : Heap} (hp : mapUpdateV P ty m k v h = some h1) : ∃ w', (Instr.mapUpdate ty M K U).run P w = .ok () w' ∧ Stp ι h w ι h1 w' := by
  unfold mapUpdateV at hp
  split at hp
  · rename_i kt et id hu
    split at hp
    · rename_i hk
      split at hp
      · rename_i es cl hid
        cases hm with | map _ pl hpl =>
        obtain ⟨ES, hb, hEnt, hget⟩ := mapOk (P := P) hr hpl hid
        have hlt : pl.blk < w.heap.size := (Array.getElem?_eq_some_iff.1 hb).1
        obtain ⟨d, hd, _⟩ := keyOk_kind hk hk0
        cases hfind : findV k es 0 with
        | none => simp [hfind] at hp
        | some fr =>
          rcases findK_run (P := P) hk hk0 hEnt hfind w with ⟨rfl, g⟩ | ⟨j, v', b', e, rfl, g1, _, g3, g4, g5, g6⟩
          · simp only [hfind, Option.some.injEq] at hp
            subst hp
            refine ⟨_, ?_, Stp.upd hr hpl hid rfl ((hEnt.push (e := { key := K, val := U, born := cl }) hk0 hv rfl).ok (cl := cl + 1) hlt)⟩
            simp only [Instr.mapUpdate, Sem.run_bind, run_underlying hu, Result.andThen_ok, hget, checkKey_run hk hk0, g, setObj_run hb]
          · simp only [hfind, Option.some.injEq] at hp
            subst hp
            have g1' : ES[j]? = some e := by simpa using g1
            refine ⟨_, ?_, Stp.upd hr hpl hid rfl ((hEnt.set j (f := fun e => { e with key := K, val := U }) fun e0 he0 => ⟨hk0, hv, by rw [g1'] at he0; cases he0; exact g4⟩).ok (cl := cl) hlt)⟩
            have hks : (Instr.keyThatStays (((ES[j]?).map (·.key)).getD K) K).run P w = .ok K w := by
              simp [Instr.keyThatStays, g1', g6]
            simp only [Instr.mapUpdate, Sem.run_bind, run_underlying hu, Result.andThen_ok, hget, checkKey_run hk hk0, g5, hks, setObj_run hb]
      · cases hp
    · cases hp
  · cases hp
theorem mapUpdate_out (hr : Rel ι h w) (ht : RVs ι t a.tmps.toList) {ty : TypeId} {x y z : Operand} {r : V × Heap} (hp : p_mapUpdate P t h ty x y z = some r) : Out P (do Instr.mapUpdate ty (a.eval x) (a.eval y) (a.eval z); pure .skip) w ι h r.1 r.2 := by
  unfold p_mapUpdate at hp
  split at hp
  · rename_i u v s hx hy hz
    cases hq : mapUpdateV P ty u v s h with
    | none => simp [hq] at hp
    | some h1 =>
      simp [hq] at hp; subst hp
      obtain ⟨w', hrun, hst⟩ := mapUpdate_run (P := P) hr (ev_rv ht hx) (ev_rv ht hy) (ev_rv ht hz) hq
      exact .unit ⟨ι, w', hrun, hst⟩
  · cases hp
theorem pair_rv {u v : V} {U W : Value} (h1 : RV ι u U) (h2 : RV ι v W) : RV ι (.tuple [u, v]) (.tuple #[U, W]) := by
  have := RVs.cons h1 (RVs.cons h2 (RVs.nil ι))
  exact .tuple _ _ this.1 fun i v c p q => this.2 i v c p (by simpa using q)
theorem mapEntry_out (hr : Rel ι h w) (ht : RVs ι t a.tmps.toList) {ty : TypeId} {x y : Operand} {r : V × Heap} (hp : p_mapEntry P t h ty x y = some r) : Out P (do pure (.value (← Instr.mapEntry ty (a.eval x) (a.eval y)))) w ι h r.1 r.2 := by
  unfold p_mapEntry at hp
  split at hp
  · rename_i m k hx hy
    have hm := ev_rv ht hx
    have hk0 := ev_rv ht hy
    generalize a.eval x = M at hm
    generalize a.eval y = K at hk0
    unfold mapEntryV at hp
    split at hp
    · rename_i kt et id hu
      split at hp
      · rename_i hk
        split at hp
        · rename_i es cl z hid hz
          obtain ⟨i, zv, hi, hzero, hzrv, hzrun⟩ := zeroT_run hz ι
          cases hm with | map _ pl hpl =>
          obtain ⟨ES, hb, hEnt, hget⟩ := mapOk (P := P) hr hpl hid
          have hlt : pl.blk < w.heap.size := (Array.getElem?_eq_some_iff.1 hb).1
          obtain ⟨d, hd, _⟩ := keyOk_kind hk hk0
          cases hfind : findV k es 0 with
          | none => simp [hfind] at hp
          | some fr =>
            rcases findK_run (P := P) hk hk0 hEnt hfind w with ⟨rfl, g⟩ | ⟨j, v', b', e, rfl, g1, ⟨k', g2⟩, g3, g4, g5, g6⟩
            · simp only [hfind, Option.some.injEq] at hp
              subst hp
              refine .val' ⟨ι, _, .tuple #[zv, .int .i64 cl], ?_, pair_rv hzrv (.int _ _), Stp.upd hr hpl hid rfl ((hEnt.push (e := { key := K, val := zv, born := cl }) hk0 hzrv rfl).ok (cl := cl + 1) hlt)⟩
              simp only [Instr.mapEntry, Sem.run_bind, run_underlying hu, Result.andThen_ok, hget, checkKey_run hk hk0, g, setObj_run hb, hzrun, Sem.run_pure, goInt]
            · simp only [hfind, Option.some.injEq] at hp
              subst hp
              have g1' : ES[j]? = some e := by simpa using g1
              refine .val' ⟨ι, _, .tuple #[e.val, .int .i64 b'], ?_, pair_rv g3 (.int _ _), Stp.upd hr hpl hid rfl ((hEnt.set j (f := fun e => { e with key := K }) fun e0 he0 => ⟨hk0, by rw [g1'] at he0; cases he0; exact g3, by rw [g1'] at he0; cases he0; exact g4⟩).ok (cl := cl) hlt)⟩
              have hks : (Instr.keyThatStays e.key K).run P w = .ok K w := by
                simp [Instr.keyThatStays, g6]
              simp only [Instr.mapEntry, Sem.run_bind, run_underlying hu, Result.andThen_ok, hget, checkKey_run hk hk0, g5, hks, setObj_run hb, Sem.run_pure, goInt, g1', Option.map_some, Option.getD_some, g4]
        · cases hp
      · cases hp
    · cases hp
  · cases hp
theorem findIdx_born {es : List (V × V × Nat)} {ES : List MapEntry} (h : EntOk ι es ES) (n : Int) : es.findIdx? (fun e => (e.2.2 : Int) == n) = ES.findIdx? (fun e => (e.born : Int) == n) := by
  induction es generalizing ES with
  | nil => have : ES = [] := List.eq_nil_of_length_eq_zero h.1.symm; subst this; rfl
  | cons x es ih =>
    cases ES with
    | nil => have := h.1; simp at this
    | cons E ES =>
      obtain ⟨k, v, b⟩ := x
      obtain ⟨_, _, e3⟩ := h.2 0 k v b E rfl rfl
      simp only [List.findIdx?_cons, e3, ih h.tail]
theorem entryStore_out (hr : Rel ι h w) (ht : RVs ι t a.tmps.toList) {ty : TypeId} {x y z : Operand} {r : V × Heap} (hp : p_entryStore P t h x y z = some r) : Out P (do Instr.entryStore ty (a.eval x) (a.eval y) (a.eval z); pure .skip) w ι h r.1 r.2 := by
  unfold p_entryStore at hp
  split at hp
  · rename_i m s v hx hy hz
    cases hq : entryStoreV m s v h with
    | none => simp [hq] at hp
    | some h1 =>
      simp [hq] at hp; subst hp
      have hm := ev_rv ht hx
      have hs := ev_rv ht hy
      have hv := ev_rv ht hz
      generalize a.eval x = M at hm
      generalize a.eval y = S at hs
      unfold entryStoreV at hq
      split at hq
      · rename_i id kk n
        split at hq
        · rename_i es cl hid
          cases hm with | map _ pl hpl =>
          cases hs
          obtain ⟨ES, hb, hEnt, hget⟩ := mapOk (P := P) hr hpl hid
          have hlt : pl.blk < w.heap.size := (Array.getElem?_eq_some_iff.1 hb).1
          split at hq
          · rename_i j hj
            split at hq
            · rename_i k0 v0 b0 hes
              cases hq
              have hj' : ES.findIdx? (fun e => (e.born : Int) == n) = some j := by
                rw [findIdx_born hEnt] at hj
                have hA : ∀ (p : MapEntry → Bool) (A : Array MapEntry), A.findIdx? p = A.toList.findIdx? p := fun p ⟨l⟩ => by simp
                rw [hA]; exact hj
              refine .unit ⟨ι, _, ?_, Stp.upd hr hpl hid rfl ((hEnt.set j (f := fun e => { e with val := a.eval z }) fun e0 he0 => ?_).ok (cl := cl) hlt)⟩
              · simp only [Instr.entryStore, Sem.run_bind, hget, Result.andThen_ok, asInt, asIntOf, Sem.run_pure, hj', setObj_run hb]
              · obtain ⟨q1, q2, q3⟩ := hEnt.2 j k0 v0 b0 e0 hes (by simpa using he0)
                exact ⟨q1, hv, q3⟩
            · cases hq
          · cases hq
        · cases hq
      · cases hq
  · cases hp
theorem delete_out (hr : Rel ι h w) {st ty : TypeId} {ts : List TypeId} {m k : V} {M K : Value} (hm : RV ι m M) (hk0 : RV ι k K) {r : V × Heap} (hp : deleteV P st m k h = some r) : OutB P (Builtin.delete_ (st :: ts).toArray ty #[M, K]) w ι h r.1 r.2 := by
  have htup : RV ι (.tuple []) (.tuple #[]) := .tuple [] #[] rfl fun i v c h => by simp at h
  unfold deleteV at hp
  split at hp
  · rename_i kt et hu
    split at hp
    · rename_i hk
      cases hp; cases hm
      refine OutB.same hr ⟨.tuple #[], ?_, htup⟩
      simp [Builtin.delete_, run_underlying hu, checkKey_run hk hk0]
    · cases hp
  · rename_i kt et id hu
    split at hp
    · rename_i hk
      split at hp
      · rename_i es cl hid
        cases hm with | map _ pl hpl =>
        obtain ⟨ES, hb, hEnt, hget⟩ := mapOk (P := P) hr hpl hid
        have hlt : pl.blk < w.heap.size := (Array.getElem?_eq_some_iff.1 hb).1
        obtain ⟨d, hd, _⟩ := keyOk_kind hk hk0
        cases hfind : findV k es 0 with
        | none => simp [hfind] at hp
        | some fr =>
          rcases findK_run (P := P) hk hk0 hEnt hfind w with ⟨rfl, g⟩ | ⟨j, v', b', e, rfl, g1, ⟨k', g2⟩, g3, g4, g5, g6⟩
          · simp only [hfind, Option.some.injEq] at hp
            subst hp
            refine ⟨ι, _, .tuple #[], ?_, htup, Stp.upd hr hpl hid rfl (hEnt.ok (cl := cl) hlt)⟩
            simp [Builtin.delete_, run_underlying hu, hget, checkKey_run hk hk0, g, setObj_run hb]
          · simp only [hfind, Option.some.injEq] at hp
            subst hp
            have hE : EntOk ι (es.eraseIdx j) (ES.eraseIdxIfInBounds j).toList := by
              have e0 : (ES.eraseIdxIfInBounds j).toList = ES.toList.eraseIdx j := by simp
              rw [e0]
              refine ⟨by simp [List.length_eraseIdx, hEnt.1], fun i k v b e x y => ?_⟩
              rw [List.getElem?_eraseIdx] at x y
              split at x
              · rename_i hi; rw [if_pos hi] at y; exact hEnt.2 i k v b e x y
              · rename_i hi; rw [if_neg hi] at y; exact hEnt.2 (i + 1) k v b e x y
            refine ⟨ι, _, .tuple #[], ?_, htup, Stp.upd hr hpl hid rfl (hE.ok (cl := cl) hlt)⟩
            simp [Builtin.delete_, run_underlying hu, hget, checkKey_run hk hk0, g5, setObj_run hb]
      · cases hp
    · cases hp
  · cases hp
end
end Go.Proofs.YtcaolnmpldbkjaaGreatA
