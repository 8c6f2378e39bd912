/- Words of this session: slices.overlaps, told by hand: slices in blocks that can not be one. -/
import Derived.Test.YtcaolnmpldbkjaaGreatAx31
import Derived.Test.YtcaolnmpldbkjaaGreatAx24
import Derived.Lib.Overlaps
import GoSem.Extern.SlicesOverlaps
namespace Go.Proofs.YtcaolnmpldbkjaaGreatA
open Go Go.RowKit
set_option linter.unusedVariables false
set_option linter.unusedSimpArgs false
def plainB (h : Heap) (i : Nat) : Bool := match h[i]? with
  | some (.cells _ .rw) => true
  | _ => false
def fullB (h : Heap) (i : Nat) : Bool := match h[i]? with
  | some (.cells (_ :: _) _) => true
  | _ => false
def ovHook (args : List V) (h : Heap) : Option (V × Heap) := match args with
  | [.slice pa la ca, .slice pb lb cb] =>
    if la = 0 ∨ lb = 0 then some (.bool false, h) else
    match pa, pb with
    | some (ia, _), some (ib, _) => if ia ≠ ib ∧ plainB h ia = true ∧ fullB h ib = true then some (.bool false, h) else none
    | _, _ => none
  | _ => none
theorem ovHook_heap {args : List V} {h : Heap} {r : V × Heap} (q : ovHook args h = some r) : r = (.bool false, h) := by
  unfold ovHook at q
  split at q
  · split at q
    · cases q; rfl
    · split at q
      · split at q
        · cases q; rfl
        · cases q
      · cases q
  · cases q
theorem ovHook_mono {args : List V} {h : Heap} {r : V × Heap} (q : ovHook args h = some r) : Mono h r.2 := by
  rw [ovHook_heap q]; exact Mono.refl _
theorem slice_val {ι : Mp} {p : Option (Nat × Nat)} {len : Nat} {cap : Option Nat} {X : Value} (h : RV ι (.slice p len cap) X) : ∃ A c, X = .slice A len c ∧ (1 ≤ len → ∃ id off pl a, p = some (id, off) ∧ A = some a ∧ ι id = some pl ∧ a.block = pl.blk ∧ a.spot = none) := by
  cases h with
  | sliceN => exact ⟨none, 0, rfl, fun q => by omega⟩
  | slice id off len cap c a pl hi hs =>
    refine ⟨some a, c, rfl, fun q => ⟨id, off, pl, a, rfl, rfl, hi, ?_⟩⟩
    rcases hs with ⟨q1, _⟩ | ⟨q1, q2, _⟩
    · omega
    · exact ⟨q1, q2⟩
theorem ovHook_goes {P : Program} {f : FuncId} {fn : Func} {tS tR e : TypeId} {size : Nat} (hf : P.funcs[f]? = some fn) (hname : (fn.name == "runtime.NumGoroutine") = false) (hb : fn.body.isNone = true) (hn : Extern.findNext fn = none)
    (he : Extern.find fn = some (Extern.SlicesOverlaps.overlaps #[tS, tS] #[tR])) (ht : P.underlying tS = some (.slice e)) (hz : szT P e = some size) {args : List V} {h : Heap} {v : V} {h' : Heap} (q : ovHook args h = some (v, h')) (ι : Mp) (w : World) (A : Array Value) (hr : Rel ι h w) (ha : RVs ι args A.toList) (hfr : Free ι h.length h'.length) :
    CallsTo P f A w fun x w' => ∃ κ, RV κ v x ∧ Stp ι h w κ h' w' := by
  have q0 := ovHook_heap q
  cases q0
  unfold ovHook at q
  split at q
  · rename_i pa la ca pb lb cb
    right
    obtain ⟨x, l1, e1, hx, hl1⟩ := ha.head
    obtain ⟨y, l2, e2, hy, hl2⟩ := hl1.head
    have e3 := hl2.nil_inv
    subst e3; subst e2
    have hA : A = #[x, y] := by cases A; simp_all
    subst hA
    obtain ⟨Aa, c1, rfl, ka⟩ := slice_val hx
    obtain ⟨Ab, c2, rfl, kb⟩ := slice_val hy
    refine ⟨.bool false, w, ?_, ι, .bool _, .refl hr⟩
    rw [run_callFunc_extern hf hname hb hn he]
    suffices hh : (Extern.SlicesOverlaps.overlaps #[tS, tS] #[tR] #[.slice Aa la c1, .slice Ab lb c2]).run P w = .ok (.bool false) w by rw [hh]; rfl
    by_cases h0 : la = 0 ∨ lb = 0
    · have hsz := szT_run hz
      change Sem.run P (α := Value) (do
        let some t := (#[tS, tS] : Array TypeId)[0]? | stuck "slices.overlaps: no parameter types"
        let .slice elem ← underlying t | stuck "slices.overlaps: slice type expected"
        let size ← sizeOf elem
        match (Aa : Option Addr), (Ab : Option Addr) with
        | some a, some b =>
          if la = 0 ∨ lb = 0 ∨ size = 0 then pure (Value.bool false)
          else if a.block != b.block && (← frozen a) && (← frozen b) then unsupported .addressObserved
          else do
            if a.block != b.block then do
              noView a; noView b
              if ← mayBeOne a b then return Value.bool ((← choose (.extern "sameAddr.stringBytes" 2)) == 1)
            pure (Value.bool (a.block == b.block && a.off < b.off + lb * size && b.off < a.off + la * size))
        | _, _ => pure (Value.bool false)) w = _
      have h1 : la = 0 ∨ lb = 0 ∨ size = 0 := by rcases h0 with h0 | h0 <;> simp [h0]
      cases Aa <;> cases Ab <;> simp [run_underlying ht, hsz, h1]
    · rw [if_neg h0] at q
      obtain ⟨ia, oa, pla, a, rfl, rfl, ja, ba, sa⟩ := ka (by omega)
      obtain ⟨ib, ob, plb, b, rfl, rfl, jb, bb, sb⟩ := kb (by omega)
      simp only [] at q
      split at q
      · rename_i hc
        obtain ⟨hne, hp, hfu⟩ := hc
        unfold plainB at hp
        unfold fullB at hfu
        split at hp
        · rename_i cs hcs
          split at hfu
          · rename_i u us k hus
            obtain ⟨C, E, fz, f1, _, f3, _⟩ := hr.ok ia pla _ ja hcs
            obtain ⟨C', E', fz', g1, g2, _⟩ := hr.ok ib plb _ jb hus
            have hfz : fz.1 = fz.2 := (f3 (by simp)).resolve_right (fun z => z.2 rfl)
            have hblk := hr.sep ia ib pla plb _ _ hne ja jb hcs hus rfl rfl
            have hk : C'.size ≠ 0 := by
              obtain ⟨_, c, hc, _⟩ := g2 0 u rfl
              have := (Array.getElem?_eq_some_iff.1 hc).1
              omega
            have hfro : ∀ o, w.frozen? { block := a.block, off := o } = false := fun o => by
              unfold World.frozen?
              simp only [ba, f1]
              rcases fz with ⟨x, y⟩
              simp only at hfz ⊢
              subst hfz
              by_cases h1 : x ≤ o
              · have : ¬ o < x := by omega
                simp [this]
              · simp [h1]
            have hA : a = { block := a.block, off := a.off, spot := none } := by cases a; simp at sa; simp [sa]
            refine Go.Lib.run_overlaps_apart w tS tR e ht size (szT_run hz) a b la c1 lb c2 (by rw [ba, bb]; exact hblk) E E' C.size C'.size (by unfold World.shape?; rw [ba, f1]) (by unfold World.shape?; rw [bb, g1]) hk ?_ (hfro _)
            rw [hA]; exact hfro _
          · cases hfu
        · cases hp
      · cases q
  · cases q
end Go.Proofs.YtcaolnmpldbkjaaGreatA
