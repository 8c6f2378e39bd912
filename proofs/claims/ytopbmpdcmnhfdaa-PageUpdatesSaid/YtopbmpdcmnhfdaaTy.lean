/- Written by gent.py, a program of this session: the rules of the types. -/
import Derived.Test.YtopbmpdcmnhfdaaAxR
import Derived.Test.YtopbmpdcmnhfdaaProg
namespace Go.Proofs.YtopbmpdcmnhfdaaA
open Go Go.Proofs Go.RowKit
set_option linter.unusedVariables false
set_option linter.unusedSimpArgs false
theorem sz_25 : szT Try.prog 25 = some 1 := by kernel_rfl
theorem ix_22 {p : Option (Nat × Nat)} {n : Nat} {c : Option Nat} {k : IntKind} {i : Int} (hp : p = none → n = 0) (h0 : 0 ≤ i) (h1 : i < n) : indexAddrV Try.prog 22 (.slice p n c) (.int k i) = some (.ptr (some (sid p, soff p + i.toNat * 1))) := ixa Try.underlying22 sz_25 hp h0 h1
theorem sz_5 : szT Try.prog 5 = some 1 := by kernel_rfl
theorem ix_25 {p : Option (Nat × Nat)} {n : Nat} {c : Option Nat} {k : IntKind} {i : Int} (hp : p = none → n = 0) (h0 : 0 ≤ i) (h1 : i < n) : indexAddrV Try.prog 25 (.slice p n c) (.int k i) = some (.ptr (some (sid p, soff p + i.toNat * 1))) := ixa Try.underlying25 sz_5 hp h0 h1
theorem ln_22 (p : Option (Nat × Nat)) (n : Nat) (c : Option Nat) (h : Heap) : lenB Try.prog 22 (.slice p n c) h = some (.int .i64 n) := len_slice Try.underlying22 p n c h
theorem ln_25 (p : Option (Nat × Nat)) (n : Nat) (c : Option Nat) (h : Heap) : lenB Try.prog 25 (.slice p n c) h = some (.int .i64 n) := len_slice Try.underlying25 p n c h
theorem ag_5 : aggT Try.prog 5 = some false := by kernel_rfl
theorem ld_5 (h : Heap) (id off : Nat) : loadV Try.prog 5 h id off = load1 h id off := loadV_one ag_5 h id off
theorem ag_25 : aggT Try.prog 25 = some false := by kernel_rfl
theorem ld_25 (h : Heap) (id off : Nat) : loadV Try.prog 25 h id off = load1 h id off := loadV_one ag_25 h id off
theorem st_5 (h : Heap) (id off : Nat) (v : V) : storeV Try.prog 5 h id off v = if v.flat.length = 1 then storeN h id off v.flat else none := storeV_as sz_5 h id off v
theorem st_25 (h : Heap) (id off : Nat) (v : V) : storeV Try.prog 25 h id off v = if v.flat.length = 1 then storeN h id off v.flat else none := storeV_as sz_25 h id off v
theorem zs_25 : zerosT Try.prog 25 = some ([.slice none 0 (some 0)]) := by kernel_rfl
theorem el_22 : elemT Try.prog 22 = some 25 := by kernel_rfl
theorem by_25 : byT Try.prog 25 = some 24 := by kernel_rfl
theorem zs_5 : zerosT Try.prog 5 = some ([.int .u8 0]) := by kernel_rfl
theorem el_25 : elemT Try.prog 25 = some 5 := by kernel_rfl
theorem by_5 : byT Try.prog 5 = some 1 := by kernel_rfl
theorem ap_22_22 (p : Option (Nat × Nat)) (len : Nat) (cap : Option Nat) (q : Option (Nat × Nat)) (n : Nat) (c : Option Nat) (h : Heap) : appendV Try.prog 22 22 (.slice p len cap) (.slice q n c) h = apv 1 24 p len cap (.slice q n c) n h := (append_as el_22 (by kernel_rfl) sz_25 by_25 zs_25 p len cap h).1 q n c
theorem ap_25_25 (p : Option (Nat × Nat)) (len : Nat) (cap : Option Nat) (q : Option (Nat × Nat)) (n : Nat) (c : Option Nat) (h : Heap) : appendV Try.prog 25 25 (.slice p len cap) (.slice q n c) h = apv 1 1 p len cap (.slice q n c) n h := (append_as el_25 (by kernel_rfl) sz_5 by_5 zs_5 p len cap h).1 q n c
theorem cp_22 (p : Option (Nat × Nat)) (len : Nat) (cap : Option Nat) (q : Option (Nat × Nat)) (n : Nat) (c : Option Nat) (h : Heap) : copyV Try.prog 22 (.slice p len cap) (.slice q n c) h = cpv 1 p len (.slice q n c) n h := (copy_as el_22 sz_25 p len cap h).1 q n c
theorem cps_22 (p : Option (Nat × Nat)) (len : Nat) (cap : Option Nat) (s : List Int) (h : Heap) : copyV Try.prog 22 (.slice p len cap) (.str s) h = cpv 1 p len (.str s) s.length h := (copy_as el_22 sz_25 p len cap h).2 s
theorem cp_25 (p : Option (Nat × Nat)) (len : Nat) (cap : Option Nat) (q : Option (Nat × Nat)) (n : Nat) (c : Option Nat) (h : Heap) : copyV Try.prog 25 (.slice p len cap) (.slice q n c) h = cpv 1 p len (.slice q n c) n h := (copy_as el_25 sz_5 p len cap h).1 q n c
theorem cps_25 (p : Option (Nat × Nat)) (len : Nat) (cap : Option Nat) (s : List Int) (h : Heap) : copyV Try.prog 25 (.slice p len cap) (.str s) h = cpv 1 p len (.str s) s.length h := (copy_as el_25 sz_5 p len cap h).2 s
theorem sl_22 (h : Heap) (p : Option (Nat × Nat)) (len : Nat) (cap : Option Nat) (lo hi mx : Option V) : sliceOp Try.prog h 22 (.slice p len cap) lo hi mx = sliceV h 1 p len cap lo hi mx := slice_as Try.underlying22 sz_25 h p len cap lo hi mx
theorem sl_25 (h : Heap) (p : Option (Nat × Nat)) (len : Nat) (cap : Option Nat) (lo hi mx : Option V) : sliceOp Try.prog h 25 (.slice p len cap) lo hi mx = sliceV h 1 p len cap lo hi mx := slice_as Try.underlying25 sz_5 h p len cap lo hi mx
theorem ms_25 {k k' : IntKind} {l c : Int} (h : Heap) (h0 : 0 ≤ l) (hlc : l ≤ c) (hc : c ≤ 9223372036854775807) (hB : (1 : Int) * c ≤ 281474976710656) : makeSliceV Try.prog 25 (.int k l) (.int k' c) h = some (.slice (some (h.length, 0)) l.toNat (some c.toNat), h ++ [.cells (reps c.toNat ([.int .u8 0])) .rw]) := makeSlice_as el_25 by_5 zs_5 h h0 hlc hc hB
theorem cv_3_5 (k : IntKind) (n : Int) (h : Heap) : convV Try.prog 3 5 (.int k n) h = some (.int .u8 (IntKind.wrap .u8 n), h) := conv_int Try.underlying3 Try.underlying5 k n h
theorem cv_5_3 (k : IntKind) (n : Int) (h : Heap) : convV Try.prog 5 3 (.int k n) h = some (.int .i64 (IntKind.wrap .i64 n), h) := conv_int Try.underlying5 Try.underlying3 k n h
theorem cv_5_49 (k : IntKind) (n : Int) (h : Heap) : convV Try.prog 5 49 (.int k n) h = some (.int .u32 (IntKind.wrap .u32 n), h) := conv_int Try.underlying5 Try.underlying49 k n h
theorem cv_25_9 {p : Option (Nat × Nat)} {c : Option Nat} {h h0 : Heap} {s : List Int} (sl : Sl h0 p 1 eb s) (hx : Ext h0 h) (hb : ∀ b ∈ s, 0 ≤ b ∧ b < 256) : convV Try.prog 25 9 (.slice p s.length c) h = some (.str s, h) := conv_bs Try.underlying25 Try.underlying5 Try.underlying9 sl hx hb
theorem cv_42_3 (k : IntKind) (n : Int) (h : Heap) : convV Try.prog 42 3 (.int k n) h = some (.int .i64 (IntKind.wrap .i64 n), h) := conv_int Try.underlying42 Try.underlying3 k n h
theorem cv_49_3 (k : IntKind) (n : Int) (h : Heap) : convV Try.prog 49 3 (.int k n) h = some (.int .i64 (IntKind.wrap .i64 n), h) := conv_int Try.underlying49 Try.underlying3 k n h
theorem cv_49_5 (k : IntKind) (n : Int) (h : Heap) : convV Try.prog 49 5 (.int k n) h = some (.int .u8 (IntKind.wrap .u8 n), h) := conv_int Try.underlying49 Try.underlying5 k n h
theorem eql_4 (x y : Operand) (a b : Bool) : binV Try.prog .eql 4 x y (.bool a) (.bool b) = some (.bool (decide (a = b))) := bin_eql_bool Try.underlying4 x y a b
theorem neq_4 (x y : Operand) (a b : Bool) : binV Try.prog .neq 4 x y (.bool a) (.bool b) = some (.bool (decide (¬ a = b))) := bin_neq_bool Try.underlying4 x y a b
theorem eql_25 (x y : Operand) (p : Option (Nat × Nat)) (n : Nat) (c : Option Nat) : binV Try.prog .eql 25 x y (.slice p n c) (.slice none 0 (some 0)) = some (.bool (decide (p = none))) := bin_eql_nils Try.underlying25 x y p n c
theorem neq_25 (x y : Operand) (p : Option (Nat × Nat)) (n : Nat) (c : Option Nat) : binV Try.prog .neq 25 x y (.slice p n c) (.slice none 0 (some 0)) = some (.bool (decide (¬ p = none))) := bin_neq_nils Try.underlying25 x y p n c
theorem eql_61 (x y : Operand) (p : Option (Nat × Nat)) : binV Try.prog .eql 61 x y (.ptr p) (.ptr none) = some (.bool (decide (p = none))) := bin_eql_nilp Try.underlying61 x y p
theorem neq_61 (x y : Operand) (p : Option (Nat × Nat)) : binV Try.prog .neq 61 x y (.ptr p) (.ptr none) = some (.bool (decide (¬ p = none))) := bin_neq_nilp Try.underlying61 x y p
theorem lit_0 : bytesOf ⟨#[99, 97, 98]⟩ = [99, 97, 98] := rfl
theorem lit_1 : bytesOf ⟨#[110, 101, 101, 100, 108, 101, 32, 110, 111, 116, 32, 102, 111, 117, 110, 100]⟩ = [110, 101, 101, 100, 108, 101, 32, 110, 111, 116, 32, 102, 111, 117, 110, 100] := rfl
/-- The rules of the types. -/
theorem TY : type_of% (And.intro (And.intro (And.intro (And.intro (And.intro @sz_25 @ix_22) (And.intro @sz_5 (And.intro @ix_25 @ln_22))) (And.intro (And.intro @ln_25 @ag_5) (And.intro @ld_5 (And.intro @ag_25 @ld_25)))) (And.intro (And.intro (And.intro @st_5 @st_25) (And.intro @zs_25 (And.intro @el_22 @by_25))) (And.intro (And.intro @zs_5 @el_25) (And.intro @by_5 (And.intro @ap_22_22 @ap_25_25))))) (And.intro (And.intro (And.intro (And.intro @cp_22 @cps_22) (And.intro @cp_25 (And.intro @cps_25 @sl_22))) (And.intro (And.intro @sl_25 @cv_3_5) (And.intro @cv_5_3 (And.intro @cv_5_49 @cv_25_9)))) (And.intro (And.intro (And.intro @cv_42_3 @cv_49_3) (And.intro @cv_49_5 (And.intro @eql_4 @neq_4))) (And.intro (And.intro @eql_25 (And.intro @neq_25 @eql_61)) (And.intro @neq_61 (And.intro @lit_0 @lit_1)))))) := (And.intro (And.intro (And.intro (And.intro (And.intro @sz_25 @ix_22) (And.intro @sz_5 (And.intro @ix_25 @ln_22))) (And.intro (And.intro @ln_25 @ag_5) (And.intro @ld_5 (And.intro @ag_25 @ld_25)))) (And.intro (And.intro (And.intro @st_5 @st_25) (And.intro @zs_25 (And.intro @el_22 @by_25))) (And.intro (And.intro @zs_5 @el_25) (And.intro @by_5 (And.intro @ap_22_22 @ap_25_25))))) (And.intro (And.intro (And.intro (And.intro @cp_22 @cps_22) (And.intro @cp_25 (And.intro @cps_25 @sl_22))) (And.intro (And.intro @sl_25 @cv_3_5) (And.intro @cv_5_3 (And.intro @cv_5_49 @cv_25_9)))) (And.intro (And.intro (And.intro @cv_42_3 @cv_49_3) (And.intro @cv_49_5 (And.intro @eql_4 @neq_4))) (And.intro (And.intro @eql_25 (And.intro @neq_25 @eql_61)) (And.intro @neq_61 (And.intro @lit_0 @lit_1))))))
end Go.Proofs.YtopbmpdcmnhfdaaA
