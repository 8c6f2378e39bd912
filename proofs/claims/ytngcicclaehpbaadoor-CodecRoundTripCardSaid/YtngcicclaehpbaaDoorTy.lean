/- Written by gent.py, a program of this session: the rules of the types. -/
import Derived.Test.YtngcicclaehpbaaDoorAxR
import Derived.Test.YtngcicclaehpbaaDoorProg
namespace Go.Proofs.YtngcicclaehpbaaDoorA
open Go Go.Proofs Go.RowKit
set_option linter.unusedVariables false
set_option linter.unusedSimpArgs false
theorem ixs_9 {s : List Int} {k : IntKind} {i : Int} (h0 : 0 ≤ i) : indexV Tryd.prog 9 (.str s) (.int k i) = (s[i.toNat]?).map (.int .u8) := index_str Tryd.underlying9 h0
theorem sz_26 : szT Tryd.prog 26 = some 3 := by kernel_rfl
theorem ix_22 {p : Option (Nat × Nat)} {n : Nat} {c : Option Nat} {k : IntKind} {i : Int} (hp : p = none → n = 0) (h0 : 0 ≤ i) (h1 : i < n) : indexAddrV Tryd.prog 22 (.slice p n c) (.int k i) = some (.ptr (some (sid p, soff p + i.toNat * 3))) := ixa Tryd.underlying22 sz_26 hp h0 h1
theorem sz_5 : szT Tryd.prog 5 = some 1 := by kernel_rfl
theorem ix_28 {p : Option (Nat × Nat)} {n : Nat} {c : Option Nat} {k : IntKind} {i : Int} (hp : p = none → n = 0) (h0 : 0 ≤ i) (h1 : i < n) : indexAddrV Tryd.prog 28 (.slice p n c) (.int k i) = some (.ptr (some (sid p, soff p + i.toNat * 1))) := ixa Tryd.underlying28 sz_5 hp h0 h1
theorem sz_22 : szT Tryd.prog 22 = some 1 := by kernel_rfl
theorem ix_60 {p : Option (Nat × Nat)} {n : Nat} {c : Option Nat} {k : IntKind} {i : Int} (hp : p = none → n = 0) (h0 : 0 ≤ i) (h1 : i < n) : indexAddrV Tryd.prog 60 (.slice p n c) (.int k i) = some (.ptr (some (sid p, soff p + i.toNat * 1))) := ixa Tryd.underlying60 sz_22 hp h0 h1
theorem ixr_85 {id off : Nat} {k : IntKind} {i : Int} (h0 : 0 ≤ i) (h1 : i < 256) : indexAddrV Tryd.prog 85 (.ptr (some (id, off))) (.int k i) = some (.ptr (some (id, off + i.toNat * 1))) := ixr Tryd.underlying85 sz_5 h0 h1
theorem sz_87 : szT Tryd.prog 87 = some 2 := by kernel_rfl
theorem ixr_88 {id off : Nat} {k : IntKind} {i : Int} (h0 : 0 ≤ i) (h1 : i < 16) : indexAddrV Tryd.prog 88 (.ptr (some (id, off))) (.int k i) = some (.ptr (some (id, off + i.toNat * 2))) := ixr Tryd.underlying88 sz_87 h0 h1
theorem ln_9 (s : List Int) (h : Heap) : lenB Tryd.prog 9 (.str s) h = some (.int .i64 s.length) := len_str Tryd.underlying9 s h
theorem ln_22 (p : Option (Nat × Nat)) (n : Nat) (c : Option Nat) (h : Heap) : lenB Tryd.prog 22 (.slice p n c) h = some (.int .i64 n) := len_slice Tryd.underlying22 p n c h
theorem ln_28 (p : Option (Nat × Nat)) (n : Nat) (c : Option Nat) (h : Heap) : lenB Tryd.prog 28 (.slice p n c) h = some (.int .i64 n) := len_slice Tryd.underlying28 p n c h
theorem ln_60 (p : Option (Nat × Nat)) (n : Nat) (c : Option Nat) (h : Heap) : lenB Tryd.prog 60 (.slice p n c) h = some (.int .i64 n) := len_slice Tryd.underlying60 p n c h
theorem fa_26_0 (id off : Nat) : fAddrV Tryd.prog 26 0 (.ptr (some (id, off))) = some (.ptr (some (id, off))) := fAddr_at (o := 0) (by kernel_rfl) id off
theorem fa_26_1 (id off : Nat) : fAddrV Tryd.prog 26 1 (.ptr (some (id, off))) = some (.ptr (some (id, fld off 1))) := fAddr_at (o := 1) (by kernel_rfl) id off
theorem fa_26_2 (id off : Nat) : fAddrV Tryd.prog 26 2 (.ptr (some (id, off))) = some (.ptr (some (id, fld off 2))) := fAddr_at (o := 2) (by kernel_rfl) id off
theorem fa_87_0 (id off : Nat) : fAddrV Tryd.prog 87 0 (.ptr (some (id, off))) = some (.ptr (some (id, off))) := fAddr_at (o := 0) (by kernel_rfl) id off
theorem fa_87_1 (id off : Nat) : fAddrV Tryd.prog 87 1 (.ptr (some (id, off))) = some (.ptr (some (id, fld off 1))) := fAddr_at (o := 1) (by kernel_rfl) id off
theorem ag_2 : aggT Tryd.prog 2 = some false := by kernel_rfl
theorem ld_2 (h : Heap) (id off : Nat) : loadV Tryd.prog 2 h id off = load1 h id off := loadV_one ag_2 h id off
theorem ag_3 : aggT Tryd.prog 3 = some false := by kernel_rfl
theorem ld_3 (h : Heap) (id off : Nat) : loadV Tryd.prog 3 h id off = load1 h id off := loadV_one ag_3 h id off
theorem ag_5 : aggT Tryd.prog 5 = some false := by kernel_rfl
theorem ld_5 (h : Heap) (id off : Nat) : loadV Tryd.prog 5 h id off = load1 h id off := loadV_one ag_5 h id off
theorem ag_9 : aggT Tryd.prog 9 = some false := by kernel_rfl
theorem ld_9 (h : Heap) (id off : Nat) : loadV Tryd.prog 9 h id off = load1 h id off := loadV_one ag_9 h id off
theorem ag_22 : aggT Tryd.prog 22 = some false := by kernel_rfl
theorem ld_22 (h : Heap) (id off : Nat) : loadV Tryd.prog 22 h id off = load1 h id off := loadV_one ag_22 h id off
theorem ag_26 : aggT Tryd.prog 26 = some true := by kernel_rfl
theorem ld_26 (h : Heap) (id off : Nat) : loadV Tryd.prog 26 h id off = (loadN h id off 3).map .agg := loadV_agg ag_26 sz_26 h id off
theorem ag_87 : aggT Tryd.prog 87 = some true := by kernel_rfl
theorem ld_87 (h : Heap) (id off : Nat) : loadV Tryd.prog 87 h id off = (loadN h id off 2).map .agg := loadV_agg ag_87 sz_87 h id off
theorem sz_2 : szT Tryd.prog 2 = some 1 := by kernel_rfl
theorem st_2 (h : Heap) (id off : Nat) (v : V) : storeV Tryd.prog 2 h id off v = if v.flat.length = 1 then storeN h id off v.flat else none := storeV_as sz_2 h id off v
theorem st_5 (h : Heap) (id off : Nat) (v : V) : storeV Tryd.prog 5 h id off v = if v.flat.length = 1 then storeN h id off v.flat else none := storeV_as sz_5 h id off v
theorem sz_9 : szT Tryd.prog 9 = some 1 := by kernel_rfl
theorem st_9 (h : Heap) (id off : Nat) (v : V) : storeV Tryd.prog 9 h id off v = if v.flat.length = 1 then storeN h id off v.flat else none := storeV_as sz_9 h id off v
theorem st_26 (h : Heap) (id off : Nat) (v : V) : storeV Tryd.prog 26 h id off v = if v.flat.length = 3 then storeN h id off v.flat else none := storeV_as sz_26 h id off v
theorem st_87 (h : Heap) (id off : Nat) (v : V) : storeV Tryd.prog 87 h id off v = if v.flat.length = 2 then storeN h id off v.flat else none := storeV_as sz_87 h id off v
theorem sz_88 : szT Tryd.prog 88 = some 32 := by kernel_rfl
theorem st_88 (h : Heap) (id off : Nat) (v : V) : storeV Tryd.prog 88 h id off v = if v.flat.length = 32 then storeN h id off v.flat else none := storeV_as sz_88 h id off v
theorem zs_26 : zerosT Tryd.prog 26 = some ([.int .i64 0, .int .i64 0, .str []]) := by kernel_rfl
theorem al_26 (tt : List V) (h : Heap) : p_alloc Tryd.prog tt h 26 = some (.ptr (some (h.length, 0)), h ++ [.cells ([.int .i64 0, .int .i64 0, .str []]) .rw]) := zeros_as zs_26
theorem zs_87 : zerosT Tryd.prog 87 = some ([.int .u8 0, .int .u8 0]) := by kernel_rfl
theorem al_87 (tt : List V) (h : Heap) : p_alloc Tryd.prog tt h 87 = some (.ptr (some (h.length, 0)), h ++ [.cells ([.int .u8 0, .int .u8 0]) .rw]) := zeros_as zs_87
theorem pl_26_0 : placesT Tryd.prog 26 0 = some (0, 1) := by kernel_rfl
theorem pl_26_1 : placesT Tryd.prog 26 1 = some (1, 1) := by kernel_rfl
theorem pl_26_2 : placesT Tryd.prog 26 2 = some (2, 1) := by kernel_rfl
theorem bd_26 (parts : List (Nat × V)) : buildV Tryd.prog 26 parts = (fillV (placesT Tryd.prog 26) ([.int .i64 0, .int .i64 0, .str []]) parts).map .agg := build_as zs_26 Tryd.underlying26 (by kernel_rfl) parts
theorem pl_87_0 : placesT Tryd.prog 87 0 = some (0, 1) := by kernel_rfl
theorem pl_87_1 : placesT Tryd.prog 87 1 = some (1, 1) := by kernel_rfl
theorem bd_87 (parts : List (Nat × V)) : buildV Tryd.prog 87 parts = (fillV (placesT Tryd.prog 87) ([.int .u8 0, .int .u8 0]) parts).map .agg := build_as zs_87 Tryd.underlying87 (by kernel_rfl) parts
theorem zs_88 : zerosT Tryd.prog 88 = some ([.int .u8 0, .int .u8 0, .int .u8 0, .int .u8 0, .int .u8 0, .int .u8 0, .int .u8 0, .int .u8 0, .int .u8 0, .int .u8 0, .int .u8 0, .int .u8 0, .int .u8 0, .int .u8 0, .int .u8 0, .int .u8 0, .int .u8 0, .int .u8 0, .int .u8 0, .int .u8 0, .int .u8 0, .int .u8 0, .int .u8 0, .int .u8 0, .int .u8 0, .int .u8 0, .int .u8 0, .int .u8 0, .int .u8 0, .int .u8 0, .int .u8 0, .int .u8 0]) := by kernel_rfl
theorem bd_88 (parts : List (Nat × V)) : buildV Tryd.prog 88 parts = (fillV (fun i => some (i * 2, 2)) ([.int .u8 0, .int .u8 0, .int .u8 0, .int .u8 0, .int .u8 0, .int .u8 0, .int .u8 0, .int .u8 0, .int .u8 0, .int .u8 0, .int .u8 0, .int .u8 0, .int .u8 0, .int .u8 0, .int .u8 0, .int .u8 0, .int .u8 0, .int .u8 0, .int .u8 0, .int .u8 0, .int .u8 0, .int .u8 0, .int .u8 0, .int .u8 0, .int .u8 0, .int .u8 0, .int .u8 0, .int .u8 0, .int .u8 0, .int .u8 0, .int .u8 0, .int .u8 0]) parts).map .agg := build_arr zs_88 Tryd.underlying88 sz_87 parts
theorem el_22 : elemT Tryd.prog 22 = some 26 := by kernel_rfl
theorem by_26 : byT Tryd.prog 26 = some 32 := by kernel_rfl
theorem zs_5 : zerosT Tryd.prog 5 = some ([.int .u8 0]) := by kernel_rfl
theorem el_28 : elemT Tryd.prog 28 = some 5 := by kernel_rfl
theorem by_5 : byT Tryd.prog 5 = some 1 := by kernel_rfl
theorem zs_22 : zerosT Tryd.prog 22 = some ([.slice none 0 (some 0)]) := by kernel_rfl
theorem el_60 : elemT Tryd.prog 60 = some 22 := by kernel_rfl
theorem by_22 : byT Tryd.prog 22 = some 24 := by kernel_rfl
theorem ap_22_22 (p : Option (Nat × Nat)) (len : Nat) (cap : Option Nat) (q : Option (Nat × Nat)) (n : Nat) (c : Option Nat) (h : Heap) : appendV Tryd.prog 22 22 (.slice p len cap) (.slice q n c) h = apv 3 32 p len cap (.slice q n c) n h := (append_as el_22 (by kernel_rfl) sz_26 by_26 zs_26 p len cap h).1 q n c
theorem ap_28_9 (p : Option (Nat × Nat)) (len : Nat) (cap : Option Nat) (s : List Int) (h : Heap) : appendV Tryd.prog 28 9 (.slice p len cap) (.str s) h = apv 1 1 p len cap (.str s) s.length h := (append_as el_28 (by kernel_rfl) sz_5 by_5 zs_5 p len cap h).2 s
theorem ap_28_28 (p : Option (Nat × Nat)) (len : Nat) (cap : Option Nat) (q : Option (Nat × Nat)) (n : Nat) (c : Option Nat) (h : Heap) : appendV Tryd.prog 28 28 (.slice p len cap) (.slice q n c) h = apv 1 1 p len cap (.slice q n c) n h := (append_as el_28 (by kernel_rfl) sz_5 by_5 zs_5 p len cap h).1 q n c
theorem cp_28 (p : Option (Nat × Nat)) (len : Nat) (cap : Option Nat) (q : Option (Nat × Nat)) (n : Nat) (c : Option Nat) (h : Heap) : copyV Tryd.prog 28 (.slice p len cap) (.slice q n c) h = cpv 1 p len (.slice q n c) n h := (copy_as el_28 sz_5 p len cap h).1 q n c
theorem cps_28 (p : Option (Nat × Nat)) (len : Nat) (cap : Option Nat) (s : List Int) (h : Heap) : copyV Tryd.prog 28 (.slice p len cap) (.str s) h = cpv 1 p len (.str s) s.length h := (copy_as el_28 sz_5 p len cap h).2 s
theorem sl_28 (h : Heap) (p : Option (Nat × Nat)) (len : Nat) (cap : Option Nat) (lo hi mx : Option V) : sliceOp Tryd.prog h 28 (.slice p len cap) lo hi mx = sliceV h 1 p len cap lo hi mx := slice_as Tryd.underlying28 sz_5 h p len cap lo hi mx
theorem ms_28 {k k' : IntKind} {l c : Int} (h : Heap) (h0 : 0 ≤ l) (hlc : l ≤ c) (hc : c ≤ 9223372036854775807) (hB : (1 : Int) * c ≤ 281474976710656) : makeSliceV Tryd.prog 28 (.int k l) (.int k' c) h = some (.slice (some (h.length, 0)) l.toNat (some c.toNat), h ++ [.cells (reps c.toNat ([.int .u8 0])) .rw]) := makeSlice_as el_28 by_5 zs_5 h h0 hlc hc hB
theorem cv_2_5 (k : IntKind) (n : Int) (h : Heap) : convV Tryd.prog 2 5 (.int k n) h = some (.int .u8 (IntKind.wrap .u8 n), h) := conv_int Tryd.underlying2 Tryd.underlying5 k n h
theorem cv_2_38 (k : IntKind) (n : Int) (h : Heap) : convV Tryd.prog 2 38 (.int k n) h = some (.int .u64 (IntKind.wrap .u64 n), h) := conv_int Tryd.underlying2 Tryd.underlying38 k n h
theorem cv_3_5 (k : IntKind) (n : Int) (h : Heap) : convV Tryd.prog 3 5 (.int k n) h = some (.int .u8 (IntKind.wrap .u8 n), h) := conv_int Tryd.underlying3 Tryd.underlying5 k n h
theorem cv_3_38 (k : IntKind) (n : Int) (h : Heap) : convV Tryd.prog 3 38 (.int k n) h = some (.int .u64 (IntKind.wrap .u64 n), h) := conv_int Tryd.underlying3 Tryd.underlying38 k n h
theorem cv_3_65 (k : IntKind) (n : Int) (h : Heap) : convV Tryd.prog 3 65 (.int k n) h = some (.int .u64 (IntKind.wrap .u64 n), h) := conv_int Tryd.underlying3 Tryd.underlying65 k n h
theorem cv_5_2 (k : IntKind) (n : Int) (h : Heap) : convV Tryd.prog 5 2 (.int k n) h = some (.int .i64 (IntKind.wrap .i64 n), h) := conv_int Tryd.underlying5 Tryd.underlying2 k n h
theorem cv_5_3 (k : IntKind) (n : Int) (h : Heap) : convV Tryd.prog 5 3 (.int k n) h = some (.int .i64 (IntKind.wrap .i64 n), h) := conv_int Tryd.underlying5 Tryd.underlying3 k n h
theorem cv_5_21 (k : IntKind) (n : Int) (h : Heap) : convV Tryd.prog 5 21 (.int k n) h = some (.int .i32 (IntKind.wrap .i32 n), h) := conv_int Tryd.underlying5 Tryd.underlying21 k n h
theorem cv_5_34 (k : IntKind) (n : Int) (h : Heap) : convV Tryd.prog 5 34 (.int k n) h = some (.int .u32 (IntKind.wrap .u32 n), h) := conv_int Tryd.underlying5 Tryd.underlying34 k n h
theorem cv_5_38 (k : IntKind) (n : Int) (h : Heap) : convV Tryd.prog 5 38 (.int k n) h = some (.int .u64 (IntKind.wrap .u64 n), h) := conv_int Tryd.underlying5 Tryd.underlying38 k n h
theorem cv_9_28 (s : List Int) (h : Heap) : convV Tryd.prog 9 28 (.str s) h = some (.slice (some (h.length, 0)) s.length none, h ++ [.cells (s.map (.int .u8)) (.gr 1)]) := conv_sb Tryd.underlying9 Tryd.underlying28 Tryd.underlying5 s h
theorem cv_28_9 {p : Option (Nat × Nat)} {c : Option Nat} {h h0 : Heap} {s : List Int} (sl : Sl h0 p 1 eb s) (hx : Ext h0 h) (hb : ∀ b ∈ s, 0 ≤ b ∧ b < 256) : convV Tryd.prog 28 9 (.slice p s.length c) h = some (.str s, h) := conv_bs Tryd.underlying28 Tryd.underlying5 Tryd.underlying9 sl hx hb
theorem cv_38_2 (k : IntKind) (n : Int) (h : Heap) : convV Tryd.prog 38 2 (.int k n) h = some (.int .i64 (IntKind.wrap .i64 n), h) := conv_int Tryd.underlying38 Tryd.underlying2 k n h
theorem cv_38_3 (k : IntKind) (n : Int) (h : Heap) : convV Tryd.prog 38 3 (.int k n) h = some (.int .i64 (IntKind.wrap .i64 n), h) := conv_int Tryd.underlying38 Tryd.underlying3 k n h
theorem cv_38_5 (k : IntKind) (n : Int) (h : Heap) : convV Tryd.prog 38 5 (.int k n) h = some (.int .u8 (IntKind.wrap .u8 n), h) := conv_int Tryd.underlying38 Tryd.underlying5 k n h
theorem eql_28 (x y : Operand) (p : Option (Nat × Nat)) (n : Nat) (c : Option Nat) : binV Tryd.prog .eql 28 x y (.slice p n c) (.slice none 0 (some 0)) = some (.bool (decide (p = none))) := bin_eql_nils Tryd.underlying28 x y p n c
theorem neq_28 (x y : Operand) (p : Option (Nat × Nat)) (n : Nat) (c : Option Nat) : binV Tryd.prog .neq 28 x y (.slice p n c) (.slice none 0 (some 0)) = some (.bool (decide (¬ p = none))) := bin_neq_nils Tryd.underlying28 x y p n c
/-- The rules of the types. -/
theorem TY : type_of% (And.intro (And.intro (And.intro (And.intro (And.intro (And.intro @ixs_9 @sz_26) (And.intro @ix_22 (And.intro @sz_5 @ix_28))) (And.intro (And.intro @sz_22 @ix_60) (And.intro @ixr_85 (And.intro @sz_87 @ixr_88)))) (And.intro (And.intro (And.intro @ln_9 @ln_22) (And.intro @ln_28 (And.intro @ln_60 @fa_26_0))) (And.intro (And.intro @fa_26_1 (And.intro @fa_26_2 @fa_87_0)) (And.intro @fa_87_1 (And.intro @ag_2 @ld_2))))) (And.intro (And.intro (And.intro (And.intro @ag_3 @ld_3) (And.intro @ag_5 (And.intro @ld_5 @ag_9))) (And.intro (And.intro @ld_9 (And.intro @ag_22 @ld_22)) (And.intro @ag_26 (And.intro @ld_26 @ag_87)))) (And.intro (And.intro (And.intro @ld_87 @sz_2) (And.intro @st_2 (And.intro @st_5 @sz_9))) (And.intro (And.intro @st_9 (And.intro @st_26 @st_87)) (And.intro @sz_88 (And.intro @st_88 @zs_26)))))) (And.intro (And.intro (And.intro (And.intro (And.intro @al_26 @zs_87) (And.intro @al_87 (And.intro @pl_26_0 @pl_26_1))) (And.intro (And.intro @pl_26_2 (And.intro @bd_26 @pl_87_0)) (And.intro @pl_87_1 (And.intro @bd_87 @zs_88)))) (And.intro (And.intro (And.intro @bd_88 @el_22) (And.intro @by_26 (And.intro @zs_5 @el_28))) (And.intro (And.intro @by_5 (And.intro @zs_22 @el_60)) (And.intro @by_22 (And.intro @ap_22_22 @ap_28_9))))) (And.intro (And.intro (And.intro (And.intro @ap_28_28 @cp_28) (And.intro @cps_28 (And.intro @sl_28 @ms_28))) (And.intro (And.intro @cv_2_5 (And.intro @cv_2_38 @cv_3_5)) (And.intro @cv_3_38 (And.intro @cv_3_65 @cv_5_2)))) (And.intro (And.intro (And.intro @cv_5_3 @cv_5_21) (And.intro @cv_5_34 (And.intro @cv_5_38 @cv_9_28))) (And.intro (And.intro @cv_28_9 (And.intro @cv_38_2 @cv_38_3)) (And.intro @cv_38_5 (And.intro @eql_28 @neq_28))))))) := (And.intro (And.intro (And.intro (And.intro (And.intro (And.intro @ixs_9 @sz_26) (And.intro @ix_22 (And.intro @sz_5 @ix_28))) (And.intro (And.intro @sz_22 @ix_60) (And.intro @ixr_85 (And.intro @sz_87 @ixr_88)))) (And.intro (And.intro (And.intro @ln_9 @ln_22) (And.intro @ln_28 (And.intro @ln_60 @fa_26_0))) (And.intro (And.intro @fa_26_1 (And.intro @fa_26_2 @fa_87_0)) (And.intro @fa_87_1 (And.intro @ag_2 @ld_2))))) (And.intro (And.intro (And.intro (And.intro @ag_3 @ld_3) (And.intro @ag_5 (And.intro @ld_5 @ag_9))) (And.intro (And.intro @ld_9 (And.intro @ag_22 @ld_22)) (And.intro @ag_26 (And.intro @ld_26 @ag_87)))) (And.intro (And.intro (And.intro @ld_87 @sz_2) (And.intro @st_2 (And.intro @st_5 @sz_9))) (And.intro (And.intro @st_9 (And.intro @st_26 @st_87)) (And.intro @sz_88 (And.intro @st_88 @zs_26)))))) (And.intro (And.intro (And.intro (And.intro (And.intro @al_26 @zs_87) (And.intro @al_87 (And.intro @pl_26_0 @pl_26_1))) (And.intro (And.intro @pl_26_2 (And.intro @bd_26 @pl_87_0)) (And.intro @pl_87_1 (And.intro @bd_87 @zs_88)))) (And.intro (And.intro (And.intro @bd_88 @el_22) (And.intro @by_26 (And.intro @zs_5 @el_28))) (And.intro (And.intro @by_5 (And.intro @zs_22 @el_60)) (And.intro @by_22 (And.intro @ap_22_22 @ap_28_9))))) (And.intro (And.intro (And.intro (And.intro @ap_28_28 @cp_28) (And.intro @cps_28 (And.intro @sl_28 @ms_28))) (And.intro (And.intro @cv_2_5 (And.intro @cv_2_38 @cv_3_5)) (And.intro @cv_3_38 (And.intro @cv_3_65 @cv_5_2)))) (And.intro (And.intro (And.intro @cv_5_3 @cv_5_21) (And.intro @cv_5_34 (And.intro @cv_5_38 @cv_9_28))) (And.intro (And.intro @cv_28_9 (And.intro @cv_38_2 @cv_38_3)) (And.intro @cv_38_5 (And.intro @eql_28 @neq_28)))))))
end Go.Proofs.YtngcicclaehpbaaDoorA
