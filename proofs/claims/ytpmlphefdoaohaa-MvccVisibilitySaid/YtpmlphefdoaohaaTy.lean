/- Written by gent.py, a program of this session: the rules of the types. -/
import Derived.Test.YtpmlphefdoaohaaAxR
import Derived.Test.YtpmlphefdoaohaaProg
namespace Go.Proofs.YtpmlphefdoaohaaA
open Go Go.Proofs Go.RowKit
set_option linter.unusedVariables false
set_option linter.unusedSimpArgs false
theorem ixs_9 {s : List Int} {k : IntKind} {i : Int} (h0 : 0 ≤ i) : indexV Try.prog 9 (.str s) (.int k i) = (s[i.toNat]?).map (.int .u8) := index_str Try.underlying9 h0
theorem sz_74 : szT Try.prog 74 = some 3 := by kernel_rfl
theorem ix_24 {p : Option (Nat × Nat)} {n : Nat} {c : Option Nat} {k : IntKind} {i : Int} (hp : p = none → n = 0) (h0 : 0 ≤ i) (h1 : i < n) : indexAddrV Try.prog 24 (.slice p n c) (.int k i) = some (.ptr (some (sid p, soff p + i.toNat * 3))) := ixa Try.underlying24 sz_74 hp h0 h1
theorem sz_35 : szT Try.prog 35 = some 2 := by kernel_rfl
theorem ix_30 {p : Option (Nat × Nat)} {n : Nat} {c : Option Nat} {k : IntKind} {i : Int} (hp : p = none → n = 0) (h0 : 0 ≤ i) (h1 : i < n) : indexAddrV Try.prog 30 (.slice p n c) (.int k i) = some (.ptr (some (sid p, soff p + i.toNat * 2))) := ixa Try.underlying30 sz_35 hp h0 h1
theorem sz_3 : szT Try.prog 3 = some 1 := by kernel_rfl
theorem ix_38 {p : Option (Nat × Nat)} {n : Nat} {c : Option Nat} {k : IntKind} {i : Int} (hp : p = none → n = 0) (h0 : 0 ≤ i) (h1 : i < n) : indexAddrV Try.prog 38 (.slice p n c) (.int k i) = some (.ptr (some (sid p, soff p + i.toNat * 1))) := ixa Try.underlying38 sz_3 hp h0 h1
theorem sz_26 : szT Try.prog 26 = some 5 := by kernel_rfl
theorem ix_41 {p : Option (Nat × Nat)} {n : Nat} {c : Option Nat} {k : IntKind} {i : Int} (hp : p = none → n = 0) (h0 : 0 ≤ i) (h1 : i < n) : indexAddrV Try.prog 41 (.slice p n c) (.int k i) = some (.ptr (some (sid p, soff p + i.toNat * 5))) := ixa Try.underlying41 sz_26 hp h0 h1
theorem sz_4 : szT Try.prog 4 = some 1 := by kernel_rfl
theorem ix_42 {p : Option (Nat × Nat)} {n : Nat} {c : Option Nat} {k : IntKind} {i : Int} (hp : p = none → n = 0) (h0 : 0 ≤ i) (h1 : i < n) : indexAddrV Try.prog 42 (.slice p n c) (.int k i) = some (.ptr (some (sid p, soff p + i.toNat * 1))) := ixa Try.underlying42 sz_4 hp h0 h1
theorem sz_23 : szT Try.prog 23 = some 2 := by kernel_rfl
theorem ix_48 {p : Option (Nat × Nat)} {n : Nat} {c : Option Nat} {k : IntKind} {i : Int} (hp : p = none → n = 0) (h0 : 0 ≤ i) (h1 : i < n) : indexAddrV Try.prog 48 (.slice p n c) (.int k i) = some (.ptr (some (sid p, soff p + i.toNat * 2))) := ixa Try.underlying48 sz_23 hp h0 h1
theorem ln_9 (s : List Int) (h : Heap) : lenB Try.prog 9 (.str s) h = some (.int .i64 s.length) := len_str Try.underlying9 s h
theorem ln_24 (p : Option (Nat × Nat)) (n : Nat) (c : Option Nat) (h : Heap) : lenB Try.prog 24 (.slice p n c) h = some (.int .i64 n) := len_slice Try.underlying24 p n c h
theorem ln_30 (p : Option (Nat × Nat)) (n : Nat) (c : Option Nat) (h : Heap) : lenB Try.prog 30 (.slice p n c) h = some (.int .i64 n) := len_slice Try.underlying30 p n c h
theorem ln_38 (p : Option (Nat × Nat)) (n : Nat) (c : Option Nat) (h : Heap) : lenB Try.prog 38 (.slice p n c) h = some (.int .i64 n) := len_slice Try.underlying38 p n c h
theorem ln_41 (p : Option (Nat × Nat)) (n : Nat) (c : Option Nat) (h : Heap) : lenB Try.prog 41 (.slice p n c) h = some (.int .i64 n) := len_slice Try.underlying41 p n c h
theorem ln_42 (p : Option (Nat × Nat)) (n : Nat) (c : Option Nat) (h : Heap) : lenB Try.prog 42 (.slice p n c) h = some (.int .i64 n) := len_slice Try.underlying42 p n c h
theorem ln_48 (p : Option (Nat × Nat)) (n : Nat) (c : Option Nat) (h : Heap) : lenB Try.prog 48 (.slice p n c) h = some (.int .i64 n) := len_slice Try.underlying48 p n c h
theorem fa_23_0 (id off : Nat) : fAddrV Try.prog 23 0 (.ptr (some (id, off))) = some (.ptr (some (id, off))) := fAddr_at (o := 0) (by kernel_rfl) id off
theorem fa_23_1 (id off : Nat) : fAddrV Try.prog 23 1 (.ptr (some (id, off))) = some (.ptr (some (id, fld off 1))) := fAddr_at (o := 1) (by kernel_rfl) id off
theorem fa_26_0 (id off : Nat) : fAddrV Try.prog 26 0 (.ptr (some (id, off))) = some (.ptr (some (id, off))) := fAddr_at (o := 0) (by kernel_rfl) id off
theorem fa_26_1 (id off : Nat) : fAddrV Try.prog 26 1 (.ptr (some (id, off))) = some (.ptr (some (id, fld off 2))) := fAddr_at (o := 2) (by kernel_rfl) id off
theorem fa_26_2 (id off : Nat) : fAddrV Try.prog 26 2 (.ptr (some (id, off))) = some (.ptr (some (id, fld off 3))) := fAddr_at (o := 3) (by kernel_rfl) id off
theorem fa_26_3 (id off : Nat) : fAddrV Try.prog 26 3 (.ptr (some (id, off))) = some (.ptr (some (id, fld off 4))) := fAddr_at (o := 4) (by kernel_rfl) id off
theorem fa_35_0 (id off : Nat) : fAddrV Try.prog 35 0 (.ptr (some (id, off))) = some (.ptr (some (id, off))) := fAddr_at (o := 0) (by kernel_rfl) id off
theorem fa_35_1 (id off : Nat) : fAddrV Try.prog 35 1 (.ptr (some (id, off))) = some (.ptr (some (id, fld off 1))) := fAddr_at (o := 1) (by kernel_rfl) id off
theorem fa_55_0 (id off : Nat) : fAddrV Try.prog 55 0 (.ptr (some (id, off))) = some (.ptr (some (id, off))) := fAddr_at (o := 0) (by kernel_rfl) id off
theorem fa_55_1 (id off : Nat) : fAddrV Try.prog 55 1 (.ptr (some (id, off))) = some (.ptr (some (id, fld off 1))) := fAddr_at (o := 1) (by kernel_rfl) id off
theorem fa_74_0 (id off : Nat) : fAddrV Try.prog 74 0 (.ptr (some (id, off))) = some (.ptr (some (id, off))) := fAddr_at (o := 0) (by kernel_rfl) id off
theorem fa_74_1 (id off : Nat) : fAddrV Try.prog 74 1 (.ptr (some (id, off))) = some (.ptr (some (id, fld off 1))) := fAddr_at (o := 1) (by kernel_rfl) id off
theorem fa_74_2 (id off : Nat) : fAddrV Try.prog 74 2 (.ptr (some (id, off))) = some (.ptr (some (id, fld off 2))) := fAddr_at (o := 2) (by kernel_rfl) id off
theorem ag_2 : aggT Try.prog 2 = some false := by kernel_rfl
theorem ld_2 (h : Heap) (id off : Nat) : loadV Try.prog 2 h id off = load1 h id off := loadV_one ag_2 h id off
theorem ag_3 : aggT Try.prog 3 = some false := by kernel_rfl
theorem ld_3 (h : Heap) (id off : Nat) : loadV Try.prog 3 h id off = load1 h id off := loadV_one ag_3 h id off
theorem ag_4 : aggT Try.prog 4 = some false := by kernel_rfl
theorem ld_4 (h : Heap) (id off : Nat) : loadV Try.prog 4 h id off = load1 h id off := loadV_one ag_4 h id off
theorem ag_5 : aggT Try.prog 5 = some false := by kernel_rfl
theorem ld_5 (h : Heap) (id off : Nat) : loadV Try.prog 5 h id off = load1 h id off := loadV_one ag_5 h id off
theorem ag_9 : aggT Try.prog 9 = some false := by kernel_rfl
theorem ld_9 (h : Heap) (id off : Nat) : loadV Try.prog 9 h id off = load1 h id off := loadV_one ag_9 h id off
theorem ag_23 : aggT Try.prog 23 = some true := by kernel_rfl
theorem ld_23 (h : Heap) (id off : Nat) : loadV Try.prog 23 h id off = (loadN h id off 2).map .agg := loadV_agg ag_23 sz_23 h id off
theorem ag_24 : aggT Try.prog 24 = some false := by kernel_rfl
theorem ld_24 (h : Heap) (id off : Nat) : loadV Try.prog 24 h id off = load1 h id off := loadV_one ag_24 h id off
theorem ag_26 : aggT Try.prog 26 = some true := by kernel_rfl
theorem ld_26 (h : Heap) (id off : Nat) : loadV Try.prog 26 h id off = (loadN h id off 5).map .agg := loadV_agg ag_26 sz_26 h id off
theorem ag_38 : aggT Try.prog 38 = some false := by kernel_rfl
theorem ld_38 (h : Heap) (id off : Nat) : loadV Try.prog 38 h id off = load1 h id off := loadV_one ag_38 h id off
theorem ag_74 : aggT Try.prog 74 = some true := by kernel_rfl
theorem ld_74 (h : Heap) (id off : Nat) : loadV Try.prog 74 h id off = (loadN h id off 3).map .agg := loadV_agg ag_74 sz_74 h id off
theorem ag_100 : aggT Try.prog 100 = some false := by kernel_rfl
theorem ld_100 (h : Heap) (id off : Nat) : loadV Try.prog 100 h id off = load1 h id off := loadV_one ag_100 h id off
theorem st_3 (h : Heap) (id off : Nat) (v : V) : storeV Try.prog 3 h id off v = if v.flat.length = 1 then storeN h id off v.flat else none := storeV_as sz_3 h id off v
theorem st_23 (h : Heap) (id off : Nat) (v : V) : storeV Try.prog 23 h id off v = if v.flat.length = 2 then storeN h id off v.flat else none := storeV_as sz_23 h id off v
theorem sz_24 : szT Try.prog 24 = some 1 := by kernel_rfl
theorem st_24 (h : Heap) (id off : Nat) (v : V) : storeV Try.prog 24 h id off v = if v.flat.length = 1 then storeN h id off v.flat else none := storeV_as sz_24 h id off v
theorem st_26 (h : Heap) (id off : Nat) (v : V) : storeV Try.prog 26 h id off v = if v.flat.length = 5 then storeN h id off v.flat else none := storeV_as sz_26 h id off v
theorem sz_38 : szT Try.prog 38 = some 1 := by kernel_rfl
theorem st_38 (h : Heap) (id off : Nat) (v : V) : storeV Try.prog 38 h id off v = if v.flat.length = 1 then storeN h id off v.flat else none := storeV_as sz_38 h id off v
theorem sz_100 : szT Try.prog 100 = some 1 := by kernel_rfl
theorem st_100 (h : Heap) (id off : Nat) (v : V) : storeV Try.prog 100 h id off v = if v.flat.length = 1 then storeN h id off v.flat else none := storeV_as sz_100 h id off v
theorem zs_3 : zerosT Try.prog 3 = some ([.int .i64 0]) := by kernel_rfl
theorem al_3 (tt : List V) (h : Heap) : p_alloc Try.prog tt h 3 = some (.ptr (some (h.length, 0)), h ++ [.cells ([.int .i64 0]) .rw]) := zeros_as zs_3
theorem zs_26 : zerosT Try.prog 26 = some ([.int .i64 0, .int .i64 0, .slice none 0 (some 0), .int .i64 0, .int .i64 0]) := by kernel_rfl
theorem al_26 (tt : List V) (h : Heap) : p_alloc Try.prog tt h 26 = some (.ptr (some (h.length, 0)), h ++ [.cells ([.int .i64 0, .int .i64 0, .slice none 0 (some 0), .int .i64 0, .int .i64 0]) .rw]) := zeros_as zs_26
theorem zs_100 : zerosT Try.prog 100 = some ([.int .u64 0]) := by kernel_rfl
theorem al_100 (tt : List V) (h : Heap) : p_alloc Try.prog tt h 100 = some (.ptr (some (h.length, 0)), h ++ [.cells ([.int .u64 0]) .rw]) := zeros_as zs_100
theorem pl_26_0 : placesT Try.prog 26 0 = some (0, 2) := by kernel_rfl
theorem pl_26_1 : placesT Try.prog 26 1 = some (2, 1) := by kernel_rfl
theorem pl_26_2 : placesT Try.prog 26 2 = some (3, 1) := by kernel_rfl
theorem pl_26_3 : placesT Try.prog 26 3 = some (4, 1) := by kernel_rfl
theorem bd_26 (parts : List (Nat × V)) : buildV Try.prog 26 parts = (fillV (placesT Try.prog 26) ([.int .i64 0, .int .i64 0, .slice none 0 (some 0), .int .i64 0, .int .i64 0]) parts).map .agg := build_as zs_26 Try.underlying26 (by kernel_rfl) parts
theorem zs_55 : zerosT Try.prog 55 = some ([.int .i64 0, .slice none 0 (some 0)]) := by kernel_rfl
theorem pl_55_0 : placesT Try.prog 55 0 = some (0, 1) := by kernel_rfl
theorem pl_55_1 : placesT Try.prog 55 1 = some (1, 1) := by kernel_rfl
theorem bd_55 (parts : List (Nat × V)) : buildV Try.prog 55 parts = (fillV (placesT Try.prog 55) ([.int .i64 0, .slice none 0 (some 0)]) parts).map .agg := build_as zs_55 Try.underlying55 (by kernel_rfl) parts
theorem zs_74 : zerosT Try.prog 74 = some ([.int .i64 0, .int .i64 0, .str []]) := by kernel_rfl
theorem el_24 : elemT Try.prog 24 = some 74 := by kernel_rfl
theorem by_74 : byT Try.prog 74 = some 32 := by kernel_rfl
theorem el_38 : elemT Try.prog 38 = some 3 := by kernel_rfl
theorem by_3 : byT Try.prog 3 = some 8 := by kernel_rfl
theorem el_41 : elemT Try.prog 41 = some 26 := by kernel_rfl
theorem by_26 : byT Try.prog 26 = some 56 := by kernel_rfl
theorem zs_23 : zerosT Try.prog 23 = some ([.int .i64 0, .int .i64 0]) := by kernel_rfl
theorem el_48 : elemT Try.prog 48 = some 23 := by kernel_rfl
theorem by_23 : byT Try.prog 23 = some 16 := by kernel_rfl
theorem ap_24_24 (p : Option (Nat × Nat)) (len : Nat) (cap : Option Nat) (q : Option (Nat × Nat)) (n : Nat) (c : Option Nat) (h : Heap) : appendV Try.prog 24 24 (.slice p len cap) (.slice q n c) h = apv 3 32 p len cap (.slice q n c) n h := (append_as el_24 (by kernel_rfl) sz_74 by_74 zs_74 p len cap h).1 q n c
theorem ap_38_38 (p : Option (Nat × Nat)) (len : Nat) (cap : Option Nat) (q : Option (Nat × Nat)) (n : Nat) (c : Option Nat) (h : Heap) : appendV Try.prog 38 38 (.slice p len cap) (.slice q n c) h = apv 1 8 p len cap (.slice q n c) n h := (append_as el_38 (by kernel_rfl) sz_3 by_3 zs_3 p len cap h).1 q n c
theorem ap_41_41 (p : Option (Nat × Nat)) (len : Nat) (cap : Option Nat) (q : Option (Nat × Nat)) (n : Nat) (c : Option Nat) (h : Heap) : appendV Try.prog 41 41 (.slice p len cap) (.slice q n c) h = apv 5 56 p len cap (.slice q n c) n h := (append_as el_41 (by kernel_rfl) sz_26 by_26 zs_26 p len cap h).1 q n c
theorem ap_48_48 (p : Option (Nat × Nat)) (len : Nat) (cap : Option Nat) (q : Option (Nat × Nat)) (n : Nat) (c : Option Nat) (h : Heap) : appendV Try.prog 48 48 (.slice p len cap) (.slice q n c) h = apv 2 16 p len cap (.slice q n c) n h := (append_as el_48 (by kernel_rfl) sz_23 by_23 zs_23 p len cap h).1 q n c
theorem cp_38 (p : Option (Nat × Nat)) (len : Nat) (cap : Option Nat) (q : Option (Nat × Nat)) (n : Nat) (c : Option Nat) (h : Heap) : copyV Try.prog 38 (.slice p len cap) (.slice q n c) h = cpv 1 p len (.slice q n c) n h := (copy_as el_38 sz_3 p len cap h).1 q n c
theorem cps_38 (p : Option (Nat × Nat)) (len : Nat) (cap : Option Nat) (s : List Int) (h : Heap) : copyV Try.prog 38 (.slice p len cap) (.str s) h = cpv 1 p len (.str s) s.length h := (copy_as el_38 sz_3 p len cap h).2 s
theorem sl_38 (h : Heap) (p : Option (Nat × Nat)) (len : Nat) (cap : Option Nat) (lo hi mx : Option V) : sliceOp Try.prog h 38 (.slice p len cap) lo hi mx = sliceV h 1 p len cap lo hi mx := slice_as Try.underlying38 sz_3 h p len cap lo hi mx
theorem sl_48 (h : Heap) (p : Option (Nat × Nat)) (len : Nat) (cap : Option Nat) (lo hi mx : Option V) : sliceOp Try.prog h 48 (.slice p len cap) lo hi mx = sliceV h 2 p len cap lo hi mx := slice_as Try.underlying48 sz_23 h p len cap lo hi mx
theorem cv_3_68 (k : IntKind) (n : Int) (h : Heap) : convV Try.prog 3 68 (.int k n) h = some (.int .u64 (IntKind.wrap .u64 n), h) := conv_int Try.underlying3 Try.underlying68 k n h
theorem cv_3_100 (k : IntKind) (n : Int) (h : Heap) : convV Try.prog 3 100 (.int k n) h = some (.int .u64 (IntKind.wrap .u64 n), h) := conv_int Try.underlying3 Try.underlying100 k n h
theorem cv_5_3 (k : IntKind) (n : Int) (h : Heap) : convV Try.prog 5 3 (.int k n) h = some (.int .i64 (IntKind.wrap .i64 n), h) := conv_int Try.underlying5 Try.underlying3 k n h
theorem cv_68_3 (k : IntKind) (n : Int) (h : Heap) : convV Try.prog 68 3 (.int k n) h = some (.int .i64 (IntKind.wrap .i64 n), h) := conv_int Try.underlying68 Try.underlying3 k n h
theorem cv_68_97 (k : IntKind) (n : Int) (h : Heap) : convV Try.prog 68 97 (.int k n) h = some (.int .u32 (IntKind.wrap .u32 n), h) := conv_int Try.underlying68 Try.underlying97 k n h
theorem cv_97_5 (k : IntKind) (n : Int) (h : Heap) : convV Try.prog 97 5 (.int k n) h = some (.int .u8 (IntKind.wrap .u8 n), h) := conv_int Try.underlying97 Try.underlying5 k n h
theorem cv_99_5 (k : IntKind) (n : Int) (h : Heap) : convV Try.prog 99 5 (.int k n) h = some (.int .u8 (IntKind.wrap .u8 n), h) := conv_int Try.underlying99 Try.underlying5 k n h
theorem eql_4 (x y : Operand) (a b : Bool) : binV Try.prog .eql 4 x y (.bool a) (.bool b) = some (.bool (decide (a = b))) := bin_eql_bool Try.underlying4 x y a b
theorem neq_4 (x y : Operand) (a b : Bool) : binV Try.prog .neq 4 x y (.bool a) (.bool b) = some (.bool (decide (¬ a = b))) := bin_neq_bool Try.underlying4 x y a b
theorem eqt_3 {d : Nat} (hd : 1 ≤ d) (k : IntKind) (a b : Int) : eqT Try.prog d 3 (.int k a) (.int k b) = some (decide (a = b)) := eqT_int Try.underlying3 hd k a b
theorem eqt_23 {d : Nat} (hd : 4 ≤ d) (a0 b0 : Int) (a1 b1 : Int) : eqT Try.prog d 23 (.agg [.int .i64 a0, .int .i64 a1]) (.agg [.int .i64 b0, .int .i64 b1]) = some (decide (a0 = b0 ∧ a1 = b1)) := by
  obtain ⟨e, rfl⟩ : ∃ e, d = e + 4 := ⟨d - 4, by omega⟩
  rw [eqT_struct Try.underlying23 (by kernel_rfl)]
  simp (disch := first | omega | decide) only [eqFs_cons, eqFs_nil, List.getElem?_cons_zero, List.getElem?_cons_succ, List.drop_succ_cons, List.drop_zero, List.take_succ_cons, List.take_zero, eq_and, eq_last, eqt_3, partV_one ag_3]
theorem eql_23 (x y : Operand) (a b : List V) : binV Try.prog .eql 23 x y (.agg a) (.agg b) = (eqT Try.prog 40 23 (.agg a) (.agg b)).map .bool := bin_eql_agg (by kernel_rfl) x y a b
theorem neq_23 (x y : Operand) (a b : List V) : binV Try.prog .neq 23 x y (.agg a) (.agg b) = (eqT Try.prog 40 23 (.agg a) (.agg b)).map fun r => .bool !r := bin_neq_agg (by kernel_rfl) x y a b
theorem eql_24 (x y : Operand) (p : Option (Nat × Nat)) (n : Nat) (c : Option Nat) : binV Try.prog .eql 24 x y (.slice p n c) (.slice none 0 (some 0)) = some (.bool (decide (p = none))) := bin_eql_nils Try.underlying24 x y p n c
theorem neq_24 (x y : Operand) (p : Option (Nat × Nat)) (n : Nat) (c : Option Nat) : binV Try.prog .neq 24 x y (.slice p n c) (.slice none 0 (some 0)) = some (.bool (decide (¬ p = none))) := bin_neq_nils Try.underlying24 x y p n c
theorem eql_31 (x y : Operand) (p : Option (Nat × Nat)) : binV Try.prog .eql 31 x y (.ptr p) (.ptr none) = some (.bool (decide (p = none))) := bin_eql_nilp Try.underlying31 x y p
theorem neq_31 (x y : Operand) (p : Option (Nat × Nat)) : binV Try.prog .neq 31 x y (.ptr p) (.ptr none) = some (.bool (decide (¬ p = none))) := bin_neq_nilp Try.underlying31 x y p
theorem eql_38 (x y : Operand) (p : Option (Nat × Nat)) (n : Nat) (c : Option Nat) : binV Try.prog .eql 38 x y (.slice p n c) (.slice none 0 (some 0)) = some (.bool (decide (p = none))) := bin_eql_nils Try.underlying38 x y p n c
theorem neq_38 (x y : Operand) (p : Option (Nat × Nat)) (n : Nat) (c : Option Nat) : binV Try.prog .neq 38 x y (.slice p n c) (.slice none 0 (some 0)) = some (.bool (decide (¬ p = none))) := bin_neq_nils Try.underlying38 x y p n c
theorem eql_48 (x y : Operand) (p : Option (Nat × Nat)) (n : Nat) (c : Option Nat) : binV Try.prog .eql 48 x y (.slice p n c) (.slice none 0 (some 0)) = some (.bool (decide (p = none))) := bin_eql_nils Try.underlying48 x y p n c
theorem neq_48 (x y : Operand) (p : Option (Nat × Nat)) (n : Nat) (c : Option Nat) : binV Try.prog .neq 48 x y (.slice p n c) (.slice none 0 (some 0)) = some (.bool (decide (¬ p = none))) := bin_neq_nils Try.underlying48 x y p n c
/-- The rules of the types. -/
theorem TY : type_of% (And.intro (And.intro (And.intro (And.intro (And.intro (And.intro @ixs_9 (And.intro @sz_74 @ix_24)) (And.intro (And.intro @sz_35 @ix_30) (And.intro @sz_3 @ix_38))) (And.intro (And.intro @sz_26 (And.intro @ix_41 @sz_4)) (And.intro (And.intro @ix_42 @sz_23) (And.intro @ix_48 @ln_9)))) (And.intro (And.intro (And.intro @ln_24 (And.intro @ln_30 @ln_38)) (And.intro (And.intro @ln_41 @ln_42) (And.intro @ln_48 @fa_23_0))) (And.intro (And.intro (And.intro @fa_23_1 @fa_26_0) (And.intro @fa_26_1 @fa_26_2)) (And.intro (And.intro @fa_26_3 @fa_35_0) (And.intro @fa_35_1 @fa_55_0))))) (And.intro (And.intro (And.intro (And.intro @fa_55_1 (And.intro @fa_74_0 @fa_74_1)) (And.intro (And.intro @fa_74_2 @ag_2) (And.intro @ld_2 @ag_3))) (And.intro (And.intro @ld_3 (And.intro @ag_4 @ld_4)) (And.intro (And.intro @ag_5 @ld_5) (And.intro @ag_9 @ld_9)))) (And.intro (And.intro (And.intro @ag_23 (And.intro @ld_23 @ag_24)) (And.intro (And.intro @ld_24 @ag_26) (And.intro @ld_26 @ag_38))) (And.intro (And.intro (And.intro @ld_38 @ag_74) (And.intro @ld_74 @ag_100)) (And.intro (And.intro @ld_100 @st_3) (And.intro @st_23 @sz_24)))))) (And.intro (And.intro (And.intro (And.intro (And.intro @st_24 (And.intro @st_26 @sz_38)) (And.intro (And.intro @st_38 @sz_100) (And.intro @st_100 @zs_3))) (And.intro (And.intro @al_3 (And.intro @zs_26 @al_26)) (And.intro (And.intro @zs_100 @al_100) (And.intro @pl_26_0 @pl_26_1)))) (And.intro (And.intro (And.intro @pl_26_2 (And.intro @pl_26_3 @bd_26)) (And.intro (And.intro @zs_55 @pl_55_0) (And.intro @pl_55_1 @bd_55))) (And.intro (And.intro (And.intro @zs_74 @el_24) (And.intro @by_74 @el_38)) (And.intro (And.intro @by_3 @el_41) (And.intro @by_26 @zs_23))))) (And.intro (And.intro (And.intro (And.intro @el_48 (And.intro @by_23 @ap_24_24)) (And.intro (And.intro @ap_38_38 @ap_41_41) (And.intro @ap_48_48 @cp_38))) (And.intro (And.intro (And.intro @cps_38 @sl_38) (And.intro @sl_48 @cv_3_68)) (And.intro (And.intro @cv_3_100 @cv_5_3) (And.intro @cv_68_3 @cv_68_97)))) (And.intro (And.intro (And.intro @cv_97_5 (And.intro @cv_99_5 @eql_4)) (And.intro (And.intro @neq_4 @eql_23) (And.intro @neq_23 @eqt_23))) (And.intro (And.intro (And.intro @eql_24 @neq_24) (And.intro @eql_31 @neq_31)) (And.intro (And.intro @eql_38 @neq_38) (And.intro @eql_48 @neq_48))))))) := (And.intro (And.intro (And.intro (And.intro (And.intro (And.intro @ixs_9 (And.intro @sz_74 @ix_24)) (And.intro (And.intro @sz_35 @ix_30) (And.intro @sz_3 @ix_38))) (And.intro (And.intro @sz_26 (And.intro @ix_41 @sz_4)) (And.intro (And.intro @ix_42 @sz_23) (And.intro @ix_48 @ln_9)))) (And.intro (And.intro (And.intro @ln_24 (And.intro @ln_30 @ln_38)) (And.intro (And.intro @ln_41 @ln_42) (And.intro @ln_48 @fa_23_0))) (And.intro (And.intro (And.intro @fa_23_1 @fa_26_0) (And.intro @fa_26_1 @fa_26_2)) (And.intro (And.intro @fa_26_3 @fa_35_0) (And.intro @fa_35_1 @fa_55_0))))) (And.intro (And.intro (And.intro (And.intro @fa_55_1 (And.intro @fa_74_0 @fa_74_1)) (And.intro (And.intro @fa_74_2 @ag_2) (And.intro @ld_2 @ag_3))) (And.intro (And.intro @ld_3 (And.intro @ag_4 @ld_4)) (And.intro (And.intro @ag_5 @ld_5) (And.intro @ag_9 @ld_9)))) (And.intro (And.intro (And.intro @ag_23 (And.intro @ld_23 @ag_24)) (And.intro (And.intro @ld_24 @ag_26) (And.intro @ld_26 @ag_38))) (And.intro (And.intro (And.intro @ld_38 @ag_74) (And.intro @ld_74 @ag_100)) (And.intro (And.intro @ld_100 @st_3) (And.intro @st_23 @sz_24)))))) (And.intro (And.intro (And.intro (And.intro (And.intro @st_24 (And.intro @st_26 @sz_38)) (And.intro (And.intro @st_38 @sz_100) (And.intro @st_100 @zs_3))) (And.intro (And.intro @al_3 (And.intro @zs_26 @al_26)) (And.intro (And.intro @zs_100 @al_100) (And.intro @pl_26_0 @pl_26_1)))) (And.intro (And.intro (And.intro @pl_26_2 (And.intro @pl_26_3 @bd_26)) (And.intro (And.intro @zs_55 @pl_55_0) (And.intro @pl_55_1 @bd_55))) (And.intro (And.intro (And.intro @zs_74 @el_24) (And.intro @by_74 @el_38)) (And.intro (And.intro @by_3 @el_41) (And.intro @by_26 @zs_23))))) (And.intro (And.intro (And.intro (And.intro @el_48 (And.intro @by_23 @ap_24_24)) (And.intro (And.intro @ap_38_38 @ap_41_41) (And.intro @ap_48_48 @cp_38))) (And.intro (And.intro (And.intro @cps_38 @sl_38) (And.intro @sl_48 @cv_3_68)) (And.intro (And.intro @cv_3_100 @cv_5_3) (And.intro @cv_68_3 @cv_68_97)))) (And.intro (And.intro (And.intro @cv_97_5 (And.intro @cv_99_5 @eql_4)) (And.intro (And.intro @neq_4 @eql_23) (And.intro @neq_23 @eqt_23))) (And.intro (And.intro (And.intro @eql_24 @neq_24) (And.intro @eql_31 @neq_31)) (And.intro (And.intro @eql_38 @neq_38) (And.intro @eql_48 @neq_48)))))))
end Go.Proofs.YtpmlphefdoaohaaA
