/- Written by gent.py, a program of this session: the rules of the types. -/
import Derived.Test.YtcaolnmpldbkjaaAxR
import Derived.Test.YtcaolnmpldbkjaaProg
namespace Go.Proofs.YtcaolnmpldbkjaaA
open Go Go.Proofs Go.RowKit
set_option linter.unusedVariables false
set_option linter.unusedSimpArgs false
theorem ixs_9 {s : List Int} {k : IntKind} {i : Int} (h0 : 0 ≤ i) : indexV Try.prog 9 (.str s) (.int k i) = (s[i.toNat]?).map (.int .u8) := index_str Try.underlying9 h0
theorem sz_45 : szT Try.prog 45 = some 5 := by kernel_rfl
theorem ix_22 {p : Option (Nat × Nat)} {n : Nat} {c : Option Nat} {k : IntKind} {i : Int} (hp : p = none → n = 0) (h0 : 0 ≤ i) (h1 : i < n) : indexAddrV Try.prog 22 (.slice p n c) (.int k i) = some (.ptr (some (sid p, soff p + i.toNat * 5))) := ixa Try.underlying22 sz_45 hp h0 h1
theorem sz_54 : szT Try.prog 54 = some 7 := by kernel_rfl
theorem ix_23 {p : Option (Nat × Nat)} {n : Nat} {c : Option Nat} {k : IntKind} {i : Int} (hp : p = none → n = 0) (h0 : 0 ≤ i) (h1 : i < n) : indexAddrV Try.prog 23 (.slice p n c) (.int k i) = some (.ptr (some (sid p, soff p + i.toNat * 7))) := ixa Try.underlying23 sz_54 hp h0 h1
theorem sz_34 : szT Try.prog 34 = some 5 := by kernel_rfl
theorem ix_24 {p : Option (Nat × Nat)} {n : Nat} {c : Option Nat} {k : IntKind} {i : Int} (hp : p = none → n = 0) (h0 : 0 ≤ i) (h1 : i < n) : indexAddrV Try.prog 24 (.slice p n c) (.int k i) = some (.ptr (some (sid p, soff p + i.toNat * 5))) := ixa Try.underlying24 sz_34 hp h0 h1
theorem sz_59 : szT Try.prog 59 = some 3 := by kernel_rfl
theorem ix_32 {p : Option (Nat × Nat)} {n : Nat} {c : Option Nat} {k : IntKind} {i : Int} (hp : p = none → n = 0) (h0 : 0 ≤ i) (h1 : i < n) : indexAddrV Try.prog 32 (.slice p n c) (.int k i) = some (.ptr (some (sid p, soff p + i.toNat * 3))) := ixa Try.underlying32 sz_59 hp h0 h1
theorem sz_77 : szT Try.prog 77 = some 2 := by kernel_rfl
theorem ix_41 {p : Option (Nat × Nat)} {n : Nat} {c : Option Nat} {k : IntKind} {i : Int} (hp : p = none → n = 0) (h0 : 0 ≤ i) (h1 : i < n) : indexAddrV Try.prog 41 (.slice p n c) (.int k i) = some (.ptr (some (sid p, soff p + i.toNat * 2))) := ixa Try.underlying41 sz_77 hp h0 h1
theorem sz_3 : szT Try.prog 3 = some 1 := by kernel_rfl
theorem ix_42 {p : Option (Nat × Nat)} {n : Nat} {c : Option Nat} {k : IntKind} {i : Int} (hp : p = none → n = 0) (h0 : 0 ≤ i) (h1 : i < n) : indexAddrV Try.prog 42 (.slice p n c) (.int k i) = some (.ptr (some (sid p, soff p + i.toNat * 1))) := ixa Try.underlying42 sz_3 hp h0 h1
theorem sz_81 : szT Try.prog 81 = some 4 := by kernel_rfl
theorem ix_63 {p : Option (Nat × Nat)} {n : Nat} {c : Option Nat} {k : IntKind} {i : Int} (hp : p = none → n = 0) (h0 : 0 ≤ i) (h1 : i < n) : indexAddrV Try.prog 63 (.slice p n c) (.int k i) = some (.ptr (some (sid p, soff p + i.toNat * 4))) := ixa Try.underlying63 sz_81 hp h0 h1
theorem sz_32 : szT Try.prog 32 = some 1 := by kernel_rfl
theorem ix_96 {p : Option (Nat × Nat)} {n : Nat} {c : Option Nat} {k : IntKind} {i : Int} (hp : p = none → n = 0) (h0 : 0 ≤ i) (h1 : i < n) : indexAddrV Try.prog 96 (.slice p n c) (.int k i) = some (.ptr (some (sid p, soff p + i.toNat * 1))) := ixa Try.underlying96 sz_32 hp h0 h1
theorem ln_9 (s : List Int) (h : Heap) : lenB Try.prog 9 (.str s) h = some (.int .i64 s.length) := len_str Try.underlying9 s h
theorem ln_22 (p : Option (Nat × Nat)) (n : Nat) (c : Option Nat) (h : Heap) : lenB Try.prog 22 (.slice p n c) h = some (.int .i64 n) := len_slice Try.underlying22 p n c h
theorem ln_23 (p : Option (Nat × Nat)) (n : Nat) (c : Option Nat) (h : Heap) : lenB Try.prog 23 (.slice p n c) h = some (.int .i64 n) := len_slice Try.underlying23 p n c h
theorem ln_24 (p : Option (Nat × Nat)) (n : Nat) (c : Option Nat) (h : Heap) : lenB Try.prog 24 (.slice p n c) h = some (.int .i64 n) := len_slice Try.underlying24 p n c h
theorem ln_32 (p : Option (Nat × Nat)) (n : Nat) (c : Option Nat) (h : Heap) : lenB Try.prog 32 (.slice p n c) h = some (.int .i64 n) := len_slice Try.underlying32 p n c h
theorem ln_41 (p : Option (Nat × Nat)) (n : Nat) (c : Option Nat) (h : Heap) : lenB Try.prog 41 (.slice p n c) h = some (.int .i64 n) := len_slice Try.underlying41 p n c h
theorem ln_42 (p : Option (Nat × Nat)) (n : Nat) (c : Option Nat) (h : Heap) : lenB Try.prog 42 (.slice p n c) h = some (.int .i64 n) := len_slice Try.underlying42 p n c h
theorem ln_63 (p : Option (Nat × Nat)) (n : Nat) (c : Option Nat) (h : Heap) : lenB Try.prog 63 (.slice p n c) h = some (.int .i64 n) := len_slice Try.underlying63 p n c h
theorem ln_96 (p : Option (Nat × Nat)) (n : Nat) (c : Option Nat) (h : Heap) : lenB Try.prog 96 (.slice p n c) h = some (.int .i64 n) := len_slice Try.underlying96 p n c h
theorem fa_31_0 (id off : Nat) : fAddrV Try.prog 31 0 (.ptr (some (id, off))) = some (.ptr (some (id, off))) := fAddr_at (o := 0) (by kernel_rfl) id off
theorem fa_31_1 (id off : Nat) : fAddrV Try.prog 31 1 (.ptr (some (id, off))) = some (.ptr (some (id, fld off 1))) := fAddr_at (o := 1) (by kernel_rfl) id off
theorem fa_34_0 (id off : Nat) : fAddrV Try.prog 34 0 (.ptr (some (id, off))) = some (.ptr (some (id, off))) := fAddr_at (o := 0) (by kernel_rfl) id off
theorem fa_34_1 (id off : Nat) : fAddrV Try.prog 34 1 (.ptr (some (id, off))) = some (.ptr (some (id, fld off 2))) := fAddr_at (o := 2) (by kernel_rfl) id off
theorem fa_34_2 (id off : Nat) : fAddrV Try.prog 34 2 (.ptr (some (id, off))) = some (.ptr (some (id, fld off 3))) := fAddr_at (o := 3) (by kernel_rfl) id off
theorem fa_34_3 (id off : Nat) : fAddrV Try.prog 34 3 (.ptr (some (id, off))) = some (.ptr (some (id, fld off 4))) := fAddr_at (o := 4) (by kernel_rfl) id off
theorem fa_45_0 (id off : Nat) : fAddrV Try.prog 45 0 (.ptr (some (id, off))) = some (.ptr (some (id, off))) := fAddr_at (o := 0) (by kernel_rfl) id off
theorem fa_45_2 (id off : Nat) : fAddrV Try.prog 45 2 (.ptr (some (id, off))) = some (.ptr (some (id, fld off 2))) := fAddr_at (o := 2) (by kernel_rfl) id off
theorem fa_45_3 (id off : Nat) : fAddrV Try.prog 45 3 (.ptr (some (id, off))) = some (.ptr (some (id, fld off 3))) := fAddr_at (o := 3) (by kernel_rfl) id off
theorem fa_54_0 (id off : Nat) : fAddrV Try.prog 54 0 (.ptr (some (id, off))) = some (.ptr (some (id, off))) := fAddr_at (o := 0) (by kernel_rfl) id off
theorem fa_54_1 (id off : Nat) : fAddrV Try.prog 54 1 (.ptr (some (id, off))) = some (.ptr (some (id, fld off 1))) := fAddr_at (o := 1) (by kernel_rfl) id off
theorem fa_54_2 (id off : Nat) : fAddrV Try.prog 54 2 (.ptr (some (id, off))) = some (.ptr (some (id, fld off 6))) := fAddr_at (o := 6) (by kernel_rfl) id off
theorem fa_59_0 (id off : Nat) : fAddrV Try.prog 59 0 (.ptr (some (id, off))) = some (.ptr (some (id, off))) := fAddr_at (o := 0) (by kernel_rfl) id off
theorem fa_59_1 (id off : Nat) : fAddrV Try.prog 59 1 (.ptr (some (id, off))) = some (.ptr (some (id, fld off 1))) := fAddr_at (o := 1) (by kernel_rfl) id off
theorem fa_59_2 (id off : Nat) : fAddrV Try.prog 59 2 (.ptr (some (id, off))) = some (.ptr (some (id, fld off 2))) := fAddr_at (o := 2) (by kernel_rfl) id off
theorem fa_65_0 (id off : Nat) : fAddrV Try.prog 65 0 (.ptr (some (id, off))) = some (.ptr (some (id, off))) := fAddr_at (o := 0) (by kernel_rfl) id off
theorem fa_65_1 (id off : Nat) : fAddrV Try.prog 65 1 (.ptr (some (id, off))) = some (.ptr (some (id, fld off 1))) := fAddr_at (o := 1) (by kernel_rfl) id off
theorem fa_65_2 (id off : Nat) : fAddrV Try.prog 65 2 (.ptr (some (id, off))) = some (.ptr (some (id, fld off 2))) := fAddr_at (o := 2) (by kernel_rfl) id off
theorem fa_77_1 (id off : Nat) : fAddrV Try.prog 77 1 (.ptr (some (id, off))) = some (.ptr (some (id, fld off 1))) := fAddr_at (o := 1) (by kernel_rfl) id off
theorem fa_81_0 (id off : Nat) : fAddrV Try.prog 81 0 (.ptr (some (id, off))) = some (.ptr (some (id, off))) := fAddr_at (o := 0) (by kernel_rfl) id off
theorem fa_81_1 (id off : Nat) : fAddrV Try.prog 81 1 (.ptr (some (id, off))) = some (.ptr (some (id, fld off 1))) := fAddr_at (o := 1) (by kernel_rfl) id off
theorem fa_81_2 (id off : Nat) : fAddrV Try.prog 81 2 (.ptr (some (id, off))) = some (.ptr (some (id, fld off 3))) := fAddr_at (o := 3) (by kernel_rfl) id off
theorem ag_2 : aggT Try.prog 2 = some false := by kernel_rfl
theorem ld_2 (h : Heap) (id off : Nat) : loadV Try.prog 2 h id off = load1 h id off := loadV_one ag_2 h id off
theorem ag_3 : aggT Try.prog 3 = some false := by kernel_rfl
theorem ld_3 (h : Heap) (id off : Nat) : loadV Try.prog 3 h id off = load1 h id off := loadV_one ag_3 h id off
theorem ag_4 : aggT Try.prog 4 = some false := by kernel_rfl
theorem ld_4 (h : Heap) (id off : Nat) : loadV Try.prog 4 h id off = load1 h id off := loadV_one ag_4 h id off
theorem ag_5 : aggT Try.prog 5 = some false := by kernel_rfl
theorem ld_5 (h : Heap) (id off : Nat) : loadV Try.prog 5 h id off = load1 h id off := loadV_one ag_5 h id off
theorem ag_9 : aggT Try.prog 9 = some false := by kernel_rfl
theorem ld_9 (h : Heap) (id off : Nat) : loadV Try.prog 9 h id off = load1 h id off := loadV_one ag_9 h id off
theorem ag_22 : aggT Try.prog 22 = some false := by kernel_rfl
theorem ld_22 (h : Heap) (id off : Nat) : loadV Try.prog 22 h id off = load1 h id off := loadV_one ag_22 h id off
theorem ag_24 : aggT Try.prog 24 = some false := by kernel_rfl
theorem ld_24 (h : Heap) (id off : Nat) : loadV Try.prog 24 h id off = load1 h id off := loadV_one ag_24 h id off
theorem ag_27 : aggT Try.prog 27 = some false := by kernel_rfl
theorem ld_27 (h : Heap) (id off : Nat) : loadV Try.prog 27 h id off = load1 h id off := loadV_one ag_27 h id off
theorem ag_31 : aggT Try.prog 31 = some true := by kernel_rfl
theorem sz_31 : szT Try.prog 31 = some 2 := by kernel_rfl
theorem ld_31 (h : Heap) (id off : Nat) : loadV Try.prog 31 h id off = (loadN h id off 2).map .agg := loadV_agg ag_31 sz_31 h id off
theorem ag_32 : aggT Try.prog 32 = some false := by kernel_rfl
theorem ld_32 (h : Heap) (id off : Nat) : loadV Try.prog 32 h id off = load1 h id off := loadV_one ag_32 h id off
theorem ag_34 : aggT Try.prog 34 = some true := by kernel_rfl
theorem ld_34 (h : Heap) (id off : Nat) : loadV Try.prog 34 h id off = (loadN h id off 5).map .agg := loadV_agg ag_34 sz_34 h id off
theorem ag_41 : aggT Try.prog 41 = some false := by kernel_rfl
theorem ld_41 (h : Heap) (id off : Nat) : loadV Try.prog 41 h id off = load1 h id off := loadV_one ag_41 h id off
theorem ag_42 : aggT Try.prog 42 = some false := by kernel_rfl
theorem ld_42 (h : Heap) (id off : Nat) : loadV Try.prog 42 h id off = load1 h id off := loadV_one ag_42 h id off
theorem ag_45 : aggT Try.prog 45 = some true := by kernel_rfl
theorem ld_45 (h : Heap) (id off : Nat) : loadV Try.prog 45 h id off = (loadN h id off 5).map .agg := loadV_agg ag_45 sz_45 h id off
theorem ag_54 : aggT Try.prog 54 = some true := by kernel_rfl
theorem ld_54 (h : Heap) (id off : Nat) : loadV Try.prog 54 h id off = (loadN h id off 7).map .agg := loadV_agg ag_54 sz_54 h id off
theorem ag_56 : aggT Try.prog 56 = some false := by kernel_rfl
theorem ld_56 (h : Heap) (id off : Nat) : loadV Try.prog 56 h id off = load1 h id off := loadV_one ag_56 h id off
theorem ag_59 : aggT Try.prog 59 = some true := by kernel_rfl
theorem ld_59 (h : Heap) (id off : Nat) : loadV Try.prog 59 h id off = (loadN h id off 3).map .agg := loadV_agg ag_59 sz_59 h id off
theorem ag_63 : aggT Try.prog 63 = some false := by kernel_rfl
theorem ld_63 (h : Heap) (id off : Nat) : loadV Try.prog 63 h id off = load1 h id off := loadV_one ag_63 h id off
theorem ag_67 : aggT Try.prog 67 = some false := by kernel_rfl
theorem ld_67 (h : Heap) (id off : Nat) : loadV Try.prog 67 h id off = load1 h id off := loadV_one ag_67 h id off
theorem ag_81 : aggT Try.prog 81 = some true := by kernel_rfl
theorem ld_81 (h : Heap) (id off : Nat) : loadV Try.prog 81 h id off = (loadN h id off 4).map .agg := loadV_agg ag_81 sz_81 h id off
theorem ag_126 : aggT Try.prog 126 = some false := by kernel_rfl
theorem ld_126 (h : Heap) (id off : Nat) : loadV Try.prog 126 h id off = load1 h id off := loadV_one ag_126 h id off
theorem st_3 (h : Heap) (id off : Nat) (v : V) : storeV Try.prog 3 h id off v = if v.flat.length = 1 then storeN h id off v.flat else none := storeV_as sz_3 h id off v
theorem sz_22 : szT Try.prog 22 = some 1 := by kernel_rfl
theorem st_22 (h : Heap) (id off : Nat) (v : V) : storeV Try.prog 22 h id off v = if v.flat.length = 1 then storeN h id off v.flat else none := storeV_as sz_22 h id off v
theorem sz_24 : szT Try.prog 24 = some 1 := by kernel_rfl
theorem st_24 (h : Heap) (id off : Nat) (v : V) : storeV Try.prog 24 h id off v = if v.flat.length = 1 then storeN h id off v.flat else none := storeV_as sz_24 h id off v
theorem st_32 (h : Heap) (id off : Nat) (v : V) : storeV Try.prog 32 h id off v = if v.flat.length = 1 then storeN h id off v.flat else none := storeV_as sz_32 h id off v
theorem st_34 (h : Heap) (id off : Nat) (v : V) : storeV Try.prog 34 h id off v = if v.flat.length = 5 then storeN h id off v.flat else none := storeV_as sz_34 h id off v
theorem sz_41 : szT Try.prog 41 = some 1 := by kernel_rfl
theorem st_41 (h : Heap) (id off : Nat) (v : V) : storeV Try.prog 41 h id off v = if v.flat.length = 1 then storeN h id off v.flat else none := storeV_as sz_41 h id off v
theorem sz_42 : szT Try.prog 42 = some 1 := by kernel_rfl
theorem st_42 (h : Heap) (id off : Nat) (v : V) : storeV Try.prog 42 h id off v = if v.flat.length = 1 then storeN h id off v.flat else none := storeV_as sz_42 h id off v
theorem st_45 (h : Heap) (id off : Nat) (v : V) : storeV Try.prog 45 h id off v = if v.flat.length = 5 then storeN h id off v.flat else none := storeV_as sz_45 h id off v
theorem st_54 (h : Heap) (id off : Nat) (v : V) : storeV Try.prog 54 h id off v = if v.flat.length = 7 then storeN h id off v.flat else none := storeV_as sz_54 h id off v
theorem sz_56 : szT Try.prog 56 = some 1 := by kernel_rfl
theorem st_56 (h : Heap) (id off : Nat) (v : V) : storeV Try.prog 56 h id off v = if v.flat.length = 1 then storeN h id off v.flat else none := storeV_as sz_56 h id off v
theorem st_59 (h : Heap) (id off : Nat) (v : V) : storeV Try.prog 59 h id off v = if v.flat.length = 3 then storeN h id off v.flat else none := storeV_as sz_59 h id off v
theorem sz_63 : szT Try.prog 63 = some 1 := by kernel_rfl
theorem st_63 (h : Heap) (id off : Nat) (v : V) : storeV Try.prog 63 h id off v = if v.flat.length = 1 then storeN h id off v.flat else none := storeV_as sz_63 h id off v
theorem st_81 (h : Heap) (id off : Nat) (v : V) : storeV Try.prog 81 h id off v = if v.flat.length = 4 then storeN h id off v.flat else none := storeV_as sz_81 h id off v
theorem sz_126 : szT Try.prog 126 = some 1 := by kernel_rfl
theorem st_126 (h : Heap) (id off : Nat) (v : V) : storeV Try.prog 126 h id off v = if v.flat.length = 1 then storeN h id off v.flat else none := storeV_as sz_126 h id off v
theorem zs_3 : zerosT Try.prog 3 = some ([.int .i64 0]) := by kernel_rfl
theorem al_3 (tt : List V) (h : Heap) : p_alloc Try.prog tt h 3 = some (.ptr (some (h.length, 0)), h ++ [.cells ([.int .i64 0]) .rw]) := zeros_as zs_3
theorem zs_24 : zerosT Try.prog 24 = some ([.slice none 0 (some 0)]) := by kernel_rfl
theorem al_24 (tt : List V) (h : Heap) : p_alloc Try.prog tt h 24 = some (.ptr (some (h.length, 0)), h ++ [.cells ([.slice none 0 (some 0)]) .rw]) := zeros_as zs_24
theorem zs_32 : zerosT Try.prog 32 = some ([.slice none 0 (some 0)]) := by kernel_rfl
theorem al_32 (tt : List V) (h : Heap) : p_alloc Try.prog tt h 32 = some (.ptr (some (h.length, 0)), h ++ [.cells ([.slice none 0 (some 0)]) .rw]) := zeros_as zs_32
theorem zs_34 : zerosT Try.prog 34 = some ([.int .i64 0, .int .i64 0, .slice none 0 (some 0), .int .i64 0, .int .i64 0]) := by kernel_rfl
theorem al_34 (tt : List V) (h : Heap) : p_alloc Try.prog tt h 34 = some (.ptr (some (h.length, 0)), h ++ [.cells ([.int .i64 0, .int .i64 0, .slice none 0 (some 0), .int .i64 0, .int .i64 0]) .rw]) := zeros_as zs_34
theorem zs_45 : zerosT Try.prog 45 = some ([.int .i64 0, .str [], .slice none 0 (some 0), .slice none 0 (some 0), .slice none 0 (some 0)]) := by kernel_rfl
theorem al_45 (tt : List V) (h : Heap) : p_alloc Try.prog tt h 45 = some (.ptr (some (h.length, 0)), h ++ [.cells ([.int .i64 0, .str [], .slice none 0 (some 0), .slice none 0 (some 0), .slice none 0 (some 0)]) .rw]) := zeros_as zs_45
theorem zs_54 : zerosT Try.prog 54 = some ([.int .u8 0, .int .i64 0, .int .i64 0, .slice none 0 (some 0), .int .i64 0, .int .i64 0, .int .i64 0]) := by kernel_rfl
theorem al_54 (tt : List V) (h : Heap) : p_alloc Try.prog tt h 54 = some (.ptr (some (h.length, 0)), h ++ [.cells ([.int .u8 0, .int .i64 0, .int .i64 0, .slice none 0 (some 0), .int .i64 0, .int .i64 0, .int .i64 0]) .rw]) := zeros_as zs_54
theorem zs_56 : zerosT Try.prog 56 = some ([.map none]) := by kernel_rfl
theorem al_56 (tt : List V) (h : Heap) : p_alloc Try.prog tt h 56 = some (.ptr (some (h.length, 0)), h ++ [.cells ([.map none]) .rw]) := zeros_as zs_56
theorem zs_59 : zerosT Try.prog 59 = some ([.int .i64 0, .int .i64 0, .str []]) := by kernel_rfl
theorem al_59 (tt : List V) (h : Heap) : p_alloc Try.prog tt h 59 = some (.ptr (some (h.length, 0)), h ++ [.cells ([.int .i64 0, .int .i64 0, .str []]) .rw]) := zeros_as zs_59
theorem zs_81 : zerosT Try.prog 81 = some ([.bool false, .int .i64 0, .int .i64 0, .slice none 0 (some 0)]) := by kernel_rfl
theorem al_81 (tt : List V) (h : Heap) : p_alloc Try.prog tt h 81 = some (.ptr (some (h.length, 0)), h ++ [.cells ([.bool false, .int .i64 0, .int .i64 0, .slice none 0 (some 0)]) .rw]) := zeros_as zs_81
theorem zs_126 : zerosT Try.prog 126 = some ([.int .u64 0]) := by kernel_rfl
theorem al_126 (tt : List V) (h : Heap) : p_alloc Try.prog tt h 126 = some (.ptr (some (h.length, 0)), h ++ [.cells ([.int .u64 0]) .rw]) := zeros_as zs_126
theorem zs_31 : zerosT Try.prog 31 = some ([.int .i64 0, .int .i64 0]) := by kernel_rfl
theorem pl_31_0 : placesT Try.prog 31 0 = some (0, 1) := by kernel_rfl
theorem pl_31_1 : placesT Try.prog 31 1 = some (1, 1) := by kernel_rfl
theorem bd_31 (parts : List (Nat × V)) : buildV Try.prog 31 parts = (fillV (placesT Try.prog 31) ([.int .i64 0, .int .i64 0]) parts).map .agg := build_as zs_31 Try.underlying31 (by kernel_rfl) parts
theorem pl_34_0 : placesT Try.prog 34 0 = some (0, 2) := by kernel_rfl
theorem pl_34_1 : placesT Try.prog 34 1 = some (2, 1) := by kernel_rfl
theorem pl_34_2 : placesT Try.prog 34 2 = some (3, 1) := by kernel_rfl
theorem pl_34_3 : placesT Try.prog 34 3 = some (4, 1) := by kernel_rfl
theorem bd_34 (parts : List (Nat × V)) : buildV Try.prog 34 parts = (fillV (placesT Try.prog 34) ([.int .i64 0, .int .i64 0, .slice none 0 (some 0), .int .i64 0, .int .i64 0]) parts).map .agg := build_as zs_34 Try.underlying34 (by kernel_rfl) parts
theorem pl_45_0 : placesT Try.prog 45 0 = some (0, 1) := by kernel_rfl
theorem pl_45_1 : placesT Try.prog 45 1 = some (1, 1) := by kernel_rfl
theorem pl_45_2 : placesT Try.prog 45 2 = some (2, 1) := by kernel_rfl
theorem pl_45_3 : placesT Try.prog 45 3 = some (3, 1) := by kernel_rfl
theorem pl_45_4 : placesT Try.prog 45 4 = some (4, 1) := by kernel_rfl
theorem bd_45 (parts : List (Nat × V)) : buildV Try.prog 45 parts = (fillV (placesT Try.prog 45) ([.int .i64 0, .str [], .slice none 0 (some 0), .slice none 0 (some 0), .slice none 0 (some 0)]) parts).map .agg := build_as zs_45 Try.underlying45 (by kernel_rfl) parts
theorem pl_59_0 : placesT Try.prog 59 0 = some (0, 1) := by kernel_rfl
theorem pl_59_1 : placesT Try.prog 59 1 = some (1, 1) := by kernel_rfl
theorem pl_59_2 : placesT Try.prog 59 2 = some (2, 1) := by kernel_rfl
theorem bd_59 (parts : List (Nat × V)) : buildV Try.prog 59 parts = (fillV (placesT Try.prog 59) ([.int .i64 0, .int .i64 0, .str []]) parts).map .agg := build_as zs_59 Try.underlying59 (by kernel_rfl) parts
theorem zs_65 : zerosT Try.prog 65 = some ([.int .i64 0, .slice none 0 (some 0), .slice none 0 (some 0)]) := by kernel_rfl
theorem pl_65_0 : placesT Try.prog 65 0 = some (0, 1) := by kernel_rfl
theorem pl_65_1 : placesT Try.prog 65 1 = some (1, 1) := by kernel_rfl
theorem pl_65_2 : placesT Try.prog 65 2 = some (2, 1) := by kernel_rfl
theorem bd_65 (parts : List (Nat × V)) : buildV Try.prog 65 parts = (fillV (placesT Try.prog 65) ([.int .i64 0, .slice none 0 (some 0), .slice none 0 (some 0)]) parts).map .agg := build_as zs_65 Try.underlying65 (by kernel_rfl) parts
theorem zs_77 : zerosT Try.prog 77 = some ([.str [], .int .i64 0]) := by kernel_rfl
theorem pl_77_0 : placesT Try.prog 77 0 = some (0, 1) := by kernel_rfl
theorem pl_77_1 : placesT Try.prog 77 1 = some (1, 1) := by kernel_rfl
theorem bd_77 (parts : List (Nat × V)) : buildV Try.prog 77 parts = (fillV (placesT Try.prog 77) ([.str [], .int .i64 0]) parts).map .agg := build_as zs_77 Try.underlying77 (by kernel_rfl) parts
theorem pl_81_0 : placesT Try.prog 81 0 = some (0, 1) := by kernel_rfl
theorem pl_81_1 : placesT Try.prog 81 1 = some (1, 2) := by kernel_rfl
theorem pl_81_2 : placesT Try.prog 81 2 = some (3, 1) := by kernel_rfl
theorem bd_81 (parts : List (Nat × V)) : buildV Try.prog 81 parts = (fillV (placesT Try.prog 81) ([.bool false, .int .i64 0, .int .i64 0, .slice none 0 (some 0)]) parts).map .agg := build_as zs_81 Try.underlying81 (by kernel_rfl) parts
theorem el_22 : elemT Try.prog 22 = some 45 := by kernel_rfl
theorem by_45 : byT Try.prog 45 = some 96 := by kernel_rfl
theorem el_24 : elemT Try.prog 24 = some 34 := by kernel_rfl
theorem by_34 : byT Try.prog 34 = some 56 := by kernel_rfl
theorem el_32 : elemT Try.prog 32 = some 59 := by kernel_rfl
theorem by_59 : byT Try.prog 59 = some 32 := by kernel_rfl
theorem el_41 : elemT Try.prog 41 = some 77 := by kernel_rfl
theorem by_77 : byT Try.prog 77 = some 24 := by kernel_rfl
theorem el_42 : elemT Try.prog 42 = some 3 := by kernel_rfl
theorem by_3 : byT Try.prog 3 = some 8 := by kernel_rfl
theorem el_63 : elemT Try.prog 63 = some 81 := by kernel_rfl
theorem by_81 : byT Try.prog 81 = some 48 := by kernel_rfl
theorem el_96 : elemT Try.prog 96 = some 32 := by kernel_rfl
theorem by_32 : byT Try.prog 32 = some 24 := by kernel_rfl
theorem ko_56 (k l : Int) : keyOk Try.prog 31 (.agg [.int .i64 k, .int .i64 l]) = true := by kernel_rfl
theorem mu_56 (k l : Int) (id : Nat) (v : V) (h : Heap) : mapUpdateV Try.prog 56 (.map (some id)) (.agg [.int .i64 k, .int .i64 l]) v h = mapPut (.agg [.int .i64 k, .int .i64 l]) v id h h[id]? := mapUpdate_as Try.underlying56 (ko_56 k l) id v h
theorem zr_4 : zeroT Try.prog 4 = some (.bool false) := by kernel_rfl
theorem lk_56 (k l : Int) (id : Nat) (ok : Bool) (h : Heap) : lookupV Try.prog 56 (.map (some id)) (.agg [.int .i64 k, .int .i64 l]) ok h = mapGet (.agg [.int .i64 k, .int .i64 l]) (.bool false) ok (entsOf h[id]?) := lookup_as Try.underlying56 zr_4 (ko_56 k l) id ok h
theorem ap_22_22 (p : Option (Nat × Nat)) (len : Nat) (cap : Option Nat) (q : Option (Nat × Nat)) (n : Nat) (c : Option Nat) (h : Heap) : appendV Try.prog 22 22 (.slice p len cap) (.slice q n c) h = apv 5 96 p len cap (.slice q n c) n h := (append_as el_22 (by kernel_rfl) sz_45 by_45 zs_45 p len cap h).1 q n c
theorem ap_24_24 (p : Option (Nat × Nat)) (len : Nat) (cap : Option Nat) (q : Option (Nat × Nat)) (n : Nat) (c : Option Nat) (h : Heap) : appendV Try.prog 24 24 (.slice p len cap) (.slice q n c) h = apv 5 56 p len cap (.slice q n c) n h := (append_as el_24 (by kernel_rfl) sz_34 by_34 zs_34 p len cap h).1 q n c
theorem ap_32_32 (p : Option (Nat × Nat)) (len : Nat) (cap : Option Nat) (q : Option (Nat × Nat)) (n : Nat) (c : Option Nat) (h : Heap) : appendV Try.prog 32 32 (.slice p len cap) (.slice q n c) h = apv 3 32 p len cap (.slice q n c) n h := (append_as el_32 (by kernel_rfl) sz_59 by_59 zs_59 p len cap h).1 q n c
theorem ap_41_41 (p : Option (Nat × Nat)) (len : Nat) (cap : Option Nat) (q : Option (Nat × Nat)) (n : Nat) (c : Option Nat) (h : Heap) : appendV Try.prog 41 41 (.slice p len cap) (.slice q n c) h = apv 2 24 p len cap (.slice q n c) n h := (append_as el_41 (by kernel_rfl) sz_77 by_77 zs_77 p len cap h).1 q n c
theorem ap_42_42 (p : Option (Nat × Nat)) (len : Nat) (cap : Option Nat) (q : Option (Nat × Nat)) (n : Nat) (c : Option Nat) (h : Heap) : appendV Try.prog 42 42 (.slice p len cap) (.slice q n c) h = apv 1 8 p len cap (.slice q n c) n h := (append_as el_42 (by kernel_rfl) sz_3 by_3 zs_3 p len cap h).1 q n c
theorem ap_63_63 (p : Option (Nat × Nat)) (len : Nat) (cap : Option Nat) (q : Option (Nat × Nat)) (n : Nat) (c : Option Nat) (h : Heap) : appendV Try.prog 63 63 (.slice p len cap) (.slice q n c) h = apv 4 48 p len cap (.slice q n c) n h := (append_as el_63 (by kernel_rfl) sz_81 by_81 zs_81 p len cap h).1 q n c
theorem ap_96_96 (p : Option (Nat × Nat)) (len : Nat) (cap : Option Nat) (q : Option (Nat × Nat)) (n : Nat) (c : Option Nat) (h : Heap) : appendV Try.prog 96 96 (.slice p len cap) (.slice q n c) h = apv 1 24 p len cap (.slice q n c) n h := (append_as el_96 (by kernel_rfl) sz_32 by_32 zs_32 p len cap h).1 q n c
theorem sl_63 (h : Heap) (p : Option (Nat × Nat)) (len : Nat) (cap : Option Nat) (lo hi mx : Option V) : sliceOp Try.prog h 63 (.slice p len cap) lo hi mx = sliceV h 4 p len cap lo hi mx := slice_as Try.underlying63 sz_81 h p len cap lo hi mx
theorem cv_3_109 (k : IntKind) (n : Int) (h : Heap) : convV Try.prog 3 109 (.int k n) h = some (.int .u64 (IntKind.wrap .u64 n), h) := conv_int Try.underlying3 Try.underlying109 k n h
theorem cv_3_126 (k : IntKind) (n : Int) (h : Heap) : convV Try.prog 3 126 (.int k n) h = some (.int .u64 (IntKind.wrap .u64 n), h) := conv_int Try.underlying3 Try.underlying126 k n h
theorem cv_5_3 (k : IntKind) (n : Int) (h : Heap) : convV Try.prog 5 3 (.int k n) h = some (.int .i64 (IntKind.wrap .i64 n), h) := conv_int Try.underlying5 Try.underlying3 k n h
theorem cv_109_3 (k : IntKind) (n : Int) (h : Heap) : convV Try.prog 109 3 (.int k n) h = some (.int .i64 (IntKind.wrap .i64 n), h) := conv_int Try.underlying109 Try.underlying3 k n h
theorem cv_109_121 (k : IntKind) (n : Int) (h : Heap) : convV Try.prog 109 121 (.int k n) h = some (.int .u32 (IntKind.wrap .u32 n), h) := conv_int Try.underlying109 Try.underlying121 k n h
theorem cv_121_5 (k : IntKind) (n : Int) (h : Heap) : convV Try.prog 121 5 (.int k n) h = some (.int .u8 (IntKind.wrap .u8 n), h) := conv_int Try.underlying121 Try.underlying5 k n h
theorem cv_123_5 (k : IntKind) (n : Int) (h : Heap) : convV Try.prog 123 5 (.int k n) h = some (.int .u8 (IntKind.wrap .u8 n), h) := conv_int Try.underlying123 Try.underlying5 k n h
theorem eql_27 (x y : Operand) (p : Option (Nat × Nat)) : binV Try.prog .eql 27 x y (.ptr p) (.ptr none) = some (.bool (decide (p = none))) := bin_eql_nilp Try.underlying27 x y p
theorem neq_27 (x y : Operand) (p : Option (Nat × Nat)) : binV Try.prog .neq 27 x y (.ptr p) (.ptr none) = some (.bool (decide (¬ p = none))) := bin_neq_nilp Try.underlying27 x y p
theorem eqt_3 {d : Nat} (hd : 1 ≤ d) (k : IntKind) (a b : Int) : eqT Try.prog d 3 (.int k a) (.int k b) = some (decide (a = b)) := eqT_int Try.underlying3 hd k a b
theorem eqt_31 {d : Nat} (hd : 4 ≤ d) (a0 b0 : Int) (a1 b1 : Int) : eqT Try.prog d 31 (.agg [.int .i64 a0, .int .i64 a1]) (.agg [.int .i64 b0, .int .i64 b1]) = some (decide (a0 = b0 ∧ a1 = b1)) := by
  obtain ⟨e, rfl⟩ : ∃ e, d = e + 4 := ⟨d - 4, by omega⟩
  rw [eqT_struct Try.underlying31 (by kernel_rfl)]
  simp (disch := first | omega | decide) only [eqFs_cons, eqFs_nil, List.getElem?_cons_zero, List.getElem?_cons_succ, List.drop_succ_cons, List.drop_zero, List.take_succ_cons, List.take_zero, eq_and, eq_last, eqt_3, partV_one ag_3]
theorem eql_31 (x y : Operand) (a b : List V) : binV Try.prog .eql 31 x y (.agg a) (.agg b) = (eqT Try.prog 40 31 (.agg a) (.agg b)).map .bool := bin_eql_agg (by kernel_rfl) x y a b
theorem neq_31 (x y : Operand) (a b : List V) : binV Try.prog .neq 31 x y (.agg a) (.agg b) = (eqT Try.prog 40 31 (.agg a) (.agg b)).map fun r => .bool !r := bin_neq_agg (by kernel_rfl) x y a b
theorem eql_32 (x y : Operand) (p : Option (Nat × Nat)) (n : Nat) (c : Option Nat) : binV Try.prog .eql 32 x y (.slice p n c) (.slice none 0 (some 0)) = some (.bool (decide (p = none))) := bin_eql_nils Try.underlying32 x y p n c
theorem neq_32 (x y : Operand) (p : Option (Nat × Nat)) (n : Nat) (c : Option Nat) : binV Try.prog .neq 32 x y (.slice p n c) (.slice none 0 (some 0)) = some (.bool (decide (¬ p = none))) := bin_neq_nils Try.underlying32 x y p n c
theorem eql_41 (x y : Operand) (p : Option (Nat × Nat)) (n : Nat) (c : Option Nat) : binV Try.prog .eql 41 x y (.slice p n c) (.slice none 0 (some 0)) = some (.bool (decide (p = none))) := bin_eql_nils Try.underlying41 x y p n c
theorem neq_41 (x y : Operand) (p : Option (Nat × Nat)) (n : Nat) (c : Option Nat) : binV Try.prog .neq 41 x y (.slice p n c) (.slice none 0 (some 0)) = some (.bool (decide (¬ p = none))) := bin_neq_nils Try.underlying41 x y p n c
theorem eql_42 (x y : Operand) (p : Option (Nat × Nat)) (n : Nat) (c : Option Nat) : binV Try.prog .eql 42 x y (.slice p n c) (.slice none 0 (some 0)) = some (.bool (decide (p = none))) := bin_eql_nils Try.underlying42 x y p n c
theorem neq_42 (x y : Operand) (p : Option (Nat × Nat)) (n : Nat) (c : Option Nat) : binV Try.prog .neq 42 x y (.slice p n c) (.slice none 0 (some 0)) = some (.bool (decide (¬ p = none))) := bin_neq_nils Try.underlying42 x y p n c
theorem eqt_2 {d : Nat} (hd : 1 ≤ d) (k : IntKind) (a b : Int) : eqT Try.prog d 2 (.int k a) (.int k b) = some (decide (a = b)) := eqT_int Try.underlying2 hd k a b
theorem eqt_9 {d : Nat} (hd : 1 ≤ d) (a b : List Int) : eqT Try.prog d 9 (.str a) (.str b) = some (decide (a = b)) := eqT_str Try.underlying9 hd a b
theorem eqt_59 {d : Nat} (hd : 5 ≤ d) (a0 b0 : Int) (a1 b1 : Int) (a2 b2 : List Int) : eqT Try.prog d 59 (.agg [.int .i64 a0, .int .i64 a1, .str a2]) (.agg [.int .i64 b0, .int .i64 b1, .str b2]) = some (decide (a0 = b0 ∧ a1 = b1 ∧ a2 = b2)) := by
  obtain ⟨e, rfl⟩ : ∃ e, d = e + 5 := ⟨d - 5, by omega⟩
  rw [eqT_struct Try.underlying59 (by kernel_rfl)]
  simp (disch := first | omega | decide) only [eqFs_cons, eqFs_nil, List.getElem?_cons_zero, List.getElem?_cons_succ, List.drop_succ_cons, List.drop_zero, List.take_succ_cons, List.take_zero, eq_and, eq_last, eqt_2, partV_one ag_2, eqt_3, partV_one ag_3, eqt_9, partV_one ag_9]
theorem eql_59 (x y : Operand) (a b : List V) : binV Try.prog .eql 59 x y (.agg a) (.agg b) = (eqT Try.prog 40 59 (.agg a) (.agg b)).map .bool := bin_eql_agg (by kernel_rfl) x y a b
theorem neq_59 (x y : Operand) (a b : List V) : binV Try.prog .neq 59 x y (.agg a) (.agg b) = (eqT Try.prog 40 59 (.agg a) (.agg b)).map fun r => .bool !r := bin_neq_agg (by kernel_rfl) x y a b
theorem lit_1 : bytesOf ⟨#[97]⟩ = [97] := rfl
/-- The rules of the types. -/
theorem TY : type_of% (And.intro (And.intro (And.intro (And.intro (And.intro (And.intro (And.intro @ixs_9 (And.intro @sz_45 @ix_22)) (And.intro @sz_54 (And.intro @ix_23 @sz_34))) (And.intro (And.intro @ix_24 (And.intro @sz_59 @ix_32)) (And.intro (And.intro @sz_77 @ix_41) (And.intro @sz_3 @ix_42)))) (And.intro (And.intro (And.intro @sz_81 (And.intro @ix_63 @sz_32)) (And.intro @ix_96 (And.intro @ln_9 @ln_22))) (And.intro (And.intro @ln_23 (And.intro @ln_24 @ln_32)) (And.intro (And.intro @ln_41 @ln_42) (And.intro @ln_63 @ln_96))))) (And.intro (And.intro (And.intro (And.intro @fa_31_0 (And.intro @fa_31_1 @fa_34_0)) (And.intro @fa_34_1 (And.intro @fa_34_2 @fa_34_3))) (And.intro (And.intro @fa_45_0 (And.intro @fa_45_2 @fa_45_3)) (And.intro (And.intro @fa_54_0 @fa_54_1) (And.intro @fa_54_2 @fa_59_0)))) (And.intro (And.intro (And.intro @fa_59_1 (And.intro @fa_59_2 @fa_65_0)) (And.intro @fa_65_1 (And.intro @fa_65_2 @fa_77_1))) (And.intro (And.intro @fa_81_0 (And.intro @fa_81_1 @fa_81_2)) (And.intro (And.intro @ag_2 @ld_2) (And.intro @ag_3 @ld_3)))))) (And.intro (And.intro (And.intro (And.intro (And.intro @ag_4 (And.intro @ld_4 @ag_5)) (And.intro @ld_5 (And.intro @ag_9 @ld_9))) (And.intro (And.intro @ag_22 (And.intro @ld_22 @ag_24)) (And.intro (And.intro @ld_24 @ag_27) (And.intro @ld_27 @ag_31)))) (And.intro (And.intro (And.intro @sz_31 (And.intro @ld_31 @ag_32)) (And.intro @ld_32 (And.intro @ag_34 @ld_34))) (And.intro (And.intro @ag_41 (And.intro @ld_41 @ag_42)) (And.intro (And.intro @ld_42 @ag_45) (And.intro @ld_45 @ag_54))))) (And.intro (And.intro (And.intro (And.intro @ld_54 (And.intro @ag_56 @ld_56)) (And.intro @ag_59 (And.intro @ld_59 @ag_63))) (And.intro (And.intro @ld_63 (And.intro @ag_67 @ld_67)) (And.intro (And.intro @ag_81 @ld_81) (And.intro @ag_126 @ld_126)))) (And.intro (And.intro (And.intro @st_3 (And.intro @sz_22 @st_22)) (And.intro (And.intro @sz_24 @st_24) (And.intro @st_32 @st_34))) (And.intro (And.intro @sz_41 (And.intro @st_41 @sz_42)) (And.intro (And.intro @st_42 @st_45) (And.intro @st_54 @sz_56))))))) (And.intro (And.intro (And.intro (And.intro (And.intro (And.intro @st_56 (And.intro @st_59 @sz_63)) (And.intro @st_63 (And.intro @st_81 @sz_126))) (And.intro (And.intro @st_126 (And.intro @zs_3 @al_3)) (And.intro (And.intro @zs_24 @al_24) (And.intro @zs_32 @al_32)))) (And.intro (And.intro (And.intro @zs_34 (And.intro @al_34 @zs_45)) (And.intro @al_45 (And.intro @zs_54 @al_54))) (And.intro (And.intro @zs_56 (And.intro @al_56 @zs_59)) (And.intro (And.intro @al_59 @zs_81) (And.intro @al_81 @zs_126))))) (And.intro (And.intro (And.intro (And.intro @al_126 (And.intro @zs_31 @pl_31_0)) (And.intro @pl_31_1 (And.intro @bd_31 @pl_34_0))) (And.intro (And.intro @pl_34_1 (And.intro @pl_34_2 @pl_34_3)) (And.intro (And.intro @bd_34 @pl_45_0) (And.intro @pl_45_1 @pl_45_2)))) (And.intro (And.intro (And.intro @pl_45_3 (And.intro @pl_45_4 @bd_45)) (And.intro @pl_59_0 (And.intro @pl_59_1 @pl_59_2))) (And.intro (And.intro @bd_59 (And.intro @zs_65 @pl_65_0)) (And.intro (And.intro @pl_65_1 @pl_65_2) (And.intro @bd_65 @zs_77)))))) (And.intro (And.intro (And.intro (And.intro (And.intro @pl_77_0 (And.intro @pl_77_1 @bd_77)) (And.intro @pl_81_0 (And.intro @pl_81_1 @pl_81_2))) (And.intro (And.intro @bd_81 (And.intro @el_22 @by_45)) (And.intro (And.intro @el_24 @by_34) (And.intro @el_32 @by_59)))) (And.intro (And.intro (And.intro @el_41 (And.intro @by_77 @el_42)) (And.intro @by_3 (And.intro @el_63 @by_81))) (And.intro (And.intro @el_96 (And.intro @by_32 @mu_56)) (And.intro (And.intro @lk_56 @ap_22_22) (And.intro @ap_24_24 @ap_32_32))))) (And.intro (And.intro (And.intro (And.intro @ap_41_41 (And.intro @ap_42_42 @ap_63_63)) (And.intro @ap_96_96 (And.intro @sl_63 @cv_3_109))) (And.intro (And.intro @cv_3_126 (And.intro @cv_5_3 @cv_109_3)) (And.intro (And.intro @cv_109_121 @cv_121_5) (And.intro @cv_123_5 @eql_27)))) (And.intro (And.intro (And.intro @neq_27 (And.intro @eql_31 @neq_31)) (And.intro (And.intro @eqt_31 @eql_32) (And.intro @neq_32 @eql_41))) (And.intro (And.intro @neq_41 (And.intro @eql_42 @neq_42)) (And.intro (And.intro @eql_59 @neq_59) (And.intro @eqt_59 @lit_1)))))))) := (And.intro (And.intro (And.intro (And.intro (And.intro (And.intro (And.intro @ixs_9 (And.intro @sz_45 @ix_22)) (And.intro @sz_54 (And.intro @ix_23 @sz_34))) (And.intro (And.intro @ix_24 (And.intro @sz_59 @ix_32)) (And.intro (And.intro @sz_77 @ix_41) (And.intro @sz_3 @ix_42)))) (And.intro (And.intro (And.intro @sz_81 (And.intro @ix_63 @sz_32)) (And.intro @ix_96 (And.intro @ln_9 @ln_22))) (And.intro (And.intro @ln_23 (And.intro @ln_24 @ln_32)) (And.intro (And.intro @ln_41 @ln_42) (And.intro @ln_63 @ln_96))))) (And.intro (And.intro (And.intro (And.intro @fa_31_0 (And.intro @fa_31_1 @fa_34_0)) (And.intro @fa_34_1 (And.intro @fa_34_2 @fa_34_3))) (And.intro (And.intro @fa_45_0 (And.intro @fa_45_2 @fa_45_3)) (And.intro (And.intro @fa_54_0 @fa_54_1) (And.intro @fa_54_2 @fa_59_0)))) (And.intro (And.intro (And.intro @fa_59_1 (And.intro @fa_59_2 @fa_65_0)) (And.intro @fa_65_1 (And.intro @fa_65_2 @fa_77_1))) (And.intro (And.intro @fa_81_0 (And.intro @fa_81_1 @fa_81_2)) (And.intro (And.intro @ag_2 @ld_2) (And.intro @ag_3 @ld_3)))))) (And.intro (And.intro (And.intro (And.intro (And.intro @ag_4 (And.intro @ld_4 @ag_5)) (And.intro @ld_5 (And.intro @ag_9 @ld_9))) (And.intro (And.intro @ag_22 (And.intro @ld_22 @ag_24)) (And.intro (And.intro @ld_24 @ag_27) (And.intro @ld_27 @ag_31)))) (And.intro (And.intro (And.intro @sz_31 (And.intro @ld_31 @ag_32)) (And.intro @ld_32 (And.intro @ag_34 @ld_34))) (And.intro (And.intro @ag_41 (And.intro @ld_41 @ag_42)) (And.intro (And.intro @ld_42 @ag_45) (And.intro @ld_45 @ag_54))))) (And.intro (And.intro (And.intro (And.intro @ld_54 (And.intro @ag_56 @ld_56)) (And.intro @ag_59 (And.intro @ld_59 @ag_63))) (And.intro (And.intro @ld_63 (And.intro @ag_67 @ld_67)) (And.intro (And.intro @ag_81 @ld_81) (And.intro @ag_126 @ld_126)))) (And.intro (And.intro (And.intro @st_3 (And.intro @sz_22 @st_22)) (And.intro (And.intro @sz_24 @st_24) (And.intro @st_32 @st_34))) (And.intro (And.intro @sz_41 (And.intro @st_41 @sz_42)) (And.intro (And.intro @st_42 @st_45) (And.intro @st_54 @sz_56))))))) (And.intro (And.intro (And.intro (And.intro (And.intro (And.intro @st_56 (And.intro @st_59 @sz_63)) (And.intro @st_63 (And.intro @st_81 @sz_126))) (And.intro (And.intro @st_126 (And.intro @zs_3 @al_3)) (And.intro (And.intro @zs_24 @al_24) (And.intro @zs_32 @al_32)))) (And.intro (And.intro (And.intro @zs_34 (And.intro @al_34 @zs_45)) (And.intro @al_45 (And.intro @zs_54 @al_54))) (And.intro (And.intro @zs_56 (And.intro @al_56 @zs_59)) (And.intro (And.intro @al_59 @zs_81) (And.intro @al_81 @zs_126))))) (And.intro (And.intro (And.intro (And.intro @al_126 (And.intro @zs_31 @pl_31_0)) (And.intro @pl_31_1 (And.intro @bd_31 @pl_34_0))) (And.intro (And.intro @pl_34_1 (And.intro @pl_34_2 @pl_34_3)) (And.intro (And.intro @bd_34 @pl_45_0) (And.intro @pl_45_1 @pl_45_2)))) (And.intro (And.intro (And.intro @pl_45_3 (And.intro @pl_45_4 @bd_45)) (And.intro @pl_59_0 (And.intro @pl_59_1 @pl_59_2))) (And.intro (And.intro @bd_59 (And.intro @zs_65 @pl_65_0)) (And.intro (And.intro @pl_65_1 @pl_65_2) (And.intro @bd_65 @zs_77)))))) (And.intro (And.intro (And.intro (And.intro (And.intro @pl_77_0 (And.intro @pl_77_1 @bd_77)) (And.intro @pl_81_0 (And.intro @pl_81_1 @pl_81_2))) (And.intro (And.intro @bd_81 (And.intro @el_22 @by_45)) (And.intro (And.intro @el_24 @by_34) (And.intro @el_32 @by_59)))) (And.intro (And.intro (And.intro @el_41 (And.intro @by_77 @el_42)) (And.intro @by_3 (And.intro @el_63 @by_81))) (And.intro (And.intro @el_96 (And.intro @by_32 @mu_56)) (And.intro (And.intro @lk_56 @ap_22_22) (And.intro @ap_24_24 @ap_32_32))))) (And.intro (And.intro (And.intro (And.intro @ap_41_41 (And.intro @ap_42_42 @ap_63_63)) (And.intro @ap_96_96 (And.intro @sl_63 @cv_3_109))) (And.intro (And.intro @cv_3_126 (And.intro @cv_5_3 @cv_109_3)) (And.intro (And.intro @cv_109_121 @cv_121_5) (And.intro @cv_123_5 @eql_27)))) (And.intro (And.intro (And.intro @neq_27 (And.intro @eql_31 @neq_31)) (And.intro (And.intro @eqt_31 @eql_32) (And.intro @neq_32 @eql_41))) (And.intro (And.intro @neq_41 (And.intro @eql_42 @neq_42)) (And.intro (And.intro @eql_59 @neq_59) (And.intro @eqt_59 @lit_1))))))))
end Go.Proofs.YtcaolnmpldbkjaaA
