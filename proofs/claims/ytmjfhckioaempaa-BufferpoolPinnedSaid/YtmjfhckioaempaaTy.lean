/- Written by gent.py, a program of this session: the rules of the types. -/
import Derived.Test.YtmjfhckioaempaaAxR
import Derived.Test.YtmjfhckioaempaaProg
namespace Go.Proofs.YtmjfhckioaempaaA
open Go Go.Proofs Go.RowKit
set_option linter.unusedVariables false
set_option linter.unusedSimpArgs false
theorem ixs_9 {s : List Int} {k : IntKind} {i : Int} (h0 : 0 ≤ i) : indexV Try.prog 9 (.str s) (.int k i) = (s[i.toNat]?).map (.int .u8) := index_str Try.underlying9 h0
theorem sz_3 : szT Try.prog 3 = some 1 := by kernel_rfl
theorem ix_30 {p : Option (Nat × Nat)} {n : Nat} {c : Option Nat} {k : IntKind} {i : Int} (hp : p = none → n = 0) (h0 : 0 ≤ i) (h1 : i < n) : indexAddrV Try.prog 30 (.slice p n c) (.int k i) = some (.ptr (some (sid p, soff p + i.toNat * 1))) := ixa Try.underlying30 sz_3 hp h0 h1
theorem sz_44 : szT Try.prog 44 = some 4 := by kernel_rfl
theorem ix_34 {p : Option (Nat × Nat)} {n : Nat} {c : Option Nat} {k : IntKind} {i : Int} (hp : p = none → n = 0) (h0 : 0 ≤ i) (h1 : i < n) : indexAddrV Try.prog 34 (.slice p n c) (.int k i) = some (.ptr (some (sid p, soff p + i.toNat * 4))) := ixa Try.underlying34 sz_44 hp h0 h1
theorem sz_5 : szT Try.prog 5 = some 1 := by kernel_rfl
theorem ix_41 {p : Option (Nat × Nat)} {n : Nat} {c : Option Nat} {k : IntKind} {i : Int} (hp : p = none → n = 0) (h0 : 0 ≤ i) (h1 : i < n) : indexAddrV Try.prog 41 (.slice p n c) (.int k i) = some (.ptr (some (sid p, soff p + i.toNat * 1))) := ixa Try.underlying41 sz_5 hp h0 h1
theorem sz_107 : szT Try.prog 107 = some 2 := by kernel_rfl
theorem ix_50 {p : Option (Nat × Nat)} {n : Nat} {c : Option Nat} {k : IntKind} {i : Int} (hp : p = none → n = 0) (h0 : 0 ≤ i) (h1 : i < n) : indexAddrV Try.prog 50 (.slice p n c) (.int k i) = some (.ptr (some (sid p, soff p + i.toNat * 2))) := ixa Try.underlying50 sz_107 hp h0 h1
theorem sz_64 : szT Try.prog 64 = some 5 := by kernel_rfl
theorem ix_53 {p : Option (Nat × Nat)} {n : Nat} {c : Option Nat} {k : IntKind} {i : Int} (hp : p = none → n = 0) (h0 : 0 ≤ i) (h1 : i < n) : indexAddrV Try.prog 53 (.slice p n c) (.int k i) = some (.ptr (some (sid p, soff p + i.toNat * 5))) := ixa Try.underlying53 sz_64 hp h0 h1
theorem sz_91 : szT Try.prog 91 = some 2 := by kernel_rfl
theorem ix_75 {p : Option (Nat × Nat)} {n : Nat} {c : Option Nat} {k : IntKind} {i : Int} (hp : p = none → n = 0) (h0 : 0 ≤ i) (h1 : i < n) : indexAddrV Try.prog 75 (.slice p n c) (.int k i) = some (.ptr (some (sid p, soff p + i.toNat * 2))) := ixa Try.underlying75 sz_91 hp h0 h1
theorem sz_82 : szT Try.prog 82 = some 5 := by kernel_rfl
theorem ix_78 {p : Option (Nat × Nat)} {n : Nat} {c : Option Nat} {k : IntKind} {i : Int} (hp : p = none → n = 0) (h0 : 0 ≤ i) (h1 : i < n) : indexAddrV Try.prog 78 (.slice p n c) (.int k i) = some (.ptr (some (sid p, soff p + i.toNat * 5))) := ixa Try.underlying78 sz_82 hp h0 h1
theorem sz_119 : szT Try.prog 119 = some 1 := by kernel_rfl
theorem ix_120 {p : Option (Nat × Nat)} {n : Nat} {c : Option Nat} {k : IntKind} {i : Int} (hp : p = none → n = 0) (h0 : 0 ≤ i) (h1 : i < n) : indexAddrV Try.prog 120 (.slice p n c) (.int k i) = some (.ptr (some (sid p, soff p + i.toNat * 1))) := ixa Try.underlying120 sz_119 hp h0 h1
theorem ln_30 (p : Option (Nat × Nat)) (n : Nat) (c : Option Nat) (h : Heap) : lenB Try.prog 30 (.slice p n c) h = some (.int .i64 n) := len_slice Try.underlying30 p n c h
theorem ln_34 (p : Option (Nat × Nat)) (n : Nat) (c : Option Nat) (h : Heap) : lenB Try.prog 34 (.slice p n c) h = some (.int .i64 n) := len_slice Try.underlying34 p n c h
theorem ln_41 (p : Option (Nat × Nat)) (n : Nat) (c : Option Nat) (h : Heap) : lenB Try.prog 41 (.slice p n c) h = some (.int .i64 n) := len_slice Try.underlying41 p n c h
theorem ln_50 (p : Option (Nat × Nat)) (n : Nat) (c : Option Nat) (h : Heap) : lenB Try.prog 50 (.slice p n c) h = some (.int .i64 n) := len_slice Try.underlying50 p n c h
theorem ln_53 (p : Option (Nat × Nat)) (n : Nat) (c : Option Nat) (h : Heap) : lenB Try.prog 53 (.slice p n c) h = some (.int .i64 n) := len_slice Try.underlying53 p n c h
theorem ln_75 (p : Option (Nat × Nat)) (n : Nat) (c : Option Nat) (h : Heap) : lenB Try.prog 75 (.slice p n c) h = some (.int .i64 n) := len_slice Try.underlying75 p n c h
theorem ln_78 (p : Option (Nat × Nat)) (n : Nat) (c : Option Nat) (h : Heap) : lenB Try.prog 78 (.slice p n c) h = some (.int .i64 n) := len_slice Try.underlying78 p n c h
theorem ln_120 (p : Option (Nat × Nat)) (n : Nat) (c : Option Nat) (h : Heap) : lenB Try.prog 120 (.slice p n c) h = some (.int .i64 n) := len_slice Try.underlying120 p n c h
theorem fa_37_0 (id off : Nat) : fAddrV Try.prog 37 0 (.ptr (some (id, off))) = some (.ptr (some (id, off))) := fAddr_at (o := 0) (by kernel_rfl) id off
theorem fa_37_1 (id off : Nat) : fAddrV Try.prog 37 1 (.ptr (some (id, off))) = some (.ptr (some (id, fld off 1))) := fAddr_at (o := 1) (by kernel_rfl) id off
theorem fa_44_0 (id off : Nat) : fAddrV Try.prog 44 0 (.ptr (some (id, off))) = some (.ptr (some (id, off))) := fAddr_at (o := 0) (by kernel_rfl) id off
theorem fa_44_1 (id off : Nat) : fAddrV Try.prog 44 1 (.ptr (some (id, off))) = some (.ptr (some (id, fld off 1))) := fAddr_at (o := 1) (by kernel_rfl) id off
theorem fa_44_2 (id off : Nat) : fAddrV Try.prog 44 2 (.ptr (some (id, off))) = some (.ptr (some (id, fld off 2))) := fAddr_at (o := 2) (by kernel_rfl) id off
theorem fa_44_3 (id off : Nat) : fAddrV Try.prog 44 3 (.ptr (some (id, off))) = some (.ptr (some (id, fld off 3))) := fAddr_at (o := 3) (by kernel_rfl) id off
theorem fa_52_0 (id off : Nat) : fAddrV Try.prog 52 0 (.ptr (some (id, off))) = some (.ptr (some (id, off))) := fAddr_at (o := 0) (by kernel_rfl) id off
theorem fa_52_1 (id off : Nat) : fAddrV Try.prog 52 1 (.ptr (some (id, off))) = some (.ptr (some (id, fld off 1))) := fAddr_at (o := 1) (by kernel_rfl) id off
theorem fa_52_2 (id off : Nat) : fAddrV Try.prog 52 2 (.ptr (some (id, off))) = some (.ptr (some (id, fld off 2))) := fAddr_at (o := 2) (by kernel_rfl) id off
theorem fa_52_3 (id off : Nat) : fAddrV Try.prog 52 3 (.ptr (some (id, off))) = some (.ptr (some (id, fld off 3))) := fAddr_at (o := 3) (by kernel_rfl) id off
theorem fa_55_0 (id off : Nat) : fAddrV Try.prog 55 0 (.ptr (some (id, off))) = some (.ptr (some (id, off))) := fAddr_at (o := 0) (by kernel_rfl) id off
theorem fa_55_1 (id off : Nat) : fAddrV Try.prog 55 1 (.ptr (some (id, off))) = some (.ptr (some (id, fld off 4))) := fAddr_at (o := 4) (by kernel_rfl) id off
theorem fa_55_2 (id off : Nat) : fAddrV Try.prog 55 2 (.ptr (some (id, off))) = some (.ptr (some (id, fld off 5))) := fAddr_at (o := 5) (by kernel_rfl) id off
theorem fa_55_3 (id off : Nat) : fAddrV Try.prog 55 3 (.ptr (some (id, off))) = some (.ptr (some (id, fld off 6))) := fAddr_at (o := 6) (by kernel_rfl) id off
theorem fa_55_4 (id off : Nat) : fAddrV Try.prog 55 4 (.ptr (some (id, off))) = some (.ptr (some (id, fld off 7))) := fAddr_at (o := 7) (by kernel_rfl) id off
theorem fa_64_0 (id off : Nat) : fAddrV Try.prog 64 0 (.ptr (some (id, off))) = some (.ptr (some (id, off))) := fAddr_at (o := 0) (by kernel_rfl) id off
theorem fa_64_1 (id off : Nat) : fAddrV Try.prog 64 1 (.ptr (some (id, off))) = some (.ptr (some (id, fld off 1))) := fAddr_at (o := 1) (by kernel_rfl) id off
theorem fa_64_2 (id off : Nat) : fAddrV Try.prog 64 2 (.ptr (some (id, off))) = some (.ptr (some (id, fld off 2))) := fAddr_at (o := 2) (by kernel_rfl) id off
theorem fa_64_3 (id off : Nat) : fAddrV Try.prog 64 3 (.ptr (some (id, off))) = some (.ptr (some (id, fld off 3))) := fAddr_at (o := 3) (by kernel_rfl) id off
theorem fa_64_4 (id off : Nat) : fAddrV Try.prog 64 4 (.ptr (some (id, off))) = some (.ptr (some (id, fld off 4))) := fAddr_at (o := 4) (by kernel_rfl) id off
theorem fa_77_0 (id off : Nat) : fAddrV Try.prog 77 0 (.ptr (some (id, off))) = some (.ptr (some (id, off))) := fAddr_at (o := 0) (by kernel_rfl) id off
theorem fa_77_1 (id off : Nat) : fAddrV Try.prog 77 1 (.ptr (some (id, off))) = some (.ptr (some (id, fld off 1))) := fAddr_at (o := 1) (by kernel_rfl) id off
theorem fa_77_2 (id off : Nat) : fAddrV Try.prog 77 2 (.ptr (some (id, off))) = some (.ptr (some (id, fld off 2))) := fAddr_at (o := 2) (by kernel_rfl) id off
theorem fa_77_3 (id off : Nat) : fAddrV Try.prog 77 3 (.ptr (some (id, off))) = some (.ptr (some (id, fld off 3))) := fAddr_at (o := 3) (by kernel_rfl) id off
theorem fa_80_0 (id off : Nat) : fAddrV Try.prog 80 0 (.ptr (some (id, off))) = some (.ptr (some (id, off))) := fAddr_at (o := 0) (by kernel_rfl) id off
theorem fa_80_1 (id off : Nat) : fAddrV Try.prog 80 1 (.ptr (some (id, off))) = some (.ptr (some (id, fld off 1))) := fAddr_at (o := 1) (by kernel_rfl) id off
theorem fa_80_2 (id off : Nat) : fAddrV Try.prog 80 2 (.ptr (some (id, off))) = some (.ptr (some (id, fld off 2))) := fAddr_at (o := 2) (by kernel_rfl) id off
theorem fa_80_3 (id off : Nat) : fAddrV Try.prog 80 3 (.ptr (some (id, off))) = some (.ptr (some (id, fld off 3))) := fAddr_at (o := 3) (by kernel_rfl) id off
theorem fa_80_4 (id off : Nat) : fAddrV Try.prog 80 4 (.ptr (some (id, off))) = some (.ptr (some (id, fld off 4))) := fAddr_at (o := 4) (by kernel_rfl) id off
theorem fa_82_0 (id off : Nat) : fAddrV Try.prog 82 0 (.ptr (some (id, off))) = some (.ptr (some (id, off))) := fAddr_at (o := 0) (by kernel_rfl) id off
theorem fa_82_1 (id off : Nat) : fAddrV Try.prog 82 1 (.ptr (some (id, off))) = some (.ptr (some (id, fld off 1))) := fAddr_at (o := 1) (by kernel_rfl) id off
theorem fa_82_2 (id off : Nat) : fAddrV Try.prog 82 2 (.ptr (some (id, off))) = some (.ptr (some (id, fld off 2))) := fAddr_at (o := 2) (by kernel_rfl) id off
theorem fa_82_3 (id off : Nat) : fAddrV Try.prog 82 3 (.ptr (some (id, off))) = some (.ptr (some (id, fld off 3))) := fAddr_at (o := 3) (by kernel_rfl) id off
theorem fa_82_4 (id off : Nat) : fAddrV Try.prog 82 4 (.ptr (some (id, off))) = some (.ptr (some (id, fld off 4))) := fAddr_at (o := 4) (by kernel_rfl) id off
theorem fa_91_0 (id off : Nat) : fAddrV Try.prog 91 0 (.ptr (some (id, off))) = some (.ptr (some (id, off))) := fAddr_at (o := 0) (by kernel_rfl) id off
theorem fa_91_1 (id off : Nat) : fAddrV Try.prog 91 1 (.ptr (some (id, off))) = some (.ptr (some (id, fld off 1))) := fAddr_at (o := 1) (by kernel_rfl) id off
theorem fa_107_0 (id off : Nat) : fAddrV Try.prog 107 0 (.ptr (some (id, off))) = some (.ptr (some (id, off))) := fAddr_at (o := 0) (by kernel_rfl) id off
theorem fa_107_1 (id off : Nat) : fAddrV Try.prog 107 1 (.ptr (some (id, off))) = some (.ptr (some (id, fld off 1))) := fAddr_at (o := 1) (by kernel_rfl) id off
theorem fa_118_0 (id off : Nat) : fAddrV Try.prog 118 0 (.ptr (some (id, off))) = some (.ptr (some (id, off))) := fAddr_at (o := 0) (by kernel_rfl) id off
theorem fa_118_1 (id off : Nat) : fAddrV Try.prog 118 1 (.ptr (some (id, off))) = some (.ptr (some (id, fld off 1))) := fAddr_at (o := 1) (by kernel_rfl) id off
theorem fa_118_2 (id off : Nat) : fAddrV Try.prog 118 2 (.ptr (some (id, off))) = some (.ptr (some (id, fld off 2))) := fAddr_at (o := 2) (by kernel_rfl) id off
theorem ag_3 : aggT Try.prog 3 = some false := by kernel_rfl
theorem ld_3 (h : Heap) (id off : Nat) : loadV Try.prog 3 h id off = load1 h id off := loadV_one ag_3 h id off
theorem ag_4 : aggT Try.prog 4 = some false := by kernel_rfl
theorem ld_4 (h : Heap) (id off : Nat) : loadV Try.prog 4 h id off = load1 h id off := loadV_one ag_4 h id off
theorem ag_5 : aggT Try.prog 5 = some false := by kernel_rfl
theorem ld_5 (h : Heap) (id off : Nat) : loadV Try.prog 5 h id off = load1 h id off := loadV_one ag_5 h id off
theorem ag_22 : aggT Try.prog 22 = some false := by kernel_rfl
theorem ld_22 (h : Heap) (id off : Nat) : loadV Try.prog 22 h id off = load1 h id off := loadV_one ag_22 h id off
theorem ag_26 : aggT Try.prog 26 = some false := by kernel_rfl
theorem ld_26 (h : Heap) (id off : Nat) : loadV Try.prog 26 h id off = load1 h id off := loadV_one ag_26 h id off
theorem ag_30 : aggT Try.prog 30 = some false := by kernel_rfl
theorem ld_30 (h : Heap) (id off : Nat) : loadV Try.prog 30 h id off = load1 h id off := loadV_one ag_30 h id off
theorem ag_37 : aggT Try.prog 37 = some true := by kernel_rfl
theorem sz_37 : szT Try.prog 37 = some 2 := by kernel_rfl
theorem ld_37 (h : Heap) (id off : Nat) : loadV Try.prog 37 h id off = (loadN h id off 2).map .agg := loadV_agg ag_37 sz_37 h id off
theorem ag_41 : aggT Try.prog 41 = some false := by kernel_rfl
theorem ld_41 (h : Heap) (id off : Nat) : loadV Try.prog 41 h id off = load1 h id off := loadV_one ag_41 h id off
theorem ag_44 : aggT Try.prog 44 = some true := by kernel_rfl
theorem ld_44 (h : Heap) (id off : Nat) : loadV Try.prog 44 h id off = (loadN h id off 4).map .agg := loadV_agg ag_44 sz_44 h id off
theorem ag_50 : aggT Try.prog 50 = some false := by kernel_rfl
theorem ld_50 (h : Heap) (id off : Nat) : loadV Try.prog 50 h id off = load1 h id off := loadV_one ag_50 h id off
theorem ag_52 : aggT Try.prog 52 = some true := by kernel_rfl
theorem sz_52 : szT Try.prog 52 = some 4 := by kernel_rfl
theorem ld_52 (h : Heap) (id off : Nat) : loadV Try.prog 52 h id off = (loadN h id off 4).map .agg := loadV_agg ag_52 sz_52 h id off
theorem ag_53 : aggT Try.prog 53 = some false := by kernel_rfl
theorem ld_53 (h : Heap) (id off : Nat) : loadV Try.prog 53 h id off = load1 h id off := loadV_one ag_53 h id off
theorem ag_55 : aggT Try.prog 55 = some true := by kernel_rfl
theorem sz_55 : szT Try.prog 55 = some 8 := by kernel_rfl
theorem ld_55 (h : Heap) (id off : Nat) : loadV Try.prog 55 h id off = (loadN h id off 8).map .agg := loadV_agg ag_55 sz_55 h id off
theorem ag_64 : aggT Try.prog 64 = some true := by kernel_rfl
theorem ld_64 (h : Heap) (id off : Nat) : loadV Try.prog 64 h id off = (loadN h id off 5).map .agg := loadV_agg ag_64 sz_64 h id off
theorem ag_75 : aggT Try.prog 75 = some false := by kernel_rfl
theorem ld_75 (h : Heap) (id off : Nat) : loadV Try.prog 75 h id off = load1 h id off := loadV_one ag_75 h id off
theorem ag_78 : aggT Try.prog 78 = some false := by kernel_rfl
theorem ld_78 (h : Heap) (id off : Nat) : loadV Try.prog 78 h id off = load1 h id off := loadV_one ag_78 h id off
theorem ag_82 : aggT Try.prog 82 = some true := by kernel_rfl
theorem ld_82 (h : Heap) (id off : Nat) : loadV Try.prog 82 h id off = (loadN h id off 5).map .agg := loadV_agg ag_82 sz_82 h id off
theorem ag_91 : aggT Try.prog 91 = some true := by kernel_rfl
theorem ld_91 (h : Heap) (id off : Nat) : loadV Try.prog 91 h id off = (loadN h id off 2).map .agg := loadV_agg ag_91 sz_91 h id off
theorem ag_118 : aggT Try.prog 118 = some true := by kernel_rfl
theorem sz_118 : szT Try.prog 118 = some 3 := by kernel_rfl
theorem ld_118 (h : Heap) (id off : Nat) : loadV Try.prog 118 h id off = (loadN h id off 3).map .agg := loadV_agg ag_118 sz_118 h id off
theorem ag_119 : aggT Try.prog 119 = some false := by kernel_rfl
theorem ld_119 (h : Heap) (id off : Nat) : loadV Try.prog 119 h id off = load1 h id off := loadV_one ag_119 h id off
theorem ag_140 : aggT Try.prog 140 = some false := by kernel_rfl
theorem ld_140 (h : Heap) (id off : Nat) : loadV Try.prog 140 h id off = load1 h id off := loadV_one ag_140 h id off
theorem st_3 (h : Heap) (id off : Nat) (v : V) : storeV Try.prog 3 h id off v = if v.flat.length = 1 then storeN h id off v.flat else none := storeV_as sz_3 h id off v
theorem sz_4 : szT Try.prog 4 = some 1 := by kernel_rfl
theorem st_4 (h : Heap) (id off : Nat) (v : V) : storeV Try.prog 4 h id off v = if v.flat.length = 1 then storeN h id off v.flat else none := storeV_as sz_4 h id off v
theorem st_5 (h : Heap) (id off : Nat) (v : V) : storeV Try.prog 5 h id off v = if v.flat.length = 1 then storeN h id off v.flat else none := storeV_as sz_5 h id off v
theorem sz_30 : szT Try.prog 30 = some 1 := by kernel_rfl
theorem st_30 (h : Heap) (id off : Nat) (v : V) : storeV Try.prog 30 h id off v = if v.flat.length = 1 then storeN h id off v.flat else none := storeV_as sz_30 h id off v
theorem st_37 (h : Heap) (id off : Nat) (v : V) : storeV Try.prog 37 h id off v = if v.flat.length = 2 then storeN h id off v.flat else none := storeV_as sz_37 h id off v
theorem sz_41 : szT Try.prog 41 = some 1 := by kernel_rfl
theorem st_41 (h : Heap) (id off : Nat) (v : V) : storeV Try.prog 41 h id off v = if v.flat.length = 1 then storeN h id off v.flat else none := storeV_as sz_41 h id off v
theorem st_44 (h : Heap) (id off : Nat) (v : V) : storeV Try.prog 44 h id off v = if v.flat.length = 4 then storeN h id off v.flat else none := storeV_as sz_44 h id off v
theorem sz_50 : szT Try.prog 50 = some 1 := by kernel_rfl
theorem st_50 (h : Heap) (id off : Nat) (v : V) : storeV Try.prog 50 h id off v = if v.flat.length = 1 then storeN h id off v.flat else none := storeV_as sz_50 h id off v
theorem st_52 (h : Heap) (id off : Nat) (v : V) : storeV Try.prog 52 h id off v = if v.flat.length = 4 then storeN h id off v.flat else none := storeV_as sz_52 h id off v
theorem sz_53 : szT Try.prog 53 = some 1 := by kernel_rfl
theorem st_53 (h : Heap) (id off : Nat) (v : V) : storeV Try.prog 53 h id off v = if v.flat.length = 1 then storeN h id off v.flat else none := storeV_as sz_53 h id off v
theorem st_55 (h : Heap) (id off : Nat) (v : V) : storeV Try.prog 55 h id off v = if v.flat.length = 8 then storeN h id off v.flat else none := storeV_as sz_55 h id off v
theorem st_64 (h : Heap) (id off : Nat) (v : V) : storeV Try.prog 64 h id off v = if v.flat.length = 5 then storeN h id off v.flat else none := storeV_as sz_64 h id off v
theorem sz_75 : szT Try.prog 75 = some 1 := by kernel_rfl
theorem st_75 (h : Heap) (id off : Nat) (v : V) : storeV Try.prog 75 h id off v = if v.flat.length = 1 then storeN h id off v.flat else none := storeV_as sz_75 h id off v
theorem st_82 (h : Heap) (id off : Nat) (v : V) : storeV Try.prog 82 h id off v = if v.flat.length = 5 then storeN h id off v.flat else none := storeV_as sz_82 h id off v
theorem st_91 (h : Heap) (id off : Nat) (v : V) : storeV Try.prog 91 h id off v = if v.flat.length = 2 then storeN h id off v.flat else none := storeV_as sz_91 h id off v
theorem st_118 (h : Heap) (id off : Nat) (v : V) : storeV Try.prog 118 h id off v = if v.flat.length = 3 then storeN h id off v.flat else none := storeV_as sz_118 h id off v
theorem sz_140 : szT Try.prog 140 = some 1 := by kernel_rfl
theorem st_140 (h : Heap) (id off : Nat) (v : V) : storeV Try.prog 140 h id off v = if v.flat.length = 1 then storeN h id off v.flat else none := storeV_as sz_140 h id off v
theorem zs_3 : zerosT Try.prog 3 = some ([.int .i64 0]) := by kernel_rfl
theorem al_3 (tt : List V) (h : Heap) : p_alloc Try.prog tt h 3 = some (.ptr (some (h.length, 0)), h ++ [.cells ([.int .i64 0]) .rw]) := zeros_as zs_3
theorem zs_37 : zerosT Try.prog 37 = some ([.ptr none, .ptr none]) := by kernel_rfl
theorem al_37 (tt : List V) (h : Heap) : p_alloc Try.prog tt h 37 = some (.ptr (some (h.length, 0)), h ++ [.cells ([.ptr none, .ptr none]) .rw]) := zeros_as zs_37
theorem zs_44 : zerosT Try.prog 44 = some ([.int .i64 0, .int .i64 0, .int .i64 0, .int .u8 0]) := by kernel_rfl
theorem al_44 (tt : List V) (h : Heap) : p_alloc Try.prog tt h 44 = some (.ptr (some (h.length, 0)), h ++ [.cells ([.int .i64 0, .int .i64 0, .int .i64 0, .int .u8 0]) .rw]) := zeros_as zs_44
theorem zs_52 : zerosT Try.prog 52 = some ([.slice none 0 (some 0), .slice none 0 (some 0), .int .i64 0, .bool false]) := by kernel_rfl
theorem al_52 (tt : List V) (h : Heap) : p_alloc Try.prog tt h 52 = some (.ptr (some (h.length, 0)), h ++ [.cells ([.slice none 0 (some 0), .slice none 0 (some 0), .int .i64 0, .bool false]) .rw]) := zeros_as zs_52
theorem zs_55 : zerosT Try.prog 55 = some ([.slice none 0 (some 0), .slice none 0 (some 0), .int .i64 0, .bool false, .int .i64 0, .slice none 0 (some 0), .int .i64 0, .int .i64 0]) := by kernel_rfl
theorem al_55 (tt : List V) (h : Heap) : p_alloc Try.prog tt h 55 = some (.ptr (some (h.length, 0)), h ++ [.cells ([.slice none 0 (some 0), .slice none 0 (some 0), .int .i64 0, .bool false, .int .i64 0, .slice none 0 (some 0), .int .i64 0, .int .i64 0]) .rw]) := zeros_as zs_55
theorem zs_64 : zerosT Try.prog 64 = some ([.int .i64 0, .slice none 0 (some 0), .int .i64 0, .bool false, .bool false]) := by kernel_rfl
theorem al_64 (tt : List V) (h : Heap) : p_alloc Try.prog tt h 64 = some (.ptr (some (h.length, 0)), h ++ [.cells ([.int .i64 0, .slice none 0 (some 0), .int .i64 0, .bool false, .bool false]) .rw]) := zeros_as zs_64
theorem zs_82 : zerosT Try.prog 82 = some ([.int .i64 0, .slice none 0 (some 0), .int .i64 0, .bool false, .bool false]) := by kernel_rfl
theorem al_82 (tt : List V) (h : Heap) : p_alloc Try.prog tt h 82 = some (.ptr (some (h.length, 0)), h ++ [.cells ([.int .i64 0, .slice none 0 (some 0), .int .i64 0, .bool false, .bool false]) .rw]) := zeros_as zs_82
theorem zs_91 : zerosT Try.prog 91 = some ([.int .i64 0, .slice none 0 (some 0)]) := by kernel_rfl
theorem al_91 (tt : List V) (h : Heap) : p_alloc Try.prog tt h 91 = some (.ptr (some (h.length, 0)), h ++ [.cells ([.int .i64 0, .slice none 0 (some 0)]) .rw]) := zeros_as zs_91
theorem zs_118 : zerosT Try.prog 118 = some ([.int .i64 0, .int .i64 0, .slice none 0 (some 0)]) := by kernel_rfl
theorem al_118 (tt : List V) (h : Heap) : p_alloc Try.prog tt h 118 = some (.ptr (some (h.length, 0)), h ++ [.cells ([.int .i64 0, .int .i64 0, .slice none 0 (some 0)]) .rw]) := zeros_as zs_118
theorem zs_140 : zerosT Try.prog 140 = some ([.int .u64 0]) := by kernel_rfl
theorem al_140 (tt : List V) (h : Heap) : p_alloc Try.prog tt h 140 = some (.ptr (some (h.length, 0)), h ++ [.cells ([.int .u64 0]) .rw]) := zeros_as zs_140
theorem pl_37_0 : placesT Try.prog 37 0 = some (0, 1) := by kernel_rfl
theorem pl_37_1 : placesT Try.prog 37 1 = some (1, 1) := by kernel_rfl
theorem bd_37 (parts : List (Nat × V)) : buildV Try.prog 37 parts = (fillV (placesT Try.prog 37) ([.ptr none, .ptr none]) parts).map .agg := build_as zs_37 Try.underlying37 (by kernel_rfl) parts
theorem pl_52_0 : placesT Try.prog 52 0 = some (0, 1) := by kernel_rfl
theorem pl_52_1 : placesT Try.prog 52 1 = some (1, 1) := by kernel_rfl
theorem pl_52_2 : placesT Try.prog 52 2 = some (2, 1) := by kernel_rfl
theorem pl_52_3 : placesT Try.prog 52 3 = some (3, 1) := by kernel_rfl
theorem bd_52 (parts : List (Nat × V)) : buildV Try.prog 52 parts = (fillV (placesT Try.prog 52) ([.slice none 0 (some 0), .slice none 0 (some 0), .int .i64 0, .bool false]) parts).map .agg := build_as zs_52 Try.underlying52 (by kernel_rfl) parts
theorem pl_55_0 : placesT Try.prog 55 0 = some (0, 4) := by kernel_rfl
theorem pl_55_1 : placesT Try.prog 55 1 = some (4, 1) := by kernel_rfl
theorem pl_55_2 : placesT Try.prog 55 2 = some (5, 1) := by kernel_rfl
theorem pl_55_3 : placesT Try.prog 55 3 = some (6, 1) := by kernel_rfl
theorem pl_55_4 : placesT Try.prog 55 4 = some (7, 1) := by kernel_rfl
theorem bd_55 (parts : List (Nat × V)) : buildV Try.prog 55 parts = (fillV (placesT Try.prog 55) ([.slice none 0 (some 0), .slice none 0 (some 0), .int .i64 0, .bool false, .int .i64 0, .slice none 0 (some 0), .int .i64 0, .int .i64 0]) parts).map .agg := build_as zs_55 Try.underlying55 (by kernel_rfl) parts
theorem pl_64_0 : placesT Try.prog 64 0 = some (0, 1) := by kernel_rfl
theorem pl_64_1 : placesT Try.prog 64 1 = some (1, 1) := by kernel_rfl
theorem pl_64_2 : placesT Try.prog 64 2 = some (2, 1) := by kernel_rfl
theorem pl_64_3 : placesT Try.prog 64 3 = some (3, 1) := by kernel_rfl
theorem pl_64_4 : placesT Try.prog 64 4 = some (4, 1) := by kernel_rfl
theorem bd_64 (parts : List (Nat × V)) : buildV Try.prog 64 parts = (fillV (placesT Try.prog 64) ([.int .i64 0, .slice none 0 (some 0), .int .i64 0, .bool false, .bool false]) parts).map .agg := build_as zs_64 Try.underlying64 (by kernel_rfl) parts
theorem zs_77 : zerosT Try.prog 77 = some ([.slice none 0 (some 0), .slice none 0 (some 0), .int .i64 0, .bool false]) := by kernel_rfl
theorem pl_77_0 : placesT Try.prog 77 0 = some (0, 1) := by kernel_rfl
theorem pl_77_1 : placesT Try.prog 77 1 = some (1, 1) := by kernel_rfl
theorem pl_77_2 : placesT Try.prog 77 2 = some (2, 1) := by kernel_rfl
theorem pl_77_3 : placesT Try.prog 77 3 = some (3, 1) := by kernel_rfl
theorem bd_77 (parts : List (Nat × V)) : buildV Try.prog 77 parts = (fillV (placesT Try.prog 77) ([.slice none 0 (some 0), .slice none 0 (some 0), .int .i64 0, .bool false]) parts).map .agg := build_as zs_77 Try.underlying77 (by kernel_rfl) parts
theorem zs_80 : zerosT Try.prog 80 = some ([.ptr none, .int .i64 0, .slice none 0 (some 0), .int .i64 0, .int .i64 0]) := by kernel_rfl
theorem pl_80_0 : placesT Try.prog 80 0 = some (0, 1) := by kernel_rfl
theorem pl_80_1 : placesT Try.prog 80 1 = some (1, 1) := by kernel_rfl
theorem pl_80_2 : placesT Try.prog 80 2 = some (2, 1) := by kernel_rfl
theorem pl_80_3 : placesT Try.prog 80 3 = some (3, 1) := by kernel_rfl
theorem pl_80_4 : placesT Try.prog 80 4 = some (4, 1) := by kernel_rfl
theorem bd_80 (parts : List (Nat × V)) : buildV Try.prog 80 parts = (fillV (placesT Try.prog 80) ([.ptr none, .int .i64 0, .slice none 0 (some 0), .int .i64 0, .int .i64 0]) parts).map .agg := build_as zs_80 Try.underlying80 (by kernel_rfl) parts
theorem pl_82_0 : placesT Try.prog 82 0 = some (0, 1) := by kernel_rfl
theorem pl_82_1 : placesT Try.prog 82 1 = some (1, 1) := by kernel_rfl
theorem pl_82_2 : placesT Try.prog 82 2 = some (2, 1) := by kernel_rfl
theorem pl_82_3 : placesT Try.prog 82 3 = some (3, 1) := by kernel_rfl
theorem pl_82_4 : placesT Try.prog 82 4 = some (4, 1) := by kernel_rfl
theorem bd_82 (parts : List (Nat × V)) : buildV Try.prog 82 parts = (fillV (placesT Try.prog 82) ([.int .i64 0, .slice none 0 (some 0), .int .i64 0, .bool false, .bool false]) parts).map .agg := build_as zs_82 Try.underlying82 (by kernel_rfl) parts
theorem pl_91_0 : placesT Try.prog 91 0 = some (0, 1) := by kernel_rfl
theorem pl_91_1 : placesT Try.prog 91 1 = some (1, 1) := by kernel_rfl
theorem bd_91 (parts : List (Nat × V)) : buildV Try.prog 91 parts = (fillV (placesT Try.prog 91) ([.int .i64 0, .slice none 0 (some 0)]) parts).map .agg := build_as zs_91 Try.underlying91 (by kernel_rfl) parts
theorem zs_107 : zerosT Try.prog 107 = some ([.int .i64 0, .slice none 0 (some 0)]) := by kernel_rfl
theorem pl_107_0 : placesT Try.prog 107 0 = some (0, 1) := by kernel_rfl
theorem pl_107_1 : placesT Try.prog 107 1 = some (1, 1) := by kernel_rfl
theorem bd_107 (parts : List (Nat × V)) : buildV Try.prog 107 parts = (fillV (placesT Try.prog 107) ([.int .i64 0, .slice none 0 (some 0)]) parts).map .agg := build_as zs_107 Try.underlying107 (by kernel_rfl) parts
theorem pl_118_0 : placesT Try.prog 118 0 = some (0, 1) := by kernel_rfl
theorem pl_118_1 : placesT Try.prog 118 1 = some (1, 1) := by kernel_rfl
theorem pl_118_2 : placesT Try.prog 118 2 = some (2, 1) := by kernel_rfl
theorem bd_118 (parts : List (Nat × V)) : buildV Try.prog 118 parts = (fillV (placesT Try.prog 118) ([.int .i64 0, .int .i64 0, .slice none 0 (some 0)]) parts).map .agg := build_as zs_118 Try.underlying118 (by kernel_rfl) parts
theorem el_30 : elemT Try.prog 30 = some 3 := by kernel_rfl
theorem by_3 : byT Try.prog 3 = some 8 := by kernel_rfl
theorem zs_5 : zerosT Try.prog 5 = some ([.int .u8 0]) := by kernel_rfl
theorem el_41 : elemT Try.prog 41 = some 5 := by kernel_rfl
theorem by_5 : byT Try.prog 5 = some 1 := by kernel_rfl
theorem el_50 : elemT Try.prog 50 = some 107 := by kernel_rfl
theorem by_107 : byT Try.prog 107 = some 32 := by kernel_rfl
theorem el_53 : elemT Try.prog 53 = some 64 := by kernel_rfl
theorem by_64 : byT Try.prog 64 = some 48 := by kernel_rfl
theorem el_75 : elemT Try.prog 75 = some 91 := by kernel_rfl
theorem by_91 : byT Try.prog 91 = some 32 := by kernel_rfl
theorem el_78 : elemT Try.prog 78 = some 82 := by kernel_rfl
theorem by_82 : byT Try.prog 82 = some 48 := by kernel_rfl
theorem zs_119 : zerosT Try.prog 119 = some ([.nilFunc]) := by kernel_rfl
theorem el_120 : elemT Try.prog 120 = some 119 := by kernel_rfl
theorem by_119 : byT Try.prog 119 = some 8 := by kernel_rfl
theorem ko_40 (k : Int) : keyOk Try.prog 3 (.int .i64 k) = true := by simp only [keyOk, Try.underlying3]
theorem mu_40 (k : Int) (id : Nat) (v : V) (h : Heap) : mapUpdateV Try.prog 40 (.map (some id)) (.int .i64 k) v h = mapPut (.int .i64 k) v id h h[id]? := mapUpdate_as Try.underlying40 (ko_40 k) id v h
theorem zr_41 : zeroT Try.prog 41 = some (.slice none 0 (some 0)) := by kernel_rfl
theorem lk_40 (k : Int) (id : Nat) (ok : Bool) (h : Heap) : lookupV Try.prog 40 (.map (some id)) (.int .i64 k) ok h = mapGet (.int .i64 k) (.slice none 0 (some 0)) ok (entsOf h[id]?) := lookup_as Try.underlying40 zr_41 (ko_40 k) id ok h
theorem ko_69 (k : Int) : keyOk Try.prog 3 (.int .i64 k) = true := by simp only [keyOk, Try.underlying3]
theorem mu_69 (k : Int) (id : Nat) (v : V) (h : Heap) : mapUpdateV Try.prog 69 (.map (some id)) (.int .i64 k) v h = mapPut (.int .i64 k) v id h h[id]? := mapUpdate_as Try.underlying69 (ko_69 k) id v h
theorem zr_3 : zeroT Try.prog 3 = some (.int .i64 0) := by kernel_rfl
theorem lk_69 (k : Int) (id : Nat) (ok : Bool) (h : Heap) : lookupV Try.prog 69 (.map (some id)) (.int .i64 k) ok h = mapGet (.int .i64 k) (.int .i64 0) ok (entsOf h[id]?) := lookup_as Try.underlying69 zr_3 (ko_69 k) id ok h
theorem ko_70 (k : Int) : keyOk Try.prog 3 (.int .i64 k) = true := by simp only [keyOk, Try.underlying3]
theorem mu_70 (k : Int) (id : Nat) (v : V) (h : Heap) : mapUpdateV Try.prog 70 (.map (some id)) (.int .i64 k) v h = mapPut (.int .i64 k) v id h h[id]? := mapUpdate_as Try.underlying70 (ko_70 k) id v h
theorem zr_4 : zeroT Try.prog 4 = some (.bool false) := by kernel_rfl
theorem lk_70 (k : Int) (id : Nat) (ok : Bool) (h : Heap) : lookupV Try.prog 70 (.map (some id)) (.int .i64 k) ok h = mapGet (.int .i64 k) (.bool false) ok (entsOf h[id]?) := lookup_as Try.underlying70 zr_4 (ko_70 k) id ok h
theorem ap_30_30 (p : Option (Nat × Nat)) (len : Nat) (cap : Option Nat) (q : Option (Nat × Nat)) (n : Nat) (c : Option Nat) (h : Heap) : appendV Try.prog 30 30 (.slice p len cap) (.slice q n c) h = apv 1 8 p len cap (.slice q n c) n h := (append_as el_30 (by kernel_rfl) sz_3 by_3 zs_3 p len cap h).1 q n c
theorem ap_41_41 (p : Option (Nat × Nat)) (len : Nat) (cap : Option Nat) (q : Option (Nat × Nat)) (n : Nat) (c : Option Nat) (h : Heap) : appendV Try.prog 41 41 (.slice p len cap) (.slice q n c) h = apv 1 1 p len cap (.slice q n c) n h := (append_as el_41 (by kernel_rfl) sz_5 by_5 zs_5 p len cap h).1 q n c
theorem ap_50_50 (p : Option (Nat × Nat)) (len : Nat) (cap : Option Nat) (q : Option (Nat × Nat)) (n : Nat) (c : Option Nat) (h : Heap) : appendV Try.prog 50 50 (.slice p len cap) (.slice q n c) h = apv 2 32 p len cap (.slice q n c) n h := (append_as el_50 (by kernel_rfl) sz_107 by_107 zs_107 p len cap h).1 q n c
theorem ap_53_53 (p : Option (Nat × Nat)) (len : Nat) (cap : Option Nat) (q : Option (Nat × Nat)) (n : Nat) (c : Option Nat) (h : Heap) : appendV Try.prog 53 53 (.slice p len cap) (.slice q n c) h = apv 5 48 p len cap (.slice q n c) n h := (append_as el_53 (by kernel_rfl) sz_64 by_64 zs_64 p len cap h).1 q n c
theorem ap_75_75 (p : Option (Nat × Nat)) (len : Nat) (cap : Option Nat) (q : Option (Nat × Nat)) (n : Nat) (c : Option Nat) (h : Heap) : appendV Try.prog 75 75 (.slice p len cap) (.slice q n c) h = apv 2 32 p len cap (.slice q n c) n h := (append_as el_75 (by kernel_rfl) sz_91 by_91 zs_91 p len cap h).1 q n c
theorem cp_41 (p : Option (Nat × Nat)) (len : Nat) (cap : Option Nat) (q : Option (Nat × Nat)) (n : Nat) (c : Option Nat) (h : Heap) : copyV Try.prog 41 (.slice p len cap) (.slice q n c) h = cpv 1 p len (.slice q n c) n h := (copy_as el_41 sz_5 p len cap h).1 q n c
theorem cps_41 (p : Option (Nat × Nat)) (len : Nat) (cap : Option Nat) (s : List Int) (h : Heap) : copyV Try.prog 41 (.slice p len cap) (.str s) h = cpv 1 p len (.str s) s.length h := (copy_as el_41 sz_5 p len cap h).2 s
theorem sl_41 (h : Heap) (p : Option (Nat × Nat)) (len : Nat) (cap : Option Nat) (lo hi mx : Option V) : sliceOp Try.prog h 41 (.slice p len cap) lo hi mx = sliceV h 1 p len cap lo hi mx := slice_as Try.underlying41 sz_5 h p len cap lo hi mx
theorem ms_41 {k k' : IntKind} {l c : Int} (h : Heap) (h0 : 0 ≤ l) (hlc : l ≤ c) (hc : c ≤ 9223372036854775807) (hB : (1 : Int) * c ≤ 281474976710656) : makeSliceV Try.prog 41 (.int k l) (.int k' c) h = some (.slice (some (h.length, 0)) l.toNat (some c.toNat), h ++ [.cells (reps c.toNat ([.int .u8 0])) .rw]) := makeSlice_as el_41 by_5 zs_5 h h0 hlc hc hB
theorem ms_78 {k k' : IntKind} {l c : Int} (h : Heap) (h0 : 0 ≤ l) (hlc : l ≤ c) (hc : c ≤ 9223372036854775807) (hB : (48 : Int) * c ≤ 281474976710656) : makeSliceV Try.prog 78 (.int k l) (.int k' c) h = some (.slice (some (h.length, 0)) l.toNat (some c.toNat), h ++ [.cells (reps c.toNat ([.int .i64 0, .slice none 0 (some 0), .int .i64 0, .bool false, .bool false])) .rw]) := makeSlice_as el_78 by_82 zs_82 h h0 hlc hc hB
theorem cv_3_5 (k : IntKind) (n : Int) (h : Heap) : convV Try.prog 3 5 (.int k n) h = some (.int .u8 (IntKind.wrap .u8 n), h) := conv_int Try.underlying3 Try.underlying5 k n h
theorem cv_3_124 (k : IntKind) (n : Int) (h : Heap) : convV Try.prog 3 124 (.int k n) h = some (.int .u64 (IntKind.wrap .u64 n), h) := conv_int Try.underlying3 Try.underlying124 k n h
theorem cv_3_140 (k : IntKind) (n : Int) (h : Heap) : convV Try.prog 3 140 (.int k n) h = some (.int .u64 (IntKind.wrap .u64 n), h) := conv_int Try.underlying3 Try.underlying140 k n h
theorem cv_5_3 (k : IntKind) (n : Int) (h : Heap) : convV Try.prog 5 3 (.int k n) h = some (.int .i64 (IntKind.wrap .i64 n), h) := conv_int Try.underlying5 Try.underlying3 k n h
theorem cv_124_3 (k : IntKind) (n : Int) (h : Heap) : convV Try.prog 124 3 (.int k n) h = some (.int .i64 (IntKind.wrap .i64 n), h) := conv_int Try.underlying124 Try.underlying3 k n h
theorem cv_124_136 (k : IntKind) (n : Int) (h : Heap) : convV Try.prog 124 136 (.int k n) h = some (.int .u32 (IntKind.wrap .u32 n), h) := conv_int Try.underlying124 Try.underlying136 k n h
theorem cv_136_5 (k : IntKind) (n : Int) (h : Heap) : convV Try.prog 136 5 (.int k n) h = some (.int .u8 (IntKind.wrap .u8 n), h) := conv_int Try.underlying136 Try.underlying5 k n h
theorem cv_138_5 (k : IntKind) (n : Int) (h : Heap) : convV Try.prog 138 5 (.int k n) h = some (.int .u8 (IntKind.wrap .u8 n), h) := conv_int Try.underlying138 Try.underlying5 k n h
theorem eql_22 (x y : Operand) (p : Option (Nat × Nat)) : binV Try.prog .eql 22 x y (.ptr p) (.ptr none) = some (.bool (decide (p = none))) := bin_eql_nilp Try.underlying22 x y p
theorem neq_22 (x y : Operand) (p : Option (Nat × Nat)) : binV Try.prog .neq 22 x y (.ptr p) (.ptr none) = some (.bool (decide (¬ p = none))) := bin_neq_nilp Try.underlying22 x y p
theorem eql_26 (x y : Operand) (p : Option (Nat × Nat)) : binV Try.prog .eql 26 x y (.ptr p) (.ptr none) = some (.bool (decide (p = none))) := bin_eql_nilp Try.underlying26 x y p
theorem neq_26 (x y : Operand) (p : Option (Nat × Nat)) : binV Try.prog .neq 26 x y (.ptr p) (.ptr none) = some (.bool (decide (¬ p = none))) := bin_neq_nilp Try.underlying26 x y p
theorem eql_41 (x y : Operand) (p : Option (Nat × Nat)) (n : Nat) (c : Option Nat) : binV Try.prog .eql 41 x y (.slice p n c) (.slice none 0 (some 0)) = some (.bool (decide (p = none))) := bin_eql_nils Try.underlying41 x y p n c
theorem neq_41 (x y : Operand) (p : Option (Nat × Nat)) (n : Nat) (c : Option Nat) : binV Try.prog .neq 41 x y (.slice p n c) (.slice none 0 (some 0)) = some (.bool (decide (¬ p = none))) := bin_neq_nils Try.underlying41 x y p n c
theorem eql_86 (x y : Operand) (p : Option (Nat × Nat)) : binV Try.prog .eql 86 x y (.ptr p) (.ptr none) = some (.bool (decide (p = none))) := bin_eql_nilp Try.underlying86 x y p
theorem neq_86 (x y : Operand) (p : Option (Nat × Nat)) : binV Try.prog .neq 86 x y (.ptr p) (.ptr none) = some (.bool (decide (¬ p = none))) := bin_neq_nilp Try.underlying86 x y p
/-- The rules of the types. -/
theorem TY : type_of% (And.intro (And.intro (And.intro (And.intro (And.intro (And.intro (And.intro @ixs_9 (And.intro @sz_3 @ix_30)) (And.intro (And.intro @sz_44 @ix_34) (And.intro @sz_5 @ix_41))) (And.intro (And.intro (And.intro @sz_107 @ix_50) (And.intro @sz_64 @ix_53)) (And.intro (And.intro @sz_91 @ix_75) (And.intro @sz_82 @ix_78)))) (And.intro (And.intro (And.intro (And.intro @sz_119 @ix_120) (And.intro @ln_30 @ln_34)) (And.intro (And.intro @ln_41 @ln_50) (And.intro @ln_53 @ln_75))) (And.intro (And.intro (And.intro @ln_78 @ln_120) (And.intro @fa_37_0 @fa_37_1)) (And.intro (And.intro @fa_44_0 @fa_44_1) (And.intro @fa_44_2 @fa_44_3))))) (And.intro (And.intro (And.intro (And.intro (And.intro @fa_52_0 @fa_52_1) (And.intro @fa_52_2 @fa_52_3)) (And.intro (And.intro @fa_55_0 @fa_55_1) (And.intro @fa_55_2 @fa_55_3))) (And.intro (And.intro (And.intro @fa_55_4 @fa_64_0) (And.intro @fa_64_1 @fa_64_2)) (And.intro (And.intro @fa_64_3 @fa_64_4) (And.intro @fa_77_0 @fa_77_1)))) (And.intro (And.intro (And.intro (And.intro @fa_77_2 @fa_77_3) (And.intro @fa_80_0 @fa_80_1)) (And.intro (And.intro @fa_80_2 @fa_80_3) (And.intro @fa_80_4 @fa_82_0))) (And.intro (And.intro (And.intro @fa_82_1 @fa_82_2) (And.intro @fa_82_3 @fa_82_4)) (And.intro (And.intro @fa_91_0 @fa_91_1) (And.intro @fa_107_0 @fa_107_1)))))) (And.intro (And.intro (And.intro (And.intro (And.intro (And.intro @fa_118_0 @fa_118_1) (And.intro @fa_118_2 @ag_3)) (And.intro (And.intro @ld_3 @ag_4) (And.intro @ld_4 @ag_5))) (And.intro (And.intro (And.intro @ld_5 @ag_22) (And.intro @ld_22 @ag_26)) (And.intro (And.intro @ld_26 @ag_30) (And.intro @ld_30 @ag_37)))) (And.intro (And.intro (And.intro (And.intro @sz_37 @ld_37) (And.intro @ag_41 @ld_41)) (And.intro (And.intro @ag_44 @ld_44) (And.intro @ag_50 @ld_50))) (And.intro (And.intro (And.intro @ag_52 @sz_52) (And.intro @ld_52 @ag_53)) (And.intro (And.intro @ld_53 @ag_55) (And.intro @sz_55 @ld_55))))) (And.intro (And.intro (And.intro (And.intro (And.intro @ag_64 @ld_64) (And.intro @ag_75 @ld_75)) (And.intro (And.intro @ag_78 @ld_78) (And.intro @ag_82 @ld_82))) (And.intro (And.intro (And.intro @ag_91 @ld_91) (And.intro @ag_118 @sz_118)) (And.intro (And.intro @ld_118 @ag_119) (And.intro @ld_119 @ag_140)))) (And.intro (And.intro (And.intro (And.intro @ld_140 @st_3) (And.intro @sz_4 @st_4)) (And.intro (And.intro @st_5 @sz_30) (And.intro @st_30 @st_37))) (And.intro (And.intro (And.intro @sz_41 @st_41) (And.intro @st_44 @sz_50)) (And.intro (And.intro @st_50 @st_52) (And.intro @sz_53 @st_53))))))) (And.intro (And.intro (And.intro (And.intro (And.intro (And.intro @st_55 (And.intro @st_64 @sz_75)) (And.intro (And.intro @st_75 @st_82) (And.intro @st_91 @st_118))) (And.intro (And.intro (And.intro @sz_140 @st_140) (And.intro @zs_3 @al_3)) (And.intro (And.intro @zs_37 @al_37) (And.intro @zs_44 @al_44)))) (And.intro (And.intro (And.intro (And.intro @zs_52 @al_52) (And.intro @zs_55 @al_55)) (And.intro (And.intro @zs_64 @al_64) (And.intro @zs_82 @al_82))) (And.intro (And.intro (And.intro @zs_91 @al_91) (And.intro @zs_118 @al_118)) (And.intro (And.intro @zs_140 @al_140) (And.intro @pl_37_0 @pl_37_1))))) (And.intro (And.intro (And.intro (And.intro (And.intro @bd_37 @pl_52_0) (And.intro @pl_52_1 @pl_52_2)) (And.intro (And.intro @pl_52_3 @bd_52) (And.intro @pl_55_0 @pl_55_1))) (And.intro (And.intro (And.intro @pl_55_2 @pl_55_3) (And.intro @pl_55_4 @bd_55)) (And.intro (And.intro @pl_64_0 @pl_64_1) (And.intro @pl_64_2 @pl_64_3)))) (And.intro (And.intro (And.intro (And.intro @pl_64_4 @bd_64) (And.intro @zs_77 @pl_77_0)) (And.intro (And.intro @pl_77_1 @pl_77_2) (And.intro @pl_77_3 @bd_77))) (And.intro (And.intro (And.intro @zs_80 @pl_80_0) (And.intro @pl_80_1 @pl_80_2)) (And.intro (And.intro @pl_80_3 @pl_80_4) (And.intro @bd_80 @pl_82_0)))))) (And.intro (And.intro (And.intro (And.intro (And.intro (And.intro @pl_82_1 @pl_82_2) (And.intro @pl_82_3 @pl_82_4)) (And.intro (And.intro @bd_82 @pl_91_0) (And.intro @pl_91_1 @bd_91))) (And.intro (And.intro (And.intro @zs_107 @pl_107_0) (And.intro @pl_107_1 @bd_107)) (And.intro (And.intro @pl_118_0 @pl_118_1) (And.intro @pl_118_2 @bd_118)))) (And.intro (And.intro (And.intro (And.intro @el_30 @by_3) (And.intro @zs_5 @el_41)) (And.intro (And.intro @by_5 @el_50) (And.intro @by_107 @el_53))) (And.intro (And.intro (And.intro @by_64 @el_75) (And.intro @by_91 @el_78)) (And.intro (And.intro @by_82 @zs_119) (And.intro @el_120 @by_119))))) (And.intro (And.intro (And.intro (And.intro (And.intro @mu_40 @lk_40) (And.intro @mu_69 @lk_69)) (And.intro (And.intro @mu_70 @lk_70) (And.intro @ap_30_30 @ap_41_41))) (And.intro (And.intro (And.intro @ap_50_50 @ap_53_53) (And.intro @ap_75_75 @cp_41)) (And.intro (And.intro @cps_41 @sl_41) (And.intro @ms_41 @ms_78)))) (And.intro (And.intro (And.intro (And.intro @cv_3_5 @cv_3_124) (And.intro @cv_3_140 @cv_5_3)) (And.intro (And.intro @cv_124_3 @cv_124_136) (And.intro @cv_136_5 @cv_138_5))) (And.intro (And.intro (And.intro @eql_22 @neq_22) (And.intro @eql_26 @neq_26)) (And.intro (And.intro @eql_41 @neq_41) (And.intro @eql_86 @neq_86)))))))) := (And.intro (And.intro (And.intro (And.intro (And.intro (And.intro (And.intro @ixs_9 (And.intro @sz_3 @ix_30)) (And.intro (And.intro @sz_44 @ix_34) (And.intro @sz_5 @ix_41))) (And.intro (And.intro (And.intro @sz_107 @ix_50) (And.intro @sz_64 @ix_53)) (And.intro (And.intro @sz_91 @ix_75) (And.intro @sz_82 @ix_78)))) (And.intro (And.intro (And.intro (And.intro @sz_119 @ix_120) (And.intro @ln_30 @ln_34)) (And.intro (And.intro @ln_41 @ln_50) (And.intro @ln_53 @ln_75))) (And.intro (And.intro (And.intro @ln_78 @ln_120) (And.intro @fa_37_0 @fa_37_1)) (And.intro (And.intro @fa_44_0 @fa_44_1) (And.intro @fa_44_2 @fa_44_3))))) (And.intro (And.intro (And.intro (And.intro (And.intro @fa_52_0 @fa_52_1) (And.intro @fa_52_2 @fa_52_3)) (And.intro (And.intro @fa_55_0 @fa_55_1) (And.intro @fa_55_2 @fa_55_3))) (And.intro (And.intro (And.intro @fa_55_4 @fa_64_0) (And.intro @fa_64_1 @fa_64_2)) (And.intro (And.intro @fa_64_3 @fa_64_4) (And.intro @fa_77_0 @fa_77_1)))) (And.intro (And.intro (And.intro (And.intro @fa_77_2 @fa_77_3) (And.intro @fa_80_0 @fa_80_1)) (And.intro (And.intro @fa_80_2 @fa_80_3) (And.intro @fa_80_4 @fa_82_0))) (And.intro (And.intro (And.intro @fa_82_1 @fa_82_2) (And.intro @fa_82_3 @fa_82_4)) (And.intro (And.intro @fa_91_0 @fa_91_1) (And.intro @fa_107_0 @fa_107_1)))))) (And.intro (And.intro (And.intro (And.intro (And.intro (And.intro @fa_118_0 @fa_118_1) (And.intro @fa_118_2 @ag_3)) (And.intro (And.intro @ld_3 @ag_4) (And.intro @ld_4 @ag_5))) (And.intro (And.intro (And.intro @ld_5 @ag_22) (And.intro @ld_22 @ag_26)) (And.intro (And.intro @ld_26 @ag_30) (And.intro @ld_30 @ag_37)))) (And.intro (And.intro (And.intro (And.intro @sz_37 @ld_37) (And.intro @ag_41 @ld_41)) (And.intro (And.intro @ag_44 @ld_44) (And.intro @ag_50 @ld_50))) (And.intro (And.intro (And.intro @ag_52 @sz_52) (And.intro @ld_52 @ag_53)) (And.intro (And.intro @ld_53 @ag_55) (And.intro @sz_55 @ld_55))))) (And.intro (And.intro (And.intro (And.intro (And.intro @ag_64 @ld_64) (And.intro @ag_75 @ld_75)) (And.intro (And.intro @ag_78 @ld_78) (And.intro @ag_82 @ld_82))) (And.intro (And.intro (And.intro @ag_91 @ld_91) (And.intro @ag_118 @sz_118)) (And.intro (And.intro @ld_118 @ag_119) (And.intro @ld_119 @ag_140)))) (And.intro (And.intro (And.intro (And.intro @ld_140 @st_3) (And.intro @sz_4 @st_4)) (And.intro (And.intro @st_5 @sz_30) (And.intro @st_30 @st_37))) (And.intro (And.intro (And.intro @sz_41 @st_41) (And.intro @st_44 @sz_50)) (And.intro (And.intro @st_50 @st_52) (And.intro @sz_53 @st_53))))))) (And.intro (And.intro (And.intro (And.intro (And.intro (And.intro @st_55 (And.intro @st_64 @sz_75)) (And.intro (And.intro @st_75 @st_82) (And.intro @st_91 @st_118))) (And.intro (And.intro (And.intro @sz_140 @st_140) (And.intro @zs_3 @al_3)) (And.intro (And.intro @zs_37 @al_37) (And.intro @zs_44 @al_44)))) (And.intro (And.intro (And.intro (And.intro @zs_52 @al_52) (And.intro @zs_55 @al_55)) (And.intro (And.intro @zs_64 @al_64) (And.intro @zs_82 @al_82))) (And.intro (And.intro (And.intro @zs_91 @al_91) (And.intro @zs_118 @al_118)) (And.intro (And.intro @zs_140 @al_140) (And.intro @pl_37_0 @pl_37_1))))) (And.intro (And.intro (And.intro (And.intro (And.intro @bd_37 @pl_52_0) (And.intro @pl_52_1 @pl_52_2)) (And.intro (And.intro @pl_52_3 @bd_52) (And.intro @pl_55_0 @pl_55_1))) (And.intro (And.intro (And.intro @pl_55_2 @pl_55_3) (And.intro @pl_55_4 @bd_55)) (And.intro (And.intro @pl_64_0 @pl_64_1) (And.intro @pl_64_2 @pl_64_3)))) (And.intro (And.intro (And.intro (And.intro @pl_64_4 @bd_64) (And.intro @zs_77 @pl_77_0)) (And.intro (And.intro @pl_77_1 @pl_77_2) (And.intro @pl_77_3 @bd_77))) (And.intro (And.intro (And.intro @zs_80 @pl_80_0) (And.intro @pl_80_1 @pl_80_2)) (And.intro (And.intro @pl_80_3 @pl_80_4) (And.intro @bd_80 @pl_82_0)))))) (And.intro (And.intro (And.intro (And.intro (And.intro (And.intro @pl_82_1 @pl_82_2) (And.intro @pl_82_3 @pl_82_4)) (And.intro (And.intro @bd_82 @pl_91_0) (And.intro @pl_91_1 @bd_91))) (And.intro (And.intro (And.intro @zs_107 @pl_107_0) (And.intro @pl_107_1 @bd_107)) (And.intro (And.intro @pl_118_0 @pl_118_1) (And.intro @pl_118_2 @bd_118)))) (And.intro (And.intro (And.intro (And.intro @el_30 @by_3) (And.intro @zs_5 @el_41)) (And.intro (And.intro @by_5 @el_50) (And.intro @by_107 @el_53))) (And.intro (And.intro (And.intro @by_64 @el_75) (And.intro @by_91 @el_78)) (And.intro (And.intro @by_82 @zs_119) (And.intro @el_120 @by_119))))) (And.intro (And.intro (And.intro (And.intro (And.intro @mu_40 @lk_40) (And.intro @mu_69 @lk_69)) (And.intro (And.intro @mu_70 @lk_70) (And.intro @ap_30_30 @ap_41_41))) (And.intro (And.intro (And.intro @ap_50_50 @ap_53_53) (And.intro @ap_75_75 @cp_41)) (And.intro (And.intro @cps_41 @sl_41) (And.intro @ms_41 @ms_78)))) (And.intro (And.intro (And.intro (And.intro @cv_3_5 @cv_3_124) (And.intro @cv_3_140 @cv_5_3)) (And.intro (And.intro @cv_124_3 @cv_124_136) (And.intro @cv_136_5 @cv_138_5))) (And.intro (And.intro (And.intro @eql_22 @neq_22) (And.intro @eql_26 @neq_26)) (And.intro (And.intro @eql_41 @neq_41) (And.intro @eql_86 @neq_86))))))))
end Go.Proofs.YtmjfhckioaempaaA
