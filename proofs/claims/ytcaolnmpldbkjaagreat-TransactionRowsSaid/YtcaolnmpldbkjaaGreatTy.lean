/- Written by gent.py, a program of this session: the rules of the types. -/
import Derived.Test.YtcaolnmpldbkjaaGreatAxR
import Derived.Test.YtcaolnmpldbkjaaGreatProg
namespace Go.Proofs.YtcaolnmpldbkjaaGreatA
open Go Go.Proofs Go.RowKit
set_option linter.unusedVariables false
set_option linter.unusedSimpArgs false
theorem ixs_9 {s : List Int} {k : IntKind} {i : Int} (h0 : 0 ≤ i) : indexV Tryz.prog 9 (.str s) (.int k i) = (s[i.toNat]?).map (.int .u8) := index_str Tryz.underlying9 h0
theorem sz_61 : szT Tryz.prog 61 = some 5 := by kernel_rfl
theorem ix_22 {p : Option (Nat × Nat)} {n : Nat} {c : Option Nat} {k : IntKind} {i : Int} (hp : p = none → n = 0) (h0 : 0 ≤ i) (h1 : i < n) : indexAddrV Tryz.prog 22 (.slice p n c) (.int k i) = some (.ptr (some (sid p, soff p + i.toNat * 5))) := ixa Tryz.underlying22 sz_61 hp h0 h1
theorem sz_38 : szT Tryz.prog 38 = some 7 := by kernel_rfl
theorem ix_23 {p : Option (Nat × Nat)} {n : Nat} {c : Option Nat} {k : IntKind} {i : Int} (hp : p = none → n = 0) (h0 : 0 ≤ i) (h1 : i < n) : indexAddrV Tryz.prog 23 (.slice p n c) (.int k i) = some (.ptr (some (sid p, soff p + i.toNat * 7))) := ixa Tryz.underlying23 sz_38 hp h0 h1
theorem sz_36 : szT Tryz.prog 36 = some 5 := by kernel_rfl
theorem ix_24 {p : Option (Nat × Nat)} {n : Nat} {c : Option Nat} {k : IntKind} {i : Int} (hp : p = none → n = 0) (h0 : 0 ≤ i) (h1 : i < n) : indexAddrV Tryz.prog 24 (.slice p n c) (.int k i) = some (.ptr (some (sid p, soff p + i.toNat * 5))) := ixa Tryz.underlying24 sz_36 hp h0 h1
theorem sz_116 : szT Tryz.prog 116 = some 6 := by kernel_rfl
theorem ix_29 {p : Option (Nat × Nat)} {n : Nat} {c : Option Nat} {k : IntKind} {i : Int} (hp : p = none → n = 0) (h0 : 0 ≤ i) (h1 : i < n) : indexAddrV Tryz.prog 29 (.slice p n c) (.int k i) = some (.ptr (some (sid p, soff p + i.toNat * 6))) := ixa Tryz.underlying29 sz_116 hp h0 h1
theorem sz_49 : szT Tryz.prog 49 = some 3 := by kernel_rfl
theorem ix_34 {p : Option (Nat × Nat)} {n : Nat} {c : Option Nat} {k : IntKind} {i : Int} (hp : p = none → n = 0) (h0 : 0 ≤ i) (h1 : i < n) : indexAddrV Tryz.prog 34 (.slice p n c) (.int k i) = some (.ptr (some (sid p, soff p + i.toNat * 3))) := ixa Tryz.underlying34 sz_49 hp h0 h1
theorem sz_54 : szT Tryz.prog 54 = some 3 := by kernel_rfl
theorem ix_50 {p : Option (Nat × Nat)} {n : Nat} {c : Option Nat} {k : IntKind} {i : Int} (hp : p = none → n = 0) (h0 : 0 ≤ i) (h1 : i < n) : indexAddrV Tryz.prog 50 (.slice p n c) (.int k i) = some (.ptr (some (sid p, soff p + i.toNat * 3))) := ixa Tryz.underlying50 sz_54 hp h0 h1
theorem sz_33 : szT Tryz.prog 33 = some 2 := by kernel_rfl
theorem ix_52 {p : Option (Nat × Nat)} {n : Nat} {c : Option Nat} {k : IntKind} {i : Int} (hp : p = none → n = 0) (h0 : 0 ≤ i) (h1 : i < n) : indexAddrV Tryz.prog 52 (.slice p n c) (.int k i) = some (.ptr (some (sid p, soff p + i.toNat * 2))) := ixa Tryz.underlying52 sz_33 hp h0 h1
theorem sz_91 : szT Tryz.prog 91 = some 2 := by kernel_rfl
theorem ix_57 {p : Option (Nat × Nat)} {n : Nat} {c : Option Nat} {k : IntKind} {i : Int} (hp : p = none → n = 0) (h0 : 0 ≤ i) (h1 : i < n) : indexAddrV Tryz.prog 57 (.slice p n c) (.int k i) = some (.ptr (some (sid p, soff p + i.toNat * 2))) := ixa Tryz.underlying57 sz_91 hp h0 h1
theorem sz_3 : szT Tryz.prog 3 = some 1 := by kernel_rfl
theorem ix_58 {p : Option (Nat × Nat)} {n : Nat} {c : Option Nat} {k : IntKind} {i : Int} (hp : p = none → n = 0) (h0 : 0 ≤ i) (h1 : i < n) : indexAddrV Tryz.prog 58 (.slice p n c) (.int k i) = some (.ptr (some (sid p, soff p + i.toNat * 1))) := ixa Tryz.underlying58 sz_3 hp h0 h1
theorem sz_98 : szT Tryz.prog 98 = some 4 := by kernel_rfl
theorem ix_77 {p : Option (Nat × Nat)} {n : Nat} {c : Option Nat} {k : IntKind} {i : Int} (hp : p = none → n = 0) (h0 : 0 ≤ i) (h1 : i < n) : indexAddrV Tryz.prog 77 (.slice p n c) (.int k i) = some (.ptr (some (sid p, soff p + i.toNat * 4))) := ixa Tryz.underlying77 sz_98 hp h0 h1
theorem sz_34 : szT Tryz.prog 34 = some 1 := by kernel_rfl
theorem ix_134 {p : Option (Nat × Nat)} {n : Nat} {c : Option Nat} {k : IntKind} {i : Int} (hp : p = none → n = 0) (h0 : 0 ≤ i) (h1 : i < n) : indexAddrV Tryz.prog 134 (.slice p n c) (.int k i) = some (.ptr (some (sid p, soff p + i.toNat * 1))) := ixa Tryz.underlying134 sz_34 hp h0 h1
theorem ln_9 (s : List Int) (h : Heap) : lenB Tryz.prog 9 (.str s) h = some (.int .i64 s.length) := len_str Tryz.underlying9 s h
theorem ln_22 (p : Option (Nat × Nat)) (n : Nat) (c : Option Nat) (h : Heap) : lenB Tryz.prog 22 (.slice p n c) h = some (.int .i64 n) := len_slice Tryz.underlying22 p n c h
theorem ln_23 (p : Option (Nat × Nat)) (n : Nat) (c : Option Nat) (h : Heap) : lenB Tryz.prog 23 (.slice p n c) h = some (.int .i64 n) := len_slice Tryz.underlying23 p n c h
theorem ln_24 (p : Option (Nat × Nat)) (n : Nat) (c : Option Nat) (h : Heap) : lenB Tryz.prog 24 (.slice p n c) h = some (.int .i64 n) := len_slice Tryz.underlying24 p n c h
theorem ln_29 (p : Option (Nat × Nat)) (n : Nat) (c : Option Nat) (h : Heap) : lenB Tryz.prog 29 (.slice p n c) h = some (.int .i64 n) := len_slice Tryz.underlying29 p n c h
theorem ln_34 (p : Option (Nat × Nat)) (n : Nat) (c : Option Nat) (h : Heap) : lenB Tryz.prog 34 (.slice p n c) h = some (.int .i64 n) := len_slice Tryz.underlying34 p n c h
theorem ln_50 (p : Option (Nat × Nat)) (n : Nat) (c : Option Nat) (h : Heap) : lenB Tryz.prog 50 (.slice p n c) h = some (.int .i64 n) := len_slice Tryz.underlying50 p n c h
theorem ln_52 (p : Option (Nat × Nat)) (n : Nat) (c : Option Nat) (h : Heap) : lenB Tryz.prog 52 (.slice p n c) h = some (.int .i64 n) := len_slice Tryz.underlying52 p n c h
theorem ln_57 (p : Option (Nat × Nat)) (n : Nat) (c : Option Nat) (h : Heap) : lenB Tryz.prog 57 (.slice p n c) h = some (.int .i64 n) := len_slice Tryz.underlying57 p n c h
theorem ln_58 (p : Option (Nat × Nat)) (n : Nat) (c : Option Nat) (h : Heap) : lenB Tryz.prog 58 (.slice p n c) h = some (.int .i64 n) := len_slice Tryz.underlying58 p n c h
theorem ln_77 (p : Option (Nat × Nat)) (n : Nat) (c : Option Nat) (h : Heap) : lenB Tryz.prog 77 (.slice p n c) h = some (.int .i64 n) := len_slice Tryz.underlying77 p n c h
theorem ln_134 (p : Option (Nat × Nat)) (n : Nat) (c : Option Nat) (h : Heap) : lenB Tryz.prog 134 (.slice p n c) h = some (.int .i64 n) := len_slice Tryz.underlying134 p n c h
theorem fa_31_0 (id off : Nat) : fAddrV Tryz.prog 31 0 (.ptr (some (id, off))) = some (.ptr (some (id, off))) := fAddr_at (o := 0) (by kernel_rfl) id off
theorem fa_31_1 (id off : Nat) : fAddrV Tryz.prog 31 1 (.ptr (some (id, off))) = some (.ptr (some (id, fld off 1))) := fAddr_at (o := 1) (by kernel_rfl) id off
theorem fa_31_2 (id off : Nat) : fAddrV Tryz.prog 31 2 (.ptr (some (id, off))) = some (.ptr (some (id, fld off 2))) := fAddr_at (o := 2) (by kernel_rfl) id off
theorem fa_33_0 (id off : Nat) : fAddrV Tryz.prog 33 0 (.ptr (some (id, off))) = some (.ptr (some (id, off))) := fAddr_at (o := 0) (by kernel_rfl) id off
theorem fa_33_1 (id off : Nat) : fAddrV Tryz.prog 33 1 (.ptr (some (id, off))) = some (.ptr (some (id, fld off 1))) := fAddr_at (o := 1) (by kernel_rfl) id off
theorem fa_36_0 (id off : Nat) : fAddrV Tryz.prog 36 0 (.ptr (some (id, off))) = some (.ptr (some (id, off))) := fAddr_at (o := 0) (by kernel_rfl) id off
theorem fa_36_1 (id off : Nat) : fAddrV Tryz.prog 36 1 (.ptr (some (id, off))) = some (.ptr (some (id, fld off 2))) := fAddr_at (o := 2) (by kernel_rfl) id off
theorem fa_36_2 (id off : Nat) : fAddrV Tryz.prog 36 2 (.ptr (some (id, off))) = some (.ptr (some (id, fld off 3))) := fAddr_at (o := 3) (by kernel_rfl) id off
theorem fa_36_3 (id off : Nat) : fAddrV Tryz.prog 36 3 (.ptr (some (id, off))) = some (.ptr (some (id, fld off 4))) := fAddr_at (o := 4) (by kernel_rfl) id off
theorem fa_38_0 (id off : Nat) : fAddrV Tryz.prog 38 0 (.ptr (some (id, off))) = some (.ptr (some (id, off))) := fAddr_at (o := 0) (by kernel_rfl) id off
theorem fa_38_1 (id off : Nat) : fAddrV Tryz.prog 38 1 (.ptr (some (id, off))) = some (.ptr (some (id, fld off 1))) := fAddr_at (o := 1) (by kernel_rfl) id off
theorem fa_38_2 (id off : Nat) : fAddrV Tryz.prog 38 2 (.ptr (some (id, off))) = some (.ptr (some (id, fld off 6))) := fAddr_at (o := 6) (by kernel_rfl) id off
theorem fa_49_0 (id off : Nat) : fAddrV Tryz.prog 49 0 (.ptr (some (id, off))) = some (.ptr (some (id, off))) := fAddr_at (o := 0) (by kernel_rfl) id off
theorem fa_49_1 (id off : Nat) : fAddrV Tryz.prog 49 1 (.ptr (some (id, off))) = some (.ptr (some (id, fld off 1))) := fAddr_at (o := 1) (by kernel_rfl) id off
theorem fa_49_2 (id off : Nat) : fAddrV Tryz.prog 49 2 (.ptr (some (id, off))) = some (.ptr (some (id, fld off 2))) := fAddr_at (o := 2) (by kernel_rfl) id off
theorem fa_54_0 (id off : Nat) : fAddrV Tryz.prog 54 0 (.ptr (some (id, off))) = some (.ptr (some (id, off))) := fAddr_at (o := 0) (by kernel_rfl) id off
theorem fa_54_1 (id off : Nat) : fAddrV Tryz.prog 54 1 (.ptr (some (id, off))) = some (.ptr (some (id, fld off 1))) := fAddr_at (o := 1) (by kernel_rfl) id off
theorem fa_54_2 (id off : Nat) : fAddrV Tryz.prog 54 2 (.ptr (some (id, off))) = some (.ptr (some (id, fld off 2))) := fAddr_at (o := 2) (by kernel_rfl) id off
theorem fa_61_0 (id off : Nat) : fAddrV Tryz.prog 61 0 (.ptr (some (id, off))) = some (.ptr (some (id, off))) := fAddr_at (o := 0) (by kernel_rfl) id off
theorem fa_61_2 (id off : Nat) : fAddrV Tryz.prog 61 2 (.ptr (some (id, off))) = some (.ptr (some (id, fld off 2))) := fAddr_at (o := 2) (by kernel_rfl) id off
theorem fa_61_3 (id off : Nat) : fAddrV Tryz.prog 61 3 (.ptr (some (id, off))) = some (.ptr (some (id, fld off 3))) := fAddr_at (o := 3) (by kernel_rfl) id off
theorem fa_79_0 (id off : Nat) : fAddrV Tryz.prog 79 0 (.ptr (some (id, off))) = some (.ptr (some (id, off))) := fAddr_at (o := 0) (by kernel_rfl) id off
theorem fa_79_1 (id off : Nat) : fAddrV Tryz.prog 79 1 (.ptr (some (id, off))) = some (.ptr (some (id, fld off 1))) := fAddr_at (o := 1) (by kernel_rfl) id off
theorem fa_79_2 (id off : Nat) : fAddrV Tryz.prog 79 2 (.ptr (some (id, off))) = some (.ptr (some (id, fld off 2))) := fAddr_at (o := 2) (by kernel_rfl) id off
theorem fa_91_1 (id off : Nat) : fAddrV Tryz.prog 91 1 (.ptr (some (id, off))) = some (.ptr (some (id, fld off 1))) := fAddr_at (o := 1) (by kernel_rfl) id off
theorem fa_98_0 (id off : Nat) : fAddrV Tryz.prog 98 0 (.ptr (some (id, off))) = some (.ptr (some (id, off))) := fAddr_at (o := 0) (by kernel_rfl) id off
theorem fa_98_1 (id off : Nat) : fAddrV Tryz.prog 98 1 (.ptr (some (id, off))) = some (.ptr (some (id, fld off 1))) := fAddr_at (o := 1) (by kernel_rfl) id off
theorem fa_98_2 (id off : Nat) : fAddrV Tryz.prog 98 2 (.ptr (some (id, off))) = some (.ptr (some (id, fld off 3))) := fAddr_at (o := 3) (by kernel_rfl) id off
theorem fa_116_0 (id off : Nat) : fAddrV Tryz.prog 116 0 (.ptr (some (id, off))) = some (.ptr (some (id, off))) := fAddr_at (o := 0) (by kernel_rfl) id off
theorem fa_116_1 (id off : Nat) : fAddrV Tryz.prog 116 1 (.ptr (some (id, off))) = some (.ptr (some (id, fld off 1))) := fAddr_at (o := 1) (by kernel_rfl) id off
theorem ag_2 : aggT Tryz.prog 2 = some false := by kernel_rfl
theorem ld_2 (h : Heap) (id off : Nat) : loadV Tryz.prog 2 h id off = load1 h id off := loadV_one ag_2 h id off
theorem ag_3 : aggT Tryz.prog 3 = some false := by kernel_rfl
theorem ld_3 (h : Heap) (id off : Nat) : loadV Tryz.prog 3 h id off = load1 h id off := loadV_one ag_3 h id off
theorem ag_4 : aggT Tryz.prog 4 = some false := by kernel_rfl
theorem ld_4 (h : Heap) (id off : Nat) : loadV Tryz.prog 4 h id off = load1 h id off := loadV_one ag_4 h id off
theorem ag_5 : aggT Tryz.prog 5 = some false := by kernel_rfl
theorem ld_5 (h : Heap) (id off : Nat) : loadV Tryz.prog 5 h id off = load1 h id off := loadV_one ag_5 h id off
theorem ag_9 : aggT Tryz.prog 9 = some false := by kernel_rfl
theorem ld_9 (h : Heap) (id off : Nat) : loadV Tryz.prog 9 h id off = load1 h id off := loadV_one ag_9 h id off
theorem ag_22 : aggT Tryz.prog 22 = some false := by kernel_rfl
theorem ld_22 (h : Heap) (id off : Nat) : loadV Tryz.prog 22 h id off = load1 h id off := loadV_one ag_22 h id off
theorem ag_24 : aggT Tryz.prog 24 = some false := by kernel_rfl
theorem ld_24 (h : Heap) (id off : Nat) : loadV Tryz.prog 24 h id off = load1 h id off := loadV_one ag_24 h id off
theorem ag_27 : aggT Tryz.prog 27 = some false := by kernel_rfl
theorem ld_27 (h : Heap) (id off : Nat) : loadV Tryz.prog 27 h id off = load1 h id off := loadV_one ag_27 h id off
theorem ag_29 : aggT Tryz.prog 29 = some false := by kernel_rfl
theorem ld_29 (h : Heap) (id off : Nat) : loadV Tryz.prog 29 h id off = load1 h id off := loadV_one ag_29 h id off
theorem ag_31 : aggT Tryz.prog 31 = some true := by kernel_rfl
theorem sz_31 : szT Tryz.prog 31 = some 3 := by kernel_rfl
theorem ld_31 (h : Heap) (id off : Nat) : loadV Tryz.prog 31 h id off = (loadN h id off 3).map .agg := loadV_agg ag_31 sz_31 h id off
theorem ag_33 : aggT Tryz.prog 33 = some true := by kernel_rfl
theorem ld_33 (h : Heap) (id off : Nat) : loadV Tryz.prog 33 h id off = (loadN h id off 2).map .agg := loadV_agg ag_33 sz_33 h id off
theorem ag_34 : aggT Tryz.prog 34 = some false := by kernel_rfl
theorem ld_34 (h : Heap) (id off : Nat) : loadV Tryz.prog 34 h id off = load1 h id off := loadV_one ag_34 h id off
theorem ag_36 : aggT Tryz.prog 36 = some true := by kernel_rfl
theorem ld_36 (h : Heap) (id off : Nat) : loadV Tryz.prog 36 h id off = (loadN h id off 5).map .agg := loadV_agg ag_36 sz_36 h id off
theorem ag_38 : aggT Tryz.prog 38 = some true := by kernel_rfl
theorem ld_38 (h : Heap) (id off : Nat) : loadV Tryz.prog 38 h id off = (loadN h id off 7).map .agg := loadV_agg ag_38 sz_38 h id off
theorem ag_49 : aggT Tryz.prog 49 = some true := by kernel_rfl
theorem ld_49 (h : Heap) (id off : Nat) : loadV Tryz.prog 49 h id off = (loadN h id off 3).map .agg := loadV_agg ag_49 sz_49 h id off
theorem ag_52 : aggT Tryz.prog 52 = some false := by kernel_rfl
theorem ld_52 (h : Heap) (id off : Nat) : loadV Tryz.prog 52 h id off = load1 h id off := loadV_one ag_52 h id off
theorem ag_54 : aggT Tryz.prog 54 = some true := by kernel_rfl
theorem ld_54 (h : Heap) (id off : Nat) : loadV Tryz.prog 54 h id off = (loadN h id off 3).map .agg := loadV_agg ag_54 sz_54 h id off
theorem ag_57 : aggT Tryz.prog 57 = some false := by kernel_rfl
theorem ld_57 (h : Heap) (id off : Nat) : loadV Tryz.prog 57 h id off = load1 h id off := loadV_one ag_57 h id off
theorem ag_58 : aggT Tryz.prog 58 = some false := by kernel_rfl
theorem ld_58 (h : Heap) (id off : Nat) : loadV Tryz.prog 58 h id off = load1 h id off := loadV_one ag_58 h id off
theorem ag_61 : aggT Tryz.prog 61 = some true := by kernel_rfl
theorem ld_61 (h : Heap) (id off : Nat) : loadV Tryz.prog 61 h id off = (loadN h id off 5).map .agg := loadV_agg ag_61 sz_61 h id off
theorem ag_71 : aggT Tryz.prog 71 = some false := by kernel_rfl
theorem ld_71 (h : Heap) (id off : Nat) : loadV Tryz.prog 71 h id off = load1 h id off := loadV_one ag_71 h id off
theorem ag_77 : aggT Tryz.prog 77 = some false := by kernel_rfl
theorem ld_77 (h : Heap) (id off : Nat) : loadV Tryz.prog 77 h id off = load1 h id off := loadV_one ag_77 h id off
theorem ag_81 : aggT Tryz.prog 81 = some false := by kernel_rfl
theorem ld_81 (h : Heap) (id off : Nat) : loadV Tryz.prog 81 h id off = load1 h id off := loadV_one ag_81 h id off
theorem ag_94 : aggT Tryz.prog 94 = some false := by kernel_rfl
theorem ld_94 (h : Heap) (id off : Nat) : loadV Tryz.prog 94 h id off = load1 h id off := loadV_one ag_94 h id off
theorem ag_98 : aggT Tryz.prog 98 = some true := by kernel_rfl
theorem ld_98 (h : Heap) (id off : Nat) : loadV Tryz.prog 98 h id off = (loadN h id off 4).map .agg := loadV_agg ag_98 sz_98 h id off
theorem ag_165 : aggT Tryz.prog 165 = some false := by kernel_rfl
theorem ld_165 (h : Heap) (id off : Nat) : loadV Tryz.prog 165 h id off = load1 h id off := loadV_one ag_165 h id off
theorem sz_2 : szT Tryz.prog 2 = some 1 := by kernel_rfl
theorem st_2 (h : Heap) (id off : Nat) (v : V) : storeV Tryz.prog 2 h id off v = if v.flat.length = 1 then storeN h id off v.flat else none := storeV_as sz_2 h id off v
theorem st_3 (h : Heap) (id off : Nat) (v : V) : storeV Tryz.prog 3 h id off v = if v.flat.length = 1 then storeN h id off v.flat else none := storeV_as sz_3 h id off v
theorem sz_22 : szT Tryz.prog 22 = some 1 := by kernel_rfl
theorem st_22 (h : Heap) (id off : Nat) (v : V) : storeV Tryz.prog 22 h id off v = if v.flat.length = 1 then storeN h id off v.flat else none := storeV_as sz_22 h id off v
theorem sz_24 : szT Tryz.prog 24 = some 1 := by kernel_rfl
theorem st_24 (h : Heap) (id off : Nat) (v : V) : storeV Tryz.prog 24 h id off v = if v.flat.length = 1 then storeN h id off v.flat else none := storeV_as sz_24 h id off v
theorem sz_29 : szT Tryz.prog 29 = some 1 := by kernel_rfl
theorem st_29 (h : Heap) (id off : Nat) (v : V) : storeV Tryz.prog 29 h id off v = if v.flat.length = 1 then storeN h id off v.flat else none := storeV_as sz_29 h id off v
theorem st_31 (h : Heap) (id off : Nat) (v : V) : storeV Tryz.prog 31 h id off v = if v.flat.length = 3 then storeN h id off v.flat else none := storeV_as sz_31 h id off v
theorem st_33 (h : Heap) (id off : Nat) (v : V) : storeV Tryz.prog 33 h id off v = if v.flat.length = 2 then storeN h id off v.flat else none := storeV_as sz_33 h id off v
theorem st_34 (h : Heap) (id off : Nat) (v : V) : storeV Tryz.prog 34 h id off v = if v.flat.length = 1 then storeN h id off v.flat else none := storeV_as sz_34 h id off v
theorem st_36 (h : Heap) (id off : Nat) (v : V) : storeV Tryz.prog 36 h id off v = if v.flat.length = 5 then storeN h id off v.flat else none := storeV_as sz_36 h id off v
theorem st_38 (h : Heap) (id off : Nat) (v : V) : storeV Tryz.prog 38 h id off v = if v.flat.length = 7 then storeN h id off v.flat else none := storeV_as sz_38 h id off v
theorem st_49 (h : Heap) (id off : Nat) (v : V) : storeV Tryz.prog 49 h id off v = if v.flat.length = 3 then storeN h id off v.flat else none := storeV_as sz_49 h id off v
theorem sz_52 : szT Tryz.prog 52 = some 1 := by kernel_rfl
theorem st_52 (h : Heap) (id off : Nat) (v : V) : storeV Tryz.prog 52 h id off v = if v.flat.length = 1 then storeN h id off v.flat else none := storeV_as sz_52 h id off v
theorem st_54 (h : Heap) (id off : Nat) (v : V) : storeV Tryz.prog 54 h id off v = if v.flat.length = 3 then storeN h id off v.flat else none := storeV_as sz_54 h id off v
theorem sz_57 : szT Tryz.prog 57 = some 1 := by kernel_rfl
theorem st_57 (h : Heap) (id off : Nat) (v : V) : storeV Tryz.prog 57 h id off v = if v.flat.length = 1 then storeN h id off v.flat else none := storeV_as sz_57 h id off v
theorem sz_58 : szT Tryz.prog 58 = some 1 := by kernel_rfl
theorem st_58 (h : Heap) (id off : Nat) (v : V) : storeV Tryz.prog 58 h id off v = if v.flat.length = 1 then storeN h id off v.flat else none := storeV_as sz_58 h id off v
theorem st_61 (h : Heap) (id off : Nat) (v : V) : storeV Tryz.prog 61 h id off v = if v.flat.length = 5 then storeN h id off v.flat else none := storeV_as sz_61 h id off v
theorem sz_71 : szT Tryz.prog 71 = some 1 := by kernel_rfl
theorem st_71 (h : Heap) (id off : Nat) (v : V) : storeV Tryz.prog 71 h id off v = if v.flat.length = 1 then storeN h id off v.flat else none := storeV_as sz_71 h id off v
theorem sz_77 : szT Tryz.prog 77 = some 1 := by kernel_rfl
theorem st_77 (h : Heap) (id off : Nat) (v : V) : storeV Tryz.prog 77 h id off v = if v.flat.length = 1 then storeN h id off v.flat else none := storeV_as sz_77 h id off v
theorem sz_94 : szT Tryz.prog 94 = some 1 := by kernel_rfl
theorem st_94 (h : Heap) (id off : Nat) (v : V) : storeV Tryz.prog 94 h id off v = if v.flat.length = 1 then storeN h id off v.flat else none := storeV_as sz_94 h id off v
theorem st_98 (h : Heap) (id off : Nat) (v : V) : storeV Tryz.prog 98 h id off v = if v.flat.length = 4 then storeN h id off v.flat else none := storeV_as sz_98 h id off v
theorem sz_165 : szT Tryz.prog 165 = some 1 := by kernel_rfl
theorem st_165 (h : Heap) (id off : Nat) (v : V) : storeV Tryz.prog 165 h id off v = if v.flat.length = 1 then storeN h id off v.flat else none := storeV_as sz_165 h id off v
theorem zs_3 : zerosT Tryz.prog 3 = some ([.int .i64 0]) := by kernel_rfl
theorem al_3 (tt : List V) (h : Heap) : p_alloc Tryz.prog tt h 3 = some (.ptr (some (h.length, 0)), h ++ [.cells ([.int .i64 0]) .rw]) := zeros_as zs_3
theorem zs_24 : zerosT Tryz.prog 24 = some ([.slice none 0 (some 0)]) := by kernel_rfl
theorem al_24 (tt : List V) (h : Heap) : p_alloc Tryz.prog tt h 24 = some (.ptr (some (h.length, 0)), h ++ [.cells ([.slice none 0 (some 0)]) .rw]) := zeros_as zs_24
theorem zs_31 : zerosT Tryz.prog 31 = some ([.int .i64 0, .slice none 0 (some 0), .slice none 0 (some 0)]) := by kernel_rfl
theorem al_31 (tt : List V) (h : Heap) : p_alloc Tryz.prog tt h 31 = some (.ptr (some (h.length, 0)), h ++ [.cells ([.int .i64 0, .slice none 0 (some 0), .slice none 0 (some 0)]) .rw]) := zeros_as zs_31
theorem zs_34 : zerosT Tryz.prog 34 = some ([.slice none 0 (some 0)]) := by kernel_rfl
theorem al_34 (tt : List V) (h : Heap) : p_alloc Tryz.prog tt h 34 = some (.ptr (some (h.length, 0)), h ++ [.cells ([.slice none 0 (some 0)]) .rw]) := zeros_as zs_34
theorem zs_36 : zerosT Tryz.prog 36 = some ([.int .i64 0, .int .i64 0, .slice none 0 (some 0), .int .i64 0, .int .i64 0]) := by kernel_rfl
theorem al_36 (tt : List V) (h : Heap) : p_alloc Tryz.prog tt h 36 = some (.ptr (some (h.length, 0)), h ++ [.cells ([.int .i64 0, .int .i64 0, .slice none 0 (some 0), .int .i64 0, .int .i64 0]) .rw]) := zeros_as zs_36
theorem zs_38 : zerosT Tryz.prog 38 = some ([.int .u8 0, .int .i64 0, .int .i64 0, .slice none 0 (some 0), .int .i64 0, .int .i64 0, .int .i64 0]) := by kernel_rfl
theorem al_38 (tt : List V) (h : Heap) : p_alloc Tryz.prog tt h 38 = some (.ptr (some (h.length, 0)), h ++ [.cells ([.int .u8 0, .int .i64 0, .int .i64 0, .slice none 0 (some 0), .int .i64 0, .int .i64 0, .int .i64 0]) .rw]) := zeros_as zs_38
theorem zs_49 : zerosT Tryz.prog 49 = some ([.int .i64 0, .int .i64 0, .str []]) := by kernel_rfl
theorem al_49 (tt : List V) (h : Heap) : p_alloc Tryz.prog tt h 49 = some (.ptr (some (h.length, 0)), h ++ [.cells ([.int .i64 0, .int .i64 0, .str []]) .rw]) := zeros_as zs_49
theorem zs_54 : zerosT Tryz.prog 54 = some ([.int .i64 0, .slice none 0 (some 0), .slice none 0 (some 0)]) := by kernel_rfl
theorem al_54 (tt : List V) (h : Heap) : p_alloc Tryz.prog tt h 54 = some (.ptr (some (h.length, 0)), h ++ [.cells ([.int .i64 0, .slice none 0 (some 0), .slice none 0 (some 0)]) .rw]) := zeros_as zs_54
theorem zs_61 : zerosT Tryz.prog 61 = some ([.int .i64 0, .str [], .slice none 0 (some 0), .slice none 0 (some 0), .slice none 0 (some 0)]) := by kernel_rfl
theorem al_61 (tt : List V) (h : Heap) : p_alloc Tryz.prog tt h 61 = some (.ptr (some (h.length, 0)), h ++ [.cells ([.int .i64 0, .str [], .slice none 0 (some 0), .slice none 0 (some 0), .slice none 0 (some 0)]) .rw]) := zeros_as zs_61
theorem zs_71 : zerosT Tryz.prog 71 = some ([.map none]) := by kernel_rfl
theorem al_71 (tt : List V) (h : Heap) : p_alloc Tryz.prog tt h 71 = some (.ptr (some (h.length, 0)), h ++ [.cells ([.map none]) .rw]) := zeros_as zs_71
theorem zs_94 : zerosT Tryz.prog 94 = some ([.map none]) := by kernel_rfl
theorem al_94 (tt : List V) (h : Heap) : p_alloc Tryz.prog tt h 94 = some (.ptr (some (h.length, 0)), h ++ [.cells ([.map none]) .rw]) := zeros_as zs_94
theorem zs_98 : zerosT Tryz.prog 98 = some ([.bool false, .int .i64 0, .int .i64 0, .slice none 0 (some 0)]) := by kernel_rfl
theorem al_98 (tt : List V) (h : Heap) : p_alloc Tryz.prog tt h 98 = some (.ptr (some (h.length, 0)), h ++ [.cells ([.bool false, .int .i64 0, .int .i64 0, .slice none 0 (some 0)]) .rw]) := zeros_as zs_98
theorem zs_165 : zerosT Tryz.prog 165 = some ([.int .u64 0]) := by kernel_rfl
theorem al_165 (tt : List V) (h : Heap) : p_alloc Tryz.prog tt h 165 = some (.ptr (some (h.length, 0)), h ++ [.cells ([.int .u64 0]) .rw]) := zeros_as zs_165
theorem pl_31_0 : placesT Tryz.prog 31 0 = some (0, 1) := by kernel_rfl
theorem pl_31_1 : placesT Tryz.prog 31 1 = some (1, 1) := by kernel_rfl
theorem pl_31_2 : placesT Tryz.prog 31 2 = some (2, 1) := by kernel_rfl
theorem bd_31 (parts : List (Nat × V)) : buildV Tryz.prog 31 parts = (fillV (placesT Tryz.prog 31) ([.int .i64 0, .slice none 0 (some 0), .slice none 0 (some 0)]) parts).map .agg := build_as zs_31 Tryz.underlying31 (by kernel_rfl) parts
theorem zs_33 : zerosT Tryz.prog 33 = some ([.int .i64 0, .int .i64 0]) := by kernel_rfl
theorem pl_33_0 : placesT Tryz.prog 33 0 = some (0, 1) := by kernel_rfl
theorem pl_33_1 : placesT Tryz.prog 33 1 = some (1, 1) := by kernel_rfl
theorem bd_33 (parts : List (Nat × V)) : buildV Tryz.prog 33 parts = (fillV (placesT Tryz.prog 33) ([.int .i64 0, .int .i64 0]) parts).map .agg := build_as zs_33 Tryz.underlying33 (by kernel_rfl) parts
theorem pl_36_0 : placesT Tryz.prog 36 0 = some (0, 2) := by kernel_rfl
theorem pl_36_1 : placesT Tryz.prog 36 1 = some (2, 1) := by kernel_rfl
theorem pl_36_2 : placesT Tryz.prog 36 2 = some (3, 1) := by kernel_rfl
theorem pl_36_3 : placesT Tryz.prog 36 3 = some (4, 1) := by kernel_rfl
theorem bd_36 (parts : List (Nat × V)) : buildV Tryz.prog 36 parts = (fillV (placesT Tryz.prog 36) ([.int .i64 0, .int .i64 0, .slice none 0 (some 0), .int .i64 0, .int .i64 0]) parts).map .agg := build_as zs_36 Tryz.underlying36 (by kernel_rfl) parts
theorem pl_49_0 : placesT Tryz.prog 49 0 = some (0, 1) := by kernel_rfl
theorem pl_49_1 : placesT Tryz.prog 49 1 = some (1, 1) := by kernel_rfl
theorem pl_49_2 : placesT Tryz.prog 49 2 = some (2, 1) := by kernel_rfl
theorem bd_49 (parts : List (Nat × V)) : buildV Tryz.prog 49 parts = (fillV (placesT Tryz.prog 49) ([.int .i64 0, .int .i64 0, .str []]) parts).map .agg := build_as zs_49 Tryz.underlying49 (by kernel_rfl) parts
theorem pl_54_0 : placesT Tryz.prog 54 0 = some (0, 1) := by kernel_rfl
theorem pl_54_1 : placesT Tryz.prog 54 1 = some (1, 1) := by kernel_rfl
theorem pl_54_2 : placesT Tryz.prog 54 2 = some (2, 1) := by kernel_rfl
theorem bd_54 (parts : List (Nat × V)) : buildV Tryz.prog 54 parts = (fillV (placesT Tryz.prog 54) ([.int .i64 0, .slice none 0 (some 0), .slice none 0 (some 0)]) parts).map .agg := build_as zs_54 Tryz.underlying54 (by kernel_rfl) parts
theorem pl_61_0 : placesT Tryz.prog 61 0 = some (0, 1) := by kernel_rfl
theorem pl_61_1 : placesT Tryz.prog 61 1 = some (1, 1) := by kernel_rfl
theorem pl_61_2 : placesT Tryz.prog 61 2 = some (2, 1) := by kernel_rfl
theorem pl_61_3 : placesT Tryz.prog 61 3 = some (3, 1) := by kernel_rfl
theorem pl_61_4 : placesT Tryz.prog 61 4 = some (4, 1) := by kernel_rfl
theorem bd_61 (parts : List (Nat × V)) : buildV Tryz.prog 61 parts = (fillV (placesT Tryz.prog 61) ([.int .i64 0, .str [], .slice none 0 (some 0), .slice none 0 (some 0), .slice none 0 (some 0)]) parts).map .agg := build_as zs_61 Tryz.underlying61 (by kernel_rfl) parts
theorem zs_79 : zerosT Tryz.prog 79 = some ([.int .i64 0, .slice none 0 (some 0), .slice none 0 (some 0)]) := by kernel_rfl
theorem pl_79_0 : placesT Tryz.prog 79 0 = some (0, 1) := by kernel_rfl
theorem pl_79_1 : placesT Tryz.prog 79 1 = some (1, 1) := by kernel_rfl
theorem pl_79_2 : placesT Tryz.prog 79 2 = some (2, 1) := by kernel_rfl
theorem bd_79 (parts : List (Nat × V)) : buildV Tryz.prog 79 parts = (fillV (placesT Tryz.prog 79) ([.int .i64 0, .slice none 0 (some 0), .slice none 0 (some 0)]) parts).map .agg := build_as zs_79 Tryz.underlying79 (by kernel_rfl) parts
theorem zs_91 : zerosT Tryz.prog 91 = some ([.str [], .int .i64 0]) := by kernel_rfl
theorem pl_91_0 : placesT Tryz.prog 91 0 = some (0, 1) := by kernel_rfl
theorem pl_91_1 : placesT Tryz.prog 91 1 = some (1, 1) := by kernel_rfl
theorem bd_91 (parts : List (Nat × V)) : buildV Tryz.prog 91 parts = (fillV (placesT Tryz.prog 91) ([.str [], .int .i64 0]) parts).map .agg := build_as zs_91 Tryz.underlying91 (by kernel_rfl) parts
theorem pl_98_0 : placesT Tryz.prog 98 0 = some (0, 1) := by kernel_rfl
theorem pl_98_1 : placesT Tryz.prog 98 1 = some (1, 2) := by kernel_rfl
theorem pl_98_2 : placesT Tryz.prog 98 2 = some (3, 1) := by kernel_rfl
theorem bd_98 (parts : List (Nat × V)) : buildV Tryz.prog 98 parts = (fillV (placesT Tryz.prog 98) ([.bool false, .int .i64 0, .int .i64 0, .slice none 0 (some 0)]) parts).map .agg := build_as zs_98 Tryz.underlying98 (by kernel_rfl) parts
theorem zs_116 : zerosT Tryz.prog 116 = some ([.bool false, .int .i64 0, .int .i64 0, .slice none 0 (some 0), .int .i64 0, .int .i64 0]) := by kernel_rfl
theorem pl_116_0 : placesT Tryz.prog 116 0 = some (0, 1) := by kernel_rfl
theorem pl_116_1 : placesT Tryz.prog 116 1 = some (1, 5) := by kernel_rfl
theorem bd_116 (parts : List (Nat × V)) : buildV Tryz.prog 116 parts = (fillV (placesT Tryz.prog 116) ([.bool false, .int .i64 0, .int .i64 0, .slice none 0 (some 0), .int .i64 0, .int .i64 0]) parts).map .agg := build_as zs_116 Tryz.underlying116 (by kernel_rfl) parts
theorem el_22 : elemT Tryz.prog 22 = some 61 := by kernel_rfl
theorem by_61 : byT Tryz.prog 61 = some 96 := by kernel_rfl
theorem el_24 : elemT Tryz.prog 24 = some 36 := by kernel_rfl
theorem by_36 : byT Tryz.prog 36 = some 56 := by kernel_rfl
theorem el_29 : elemT Tryz.prog 29 = some 116 := by kernel_rfl
theorem by_116 : byT Tryz.prog 116 = some 64 := by kernel_rfl
theorem el_34 : elemT Tryz.prog 34 = some 49 := by kernel_rfl
theorem by_49 : byT Tryz.prog 49 = some 32 := by kernel_rfl
theorem el_50 : elemT Tryz.prog 50 = some 54 := by kernel_rfl
theorem by_54 : byT Tryz.prog 54 = some 56 := by kernel_rfl
theorem el_52 : elemT Tryz.prog 52 = some 33 := by kernel_rfl
theorem by_33 : byT Tryz.prog 33 = some 16 := by kernel_rfl
theorem el_57 : elemT Tryz.prog 57 = some 91 := by kernel_rfl
theorem by_91 : byT Tryz.prog 91 = some 24 := by kernel_rfl
theorem el_58 : elemT Tryz.prog 58 = some 3 := by kernel_rfl
theorem by_3 : byT Tryz.prog 3 = some 8 := by kernel_rfl
theorem el_77 : elemT Tryz.prog 77 = some 98 := by kernel_rfl
theorem by_98 : byT Tryz.prog 98 = some 48 := by kernel_rfl
theorem el_134 : elemT Tryz.prog 134 = some 34 := by kernel_rfl
theorem by_34 : byT Tryz.prog 34 = some 24 := by kernel_rfl
theorem ko_71 (k l : Int) : keyOk Tryz.prog 33 (.agg [.int .i64 k, .int .i64 l]) = true := by kernel_rfl
theorem mu_71 (k l : Int) (id : Nat) (v : V) (h : Heap) : mapUpdateV Tryz.prog 71 (.map (some id)) (.agg [.int .i64 k, .int .i64 l]) v h = mapPut (.agg [.int .i64 k, .int .i64 l]) v id h h[id]? := mapUpdate_as Tryz.underlying71 (ko_71 k l) id v h
theorem zr_4 : zeroT Tryz.prog 4 = some (.bool false) := by kernel_rfl
theorem lk_71 (k l : Int) (id : Nat) (ok : Bool) (h : Heap) : lookupV Tryz.prog 71 (.map (some id)) (.agg [.int .i64 k, .int .i64 l]) ok h = mapGet (.agg [.int .i64 k, .int .i64 l]) (.bool false) ok (entsOf h[id]?) := lookup_as Tryz.underlying71 zr_4 (ko_71 k l) id ok h
theorem ko_94 (k : Int) : keyOk Tryz.prog 3 (.int .i64 k) = true := by simp only [keyOk, Tryz.underlying3]
theorem mu_94 (k : Int) (id : Nat) (v : V) (h : Heap) : mapUpdateV Tryz.prog 94 (.map (some id)) (.int .i64 k) v h = mapPut (.int .i64 k) v id h h[id]? := mapUpdate_as Tryz.underlying94 (ko_94 k) id v h
theorem zr_95 : zeroT Tryz.prog 95 = some (.ptr none) := by kernel_rfl
theorem lk_94 (k : Int) (id : Nat) (ok : Bool) (h : Heap) : lookupV Tryz.prog 94 (.map (some id)) (.int .i64 k) ok h = mapGet (.int .i64 k) (.ptr none) ok (entsOf h[id]?) := lookup_as Tryz.underlying94 zr_95 (ko_94 k) id ok h
theorem ap_22_22 (p : Option (Nat × Nat)) (len : Nat) (cap : Option Nat) (q : Option (Nat × Nat)) (n : Nat) (c : Option Nat) (h : Heap) : appendV Tryz.prog 22 22 (.slice p len cap) (.slice q n c) h = apv 5 96 p len cap (.slice q n c) n h := (append_as el_22 (by kernel_rfl) sz_61 by_61 zs_61 p len cap h).1 q n c
theorem ap_24_24 (p : Option (Nat × Nat)) (len : Nat) (cap : Option Nat) (q : Option (Nat × Nat)) (n : Nat) (c : Option Nat) (h : Heap) : appendV Tryz.prog 24 24 (.slice p len cap) (.slice q n c) h = apv 5 56 p len cap (.slice q n c) n h := (append_as el_24 (by kernel_rfl) sz_36 by_36 zs_36 p len cap h).1 q n c
theorem ap_29_29 (p : Option (Nat × Nat)) (len : Nat) (cap : Option Nat) (q : Option (Nat × Nat)) (n : Nat) (c : Option Nat) (h : Heap) : appendV Tryz.prog 29 29 (.slice p len cap) (.slice q n c) h = apv 6 64 p len cap (.slice q n c) n h := (append_as el_29 (by kernel_rfl) sz_116 by_116 zs_116 p len cap h).1 q n c
theorem ap_34_34 (p : Option (Nat × Nat)) (len : Nat) (cap : Option Nat) (q : Option (Nat × Nat)) (n : Nat) (c : Option Nat) (h : Heap) : appendV Tryz.prog 34 34 (.slice p len cap) (.slice q n c) h = apv 3 32 p len cap (.slice q n c) n h := (append_as el_34 (by kernel_rfl) sz_49 by_49 zs_49 p len cap h).1 q n c
theorem ap_50_50 (p : Option (Nat × Nat)) (len : Nat) (cap : Option Nat) (q : Option (Nat × Nat)) (n : Nat) (c : Option Nat) (h : Heap) : appendV Tryz.prog 50 50 (.slice p len cap) (.slice q n c) h = apv 3 56 p len cap (.slice q n c) n h := (append_as el_50 (by kernel_rfl) sz_54 by_54 zs_54 p len cap h).1 q n c
theorem ap_52_52 (p : Option (Nat × Nat)) (len : Nat) (cap : Option Nat) (q : Option (Nat × Nat)) (n : Nat) (c : Option Nat) (h : Heap) : appendV Tryz.prog 52 52 (.slice p len cap) (.slice q n c) h = apv 2 16 p len cap (.slice q n c) n h := (append_as el_52 (by kernel_rfl) sz_33 by_33 zs_33 p len cap h).1 q n c
theorem ap_57_57 (p : Option (Nat × Nat)) (len : Nat) (cap : Option Nat) (q : Option (Nat × Nat)) (n : Nat) (c : Option Nat) (h : Heap) : appendV Tryz.prog 57 57 (.slice p len cap) (.slice q n c) h = apv 2 24 p len cap (.slice q n c) n h := (append_as el_57 (by kernel_rfl) sz_91 by_91 zs_91 p len cap h).1 q n c
theorem ap_58_58 (p : Option (Nat × Nat)) (len : Nat) (cap : Option Nat) (q : Option (Nat × Nat)) (n : Nat) (c : Option Nat) (h : Heap) : appendV Tryz.prog 58 58 (.slice p len cap) (.slice q n c) h = apv 1 8 p len cap (.slice q n c) n h := (append_as el_58 (by kernel_rfl) sz_3 by_3 zs_3 p len cap h).1 q n c
theorem ap_77_77 (p : Option (Nat × Nat)) (len : Nat) (cap : Option Nat) (q : Option (Nat × Nat)) (n : Nat) (c : Option Nat) (h : Heap) : appendV Tryz.prog 77 77 (.slice p len cap) (.slice q n c) h = apv 4 48 p len cap (.slice q n c) n h := (append_as el_77 (by kernel_rfl) sz_98 by_98 zs_98 p len cap h).1 q n c
theorem ap_134_134 (p : Option (Nat × Nat)) (len : Nat) (cap : Option Nat) (q : Option (Nat × Nat)) (n : Nat) (c : Option Nat) (h : Heap) : appendV Tryz.prog 134 134 (.slice p len cap) (.slice q n c) h = apv 1 24 p len cap (.slice q n c) n h := (append_as el_134 (by kernel_rfl) sz_34 by_34 zs_34 p len cap h).1 q n c
theorem sl_24 (h : Heap) (p : Option (Nat × Nat)) (len : Nat) (cap : Option Nat) (lo hi mx : Option V) : sliceOp Tryz.prog h 24 (.slice p len cap) lo hi mx = sliceV h 5 p len cap lo hi mx := slice_as Tryz.underlying24 sz_36 h p len cap lo hi mx
theorem sl_29 (h : Heap) (p : Option (Nat × Nat)) (len : Nat) (cap : Option Nat) (lo hi mx : Option V) : sliceOp Tryz.prog h 29 (.slice p len cap) lo hi mx = sliceV h 6 p len cap lo hi mx := slice_as Tryz.underlying29 sz_116 h p len cap lo hi mx
theorem sl_77 (h : Heap) (p : Option (Nat × Nat)) (len : Nat) (cap : Option Nat) (lo hi mx : Option V) : sliceOp Tryz.prog h 77 (.slice p len cap) lo hi mx = sliceV h 4 p len cap lo hi mx := slice_as Tryz.underlying77 sz_98 h p len cap lo hi mx
theorem cv_3_128 (k : IntKind) (n : Int) (h : Heap) : convV Tryz.prog 3 128 (.int k n) h = some (.int .u64 (IntKind.wrap .u64 n), h) := conv_int Tryz.underlying3 Tryz.underlying128 k n h
theorem cv_3_165 (k : IntKind) (n : Int) (h : Heap) : convV Tryz.prog 3 165 (.int k n) h = some (.int .u64 (IntKind.wrap .u64 n), h) := conv_int Tryz.underlying3 Tryz.underlying165 k n h
theorem cv_5_3 (k : IntKind) (n : Int) (h : Heap) : convV Tryz.prog 5 3 (.int k n) h = some (.int .i64 (IntKind.wrap .i64 n), h) := conv_int Tryz.underlying5 Tryz.underlying3 k n h
theorem cv_128_3 (k : IntKind) (n : Int) (h : Heap) : convV Tryz.prog 128 3 (.int k n) h = some (.int .i64 (IntKind.wrap .i64 n), h) := conv_int Tryz.underlying128 Tryz.underlying3 k n h
theorem cv_128_151 (k : IntKind) (n : Int) (h : Heap) : convV Tryz.prog 128 151 (.int k n) h = some (.int .u32 (IntKind.wrap .u32 n), h) := conv_int Tryz.underlying128 Tryz.underlying151 k n h
theorem cv_151_5 (k : IntKind) (n : Int) (h : Heap) : convV Tryz.prog 151 5 (.int k n) h = some (.int .u8 (IntKind.wrap .u8 n), h) := conv_int Tryz.underlying151 Tryz.underlying5 k n h
theorem cv_153_5 (k : IntKind) (n : Int) (h : Heap) : convV Tryz.prog 153 5 (.int k n) h = some (.int .u8 (IntKind.wrap .u8 n), h) := conv_int Tryz.underlying153 Tryz.underlying5 k n h
theorem eql_4 (x y : Operand) (a b : Bool) : binV Tryz.prog .eql 4 x y (.bool a) (.bool b) = some (.bool (decide (a = b))) := bin_eql_bool Tryz.underlying4 x y a b
theorem neq_4 (x y : Operand) (a b : Bool) : binV Tryz.prog .neq 4 x y (.bool a) (.bool b) = some (.bool (decide (¬ a = b))) := bin_neq_bool Tryz.underlying4 x y a b
theorem eql_27 (x y : Operand) (p : Option (Nat × Nat)) : binV Tryz.prog .eql 27 x y (.ptr p) (.ptr none) = some (.bool (decide (p = none))) := bin_eql_nilp Tryz.underlying27 x y p
theorem neq_27 (x y : Operand) (p : Option (Nat × Nat)) : binV Tryz.prog .neq 27 x y (.ptr p) (.ptr none) = some (.bool (decide (¬ p = none))) := bin_neq_nilp Tryz.underlying27 x y p
theorem eqt_3 {d : Nat} (hd : 1 ≤ d) (k : IntKind) (a b : Int) : eqT Tryz.prog d 3 (.int k a) (.int k b) = some (decide (a = b)) := eqT_int Tryz.underlying3 hd k a b
theorem eqt_33 {d : Nat} (hd : 4 ≤ d) (a0 b0 : Int) (a1 b1 : Int) : eqT Tryz.prog d 33 (.agg [.int .i64 a0, .int .i64 a1]) (.agg [.int .i64 b0, .int .i64 b1]) = some (decide (a0 = b0 ∧ a1 = b1)) := by
  obtain ⟨e, rfl⟩ : ∃ e, d = e + 4 := ⟨d - 4, by omega⟩
  rw [eqT_struct Tryz.underlying33 (by kernel_rfl)]
  simp (disch := first | omega | decide) only [eqFs_cons, eqFs_nil, List.getElem?_cons_zero, List.getElem?_cons_succ, List.drop_succ_cons, List.drop_zero, List.take_succ_cons, List.take_zero, eq_and, eq_last, eqt_3, partV_one ag_3]
theorem eql_33 (x y : Operand) (a b : List V) : binV Tryz.prog .eql 33 x y (.agg a) (.agg b) = (eqT Tryz.prog 40 33 (.agg a) (.agg b)).map .bool := bin_eql_agg (by kernel_rfl) x y a b
theorem neq_33 (x y : Operand) (a b : List V) : binV Tryz.prog .neq 33 x y (.agg a) (.agg b) = (eqT Tryz.prog 40 33 (.agg a) (.agg b)).map fun r => .bool !r := bin_neq_agg (by kernel_rfl) x y a b
theorem eql_34 (x y : Operand) (p : Option (Nat × Nat)) (n : Nat) (c : Option Nat) : binV Tryz.prog .eql 34 x y (.slice p n c) (.slice none 0 (some 0)) = some (.bool (decide (p = none))) := bin_eql_nils Tryz.underlying34 x y p n c
theorem neq_34 (x y : Operand) (p : Option (Nat × Nat)) (n : Nat) (c : Option Nat) : binV Tryz.prog .neq 34 x y (.slice p n c) (.slice none 0 (some 0)) = some (.bool (decide (¬ p = none))) := bin_neq_nils Tryz.underlying34 x y p n c
theorem eqt_2 {d : Nat} (hd : 1 ≤ d) (k : IntKind) (a b : Int) : eqT Tryz.prog d 2 (.int k a) (.int k b) = some (decide (a = b)) := eqT_int Tryz.underlying2 hd k a b
theorem eqt_9 {d : Nat} (hd : 1 ≤ d) (a b : List Int) : eqT Tryz.prog d 9 (.str a) (.str b) = some (decide (a = b)) := eqT_str Tryz.underlying9 hd a b
theorem eqt_49 {d : Nat} (hd : 5 ≤ d) (a0 b0 : Int) (a1 b1 : Int) (a2 b2 : List Int) : eqT Tryz.prog d 49 (.agg [.int .i64 a0, .int .i64 a1, .str a2]) (.agg [.int .i64 b0, .int .i64 b1, .str b2]) = some (decide (a0 = b0 ∧ a1 = b1 ∧ a2 = b2)) := by
  obtain ⟨e, rfl⟩ : ∃ e, d = e + 5 := ⟨d - 5, by omega⟩
  rw [eqT_struct Tryz.underlying49 (by kernel_rfl)]
  simp (disch := first | omega | decide) only [eqFs_cons, eqFs_nil, List.getElem?_cons_zero, List.getElem?_cons_succ, List.drop_succ_cons, List.drop_zero, List.take_succ_cons, List.take_zero, eq_and, eq_last, eqt_2, partV_one ag_2, eqt_3, partV_one ag_3, eqt_9, partV_one ag_9]
theorem eql_49 (x y : Operand) (a b : List V) : binV Tryz.prog .eql 49 x y (.agg a) (.agg b) = (eqT Tryz.prog 40 49 (.agg a) (.agg b)).map .bool := bin_eql_agg (by kernel_rfl) x y a b
theorem neq_49 (x y : Operand) (a b : List V) : binV Tryz.prog .neq 49 x y (.agg a) (.agg b) = (eqT Tryz.prog 40 49 (.agg a) (.agg b)).map fun r => .bool !r := bin_neq_agg (by kernel_rfl) x y a b
theorem eql_57 (x y : Operand) (p : Option (Nat × Nat)) (n : Nat) (c : Option Nat) : binV Tryz.prog .eql 57 x y (.slice p n c) (.slice none 0 (some 0)) = some (.bool (decide (p = none))) := bin_eql_nils Tryz.underlying57 x y p n c
theorem neq_57 (x y : Operand) (p : Option (Nat × Nat)) (n : Nat) (c : Option Nat) : binV Tryz.prog .neq 57 x y (.slice p n c) (.slice none 0 (some 0)) = some (.bool (decide (¬ p = none))) := bin_neq_nils Tryz.underlying57 x y p n c
theorem eql_58 (x y : Operand) (p : Option (Nat × Nat)) (n : Nat) (c : Option Nat) : binV Tryz.prog .eql 58 x y (.slice p n c) (.slice none 0 (some 0)) = some (.bool (decide (p = none))) := bin_eql_nils Tryz.underlying58 x y p n c
theorem neq_58 (x y : Operand) (p : Option (Nat × Nat)) (n : Nat) (c : Option Nat) : binV Tryz.prog .neq 58 x y (.slice p n c) (.slice none 0 (some 0)) = some (.bool (decide (¬ p = none))) := bin_neq_nils Tryz.underlying58 x y p n c
theorem eql_95 (x y : Operand) (p : Option (Nat × Nat)) : binV Tryz.prog .eql 95 x y (.ptr p) (.ptr none) = some (.bool (decide (p = none))) := bin_eql_nilp Tryz.underlying95 x y p
theorem neq_95 (x y : Operand) (p : Option (Nat × Nat)) : binV Tryz.prog .neq 95 x y (.ptr p) (.ptr none) = some (.bool (decide (¬ p = none))) := bin_neq_nilp Tryz.underlying95 x y p
theorem lit_1 : bytesOf ⟨#[97]⟩ = [97] := rfl
/-- The rules of the types. -/
theorem TY : type_of% (And.intro (And.intro (And.intro (And.intro (And.intro (And.intro (And.intro (And.intro @ixs_9 @sz_61) (And.intro @ix_22 @sz_38)) (And.intro (And.intro @ix_23 @sz_36) (And.intro @ix_24 @sz_116))) (And.intro (And.intro (And.intro @ix_29 @sz_49) (And.intro @ix_34 @sz_54)) (And.intro (And.intro @ix_50 @sz_33) (And.intro @ix_52 (And.intro @sz_91 @ix_57))))) (And.intro (And.intro (And.intro (And.intro @sz_3 @ix_58) (And.intro @sz_98 @ix_77)) (And.intro (And.intro @sz_34 @ix_134) (And.intro @ln_9 (And.intro @ln_22 @ln_23)))) (And.intro (And.intro (And.intro @ln_24 @ln_29) (And.intro @ln_34 @ln_50)) (And.intro (And.intro @ln_52 @ln_57) (And.intro @ln_58 (And.intro @ln_77 @ln_134)))))) (And.intro (And.intro (And.intro (And.intro (And.intro @fa_31_0 @fa_31_1) (And.intro @fa_31_2 @fa_33_0)) (And.intro (And.intro @fa_33_1 @fa_36_0) (And.intro @fa_36_1 @fa_36_2))) (And.intro (And.intro (And.intro @fa_36_3 @fa_38_0) (And.intro @fa_38_1 @fa_38_2)) (And.intro (And.intro @fa_49_0 @fa_49_1) (And.intro @fa_49_2 (And.intro @fa_54_0 @fa_54_1))))) (And.intro (And.intro (And.intro (And.intro @fa_54_2 @fa_61_0) (And.intro @fa_61_2 @fa_61_3)) (And.intro (And.intro @fa_79_0 @fa_79_1) (And.intro @fa_79_2 (And.intro @fa_91_1 @fa_98_0)))) (And.intro (And.intro (And.intro @fa_98_1 @fa_98_2) (And.intro @fa_116_0 @fa_116_1)) (And.intro (And.intro @ag_2 @ld_2) (And.intro @ag_3 (And.intro @ld_3 @ag_4))))))) (And.intro (And.intro (And.intro (And.intro (And.intro (And.intro @ld_4 @ag_5) (And.intro @ld_5 @ag_9)) (And.intro (And.intro @ld_9 @ag_22) (And.intro @ld_22 @ag_24))) (And.intro (And.intro (And.intro @ld_24 @ag_27) (And.intro @ld_27 @ag_29)) (And.intro (And.intro @ld_29 @ag_31) (And.intro @sz_31 (And.intro @ld_31 @ag_33))))) (And.intro (And.intro (And.intro (And.intro @ld_33 @ag_34) (And.intro @ld_34 @ag_36)) (And.intro (And.intro @ld_36 @ag_38) (And.intro @ld_38 (And.intro @ag_49 @ld_49)))) (And.intro (And.intro (And.intro @ag_52 @ld_52) (And.intro @ag_54 @ld_54)) (And.intro (And.intro @ag_57 @ld_57) (And.intro @ag_58 (And.intro @ld_58 @ag_61)))))) (And.intro (And.intro (And.intro (And.intro (And.intro @ld_61 @ag_71) (And.intro @ld_71 @ag_77)) (And.intro (And.intro @ld_77 @ag_81) (And.intro @ld_81 (And.intro @ag_94 @ld_94)))) (And.intro (And.intro (And.intro @ag_98 @ld_98) (And.intro @ag_165 @ld_165)) (And.intro (And.intro @sz_2 @st_2) (And.intro @st_3 (And.intro @sz_22 @st_22))))) (And.intro (And.intro (And.intro (And.intro @sz_24 @st_24) (And.intro @sz_29 @st_29)) (And.intro (And.intro @st_31 @st_33) (And.intro @st_34 (And.intro @st_36 @st_38)))) (And.intro (And.intro (And.intro @st_49 @sz_52) (And.intro @st_52 @st_54)) (And.intro (And.intro @sz_57 @st_57) (And.intro @sz_58 (And.intro @st_58 @st_61)))))))) (And.intro (And.intro (And.intro (And.intro (And.intro (And.intro (And.intro @sz_71 @st_71) (And.intro @sz_77 @st_77)) (And.intro (And.intro @sz_94 @st_94) (And.intro @st_98 @sz_165))) (And.intro (And.intro (And.intro @st_165 @zs_3) (And.intro @al_3 @zs_24)) (And.intro (And.intro @al_24 @zs_31) (And.intro @al_31 (And.intro @zs_34 @al_34))))) (And.intro (And.intro (And.intro (And.intro @zs_36 @al_36) (And.intro @zs_38 @al_38)) (And.intro (And.intro @zs_49 @al_49) (And.intro @zs_54 (And.intro @al_54 @zs_61)))) (And.intro (And.intro (And.intro @al_61 @zs_71) (And.intro @al_71 @zs_94)) (And.intro (And.intro @al_94 @zs_98) (And.intro @al_98 (And.intro @zs_165 @al_165)))))) (And.intro (And.intro (And.intro (And.intro (And.intro @pl_31_0 @pl_31_1) (And.intro @pl_31_2 @bd_31)) (And.intro (And.intro @zs_33 @pl_33_0) (And.intro @pl_33_1 (And.intro @bd_33 @pl_36_0)))) (And.intro (And.intro (And.intro @pl_36_1 @pl_36_2) (And.intro @pl_36_3 @bd_36)) (And.intro (And.intro @pl_49_0 @pl_49_1) (And.intro @pl_49_2 (And.intro @bd_49 @pl_54_0))))) (And.intro (And.intro (And.intro (And.intro @pl_54_1 @pl_54_2) (And.intro @bd_54 @pl_61_0)) (And.intro (And.intro @pl_61_1 @pl_61_2) (And.intro @pl_61_3 (And.intro @pl_61_4 @bd_61)))) (And.intro (And.intro (And.intro @zs_79 @pl_79_0) (And.intro @pl_79_1 @pl_79_2)) (And.intro (And.intro @bd_79 @zs_91) (And.intro @pl_91_0 (And.intro @pl_91_1 @bd_91))))))) (And.intro (And.intro (And.intro (And.intro (And.intro (And.intro @pl_98_0 @pl_98_1) (And.intro @pl_98_2 @bd_98)) (And.intro (And.intro @zs_116 @pl_116_0) (And.intro @pl_116_1 @bd_116))) (And.intro (And.intro (And.intro @el_22 @by_61) (And.intro @el_24 @by_36)) (And.intro (And.intro @el_29 @by_116) (And.intro @el_34 (And.intro @by_49 @el_50))))) (And.intro (And.intro (And.intro (And.intro @by_54 @el_52) (And.intro @by_33 @el_57)) (And.intro (And.intro @by_91 @el_58) (And.intro @by_3 (And.intro @el_77 @by_98)))) (And.intro (And.intro (And.intro @el_134 @by_34) (And.intro @mu_71 @lk_71)) (And.intro (And.intro @mu_94 @lk_94) (And.intro @ap_22_22 (And.intro @ap_24_24 @ap_29_29)))))) (And.intro (And.intro (And.intro (And.intro (And.intro @ap_34_34 @ap_50_50) (And.intro @ap_52_52 @ap_57_57)) (And.intro (And.intro @ap_58_58 @ap_77_77) (And.intro @ap_134_134 (And.intro @sl_24 @sl_29)))) (And.intro (And.intro (And.intro @sl_77 @cv_3_128) (And.intro @cv_3_165 @cv_5_3)) (And.intro (And.intro @cv_128_3 @cv_128_151) (And.intro @cv_151_5 (And.intro @cv_153_5 @eql_4))))) (And.intro (And.intro (And.intro (And.intro @neq_4 @eql_27) (And.intro @neq_27 @eql_33)) (And.intro (And.intro @neq_33 @eqt_33) (And.intro @eql_34 (And.intro @neq_34 @eql_49)))) (And.intro (And.intro (And.intro @neq_49 @eqt_49) (And.intro @eql_57 @neq_57)) (And.intro (And.intro @eql_58 @neq_58) (And.intro @eql_95 (And.intro @neq_95 @lit_1))))))))) := (And.intro (And.intro (And.intro (And.intro (And.intro (And.intro (And.intro (And.intro @ixs_9 @sz_61) (And.intro @ix_22 @sz_38)) (And.intro (And.intro @ix_23 @sz_36) (And.intro @ix_24 @sz_116))) (And.intro (And.intro (And.intro @ix_29 @sz_49) (And.intro @ix_34 @sz_54)) (And.intro (And.intro @ix_50 @sz_33) (And.intro @ix_52 (And.intro @sz_91 @ix_57))))) (And.intro (And.intro (And.intro (And.intro @sz_3 @ix_58) (And.intro @sz_98 @ix_77)) (And.intro (And.intro @sz_34 @ix_134) (And.intro @ln_9 (And.intro @ln_22 @ln_23)))) (And.intro (And.intro (And.intro @ln_24 @ln_29) (And.intro @ln_34 @ln_50)) (And.intro (And.intro @ln_52 @ln_57) (And.intro @ln_58 (And.intro @ln_77 @ln_134)))))) (And.intro (And.intro (And.intro (And.intro (And.intro @fa_31_0 @fa_31_1) (And.intro @fa_31_2 @fa_33_0)) (And.intro (And.intro @fa_33_1 @fa_36_0) (And.intro @fa_36_1 @fa_36_2))) (And.intro (And.intro (And.intro @fa_36_3 @fa_38_0) (And.intro @fa_38_1 @fa_38_2)) (And.intro (And.intro @fa_49_0 @fa_49_1) (And.intro @fa_49_2 (And.intro @fa_54_0 @fa_54_1))))) (And.intro (And.intro (And.intro (And.intro @fa_54_2 @fa_61_0) (And.intro @fa_61_2 @fa_61_3)) (And.intro (And.intro @fa_79_0 @fa_79_1) (And.intro @fa_79_2 (And.intro @fa_91_1 @fa_98_0)))) (And.intro (And.intro (And.intro @fa_98_1 @fa_98_2) (And.intro @fa_116_0 @fa_116_1)) (And.intro (And.intro @ag_2 @ld_2) (And.intro @ag_3 (And.intro @ld_3 @ag_4))))))) (And.intro (And.intro (And.intro (And.intro (And.intro (And.intro @ld_4 @ag_5) (And.intro @ld_5 @ag_9)) (And.intro (And.intro @ld_9 @ag_22) (And.intro @ld_22 @ag_24))) (And.intro (And.intro (And.intro @ld_24 @ag_27) (And.intro @ld_27 @ag_29)) (And.intro (And.intro @ld_29 @ag_31) (And.intro @sz_31 (And.intro @ld_31 @ag_33))))) (And.intro (And.intro (And.intro (And.intro @ld_33 @ag_34) (And.intro @ld_34 @ag_36)) (And.intro (And.intro @ld_36 @ag_38) (And.intro @ld_38 (And.intro @ag_49 @ld_49)))) (And.intro (And.intro (And.intro @ag_52 @ld_52) (And.intro @ag_54 @ld_54)) (And.intro (And.intro @ag_57 @ld_57) (And.intro @ag_58 (And.intro @ld_58 @ag_61)))))) (And.intro (And.intro (And.intro (And.intro (And.intro @ld_61 @ag_71) (And.intro @ld_71 @ag_77)) (And.intro (And.intro @ld_77 @ag_81) (And.intro @ld_81 (And.intro @ag_94 @ld_94)))) (And.intro (And.intro (And.intro @ag_98 @ld_98) (And.intro @ag_165 @ld_165)) (And.intro (And.intro @sz_2 @st_2) (And.intro @st_3 (And.intro @sz_22 @st_22))))) (And.intro (And.intro (And.intro (And.intro @sz_24 @st_24) (And.intro @sz_29 @st_29)) (And.intro (And.intro @st_31 @st_33) (And.intro @st_34 (And.intro @st_36 @st_38)))) (And.intro (And.intro (And.intro @st_49 @sz_52) (And.intro @st_52 @st_54)) (And.intro (And.intro @sz_57 @st_57) (And.intro @sz_58 (And.intro @st_58 @st_61)))))))) (And.intro (And.intro (And.intro (And.intro (And.intro (And.intro (And.intro @sz_71 @st_71) (And.intro @sz_77 @st_77)) (And.intro (And.intro @sz_94 @st_94) (And.intro @st_98 @sz_165))) (And.intro (And.intro (And.intro @st_165 @zs_3) (And.intro @al_3 @zs_24)) (And.intro (And.intro @al_24 @zs_31) (And.intro @al_31 (And.intro @zs_34 @al_34))))) (And.intro (And.intro (And.intro (And.intro @zs_36 @al_36) (And.intro @zs_38 @al_38)) (And.intro (And.intro @zs_49 @al_49) (And.intro @zs_54 (And.intro @al_54 @zs_61)))) (And.intro (And.intro (And.intro @al_61 @zs_71) (And.intro @al_71 @zs_94)) (And.intro (And.intro @al_94 @zs_98) (And.intro @al_98 (And.intro @zs_165 @al_165)))))) (And.intro (And.intro (And.intro (And.intro (And.intro @pl_31_0 @pl_31_1) (And.intro @pl_31_2 @bd_31)) (And.intro (And.intro @zs_33 @pl_33_0) (And.intro @pl_33_1 (And.intro @bd_33 @pl_36_0)))) (And.intro (And.intro (And.intro @pl_36_1 @pl_36_2) (And.intro @pl_36_3 @bd_36)) (And.intro (And.intro @pl_49_0 @pl_49_1) (And.intro @pl_49_2 (And.intro @bd_49 @pl_54_0))))) (And.intro (And.intro (And.intro (And.intro @pl_54_1 @pl_54_2) (And.intro @bd_54 @pl_61_0)) (And.intro (And.intro @pl_61_1 @pl_61_2) (And.intro @pl_61_3 (And.intro @pl_61_4 @bd_61)))) (And.intro (And.intro (And.intro @zs_79 @pl_79_0) (And.intro @pl_79_1 @pl_79_2)) (And.intro (And.intro @bd_79 @zs_91) (And.intro @pl_91_0 (And.intro @pl_91_1 @bd_91))))))) (And.intro (And.intro (And.intro (And.intro (And.intro (And.intro @pl_98_0 @pl_98_1) (And.intro @pl_98_2 @bd_98)) (And.intro (And.intro @zs_116 @pl_116_0) (And.intro @pl_116_1 @bd_116))) (And.intro (And.intro (And.intro @el_22 @by_61) (And.intro @el_24 @by_36)) (And.intro (And.intro @el_29 @by_116) (And.intro @el_34 (And.intro @by_49 @el_50))))) (And.intro (And.intro (And.intro (And.intro @by_54 @el_52) (And.intro @by_33 @el_57)) (And.intro (And.intro @by_91 @el_58) (And.intro @by_3 (And.intro @el_77 @by_98)))) (And.intro (And.intro (And.intro @el_134 @by_34) (And.intro @mu_71 @lk_71)) (And.intro (And.intro @mu_94 @lk_94) (And.intro @ap_22_22 (And.intro @ap_24_24 @ap_29_29)))))) (And.intro (And.intro (And.intro (And.intro (And.intro @ap_34_34 @ap_50_50) (And.intro @ap_52_52 @ap_57_57)) (And.intro (And.intro @ap_58_58 @ap_77_77) (And.intro @ap_134_134 (And.intro @sl_24 @sl_29)))) (And.intro (And.intro (And.intro @sl_77 @cv_3_128) (And.intro @cv_3_165 @cv_5_3)) (And.intro (And.intro @cv_128_3 @cv_128_151) (And.intro @cv_151_5 (And.intro @cv_153_5 @eql_4))))) (And.intro (And.intro (And.intro (And.intro @neq_4 @eql_27) (And.intro @neq_27 @eql_33)) (And.intro (And.intro @neq_33 @eqt_33) (And.intro @eql_34 (And.intro @neq_34 @eql_49)))) (And.intro (And.intro (And.intro @neq_49 @eqt_49) (And.intro @eql_57 @neq_57)) (And.intro (And.intro @eql_58 @neq_58) (And.intro @eql_95 (And.intro @neq_95 @lit_1)))))))))
end Go.Proofs.YtcaolnmpldbkjaaGreatA
