/- Written by gent.py, a program of this session: the rules of the types. -/
import Derived.Test.YtagebnmealiedaaAxR
import Derived.Test.YtagebnmealiedaaProg
namespace Go.Proofs.YtagebnmealiedaaA
open Go Go.Proofs Go.RowKit
set_option linter.unusedVariables false
set_option linter.unusedSimpArgs false
theorem sz_32 : szT Try.prog 32 = some 4 := by kernel_rfl
theorem ix_22 {p : Option (Nat × Nat)} {n : Nat} {c : Option Nat} {k : IntKind} {i : Int} (hp : p = none → n = 0) (h0 : 0 ≤ i) (h1 : i < n) : indexAddrV Try.prog 22 (.slice p n c) (.int k i) = some (.ptr (some (sid p, soff p + i.toNat * 4))) := ixa Try.underlying22 sz_32 hp h0 h1
theorem sz_2 : szT Try.prog 2 = some 1 := by kernel_rfl
theorem ix_51 {p : Option (Nat × Nat)} {n : Nat} {c : Option Nat} {k : IntKind} {i : Int} (hp : p = none → n = 0) (h0 : 0 ≤ i) (h1 : i < n) : indexAddrV Try.prog 51 (.slice p n c) (.int k i) = some (.ptr (some (sid p, soff p + i.toNat * 1))) := ixa Try.underlying51 sz_2 hp h0 h1
theorem sz_9 : szT Try.prog 9 = some 1 := by kernel_rfl
theorem ixr_57 {id off : Nat} {k : IntKind} {i : Int} (h0 : 0 ≤ i) (h1 : i < 4) : indexAddrV Try.prog 57 (.ptr (some (id, off))) (.int k i) = some (.ptr (some (id, off + i.toNat * 1))) := ixr Try.underlying57 sz_9 h0 h1
theorem ix_58 {p : Option (Nat × Nat)} {n : Nat} {c : Option Nat} {k : IntKind} {i : Int} (hp : p = none → n = 0) (h0 : 0 ≤ i) (h1 : i < n) : indexAddrV Try.prog 58 (.slice p n c) (.int k i) = some (.ptr (some (sid p, soff p + i.toNat * 1))) := ixa Try.underlying58 sz_9 hp h0 h1
theorem sz_3 : szT Try.prog 3 = some 1 := by kernel_rfl
theorem ix_71 {p : Option (Nat × Nat)} {n : Nat} {c : Option Nat} {k : IntKind} {i : Int} (hp : p = none → n = 0) (h0 : 0 ≤ i) (h1 : i < n) : indexAddrV Try.prog 71 (.slice p n c) (.int k i) = some (.ptr (some (sid p, soff p + i.toNat * 1))) := ixa Try.underlying71 sz_3 hp h0 h1
theorem ln_9 (s : List Int) (h : Heap) : lenB Try.prog 9 (.str s) h = some (.int .i64 s.length) := len_str Try.underlying9 s h
theorem ln_22 (p : Option (Nat × Nat)) (n : Nat) (c : Option Nat) (h : Heap) : lenB Try.prog 22 (.slice p n c) h = some (.int .i64 n) := len_slice Try.underlying22 p n c h
theorem ln_51 (p : Option (Nat × Nat)) (n : Nat) (c : Option Nat) (h : Heap) : lenB Try.prog 51 (.slice p n c) h = some (.int .i64 n) := len_slice Try.underlying51 p n c h
theorem ln_71 (p : Option (Nat × Nat)) (n : Nat) (c : Option Nat) (h : Heap) : lenB Try.prog 71 (.slice p n c) h = some (.int .i64 n) := len_slice Try.underlying71 p n c h
theorem fa_26_0 (id off : Nat) : fAddrV Try.prog 26 0 (.ptr (some (id, off))) = some (.ptr (some (id, off))) := fAddr_at (o := 0) (by kernel_rfl) id off
theorem fa_26_1 (id off : Nat) : fAddrV Try.prog 26 1 (.ptr (some (id, off))) = some (.ptr (some (id, fld off 1))) := fAddr_at (o := 1) (by kernel_rfl) id off
theorem fa_26_2 (id off : Nat) : fAddrV Try.prog 26 2 (.ptr (some (id, off))) = some (.ptr (some (id, fld off 2))) := fAddr_at (o := 2) (by kernel_rfl) id off
theorem fa_32_0 (id off : Nat) : fAddrV Try.prog 32 0 (.ptr (some (id, off))) = some (.ptr (some (id, off))) := fAddr_at (o := 0) (by kernel_rfl) id off
theorem fa_32_1 (id off : Nat) : fAddrV Try.prog 32 1 (.ptr (some (id, off))) = some (.ptr (some (id, fld off 1))) := fAddr_at (o := 1) (by kernel_rfl) id off
theorem ag_2 : aggT Try.prog 2 = some false := by kernel_rfl
theorem ld_2 (h : Heap) (id off : Nat) : loadV Try.prog 2 h id off = load1 h id off := loadV_one ag_2 h id off
theorem ag_3 : aggT Try.prog 3 = some false := by kernel_rfl
theorem ld_3 (h : Heap) (id off : Nat) : loadV Try.prog 3 h id off = load1 h id off := loadV_one ag_3 h id off
theorem ag_9 : aggT Try.prog 9 = some false := by kernel_rfl
theorem ld_9 (h : Heap) (id off : Nat) : loadV Try.prog 9 h id off = load1 h id off := loadV_one ag_9 h id off
theorem ag_26 : aggT Try.prog 26 = some true := by kernel_rfl
theorem sz_26 : szT Try.prog 26 = some 3 := by kernel_rfl
theorem ld_26 (h : Heap) (id off : Nat) : loadV Try.prog 26 h id off = (loadN h id off 3).map .agg := loadV_agg ag_26 sz_26 h id off
theorem ag_32 : aggT Try.prog 32 = some true := by kernel_rfl
theorem ld_32 (h : Heap) (id off : Nat) : loadV Try.prog 32 h id off = (loadN h id off 4).map .agg := loadV_agg ag_32 sz_32 h id off
theorem st_2 (h : Heap) (id off : Nat) (v : V) : storeV Try.prog 2 h id off v = if v.flat.length = 1 then storeN h id off v.flat else none := storeV_as sz_2 h id off v
theorem st_26 (h : Heap) (id off : Nat) (v : V) : storeV Try.prog 26 h id off v = if v.flat.length = 3 then storeN h id off v.flat else none := storeV_as sz_26 h id off v
theorem st_32 (h : Heap) (id off : Nat) (v : V) : storeV Try.prog 32 h id off v = if v.flat.length = 4 then storeN h id off v.flat else none := storeV_as sz_32 h id off v
theorem sz_57 : szT Try.prog 57 = some 4 := by kernel_rfl
theorem st_57 (h : Heap) (id off : Nat) (v : V) : storeV Try.prog 57 h id off v = if v.flat.length = 4 then storeN h id off v.flat else none := storeV_as sz_57 h id off v
theorem zs_26 : zerosT Try.prog 26 = some ([.int .i64 0, .int .i64 0, .str []]) := by kernel_rfl
theorem al_26 (tt : List V) (h : Heap) : p_alloc Try.prog tt h 26 = some (.ptr (some (h.length, 0)), h ++ [.cells ([.int .i64 0, .int .i64 0, .str []]) .rw]) := zeros_as zs_26
theorem zs_32 : zerosT Try.prog 32 = some ([.int .i64 0, .int .i64 0, .int .i64 0, .str []]) := by kernel_rfl
theorem al_32 (tt : List V) (h : Heap) : p_alloc Try.prog tt h 32 = some (.ptr (some (h.length, 0)), h ++ [.cells ([.int .i64 0, .int .i64 0, .int .i64 0, .str []]) .rw]) := zeros_as zs_32
theorem zs_57 : zerosT Try.prog 57 = some ([.str [], .str [], .str [], .str []]) := by kernel_rfl
theorem al_57 (tt : List V) (h : Heap) : p_alloc Try.prog tt h 57 = some (.ptr (some (h.length, 0)), h ++ [.cells ([.str [], .str [], .str [], .str []]) .rw]) := zeros_as zs_57
theorem pl_26_0 : placesT Try.prog 26 0 = some (0, 1) := by kernel_rfl
theorem pl_26_1 : placesT Try.prog 26 1 = some (1, 1) := by kernel_rfl
theorem pl_26_2 : placesT Try.prog 26 2 = some (2, 1) := by kernel_rfl
theorem bd_26 (parts : List (Nat × V)) : buildV Try.prog 26 parts = (fillV (placesT Try.prog 26) ([.int .i64 0, .int .i64 0, .str []]) parts).map .agg := build_as zs_26 Try.underlying26 (by kernel_rfl) parts
theorem pl_32_0 : placesT Try.prog 32 0 = some (0, 1) := by kernel_rfl
theorem pl_32_1 : placesT Try.prog 32 1 = some (1, 3) := by kernel_rfl
theorem bd_32 (parts : List (Nat × V)) : buildV Try.prog 32 parts = (fillV (placesT Try.prog 32) ([.int .i64 0, .int .i64 0, .int .i64 0, .str []]) parts).map .agg := build_as zs_32 Try.underlying32 (by kernel_rfl) parts
theorem bd_57 (parts : List (Nat × V)) : buildV Try.prog 57 parts = (fillV (fun i => some (i * 1, 1)) ([.str [], .str [], .str [], .str []]) parts).map .agg := build_arr zs_57 Try.underlying57 sz_9 parts
theorem el_22 : elemT Try.prog 22 = some 32 := by kernel_rfl
theorem by_32 : byT Try.prog 32 = some 40 := by kernel_rfl
theorem zs_2 : zerosT Try.prog 2 = some ([.int .i64 0]) := by kernel_rfl
theorem el_51 : elemT Try.prog 51 = some 2 := by kernel_rfl
theorem by_2 : byT Try.prog 2 = some 8 := by kernel_rfl
theorem zs_9 : zerosT Try.prog 9 = some ([.str []]) := by kernel_rfl
theorem el_58 : elemT Try.prog 58 = some 9 := by kernel_rfl
theorem by_9 : byT Try.prog 9 = some 16 := by kernel_rfl
theorem zs_3 : zerosT Try.prog 3 = some ([.int .i64 0]) := by kernel_rfl
theorem el_71 : elemT Try.prog 71 = some 3 := by kernel_rfl
theorem by_3 : byT Try.prog 3 = some 8 := by kernel_rfl
theorem ko_55 (k : Int) : keyOk Try.prog 3 (.int .i64 k) = true := by simp only [keyOk, Try.underlying3]
theorem mu_55 (k : Int) (id : Nat) (v : V) (h : Heap) : mapUpdateV Try.prog 55 (.map (some id)) (.int .i64 k) v h = mapPut (.int .i64 k) v id h h[id]? := mapUpdate_as Try.underlying55 (ko_55 k) id v h
theorem zr_53 : zeroT Try.prog 53 = some (.nilFunc) := by kernel_rfl
theorem lk_55 (k : Int) (id : Nat) (ok : Bool) (h : Heap) : lookupV Try.prog 55 (.map (some id)) (.int .i64 k) ok h = mapGet (.int .i64 k) (.nilFunc) ok (entsOf h[id]?) := lookup_as Try.underlying55 zr_53 (ko_55 k) id ok h
theorem ap_22_22 (p : Option (Nat × Nat)) (len : Nat) (cap : Option Nat) (q : Option (Nat × Nat)) (n : Nat) (c : Option Nat) (h : Heap) : appendV Try.prog 22 22 (.slice p len cap) (.slice q n c) h = apv 4 40 p len cap (.slice q n c) n h := (append_as el_22 (by kernel_rfl) sz_32 by_32 zs_32 p len cap h).1 q n c
theorem cp_22 (p : Option (Nat × Nat)) (len : Nat) (cap : Option Nat) (q : Option (Nat × Nat)) (n : Nat) (c : Option Nat) (h : Heap) : copyV Try.prog 22 (.slice p len cap) (.slice q n c) h = cpv 4 p len (.slice q n c) n h := (copy_as el_22 sz_32 p len cap h).1 q n c
theorem cps_22 (p : Option (Nat × Nat)) (len : Nat) (cap : Option Nat) (s : List Int) (h : Heap) : copyV Try.prog 22 (.slice p len cap) (.str s) h = cpv 4 p len (.str s) s.length h := (copy_as el_22 sz_32 p len cap h).2 s
theorem sl_22 (h : Heap) (p : Option (Nat × Nat)) (len : Nat) (cap : Option Nat) (lo hi mx : Option V) : sliceOp Try.prog h 22 (.slice p len cap) lo hi mx = sliceV h 4 p len cap lo hi mx := slice_as Try.underlying22 sz_32 h p len cap lo hi mx
theorem cv_3_69 (k : IntKind) (n : Int) (h : Heap) : convV Try.prog 3 69 (.int k n) h = some (.int .u64 (IntKind.wrap .u64 n), h) := conv_int Try.underlying3 Try.underlying69 k n h
theorem cv_69_3 (k : IntKind) (n : Int) (h : Heap) : convV Try.prog 69 3 (.int k n) h = some (.int .i64 (IntKind.wrap .i64 n), h) := conv_int Try.underlying69 Try.underlying3 k n h
theorem eql_4 (x y : Operand) (a b : Bool) : binV Try.prog .eql 4 x y (.bool a) (.bool b) = some (.bool (decide (a = b))) := bin_eql_bool Try.underlying4 x y a b
theorem neq_4 (x y : Operand) (a b : Bool) : binV Try.prog .neq 4 x y (.bool a) (.bool b) = some (.bool (decide (¬ a = b))) := bin_neq_bool Try.underlying4 x y a b
theorem eqt_3 {d : Nat} (hd : 1 ≤ d) (k : IntKind) (a b : Int) : eqT Try.prog d 3 (.int k a) (.int k b) = some (decide (a = b)) := eqT_int Try.underlying3 hd k a b
theorem eqt_2 {d : Nat} (hd : 1 ≤ d) (k : IntKind) (a b : Int) : eqT Try.prog d 2 (.int k a) (.int k b) = some (decide (a = b)) := eqT_int Try.underlying2 hd k a b
theorem eqt_9 {d : Nat} (hd : 1 ≤ d) (a b : List Int) : eqT Try.prog d 9 (.str a) (.str b) = some (decide (a = b)) := eqT_str Try.underlying9 hd a b
theorem eqt_26 {d : Nat} (hd : 5 ≤ d) (a0 b0 : Int) (a1 b1 : Int) (a2 b2 : List Int) : eqT Try.prog d 26 (.agg [.int .i64 a0, .int .i64 a1, .str a2]) (.agg [.int .i64 b0, .int .i64 b1, .str b2]) = some (decide (a0 = b0 ∧ a1 = b1 ∧ a2 = b2)) := by
  obtain ⟨e, rfl⟩ : ∃ e, d = e + 5 := ⟨d - 5, by omega⟩
  rw [eqT_struct Try.underlying26 (by kernel_rfl)]
  simp (disch := first | omega | decide) only [eqFs_cons, eqFs_nil, List.getElem?_cons_zero, List.getElem?_cons_succ, List.drop_succ_cons, List.drop_zero, List.take_succ_cons, List.take_zero, eq_and, eq_last, eqt_2, partV_one ag_2, eqt_3, partV_one ag_3, eqt_9, partV_one ag_9]
theorem eql_26 (x y : Operand) (a b : List V) : binV Try.prog .eql 26 x y (.agg a) (.agg b) = (eqT Try.prog 40 26 (.agg a) (.agg b)).map .bool := bin_eql_agg (by kernel_rfl) x y a b
theorem neq_26 (x y : Operand) (a b : List V) : binV Try.prog .neq 26 x y (.agg a) (.agg b) = (eqT Try.prog 40 26 (.agg a) (.agg b)).map fun r => .bool !r := bin_neq_agg (by kernel_rfl) x y a b
theorem eqt_32 {d : Nat} (hd : 8 ≤ d) (a0 b0 : Int) (a1 b1 : Int) (a2 b2 : Int) (a3 b3 : List Int) : eqT Try.prog d 32 (.agg [.int .i64 a0, .int .i64 a1, .int .i64 a2, .str a3]) (.agg [.int .i64 b0, .int .i64 b1, .int .i64 b2, .str b3]) = some (decide (a0 = b0 ∧ (a1 = b1 ∧ a2 = b2 ∧ a3 = b3))) := by
  obtain ⟨e, rfl⟩ : ∃ e, d = e + 8 := ⟨d - 8, by omega⟩
  rw [eqT_struct Try.underlying32 (by kernel_rfl)]
  simp (disch := first | omega | decide) only [eqFs_cons, eqFs_nil, List.getElem?_cons_zero, List.getElem?_cons_succ, List.drop_succ_cons, List.drop_zero, List.take_succ_cons, List.take_zero, eq_and, eq_last, eqt_2, partV_one ag_2, eqt_26, partV_agg ag_26 sz_26]
theorem eql_32 (x y : Operand) (a b : List V) : binV Try.prog .eql 32 x y (.agg a) (.agg b) = (eqT Try.prog 40 32 (.agg a) (.agg b)).map .bool := bin_eql_agg (by kernel_rfl) x y a b
theorem neq_32 (x y : Operand) (a b : List V) : binV Try.prog .neq 32 x y (.agg a) (.agg b) = (eqT Try.prog 40 32 (.agg a) (.agg b)).map fun r => .bool !r := bin_neq_agg (by kernel_rfl) x y a b
theorem lit_1 : bytesOf ⟨#[67, 79, 85, 78, 84]⟩ = [67, 79, 85, 78, 84] := rfl
theorem lit_2 : bytesOf ⟨#[77, 65, 88]⟩ = [77, 65, 88] := rfl
theorem lit_3 : bytesOf ⟨#[77, 73, 78]⟩ = [77, 73, 78] := rfl
theorem lit_4 : bytesOf ⟨#[83, 85, 77]⟩ = [83, 85, 77] := rfl
/-- The rules of the types. -/
theorem TY : type_of% (And.intro (And.intro (And.intro (And.intro (And.intro (And.intro @sz_32 @ix_22) (And.intro @sz_2 @ix_51)) (And.intro (And.intro @sz_9 @ixr_57) (And.intro @ix_58 (And.intro @sz_3 @ix_71)))) (And.intro (And.intro (And.intro @ln_9 @ln_22) (And.intro @ln_51 (And.intro @ln_71 @fa_26_0))) (And.intro (And.intro @fa_26_1 @fa_26_2) (And.intro @fa_32_0 (And.intro @fa_32_1 @ag_2))))) (And.intro (And.intro (And.intro (And.intro @ld_2 @ag_3) (And.intro @ld_3 (And.intro @ag_9 @ld_9))) (And.intro (And.intro @ag_26 @sz_26) (And.intro @ld_26 (And.intro @ag_32 @ld_32)))) (And.intro (And.intro (And.intro @st_2 @st_26) (And.intro @st_32 (And.intro @sz_57 @st_57))) (And.intro (And.intro @zs_26 @al_26) (And.intro @zs_32 (And.intro @al_32 @zs_57)))))) (And.intro (And.intro (And.intro (And.intro (And.intro @al_57 @pl_26_0) (And.intro @pl_26_1 (And.intro @pl_26_2 @bd_26))) (And.intro (And.intro @pl_32_0 @pl_32_1) (And.intro @bd_32 (And.intro @bd_57 @el_22)))) (And.intro (And.intro (And.intro @by_32 @zs_2) (And.intro @el_51 (And.intro @by_2 @zs_9))) (And.intro (And.intro @el_58 @by_9) (And.intro @zs_3 (And.intro @el_71 @by_3))))) (And.intro (And.intro (And.intro (And.intro @mu_55 @lk_55) (And.intro @ap_22_22 (And.intro @cp_22 @cps_22))) (And.intro (And.intro @sl_22 @cv_3_69) (And.intro @cv_69_3 (And.intro @eql_4 @neq_4)))) (And.intro (And.intro (And.intro @eql_26 @neq_26) (And.intro @eqt_26 (And.intro @eql_32 @neq_32))) (And.intro (And.intro @eqt_32 @lit_1) (And.intro @lit_2 (And.intro @lit_3 @lit_4))))))) := (And.intro (And.intro (And.intro (And.intro (And.intro (And.intro @sz_32 @ix_22) (And.intro @sz_2 @ix_51)) (And.intro (And.intro @sz_9 @ixr_57) (And.intro @ix_58 (And.intro @sz_3 @ix_71)))) (And.intro (And.intro (And.intro @ln_9 @ln_22) (And.intro @ln_51 (And.intro @ln_71 @fa_26_0))) (And.intro (And.intro @fa_26_1 @fa_26_2) (And.intro @fa_32_0 (And.intro @fa_32_1 @ag_2))))) (And.intro (And.intro (And.intro (And.intro @ld_2 @ag_3) (And.intro @ld_3 (And.intro @ag_9 @ld_9))) (And.intro (And.intro @ag_26 @sz_26) (And.intro @ld_26 (And.intro @ag_32 @ld_32)))) (And.intro (And.intro (And.intro @st_2 @st_26) (And.intro @st_32 (And.intro @sz_57 @st_57))) (And.intro (And.intro @zs_26 @al_26) (And.intro @zs_32 (And.intro @al_32 @zs_57)))))) (And.intro (And.intro (And.intro (And.intro (And.intro @al_57 @pl_26_0) (And.intro @pl_26_1 (And.intro @pl_26_2 @bd_26))) (And.intro (And.intro @pl_32_0 @pl_32_1) (And.intro @bd_32 (And.intro @bd_57 @el_22)))) (And.intro (And.intro (And.intro @by_32 @zs_2) (And.intro @el_51 (And.intro @by_2 @zs_9))) (And.intro (And.intro @el_58 @by_9) (And.intro @zs_3 (And.intro @el_71 @by_3))))) (And.intro (And.intro (And.intro (And.intro @mu_55 @lk_55) (And.intro @ap_22_22 (And.intro @cp_22 @cps_22))) (And.intro (And.intro @sl_22 @cv_3_69) (And.intro @cv_69_3 (And.intro @eql_4 @neq_4)))) (And.intro (And.intro (And.intro @eql_26 @neq_26) (And.intro @eqt_26 (And.intro @eql_32 @neq_32))) (And.intro (And.intro @eqt_32 @lit_1) (And.intro @lit_2 (And.intro @lit_3 @lit_4)))))))
end Go.Proofs.YtagebnmealiedaaA
