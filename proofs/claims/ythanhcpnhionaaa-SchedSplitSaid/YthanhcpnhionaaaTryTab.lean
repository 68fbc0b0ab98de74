/- What the operations ask of the table of types, printed by a program. Conditions: none. -/
import Derived.Test.YthanhcpnhionaaaRows
import Derived.Test.YthanhcpnhionaaaAmV
import Derived.KernelRfl
set_option linter.all false
set_option linter.unusedSimpArgs false
set_option linter.unusedVariables false
namespace Go.Am.T
open Go Go.Am Go.Proofs.Ythanhcpnhionaaa Go.Proofs
set_option maxRecDepth 20000
@[go_sem] theorem ln_22 {a : Option Addr} {n c : Nat} : lenA Try.prog 22 (.slice a n c) = some (goInt n) := by kernel_rfl
@[go_sem] theorem ln_23 {a : Option Addr} {n c : Nat} : lenA Try.prog 23 (.slice a n c) = some (goInt n) := by kernel_rfl
@[go_sem] theorem zr_33 : zeroA Try.prog 33 = some (.agg #[(.int .i64 0), (.slice none 0 0), (.slice none 0 0), (.slice none 0 0), (.slice none 0 0)]) := by kernel_rfl
@[go_sem] theorem st_33 {H : Heap} {a : Addr} {v : Value} : storeA Try.prog H 33 (.pointer (some a)) v = if v.cells.size = 5 then H.stores a v.cells.toList else none := by kernel_rfl
@[go_sem] theorem ld_33 {H : Heap} {a : Addr} : loadA Try.prog H 33 (.pointer (some a)) = (H.loads a 5).map fun l => .agg l.toArray := by kernel_rfl
@[go_sem] theorem fa_33_1 {b o : Nat} : fieldAddrA Try.prog 33 (.pointer (some ⟨b, o, none⟩)) 1 = some (.pointer (some ⟨b, o + 1, none⟩)) := by kernel_rfl
@[go_sem] theorem ld_28 {H : Heap} {a : Addr} : loadA Try.prog H 28 (.pointer (some a)) = H.load1 a := by kernel_rfl
@[go_sem] theorem ln_28 {a : Option Addr} {n c : Nat} : lenA Try.prog 28 (.slice a n c) = some (goInt n) := by kernel_rfl
@[go_sem] theorem bd_39 {l : List (Nat × Value)} : buildA Try.prog 39 l = buildS [(0, 1), (1, 1)] #[(.int .i64 0), (.int .i64 0)] l := by kernel_rfl
@[go_sem] theorem ia_28 {b o n c : Nat} {k : IntKind} {i : Int} : indexAddrA Try.prog 28 (.slice (some ⟨b, o, none⟩) n c) (.int k i) = (if (false || decide (c = 0)) = true then none else if 0 ≤ i ∧ i < (n : Int) then some (.pointer (some ⟨b, o + i.toNat * 2, none⟩)) else none) := by kernel_rfl
@[go_sem] theorem st_39 {H : Heap} {a : Addr} {v : Value} : storeA Try.prog H 39 (.pointer (some a)) v = if v.cells.size = 2 then H.stores a v.cells.toList else none := by kernel_rfl
@[go_sem] theorem fa_33_4 {b o : Nat} : fieldAddrA Try.prog 33 (.pointer (some ⟨b, o, none⟩)) 4 = some (.pointer (some ⟨b, o + 4, none⟩)) := by kernel_rfl
@[go_sem] theorem ld_31 {H : Heap} {a : Addr} : loadA Try.prog H 31 (.pointer (some a)) = H.load1 a := by kernel_rfl
@[go_sem] theorem ln_31 {a : Option Addr} {n c : Nat} : lenA Try.prog 31 (.slice a n c) = some (goInt n) := by kernel_rfl
@[go_sem] theorem ia_31 {b o n c : Nat} {k : IntKind} {i : Int} : indexAddrA Try.prog 31 (.slice (some ⟨b, o, none⟩) n c) (.int k i) = (if (false || decide (c = 0)) = true then none else if 0 ≤ i ∧ i < (n : Int) then some (.pointer (some ⟨b, o + i.toNat * 1, none⟩)) else none) := by kernel_rfl
@[go_sem] theorem ld_29 {H : Heap} {a : Addr} : loadA Try.prog H 29 (.pointer (some a)) = H.load1 a := by kernel_rfl
@[go_sem] theorem ln_29 {a : Option Addr} {n c : Nat} : lenA Try.prog 29 (.slice a n c) = some (goInt n) := by kernel_rfl
@[go_sem] theorem ia_29 {b o n c : Nat} {k : IntKind} {i : Int} : indexAddrA Try.prog 29 (.slice (some ⟨b, o, none⟩) n c) (.int k i) = (if (false || decide (c = 0)) = true then none else if 0 ≤ i ∧ i < (n : Int) then some (.pointer (some ⟨b, o + i.toNat * 1, none⟩)) else none) := by kernel_rfl
@[go_sem] theorem st_2 {H : Heap} {a : Addr} {v : Value} : storeA Try.prog H 2 (.pointer (some a)) v = if v.cells.size = 1 then H.stores a v.cells.toList else none := by kernel_rfl
@[go_sem] theorem ia_23 {b o n c : Nat} {k : IntKind} {i : Int} : indexAddrA Try.prog 23 (.slice (some ⟨b, o, none⟩) n c) (.int k i) = (if (false || decide (c = 0)) = true then none else if 0 ≤ i ∧ i < (n : Int) then some (.pointer (some ⟨b, o + i.toNat * 1, none⟩)) else none) := by kernel_rfl
@[go_sem] theorem ld_3 {H : Heap} {a : Addr} : loadA Try.prog H 3 (.pointer (some a)) = H.load1 a := by kernel_rfl
@[go_sem] theorem fa_33_0 {b o : Nat} : fieldAddrA Try.prog 33 (.pointer (some ⟨b, o, none⟩)) 0 = some (.pointer (some ⟨b, o, none⟩)) := by kernel_rfl
@[go_sem] theorem ld_39 {H : Heap} {a : Addr} : loadA Try.prog H 39 (.pointer (some a)) = (H.loads a 2).map fun l => .agg l.toArray := by kernel_rfl
-- binOp Go.BinOp.neq 39
@[go_sem] theorem sl_23 {H : Heap} {a : Option Addr} {n c : Nat} {lo hi mx : Option Value} : sliceA Try.prog H 23 (.slice a n c) lo hi mx = sliceS H 1 a n c lo hi mx := by kernel_rfl
@[go_sem] theorem fa_39_0 {b o : Nat} : fieldAddrA Try.prog 39 (.pointer (some ⟨b, o, none⟩)) 0 = some (.pointer (some ⟨b, o, none⟩)) := by kernel_rfl
@[go_sem] theorem ap_23_23 {H : Heap} {a : Option Addr} {n c : Nat} {x : Value} : appendA Try.prog H 23 23 (.slice a n c) x = appS H 3 1 8 a n c x := by kernel_rfl
@[go_sem] theorem bd_47 {l : List (Nat × Value)} : buildA Try.prog 47 l = buildS [(0, 1), (1, 1), (2, 1), (3, 1)] #[(.int .i64 0), (.int .i64 0), (.int .i64 0), (.int .i64 0)] l := by kernel_rfl
@[go_sem] theorem bs_45_2 {l : List (Nat × Value)} : buildSliceA Try.prog 45 2 l = bslS 47 4 2 [(.int .i64 0), (.int .i64 0), (.int .i64 0), (.int .i64 0)] l := by kernel_rfl
@[go_sem] theorem ap_45_45 {H : Heap} {a : Option Addr} {n c : Nat} {x : Value} : appendA Try.prog H 45 45 (.slice a n c) x = appS H 47 4 32 a n c x := by kernel_rfl
@[go_sem] theorem bs_45_1 {l : List (Nat × Value)} : buildSliceA Try.prog 45 1 l = bslS 47 4 1 [(.int .i64 0), (.int .i64 0), (.int .i64 0), (.int .i64 0)] l := by kernel_rfl
@[go_sem] theorem bs_45_3 {l : List (Nat × Value)} : buildSliceA Try.prog 45 3 l = bslS 47 4 3 [(.int .i64 0), (.int .i64 0), (.int .i64 0), (.int .i64 0)] l := by kernel_rfl
@[go_sem] theorem bs_22_1 {l : List (Nat × Value)} : buildSliceA Try.prog 22 1 l = bslS 45 1 1 [(.slice none 0 0)] l := by kernel_rfl
@[go_sem] theorem ap_22_22 {H : Heap} {a : Option Addr} {n c : Nat} {x : Value} : appendA Try.prog H 22 22 (.slice a n c) x = appS H 45 1 24 a n c x := by kernel_rfl
@[go_sem] theorem fa_33_2 {b o : Nat} : fieldAddrA Try.prog 33 (.pointer (some ⟨b, o, none⟩)) 2 = some (.pointer (some ⟨b, o + 2, none⟩)) := by kernel_rfl
@[go_sem] theorem fa_33_3 {b o : Nat} : fieldAddrA Try.prog 33 (.pointer (some ⟨b, o, none⟩)) 3 = some (.pointer (some ⟨b, o + 3, none⟩)) := by kernel_rfl
@[go_sem] theorem ld_30 {H : Heap} {a : Addr} : loadA Try.prog H 30 (.pointer (some a)) = H.load1 a := by kernel_rfl
@[go_sem] theorem ln_30 {a : Option Addr} {n c : Nat} : lenA Try.prog 30 (.slice a n c) = some (goInt n) := by kernel_rfl
@[go_sem] theorem ia_30 {b o n c : Nat} {k : IntKind} {i : Int} : indexAddrA Try.prog 30 (.slice (some ⟨b, o, none⟩) n c) (.int k i) = (if (false || decide (c = 0)) = true then none else if 0 ≤ i ∧ i < (n : Int) then some (.pointer (some ⟨b, o + i.toNat * 2, none⟩)) else none) := by kernel_rfl
@[go_sem] theorem fa_49_0 {b o : Nat} : fieldAddrA Try.prog 49 (.pointer (some ⟨b, o, none⟩)) 0 = some (.pointer (some ⟨b, o, none⟩)) := by kernel_rfl
@[go_sem] theorem ld_2 {H : Heap} {a : Addr} : loadA Try.prog H 2 (.pointer (some a)) = H.load1 a := by kernel_rfl
@[go_sem] theorem bs_22_2 {l : List (Nat × Value)} : buildSliceA Try.prog 22 2 l = bslS 45 1 2 [(.slice none 0 0)] l := by kernel_rfl
@[go_sem] theorem bs_45_5 {l : List (Nat × Value)} : buildSliceA Try.prog 45 5 l = bslS 47 4 5 [(.int .i64 0), (.int .i64 0), (.int .i64 0), (.int .i64 0)] l := by kernel_rfl
@[go_sem] theorem ln_45 {a : Option Addr} {n c : Nat} : lenA Try.prog 45 (.slice a n c) = some (goInt n) := by kernel_rfl
@[go_sem] theorem ia_45 {b o n c : Nat} {k : IntKind} {i : Int} : indexAddrA Try.prog 45 (.slice (some ⟨b, o, none⟩) n c) (.int k i) = (if (false || decide (c = 0)) = true then none else if 0 ≤ i ∧ i < (n : Int) then some (.pointer (some ⟨b, o + i.toNat * 4, none⟩)) else none) := by kernel_rfl
@[go_sem] theorem fa_47_0 {b o : Nat} : fieldAddrA Try.prog 47 (.pointer (some ⟨b, o, none⟩)) 0 = some (.pointer (some ⟨b, o, none⟩)) := by kernel_rfl
@[go_sem] theorem fa_47_3 {b o : Nat} : fieldAddrA Try.prog 47 (.pointer (some ⟨b, o, none⟩)) 3 = some (.pointer (some ⟨b, o + 3, none⟩)) := by kernel_rfl
-- makeSlice 23
@[go_sem] theorem ld_49 {H : Heap} {a : Addr} : loadA Try.prog H 49 (.pointer (some a)) = (H.loads a 2).map fun l => .agg l.toArray := by kernel_rfl
@[go_sem] theorem bd_49 {l : List (Nat × Value)} : buildA Try.prog 49 l = buildS [(0, 1), (1, 1)] #[(.int .i64 0), (.int .i64 0)] l := by kernel_rfl
-- binOp Go.BinOp.eql 49
@[go_sem] theorem ia_22 {b o n c : Nat} {k : IntKind} {i : Int} : indexAddrA Try.prog 22 (.slice (some ⟨b, o, none⟩) n c) (.int k i) = (if (false || decide (c = 0)) = true then none else if 0 ≤ i ∧ i < (n : Int) then some (.pointer (some ⟨b, o + i.toNat * 1, none⟩)) else none) := by kernel_rfl
@[go_sem] theorem ld_45 {H : Heap} {a : Addr} : loadA Try.prog H 45 (.pointer (some a)) = H.load1 a := by kernel_rfl
@[go_sem] theorem sl_45 {H : Heap} {a : Option Addr} {n c : Nat} {lo hi mx : Option Value} : sliceA Try.prog H 45 (.slice a n c) lo hi mx = sliceS H 4 a n c lo hi mx := by kernel_rfl
@[go_sem] theorem ld_47 {H : Heap} {a : Addr} : loadA Try.prog H 47 (.pointer (some a)) = (H.loads a 4).map fun l => .agg l.toArray := by kernel_rfl
@[go_sem] theorem zr_47 : zeroA Try.prog 47 = some (.agg #[(.int .i64 0), (.int .i64 0), (.int .i64 0), (.int .i64 0)]) := by kernel_rfl
@[go_sem] theorem st_47 {H : Heap} {a : Addr} {v : Value} : storeA Try.prog H 47 (.pointer (some a)) v = if v.cells.size = 4 then H.stores a v.cells.toList else none := by kernel_rfl
@[go_sem] theorem bd_33 {l : List (Nat × Value)} : buildA Try.prog 33 l = buildS [(0, 1), (1, 1), (2, 1), (3, 1), (4, 1)] #[(.int .i64 0), (.slice none 0 0), (.slice none 0 0), (.slice none 0 0), (.slice none 0 0)] l := by kernel_rfl
@[go_sem] theorem fa_66_6 {b o : Nat} : fieldAddrA Try.prog 66 (.pointer (some ⟨b, o, none⟩)) 6 = some (.pointer (some ⟨b, o + 22, none⟩)) := by kernel_rfl
@[go_sem] theorem fa_66_0 {b o : Nat} : fieldAddrA Try.prog 66 (.pointer (some ⟨b, o, none⟩)) 0 = some (.pointer (some ⟨b, o, none⟩)) := by kernel_rfl
@[go_sem] theorem ld_60 {H : Heap} {a : Addr} : loadA Try.prog H 60 (.pointer (some a)) = H.load1 a := by kernel_rfl
@[go_sem] theorem ia_60 {b o n c : Nat} {k : IntKind} {i : Int} : indexAddrA Try.prog 60 (.slice (some ⟨b, o, none⟩) n c) (.int k i) = (if (false || decide (c = 0)) = true then none else if 0 ≤ i ∧ i < (n : Int) then some (.pointer (some ⟨b, o + i.toNat * 6, none⟩)) else none) := by kernel_rfl
@[go_sem] theorem fa_68_1 {b o : Nat} : fieldAddrA Try.prog 68 (.pointer (some ⟨b, o, none⟩)) 1 = some (.pointer (some ⟨b, o + 1, none⟩)) := by kernel_rfl
@[go_sem] theorem bs_28_1 {l : List (Nat × Value)} : buildSliceA Try.prog 28 1 l = bslS 39 2 1 [(.int .i64 0), (.int .i64 0)] l := by kernel_rfl
@[go_sem] theorem ap_28_28 {H : Heap} {a : Option Addr} {n c : Nat} {x : Value} : appendA Try.prog H 28 28 (.slice a n c) x = appS H 39 2 16 a n c x := by kernel_rfl
@[go_sem] theorem st_28 {H : Heap} {a : Addr} {v : Value} : storeA Try.prog H 28 (.pointer (some a)) v = if v.cells.size = 1 then H.stores a v.cells.toList else none := by kernel_rfl
@[go_sem] theorem st_3 {H : Heap} {a : Addr} {v : Value} : storeA Try.prog H 3 (.pointer (some a)) v = if v.cells.size = 1 then H.stores a v.cells.toList else none := by kernel_rfl
@[go_sem] theorem fa_66_4 {b o : Nat} : fieldAddrA Try.prog 66 (.pointer (some ⟨b, o, none⟩)) 4 = some (.pointer (some ⟨b, o + 13, none⟩)) := by kernel_rfl
@[go_sem] theorem sl_64 {H : Heap} {b o : Nat} {lo hi mx : Option Value} : sliceA Try.prog H 64 (.pointer (some ⟨b, o, none⟩)) lo hi mx = sliceR 8 1 b o lo hi mx := by kernel_rfl
@[go_sem] theorem ap_29_29 {H : Heap} {a : Option Addr} {n c : Nat} {x : Value} : appendA Try.prog H 29 29 (.slice a n c) x = appS H 2 1 8 a n c x := by kernel_rfl
@[go_sem] theorem st_29 {H : Heap} {a : Addr} {v : Value} : storeA Try.prog H 29 (.pointer (some a)) v = if v.cells.size = 1 then H.stores a v.cells.toList else none := by kernel_rfl
@[go_sem] theorem fa_66_3 {b o : Nat} : fieldAddrA Try.prog 66 (.pointer (some ⟨b, o, none⟩)) 3 = some (.pointer (some ⟨b, o + 9, none⟩)) := by kernel_rfl
@[go_sem] theorem ia_63 {b o : Nat} {k : IntKind} {i : Int} : indexAddrA Try.prog 63 (.pointer (some ⟨b, o, none⟩)) (.int k i) = (if 0 ≤ i ∧ i < (4 : Int) then some (.pointer (some ⟨b, o + i.toNat * 1, none⟩)) else none) := by kernel_rfl
@[go_sem] theorem bs_31_1 {l : List (Nat × Value)} : buildSliceA Try.prog 31 1 l = bslS 29 1 1 [(.slice none 0 0)] l := by kernel_rfl
@[go_sem] theorem ap_31_31 {H : Heap} {a : Option Addr} {n c : Nat} {x : Value} : appendA Try.prog H 31 31 (.slice a n c) x = appS H 29 1 24 a n c x := by kernel_rfl
@[go_sem] theorem st_31 {H : Heap} {a : Addr} {v : Value} : storeA Try.prog H 31 (.pointer (some a)) v = if v.cells.size = 1 then H.stores a v.cells.toList else none := by kernel_rfl
@[go_sem] theorem ln_60 {a : Option Addr} {n c : Nat} : lenA Try.prog 60 (.slice a n c) = some (goInt n) := by kernel_rfl
@[go_sem] theorem fa_68_4 {b o : Nat} : fieldAddrA Try.prog 68 (.pointer (some ⟨b, o, none⟩)) 4 = some (.pointer (some ⟨b, o + 4, none⟩)) := by kernel_rfl
@[go_sem] theorem fa_68_5 {b o : Nat} : fieldAddrA Try.prog 68 (.pointer (some ⟨b, o, none⟩)) 5 = some (.pointer (some ⟨b, o + 5, none⟩)) := by kernel_rfl
@[go_sem] theorem zr_49 : zeroA Try.prog 49 = some (.agg #[(.int .i64 0), (.int .i64 0)]) := by kernel_rfl
@[go_sem] theorem st_49 {H : Heap} {a : Addr} {v : Value} : storeA Try.prog H 49 (.pointer (some a)) v = if v.cells.size = 2 then H.stores a v.cells.toList else none := by kernel_rfl
@[go_sem] theorem bs_30_1 {l : List (Nat × Value)} : buildSliceA Try.prog 30 1 l = bslS 49 2 1 [(.int .i64 0), (.int .i64 0)] l := by kernel_rfl
@[go_sem] theorem ap_30_30 {H : Heap} {a : Option Addr} {n c : Nat} {x : Value} : appendA Try.prog H 30 30 (.slice a n c) x = appS H 49 2 16 a n c x := by kernel_rfl
@[go_sem] theorem st_30 {H : Heap} {a : Addr} {v : Value} : storeA Try.prog H 30 (.pointer (some a)) v = if v.cells.size = 1 then H.stores a v.cells.toList else none := by kernel_rfl
@[go_sem] theorem fa_76_7 {b o : Nat} : fieldAddrA Try.prog 76 (.pointer (some ⟨b, o, none⟩)) 7 = some (.pointer (some ⟨b, o + 23, none⟩)) := by kernel_rfl
@[go_sem] theorem fa_76_5 {b o : Nat} : fieldAddrA Try.prog 76 (.pointer (some ⟨b, o, none⟩)) 5 = some (.pointer (some ⟨b, o + 14, none⟩)) := by kernel_rfl
@[go_sem] theorem fa_76_4 {b o : Nat} : fieldAddrA Try.prog 76 (.pointer (some ⟨b, o, none⟩)) 4 = some (.pointer (some ⟨b, o + 10, none⟩)) := by kernel_rfl
@[go_sem] theorem ld_63 {H : Heap} {a : Addr} : loadA Try.prog H 63 (.pointer (some a)) = (H.loads a 4).map fun l => .agg l.toArray := by kernel_rfl
-- index 63
@[go_sem] theorem fa_76_0 {b o : Nat} : fieldAddrA Try.prog 76 (.pointer (some ⟨b, o, none⟩)) 0 = some (.pointer (some ⟨b, o, none⟩)) := by kernel_rfl
@[go_sem] theorem ld_74 {H : Heap} {a : Addr} : loadA Try.prog H 74 (.pointer (some a)) = H.load1 a := by kernel_rfl
@[go_sem] theorem ln_74 {a : Option Addr} {n c : Nat} : lenA Try.prog 74 (.slice a n c) = some (goInt n) := by kernel_rfl
@[go_sem] theorem ia_74 {b o n c : Nat} {k : IntKind} {i : Int} : indexAddrA Try.prog 74 (.slice (some ⟨b, o, none⟩) n c) (.int k i) = (if (false || decide (c = 0)) = true then none else if 0 ≤ i ∧ i < (n : Int) then some (.pointer (some ⟨b, o + i.toNat * 1, none⟩)) else none) := by kernel_rfl
@[go_sem] theorem ld_77 {H : Heap} {a : Addr} : loadA Try.prog H 77 (.pointer (some a)) = H.load1 a := by kernel_rfl
@[go_sem] theorem fa_80_5 {b o : Nat} : fieldAddrA Try.prog 80 (.pointer (some ⟨b, o, none⟩)) 5 = some (.pointer (some ⟨b, o + 5, none⟩)) := by kernel_rfl
-- binOp Go.BinOp.neq 39
-- binOp Go.BinOp.neq 49
-- binOp Go.BinOp.neq 47
@[go_sem] theorem zr_4 : zeroA Try.prog 4 = some (.bool false) := by kernel_rfl
@[go_sem] theorem st_4 {H : Heap} {a : Addr} {v : Value} : storeA Try.prog H 4 (.pointer (some a)) v = if v.cells.size = 1 then H.stores a v.cells.toList else none := by kernel_rfl
@[go_sem] theorem fa_47_1 {b o : Nat} : fieldAddrA Try.prog 47 (.pointer (some ⟨b, o, none⟩)) 1 = some (.pointer (some ⟨b, o + 1, none⟩)) := by kernel_rfl
@[go_sem] theorem fa_47_2 {b o : Nat} : fieldAddrA Try.prog 47 (.pointer (some ⟨b, o, none⟩)) 2 = some (.pointer (some ⟨b, o + 2, none⟩)) := by kernel_rfl
@[go_sem] theorem ld_4 {H : Heap} {a : Addr} : loadA Try.prog H 4 (.pointer (some a)) = H.load1 a := by kernel_rfl
-- binOp Go.BinOp.eql 47
@[go_sem] theorem bd_86 {l : List (Nat × Value)} : buildA Try.prog 86 l = buildS [(0, 1), (1, 1), (2, 1)] #[(.int .i64 0), (.int .i64 0), (.int .i64 0)] l := by kernel_rfl
@[go_sem] theorem zr_86 : zeroA Try.prog 86 = some (.agg #[(.int .i64 0), (.int .i64 0), (.int .i64 0)]) := by kernel_rfl
@[go_sem] theorem st_86 {H : Heap} {a : Addr} {v : Value} : storeA Try.prog H 86 (.pointer (some a)) v = if v.cells.size = 3 then H.stores a v.cells.toList else none := by kernel_rfl
@[go_sem] theorem fa_86_2 {b o : Nat} : fieldAddrA Try.prog 86 (.pointer (some ⟨b, o, none⟩)) 2 = some (.pointer (some ⟨b, o + 2, none⟩)) := by kernel_rfl
@[go_sem] theorem fa_86_0 {b o : Nat} : fieldAddrA Try.prog 86 (.pointer (some ⟨b, o, none⟩)) 0 = some (.pointer (some ⟨b, o, none⟩)) := by kernel_rfl
@[go_sem] theorem fa_86_1 {b o : Nat} : fieldAddrA Try.prog 86 (.pointer (some ⟨b, o, none⟩)) 1 = some (.pointer (some ⟨b, o + 1, none⟩)) := by kernel_rfl
@[go_sem] theorem bd_66 {l : List (Nat × Value)} : buildA Try.prog 66 l = buildS [(0, 1), (1, 4), (5, 4), (9, 4), (13, 8), (21, 1), (22, 1)] #[(.slice none 0 0), (.int .i64 0), (.int .i64 0), (.int .i64 0), (.int .i64 0), (.slice none 0 0), (.slice none 0 0), (.slice none 0 0), (.slice none 0 0), (.slice none 0 0), (.slice none 0 0), (.slice none 0 0), (.slice none 0 0), (.int .i64 0), (.int .i64 0), (.int .i64 0), (.int .i64 0), (.int .i64 0), (.int .i64 0), (.int .i64 0), (.int .i64 0), (.int .i64 0), (.int .i64 0)] l := by kernel_rfl
@[go_sem] theorem bd_68 {l : List (Nat × Value)} : buildA Try.prog 68 l = buildS [(0, 1), (1, 1), (2, 1), (3, 1), (4, 1), (5, 1)] #[(.slice none 0 0), (.int .i64 0), (.int .i64 0), (.int .i64 0), (.int .i64 0), (.int .i64 0)] l := by kernel_rfl
@[go_sem] theorem zr_68 : zeroA Try.prog 68 = some (.agg #[(.slice none 0 0), (.int .i64 0), (.int .i64 0), (.int .i64 0), (.int .i64 0), (.int .i64 0)]) := by kernel_rfl
@[go_sem] theorem st_68 {H : Heap} {a : Addr} {v : Value} : storeA Try.prog H 68 (.pointer (some a)) v = if v.cells.size = 6 then H.stores a v.cells.toList else none := by kernel_rfl
@[go_sem] theorem ld_68 {H : Heap} {a : Addr} : loadA Try.prog H 68 (.pointer (some a)) = (H.loads a 6).map fun l => .agg l.toArray := by kernel_rfl
@[go_sem] theorem bs_60_1 {l : List (Nat × Value)} : buildSliceA Try.prog 60 1 l = bslS 68 6 1 [(.slice none 0 0), (.int .i64 0), (.int .i64 0), (.int .i64 0), (.int .i64 0), (.int .i64 0)] l := by kernel_rfl
@[go_sem] theorem ap_60_60 {H : Heap} {a : Option Addr} {n c : Nat} {x : Value} : appendA Try.prog H 60 60 (.slice a n c) x = appS H 68 6 64 a n c x := by kernel_rfl
@[go_sem] theorem st_60 {H : Heap} {a : Addr} {v : Value} : storeA Try.prog H 60 (.pointer (some a)) v = if v.cells.size = 1 then H.stores a v.cells.toList else none := by kernel_rfl
@[go_sem] theorem bs_23_1 {l : List (Nat × Value)} : buildSliceA Try.prog 23 1 l = bslS 3 1 1 [(.int .i64 0)] l := by kernel_rfl
@[go_sem] theorem fa_68_0 {b o : Nat} : fieldAddrA Try.prog 68 (.pointer (some ⟨b, o, none⟩)) 0 = some (.pointer (some ⟨b, o, none⟩)) := by kernel_rfl
@[go_sem] theorem fa_66_1 {b o : Nat} : fieldAddrA Try.prog 66 (.pointer (some ⟨b, o, none⟩)) 1 = some (.pointer (some ⟨b, o + 1, none⟩)) := by kernel_rfl
@[go_sem] theorem ia_61 {b o : Nat} {k : IntKind} {i : Int} : indexAddrA Try.prog 61 (.pointer (some ⟨b, o, none⟩)) (.int k i) = (if 0 ≤ i ∧ i < (4 : Int) then some (.pointer (some ⟨b, o + i.toNat * 1, none⟩)) else none) := by kernel_rfl
@[go_sem] theorem bs_29_1 {l : List (Nat × Value)} : buildSliceA Try.prog 29 1 l = bslS 2 1 1 [(.int .i64 0)] l := by kernel_rfl
@[go_sem] theorem ia_64 {b o : Nat} {k : IntKind} {i : Int} : indexAddrA Try.prog 64 (.pointer (some ⟨b, o, none⟩)) (.int k i) = (if 0 ≤ i ∧ i < (8 : Int) then some (.pointer (some ⟨b, o + i.toNat * 1, none⟩)) else none) := by kernel_rfl
@[go_sem] theorem sl_29 {H : Heap} {a : Option Addr} {n c : Nat} {lo hi mx : Option Value} : sliceA Try.prog H 29 (.slice a n c) lo hi mx = sliceS H 1 a n c lo hi mx := by kernel_rfl
@[go_sem] theorem fa_68_3 {b o : Nat} : fieldAddrA Try.prog 68 (.pointer (some ⟨b, o, none⟩)) 3 = some (.pointer (some ⟨b, o + 3, none⟩)) := by kernel_rfl
@[go_sem] theorem fa_68_2 {b o : Nat} : fieldAddrA Try.prog 68 (.pointer (some ⟨b, o, none⟩)) 2 = some (.pointer (some ⟨b, o + 2, none⟩)) := by kernel_rfl
@[go_sem] theorem fa_66_5 {b o : Nat} : fieldAddrA Try.prog 66 (.pointer (some ⟨b, o, none⟩)) 5 = some (.pointer (some ⟨b, o + 21, none⟩)) := by kernel_rfl
@[go_sem] theorem bd_76 {l : List (Nat × Value)} : buildA Try.prog 76 l = buildS [(0, 1), (1, 1), (2, 4), (6, 4), (10, 4), (14, 8), (22, 1), (23, 1)] #[(.slice none 0 0), (.int .i64 0), (.int .i64 0), (.int .i64 0), (.int .i64 0), (.int .i64 0), (.slice none 0 0), (.slice none 0 0), (.slice none 0 0), (.slice none 0 0), (.slice none 0 0), (.slice none 0 0), (.slice none 0 0), (.slice none 0 0), (.int .i64 0), (.int .i64 0), (.int .i64 0), (.int .i64 0), (.int .i64 0), (.int .i64 0), (.int .i64 0), (.int .i64 0), (.int .i64 0), (.slice none 0 0)] l := by kernel_rfl
@[go_sem] theorem fa_76_2 {b o : Nat} : fieldAddrA Try.prog 76 (.pointer (some ⟨b, o, none⟩)) 2 = some (.pointer (some ⟨b, o + 2, none⟩)) := by kernel_rfl
@[go_sem] theorem bd_80 {l : List (Nat × Value)} : buildA Try.prog 80 l = buildS [(0, 1), (1, 1), (2, 1), (3, 1), (4, 1), (5, 1)] #[(.slice none 0 0), (.int .i64 0), (.int .i64 0), (.int .i64 0), (.bool false), (.int .i64 0)] l := by kernel_rfl
@[go_sem] theorem bs_74_1 {l : List (Nat × Value)} : buildSliceA Try.prog 74 1 l = bslS 77 1 1 [(.pointer none)] l := by kernel_rfl
@[go_sem] theorem ap_74_74 {H : Heap} {a : Option Addr} {n c : Nat} {x : Value} : appendA Try.prog H 74 74 (.slice a n c) x = appS H 77 1 8 a n c x := by kernel_rfl
@[go_sem] theorem st_74 {H : Heap} {a : Addr} {v : Value} : storeA Try.prog H 74 (.pointer (some a)) v = if v.cells.size = 1 then H.stores a v.cells.toList else none := by kernel_rfl
@[go_sem] theorem fa_80_4 {b o : Nat} : fieldAddrA Try.prog 80 (.pointer (some ⟨b, o, none⟩)) 4 = some (.pointer (some ⟨b, o + 4, none⟩)) := by kernel_rfl
@[go_sem] theorem fa_80_3 {b o : Nat} : fieldAddrA Try.prog 80 (.pointer (some ⟨b, o, none⟩)) 3 = some (.pointer (some ⟨b, o + 3, none⟩)) := by kernel_rfl
@[go_sem] theorem fa_76_1 {b o : Nat} : fieldAddrA Try.prog 76 (.pointer (some ⟨b, o, none⟩)) 1 = some (.pointer (some ⟨b, o + 1, none⟩)) := by kernel_rfl
@[go_sem] theorem fa_66_2 {b o : Nat} : fieldAddrA Try.prog 66 (.pointer (some ⟨b, o, none⟩)) 2 = some (.pointer (some ⟨b, o + 5, none⟩)) := by kernel_rfl
@[go_sem] theorem ia_62 {b o : Nat} {k : IntKind} {i : Int} : indexAddrA Try.prog 62 (.pointer (some ⟨b, o, none⟩)) (.int k i) = (if 0 ≤ i ∧ i < (4 : Int) then some (.pointer (some ⟨b, o + i.toNat * 1, none⟩)) else none) := by kernel_rfl
@[go_sem] theorem ld_23 {H : Heap} {a : Addr} : loadA Try.prog H 23 (.pointer (some a)) = H.load1 a := by kernel_rfl
@[go_sem] theorem st_23 {H : Heap} {a : Addr} {v : Value} : storeA Try.prog H 23 (.pointer (some a)) v = if v.cells.size = 1 then H.stores a v.cells.toList else none := by kernel_rfl
@[go_sem] theorem ld_71 {H : Heap} {a : Addr} : loadA Try.prog H 71 (.pointer (some a)) = H.load1 a := by kernel_rfl
@[go_sem] theorem zr_77 : zeroA Try.prog 77 = some (.pointer none) := by kernel_rfl
@[go_sem] theorem st_77 {H : Heap} {a : Addr} {v : Value} : storeA Try.prog H 77 (.pointer (some a)) v = if v.cells.size = 1 then H.stores a v.cells.toList else none := by kernel_rfl
@[go_sem] theorem fa_80_1 {b o : Nat} : fieldAddrA Try.prog 80 (.pointer (some ⟨b, o, none⟩)) 1 = some (.pointer (some ⟨b, o + 1, none⟩)) := by kernel_rfl
@[go_sem] theorem fa_76_6 {b o : Nat} : fieldAddrA Try.prog 76 (.pointer (some ⟨b, o, none⟩)) 6 = some (.pointer (some ⟨b, o + 22, none⟩)) := by kernel_rfl
@[go_sem] theorem fa_80_0 {b o : Nat} : fieldAddrA Try.prog 80 (.pointer (some ⟨b, o, none⟩)) 0 = some (.pointer (some ⟨b, o, none⟩)) := by kernel_rfl
-- binOp Go.BinOp.eql 20
-- typeAssert 20 95 true
@[go_sem] theorem zr_95 : zeroA Try.prog 95 = some (.agg #[(.int .i64 0)]) := by kernel_rfl
@[go_sem] theorem st_95 {H : Heap} {a : Addr} {v : Value} : storeA Try.prog H 95 (.pointer (some a)) v = if v.cells.size = 1 then H.stores a v.cells.toList else none := by kernel_rfl
@[go_sem] theorem fa_95_0 {b o : Nat} : fieldAddrA Try.prog 95 (.pointer (some ⟨b, o, none⟩)) 0 = some (.pointer (some ⟨b, o, none⟩)) := by kernel_rfl
@[go_sem] theorem fa_80_2 {b o : Nat} : fieldAddrA Try.prog 80 (.pointer (some ⟨b, o, none⟩)) 2 = some (.pointer (some ⟨b, o + 2, none⟩)) := by kernel_rfl
@[go_sem] theorem fa_76_3 {b o : Nat} : fieldAddrA Try.prog 76 (.pointer (some ⟨b, o, none⟩)) 3 = some (.pointer (some ⟨b, o + 6, none⟩)) := by kernel_rfl
@[go_sem] theorem bd_95 {l : List (Nat × Value)} : buildA Try.prog 95 l = buildS [(0, 1)] #[(.int .i64 0)] l := by kernel_rfl
@[go_sem] theorem mi_95 {v : Value} : makeInterfaceA Try.prog 95 v = some (.iface 95 v) := by kernel_rfl
end Go.Am.T
