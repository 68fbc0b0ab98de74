/- Lemmas for the theorem of the last text: parts TryTab to SdJ of it. Conditions: those of each theorem. -/
import Derived.Test.YthanhcpnhionaaaAlC
set_option linter.all false
set_option linter.unusedSimpArgs false
set_option linter.unusedVariables false
namespace Go.Am.T
open Go Go.Am Go.Proofs.Ythanhcpnhionaaa Go.Proofs
set_option maxRecDepth 20000
@[go_sem] theorem ln_22 {a : Option Addr} {n c : Nat} : lenA Try.prog 22 (.slice a n c) = some (goInt n) := by kernel_rfl
@[go_sem] theorem ln_23 {a : Option Addr} {n c : Nat} : lenA Try.prog 23 (.slice a n c) = some (goInt n) := by kernel_rfl
@[go_sem] theorem zr_33 : zeroA Try.prog 33 = some (.agg #[(.int .i64 0), (.slice none 0 0), (.slice none 0 0), (.slice none 0 0), (.slice none 0 0)]) := by kernel_rfl
@[go_sem] theorem st_33 {H : Heap} {a : Addr} {v : Value} : storeA Try.prog H 33 (.pointer (some a)) v = if v.cells.size = 5 then H.stores a v.cells.toList else none := by kernel_rfl
@[go_sem] theorem ld_33 {H : Heap} {a : Addr} : loadA Try.prog H 33 (.pointer (some a)) = (H.loads a 5).map fun l => .agg l.toArray := by kernel_rfl
@[go_sem] theorem fa_33_1 {b o : Nat} : fieldAddrA Try.prog 33 (.pointer (some ⟨b, o, none⟩)) 1 = some (.pointer (some ⟨b, o + 1, none⟩)) := by kernel_rfl
@[go_sem] theorem ld_28 {H : Heap} {a : Addr} : loadA Try.prog H 28 (.pointer (some a)) = H.load1 a := by kernel_rfl
@[go_sem] theorem ln_28 {a : Option Addr} {n c : Nat} : lenA Try.prog 28 (.slice a n c) = some (goInt n) := by kernel_rfl
@[go_sem] theorem bd_39 {l : List (Nat × Value)} : buildA Try.prog 39 l = buildS [(0, 1), (1, 1)] #[(.int .i64 0), (.int .i64 0)] l := by kernel_rfl
@[go_sem] theorem ia_28 {b o n c : Nat} {k : IntKind} {i : Int} : indexAddrA Try.prog 28 (.slice (some ⟨b, o, none⟩) n c) (.int k i) = (if (false || decide (c = 0)) = true then none else if 0 ≤ i ∧ i < (n : Int) then some (.pointer (some ⟨b, o + i.toNat * 2, none⟩)) else none) := by kernel_rfl
@[go_sem] theorem st_39 {H : Heap} {a : Addr} {v : Value} : storeA Try.prog H 39 (.pointer (some a)) v = if v.cells.size = 2 then H.stores a v.cells.toList else none := by kernel_rfl
@[go_sem] theorem fa_33_4 {b o : Nat} : fieldAddrA Try.prog 33 (.pointer (some ⟨b, o, none⟩)) 4 = some (.pointer (some ⟨b, o + 4, none⟩)) := by kernel_rfl
@[go_sem] theorem ld_31 {H : Heap} {a : Addr} : loadA Try.prog H 31 (.pointer (some a)) = H.load1 a := by kernel_rfl
@[go_sem] theorem ln_31 {a : Option Addr} {n c : Nat} : lenA Try.prog 31 (.slice a n c) = some (goInt n) := by kernel_rfl
@[go_sem] theorem ia_31 {b o n c : Nat} {k : IntKind} {i : Int} : indexAddrA Try.prog 31 (.slice (some ⟨b, o, none⟩) n c) (.int k i) = (if (false || decide (c = 0)) = true then none else if 0 ≤ i ∧ i < (n : Int) then some (.pointer (some ⟨b, o + i.toNat * 1, none⟩)) else none) := by kernel_rfl
@[go_sem] theorem ld_29 {H : Heap} {a : Addr} : loadA Try.prog H 29 (.pointer (some a)) = H.load1 a := by kernel_rfl
@[go_sem] theorem ln_29 {a : Option Addr} {n c : Nat} : lenA Try.prog 29 (.slice a n c) = some (goInt n) := by kernel_rfl
@[go_sem] theorem ia_29 {b o n c : Nat} {k : IntKind} {i : Int} : indexAddrA Try.prog 29 (.slice (some ⟨b, o, none⟩) n c) (.int k i) = (if (false || decide (c = 0)) = true then none else if 0 ≤ i ∧ i < (n : Int) then some (.pointer (some ⟨b, o + i.toNat * 1, none⟩)) else none) := by kernel_rfl
@[go_sem] theorem st_2 {H : Heap} {a : Addr} {v : Value} : storeA Try.prog H 2 (.pointer (some a)) v = if v.cells.size = 1 then H.stores a v.cells.toList else none := by kernel_rfl
@[go_sem] theorem ia_23 {b o n c : Nat} {k : IntKind} {i : Int} : indexAddrA Try.prog 23 (.slice (some ⟨b, o, none⟩) n c) (.int k i) = (if (false || decide (c = 0)) = true then none else if 0 ≤ i ∧ i < (n : Int) then some (.pointer (some ⟨b, o + i.toNat * 1, none⟩)) else none) := by kernel_rfl
@[go_sem] theorem ld_3 {H : Heap} {a : Addr} : loadA Try.prog H 3 (.pointer (some a)) = H.load1 a := by kernel_rfl
@[go_sem] theorem fa_33_0 {b o : Nat} : fieldAddrA Try.prog 33 (.pointer (some ⟨b, o, none⟩)) 0 = some (.pointer (some ⟨b, o, none⟩)) := by kernel_rfl
@[go_sem] theorem ld_39 {H : Heap} {a : Addr} : loadA Try.prog H 39 (.pointer (some a)) = (H.loads a 2).map fun l => .agg l.toArray := by kernel_rfl
-- binOp Go.BinOp.neq 39
@[go_sem] theorem sl_23 {H : Heap} {a : Option Addr} {n c : Nat} {lo hi mx : Option Value} : sliceA Try.prog H 23 (.slice a n c) lo hi mx = sliceS H 1 a n c lo hi mx := by kernel_rfl
@[go_sem] theorem fa_39_0 {b o : Nat} : fieldAddrA Try.prog 39 (.pointer (some ⟨b, o, none⟩)) 0 = some (.pointer (some ⟨b, o, none⟩)) := by kernel_rfl
@[go_sem] theorem ap_23_23 {H : Heap} {a : Option Addr} {n c : Nat} {x : Value} : appendA Try.prog H 23 23 (.slice a n c) x = appS H 3 1 8 a n c x := by kernel_rfl
@[go_sem] theorem bd_47 {l : List (Nat × Value)} : buildA Try.prog 47 l = buildS [(0, 1), (1, 1), (2, 1), (3, 1)] #[(.int .i64 0), (.int .i64 0), (.int .i64 0), (.int .i64 0)] l := by kernel_rfl
@[go_sem] theorem bs_45_2 {l : List (Nat × Value)} : buildSliceA Try.prog 45 2 l = bslS 47 4 2 [(.int .i64 0), (.int .i64 0), (.int .i64 0), (.int .i64 0)] l := by kernel_rfl
@[go_sem] theorem ap_45_45 {H : Heap} {a : Option Addr} {n c : Nat} {x : Value} : appendA Try.prog H 45 45 (.slice a n c) x = appS H 47 4 32 a n c x := by kernel_rfl
@[go_sem] theorem bs_45_1 {l : List (Nat × Value)} : buildSliceA Try.prog 45 1 l = bslS 47 4 1 [(.int .i64 0), (.int .i64 0), (.int .i64 0), (.int .i64 0)] l := by kernel_rfl
@[go_sem] theorem bs_45_3 {l : List (Nat × Value)} : buildSliceA Try.prog 45 3 l = bslS 47 4 3 [(.int .i64 0), (.int .i64 0), (.int .i64 0), (.int .i64 0)] l := by kernel_rfl
@[go_sem] theorem bs_22_1 {l : List (Nat × Value)} : buildSliceA Try.prog 22 1 l = bslS 45 1 1 [(.slice none 0 0)] l := by kernel_rfl
@[go_sem] theorem ap_22_22 {H : Heap} {a : Option Addr} {n c : Nat} {x : Value} : appendA Try.prog H 22 22 (.slice a n c) x = appS H 45 1 24 a n c x := by kernel_rfl
@[go_sem] theorem fa_33_2 {b o : Nat} : fieldAddrA Try.prog 33 (.pointer (some ⟨b, o, none⟩)) 2 = some (.pointer (some ⟨b, o + 2, none⟩)) := by kernel_rfl
@[go_sem] theorem fa_33_3 {b o : Nat} : fieldAddrA Try.prog 33 (.pointer (some ⟨b, o, none⟩)) 3 = some (.pointer (some ⟨b, o + 3, none⟩)) := by kernel_rfl
@[go_sem] theorem ld_30 {H : Heap} {a : Addr} : loadA Try.prog H 30 (.pointer (some a)) = H.load1 a := by kernel_rfl
@[go_sem] theorem ln_30 {a : Option Addr} {n c : Nat} : lenA Try.prog 30 (.slice a n c) = some (goInt n) := by kernel_rfl
@[go_sem] theorem ia_30 {b o n c : Nat} {k : IntKind} {i : Int} : indexAddrA Try.prog 30 (.slice (some ⟨b, o, none⟩) n c) (.int k i) = (if (false || decide (c = 0)) = true then none else if 0 ≤ i ∧ i < (n : Int) then some (.pointer (some ⟨b, o + i.toNat * 2, none⟩)) else none) := by kernel_rfl
@[go_sem] theorem fa_49_0 {b o : Nat} : fieldAddrA Try.prog 49 (.pointer (some ⟨b, o, none⟩)) 0 = some (.pointer (some ⟨b, o, none⟩)) := by kernel_rfl
@[go_sem] theorem ld_2 {H : Heap} {a : Addr} : loadA Try.prog H 2 (.pointer (some a)) = H.load1 a := by kernel_rfl
@[go_sem] theorem bs_22_2 {l : List (Nat × Value)} : buildSliceA Try.prog 22 2 l = bslS 45 1 2 [(.slice none 0 0)] l := by kernel_rfl
@[go_sem] theorem bs_45_5 {l : List (Nat × Value)} : buildSliceA Try.prog 45 5 l = bslS 47 4 5 [(.int .i64 0), (.int .i64 0), (.int .i64 0), (.int .i64 0)] l := by kernel_rfl
@[go_sem] theorem ln_45 {a : Option Addr} {n c : Nat} : lenA Try.prog 45 (.slice a n c) = some (goInt n) := by kernel_rfl
@[go_sem] theorem ia_45 {b o n c : Nat} {k : IntKind} {i : Int} : indexAddrA Try.prog 45 (.slice (some ⟨b, o, none⟩) n c) (.int k i) = (if (false || decide (c = 0)) = true then none else if 0 ≤ i ∧ i < (n : Int) then some (.pointer (some ⟨b, o + i.toNat * 4, none⟩)) else none) := by kernel_rfl
@[go_sem] theorem fa_47_0 {b o : Nat} : fieldAddrA Try.prog 47 (.pointer (some ⟨b, o, none⟩)) 0 = some (.pointer (some ⟨b, o, none⟩)) := by kernel_rfl
@[go_sem] theorem fa_47_3 {b o : Nat} : fieldAddrA Try.prog 47 (.pointer (some ⟨b, o, none⟩)) 3 = some (.pointer (some ⟨b, o + 3, none⟩)) := by kernel_rfl
-- makeSlice 23
@[go_sem] theorem ld_49 {H : Heap} {a : Addr} : loadA Try.prog H 49 (.pointer (some a)) = (H.loads a 2).map fun l => .agg l.toArray := by kernel_rfl
@[go_sem] theorem bd_49 {l : List (Nat × Value)} : buildA Try.prog 49 l = buildS [(0, 1), (1, 1)] #[(.int .i64 0), (.int .i64 0)] l := by kernel_rfl
-- binOp Go.BinOp.eql 49
@[go_sem] theorem ia_22 {b o n c : Nat} {k : IntKind} {i : Int} : indexAddrA Try.prog 22 (.slice (some ⟨b, o, none⟩) n c) (.int k i) = (if (false || decide (c = 0)) = true then none else if 0 ≤ i ∧ i < (n : Int) then some (.pointer (some ⟨b, o + i.toNat * 1, none⟩)) else none) := by kernel_rfl
@[go_sem] theorem ld_45 {H : Heap} {a : Addr} : loadA Try.prog H 45 (.pointer (some a)) = H.load1 a := by kernel_rfl
@[go_sem] theorem sl_45 {H : Heap} {a : Option Addr} {n c : Nat} {lo hi mx : Option Value} : sliceA Try.prog H 45 (.slice a n c) lo hi mx = sliceS H 4 a n c lo hi mx := by kernel_rfl
@[go_sem] theorem ld_47 {H : Heap} {a : Addr} : loadA Try.prog H 47 (.pointer (some a)) = (H.loads a 4).map fun l => .agg l.toArray := by kernel_rfl
@[go_sem] theorem zr_47 : zeroA Try.prog 47 = some (.agg #[(.int .i64 0), (.int .i64 0), (.int .i64 0), (.int .i64 0)]) := by kernel_rfl
@[go_sem] theorem st_47 {H : Heap} {a : Addr} {v : Value} : storeA Try.prog H 47 (.pointer (some a)) v = if v.cells.size = 4 then H.stores a v.cells.toList else none := by kernel_rfl
@[go_sem] theorem bd_33 {l : List (Nat × Value)} : buildA Try.prog 33 l = buildS [(0, 1), (1, 1), (2, 1), (3, 1), (4, 1)] #[(.int .i64 0), (.slice none 0 0), (.slice none 0 0), (.slice none 0 0), (.slice none 0 0)] l := by kernel_rfl
@[go_sem] theorem fa_66_6 {b o : Nat} : fieldAddrA Try.prog 66 (.pointer (some ⟨b, o, none⟩)) 6 = some (.pointer (some ⟨b, o + 22, none⟩)) := by kernel_rfl
@[go_sem] theorem fa_66_0 {b o : Nat} : fieldAddrA Try.prog 66 (.pointer (some ⟨b, o, none⟩)) 0 = some (.pointer (some ⟨b, o, none⟩)) := by kernel_rfl
@[go_sem] theorem ld_60 {H : Heap} {a : Addr} : loadA Try.prog H 60 (.pointer (some a)) = H.load1 a := by kernel_rfl
@[go_sem] theorem ia_60 {b o n c : Nat} {k : IntKind} {i : Int} : indexAddrA Try.prog 60 (.slice (some ⟨b, o, none⟩) n c) (.int k i) = (if (false || decide (c = 0)) = true then none else if 0 ≤ i ∧ i < (n : Int) then some (.pointer (some ⟨b, o + i.toNat * 6, none⟩)) else none) := by kernel_rfl
@[go_sem] theorem fa_68_1 {b o : Nat} : fieldAddrA Try.prog 68 (.pointer (some ⟨b, o, none⟩)) 1 = some (.pointer (some ⟨b, o + 1, none⟩)) := by kernel_rfl
@[go_sem] theorem bs_28_1 {l : List (Nat × Value)} : buildSliceA Try.prog 28 1 l = bslS 39 2 1 [(.int .i64 0), (.int .i64 0)] l := by kernel_rfl
@[go_sem] theorem ap_28_28 {H : Heap} {a : Option Addr} {n c : Nat} {x : Value} : appendA Try.prog H 28 28 (.slice a n c) x = appS H 39 2 16 a n c x := by kernel_rfl
@[go_sem] theorem st_28 {H : Heap} {a : Addr} {v : Value} : storeA Try.prog H 28 (.pointer (some a)) v = if v.cells.size = 1 then H.stores a v.cells.toList else none := by kernel_rfl
@[go_sem] theorem st_3 {H : Heap} {a : Addr} {v : Value} : storeA Try.prog H 3 (.pointer (some a)) v = if v.cells.size = 1 then H.stores a v.cells.toList else none := by kernel_rfl
@[go_sem] theorem fa_66_4 {b o : Nat} : fieldAddrA Try.prog 66 (.pointer (some ⟨b, o, none⟩)) 4 = some (.pointer (some ⟨b, o + 13, none⟩)) := by kernel_rfl
@[go_sem] theorem sl_64 {H : Heap} {b o : Nat} {lo hi mx : Option Value} : sliceA Try.prog H 64 (.pointer (some ⟨b, o, none⟩)) lo hi mx = sliceR 8 1 b o lo hi mx := by kernel_rfl
@[go_sem] theorem ap_29_29 {H : Heap} {a : Option Addr} {n c : Nat} {x : Value} : appendA Try.prog H 29 29 (.slice a n c) x = appS H 2 1 8 a n c x := by kernel_rfl
@[go_sem] theorem st_29 {H : Heap} {a : Addr} {v : Value} : storeA Try.prog H 29 (.pointer (some a)) v = if v.cells.size = 1 then H.stores a v.cells.toList else none := by kernel_rfl
@[go_sem] theorem fa_66_3 {b o : Nat} : fieldAddrA Try.prog 66 (.pointer (some ⟨b, o, none⟩)) 3 = some (.pointer (some ⟨b, o + 9, none⟩)) := by kernel_rfl
@[go_sem] theorem ia_63 {b o : Nat} {k : IntKind} {i : Int} : indexAddrA Try.prog 63 (.pointer (some ⟨b, o, none⟩)) (.int k i) = (if 0 ≤ i ∧ i < (4 : Int) then some (.pointer (some ⟨b, o + i.toNat * 1, none⟩)) else none) := by kernel_rfl
@[go_sem] theorem bs_31_1 {l : List (Nat × Value)} : buildSliceA Try.prog 31 1 l = bslS 29 1 1 [(.slice none 0 0)] l := by kernel_rfl
@[go_sem] theorem ap_31_31 {H : Heap} {a : Option Addr} {n c : Nat} {x : Value} : appendA Try.prog H 31 31 (.slice a n c) x = appS H 29 1 24 a n c x := by kernel_rfl
@[go_sem] theorem st_31 {H : Heap} {a : Addr} {v : Value} : storeA Try.prog H 31 (.pointer (some a)) v = if v.cells.size = 1 then H.stores a v.cells.toList else none := by kernel_rfl
@[go_sem] theorem ln_60 {a : Option Addr} {n c : Nat} : lenA Try.prog 60 (.slice a n c) = some (goInt n) := by kernel_rfl
@[go_sem] theorem fa_68_4 {b o : Nat} : fieldAddrA Try.prog 68 (.pointer (some ⟨b, o, none⟩)) 4 = some (.pointer (some ⟨b, o + 4, none⟩)) := by kernel_rfl
@[go_sem] theorem fa_68_5 {b o : Nat} : fieldAddrA Try.prog 68 (.pointer (some ⟨b, o, none⟩)) 5 = some (.pointer (some ⟨b, o + 5, none⟩)) := by kernel_rfl
@[go_sem] theorem zr_49 : zeroA Try.prog 49 = some (.agg #[(.int .i64 0), (.int .i64 0)]) := by kernel_rfl
@[go_sem] theorem st_49 {H : Heap} {a : Addr} {v : Value} : storeA Try.prog H 49 (.pointer (some a)) v = if v.cells.size = 2 then H.stores a v.cells.toList else none := by kernel_rfl
@[go_sem] theorem bs_30_1 {l : List (Nat × Value)} : buildSliceA Try.prog 30 1 l = bslS 49 2 1 [(.int .i64 0), (.int .i64 0)] l := by kernel_rfl
@[go_sem] theorem ap_30_30 {H : Heap} {a : Option Addr} {n c : Nat} {x : Value} : appendA Try.prog H 30 30 (.slice a n c) x = appS H 49 2 16 a n c x := by kernel_rfl
@[go_sem] theorem st_30 {H : Heap} {a : Addr} {v : Value} : storeA Try.prog H 30 (.pointer (some a)) v = if v.cells.size = 1 then H.stores a v.cells.toList else none := by kernel_rfl
@[go_sem] theorem fa_76_7 {b o : Nat} : fieldAddrA Try.prog 76 (.pointer (some ⟨b, o, none⟩)) 7 = some (.pointer (some ⟨b, o + 23, none⟩)) := by kernel_rfl
@[go_sem] theorem fa_76_5 {b o : Nat} : fieldAddrA Try.prog 76 (.pointer (some ⟨b, o, none⟩)) 5 = some (.pointer (some ⟨b, o + 14, none⟩)) := by kernel_rfl
@[go_sem] theorem fa_76_4 {b o : Nat} : fieldAddrA Try.prog 76 (.pointer (some ⟨b, o, none⟩)) 4 = some (.pointer (some ⟨b, o + 10, none⟩)) := by kernel_rfl
@[go_sem] theorem ld_63 {H : Heap} {a : Addr} : loadA Try.prog H 63 (.pointer (some a)) = (H.loads a 4).map fun l => .agg l.toArray := by kernel_rfl
-- index 63
@[go_sem] theorem fa_76_0 {b o : Nat} : fieldAddrA Try.prog 76 (.pointer (some ⟨b, o, none⟩)) 0 = some (.pointer (some ⟨b, o, none⟩)) := by kernel_rfl
@[go_sem] theorem ld_74 {H : Heap} {a : Addr} : loadA Try.prog H 74 (.pointer (some a)) = H.load1 a := by kernel_rfl
@[go_sem] theorem ln_74 {a : Option Addr} {n c : Nat} : lenA Try.prog 74 (.slice a n c) = some (goInt n) := by kernel_rfl
@[go_sem] theorem ia_74 {b o n c : Nat} {k : IntKind} {i : Int} : indexAddrA Try.prog 74 (.slice (some ⟨b, o, none⟩) n c) (.int k i) = (if (false || decide (c = 0)) = true then none else if 0 ≤ i ∧ i < (n : Int) then some (.pointer (some ⟨b, o + i.toNat * 1, none⟩)) else none) := by kernel_rfl
@[go_sem] theorem ld_77 {H : Heap} {a : Addr} : loadA Try.prog H 77 (.pointer (some a)) = H.load1 a := by kernel_rfl
@[go_sem] theorem fa_80_5 {b o : Nat} : fieldAddrA Try.prog 80 (.pointer (some ⟨b, o, none⟩)) 5 = some (.pointer (some ⟨b, o + 5, none⟩)) := by kernel_rfl
-- binOp Go.BinOp.neq 39
-- binOp Go.BinOp.neq 49
-- binOp Go.BinOp.neq 47
@[go_sem] theorem zr_4 : zeroA Try.prog 4 = some (.bool false) := by kernel_rfl
@[go_sem] theorem st_4 {H : Heap} {a : Addr} {v : Value} : storeA Try.prog H 4 (.pointer (some a)) v = if v.cells.size = 1 then H.stores a v.cells.toList else none := by kernel_rfl
@[go_sem] theorem fa_47_1 {b o : Nat} : fieldAddrA Try.prog 47 (.pointer (some ⟨b, o, none⟩)) 1 = some (.pointer (some ⟨b, o + 1, none⟩)) := by kernel_rfl
@[go_sem] theorem fa_47_2 {b o : Nat} : fieldAddrA Try.prog 47 (.pointer (some ⟨b, o, none⟩)) 2 = some (.pointer (some ⟨b, o + 2, none⟩)) := by kernel_rfl
@[go_sem] theorem ld_4 {H : Heap} {a : Addr} : loadA Try.prog H 4 (.pointer (some a)) = H.load1 a := by kernel_rfl
-- binOp Go.BinOp.eql 47
@[go_sem] theorem bd_86 {l : List (Nat × Value)} : buildA Try.prog 86 l = buildS [(0, 1), (1, 1), (2, 1)] #[(.int .i64 0), (.int .i64 0), (.int .i64 0)] l := by kernel_rfl
@[go_sem] theorem zr_86 : zeroA Try.prog 86 = some (.agg #[(.int .i64 0), (.int .i64 0), (.int .i64 0)]) := by kernel_rfl
@[go_sem] theorem st_86 {H : Heap} {a : Addr} {v : Value} : storeA Try.prog H 86 (.pointer (some a)) v = if v.cells.size = 3 then H.stores a v.cells.toList else none := by kernel_rfl
@[go_sem] theorem fa_86_2 {b o : Nat} : fieldAddrA Try.prog 86 (.pointer (some ⟨b, o, none⟩)) 2 = some (.pointer (some ⟨b, o + 2, none⟩)) := by kernel_rfl
@[go_sem] theorem fa_86_0 {b o : Nat} : fieldAddrA Try.prog 86 (.pointer (some ⟨b, o, none⟩)) 0 = some (.pointer (some ⟨b, o, none⟩)) := by kernel_rfl
@[go_sem] theorem fa_86_1 {b o : Nat} : fieldAddrA Try.prog 86 (.pointer (some ⟨b, o, none⟩)) 1 = some (.pointer (some ⟨b, o + 1, none⟩)) := by kernel_rfl
@[go_sem] theorem bd_66 {l : List (Nat × Value)} : buildA Try.prog 66 l = buildS [(0, 1), (1, 4), (5, 4), (9, 4), (13, 8), (21, 1), (22, 1)] #[(.slice none 0 0), (.int .i64 0), (.int .i64 0), (.int .i64 0), (.int .i64 0), (.slice none 0 0), (.slice none 0 0), (.slice none 0 0), (.slice none 0 0), (.slice none 0 0), (.slice none 0 0), (.slice none 0 0), (.slice none 0 0), (.int .i64 0), (.int .i64 0), (.int .i64 0), (.int .i64 0), (.int .i64 0), (.int .i64 0), (.int .i64 0), (.int .i64 0), (.int .i64 0), (.int .i64 0)] l := by kernel_rfl
@[go_sem] theorem bd_68 {l : List (Nat × Value)} : buildA Try.prog 68 l = buildS [(0, 1), (1, 1), (2, 1), (3, 1), (4, 1), (5, 1)] #[(.slice none 0 0), (.int .i64 0), (.int .i64 0), (.int .i64 0), (.int .i64 0), (.int .i64 0)] l := by kernel_rfl
@[go_sem] theorem zr_68 : zeroA Try.prog 68 = some (.agg #[(.slice none 0 0), (.int .i64 0), (.int .i64 0), (.int .i64 0), (.int .i64 0), (.int .i64 0)]) := by kernel_rfl
@[go_sem] theorem st_68 {H : Heap} {a : Addr} {v : Value} : storeA Try.prog H 68 (.pointer (some a)) v = if v.cells.size = 6 then H.stores a v.cells.toList else none := by kernel_rfl
@[go_sem] theorem ld_68 {H : Heap} {a : Addr} : loadA Try.prog H 68 (.pointer (some a)) = (H.loads a 6).map fun l => .agg l.toArray := by kernel_rfl
@[go_sem] theorem bs_60_1 {l : List (Nat × Value)} : buildSliceA Try.prog 60 1 l = bslS 68 6 1 [(.slice none 0 0), (.int .i64 0), (.int .i64 0), (.int .i64 0), (.int .i64 0), (.int .i64 0)] l := by kernel_rfl
@[go_sem] theorem ap_60_60 {H : Heap} {a : Option Addr} {n c : Nat} {x : Value} : appendA Try.prog H 60 60 (.slice a n c) x = appS H 68 6 64 a n c x := by kernel_rfl
@[go_sem] theorem st_60 {H : Heap} {a : Addr} {v : Value} : storeA Try.prog H 60 (.pointer (some a)) v = if v.cells.size = 1 then H.stores a v.cells.toList else none := by kernel_rfl
@[go_sem] theorem bs_23_1 {l : List (Nat × Value)} : buildSliceA Try.prog 23 1 l = bslS 3 1 1 [(.int .i64 0)] l := by kernel_rfl
@[go_sem] theorem fa_68_0 {b o : Nat} : fieldAddrA Try.prog 68 (.pointer (some ⟨b, o, none⟩)) 0 = some (.pointer (some ⟨b, o, none⟩)) := by kernel_rfl
@[go_sem] theorem fa_66_1 {b o : Nat} : fieldAddrA Try.prog 66 (.pointer (some ⟨b, o, none⟩)) 1 = some (.pointer (some ⟨b, o + 1, none⟩)) := by kernel_rfl
@[go_sem] theorem ia_61 {b o : Nat} {k : IntKind} {i : Int} : indexAddrA Try.prog 61 (.pointer (some ⟨b, o, none⟩)) (.int k i) = (if 0 ≤ i ∧ i < (4 : Int) then some (.pointer (some ⟨b, o + i.toNat * 1, none⟩)) else none) := by kernel_rfl
@[go_sem] theorem bs_29_1 {l : List (Nat × Value)} : buildSliceA Try.prog 29 1 l = bslS 2 1 1 [(.int .i64 0)] l := by kernel_rfl
@[go_sem] theorem ia_64 {b o : Nat} {k : IntKind} {i : Int} : indexAddrA Try.prog 64 (.pointer (some ⟨b, o, none⟩)) (.int k i) = (if 0 ≤ i ∧ i < (8 : Int) then some (.pointer (some ⟨b, o + i.toNat * 1, none⟩)) else none) := by kernel_rfl
@[go_sem] theorem sl_29 {H : Heap} {a : Option Addr} {n c : Nat} {lo hi mx : Option Value} : sliceA Try.prog H 29 (.slice a n c) lo hi mx = sliceS H 1 a n c lo hi mx := by kernel_rfl
@[go_sem] theorem fa_68_3 {b o : Nat} : fieldAddrA Try.prog 68 (.pointer (some ⟨b, o, none⟩)) 3 = some (.pointer (some ⟨b, o + 3, none⟩)) := by kernel_rfl
@[go_sem] theorem fa_68_2 {b o : Nat} : fieldAddrA Try.prog 68 (.pointer (some ⟨b, o, none⟩)) 2 = some (.pointer (some ⟨b, o + 2, none⟩)) := by kernel_rfl
@[go_sem] theorem fa_66_5 {b o : Nat} : fieldAddrA Try.prog 66 (.pointer (some ⟨b, o, none⟩)) 5 = some (.pointer (some ⟨b, o + 21, none⟩)) := by kernel_rfl
@[go_sem] theorem bd_76 {l : List (Nat × Value)} : buildA Try.prog 76 l = buildS [(0, 1), (1, 1), (2, 4), (6, 4), (10, 4), (14, 8), (22, 1), (23, 1)] #[(.slice none 0 0), (.int .i64 0), (.int .i64 0), (.int .i64 0), (.int .i64 0), (.int .i64 0), (.slice none 0 0), (.slice none 0 0), (.slice none 0 0), (.slice none 0 0), (.slice none 0 0), (.slice none 0 0), (.slice none 0 0), (.slice none 0 0), (.int .i64 0), (.int .i64 0), (.int .i64 0), (.int .i64 0), (.int .i64 0), (.int .i64 0), (.int .i64 0), (.int .i64 0), (.int .i64 0), (.slice none 0 0)] l := by kernel_rfl
@[go_sem] theorem fa_76_2 {b o : Nat} : fieldAddrA Try.prog 76 (.pointer (some ⟨b, o, none⟩)) 2 = some (.pointer (some ⟨b, o + 2, none⟩)) := by kernel_rfl
@[go_sem] theorem bd_80 {l : List (Nat × Value)} : buildA Try.prog 80 l = buildS [(0, 1), (1, 1), (2, 1), (3, 1), (4, 1), (5, 1)] #[(.slice none 0 0), (.int .i64 0), (.int .i64 0), (.int .i64 0), (.bool false), (.int .i64 0)] l := by kernel_rfl
@[go_sem] theorem bs_74_1 {l : List (Nat × Value)} : buildSliceA Try.prog 74 1 l = bslS 77 1 1 [(.pointer none)] l := by kernel_rfl
@[go_sem] theorem ap_74_74 {H : Heap} {a : Option Addr} {n c : Nat} {x : Value} : appendA Try.prog H 74 74 (.slice a n c) x = appS H 77 1 8 a n c x := by kernel_rfl
@[go_sem] theorem st_74 {H : Heap} {a : Addr} {v : Value} : storeA Try.prog H 74 (.pointer (some a)) v = if v.cells.size = 1 then H.stores a v.cells.toList else none := by kernel_rfl
@[go_sem] theorem fa_80_4 {b o : Nat} : fieldAddrA Try.prog 80 (.pointer (some ⟨b, o, none⟩)) 4 = some (.pointer (some ⟨b, o + 4, none⟩)) := by kernel_rfl
@[go_sem] theorem fa_80_3 {b o : Nat} : fieldAddrA Try.prog 80 (.pointer (some ⟨b, o, none⟩)) 3 = some (.pointer (some ⟨b, o + 3, none⟩)) := by kernel_rfl
@[go_sem] theorem fa_76_1 {b o : Nat} : fieldAddrA Try.prog 76 (.pointer (some ⟨b, o, none⟩)) 1 = some (.pointer (some ⟨b, o + 1, none⟩)) := by kernel_rfl
@[go_sem] theorem fa_66_2 {b o : Nat} : fieldAddrA Try.prog 66 (.pointer (some ⟨b, o, none⟩)) 2 = some (.pointer (some ⟨b, o + 5, none⟩)) := by kernel_rfl
@[go_sem] theorem ia_62 {b o : Nat} {k : IntKind} {i : Int} : indexAddrA Try.prog 62 (.pointer (some ⟨b, o, none⟩)) (.int k i) = (if 0 ≤ i ∧ i < (4 : Int) then some (.pointer (some ⟨b, o + i.toNat * 1, none⟩)) else none) := by kernel_rfl
@[go_sem] theorem ld_23 {H : Heap} {a : Addr} : loadA Try.prog H 23 (.pointer (some a)) = H.load1 a := by kernel_rfl
@[go_sem] theorem st_23 {H : Heap} {a : Addr} {v : Value} : storeA Try.prog H 23 (.pointer (some a)) v = if v.cells.size = 1 then H.stores a v.cells.toList else none := by kernel_rfl
@[go_sem] theorem ld_71 {H : Heap} {a : Addr} : loadA Try.prog H 71 (.pointer (some a)) = H.load1 a := by kernel_rfl
@[go_sem] theorem zr_77 : zeroA Try.prog 77 = some (.pointer none) := by kernel_rfl
@[go_sem] theorem st_77 {H : Heap} {a : Addr} {v : Value} : storeA Try.prog H 77 (.pointer (some a)) v = if v.cells.size = 1 then H.stores a v.cells.toList else none := by kernel_rfl
@[go_sem] theorem fa_80_1 {b o : Nat} : fieldAddrA Try.prog 80 (.pointer (some ⟨b, o, none⟩)) 1 = some (.pointer (some ⟨b, o + 1, none⟩)) := by kernel_rfl
@[go_sem] theorem fa_76_6 {b o : Nat} : fieldAddrA Try.prog 76 (.pointer (some ⟨b, o, none⟩)) 6 = some (.pointer (some ⟨b, o + 22, none⟩)) := by kernel_rfl
@[go_sem] theorem fa_80_0 {b o : Nat} : fieldAddrA Try.prog 80 (.pointer (some ⟨b, o, none⟩)) 0 = some (.pointer (some ⟨b, o, none⟩)) := by kernel_rfl
-- binOp Go.BinOp.eql 20
-- typeAssert 20 95 true
@[go_sem] theorem zr_95 : zeroA Try.prog 95 = some (.agg #[(.int .i64 0)]) := by kernel_rfl
@[go_sem] theorem st_95 {H : Heap} {a : Addr} {v : Value} : storeA Try.prog H 95 (.pointer (some a)) v = if v.cells.size = 1 then H.stores a v.cells.toList else none := by kernel_rfl
@[go_sem] theorem fa_95_0 {b o : Nat} : fieldAddrA Try.prog 95 (.pointer (some ⟨b, o, none⟩)) 0 = some (.pointer (some ⟨b, o, none⟩)) := by kernel_rfl
@[go_sem] theorem fa_80_2 {b o : Nat} : fieldAddrA Try.prog 80 (.pointer (some ⟨b, o, none⟩)) 2 = some (.pointer (some ⟨b, o + 2, none⟩)) := by kernel_rfl
@[go_sem] theorem fa_76_3 {b o : Nat} : fieldAddrA Try.prog 76 (.pointer (some ⟨b, o, none⟩)) 3 = some (.pointer (some ⟨b, o + 6, none⟩)) := by kernel_rfl
@[go_sem] theorem bd_95 {l : List (Nat × Value)} : buildA Try.prog 95 l = buildS [(0, 1)] #[(.int .i64 0)] l := by kernel_rfl
@[go_sem] theorem mi_95 {v : Value} : makeInterfaceA Try.prog 95 v = some (.iface 95 v) := by kernel_rfl
end Go.Am.T
namespace Go.Am.T
open Go Go.Am Go.Proofs.Ythanhcpnhionaaa Go.Proofs
attribute [go_sem] eq_self if_true if_false ne_eq not_false_eq_true Nat.zero_add Nat.mul_one decide_true decide_false Bool.not_true Bool.not_false List.length_cons List.length_nil List.append_nil List.nil_append Array.toList_append List.toList_toArray Array.append_empty Array.empty_append List.cons_append Int.toNat_natCast and_self true_and and_true Bool.false_or Bool.true_or Bool.or_false Bool.or_self Bool.false_eq_true Bool.and_true Bool.true_and Bool.and_false Bool.false_and Nat.le_refl List.take_succ_cons List.drop_succ_cons List.take_zero List.drop_zero Nat.zero_mul Nat.one_mul List.size_toArray List.set_cons_zero List.append_toArray List.set_cons_succ List.contains_cons List.contains_nil forall_const false_implies true_implies beq_self_eq_true
def upd {α : Type} (f : Nat → α) (i : Nat) (x : α) : Nat → α := fun j => if j = i then x else f j
theorem upd_same {α : Type} {f : Nat → α} {i : Nat} {x : α} : upd f i x i = x := by simp [upd]
theorem upd_ne {α : Type} {f : Nat → α} {i j : Nat} {x : α} (h : j ≠ i) : upd f i x j = f j := by simp [upd, h]
structure Act where
  k : Int
  a : Int
  b : Int
  n : Int
def Act.cells (x : Act) : List Value := [.int .i64 x.k, .int .i64 x.a, .int .i64 x.b, .int .i64 x.n]
@[go_sem] theorem ac_len {x : Act} : x.cells.length = 4 := rfl
@[go_sem] theorem ac_one {x : Act} : x.cells.all Heap.oneC = true := of_decide_eq_true rfl
@[go_sem] theorem ac_all {x : Act} : x.cells.take 4 = x.cells := rfl
@[go_sem] theorem ac_k {x : Act} : x.cells[0]? = some (.int .i64 x.k) := rfl
@[go_sem] theorem ac_a {x : Act} : x.cells[1]? = some (.int .i64 x.a) := rfl
@[go_sem] theorem ac_b {x : Act} : x.cells[2]? = some (.int .i64 x.b) := rfl
@[go_sem] theorem ac_n {x : Act} : x.cells[3]? = some (.int .i64 x.n) := rfl
structure RunV where
  tasks : Value
  room : Int
  locks : Nat → Int
  conds : Nat → Value
  queues : Nat → Value
  regs : Nat → Int
  last : Int
  trace : Value
def runCells (R : RunV) : List Value :=
  [R.tasks, .int .i64 R.room, .int .i64 (R.locks 0), .int .i64 (R.locks 1), .int .i64 (R.locks 2), .int .i64 (R.locks 3), R.conds 0, R.conds 1, R.conds 2, R.conds 3,
   R.queues 0, R.queues 1, R.queues 2, R.queues 3, .int .i64 (R.regs 0), .int .i64 (R.regs 1), .int .i64 (R.regs 2), .int .i64 (R.regs 3), .int .i64 (R.regs 4), .int .i64 (R.regs 5), .int .i64 (R.regs 6), .int .i64 (R.regs 7),
   .int .i64 R.last, R.trace]
def runB (R : RunV) : Blk := ⟨76, 0, false, runCells R⟩
section
variable {R : RunV} {i : Nat} {v : Value} {z : Int}
@[go_sem] theorem rb_cells : (runB R).cells = runCells R := rfl
@[go_sem] theorem rb_len : (runCells R).length = 24 := rfl
@[go_sem] theorem r_tasks : (runCells R)[0]? = some R.tasks := rfl
@[go_sem] theorem r_room : (runCells R)[1]? = some (.int .i64 R.room) := rfl
@[go_sem] theorem r_last : (runCells R)[22]? = some (.int .i64 R.last) := rfl
@[go_sem] theorem r_trace : (runCells R)[23]? = some R.trace := rfl
@[go_sem] theorem r_lock (h : i < 4) : (runCells R)[2 + i]? = some (.int .i64 (R.locks i)) := by match i, h with | 0, _ | 1, _ | 2, _ | 3, _ => rfl
@[go_sem] theorem r_cond (h : i < 4) : (runCells R)[6 + i]? = some (R.conds i) := by match i, h with | 0, _ | 1, _ | 2, _ | 3, _ => rfl
@[go_sem] theorem r_queue (h : i < 4) : (runCells R)[10 + i]? = some (R.queues i) := by match i, h with | 0, _ | 1, _ | 2, _ | 3, _ => rfl
@[go_sem] theorem r_reg (h : i < 8) : (runCells R)[14 + i]? = some (.int .i64 (R.regs i)) := by match i, h with | 0, _ | 1, _ | 2, _ | 3, _ | 4, _ | 5, _ | 6, _ | 7, _ => rfl
@[go_sem] theorem w_reg7 : ({ runB R with cells := (runCells R).set 21 (.int .i64 z) } : Blk) = runB { R with regs := upd R.regs 7 z } := rfl
@[go_sem] theorem lt24_2 (h : i < 4) : (2 + i < 24) = True := eq_true (by omega)
@[go_sem] theorem lt24_6 (h : i < 4) : (6 + i < 24) = True := eq_true (by omega)
@[go_sem] theorem lt24_10 (h : i < 4) : (10 + i < 24) = True := eq_true (by omega)
@[go_sem] theorem lt24_14 (h : i < 8) : (14 + i < 24) = True := eq_true (by omega)
@[go_sem] theorem w_tasks : ({ runB R with cells := (runCells R).set 0 v } : Blk) = runB { R with tasks := v } := rfl
@[go_sem] theorem w_lock (h : i < 4) : ({ runB R with cells := (runCells R).set (2 + i) (.int .i64 z) } : Blk) = runB { R with locks := upd R.locks i z } := by match i, h with | 0, _ | 1, _ | 2, _ | 3, _ => rfl
@[go_sem] theorem w_cond (h : i < 4) : ({ runB R with cells := (runCells R).set (6 + i) v } : Blk) = runB { R with conds := upd R.conds i v } := by match i, h with | 0, _ | 1, _ | 2, _ | 3, _ => rfl
@[go_sem] theorem w_queue (h : i < 4) : ({ runB R with cells := (runCells R).set (10 + i) v } : Blk) = runB { R with queues := upd R.queues i v } := by match i, h with | 0, _ | 1, _ | 2, _ | 3, _ => rfl
@[go_sem] theorem w_reg (h : i < 8) : ({ runB R with cells := (runCells R).set (14 + i) (.int .i64 z) } : Blk) = runB { R with regs := upd R.regs i z } := by match i, h with | 0, _ | 1, _ | 2, _ | 3, _ | 4, _ | 5, _ | 6, _ | 7, _ => rfl
end
structure TaskV where
  acts : Value
  at_ : Int
  guard : Int
  wait : Int
  died : Bool
  n : Int
def taskCells (T : TaskV) : List Value := [T.acts, .int .i64 T.at_, .int .i64 T.guard, .int .i64 T.wait, .bool T.died, .int .i64 T.n]
def taskB (T : TaskV) : Blk := ⟨80, 0, false, taskCells T⟩
section
variable {T : TaskV} {z : Int} {b : Bool}
@[go_sem] theorem tb_cells : (taskB T).cells = taskCells T := rfl
@[go_sem] theorem tb_len : (taskCells T).length = 6 := rfl
@[go_sem] theorem t_acts : (taskCells T)[0]? = some T.acts := rfl
@[go_sem] theorem t_at : (taskCells T)[1]? = some (.int .i64 T.at_) := rfl
@[go_sem] theorem t_guard : (taskCells T)[2]? = some (.int .i64 T.guard) := rfl
@[go_sem] theorem t_wait : (taskCells T)[3]? = some (.int .i64 T.wait) := rfl
@[go_sem] theorem t_died : (taskCells T)[4]? = some (.bool T.died) := rfl
@[go_sem] theorem t_n : (taskCells T)[5]? = some (.int .i64 T.n) := rfl
@[go_sem] theorem u_at : ({ taskB T with cells := (taskCells T).set 1 (.int .i64 z) } : Blk) = taskB { T with at_ := z } := rfl
@[go_sem] theorem u_guard : ({ taskB T with cells := (taskCells T).set 2 (.int .i64 z) } : Blk) = taskB { T with guard := z } := rfl
@[go_sem] theorem u_wait : ({ taskB T with cells := (taskCells T).set 3 (.int .i64 z) } : Blk) = taskB { T with wait := z } := rfl
@[go_sem] theorem u_died : ({ taskB T with cells := (taskCells T).set 4 (.bool b) } : Blk) = taskB { T with died := b } := rfl
@[go_sem] theorem u_n : ({ taskB T with cells := (taskCells T).set 5 (.int .i64 z) } : Blk) = taskB { T with n := z } := rfl
end
def ActsAt (H : Heap) (v : Value) (l : List Act) : Prop := ∃ a c, v = .slice a l.length c ∧ (l ≠ [] → c ≠ 0 ∧ ∃ b o x, a = some ⟨b, o, none⟩ ∧ H.get b = some x ∧ ∀ i (h : i < l.length), o + i * 4 + 4 ≤ x.cells.length ∧ (x.cells.drop (o + i * 4)).take 4 = (l[i]).cells)
theorem ActsAt.len {H : Heap} {v : Value} {l : List Act} (h : ActsAt H v l) : ∃ a c, v = .slice a l.length c := let ⟨a, c, e, _⟩ := h; ⟨a, c, e⟩
theorem ActsAt.at_ {H : Heap} {v : Value} {l : List Act} (h : ActsAt H v l) {i : Nat} (hi : i < l.length) : ∃ b o c x, v = .slice (some ⟨b, o, none⟩) l.length c ∧ c ≠ 0 ∧ H.get b = some x ∧ o + i * 4 + 4 ≤ x.cells.length ∧ (x.cells.drop (o + i * 4)).take 4 = (l[i]).cells := by
  obtain ⟨a, c, e, k⟩ := h
  obtain ⟨hc, b, o, x, rfl, hx, k⟩ := k (by intro e; subst e; cases hi)
  exact ⟨b, o, c, x, e, hc, hx, k i hi⟩
theorem ActsAt.of {H H' : Heap} {v : Value} {l : List Act} (h : ActsAt H v l) (k : ∀ b x, H.get b = some x → H'.get b = some x) : ActsAt H' v l := by
  obtain ⟨a, c, e, q⟩ := h
  refine ⟨a, c, e, fun hl => ?_⟩
  obtain ⟨hc, b, o, x, ha, hx, q⟩ := q hl
  exact ⟨hc, b, o, x, ha, k b x hx, q⟩
theorem ended_W {H : Heap} {t : Nat} {T : TaskV} {a : Option Addr} {n c : Nat} (ht : H.get t = some (taskB T)) (ha : T.acts = .slice a n c) :
   CW Try.prog 42 #[.pointer (some ⟨t, 0, none⟩)] H fun r H' => r = .ret (.bool (T.died || decide (n ≤ T.at_))) ∧ H = H' := by
  refine CW_k (n := 19) if42 rfl ?_
  unfold C42
  cases hd : T.died <;> simp -implicitDefEqProofs (maxDischargeDepth := 6) (maxSteps := 1000000) only [go_sem, ↓reduceIte, Nat.reduceLT, Nat.reduceLeDiff, Nat.reduceEqDiff, Nat.reduceAdd, Nat.reduceMul, Nat.reduceSub, Nat.reduceBEq, reduceCtorEq, Int.reduceEq, Int.reduceLT, Int.reduceLE, Int.reduceNeg, Int.reduceToNat, ht, hd, ha, goInt, Bool.true_or, Bool.false_or, and_self]
theorem act_W {H : Heap} (hw : WF H) {t : Nat} {T : TaskV} {l : List Act} (ht : H.get t = some (taskB T)) (ha : ActsAt H T.acts l) {i : Nat} (hi : i < l.length) (hat : T.at_ = i) :
   CW Try.prog 43 #[.pointer (some ⟨t, 0, none⟩)] H fun r H' => r = .ret (.agg (l[i]).cells.toArray) ∧ Ext H H' := by
  obtain ⟨b, o, c, x, e, hc, hx, hle, hcs⟩ := ha.at_ hi
  refine CW_k (n := 13) if43 rfl ?_
  unfold C43
  have hb := hw.1
  have htl := hw.lt ht
  have hbl := hw.lt hx
  have h0 : (0 : Int) ≤ (i : Int) := by omega
  have h1 : (i : Int) < (l.length : Int) := by omega
  simp -implicitDefEqProofs (maxDischargeDepth := 6) (maxSteps := 1000000) only [go_sem, ↓reduceIte, Nat.reduceLT, Nat.reduceLeDiff, Nat.reduceEqDiff, Nat.reduceAdd, Nat.reduceMul, Nat.reduceSub, Nat.reduceBEq, reduceCtorEq, Int.reduceEq, Int.reduceLT, Int.reduceLE, Int.reduceNeg, Int.reduceToNat, ht, e, hat, htl, hbl, hb, hc, h0, h1, and_self, Bool.false_or, Bool.or_self, Bool.false_eq_true, Int.toNat_natCast, loads_eq, hx, hle, hcs, Nat.le_refl]
  exact (((Ext.refl hw).alloc _).bump _).set (Nat.le_refl _) (by simp only [go_sem]) _
structure Valid (m : Nat) (a : Act) : Prop where
  k1 : 1 ≤ a.k
  k2 : a.k ≤ 13
  a4 : a.k ≤ 7 → 0 ≤ a.a ∧ a.a < 4
  a8 : a.k = 8 ∨ a.k = 9 ∨ a.k = 10 → 0 ≤ a.a ∧ a.a < 8
  b4 : a.k = 3 → 0 ≤ a.b ∧ a.b < 4
  b8 : a.k = 7 ∨ a.k = 9 → 0 ≤ a.b ∧ a.b < 8
  n10 : a.k = 10 → 0 ≤ a.n ∧ a.n ≤ 255
  n13 : a.k = 13 → 0 ≤ a.n ∧ a.n ≤ m
def howP (locks : Nat → Int) (room : Int) (ql : Nat → Nat) (T : TaskV) (l : List Act) : Int :=
  if T.died then 2 else
  match l[T.at_.toNat]? with
  | none => 1
  | some a =>
    if a.k = 1 ∧ 0 ≤ locks a.a.toNat ∨ a.k = 3 ∧ T.wait = 2 ∧ 0 ≤ locks a.b.toNat then 4
    else if a.k = 3 ∧ T.wait = 1 then 5
    else if a.k = 6 ∧ room ≤ ql a.a.toNat then 6
    else if a.k = 7 ∧ ql a.a.toNat = 0 then 7 else 3
theorem how_W {H : Heap} (hw : WF H) {r t : Nat} {R : RunV} {T : TaskV} {l : List Act} (hr : H.get r = some (runB R)) (ht : H.get t = some (taskB T)) (ha : ActsAt H T.acts l) {i : Nat} (hat : T.at_ = i)
    (hv : ∀ (h : i < l.length), Valid l.length l[i]) {ql : Nat → Nat} {qa : Nat → Option Addr} {qc : Nat → Nat} (hq : ∀ j, j < 4 → R.queues j = .slice (qa j) (ql j) (qc j)) :
   CW Try.prog 31 #[.pointer (some ⟨r, 0, none⟩), .pointer (some ⟨t, 0, none⟩)] H fun x H' => x = .ret (.int .i64 (howP R.locks R.room ql T l)) ∧ Ext H H' := by
  refine CW_k (n := 93) if31 rfl ?_
  unfold C31
  have hb := hw.1
  have htl := hw.lt ht
  have hrl := hw.lt hr
  cases hd : T.died
  case true => 
    simp -implicitDefEqProofs (maxDischargeDepth := 6) (maxSteps := 1000000) only [go_sem, ↓reduceIte, Nat.reduceLT, Nat.reduceLeDiff, Nat.reduceEqDiff, Nat.reduceAdd, Nat.reduceMul, Nat.reduceSub, Nat.reduceBEq, reduceCtorEq, Int.reduceEq, Int.reduceLT, Int.reduceLE, Int.reduceNeg, Int.reduceToNat, ht, hd, howP]
    exact Ext.refl hw
  simp -implicitDefEqProofs (maxDischargeDepth := 6) (maxSteps := 1000000) only [go_sem, ↓reduceIte, Nat.reduceLT, Nat.reduceLeDiff, Nat.reduceEqDiff, Nat.reduceAdd, Nat.reduceMul, Nat.reduceSub, Nat.reduceBEq, reduceCtorEq, Int.reduceEq, Int.reduceLT, Int.reduceLE, Int.reduceNeg, Int.reduceToNat, ht, hd]
  obtain ⟨a, c, hsl⟩ := ha.len
  refine CW_mono _ (ended_W ht hsl) ?_
  rintro _ _ ⟨rfl, rfl⟩
  by_cases hi : i < l.length
  case neg =>
    have h1 : (l.length : Int) ≤ T.at_ := by omega
    have h2 : l[T.at_.toNat]? = none := by rw [hat]; simp; omega
    simp -implicitDefEqProofs (maxDischargeDepth := 6) (maxSteps := 1000000) only [go_sem, ↓reduceIte, Nat.reduceLT, Nat.reduceLeDiff, Nat.reduceEqDiff, Nat.reduceAdd, Nat.reduceMul, Nat.reduceSub, Nat.reduceBEq, reduceCtorEq, Int.reduceEq, Int.reduceLT, Int.reduceLE, Int.reduceNeg, Int.reduceToNat, hd, h1, howP, h2]
    exact Ext.refl hw
  have h1 : ¬ (l.length : Int) ≤ T.at_ := by omega
  have hg : l[T.at_.toNat]? = some l[i] := by rw [hat]; simp [hi]
  simp -implicitDefEqProofs (maxDischargeDepth := 6) (maxSteps := 1000000) only [go_sem, ↓reduceIte, Nat.reduceLT, Nat.reduceLeDiff, Nat.reduceEqDiff, Nat.reduceAdd, Nat.reduceMul, Nat.reduceSub, Nat.reduceBEq, reduceCtorEq, Int.reduceEq, Int.reduceLT, Int.reduceLE, Int.reduceNeg, Int.reduceToNat, hd, h1]
  refine CW_mono _ (act_W hw ht ha hi hat) ?_
  rintro _ H1 ⟨rfl, hE⟩
  have hr1 := hE.of hw hr
  have ht1 := hE.of hw ht
  have hrl1 := hE.wf.lt hr1
  have htl1 := hE.wf.lt ht1
  have hb1 := hE.wf.1
  have hV := hv hi
  generalize l[i] = x at *
  have hE' : ∀ y, Ext H (((H1.alloc y).set H1.next ⟨47, 0, false, x.cells⟩)) := fun y => (hE.alloc _).set hE.le (by simp only [go_sem]) _
  by_cases k1 : x.k = 1
  · obtain ⟨h0, h4⟩ := hV.a4 (by omega)
    have hA : x.a.toNat < 4 := by omega
    by_cases hl : 0 ≤ R.locks x.a.toNat
    · simp -implicitDefEqProofs (maxDischargeDepth := 6) (maxSteps := 1000000) only [go_sem, ↓reduceIte, Nat.reduceLT, Nat.reduceLeDiff, Nat.reduceEqDiff, Nat.reduceAdd, Nat.reduceMul, Nat.reduceSub, Nat.reduceBEq, reduceCtorEq, Int.reduceEq, Int.reduceLT, Int.reduceLE, Int.reduceNeg, Int.reduceToNat, k1, h0, h4, hA, hl, hr1, ht1, hrl1, htl1, hb1]
      exact ⟨by simp [howP, hd, hg, k1, hl], hE' _⟩
    · simp -implicitDefEqProofs (maxDischargeDepth := 6) (maxSteps := 1000000) only [go_sem, ↓reduceIte, Nat.reduceLT, Nat.reduceLeDiff, Nat.reduceEqDiff, Nat.reduceAdd, Nat.reduceMul, Nat.reduceSub, Nat.reduceBEq, reduceCtorEq, Int.reduceEq, Int.reduceLT, Int.reduceLE, Int.reduceNeg, Int.reduceToNat, k1, h0, h4, hA, hl, hr1, ht1, hrl1, htl1, hb1]
      exact ⟨by simp [howP, hd, hg, k1, hl], hE' _⟩
  by_cases k3 : x.k = 3
  · obtain ⟨h0, h4⟩ := hV.b4 (by omega)
    have hA : x.b.toNat < 4 := by omega
    by_cases w2 : T.wait = 2
    · by_cases hl : 0 ≤ R.locks x.b.toNat
      · simp -implicitDefEqProofs (maxDischargeDepth := 6) (maxSteps := 1000000) only [go_sem, ↓reduceIte, Nat.reduceLT, Nat.reduceLeDiff, Nat.reduceEqDiff, Nat.reduceAdd, Nat.reduceMul, Nat.reduceSub, Nat.reduceBEq, reduceCtorEq, Int.reduceEq, Int.reduceLT, Int.reduceLE, Int.reduceNeg, Int.reduceToNat, k3, w2, h0, h4, hA, hl, hr1, ht1, hrl1, htl1, hb1]
        exact ⟨by simp [howP, hd, hg, k3, w2, hl], hE' _⟩
      · simp -implicitDefEqProofs (maxDischargeDepth := 6) (maxSteps := 1000000) only [go_sem, ↓reduceIte, Nat.reduceLT, Nat.reduceLeDiff, Nat.reduceEqDiff, Nat.reduceAdd, Nat.reduceMul, Nat.reduceSub, Nat.reduceBEq, reduceCtorEq, Int.reduceEq, Int.reduceLT, Int.reduceLE, Int.reduceNeg, Int.reduceToNat, k3, w2, h0, h4, hA, hl, hr1, ht1, hrl1, htl1, hb1]
        exact ⟨by simp [howP, hd, hg, k3, w2, hl], hE' _⟩
    · by_cases w1 : T.wait = 1
      · simp -implicitDefEqProofs (maxDischargeDepth := 6) (maxSteps := 1000000) only [go_sem, ↓reduceIte, Nat.reduceLT, Nat.reduceLeDiff, Nat.reduceEqDiff, Nat.reduceAdd, Nat.reduceMul, Nat.reduceSub, Nat.reduceBEq, reduceCtorEq, Int.reduceEq, Int.reduceLT, Int.reduceLE, Int.reduceNeg, Int.reduceToNat, k3, w1, h0, h4, hA, hr1, ht1, hrl1, htl1, hb1]
        exact ⟨by simp [howP, hd, hg, k3, w1], hE' _⟩
      · simp -implicitDefEqProofs (maxDischargeDepth := 6) (maxSteps := 1000000) only [go_sem, ↓reduceIte, Nat.reduceLT, Nat.reduceLeDiff, Nat.reduceEqDiff, Nat.reduceAdd, Nat.reduceMul, Nat.reduceSub, Nat.reduceBEq, reduceCtorEq, Int.reduceEq, Int.reduceLT, Int.reduceLE, Int.reduceNeg, Int.reduceToNat, k3, w1, w2, h0, h4, hA, hr1, ht1, hrl1, htl1, hb1]
        exact ⟨by simp [howP, hd, hg, k3, w1, w2], hE' _⟩
  by_cases k6 : x.k = 6
  · obtain ⟨h0, h4⟩ := hV.a4 (by omega)
    have hA : x.a.toNat < 4 := by omega
    have hqA := hq _ hA
    by_cases hl : R.room ≤ ql x.a.toNat
    · simp -implicitDefEqProofs (maxDischargeDepth := 6) (maxSteps := 1000000) only [go_sem, ↓reduceIte, Nat.reduceLT, Nat.reduceLeDiff, Nat.reduceEqDiff, Nat.reduceAdd, Nat.reduceMul, Nat.reduceSub, Nat.reduceBEq, reduceCtorEq, Int.reduceEq, Int.reduceLT, Int.reduceLE, Int.reduceNeg, Int.reduceToNat, k6, h0, h4, hA, hqA, goInt, hl, hr1, ht1, hrl1, htl1, hb1]
      exact ⟨by simp [howP, hd, hg, k6, hl], hE' _⟩
    · simp -implicitDefEqProofs (maxDischargeDepth := 6) (maxSteps := 1000000) only [go_sem, ↓reduceIte, Nat.reduceLT, Nat.reduceLeDiff, Nat.reduceEqDiff, Nat.reduceAdd, Nat.reduceMul, Nat.reduceSub, Nat.reduceBEq, reduceCtorEq, Int.reduceEq, Int.reduceLT, Int.reduceLE, Int.reduceNeg, Int.reduceToNat, k6, h0, h4, hA, hqA, goInt, hl, hr1, ht1, hrl1, htl1, hb1]
      exact ⟨by simp [howP, hd, hg, k6, hl], hE' _⟩
  by_cases k7 : x.k = 7
  · obtain ⟨h0, h4⟩ := hV.a4 (by omega)
    have hA : x.a.toNat < 4 := by omega
    have hqA := hq _ hA
    by_cases hl : ql x.a.toNat = 0
    · simp -implicitDefEqProofs (maxDischargeDepth := 6) (maxSteps := 1000000) only [go_sem, ↓reduceIte, Nat.reduceLT, Nat.reduceLeDiff, Nat.reduceEqDiff, Nat.reduceAdd, Nat.reduceMul, Nat.reduceSub, Nat.reduceBEq, reduceCtorEq, Int.reduceEq, Int.reduceLT, Int.reduceLE, Int.reduceNeg, Int.reduceToNat, k7, h0, h4, hA, hqA, goInt, hl, hr1, ht1, hrl1, htl1, hb1, Int.natCast_zero]
      exact ⟨by simp [howP, hd, hg, k7, hl], hE' _⟩
    · have hl' : ¬ (ql x.a.toNat : Int) = 0 := by omega
      simp -implicitDefEqProofs (maxDischargeDepth := 6) (maxSteps := 1000000) only [go_sem, ↓reduceIte, Nat.reduceLT, Nat.reduceLeDiff, Nat.reduceEqDiff, Nat.reduceAdd, Nat.reduceMul, Nat.reduceSub, Nat.reduceBEq, reduceCtorEq, Int.reduceEq, Int.reduceLT, Int.reduceLE, Int.reduceNeg, Int.reduceToNat, k7, h0, h4, hA, hqA, goInt, hl', hr1, ht1, hrl1, htl1, hb1]
      exact ⟨by simp [howP, hd, hg, k7, hl], hE' _⟩
  · simp -implicitDefEqProofs (maxDischargeDepth := 6) (maxSteps := 1000000) only [go_sem, ↓reduceIte, Nat.reduceLT, Nat.reduceLeDiff, Nat.reduceEqDiff, Nat.reduceAdd, Nat.reduceMul, Nat.reduceSub, Nat.reduceBEq, reduceCtorEq, Int.reduceEq, Int.reduceLT, Int.reduceLE, Int.reduceNeg, Int.reduceToNat, k1, k3, k6, k7, hr1, ht1, hrl1, htl1, hb1]
    exact ⟨by simp [howP, hd, hg, k1, k3, k6, k7], hE' _⟩
end Go.Am.T
namespace Go.Am.T
open Go Go.Am Go.Proofs.Ythanhcpnhionaaa Go.Proofs
structure Tk where
  acts : List Act
  at_ : Nat
  guard : Int
  wait : Int
  died : Bool
  n : Int
structure Sx where
  N : Nat
  tk : Nat → Tk
  room : Int
  locks : Nat → Int
  conds : Nat → List Nat
  queues : Nat → List Int
  regs : Nat → Int
  last : Int
  trace : List (Nat × Nat)
inductive Role where
  | run | arr | task (i : Nat) | cond (j : Nat) | queue (j : Nat) | trace
  deriving DecidableEq
structure Mem where
  own : Nat → Option Role
  ta : Nat → Nat
  av : Nat → Value
  tv : Value
  cv : Nat → Value
  qv : Nat → Value
  trv : Value
def iv (z : Int) : Value := .int .i64 z
def nv (z : Nat) : Value := .int .i64 z
def trC : List (Nat × Nat) → List Value
  | [] => []
  | p :: l => nv p.1 :: nv p.2 :: trC l
theorem trC_app (l m : List (Nat × Nat)) : trC (l ++ m) = trC l ++ trC m := by
  induction l with
  | nil => rfl
  | cons p l ih => simp [trC, ih]
def rv (M : Mem) (S : Sx) : RunV := { tasks := M.tv, room := S.room, locks := S.locks, conds := M.cv, queues := M.qv, regs := S.regs, last := S.last, trace := M.trv }
def tkV (v : Value) (t : Tk) : TaskV := { acts := v, at_ := t.at_, guard := t.guard, wait := t.wait, died := t.died, n := t.n }
section
variable {M : Mem} {S : Sx} {v : Value} {t : Tk} {i : Nat} {z : Int} {w : Value}
@[go_sem] theorem rv_tasks : (rv M S).tasks = M.tv := rfl
@[go_sem] theorem rv_room : (rv M S).room = S.room := rfl
@[go_sem] theorem rv_locks : (rv M S).locks = S.locks := rfl
@[go_sem] theorem rv_conds : (rv M S).conds = M.cv := rfl
@[go_sem] theorem rv_queues : (rv M S).queues = M.qv := rfl
@[go_sem] theorem rv_regs : (rv M S).regs = S.regs := rfl
@[go_sem] theorem rv_last : (rv M S).last = S.last := rfl
@[go_sem] theorem rv_trace : (rv M S).trace = M.trv := rfl
@[go_sem high] theorem rw_last : ({ runB (rv M S) with cells := (runCells (rv M S)).set 22 (.int .i64 z) } : Blk) = runB (rv M { S with last := z }) := rfl
@[go_sem high] theorem rw_trace : ({ runB (rv M S) with cells := (runCells (rv M S)).set 23 w } : Blk) = runB (rv { M with trv := w } S) := rfl
@[go_sem high] theorem rw_lock (h : i < 4) : ({ runB (rv M S) with cells := (runCells (rv M S)).set (2 + i) (.int .i64 z) } : Blk) = runB (rv M { S with locks := upd S.locks i z }) := w_lock h
@[go_sem high] theorem rw_cond (h : i < 4) : ({ runB (rv M S) with cells := (runCells (rv M S)).set (6 + i) w } : Blk) = runB (rv { M with cv := upd M.cv i w } S) := w_cond h
@[go_sem high] theorem rw_queue (h : i < 4) : ({ runB (rv M S) with cells := (runCells (rv M S)).set (10 + i) w } : Blk) = runB (rv { M with qv := upd M.qv i w } S) := w_queue h
@[go_sem high] theorem rw_reg (h : i < 8) : ({ runB (rv M S) with cells := (runCells (rv M S)).set (14 + i) (.int .i64 z) } : Blk) = runB (rv M { S with regs := upd S.regs i z }) := w_reg h
@[go_sem] theorem rv_foldL {f : Nat → Int} : RunV.mk M.tv S.room f M.cv M.qv S.regs S.last M.trv = rv M { S with locks := f } := rfl
@[go_sem] theorem tk_acts : (tkV v t).acts = v := rfl
@[go_sem] theorem tk_at : (tkV v t).at_ = t.at_ := rfl
@[go_sem] theorem tk_guard : (tkV v t).guard = t.guard := rfl
@[go_sem] theorem tk_wait : (tkV v t).wait = t.wait := rfl
@[go_sem] theorem tk_died : (tkV v t).died = t.died := rfl
@[go_sem] theorem tk_n : (tkV v t).n = t.n := rfl
@[go_sem high] theorem tw_at {k : Nat} : ({ taskB (tkV v t) with cells := (taskCells (tkV v t)).set 1 (.int .i64 (k : Int)) } : Blk) = taskB (tkV v { t with at_ := k }) := rfl
@[go_sem high] theorem tw_guard : ({ taskB (tkV v t) with cells := (taskCells (tkV v t)).set 2 (.int .i64 z) } : Blk) = taskB (tkV v { t with guard := z }) := rfl
@[go_sem high] theorem tw_wait : ({ taskB (tkV v t) with cells := (taskCells (tkV v t)).set 3 (.int .i64 z) } : Blk) = taskB (tkV v { t with wait := z }) := rfl
end
def OwnL (p : Nat → Prop) (H : Heap) (es ty : Nat) (v : Value) (n : Nat) (cs : List Value) : Prop :=
  (v = .slice none 0 0 ∧ n = 0 ∧ cs = []) ∨ ∃ b o pre, v = .slice (some ⟨b, o, none⟩) n openCap ∧ base0 ≤ b ∧ p b ∧ H.get b = some ⟨ty, es, true, pre ++ cs⟩ ∧ pre.length = o ∧ cs.length = n * es
theorem OwnL.frame {p p' : Nat → Prop} {H H' : Heap} {es ty : Nat} {v : Value} {n : Nat} {cs : List Value} (h : OwnL p H es ty v n cs)
    (k : ∀ b x, p b → H.get b = some x → p' b ∧ H'.get b = some x) : OwnL p' H' es ty v n cs := by
  rcases h with h | ⟨b, o, pre, h1, h2, h3, h4, h5, h6⟩
  · exact .inl h
  · exact .inr ⟨b, o, pre, h1, h2, (k b _ h3 h4).1, (k b _ h3 h4).2, h5, h6⟩
theorem OwnL.frameO {p p' : Nat → Prop} {H H' : Heap} {es ty : Nat} {v : Value} {n : Nat} {cs : List Value} (h : OwnL p H es ty v n cs)
    (k : ∀ b x, p b → H.get b = some x → x.opn = true ∧ x.ty = ty → p' b ∧ H'.get b = some x) : OwnL p' H' es ty v n cs := by
  rcases h with h | ⟨b, o, pre, h1, h2, h3, h4, h5, h6⟩
  · exact .inl h
  · exact .inr ⟨b, o, pre, h1, h2, (k b _ h3 h4 ⟨rfl, rfl⟩).1, (k b _ h3 h4 ⟨rfl, rfl⟩).2, h5, h6⟩
theorem OwnL.sl {p : Nat → Prop} {H : Heap} {es ty : Nat} {v : Value} {n : Nat} {cs : List Value} (h : OwnL p H es ty v n cs) : ∃ a c, v = .slice a n c := by
  rcases h with ⟨rfl, rfl, _⟩ | ⟨b, o, pre, rfl, _⟩
  · exact ⟨_, _, rfl⟩
  · exact ⟨_, _, rfl⟩
theorem OwnL.len {p : Nat → Prop} {H : Heap} {es ty : Nat} {v : Value} {n : Nat} {cs : List Value} (h : OwnL p H es ty v n cs) : cs.length = n * es := by
  rcases h with ⟨_, rfl, rfl⟩ | ⟨b, o, pre, _, _, _, _, _, h⟩
  · simp
  · exact h
def delV (H : Heap) : Value → Heap
  | .slice (some a) _ _ => H.del a.block
  | _ => H
theorem next_delV {H : Heap} {v : Value} : (delV H v).next = H.next := by unfold delV; split <;> simp [next_del]
def RdI (H : Heap) (v : Value) (l : List Value) : Prop := ∃ a c, v = .slice a l.length c ∧ (l ≠ [] → c ≠ 0 ∧ ∃ b o x, a = some ⟨b, o, none⟩ ∧ H.get b = some x ∧ ∀ i (h : i < l.length), x.cells[o + i]? = some l[i])
theorem RdI.at_ {H : Heap} {v : Value} {l : List Value} (h : RdI H v l) {i : Nat} (hi : i < l.length) : ∃ b o c x, v = .slice (some ⟨b, o, none⟩) l.length c ∧ c ≠ 0 ∧ H.get b = some x ∧ x.cells[o + i]? = some l[i] := by
  obtain ⟨a, c, e, k⟩ := h
  obtain ⟨hc, b, o, x, rfl, hx, k⟩ := k (by intro e; subst e; cases hi)
  exact ⟨b, o, c, x, e, hc, hx, k i hi⟩
theorem RdI.of {H H' : Heap} {v : Value} {l : List Value} (h : RdI H v l) (k : ∀ b x, H.get b = some x → H'.get b = some x) : RdI H' v l := by
  obtain ⟨a, c, e, q⟩ := h
  refine ⟨a, c, e, fun hl => ?_⟩
  obtain ⟨hc, b, o, x, ha, hx, q⟩ := q hl
  exact ⟨hc, b, o, x, ha, k b x hx, q⟩
theorem OwnL.rd {p : Nat → Prop} {H : Heap} {ty : Nat} {v : Value} {n : Nat} {cs : List Value} (h : OwnL p H 1 ty v n cs) : RdI H v cs := by
  rcases h with ⟨rfl, rfl, rfl⟩ | ⟨b, o, pre, rfl, h2, h3, h4, h5, h6⟩
  · exact ⟨none, 0, rfl, fun h => absurd rfl h⟩
  · refine ⟨some ⟨b, o, none⟩, openCap, by simp at h6; rw [h6], fun _ => ⟨by unfold openCap; omega, b, o, _, rfl, h4, ?_⟩⟩
    intro i hi
    subst h5
    simp [hi]
theorem appS_own {p : Nat → Prop} {H : Heap} {es ty bytes : Nat} {v : Value} {n : Nat} {cs vs : List Value} {nb : Nat} {x : Blk} {a : Option Addr} {c : Nat} (h : OwnL p H es ty v n cs) (hv : v = .slice a n c) (hn : H.get nb = some x) (hx : x.cells = vs) (hl : vs.length = es) (h0 : es ≠ 0)
    (ho : vs.all Heap.oneC = true) (hb : 4 * (n + 1) * bytes + 4096 ≤ 2 ^ 47) (hb2 : n + 1 ≤ 2 ^ 47) :
    appS H ty es bytes a n c (.slice (some ⟨nb, 0, none⟩) 1 1) = some (.slice (some ⟨H.next, 0, none⟩) (n + 1) openCap, (delV H v).alloc ⟨ty, es, true, cs ++ vs⟩) := by
  subst hx hv
  have hf : firstA H es 1 (.slice (some ⟨nb, 0, none⟩) 1 1) = some x.cells := by
    unfold firstA
    simp only [Nat.reduceEqDiff, if_false, Nat.one_mul, loads_eq, hn, Option.bind_some]
    rw [if_pos (by omega)]
    simp [← hl]
  rcases h with ⟨h1, h2, h3⟩ | ⟨b, o, pre, h1, h2, h3, h4, h5, h6⟩
  · cases h1; subst h3
    unfold appS
    simp only [lengthA, Option.bind_eq_bind, Option.bind_some, hf]
    have e1 : ¬ (4 * (0 + 1) * bytes + 4096 > 2 ^ 47 || (0 + 1 > 2 ^ 47)) = true := by simp; simp at hb; omega
    rw [if_pos (show 0 ≠ openCap by unfold openCap; omega), if_neg (by omega), if_neg e1]
    simp [firstA, delV, next_delV]
  · cases h1
    unfold appS
    simp only [lengthA, Option.bind_eq_bind, Option.bind_some, hf]
    rw [if_neg (by simp)]
    have e1 : ¬ (4 * (n + 1) * bytes + 4096 > 2 ^ 47 || (n + 1 > 2 ^ 47)) = true := by simp; omega
    have e2 : o + (n + 1) * es ≤ (pre ++ cs).length ↔ False := by
      simp only [List.length_append, h5, h6, Nat.add_mul, iff_false]; omega
    have e3 : ¬ ((o + n * es ≠ (pre ++ cs).length || !x.cells.all Heap.oneC) = true) := by
      simp [h5, h6, ho]
    have e4 : ¬ (b < base0) := by omega
    simp only [Option.isSome_none, Bool.false_or, h4, Option.bind_some, ne_eq, not_true_eq_false, decide_false, Bool.not_true, Bool.false_eq_true, if_false, Nat.reduceEqDiff, e2, e4]
    simp only [ne_eq] at e3
    rw [if_neg e3, if_neg e1]
    simp [delV, ← h5]
theorem OwnL.appended {p p' : Nat → Prop} {H : Heap} {es ty : Nat} {v : Value} {n : Nat} {cs vs : List Value} (h : OwnL p H es ty v n cs) (hw : WF H) (hp : p' H.next) (hl : vs.length = es) :
    OwnL p' ((delV H v).alloc ⟨ty, es, true, cs ++ vs⟩) es ty (.slice (some ⟨H.next, 0, none⟩) (n + 1) openCap) (n + 1) (cs ++ vs) := by
  refine .inr ⟨H.next, 0, [], rfl, hw.1, hp, ?_, rfl, ?_⟩
  · rw [get_alloc_at (by rw [next_delV]; exact hw.1) (by rw [next_delV])]; rfl
  · simp [h.len, hl, Nat.add_mul]
theorem Ext.app {H0 H : Heap} (hE : Ext H0 H) {es ty : Nat} {v : Value} {n : Nat} {cs : List Value} (h : OwnL (fun b => H0.next ≤ b) H es ty v n cs) (x : Blk) : Ext H0 ((delV H v).alloc x) := by
  refine Ext.alloc ?_ _
  rcases h with ⟨rfl, _⟩ | ⟨b', o', pre, rfl, _, hb', _⟩
  · exact hE
  · exact hE.del hb'
theorem appO {H0 H : Heap} (hE : Ext H0 H) {es ty bytes n c : Nat} {a : Option Addr} {cs vs : List Value} (h : OwnL (fun b => H0.next ≤ b) H es ty (.slice a n c) n cs) {nb : Nat} {x : Blk} (hn : H.get nb = some x) (hx : x.cells = vs) (hl : vs.length = es) (h0 : es ≠ 0)
    (ho : vs.all Heap.oneC = true) (hb : 4 * (n + 1) * bytes + 4096 ≤ 2 ^ 47) (hb2 : n + 1 ≤ 2 ^ 47) :
    ∃ H6, appS H ty es bytes a n c (.slice (some ⟨nb, 0, none⟩) 1 1) = some (.slice (some ⟨H.next, 0, none⟩) (n + 1) openCap, H6) ∧ Ext H0 H6 ∧
      OwnL (fun b => H0.next ≤ b) H6 es ty (.slice (some ⟨H.next, 0, none⟩) (n + 1) openCap) (n + 1) (cs ++ vs) ∧ H6.next = H.next + 1 ∧
      ∀ b x, H.get b = some x → x.opn = false ∨ x.ty ≠ ty → H6.get b = some x := by
  refine ⟨_, appS_own h rfl hn hx hl h0 ho hb hb2, Ext.app hE h _, h.appended hE.wf hE.le hl, ?_, ?_⟩
  · show (delV H _).next + 1 = _
    rw [next_delV]
  · intro b y hb hy
    have hlt := hE.wf.lt hb
    rw [get_alloc_ne (by rw [next_delV]; omega)]
    rcases h with ⟨e, _⟩ | ⟨b', o, pre, e, _, _, h4, _⟩
    · simp only [Value.slice.injEq] at e
      obtain ⟨rfl, _⟩ := e
      exact hb
    · simp only [Value.slice.injEq] at e
      obtain ⟨rfl, _⟩ := e
      show (H.del b').get b = _
      rw [get_del_ne]
      · exact hb
      · intro e2; subst e2; rw [h4] at hb; cases hb
        rcases hy with hy | hy
        · cases hy
        · exact hy rfl
structure RepX (ex : Option Role) (H : Heap) (r : Nat) (M : Mem) (S : Sx) : Prop where
  wf : WF H
  run : H.get r = some (runB (rv M S))
  ro : M.own r = some .run
  rb : base0 ≤ r
  lt : ∀ b, M.own b ≠ none → b < H.next
  arr : ∃ a c, M.tv = .slice a S.N c ∧ (S.N ≠ 0 → c ≠ 0 ∧ ∃ b o x, a = some ⟨b, o, none⟩ ∧ M.own b = some .arr ∧ H.get b = some x ∧ ∀ i, i < S.N → x.cells[o + i]? = some (.pointer (some ⟨M.ta i, 0, none⟩)))
  task : ∀ i, i < S.N → H.get (M.ta i) = some (taskB (tkV (M.av i) (S.tk i)))
  tko : ∀ i, i < S.N → M.own (M.ta i) = some (.task i)
  tkb : ∀ i, i < S.N → base0 ≤ M.ta i
  acts : ∀ i, i < S.N → ∃ a c, M.av i = .slice a (S.tk i).acts.length c ∧ ((S.tk i).acts ≠ [] → c ≠ 0 ∧ ∃ b o x, a = some ⟨b, o, none⟩ ∧ H.get b = some x ∧ M.own b = none ∧
    ∀ j (h : j < (S.tk i).acts.length), o + j * 4 + 4 ≤ x.cells.length ∧ (x.cells.drop (o + j * 4)).take 4 = ((S.tk i).acts[j]).cells)
  cond : ∀ j, j < 4 → ex ≠ some (.cond j) → OwnL (fun b => M.own b = some (.cond j)) H 1 3 (M.cv j) (S.conds j).length ((S.conds j).map nv)
  queue : ∀ j, j < 4 → ex ≠ some (.queue j) → OwnL (fun b => M.own b = some (.queue j)) H 1 2 (M.qv j) (S.queues j).length ((S.queues j).map iv)
  trace : ex ≠ some .trace → OwnL (fun b => M.own b = some .trace) H 2 39 M.trv S.trace.length (trC S.trace)
abbrev Rep := RepX none
theorem RepX.actsAt {ex : Option Role} {H : Heap} {r : Nat} {M : Mem} {S : Sx} (h : RepX ex H r M S) {i : Nat} (hi : i < S.N) : ActsAt H (M.av i) (S.tk i).acts := by
  obtain ⟨a, c, e, k⟩ := h.acts i hi
  refine ⟨a, c, e, fun hl => ?_⟩
  obtain ⟨hc, b, o, x, h1, h2, _, h4⟩ := k hl
  exact ⟨hc, b, o, x, h1, h2, h4⟩
theorem RepX.ptr {ex : Option Role} {H : Heap} {r : Nat} {M : Mem} {S : Sx} (h : RepX ex H r M S) {i : Nat} (hi : i < S.N) : ∃ b o c x, M.tv = .slice (some ⟨b, o, none⟩) S.N c ∧ c ≠ 0 ∧ H.get b = some x ∧ x.cells[o + i]? = some (.pointer (some ⟨M.ta i, 0, none⟩)) := by
  obtain ⟨a, c, e, k⟩ := h.arr
  obtain ⟨hc, b, o, x, rfl, _, hx, q⟩ := k (by omega)
  exact ⟨b, o, c, x, e, hc, hx, q i hi⟩
theorem RepX.of {ex : Option Role} {H H' : Heap} {r : Nat} {M M' : Mem} {S S' : Sx} (h : RepX ex H r M S) (ex' : Option Role)
    (wf : WF H') (run : H'.get r = some (runB (rv M' S'))) (ho : ∀ b x, H.get b = some x → M'.own b = M.own b) (lt : ∀ b, M'.own b ≠ none → b < H'.next)
    (eta : M'.ta = M.ta) (eav : M'.av = M.av) (etv : M'.tv = M.tv) (eN : S'.N = S.N)
    (hact : ∀ i, i < S.N → (S'.tk i).acts = (S.tk i).acts)
    (task : ∀ i, i < S.N → H'.get (M.ta i) = some (taskB (tkV (M.av i) (S'.tk i))))
    (keep : ∀ b x, H.get b = some x → M.own b = none ∨ M.own b = some .arr → H'.get b = some x)
    (cond : ∀ j, j < 4 → ex' ≠ some (.cond j) → OwnL (fun b => M'.own b = some (.cond j)) H' 1 3 (M'.cv j) (S'.conds j).length ((S'.conds j).map nv))
    (queue : ∀ j, j < 4 → ex' ≠ some (.queue j) → OwnL (fun b => M'.own b = some (.queue j)) H' 1 2 (M'.qv j) (S'.queues j).length ((S'.queues j).map iv))
    (trace : ex' ≠ some .trace → OwnL (fun b => M'.own b = some .trace) H' 2 39 M'.trv S'.trace.length (trC S'.trace)) : RepX ex' H' r M' S' where
  wf := wf
  run := run
  ro := (ho r _ h.run).trans h.ro
  rb := h.rb
  lt := lt
  arr := by
    obtain ⟨a, c, e, k⟩ := h.arr
    refine ⟨a, c, by rw [etv, eN]; exact e, ?_⟩
    rw [eN, eta]
    intro hN
    obtain ⟨hc, b, o, x, ha, hb, hx, q⟩ := k hN
    exact ⟨hc, b, o, x, ha, (ho b x hx).trans hb, keep b x hx (.inr hb), q⟩
  task := by rw [eN, eta, eav]; exact task
  tko := by rw [eN, eta]; intro i hi; exact (ho _ _ (h.task i hi)).trans (h.tko i hi)
  tkb := by rw [eN, eta]; exact h.tkb
  acts := by
    rw [eN, eav]
    intro i hi
    rw [hact i hi]
    obtain ⟨a, c, e, k⟩ := h.acts i hi
    refine ⟨a, c, e, fun hl => ?_⟩
    obtain ⟨hc, b, o, x, h1, h2, h3, h4⟩ := k hl
    exact ⟨hc, b, o, x, h1, keep b x h2 (.inl h3), (ho b x h2).trans h3, h4⟩
  cond := cond
  queue := queue
  trace := trace
theorem RepX.ext {ex : Option Role} {H H' : Heap} {r : Nat} {M : Mem} {S : Sx} (h : RepX ex H r M S) (e : Ext H H') : RepX ex H' r M S :=
  h.of ex e.wf (e.of h.wf h.run) (fun _ _ _ => rfl) (fun b hb => Nat.lt_of_lt_of_le (h.lt b hb) e.le) rfl rfl rfl rfl (fun _ _ => rfl) (fun i hi => e.of h.wf (h.task i hi)) (fun b x hb _ => e.of h.wf hb)
    (fun j hj hx => (h.cond j hj hx).frame fun b x hb hg => ⟨hb, e.of h.wf hg⟩) (fun j hj hx => (h.queue j hj hx).frame fun b x hb hg => ⟨hb, e.of h.wf hg⟩)
    (fun hx => (h.trace hx).frame fun b x hb hg => ⟨hb, e.of h.wf hg⟩)
theorem RepX.setRun {ex : Option Role} {H : Heap} {r : Nat} {M M' : Mem} {S S' : Sx} (h : RepX ex H r M S)
    (eo : M'.own = M.own) (eta : M'.ta = M.ta) (eav : M'.av = M.av) (etv : M'.tv = M.tv) (eN : S'.N = S.N) (etk : S'.tk = S.tk)
    (cond : ∀ j, j < 4 → OwnL (fun b => M.own b = some (.cond j)) H 1 3 (M'.cv j) (S'.conds j).length ((S'.conds j).map nv))
    (queue : ∀ j, j < 4 → OwnL (fun b => M.own b = some (.queue j)) H 1 2 (M'.qv j) (S'.queues j).length ((S'.queues j).map iv))
    (trace : OwnL (fun b => M.own b = some .trace) H 2 39 M'.trv S'.trace.length (trC S'.trace)) : Rep (H.set r (runB (rv M' S'))) r M' S' := by
  have hne : ∀ b ro, M.own b = some ro → ro ≠ .run → (H.set r (runB (rv M' S'))).get b = H.get b := by
    intro b ro hb hr
    refine get_set_ne ?_
    intro e; subst e; rw [h.ro] at hb; cases hb; exact hr rfl
  refine h.of none (h.wf.set (h.lt r (by rw [h.ro]; simp)) _) (get_set_eq h.rb) (fun b x _ => by rw [eo]) (fun b hb => by rw [next_set]; exact h.lt b (by rw [← eo]; exact hb)) eta eav etv eN (fun i hi => by rw [etk]) ?_ ?_ ?_ ?_ ?_
  · intro i hi
    rw [hne _ _ (h.tko i hi) (by simp), etk]; exact h.task i hi
  · intro b x hb hx
    rw [get_set_ne]; exact hb
    intro e; subst e; rw [h.ro] at hx; rcases hx with hx | hx <;> cases hx
  · intro j hj _
    rw [eo]
    exact (cond j hj).frame fun b x hb hg => ⟨hb, (hne b _ hb (by simp)).trans hg⟩
  · intro j hj _
    rw [eo]
    exact (queue j hj).frame fun b x hb hg => ⟨hb, (hne b _ hb (by simp)).trans hg⟩
  · intro _
    rw [eo]
    exact trace.frame fun b x hb hg => ⟨hb, (hne b _ hb (by simp)).trans hg⟩
theorem RepX.setTask {ex : Option Role} {H : Heap} {r : Nat} {M : Mem} {S : Sx} (h : RepX ex H r M S) {i : Nat} (hi : i < S.N) {t : Tk} (ht : t.acts = (S.tk i).acts) :
    RepX ex (H.set (M.ta i) (taskB (tkV (M.av i) t))) r M { S with tk := upd S.tk i t } := by
  have hne : ∀ b ro, M.own b = some ro → ro ≠ .task i → (H.set (M.ta i) (taskB (tkV (M.av i) t))).get b = H.get b := by
    intro b ro hb hr
    refine get_set_ne ?_
    intro e; subst e; rw [h.tko i hi] at hb; cases hb; exact hr rfl
  refine h.of ex (h.wf.set (h.lt _ (by rw [h.tko i hi]; simp)) _) ?_ (fun _ _ _ => rfl) (fun b hb => by rw [next_set]; exact h.lt b hb) rfl rfl rfl rfl ?_ ?_ ?_ ?_ ?_ ?_
  · rw [hne r _ h.ro (by simp)]; exact h.run
  · intro j hj
    show (upd S.tk i t j).acts = _
    by_cases e : j = i
    · subst e; rw [upd_same]; exact ht
    · rw [upd_ne e]
  · intro j hj
    show _ = some (taskB (tkV (M.av j) (upd S.tk i t j)))
    by_cases e : j = i
    · subst e; rw [upd_same, get_set_eq (h.tkb j hj)]
    · rw [upd_ne e, hne _ _ (h.tko j hj) (by simpa using e)]; exact h.task j hj
  · intro b x hb hx
    rw [get_set_ne]; exact hb
    intro e; subst e; rw [h.tko i hi] at hx; rcases hx with hx | hx <;> cases hx
  · intro j hj hx
    exact (h.cond j hj hx).frame fun b x hb hg => ⟨hb, (hne b _ hb (by simp)).trans hg⟩
  · intro j hj hx
    exact (h.queue j hj hx).frame fun b x hb hg => ⟨hb, (hne b _ hb (by simp)).trans hg⟩
  · intro hx
    exact (h.trace hx).frame fun b x hb hg => ⟨hb, (hne b _ hb (by simp)).trans hg⟩
theorem RepX.app {H : Heap} {r : Nat} {M : Mem} {S : Sx} (h : Rep H r M S) (ro : Role) (hro : ro ≠ .run) (hro2 : ro ≠ .arr) (hro3 : ∀ i, ro ≠ .task i) {v : Value} {es ty n : Nat} {cs : List Value} (hv : OwnL (fun b => M.own b = some ro) H es ty v n cs) (x : Blk) :
    RepX (some ro) ((delV H v).alloc x) r { M with own := upd M.own H.next (some ro) } S := by
  have hwd : WF (delV H v) := by
    rcases hv with ⟨rfl, _⟩ | ⟨b, o, pre, rfl, _⟩
    · exact h.wf
    · exact h.wf.del _
  have hnx : (delV H v).next = H.next := next_delV
  have hke : ∀ b y, H.get b = some y → M.own b ≠ some ro → ((delV H v).alloc x).get b = some y := by
    intro b y hb hm
    have := h.wf.lt hb
    rw [get_alloc_ne (by omega)]
    rcases hv with ⟨rfl, _⟩ | ⟨b', o, pre, rfl, _, h3, _⟩
    · exact hb
    · show (H.del b').get b = _
      rw [get_del_ne]; exact hb
      intro e; subst e; exact hm h3
  have hou : ∀ b y, H.get b = some y → upd M.own H.next (some ro) b = M.own b := by
    intro b y hb
    have := h.wf.lt hb
    exact upd_ne (by omega)
  refine h.of (some ro) (hwd.alloc x) ?_ hou ?_ rfl rfl rfl rfl (fun _ _ => rfl) ?_ ?_ ?_ ?_ ?_
  · exact hke r _ h.run (by rw [h.ro]; simp; exact fun e => hro e.symm)
  · intro b hb
    show b < (delV H v).next + 1
    rw [hnx]
    by_cases e : b = H.next
    · omega
    · have hb' : upd M.own H.next (some ro) b ≠ none := hb
      rw [upd_ne e] at hb'
      have := h.lt b hb'; omega
  · intro i hi
    exact hke _ _ (h.task i hi) (by rw [h.tko i hi]; simp; exact fun e => hro3 i e.symm)
  · intro b y hb hm
    refine hke b y hb ?_
    rcases hm with hm | hm
    · rw [hm]; simp
    · rw [hm]; simp; exact fun e => hro2 e.symm
  · intro j hj hx
    refine (h.cond j hj (by simp)).frame fun b y hb hg => ⟨(hou b y hg).trans hb, hke b y hg ?_⟩
    rw [hb]; intro e; exact hx e.symm
  · intro j hj hx
    refine (h.queue j hj (by simp)).frame fun b y hb hg => ⟨(hou b y hg).trans hb, hke b y hg ?_⟩
    rw [hb]; intro e; exact hx e.symm
  · intro hx
    refine (h.trace (by simp)).frame fun b y hb hg => ⟨(hou b y hg).trans hb, hke b y hg ?_⟩
    rw [hb]; intro e; exact hx e.symm
structure Frm (H : Heap) (M : Mem) (H' : Heap) (M' : Mem) : Prop where
  le : H.next ≤ H'.next
  own : ∀ b, b < H.next → M'.own b = M.own b
  get : ∀ b, b < H.next → M.own b = none → H'.get b = H.get b
  ta : M'.ta = M.ta
  av : M'.av = M.av
theorem Frm.refl {H : Heap} {M : Mem} : Frm H M H M := ⟨Nat.le_refl _, fun _ _ => rfl, fun _ _ _ => rfl, rfl, rfl⟩
theorem Frm.trans {H H1 H2 : Heap} {M M1 M2 : Mem} (h : Frm H M H1 M1) (k : Frm H1 M1 H2 M2) : Frm H M H2 M2 :=
  ⟨Nat.le_trans h.le k.le, fun b hb => (k.own b (Nat.lt_of_lt_of_le hb h.le)).trans (h.own b hb), fun b hb hm => (k.get b (Nat.lt_of_lt_of_le hb h.le) ((h.own b hb).trans hm)).trans (h.get b hb hm), k.ta.trans h.ta, k.av.trans h.av⟩
theorem Frm.ext {H H1 : Heap} {M : Mem} (h : Ext H H1) : Frm H M H1 M := ⟨h.le, fun _ _ => rfl, fun b hb _ => h.get b hb, rfl, rfl⟩
theorem Frm.set {H : Heap} {M M' : Mem} {b : Nat} (hb : M.own b ≠ none) (x : Blk) (eo : M'.own = M.own) (eta : M'.ta = M.ta) (eav : M'.av = M.av) : Frm H M (H.set b x) M' :=
  ⟨by rw [next_set]; exact Nat.le_refl _, fun _ _ => by rw [eo], fun c _ hm => get_set_ne (by intro e; subst e; exact hb hm), eta, eav⟩
theorem Frm.app {H : Heap} {M : Mem} {ro : Role} {v : Value} {es ty n : Nat} {cs : List Value} (hv : OwnL (fun b => M.own b = some ro) H es ty v n cs) (x : Blk) :
    Frm H M ((delV H v).alloc x) { M with own := upd M.own H.next (some ro) } := by
  refine ⟨by show H.next ≤ (delV H v).next + 1; rw [next_delV]; omega, fun b hb => upd_ne (by omega), fun b hb hm => ?_, rfl, rfl⟩
  rw [get_alloc_ne (by rw [next_delV]; omega)]
  rcases hv with ⟨rfl, _⟩ | ⟨b', o, pre, rfl, _, h3, _⟩
  · rfl
  · exact get_del_ne (by intro e; subst e; rw [hm] at h3; cases h3)
theorem RepX.append {H : Heap} {r : Nat} {M : Mem} {S : Sx} (h : Rep H r M S) (ro : Role) (hro : ro ≠ .run) (hro2 : ro ≠ .arr) (hro3 : ∀ i, ro ≠ .task i) {es ty n bytes c : Nat} {a : Option Addr} {cs vs : List Value}
    (hv : OwnL (fun b => M.own b = some ro) H es ty (.slice a n c) n cs) {nb : Nat} {x : Blk} (hn : H.get nb = some x) (hx : x.cells = vs) (hl : vs.length = es) (h0 : es ≠ 0)
    (ho : vs.all Heap.oneC = true) (hb : 4 * (n + 1) * bytes + 4096 ≤ 2 ^ 47) (hb2 : n + 1 ≤ 2 ^ 47) :
    ∃ H6, appS H ty es bytes a n c (.slice (some ⟨nb, 0, none⟩) 1 1) = some (.slice (some ⟨H.next, 0, none⟩) (n + 1) openCap, H6) ∧ RepX (some ro) H6 r { M with own := upd M.own H.next (some ro) } S ∧
      OwnL (fun b => upd M.own H.next (some ro) b = some ro) H6 es ty (.slice (some ⟨H.next, 0, none⟩) (n + 1) openCap) (n + 1) (cs ++ vs) ∧ Frm H M H6 { M with own := upd M.own H.next (some ro) } ∧ H6.next = H.next + 1 ∧
      ∀ b x, H.get b = some x → M.own b = none → H6.get b = some x := by
  refine ⟨_, appS_own hv rfl hn hx hl h0 ho hb hb2, h.app ro hro hro2 hro3 hv _, hv.appended h.wf upd_same hl, Frm.app hv _, ?_, ?_⟩
  · show (delV H _).next + 1 = _
    rw [next_delV]
  · intro b y hb hm
    exact ((Frm.app hv ⟨ty, es, true, cs ++ vs⟩).get b (h.wf.lt hb) hm).trans hb
end Go.Am.T
namespace Go.Am.T
open Go Go.Am Go.Proofs.Ythanhcpnhionaaa Go.Proofs
def howS (S : Sx) (i : Nat) : Int := howP S.locks S.room (fun j => (S.queues j).length) (tkV .nilIface (S.tk i)) (S.tk i).acts
def rdyTo (S : Sx) (k : Nat) : List Nat := (List.range k).filter fun i => howS S i = 3
def rdy (S : Sx) : List Nat := rdyTo S S.N
def VS (S : Sx) : Prop := ∀ i, i < S.N → ∀ k (h : k < (S.tk i).acts.length), Valid (S.tk i).acts.length (S.tk i).acts[k]
theorem rdyTo_succ (S : Sx) (k : Nat) : rdyTo S (k + 1) = rdyTo S k ++ if howS S k = 3 then [k] else [] := by
  unfold rdyTo
  rw [List.range_succ, List.filter_append]
  by_cases h : howS S k = 3 <;> simp [List.filter_cons, h]
theorem rdyTo_len (S : Sx) (k : Nat) : (rdyTo S k).length ≤ k := by
  have := List.length_filter_le (fun i => decide (howS S i = 3)) (List.range k)
  simpa [rdyTo] using this
theorem how_R {H : Heap} {r : Nat} {M : Mem} {S : Sx} (h : Rep H r M S) (hv : VS S) {i : Nat} (hi : i < S.N) :
   CW Try.prog 31 #[.pointer (some ⟨r, 0, none⟩), .pointer (some ⟨M.ta i, 0, none⟩)] H fun x H' => x = .ret (.int .i64 (howS S i)) ∧ Ext H H' := by
  have hq : ∀ j, ∃ a c, j < 4 → M.qv j = .slice a (S.queues j).length c := by
    intro j
    by_cases hj : j < 4
    · obtain ⟨a, c, e⟩ := (h.queue j hj (by simp)).sl; exact ⟨a, c, fun _ => e⟩
    · exact ⟨none, 0, fun h => absurd h hj⟩
  have := how_W (R := rv M S) (T := tkV (M.av i) (S.tk i)) h.wf h.run (h.task i hi) (h.actsAt hi) (i := (S.tk i).at_) rfl (fun hk => hv i hi _ hk)
    (ql := fun j => (S.queues j).length) (qa := fun j => Classical.choose (hq j)) (qc := fun j => Classical.choose (Classical.choose_spec (hq j))) (fun j hj => Classical.choose_spec (Classical.choose_spec (hq j)) hj)
  exact this
theorem ready_W {H : Heap} {r : Nat} {M : Mem} {S : Sx} (h : Rep H r M S) (hv : VS S) (hN : S.N ≤ 65536) :
   CW Try.prog 33 #[.pointer (some ⟨r, 0, none⟩)] H fun x H' => ∃ v, x = .ret v ∧ Ext H H' ∧ OwnL (fun b => H.next ≤ b) H' 1 3 v (rdy S).length ((rdy S).map nv) := by
  refine CW_k (n := 26) if33 rfl ?_
  unfold C33
  obtain ⟨ta, tc, htv, harr⟩ := h.arr
  simp -implicitDefEqProofs (maxDischargeDepth := 6) (maxSteps := 1000000) only [go_sem, ↓reduceIte, Nat.reduceLT, Nat.reduceLeDiff, Nat.reduceEqDiff, Nat.reduceAdd, Nat.reduceMul, Nat.reduceSub, Nat.reduceBEq, reduceCtorEq, Int.reduceEq, Int.reduceLT, Int.reduceLE, Int.reduceNeg, Int.reduceToNat, h.run, htv]
  refine Wk_loopF (fun m f H1 => ∃ k v, m = S.N - k ∧ k ≤ S.N ∧ f.get 0 = some (.pointer (some ⟨r, 0, none⟩)) ∧ f.get 9 = some (.slice ta S.N tc) ∧ f.get 10 = some (nv S.N) ∧ f.get 11 = some (nv k) ∧ f.get 3 = some v ∧
    Ext H H1 ∧ OwnL (fun b => H.next ≤ b) H1 1 3 v (rdyTo S k).length ((rdyTo S k).map nv)) S.N ?_ ?_
  · refine ⟨0, .slice none 0 0, by omega, by omega, ?_, ?_, ?_, ?_, ?_, Ext.refl h.wf, .inl ⟨rfl, rfl, rfl⟩⟩
    all_goals simp -implicitDefEqProofs (maxDischargeDepth := 6) (maxSteps := 1000000) only [go_sem, ↓reduceIte, Nat.reduceLT, Nat.reduceLeDiff, Nat.reduceEqDiff, Nat.reduceAdd, Nat.reduceMul, Nat.reduceSub, Nat.reduceBEq, reduceCtorEq, Int.reduceEq, Int.reduceLT, Int.reduceLE, Int.reduceNeg, Int.reduceToNat, goInt, nv]
    rfl
  · rintro m f H1 ⟨k, v, rfl, hk, h0, h9, h10, h11, h3, hE, hO⟩
    have h1 := h.ext hE
    unfold L33_1
    by_cases hlt : k < S.N
    · have hltZ : (k : Int) < (S.N : Int) := by omega
      have hk0 : (0 : Int) ≤ (k : Int) := by omega
      obtain ⟨hc, b, o, x, rfl, hbo, hx, hxs⟩ := harr (by omega)
      have hx1 := hE.of h.wf hx
      have hxk := hxs k hlt
      simp -implicitDefEqProofs (maxDischargeDepth := 6) (maxSteps := 1000000) only [go_sem, ↓reduceIte, Nat.reduceLT, Nat.reduceLeDiff, Nat.reduceEqDiff, Nat.reduceAdd, Nat.reduceMul, Nat.reduceSub, Nat.reduceBEq, reduceCtorEq, Int.reduceEq, Int.reduceLT, Int.reduceLE, Int.reduceNeg, Int.reduceToNat, h0, h9, h10, h11, h3, nv, hltZ, hk0, hc, hx1, hxk]
      refine CW_mono _ (how_R h1 hv hlt) ?_
      rintro _ H2 ⟨rfl, hE2⟩
      have hO2 : OwnL (fun b => H.next ≤ b) H2 1 3 v (rdyTo S k).length ((rdyTo S k).map nv) := hO.frame fun b x hb hg => ⟨hb, hE2.of hE.wf hg⟩
      have hw : IntKind.i64.wrap ((k : Int) + 1) = ((k + 1 : Nat) : Int) := by
        exact IntWalk.i64_in _ (by omega)
      by_cases hh : howS S k = 3
      · obtain ⟨a, c, rfl⟩ := hO2.sl
        simp -implicitDefEqProofs (maxDischargeDepth := 6) (maxSteps := 1000000) only [go_sem, ↓reduceIte, Nat.reduceLT, Nat.reduceLeDiff, Nat.reduceEqDiff, Nat.reduceAdd, Nat.reduceMul, Nat.reduceSub, Nat.reduceBEq, reduceCtorEq, Int.reduceEq, Int.reduceLT, Int.reduceLE, Int.reduceNeg, Int.reduceToNat, h0, h9, h10, h11, h3, nv, hh]
        have hE3 := hE2.alloc (⟨3, 0, false, [.int .i64 (k : Int)]⟩ : Blk)
        have hO3 : OwnL (fun b => H.next ≤ b) (H2.alloc ⟨3, 0, false, [.int .i64 (k : Int)]⟩) 1 3 (.slice a (rdyTo S k).length c) (rdyTo S k).length ((rdyTo S k).map nv) := hO2.frame fun b x hb hg => ⟨hb, (Ext.alloc (Ext.refl hE2.wf) _).of hE2.wf hg⟩
        have hkl := rdyTo_len S k
        refine Wk_vh (appS_own hO3 rfl (get_alloc_eq hE2.wf.1) rfl rfl (by omega) rfl (by omega) (by omega)) ?_
        simp -implicitDefEqProofs (maxDischargeDepth := 6) (maxSteps := 1000000) only [go_sem, ↓reduceIte, Nat.reduceLT, Nat.reduceLeDiff, Nat.reduceEqDiff, Nat.reduceAdd, Nat.reduceMul, Nat.reduceSub, Nat.reduceBEq, reduceCtorEq, Int.reduceEq, Int.reduceLT, Int.reduceLE, Int.reduceNeg, Int.reduceToNat, h0, h9, h10, h11, h3, nv, hh, hw]
        refine ⟨S.N - (k + 1), by omega, k + 1, .slice (some ⟨H2.next + 1, 0, none⟩) ((rdyTo S k).length + 1) openCap, rfl, by omega, ?_, ?_, ?_, ?_, ?_, Ext.app (hE.trans hE3) hO3 _, ?_⟩
        all_goals try simp -implicitDefEqProofs (maxDischargeDepth := 6) (maxSteps := 1000000) only [go_sem, ↓reduceIte, Nat.reduceLT, Nat.reduceLeDiff, Nat.reduceEqDiff, Nat.reduceAdd, Nat.reduceMul, Nat.reduceSub, Nat.reduceBEq, reduceCtorEq, Int.reduceEq, Int.reduceLT, Int.reduceLE, Int.reduceNeg, Int.reduceToNat, h0, h9, h10, h11, h3, nv, hh]
        have := hO3.appended (p' := fun b => H.next ≤ b) (vs := [nv k]) hE3.wf (Nat.le_succ_of_le (Nat.le_trans hE.le hE2.le)) rfl
        rw [rdyTo_succ, if_pos hh, List.map_append, List.length_append]
        exact this
      · simp -implicitDefEqProofs (maxDischargeDepth := 6) (maxSteps := 1000000) only [go_sem, ↓reduceIte, Nat.reduceLT, Nat.reduceLeDiff, Nat.reduceEqDiff, Nat.reduceAdd, Nat.reduceMul, Nat.reduceSub, Nat.reduceBEq, reduceCtorEq, Int.reduceEq, Int.reduceLT, Int.reduceLE, Int.reduceNeg, Int.reduceToNat, h0, h9, h10, h11, h3, nv, hh, hw]
        refine ⟨S.N - (k + 1), by omega, k + 1, v, rfl, by omega, ?_, ?_, ?_, ?_, ?_, hE.trans hE2, ?_⟩
        all_goals try simp -implicitDefEqProofs (maxDischargeDepth := 6) (maxSteps := 1000000) only [go_sem, ↓reduceIte, Nat.reduceLT, Nat.reduceLeDiff, Nat.reduceEqDiff, Nat.reduceAdd, Nat.reduceMul, Nat.reduceSub, Nat.reduceBEq, reduceCtorEq, Int.reduceEq, Int.reduceLT, Int.reduceLE, Int.reduceNeg, Int.reduceToNat, h0, h9, h10, h11, h3, nv, hh]
        rw [rdyTo_succ, if_neg hh, List.append_nil]; exact hO2
    · have hltZ : ¬ (k : Int) < (S.N : Int) := by omega
      simp -implicitDefEqProofs (maxDischargeDepth := 6) (maxSteps := 1000000) only [go_sem, ↓reduceIte, Nat.reduceLT, Nat.reduceLeDiff, Nat.reduceEqDiff, Nat.reduceAdd, Nat.reduceMul, Nat.reduceSub, Nat.reduceBEq, reduceCtorEq, Int.reduceEq, Int.reduceLT, Int.reduceLE, Int.reduceNeg, Int.reduceToNat, h0, h9, h10, h11, h3, nv, hltZ]
      have e : k = S.N := by omega
      subst e
      exact ⟨v, rfl, hE, hO⟩
end Go.Am.T
namespace Go.Am.T
open Go Go.Am Go.Proofs.Ythanhcpnhionaaa Go.Proofs
def nextP (last : Int) (k : Nat) (l : List Nat) (picks : List Int) : Nat :=
  match picks[k]? with
  | some p => l.getD (p.toNat % l.length) 0
  | none => (l.find? fun (i : Nat) => decide (last < (i : Int))).getD (l.getD 0 0)
theorem tmod_nat {p : Int} (h : 0 ≤ p) (n : Nat) : p.tmod (n : Int) = ((p.toNat % n : Nat) : Int) := by
  obtain ⟨k, rfl⟩ := Int.eq_ofNat_of_zero_le h
  rw [Int.toNat_natCast]; rfl
theorem next_W {H : Heap} {r : Nat} {M : Mem} {S : Sx} (h : Rep H r M S) {rv pv : Value} {l : List Nat} {picks : List Int} (hr : RdI H rv (l.map nv)) (hp : RdI H pv (picks.map iv)) (hl : l ≠ [])
   (hpos : ∀ p ∈ picks, 0 ≤ p) (hb : l.length ≤ 65536) (ht : S.trace.length ≤ 1000000) :
   CW Try.prog 41 #[.pointer (some ⟨r, 0, none⟩), rv, pv] H fun x H' => x = .ret (nv (nextP S.last S.trace.length l picks)) ∧ H = H' := by
  refine CW_k (n := 46) if41 rfl ?_
  unfold C41
  have hlen : 0 < l.length := by cases l with | nil => exact absurd rfl hl | cons a b => simp
  have hl0 : 0 < (l.map nv).length := by simpa using hlen
  obtain ⟨tb, tc, htr⟩ := (h.trace (by simp)).sl
  obtain ⟨pa, pc, hpv, _⟩ := id hp
  obtain ⟨rb, ro, rc, rx, hrv, hrc, hrx, hr0⟩ := hr.at_ hl0
  rw [List.length_map] at hpv hrv
  by_cases hk : S.trace.length < picks.length
  · have hkZ : (S.trace.length : Int) < (picks.length : Int) := by omega
    obtain ⟨pb, po, pc', px, hpv', hpc, hpx, hpk⟩ := hp.at_ (i := S.trace.length) (by simpa using hk)
    rw [List.length_map] at hpv'
    simp only [List.getElem_map, iv] at hpk
    have hge : 0 ≤ picks[S.trace.length] := hpos _ (List.getElem_mem hk)
    have htm := tmod_nat hge l.length
    have hml : picks[S.trace.length].toNat % l.length < l.length := Nat.mod_lt _ hlen
    obtain ⟨rb', ro', rc', rx', hrv', _, hrx', hri⟩ := hr.at_ (i := picks[S.trace.length].toNat % l.length) (by simpa using hml)
    rw [List.length_map] at hrv'
    rw [hrv] at hrv'
    simp only [Value.slice.injEq, Option.some.injEq, Addr.mk.injEq, and_true] at hrv'
    obtain ⟨⟨rfl, rfl⟩, _, rfl⟩ := hrv'
    rw [hrx] at hrx'; cases hrx'
    simp only [List.getElem_map, nv] at hri
    have hn : nextP S.last S.trace.length l picks = l[picks[S.trace.length].toNat % l.length] := by
      unfold nextP
      rw [List.getElem?_eq_getElem hk]
      simp [hml]
    have hz0 : (0 : Int) ≤ (S.trace.length : Int) := by omega
    have hl00 : ¬ (l.length : Int) = 0 := by omega
    have hm0 : (0 : Int) ≤ ((picks[S.trace.length].toNat % l.length : Nat) : Int) := by omega
    have hm1 : ((picks[S.trace.length].toNat % l.length : Nat) : Int) < (l.length : Int) := by omega
    simp -implicitDefEqProofs (maxDischargeDepth := 6) (maxSteps := 1000000) only [go_sem, ↓reduceIte, Nat.reduceLT, Nat.reduceLeDiff, Nat.reduceEqDiff, Nat.reduceAdd, Nat.reduceMul, Nat.reduceSub, Nat.reduceBEq, reduceCtorEq, Int.reduceEq, Int.reduceLT, Int.reduceLE, Int.reduceNeg, Int.reduceToNat, h.run, htr, goInt, hpv', hrv, hkZ, hz0, hpc, hpx, hpk, htm, hl00, hm0, hm1, hrc, hrx, hri, hn, nv]
  · have hkZ : ¬ (S.trace.length : Int) < (picks.length : Int) := by omega
    have hn : nextP S.last S.trace.length l picks = (l.find? fun (i : Nat) => decide (S.last < (i : Int))).getD (l.getD 0 0) := by
      unfold nextP
      rw [List.getElem?_eq_none (by omega)]
    simp -implicitDefEqProofs (maxDischargeDepth := 6) (maxSteps := 1000000) only [go_sem, ↓reduceIte, Nat.reduceLT, Nat.reduceLeDiff, Nat.reduceEqDiff, Nat.reduceAdd, Nat.reduceMul, Nat.reduceSub, Nat.reduceBEq, reduceCtorEq, Int.reduceEq, Int.reduceLT, Int.reduceLE, Int.reduceNeg, Int.reduceToNat, h.run, htr, goInt, hpv, hrv, hkZ]
    refine Wk_loopF (fun m f H1 => ∃ k, m = l.length - k ∧ k ≤ l.length ∧ f.get 0 = some (.pointer (some ⟨r, 0, none⟩)) ∧ f.get 1 = some (.slice (some ⟨rb, ro, none⟩) l.length rc) ∧ f.get 29 = some (.slice (some ⟨rb, ro, none⟩) l.length rc) ∧ f.get 30 = some (nv l.length) ∧ f.get 31 = some (nv k) ∧
      H1 = H ∧ ∀ i (hi : i < l.length), i < k → ¬ S.last < (l[i] : Int)) l.length ?_ ?_
    · refine ⟨0, by omega, by omega, ?_, ?_, ?_, ?_, ?_, rfl, by omega⟩
      all_goals simp -implicitDefEqProofs (maxDischargeDepth := 6) (maxSteps := 1000000) only [go_sem, ↓reduceIte, Nat.reduceLT, Nat.reduceLeDiff, Nat.reduceEqDiff, Nat.reduceAdd, Nat.reduceMul, Nat.reduceSub, Nat.reduceBEq, reduceCtorEq, Int.reduceEq, Int.reduceLT, Int.reduceLE, Int.reduceNeg, Int.reduceToNat, goInt, nv]
      rfl
    · rintro m f H1 ⟨k, rfl, hk', h0, h1, h29, h30, h31, rfl, hall⟩
      unfold L41_1
      by_cases hlt : k < l.length
      · have hltZ : (k : Int) < (l.length : Int) := by omega
        have hz : (0 : Int) ≤ (k : Int) := by omega
        obtain ⟨rb', ro', rc', rx', hrv', _, hrx', hri⟩ := hr.at_ (i := k) (by simpa using hlt)
        rw [List.length_map] at hrv'
        rw [hrv] at hrv'
        simp only [Value.slice.injEq, Option.some.injEq, Addr.mk.injEq, and_true] at hrv'
        obtain ⟨⟨rfl, rfl⟩, _, rfl⟩ := hrv'
        rw [hrx] at hrx'; cases hrx'
        simp only [List.getElem_map, nv] at hri
        have hw : IntKind.i64.wrap ((k : Int) + 1) = ((k + 1 : Nat) : Int) := IntWalk.i64_in _ (by omega)
        by_cases hg : S.last < (l[k] : Int)
        · simp -implicitDefEqProofs (maxDischargeDepth := 6) (maxSteps := 1000000) only [go_sem, ↓reduceIte, Nat.reduceLT, Nat.reduceLeDiff, Nat.reduceEqDiff, Nat.reduceAdd, Nat.reduceMul, Nat.reduceSub, Nat.reduceBEq, reduceCtorEq, Int.reduceEq, Int.reduceLT, Int.reduceLE, Int.reduceNeg, Int.reduceToNat, h0, h1, h29, h30, h31, nv, hltZ, hz, hrc, hrx, hri, h.run, hg]
          rw [hn]
          have : l.find? (fun (i : Nat) => decide (S.last < (i : Int))) = some l[k] := by
            rw [List.find?_eq_some_iff_getElem]
            refine ⟨by simpa using hg, k, hlt, rfl, ?_⟩
            intro j hj
            simpa using hall j (by omega) hj
          rw [this]; rfl
        · simp -implicitDefEqProofs (maxDischargeDepth := 6) (maxSteps := 1000000) only [go_sem, ↓reduceIte, Nat.reduceLT, Nat.reduceLeDiff, Nat.reduceEqDiff, Nat.reduceAdd, Nat.reduceMul, Nat.reduceSub, Nat.reduceBEq, reduceCtorEq, Int.reduceEq, Int.reduceLT, Int.reduceLE, Int.reduceNeg, Int.reduceToNat, h0, h1, h29, h30, h31, nv, hltZ, hz, hrc, hrx, hri, h.run, hg, hw]
          refine ⟨l.length - (k + 1), by omega, k + 1, rfl, by omega, ?_, ?_, ?_, ?_, ?_, rfl, ?_⟩
          all_goals try simp -implicitDefEqProofs (maxDischargeDepth := 6) (maxSteps := 1000000) only [go_sem, ↓reduceIte, Nat.reduceLT, Nat.reduceLeDiff, Nat.reduceEqDiff, Nat.reduceAdd, Nat.reduceMul, Nat.reduceSub, Nat.reduceBEq, reduceCtorEq, Int.reduceEq, Int.reduceLT, Int.reduceLE, Int.reduceNeg, Int.reduceToNat, h0, h1, h29, h30, h31, nv]
          intro i hi hik
          by_cases e : i = k
          · subst e; exact hg
          · exact hall i hi (by omega)
      · have hltZ : ¬ (k : Int) < (l.length : Int) := by omega
        have hpz : (0 : Int) < (l.length : Int) := by omega
        simp only [List.getElem_map, nv, Nat.add_zero] at hr0
        simp -implicitDefEqProofs (maxDischargeDepth := 6) (maxSteps := 1000000) only [go_sem, ↓reduceIte, Nat.reduceLT, Nat.reduceLeDiff, Nat.reduceEqDiff, Nat.reduceAdd, Nat.reduceMul, Nat.reduceSub, Nat.reduceBEq, reduceCtorEq, Int.reduceEq, Int.reduceLT, Int.reduceLE, Int.reduceNeg, Int.reduceToNat, h0, h1, h29, h30, h31, nv, hltZ, hpz, hrc, hrx, hr0, Nat.add_zero]
        rw [hn]
        have : l.find? (fun (i : Nat) => decide (S.last < (i : Int))) = none := by
          rw [List.find?_eq_none]
          intro x hx
          obtain ⟨i, hi, rfl⟩ := List.mem_iff_getElem.1 hx
          simpa using hall i hi (by omega)
        rw [this]
        simp [hlen]
def boom (n : Int) : Value := .iface 95 (.agg #[.int .i64 n])
theorem free_W {H : Heap} {r : Nat} {R : RunV} (hw : WF H) (hrb : base0 ≤ r) (hr : H.get r = some (runB R)) {i L : Int} (h0 : 0 ≤ L) (h4 : L < 4) :
   CW Try.prog 47 #[.pointer (some ⟨r, 0, none⟩), .int .i64 i, .int .i64 L] H fun x H' =>
     if R.locks L.toNat = i then x = .ret (.tuple #[]) ∧ H.set r (runB { R with locks := upd R.locks L.toNat (-1) }) = H' else x = .pan (boom (-1)) ∧ H = H' := by
  refine CW_k (n := 21) if47 rfl ?_
  unfold C47
  have hA : L.toNat < 4 := by omega
  by_cases he : R.locks L.toNat = i
  · simp -implicitDefEqProofs (maxDischargeDepth := 6) (maxSteps := 1000000) only [go_sem, ↓reduceIte, Nat.reduceLT, Nat.reduceLeDiff, Nat.reduceEqDiff, Nat.reduceAdd, Nat.reduceMul, Nat.reduceSub, Nat.reduceBEq, reduceCtorEq, Int.reduceEq, Int.reduceLT, Int.reduceLE, Int.reduceNeg, Int.reduceToNat, hr, h0, h4, hA, he, hrb]
  · simp -implicitDefEqProofs (maxDischargeDepth := 6) (maxSteps := 1000000) only [go_sem, ↓reduceIte, Nat.reduceLT, Nat.reduceLeDiff, Nat.reduceEqDiff, Nat.reduceAdd, Nat.reduceMul, Nat.reduceSub, Nat.reduceBEq, reduceCtorEq, Int.reduceEq, Int.reduceLT, Int.reduceLE, Int.reduceNeg, Int.reduceToNat, hr, h0, h4, hA, he, hrb]
    rfl
theorem caught_W {H : Heap} {r t : Nat} {R : RunV} {T : TaskV} {n : Int} (hw : WF H) (hrb : base0 ≤ r) (hr : H.get r = some (runB R)) (htb : base0 ≤ t) (ht : H.get t = some (taskB T)) :
   CW Try.prog 45 #[.pointer (some ⟨r, 0, none⟩), .pointer (some ⟨t, 0, none⟩), .int .i64 n] H fun x H' =>
     x = .ret (.tuple #[]) ∧ if T.guard < 0 then H.set t (taskB { T with died := true, n := n }) = H'
       else (H.set t (taskB { T with at_ := T.guard, guard := -1, wait := 0 })).set r (runB { R with regs := upd R.regs 7 n }) = H' := by
  refine CW_k (n := 36) if45 rfl ?_
  unfold C45
  have hrt : r ≠ t := by intro e; subst e; rw [hr] at ht; simp [runB, taskB] at ht
  by_cases hg : T.guard < 0
  · simp -implicitDefEqProofs (maxDischargeDepth := 6) (maxSteps := 1000000) only [go_sem, ↓reduceIte, Nat.reduceLT, Nat.reduceLeDiff, Nat.reduceEqDiff, Nat.reduceAdd, Nat.reduceMul, Nat.reduceSub, Nat.reduceBEq, reduceCtorEq, Int.reduceEq, Int.reduceLT, Int.reduceLE, Int.reduceNeg, Int.reduceToNat, hr, hg, hrb, htb, ht]
  · simp -implicitDefEqProofs (maxDischargeDepth := 6) (maxSteps := 1000000) only [go_sem, ↓reduceIte, Nat.reduceLT, Nat.reduceLeDiff, Nat.reduceEqDiff, Nat.reduceAdd, Nat.reduceMul, Nat.reduceSub, Nat.reduceBEq, reduceCtorEq, Int.reduceEq, Int.reduceLT, Int.reduceLE, Int.reduceNeg, Int.reduceToNat, hr, hg, hrb, htb, ht, hrt]
end Go.Am.T
namespace Go.Am.T
open Go Go.Am Go.Proofs.Ythanhcpnhionaaa Go.Proofs
theorem sliceS_pre {p : Nat → Prop} {H : Heap} {es ty : Nat} {a : Option Addr} {n c k : Nat} {cs : List Value} (h : OwnL p H es ty (.slice a n c) n cs) (h0 : es ≠ 0) (hk : k ≤ n) :
    sliceS H es a n c none (some (.int .i64 (k : Int))) none = some (.slice a k c) := by
  have hb : boundA (some (.int .i64 (k : Int))) n n = some k := by simp [boundA]; omega
  rcases h with ⟨h1, h2, h3⟩ | ⟨b, o, pre, h1, h2, h3, h4, h5, h6⟩
  · simp only [Value.slice.injEq] at h1
    obtain ⟨rfl, rfl, rfl⟩ := h1
    obtain rfl : k = 0 := by omega
    unfold sliceS
    rw [if_neg (by unfold openCap; omega)]
    simp [boundA]
  · simp only [Value.slice.injEq] at h1
    obtain ⟨rfl, _, rfl⟩ := h1
    unfold sliceS
    rw [if_pos rfl]
    have e : ((pre ++ cs).length - o) / es = n := by
      rw [List.length_append, h5, h6, Nat.add_sub_cancel_left]; exact Nat.mul_div_cancel _ (by omega)
    simp [h0, h4]
    simp only [List.length_append] at e
    rw [e, hb]
    simp [boundA]
theorem sliceS_post {p : Nat → Prop} {H : Heap} {es ty : Nat} {a : Option Addr} {n c k : Nat} {cs : List Value} (h : OwnL p H es ty (.slice a n c) n cs) (h0 : es ≠ 0) (hk : k ≤ n) :
    ∃ v, sliceS H es a n c (some (.int .i64 (k : Int))) none none = some v ∧ OwnL p H es ty v (n - k) (cs.drop (k * es)) := by
  have hb : boundA (some (.int .i64 (k : Int))) 0 n = some k := by simp [boundA]; omega
  rcases h with ⟨h1, h2, h3⟩ | ⟨b, o, pre, h1, h2, h3, h4, h5, h6⟩
  · simp only [Value.slice.injEq] at h1
    obtain ⟨rfl, rfl, rfl⟩ := h1
    obtain rfl : k = 0 := by omega
    subst h3
    refine ⟨.slice none 0 0, ?_, .inl ⟨rfl, rfl, by simp⟩⟩
    unfold sliceS
    rw [if_neg (by unfold openCap; omega)]
    simp [boundA]
  · simp only [Value.slice.injEq] at h1
    obtain ⟨rfl, _, rfl⟩ := h1
    refine ⟨.slice (some ⟨b, o + k * es, none⟩) (n - k) openCap, ?_, .inr ⟨b, o + k * es, pre ++ cs.take (k * es), rfl, h2, h3, ?_, ?_, ?_⟩⟩
    · unfold sliceS
      rw [if_pos rfl]
      have e : ((pre ++ cs).length - o) / es = n := by
        rw [List.length_append, h5, h6, Nat.add_sub_cancel_left]; exact Nat.mul_div_cancel _ (by omega)
      simp only [List.length_append] at e
      simp [h0, h4]
      rw [show boundA none n ((pre.length + cs.length - o) / es) = some n from rfl]
      simp [hb]
    · rw [h4, List.append_assoc, List.take_append_drop]
    · have := Nat.mul_le_mul_right es hk
      rw [List.length_append, List.length_take, h5, h6]; omega
    · rw [List.length_drop, h6, Nat.sub_mul]
def setTk (S : Sx) (i : Nat) (t : Tk) : Sx := { S with tk := upd S.tk i t }
def wakeAll (S : Sx) : List Nat → Sx
  | [] => S
  | i :: l => wakeAll (setTk S i { S.tk i with wait := 2 }) l
def wakeM (S : Sx) (c n : Nat) : Sx := { wakeAll S ((S.conds c).take n) with conds := upd S.conds c ((S.conds c).drop n) }
theorem wakeAll_snoc (S : Sx) (l : List Nat) (i : Nat) : wakeAll S (l ++ [i]) = setTk (wakeAll S l) i { (wakeAll S l).tk i with wait := 2 } := by
  induction l generalizing S with
  | nil => rfl
  | cons j l ih => exact ih _
theorem wakeAll_rest (l : List Nat) : ∀ S : Sx, (wakeAll S l).N = S.N ∧ (wakeAll S l).room = S.room ∧ (wakeAll S l).locks = S.locks ∧ (wakeAll S l).conds = S.conds ∧ (wakeAll S l).queues = S.queues ∧ (wakeAll S l).regs = S.regs ∧ (wakeAll S l).last = S.last ∧ (wakeAll S l).trace = S.trace := by
  induction l with
  | nil => intro S; exact ⟨rfl, rfl, rfl, rfl, rfl, rfl, rfl, rfl⟩
  | cons j l ih => intro S; exact ih (setTk S j _)
def CI (S : Sx) : Prop := ∀ j, j < 4 → ∀ i ∈ S.conds j, i < S.N
theorem wake_W {H : Heap} {r : Nat} {M : Mem} {S : Sx} (h : Rep H r M S) (hci : CI S) {C : Int} (h0 : 0 ≤ C) (h4 : C < 4) {n : Nat} (hn : n ≤ (S.conds C.toNat).length) (hbd : (S.conds C.toNat).length ≤ 1000000) :
   CW Try.prog 49 #[.pointer (some ⟨r, 0, none⟩), .int .i64 C, nv n] H fun x H' => x = .ret (.tuple #[]) ∧ ∃ M', Rep H' r M' (wakeM S C.toNat n) ∧ Frm H M H' M' := by
  refine CW_k (n := 44) if49 rfl ?_
  unfold C49
  have hA : C.toNat < 4 := by omega
  have hO := h.cond _ hA (by simp)
  obtain ⟨a, c, ha⟩ := hO.sl
  rw [ha] at hO
  simp -implicitDefEqProofs (maxDischargeDepth := 6) (maxSteps := 1000000) only [go_sem, ↓reduceIte, Nat.reduceLT, Nat.reduceLeDiff, Nat.reduceEqDiff, Nat.reduceAdd, Nat.reduceMul, Nat.reduceSub, Nat.reduceBEq, reduceCtorEq, Int.reduceEq, Int.reduceLT, Int.reduceLE, Int.reduceNeg, Int.reduceToNat, h.run, h0, h4, hA, ha, nv, sliceS_pre hO (by omega) hn, goInt]
  refine Wk_loopF (fun m f H1 => ∃ k, m = n - k ∧ k ≤ n ∧ f.get 0 = some (.pointer (some ⟨r, 0, none⟩)) ∧ f.get 1 = some (.int .i64 C) ∧ f.get 2 = some (nv n) ∧ f.get 15 = some (.slice a n c) ∧ f.get 16 = some (nv n) ∧ f.get 17 = some (nv k) ∧
    Rep H1 r M (wakeAll S ((S.conds C.toNat).take k)) ∧ Frm H M H1 M) n ?_ ?_
  · refine ⟨0, by omega, by omega, ?_, ?_, ?_, ?_, ?_, ?_, h, Frm.refl⟩
    all_goals simp -implicitDefEqProofs (maxDischargeDepth := 6) (maxSteps := 1000000) only [go_sem, ↓reduceIte, Nat.reduceLT, Nat.reduceLeDiff, Nat.reduceEqDiff, Nat.reduceAdd, Nat.reduceMul, Nat.reduceSub, Nat.reduceBEq, reduceCtorEq, Int.reduceEq, Int.reduceLT, Int.reduceLE, Int.reduceNeg, Int.reduceToNat, nv]
    rfl
  · rintro m f H1 ⟨k, rfl, hk, f0, f1, f2, f15, f16, f17, h1, hF⟩
    unfold L49_1
    have hrest := wakeAll_rest ((S.conds C.toNat).take k) S
    have hO1 := h1.cond _ hA (by simp)
    rw [hrest.2.2.2.1, ha] at hO1
    by_cases hlt : k < n
    · have hltZ : (k : Int) < (n : Int) := by omega
      have hk0 : (0 : Int) ≤ (k : Int) := by omega
      have hkl : k < ((S.conds C.toNat).map nv).length := by rw [List.length_map]; omega
      obtain ⟨b, o, c', x, hs, hc, hx, hxk⟩ := hO1.rd.at_ hkl
      simp only [Value.slice.injEq] at hs
      obtain ⟨rfl, _, rfl⟩ := hs
      simp only [List.getElem_map, nv] at hxk
      have hkl' : k < (S.conds C.toNat).length := by omega
      have hiN : (S.conds C.toNat)[k] < S.N := hci _ hA _ (List.getElem_mem hkl')
      generalize hi : (S.conds C.toNat)[k] = i at *
      have hiN1 : i < (wakeAll S ((S.conds C.toNat).take k)).N := by rw [hrest.1]; exact hiN
      obtain ⟨tb, to, tc, tx, htv, htc, htx, htxi⟩ := h1.ptr hiN1
      rw [hrest.1] at htv
      have htk := h1.task i hiN1
      have htb := h1.tkb i hiN1
      have hi0 : (0 : Int) ≤ (i : Int) := by omega
      have hiZ : (i : Int) < (S.N : Int) := by omega
      have hw : IntKind.i64.wrap ((k : Int) + 1) = ((k + 1 : Nat) : Int) := IntWalk.i64_in _ (by omega)
      simp -implicitDefEqProofs (maxDischargeDepth := 6) (maxSteps := 1000000) only [go_sem, ↓reduceIte, Nat.reduceLT, Nat.reduceLeDiff, Nat.reduceEqDiff, Nat.reduceAdd, Nat.reduceMul, Nat.reduceSub, Nat.reduceBEq, reduceCtorEq, Int.reduceEq, Int.reduceLT, Int.reduceLE, Int.reduceNeg, Int.reduceToNat, f0, f1, f2, f15, f16, f17, nv, hltZ, hk0, hc, hx, hxk, h1.run, htv, htc, htx, htxi, htk, htb, hi0, hiZ, hw]
      have hT := h1.setTask hiN1 (t := { (wakeAll S ((S.conds C.toNat).take k)).tk i with wait := 2 }) rfl
      have hst : ({ (wakeAll S ((S.conds C.toNat).take k)) with tk := upd (wakeAll S ((S.conds C.toNat).take k)).tk i { (wakeAll S ((S.conds C.toNat).take k)).tk i with wait := 2 } } : Sx) = wakeAll S ((S.conds C.toNat).take (k + 1)) := by
        rw [List.take_succ_eq_append_getElem hkl', wakeAll_snoc, hi]; rfl
      rw [hst] at hT
      refine ⟨n - (k + 1), by omega, k + 1, rfl, by omega, ?_, ?_, ?_, ?_, ?_, ?_, hT, hF.trans (Frm.set (by rw [h1.tko i hiN1]; simp) _ rfl rfl rfl)⟩
      all_goals simp -implicitDefEqProofs (maxDischargeDepth := 6) (maxSteps := 1000000) only [go_sem, ↓reduceIte, Nat.reduceLT, Nat.reduceLeDiff, Nat.reduceEqDiff, Nat.reduceAdd, Nat.reduceMul, Nat.reduceSub, Nat.reduceBEq, reduceCtorEq, Int.reduceEq, Int.reduceLT, Int.reduceLE, Int.reduceNeg, Int.reduceToNat, f0, f1, f2, f15, f16, f17, nv]
    · have hltZ : ¬ (k : Int) < (n : Int) := by omega
      obtain rfl : k = n := by omega
      obtain ⟨v', hv', hO'⟩ := sliceS_post hO1 (by omega) hn
      obtain ⟨a', c', rfl⟩ := hO'.sl
      have hb := h1.rb
      simp -implicitDefEqProofs (maxDischargeDepth := 6) (maxSteps := 1000000) only [go_sem, ↓reduceIte, Nat.reduceLT, Nat.reduceLeDiff, Nat.reduceEqDiff, Nat.reduceAdd, Nat.reduceMul, Nat.reduceSub, Nat.reduceBEq, reduceCtorEq, Int.reduceEq, Int.reduceLT, Int.reduceLE, Int.reduceNeg, Int.reduceToNat, f0, f1, f2, f15, f16, f17, nv, hltZ, h1.run, h0, h4, hA, hrest.2.2.2.1, ha, hv', hb]
      have h2 := h1.ext ((Ext.refl h1.wf).bump 15)
      have h3 := h2.setRun (M' := { M with cv := upd M.cv C.toNat (.slice a' ((S.conds C.toNat).length - k) c') }) (S' := wakeM S C.toNat k) rfl rfl rfl rfl rfl rfl ?_ (fun j hj => h2.queue j hj (by simp)) (h2.trace (by simp))
      · exact ⟨{ M with cv := upd M.cv C.toNat (.slice a' ((S.conds C.toNat).length - k) c') }, h3, (hF.trans (Frm.ext ((Ext.refl h1.wf).bump 15))).trans (Frm.set (b := r) (M := M) (by rw [h1.ro]; simp) _ rfl rfl rfl)⟩
      · intro j hj
        by_cases e : j = C.toNat
        · subst e
          simp only [wakeM, upd_same, List.length_drop, List.map_drop]
          have := hO'
          rw [Nat.mul_one] at this
          exact this
        · simp only [wakeM, upd_ne e]
          have := h2.cond j hj (by simp)
          rw [hrest.2.2.2.1] at this
          exact this
end Go.Am.T
namespace Go.Am.T
open Go Go.Am Go.Proofs.Ythanhcpnhionaaa Go.Proofs
theorem RepX.ne_rt {ex : Option Role} {H : Heap} {r : Nat} {M : Mem} {S : Sx} (h : RepX ex H r M S) {i : Nat} (hi : i < S.N) : r ≠ M.ta i := by
  intro e
  have h1 := h.ro
  have h2 := h.tko i hi
  rw [← e, h1] at h2; cases h2
def waitS2 (S : Sx) (i : Nat) (a : Act) : Sx := { setTk S i { S.tk i with wait := 0 } with locks := upd S.locks a.b.toNat i }
def waitS0 (S : Sx) (i : Nat) (a : Act) : Sx := { setTk S i { S.tk i with wait := 1 } with locks := upd S.locks a.b.toNat (-1), conds := upd S.conds a.a.toNat (S.conds a.a.toNat ++ [i]) }
theorem wait2_W {H : Heap} {r : Nat} {M : Mem} {S : Sx} (h : Rep H r M S) {i : Nat} (hi : i < S.N) {a : Act} (hb0 : 0 ≤ a.b) (hb4 : a.b < 4) (hw : (S.tk i).wait ≠ 0) :
   CW Try.prog 48 #[.pointer (some ⟨r, 0, none⟩), nv i, .pointer (some ⟨M.ta i, 0, none⟩), .agg a.cells.toArray] H fun x H' => x = .ret (.bool true) ∧ ∃ M', Rep H' r M' (waitS2 S i a) ∧ Frm H M H' M' := by
  refine CW_k (n := 48) if48 rfl ?_
  unfold C48
  have hA : a.b.toNat < 4 := by omega
  have htk := h.task i hi
  have htb := h.tkb i hi
  have hrb := h.rb
  have hnb := h.wf.1
  have hrl := h.lt r (by rw [h.ro]; simp)
  have htl := h.lt (M.ta i) (by rw [h.tko i hi]; simp)
  have hne := h.ne_rt hi
  have hne' := hne.symm
  simp -implicitDefEqProofs (maxDischargeDepth := 6) (maxSteps := 1000000) only [go_sem, ↓reduceIte, Nat.reduceLT, Nat.reduceLeDiff, Nat.reduceEqDiff, Nat.reduceAdd, Nat.reduceMul, Nat.reduceSub, Nat.reduceBEq, reduceCtorEq, Int.reduceEq, Int.reduceLT, Int.reduceLE, Int.reduceNeg, Int.reduceToNat, h.run, htk, htb, hrb, hnb, hrl, htl, hb0, hb4, hA, hw, hne, hne', nv]
  have h1 := h.ext ((Ext.refl h.wf).alloc (⟨47, 0, false, a.cells⟩ : Blk))
  have h2 := (h1.setTask hi (t := { S.tk i with wait := 0 }) rfl).ext (Ext.bump (Ext.refl (h1.setTask hi (t := { S.tk i with wait := 0 }) rfl).wf) 9)
  have h3 := h2.setRun (M' := M) (S' := waitS2 S i a) rfl rfl rfl rfl rfl rfl (fun j hj => h2.cond j hj (by simp)) (fun j hj => h2.queue j hj (by simp)) (h2.trace (by simp))
  exact ⟨M, h3, ((Frm.ext ((Ext.refl h.wf).alloc _)).trans ((Frm.set (b := M.ta i) (by rw [h.tko i hi]; simp) _ rfl rfl rfl).trans (Frm.ext (Ext.bump (Ext.refl (h1.setTask hi (t := { S.tk i with wait := 0 }) rfl).wf) 9)))).trans (Frm.set (by rw [h1.ro]; simp) _ rfl rfl rfl)⟩
theorem wait0_W {H : Heap} {r : Nat} {M : Mem} {S : Sx} (h : Rep H r M S) {i : Nat} (hi : i < S.N) {a : Act} (hb0 : 0 ≤ a.b) (hb4 : a.b < 4) (ha0 : 0 ≤ a.a) (ha4 : a.a < 4) (hw : (S.tk i).wait = 0) (hbd : (S.conds a.a.toNat).length ≤ 1000000) :
   CW Try.prog 48 #[.pointer (some ⟨r, 0, none⟩), nv i, .pointer (some ⟨M.ta i, 0, none⟩), .agg a.cells.toArray] H fun x H' =>
     if S.locks a.b.toNat = i then x = .ret (.bool false) ∧ ∃ M', Rep H' r M' (waitS0 S i a) ∧ Frm H M H' M'
     else x = .pan (boom (-1)) ∧ Ext H H' := by
  refine CW_k (n := 48) if48 rfl ?_
  unfold C48
  have hA : a.b.toNat < 4 := by omega
  have hA2 : a.a.toNat < 4 := by omega
  have htk := h.task i hi
  have htb := h.tkb i hi
  have hrb := h.rb
  have hnb := h.wf.1
  have hrl := h.lt r (by rw [h.ro]; simp)
  have htl := h.lt (M.ta i) (by rw [h.tko i hi]; simp)
  have hne := h.ne_rt hi
  have hne' := hne.symm
  simp -implicitDefEqProofs (maxDischargeDepth := 6) (maxSteps := 1000000) only [go_sem, ↓reduceIte, Nat.reduceLT, Nat.reduceLeDiff, Nat.reduceEqDiff, Nat.reduceAdd, Nat.reduceMul, Nat.reduceSub, Nat.reduceBEq, reduceCtorEq, Int.reduceEq, Int.reduceLT, Int.reduceLE, Int.reduceNeg, Int.reduceToNat, h.run, htk, htb, hrb, hnb, hrl, htl, hb0, hb4, hA, hw, hne, hne', nv]
  have hE := (Ext.refl h.wf).alloc (⟨47, 0, false, a.cells⟩ : Blk)
  refine CW_mono _ (free_W hE.wf hrb (hE.of h.wf h.run) hb0 hb4) ?_
  by_cases hl : S.locks a.b.toNat = i
  · have hl' : (Go.Am.T.rv M S).locks a.b.toNat = i := hl
    rintro x H' hx
    rw [if_pos hl'] at hx
    obtain ⟨rfl, rfl⟩ := hx
    obtain ⟨ca, cc, hcv⟩ := (h.cond _ hA2 (by simp)).sl
    simp -implicitDefEqProofs (maxDischargeDepth := 6) (maxSteps := 1000000) only [go_sem, ↓reduceIte, Nat.reduceLT, Nat.reduceLeDiff, Nat.reduceEqDiff, Nat.reduceAdd, Nat.reduceMul, Nat.reduceSub, Nat.reduceBEq, reduceCtorEq, Int.reduceEq, Int.reduceLT, Int.reduceLE, Int.reduceNeg, Int.reduceToNat, h.run, htk, htb, hrb, hnb, hrl, htl, hb0, hb4, ha0, ha4, hA, hA2, hw, hne, hne', nv, hcv]
    refine Wk_w_c rfl rfl ?_
    simp -implicitDefEqProofs (maxDischargeDepth := 6) (maxSteps := 1000000) only [go_sem, ↓reduceIte, Nat.reduceLT, Nat.reduceLeDiff, Nat.reduceEqDiff, Nat.reduceAdd, Nat.reduceMul, Nat.reduceSub, Nat.reduceBEq, reduceCtorEq, Int.reduceEq, Int.reduceLT, Int.reduceLE, Int.reduceNeg, Int.reduceToNat, h.run, htk, htb, hrb, hnb, hrl, htl, hb0, hb4, ha0, ha4, hA, hA2, hw, hne, hne', nv, hcv]
    have h1 := h.ext hE
    have h2 := h1.setRun (M' := M) (S' := { S with locks := upd S.locks a.b.toNat (-1) }) rfl rfl rfl rfl rfl rfl (fun j hj => h1.cond j hj (by simp)) (fun j hj => h1.queue j hj (by simp)) (h1.trace (by simp))
    have h3 := h2.setTask hi (t := { S.tk i with wait := 1 }) rfl
    have hF3 := ((Frm.ext (M := M) hE).trans (Frm.set (M' := M) (b := r) (by rw [h1.ro]; simp) (runB (Go.Am.T.rv M { S with locks := upd S.locks a.b.toNat (-1) })) rfl rfl rfl)).trans (Frm.set (M' := M) (b := M.ta i) (by rw [h.tko i hi]; simp) (taskB (tkV (M.av i) { S.tk i with wait := 1 })) rfl rfl rfl)
    have h5 := h3.ext ((Ext.bump (Ext.refl h3.wf) 18).set (b := H.next + 1 + 11) (by simp only [next_set, next_alloc]; omega) (by simp only [next_bump, next_set, next_alloc]; omega) ⟨3, 0, false, [.int .i64 (i : Int)]⟩)
    have hOc := h5.cond _ hA2 (by simp)
    rw [hcv] at hOc
    obtain ⟨H6, ha6, h6, hO6, hF6, hn6, hk6⟩ := h5.append (.cond a.a.toNat) (by simp) (by simp) (by simp) (bytes := 8) (nb := H.next + 1 + 11) (x := ⟨3, 0, false, [nv i]⟩) (vs := [nv i]) hOc (get_set_eq (by omega)) rfl rfl (by omega) rfl (by omega) (by omega)
    refine cK_vh ha6 ?_
    have hr6 := h6.run
    have hcell := hk6 H.next ⟨47, 0, false, a.cells⟩ (by simp -implicitDefEqProofs (maxDischargeDepth := 6) (maxSteps := 1000000) only [go_sem, ↓reduceIte, Nat.reduceLT, Nat.reduceLeDiff, Nat.reduceEqDiff, Nat.reduceAdd, Nat.reduceMul, Nat.reduceSub, Nat.reduceBEq, reduceCtorEq, Int.reduceEq, Int.reduceLT, Int.reduceLE, Int.reduceNeg, Int.reduceToNat, hnb, hrl, htl, hne, hne']) (by
      have := h.lt H.next; by_cases e : M.own H.next = none
      · exact e
      · exact absurd (this e) (by omega))
    have hn6' := h6.wf.1
    simp -implicitDefEqProofs (maxDischargeDepth := 6) (maxSteps := 1000000) only [go_sem, ↓reduceIte, Nat.reduceLT, Nat.reduceLeDiff, Nat.reduceEqDiff, Nat.reduceAdd, Nat.reduceMul, Nat.reduceSub, Nat.reduceBEq, reduceCtorEq, Int.reduceEq, Int.reduceLT, Int.reduceLE, Int.reduceNeg, Int.reduceToNat, hr6, hcell, hn6']
    refine cK_some ?_ ?_
    · simp -implicitDefEqProofs (maxDischargeDepth := 6) (maxSteps := 1000000) only [go_sem, ↓reduceIte, Nat.reduceLT, Nat.reduceLeDiff, Nat.reduceEqDiff, Nat.reduceAdd, Nat.reduceMul, Nat.reduceSub, Nat.reduceBEq, reduceCtorEq, Int.reduceEq, Int.reduceLT, Int.reduceLE, Int.reduceNeg, Int.reduceToNat, reK, hcell]
    · simp -implicitDefEqProofs (maxDischargeDepth := 6) (maxSteps := 1000000) only [go_sem, ↓reduceIte, Nat.reduceLT, Nat.reduceLeDiff, Nat.reduceEqDiff, Nat.reduceAdd, Nat.reduceMul, Nat.reduceSub, Nat.reduceBEq, reduceCtorEq, Int.reduceEq, Int.reduceLT, Int.reduceLE, Int.reduceNeg, Int.reduceToNat, hr6, hcell, hn6', ha0, ha4, hA2, hrb]
      refine Wk_w_c rfl rfl ?_
      simp -implicitDefEqProofs (maxDischargeDepth := 6) (maxSteps := 1000000) only [go_sem, ↓reduceIte, Nat.reduceLT, Nat.reduceLeDiff, Nat.reduceEqDiff, Nat.reduceAdd, Nat.reduceMul, Nat.reduceSub, Nat.reduceBEq, reduceCtorEq, Int.reduceEq, Int.reduceLT, Int.reduceLE, Int.reduceNeg, Int.reduceToNat, hr6, hcell, hn6', ha0, ha4, hA2, hrb]
      rw [if_pos hl]
      have h7 := h6.setRun (M' := { M with own := upd M.own (H.next + 1 + 18) (some (.cond a.a.toNat)), cv := upd M.cv a.a.toNat (.slice (some ⟨H.next + 1 + 18, 0, none⟩) ((S.conds a.a.toNat).length + 1) openCap) }) (S' := waitS0 S i a) (by simp only [next_bump, next_set, next_alloc]) rfl rfl rfl rfl rfl ?_ (fun j hj => h6.queue j hj (by simp)) (h6.trace (by simp))
      · exact ⟨_, h7, ((hF3.trans (Frm.ext (M := M) ((Ext.bump (Ext.refl h3.wf) 18).set (b := H.next + 1 + 11) (by simp only [next_set, next_alloc]; omega) (by simp only [next_bump, next_set, next_alloc]; omega) ⟨3, 0, false, [.int .i64 (i : Int)]⟩))).trans hF6).trans (Frm.set (by rw [h6.ro]; simp) _ (by simp only [next_bump, next_set, next_alloc]) rfl rfl)⟩
      · intro j hj
        by_cases e : j = a.a.toNat
        · subst e
          simp only [waitS0, upd_same, List.length_append, List.map_append]
          simp only [next_bump, next_set, next_alloc] at hO6 ⊢
          exact hO6
        · simp only [waitS0, upd_ne e]
          exact h6.cond j hj (by simp; exact fun x => e x.symm)
  · have hl' : ¬ (Go.Am.T.rv M S).locks a.b.toNat = i := hl
    rintro x H' hx
    rw [if_neg hl'] at hx
    obtain ⟨rfl, rfl⟩ := hx
    simp -implicitDefEqProofs (maxDischargeDepth := 6) (maxSteps := 1000000) only [go_sem, ↓reduceIte, Nat.reduceLT, Nat.reduceLeDiff, Nat.reduceEqDiff, Nat.reduceAdd, Nat.reduceMul, Nat.reduceSub, Nat.reduceBEq, reduceCtorEq, Int.reduceEq, Int.reduceLT, Int.reduceLE, Int.reduceNeg, Int.reduceToNat, hl]
    exact hE
end Go.Am.T
namespace Go.Am.T
open Go Go.Am Go.Proofs.Ythanhcpnhionaaa Go.Proofs
def adv (S : Sx) (i : Nat) : Sx := setTk S i { S.tk i with at_ := (S.tk i).at_ + 1 }
def doA (S : Sx) (i : Nat) (a : Act) : Sx × Option Int :=
  if a.k = 1 then (adv { S with locks := upd S.locks a.a.toNat i } i, none)
  else if a.k = 2 then if S.locks a.a.toNat = i then (adv { S with locks := upd S.locks a.a.toNat (-1) } i, none) else (S, some (-1))
  else if a.k = 3 then
    if (S.tk i).wait = 0 then if S.locks a.b.toNat = i then (waitS0 S i a, none) else (S, some (-1))
    else (adv (waitS2 S i a) i, none)
  else if a.k = 4 then (adv (wakeM S a.a.toNat (min 1 (S.conds a.a.toNat).length)) i, none)
  else if a.k = 5 then (adv (wakeM S a.a.toNat (S.conds a.a.toNat).length) i, none)
  else if a.k = 6 then (adv { S with queues := upd S.queues a.a.toNat (S.queues a.a.toNat ++ [a.n]) } i, none)
  else if a.k = 7 then (adv { S with regs := upd S.regs a.b.toNat ((S.queues a.a.toNat).headD 0), queues := upd S.queues a.a.toNat (S.queues a.a.toNat).tail } i, none)
  else if a.k = 8 then (adv { S with regs := upd S.regs a.a.toNat (IntKind.i64.wrap (S.regs a.a.toNat + a.n)) } i, none)
  else if a.k = 9 then (adv { S with regs := upd S.regs a.b.toNat (S.regs a.a.toNat) } i, none)
  else if a.k = 10 then
    if S.regs a.a.toNat = 0 then (adv (setTk S i { S.tk i with at_ := min ((S.tk i).at_ + a.n.toNat) (S.tk i).acts.length }) i, none)
    else (adv S i, none)
  else if a.k = 12 then (S, some a.n)
  else if a.k = 13 then (adv (setTk S i { S.tk i with guard := a.n }) i, none)
  else (adv S i, none)
def DoPost (H : Heap) (r : Nat) (M : Mem) (S : Sx) (d : Sx × Option Int) (x : CR) (H' : Heap) : Prop :=
  match d.2 with
  | none => x = .ret (.tuple #[]) ∧ ∃ M', Rep H' r M' d.1 ∧ Frm H M H' M'
  | some n => x = .pan (boom n) ∧ Ext H H'
theorem DoPost.ok {H H' : Heap} {r : Nat} {M : Mem} {S S1 : Sx} (h : ∃ M', Rep H' r M' S1 ∧ Frm H M H' M') : DoPost H r M S (S1, none) (.ret (.tuple #[])) H' := ⟨rfl, h⟩
theorem DoPost.pan {H H' : Heap} {r : Nat} {M : Mem} {S S1 : Sx} {n : Int} (h : Ext H H') : DoPost H r M S (S1, some n) (.pan (boom n)) H' := ⟨rfl, h⟩
theorem Rep_fin {H G : Heap} {r : Nat} {M M1 : Mem} {S1 : Sx} (h : Rep G r M1 S1) (hF : Frm H M G M1) {i : Nat} (hi : i < S1.N) : ∃ M', Rep (G.set (M1.ta i) (taskB (tkV (M1.av i) { S1.tk i with at_ := (S1.tk i).at_ + 1 }))) r M' (adv S1 i) ∧ Frm H M (G.set (M1.ta i) (taskB (tkV (M1.av i) { S1.tk i with at_ := (S1.tk i).at_ + 1 }))) M' :=
  ⟨M1, h.setTask hi rfl, hF.trans (Frm.set (by rw [h.tko i hi]; simp) _ rfl rfl rfl)⟩
theorem Rep_run {G : Heap} {r : Nat} {M : Mem} {S : Sx} (h : Rep G r M S) (k : Nat) {S1 : Sx} (eN : S1.N = S.N) (etk : S1.tk = S.tk) (ec : S1.conds = S.conds) (eq : S1.queues = S.queues) (et : S1.trace = S.trace) :
    Rep ((bump G k).set r (runB (rv M S1))) r M S1 ∧ Frm G M ((bump G k).set r (runB (rv M S1))) M := by
  have h2 := h.ext (Ext.bump (Ext.refl h.wf) k)
  refine ⟨h2.setRun rfl rfl rfl rfl eN etk (fun j hj => ?_) (fun j hj => ?_) ?_, (Frm.ext (Ext.bump (Ext.refl h.wf) k)).trans (Frm.set (by rw [h2.ro]; simp) _ rfl rfl rfl)⟩
  · rw [ec]; exact h2.cond j hj (by simp)
  · rw [eq]; exact h2.queue j hj (by simp)
  · rw [et]; exact h2.trace (by simp)
theorem do_1 {H : Heap} {r : Nat} {M : Mem} {S : Sx} (h : Rep H r M S) {i : Nat} (hi : i < S.N) (hat : (S.tk i).at_ < (S.tk i).acts.length) (hlen : (S.tk i).acts.length ≤ 65536) (hV : Valid (S.tk i).acts.length (S.tk i).acts[(S.tk i).at_])
    (hk : (S.tk i).acts[(S.tk i).at_].k = 1) :
   CW Try.prog 46 #[.pointer (some ⟨r, 0, none⟩), nv i, .pointer (some ⟨M.ta i, 0, none⟩)] H (DoPost H r M S (doA S i (S.tk i).acts[(S.tk i).at_])) := by
  refine CW_k (n := 190) if46 rfl ?_
  unfold C46
  have htk := h.task i hi
  have htb := h.tkb i hi
  simp -implicitDefEqProofs (maxDischargeDepth := 6) (maxSteps := 1000000) only [go_sem, ↓reduceIte, Nat.reduceLT, Nat.reduceLeDiff, Nat.reduceEqDiff, Nat.reduceAdd, Nat.reduceMul, Nat.reduceSub, Nat.reduceBEq, reduceCtorEq, Int.reduceEq, Int.reduceLT, Int.reduceLE, Int.reduceNeg, Int.reduceToNat, nv]
  refine CW_mono _ (act_W h.wf htk (h.actsAt hi) hat rfl) ?_
  rintro _ H1 ⟨rfl, hE1⟩
  generalize (S.tk i).acts[(S.tk i).at_] = a at *
  have hE := hE1.alloc (⟨47, 0, false, [.int .i64 0, .int .i64 0, .int .i64 0, .int .i64 0]⟩ : Blk)
  have hE2 := hE.set (b := H1.next) hE1.le (by simp only [next_alloc]; omega) (⟨47, 0, false, a.cells⟩ : Blk)
  have h1 := h.ext hE2
  have hnb := hE1.wf.1
  have hcell : ((H1.alloc (⟨47, 0, false, [.int .i64 0, .int .i64 0, .int .i64 0, .int .i64 0]⟩ : Blk)).set H1.next ⟨47, 0, false, a.cells⟩).get H1.next = some ⟨47, 0, false, a.cells⟩ := get_set_eq hnb
  have hnx : ((H1.alloc (⟨47, 0, false, [.int .i64 0, .int .i64 0, .int .i64 0, .int .i64 0]⟩ : Blk)).set H1.next ⟨47, 0, false, a.cells⟩).next = H1.next + 1 := by simp only [next_set, next_alloc]
  have hon : M.own H1.next = none := by
    have h2 := h.lt H1.next; by_cases e : M.own H1.next = none
    · exact e
    · exact absurd (h2 e) (by have := hE1.le; omega)
  simp -implicitDefEqProofs (maxDischargeDepth := 6) (maxSteps := 1000000) only [go_sem, ↓reduceIte, Nat.reduceLT, Nat.reduceLeDiff, Nat.reduceEqDiff, Nat.reduceAdd, Nat.reduceMul, Nat.reduceSub, Nat.reduceBEq, reduceCtorEq, Int.reduceEq, Int.reduceLT, Int.reduceLE, Int.reduceNeg, Int.reduceToNat, hnb]
  generalize hG : (H1.alloc (⟨47, 0, false, [.int .i64 0, .int .i64 0, .int .i64 0, .int .i64 0]⟩ : Blk)).set H1.next ⟨47, 0, false, a.cells⟩ = G at *
  have htk1 := h1.task i hi
  have hr1 := h1.run
  have hrb := h1.rb
  have hgb := h1.wf.1
  have hrl := h1.lt r (by rw [h1.ro]; simp)
  have htl := h1.lt (M.ta i) (by rw [h1.tko i hi]; simp)
  have hne := h.ne_rt hi
  have hrn : r < H1.next := by have := h.lt r (by rw [h.ro]; simp); have := hE1.le; omega
  have hne' := hne.symm
  have hwr : IntKind.i64.wrap (((S.tk i).at_ : Int) + 1) = (((S.tk i).at_ + 1 : Nat) : Int) := IntWalk.i64_in _ (by omega)
  obtain ⟨h0, h4⟩ := hV.a4 (by omega)
  have hA : a.a.toNat < 4 := by omega
  simp -implicitDefEqProofs (maxDischargeDepth := 6) (maxSteps := 1000000) only [go_sem, ↓reduceIte, Nat.reduceLT, Nat.reduceLeDiff, Nat.reduceEqDiff, Nat.reduceAdd, Nat.reduceMul, Nat.reduceSub, Nat.reduceBEq, reduceCtorEq, Int.reduceEq, Int.reduceLT, Int.reduceLE, Int.reduceNeg, Int.reduceToNat, hk, h0, h4, hA, htk1, hr1, hrb, hgb, hrl, htl, hne, hne', hwr, hcell, htb, nv]
  have hd : doA S i a = (adv { S with locks := upd S.locks a.a.toNat i } i, none) := by simp [doA, hk]
  rw [hd]
  obtain ⟨hR, hF⟩ := Rep_run h1 9 (S1 := { S with locks := upd S.locks a.a.toNat i }) rfl rfl rfl rfl rfl
  exact DoPost.ok (Rep_fin hR ((Frm.ext hE2).trans hF) hi)
theorem do_2 {H : Heap} {r : Nat} {M : Mem} {S : Sx} (h : Rep H r M S) {i : Nat} (hi : i < S.N) (hat : (S.tk i).at_ < (S.tk i).acts.length) (hlen : (S.tk i).acts.length ≤ 65536) (hV : Valid (S.tk i).acts.length (S.tk i).acts[(S.tk i).at_])
    (hk : (S.tk i).acts[(S.tk i).at_].k = 2) :
   CW Try.prog 46 #[.pointer (some ⟨r, 0, none⟩), nv i, .pointer (some ⟨M.ta i, 0, none⟩)] H (DoPost H r M S (doA S i (S.tk i).acts[(S.tk i).at_])) := by
  refine CW_k (n := 190) if46 rfl ?_
  unfold C46
  have htk := h.task i hi
  have htb := h.tkb i hi
  simp -implicitDefEqProofs (maxDischargeDepth := 6) (maxSteps := 1000000) only [go_sem, ↓reduceIte, Nat.reduceLT, Nat.reduceLeDiff, Nat.reduceEqDiff, Nat.reduceAdd, Nat.reduceMul, Nat.reduceSub, Nat.reduceBEq, reduceCtorEq, Int.reduceEq, Int.reduceLT, Int.reduceLE, Int.reduceNeg, Int.reduceToNat, nv]
  refine CW_mono _ (act_W h.wf htk (h.actsAt hi) hat rfl) ?_
  rintro _ H1 ⟨rfl, hE1⟩
  generalize (S.tk i).acts[(S.tk i).at_] = a at *
  have hE := hE1.alloc (⟨47, 0, false, [.int .i64 0, .int .i64 0, .int .i64 0, .int .i64 0]⟩ : Blk)
  have hE2 := hE.set (b := H1.next) hE1.le (by simp only [next_alloc]; omega) (⟨47, 0, false, a.cells⟩ : Blk)
  have h1 := h.ext hE2
  have hnb := hE1.wf.1
  have hcell : ((H1.alloc (⟨47, 0, false, [.int .i64 0, .int .i64 0, .int .i64 0, .int .i64 0]⟩ : Blk)).set H1.next ⟨47, 0, false, a.cells⟩).get H1.next = some ⟨47, 0, false, a.cells⟩ := get_set_eq hnb
  have hnx : ((H1.alloc (⟨47, 0, false, [.int .i64 0, .int .i64 0, .int .i64 0, .int .i64 0]⟩ : Blk)).set H1.next ⟨47, 0, false, a.cells⟩).next = H1.next + 1 := by simp only [next_set, next_alloc]
  have hon : M.own H1.next = none := by
    have h2 := h.lt H1.next; by_cases e : M.own H1.next = none
    · exact e
    · exact absurd (h2 e) (by have := hE1.le; omega)
  simp -implicitDefEqProofs (maxDischargeDepth := 6) (maxSteps := 1000000) only [go_sem, ↓reduceIte, Nat.reduceLT, Nat.reduceLeDiff, Nat.reduceEqDiff, Nat.reduceAdd, Nat.reduceMul, Nat.reduceSub, Nat.reduceBEq, reduceCtorEq, Int.reduceEq, Int.reduceLT, Int.reduceLE, Int.reduceNeg, Int.reduceToNat, hnb]
  generalize hG : (H1.alloc (⟨47, 0, false, [.int .i64 0, .int .i64 0, .int .i64 0, .int .i64 0]⟩ : Blk)).set H1.next ⟨47, 0, false, a.cells⟩ = G at *
  have htk1 := h1.task i hi
  have hr1 := h1.run
  have hrb := h1.rb
  have hgb := h1.wf.1
  have hrl := h1.lt r (by rw [h1.ro]; simp)
  have htl := h1.lt (M.ta i) (by rw [h1.tko i hi]; simp)
  have hne := h.ne_rt hi
  have hrn : r < H1.next := by have := h.lt r (by rw [h.ro]; simp); have := hE1.le; omega
  have hne' := hne.symm
  have hwr : IntKind.i64.wrap (((S.tk i).at_ : Int) + 1) = (((S.tk i).at_ + 1 : Nat) : Int) := IntWalk.i64_in _ (by omega)
  obtain ⟨h0, h4⟩ := hV.a4 (by omega)
  have hA : a.a.toNat < 4 := by omega
  simp -implicitDefEqProofs (maxDischargeDepth := 6) (maxSteps := 1000000) only [go_sem, ↓reduceIte, Nat.reduceLT, Nat.reduceLeDiff, Nat.reduceEqDiff, Nat.reduceAdd, Nat.reduceMul, Nat.reduceSub, Nat.reduceBEq, reduceCtorEq, Int.reduceEq, Int.reduceLT, Int.reduceLE, Int.reduceNeg, Int.reduceToNat, hk, h0, h4, hA, htk1, hr1, hrb, hgb, hrl, htl, hne, hne', hwr, hcell, htb, nv]
  refine CW_mono _ (free_W h1.wf hrb hr1 h0 h4) ?_
  by_cases hl : S.locks a.a.toNat = i
  · have hl' : (rv M S).locks a.a.toNat = i := hl
    rintro x H' hx
    rw [if_pos hl'] at hx
    obtain ⟨rfl, rfl⟩ := hx
    simp -implicitDefEqProofs (maxDischargeDepth := 6) (maxSteps := 1000000) only [go_sem, ↓reduceIte, Nat.reduceLT, Nat.reduceLeDiff, Nat.reduceEqDiff, Nat.reduceAdd, Nat.reduceMul, Nat.reduceSub, Nat.reduceBEq, reduceCtorEq, Int.reduceEq, Int.reduceLT, Int.reduceLE, Int.reduceNeg, Int.reduceToNat, htk1, hr1, hrb, hgb, hrl, htl, hne, hne', hwr, hcell, htb, nv]
    have hd : doA S i a = (adv { S with locks := upd S.locks a.a.toNat (-1) } i, none) := by simp [doA, hk, hl]
    rw [hd]
    obtain ⟨hR, hF⟩ := Rep_run h1 0 (S1 := { S with locks := upd S.locks a.a.toNat (-1) }) rfl rfl rfl rfl rfl
    exact DoPost.ok (Rep_fin hR ((Frm.ext hE2).trans hF) hi)
  · have hl' : ¬ (rv M S).locks a.a.toNat = i := hl
    rintro x H' hx
    rw [if_neg hl'] at hx
    obtain ⟨rfl, rfl⟩ := hx
    simp -implicitDefEqProofs (maxDischargeDepth := 6) (maxSteps := 1000000) only [go_sem, ↓reduceIte, Nat.reduceLT, Nat.reduceLeDiff, Nat.reduceEqDiff, Nat.reduceAdd, Nat.reduceMul, Nat.reduceSub, Nat.reduceBEq, reduceCtorEq, Int.reduceEq, Int.reduceLT, Int.reduceLE, Int.reduceNeg, Int.reduceToNat, htk1, hr1, hrb, hgb, hrl, htl, hne, hne', hwr, hcell, htb, nv]
    have hd : doA S i a = (S, some (-1)) := by simp [doA, hk, hl]
    rw [hd]
    exact DoPost.pan hE2
theorem do_8 {H : Heap} {r : Nat} {M : Mem} {S : Sx} (h : Rep H r M S) {i : Nat} (hi : i < S.N) (hat : (S.tk i).at_ < (S.tk i).acts.length) (hlen : (S.tk i).acts.length ≤ 65536) (hV : Valid (S.tk i).acts.length (S.tk i).acts[(S.tk i).at_])
    (hk : (S.tk i).acts[(S.tk i).at_].k = 8) :
   CW Try.prog 46 #[.pointer (some ⟨r, 0, none⟩), nv i, .pointer (some ⟨M.ta i, 0, none⟩)] H (DoPost H r M S (doA S i (S.tk i).acts[(S.tk i).at_])) := by
  refine CW_k (n := 190) if46 rfl ?_
  unfold C46
  have htk := h.task i hi
  have htb := h.tkb i hi
  simp -implicitDefEqProofs (maxDischargeDepth := 6) (maxSteps := 1000000) only [go_sem, ↓reduceIte, Nat.reduceLT, Nat.reduceLeDiff, Nat.reduceEqDiff, Nat.reduceAdd, Nat.reduceMul, Nat.reduceSub, Nat.reduceBEq, reduceCtorEq, Int.reduceEq, Int.reduceLT, Int.reduceLE, Int.reduceNeg, Int.reduceToNat, nv]
  refine CW_mono _ (act_W h.wf htk (h.actsAt hi) hat rfl) ?_
  rintro _ H1 ⟨rfl, hE1⟩
  generalize (S.tk i).acts[(S.tk i).at_] = a at *
  have hE := hE1.alloc (⟨47, 0, false, [.int .i64 0, .int .i64 0, .int .i64 0, .int .i64 0]⟩ : Blk)
  have hE2 := hE.set (b := H1.next) hE1.le (by simp only [next_alloc]; omega) (⟨47, 0, false, a.cells⟩ : Blk)
  have h1 := h.ext hE2
  have hnb := hE1.wf.1
  have hcell : ((H1.alloc (⟨47, 0, false, [.int .i64 0, .int .i64 0, .int .i64 0, .int .i64 0]⟩ : Blk)).set H1.next ⟨47, 0, false, a.cells⟩).get H1.next = some ⟨47, 0, false, a.cells⟩ := get_set_eq hnb
  have hnx : ((H1.alloc (⟨47, 0, false, [.int .i64 0, .int .i64 0, .int .i64 0, .int .i64 0]⟩ : Blk)).set H1.next ⟨47, 0, false, a.cells⟩).next = H1.next + 1 := by simp only [next_set, next_alloc]
  have hon : M.own H1.next = none := by
    have h2 := h.lt H1.next; by_cases e : M.own H1.next = none
    · exact e
    · exact absurd (h2 e) (by have := hE1.le; omega)
  simp -implicitDefEqProofs (maxDischargeDepth := 6) (maxSteps := 1000000) only [go_sem, ↓reduceIte, Nat.reduceLT, Nat.reduceLeDiff, Nat.reduceEqDiff, Nat.reduceAdd, Nat.reduceMul, Nat.reduceSub, Nat.reduceBEq, reduceCtorEq, Int.reduceEq, Int.reduceLT, Int.reduceLE, Int.reduceNeg, Int.reduceToNat, hnb]
  generalize hG : (H1.alloc (⟨47, 0, false, [.int .i64 0, .int .i64 0, .int .i64 0, .int .i64 0]⟩ : Blk)).set H1.next ⟨47, 0, false, a.cells⟩ = G at *
  have htk1 := h1.task i hi
  have hr1 := h1.run
  have hrb := h1.rb
  have hgb := h1.wf.1
  have hrl := h1.lt r (by rw [h1.ro]; simp)
  have htl := h1.lt (M.ta i) (by rw [h1.tko i hi]; simp)
  have hne := h.ne_rt hi
  have hrn : r < H1.next := by have := h.lt r (by rw [h.ro]; simp); have := hE1.le; omega
  have hne' := hne.symm
  have hwr : IntKind.i64.wrap (((S.tk i).at_ : Int) + 1) = (((S.tk i).at_ + 1 : Nat) : Int) := IntWalk.i64_in _ (by omega)
  obtain ⟨h0, h4⟩ := hV.a8 (by omega)
  have hA : a.a.toNat < 8 := by omega
  simp -implicitDefEqProofs (maxDischargeDepth := 6) (maxSteps := 1000000) only [go_sem, ↓reduceIte, Nat.reduceLT, Nat.reduceLeDiff, Nat.reduceEqDiff, Nat.reduceAdd, Nat.reduceMul, Nat.reduceSub, Nat.reduceBEq, reduceCtorEq, Int.reduceEq, Int.reduceLT, Int.reduceLE, Int.reduceNeg, Int.reduceToNat, hk, h0, h4, hA, htk1, hr1, hrb, hgb, hrl, htl, hne, hne', hwr, hcell, htb, nv]
  have hd : doA S i a = (adv { S with regs := upd S.regs a.a.toNat (IntKind.i64.wrap (S.regs a.a.toNat + a.n)) } i, none) := by simp [doA, hk]
  rw [hd]
  obtain ⟨hR, hF⟩ := Rep_run h1 15 (S1 := { S with regs := upd S.regs a.a.toNat (IntKind.i64.wrap (S.regs a.a.toNat + a.n)) }) rfl rfl rfl rfl rfl
  exact DoPost.ok (Rep_fin hR ((Frm.ext hE2).trans hF) hi)
theorem do_9 {H : Heap} {r : Nat} {M : Mem} {S : Sx} (h : Rep H r M S) {i : Nat} (hi : i < S.N) (hat : (S.tk i).at_ < (S.tk i).acts.length) (hlen : (S.tk i).acts.length ≤ 65536) (hV : Valid (S.tk i).acts.length (S.tk i).acts[(S.tk i).at_])
    (hk : (S.tk i).acts[(S.tk i).at_].k = 9) :
   CW Try.prog 46 #[.pointer (some ⟨r, 0, none⟩), nv i, .pointer (some ⟨M.ta i, 0, none⟩)] H (DoPost H r M S (doA S i (S.tk i).acts[(S.tk i).at_])) := by
  refine CW_k (n := 190) if46 rfl ?_
  unfold C46
  have htk := h.task i hi
  have htb := h.tkb i hi
  simp -implicitDefEqProofs (maxDischargeDepth := 6) (maxSteps := 1000000) only [go_sem, ↓reduceIte, Nat.reduceLT, Nat.reduceLeDiff, Nat.reduceEqDiff, Nat.reduceAdd, Nat.reduceMul, Nat.reduceSub, Nat.reduceBEq, reduceCtorEq, Int.reduceEq, Int.reduceLT, Int.reduceLE, Int.reduceNeg, Int.reduceToNat, nv]
  refine CW_mono _ (act_W h.wf htk (h.actsAt hi) hat rfl) ?_
  rintro _ H1 ⟨rfl, hE1⟩
  generalize (S.tk i).acts[(S.tk i).at_] = a at *
  have hE := hE1.alloc (⟨47, 0, false, [.int .i64 0, .int .i64 0, .int .i64 0, .int .i64 0]⟩ : Blk)
  have hE2 := hE.set (b := H1.next) hE1.le (by simp only [next_alloc]; omega) (⟨47, 0, false, a.cells⟩ : Blk)
  have h1 := h.ext hE2
  have hnb := hE1.wf.1
  have hcell : ((H1.alloc (⟨47, 0, false, [.int .i64 0, .int .i64 0, .int .i64 0, .int .i64 0]⟩ : Blk)).set H1.next ⟨47, 0, false, a.cells⟩).get H1.next = some ⟨47, 0, false, a.cells⟩ := get_set_eq hnb
  have hnx : ((H1.alloc (⟨47, 0, false, [.int .i64 0, .int .i64 0, .int .i64 0, .int .i64 0]⟩ : Blk)).set H1.next ⟨47, 0, false, a.cells⟩).next = H1.next + 1 := by simp only [next_set, next_alloc]
  have hon : M.own H1.next = none := by
    have h2 := h.lt H1.next; by_cases e : M.own H1.next = none
    · exact e
    · exact absurd (h2 e) (by have := hE1.le; omega)
  simp -implicitDefEqProofs (maxDischargeDepth := 6) (maxSteps := 1000000) only [go_sem, ↓reduceIte, Nat.reduceLT, Nat.reduceLeDiff, Nat.reduceEqDiff, Nat.reduceAdd, Nat.reduceMul, Nat.reduceSub, Nat.reduceBEq, reduceCtorEq, Int.reduceEq, Int.reduceLT, Int.reduceLE, Int.reduceNeg, Int.reduceToNat, hnb]
  generalize hG : (H1.alloc (⟨47, 0, false, [.int .i64 0, .int .i64 0, .int .i64 0, .int .i64 0]⟩ : Blk)).set H1.next ⟨47, 0, false, a.cells⟩ = G at *
  have htk1 := h1.task i hi
  have hr1 := h1.run
  have hrb := h1.rb
  have hgb := h1.wf.1
  have hrl := h1.lt r (by rw [h1.ro]; simp)
  have htl := h1.lt (M.ta i) (by rw [h1.tko i hi]; simp)
  have hne := h.ne_rt hi
  have hrn : r < H1.next := by have := h.lt r (by rw [h.ro]; simp); have := hE1.le; omega
  have hne' := hne.symm
  have hwr : IntKind.i64.wrap (((S.tk i).at_ : Int) + 1) = (((S.tk i).at_ + 1 : Nat) : Int) := IntWalk.i64_in _ (by omega)
  obtain ⟨h0, h4⟩ := hV.a8 (by omega)
  obtain ⟨h0b, h4b⟩ := hV.b8 (by omega)
  have hA : a.a.toNat < 8 := by omega
  have hB : a.b.toNat < 8 := by omega
  simp -implicitDefEqProofs (maxDischargeDepth := 6) (maxSteps := 1000000) only [go_sem, ↓reduceIte, Nat.reduceLT, Nat.reduceLeDiff, Nat.reduceEqDiff, Nat.reduceAdd, Nat.reduceMul, Nat.reduceSub, Nat.reduceBEq, reduceCtorEq, Int.reduceEq, Int.reduceLT, Int.reduceLE, Int.reduceNeg, Int.reduceToNat, hk, h0, h4, hA, h0b, h4b, hB, htk1, hr1, hrb, hgb, hrl, htl, hne, hne', hwr, hcell, htb, nv]
  have hd : doA S i a = (adv { S with regs := upd S.regs a.b.toNat (S.regs a.a.toNat) } i, none) := by simp [doA, hk]
  rw [hd]
  obtain ⟨hR, hF⟩ := Rep_run h1 15 (S1 := { S with regs := upd S.regs a.b.toNat (S.regs a.a.toNat) }) rfl rfl rfl rfl rfl
  exact DoPost.ok (Rep_fin hR ((Frm.ext hE2).trans hF) hi)
theorem do_10 {H : Heap} {r : Nat} {M : Mem} {S : Sx} (h : Rep H r M S) {i : Nat} (hi : i < S.N) (hat : (S.tk i).at_ < (S.tk i).acts.length) (hlen : (S.tk i).acts.length ≤ 65536) (hV : Valid (S.tk i).acts.length (S.tk i).acts[(S.tk i).at_])
    (hk : (S.tk i).acts[(S.tk i).at_].k = 10) :
   CW Try.prog 46 #[.pointer (some ⟨r, 0, none⟩), nv i, .pointer (some ⟨M.ta i, 0, none⟩)] H (DoPost H r M S (doA S i (S.tk i).acts[(S.tk i).at_])) := by
  refine CW_k (n := 190) if46 rfl ?_
  unfold C46
  have htk := h.task i hi
  have htb := h.tkb i hi
  simp -implicitDefEqProofs (maxDischargeDepth := 6) (maxSteps := 1000000) only [go_sem, ↓reduceIte, Nat.reduceLT, Nat.reduceLeDiff, Nat.reduceEqDiff, Nat.reduceAdd, Nat.reduceMul, Nat.reduceSub, Nat.reduceBEq, reduceCtorEq, Int.reduceEq, Int.reduceLT, Int.reduceLE, Int.reduceNeg, Int.reduceToNat, nv]
  refine CW_mono _ (act_W h.wf htk (h.actsAt hi) hat rfl) ?_
  rintro _ H1 ⟨rfl, hE1⟩
  generalize (S.tk i).acts[(S.tk i).at_] = a at *
  have hE := hE1.alloc (⟨47, 0, false, [.int .i64 0, .int .i64 0, .int .i64 0, .int .i64 0]⟩ : Blk)
  have hE2 := hE.set (b := H1.next) hE1.le (by simp only [next_alloc]; omega) (⟨47, 0, false, a.cells⟩ : Blk)
  have h1 := h.ext hE2
  have hnb := hE1.wf.1
  have hcell : ((H1.alloc (⟨47, 0, false, [.int .i64 0, .int .i64 0, .int .i64 0, .int .i64 0]⟩ : Blk)).set H1.next ⟨47, 0, false, a.cells⟩).get H1.next = some ⟨47, 0, false, a.cells⟩ := get_set_eq hnb
  have hnx : ((H1.alloc (⟨47, 0, false, [.int .i64 0, .int .i64 0, .int .i64 0, .int .i64 0]⟩ : Blk)).set H1.next ⟨47, 0, false, a.cells⟩).next = H1.next + 1 := by simp only [next_set, next_alloc]
  have hon : M.own H1.next = none := by
    have h2 := h.lt H1.next; by_cases e : M.own H1.next = none
    · exact e
    · exact absurd (h2 e) (by have := hE1.le; omega)
  simp -implicitDefEqProofs (maxDischargeDepth := 6) (maxSteps := 1000000) only [go_sem, ↓reduceIte, Nat.reduceLT, Nat.reduceLeDiff, Nat.reduceEqDiff, Nat.reduceAdd, Nat.reduceMul, Nat.reduceSub, Nat.reduceBEq, reduceCtorEq, Int.reduceEq, Int.reduceLT, Int.reduceLE, Int.reduceNeg, Int.reduceToNat, hnb]
  generalize hG : (H1.alloc (⟨47, 0, false, [.int .i64 0, .int .i64 0, .int .i64 0, .int .i64 0]⟩ : Blk)).set H1.next ⟨47, 0, false, a.cells⟩ = G at *
  have htk1 := h1.task i hi
  have hr1 := h1.run
  have hrb := h1.rb
  have hgb := h1.wf.1
  have hrl := h1.lt r (by rw [h1.ro]; simp)
  have htl := h1.lt (M.ta i) (by rw [h1.tko i hi]; simp)
  have hne := h.ne_rt hi
  have hrn : r < H1.next := by have := h.lt r (by rw [h.ro]; simp); have := hE1.le; omega
  have hne' := hne.symm
  have hwr : IntKind.i64.wrap (((S.tk i).at_ : Int) + 1) = (((S.tk i).at_ + 1 : Nat) : Int) := IntWalk.i64_in _ (by omega)
  obtain ⟨h0, h4⟩ := hV.a8 (by omega)
  obtain ⟨hn0, hn1⟩ := hV.n10 hk
  have hA : a.a.toNat < 8 := by omega
  obtain ⟨sa, sc, hav⟩ := (h1.actsAt hi).len
  have hwn : IntKind.i64.wrap a.n = a.n := IntWalk.i64_in _ (by omega)
  have hws : IntKind.i64.wrap (((S.tk i).at_ : Int) + a.n) = (((S.tk i).at_ + a.n.toNat : Nat) : Int) := by rw [IntWalk.i64_in _ (by omega)]; omega
  have hwm : (if (((S.tk i).acts.length : Nat) : Int) < (((S.tk i).at_ + a.n.toNat : Nat) : Int) then (((S.tk i).acts.length : Nat) : Int) else (((S.tk i).at_ + a.n.toNat : Nat) : Int)) = ((min ((S.tk i).at_ + a.n.toNat) (S.tk i).acts.length : Nat) : Int) := by
    split <;> omega
  have hwr2 : IntKind.i64.wrap (((min ((S.tk i).at_ + a.n.toNat) (S.tk i).acts.length : Nat) : Int) + 1) = ((min ((S.tk i).at_ + a.n.toNat) (S.tk i).acts.length + 1 : Nat) : Int) := IntWalk.i64_in _ (by omega)
  by_cases hz : S.regs a.a.toNat = 0
  · simp -implicitDefEqProofs (maxDischargeDepth := 6) (maxSteps := 1000000) only [go_sem, ↓reduceIte, Nat.reduceLT, Nat.reduceLeDiff, Nat.reduceEqDiff, Nat.reduceAdd, Nat.reduceMul, Nat.reduceSub, Nat.reduceBEq, reduceCtorEq, Int.reduceEq, Int.reduceLT, Int.reduceLE, Int.reduceNeg, Int.reduceToNat, hk, h0, h4, hA, hz, hav, goInt, hwn, hws, hwm, hwr2, htk1, hr1, hrb, hgb, hrl, htl, hne, hne', hwr, hcell, htb, nv]
    have hd : doA S i a = (adv (setTk S i { S.tk i with at_ := min ((S.tk i).at_ + a.n.toNat) (S.tk i).acts.length }) i, none) := by simp [doA, hk, hz]
    rw [hd]
    have h2 := h1.ext (Ext.bump (Ext.refl h1.wf) 18)
    have h3 := h2.setTask hi (t := { S.tk i with at_ := min ((S.tk i).at_ + a.n.toNat) (S.tk i).acts.length }) rfl
    have hf := Rep_fin h3 ((Frm.ext (M := M) hE2).trans ((Frm.ext (Ext.bump (Ext.refl h1.wf) 18)).trans (Frm.set (b := M.ta i) (by rw [h.tko i hi]; simp) _ rfl rfl rfl))) hi
    simp only [upd_same, set_set, hav] at hf
    exact DoPost.ok hf
  · simp -implicitDefEqProofs (maxDischargeDepth := 6) (maxSteps := 1000000) only [go_sem, ↓reduceIte, Nat.reduceLT, Nat.reduceLeDiff, Nat.reduceEqDiff, Nat.reduceAdd, Nat.reduceMul, Nat.reduceSub, Nat.reduceBEq, reduceCtorEq, Int.reduceEq, Int.reduceLT, Int.reduceLE, Int.reduceNeg, Int.reduceToNat, hk, h0, h4, hA, hz, hav, goInt, hwn, hws, hwm, htk1, hr1, hrb, hgb, hrl, htl, hne, hne', hwr, hcell, htb, nv]
    have hd : doA S i a = (adv S i, none) := by simp [doA, hk, hz]
    rw [hd]
    have hf := Rep_fin h1 (Frm.ext (M := M) hE2) hi
    simp only [hav] at hf
    exact DoPost.ok hf
theorem do_11 {H : Heap} {r : Nat} {M : Mem} {S : Sx} (h : Rep H r M S) {i : Nat} (hi : i < S.N) (hat : (S.tk i).at_ < (S.tk i).acts.length) (hlen : (S.tk i).acts.length ≤ 65536) (hV : Valid (S.tk i).acts.length (S.tk i).acts[(S.tk i).at_])
    (hk : (S.tk i).acts[(S.tk i).at_].k = 11) :
   CW Try.prog 46 #[.pointer (some ⟨r, 0, none⟩), nv i, .pointer (some ⟨M.ta i, 0, none⟩)] H (DoPost H r M S (doA S i (S.tk i).acts[(S.tk i).at_])) := by
  refine CW_k (n := 190) if46 rfl ?_
  unfold C46
  have htk := h.task i hi
  have htb := h.tkb i hi
  simp -implicitDefEqProofs (maxDischargeDepth := 6) (maxSteps := 1000000) only [go_sem, ↓reduceIte, Nat.reduceLT, Nat.reduceLeDiff, Nat.reduceEqDiff, Nat.reduceAdd, Nat.reduceMul, Nat.reduceSub, Nat.reduceBEq, reduceCtorEq, Int.reduceEq, Int.reduceLT, Int.reduceLE, Int.reduceNeg, Int.reduceToNat, nv]
  refine CW_mono _ (act_W h.wf htk (h.actsAt hi) hat rfl) ?_
  rintro _ H1 ⟨rfl, hE1⟩
  generalize (S.tk i).acts[(S.tk i).at_] = a at *
  have hE := hE1.alloc (⟨47, 0, false, [.int .i64 0, .int .i64 0, .int .i64 0, .int .i64 0]⟩ : Blk)
  have hE2 := hE.set (b := H1.next) hE1.le (by simp only [next_alloc]; omega) (⟨47, 0, false, a.cells⟩ : Blk)
  have h1 := h.ext hE2
  have hnb := hE1.wf.1
  have hcell : ((H1.alloc (⟨47, 0, false, [.int .i64 0, .int .i64 0, .int .i64 0, .int .i64 0]⟩ : Blk)).set H1.next ⟨47, 0, false, a.cells⟩).get H1.next = some ⟨47, 0, false, a.cells⟩ := get_set_eq hnb
  have hnx : ((H1.alloc (⟨47, 0, false, [.int .i64 0, .int .i64 0, .int .i64 0, .int .i64 0]⟩ : Blk)).set H1.next ⟨47, 0, false, a.cells⟩).next = H1.next + 1 := by simp only [next_set, next_alloc]
  have hon : M.own H1.next = none := by
    have h2 := h.lt H1.next; by_cases e : M.own H1.next = none
    · exact e
    · exact absurd (h2 e) (by have := hE1.le; omega)
  simp -implicitDefEqProofs (maxDischargeDepth := 6) (maxSteps := 1000000) only [go_sem, ↓reduceIte, Nat.reduceLT, Nat.reduceLeDiff, Nat.reduceEqDiff, Nat.reduceAdd, Nat.reduceMul, Nat.reduceSub, Nat.reduceBEq, reduceCtorEq, Int.reduceEq, Int.reduceLT, Int.reduceLE, Int.reduceNeg, Int.reduceToNat, hnb]
  generalize hG : (H1.alloc (⟨47, 0, false, [.int .i64 0, .int .i64 0, .int .i64 0, .int .i64 0]⟩ : Blk)).set H1.next ⟨47, 0, false, a.cells⟩ = G at *
  have htk1 := h1.task i hi
  have hr1 := h1.run
  have hrb := h1.rb
  have hgb := h1.wf.1
  have hrl := h1.lt r (by rw [h1.ro]; simp)
  have htl := h1.lt (M.ta i) (by rw [h1.tko i hi]; simp)
  have hne := h.ne_rt hi
  have hrn : r < H1.next := by have := h.lt r (by rw [h.ro]; simp); have := hE1.le; omega
  have hne' := hne.symm
  have hwr : IntKind.i64.wrap (((S.tk i).at_ : Int) + 1) = (((S.tk i).at_ + 1 : Nat) : Int) := IntWalk.i64_in _ (by omega)
  simp -implicitDefEqProofs (maxDischargeDepth := 6) (maxSteps := 1000000) only [go_sem, ↓reduceIte, Nat.reduceLT, Nat.reduceLeDiff, Nat.reduceEqDiff, Nat.reduceAdd, Nat.reduceMul, Nat.reduceSub, Nat.reduceBEq, reduceCtorEq, Int.reduceEq, Int.reduceLT, Int.reduceLE, Int.reduceNeg, Int.reduceToNat, hk, htk1, hr1, hrb, hgb, hrl, htl, hne, hne', hwr, hcell, htb, nv]
  have hd : doA S i a = (adv S i, none) := by simp [doA, hk]
  rw [hd]
  exact DoPost.ok (Rep_fin h1 (Frm.ext hE2) hi)
theorem do_12 {H : Heap} {r : Nat} {M : Mem} {S : Sx} (h : Rep H r M S) {i : Nat} (hi : i < S.N) (hat : (S.tk i).at_ < (S.tk i).acts.length) (hlen : (S.tk i).acts.length ≤ 65536) (hV : Valid (S.tk i).acts.length (S.tk i).acts[(S.tk i).at_])
    (hk : (S.tk i).acts[(S.tk i).at_].k = 12) :
   CW Try.prog 46 #[.pointer (some ⟨r, 0, none⟩), nv i, .pointer (some ⟨M.ta i, 0, none⟩)] H (DoPost H r M S (doA S i (S.tk i).acts[(S.tk i).at_])) := by
  refine CW_k (n := 190) if46 rfl ?_
  unfold C46
  have htk := h.task i hi
  have htb := h.tkb i hi
  simp -implicitDefEqProofs (maxDischargeDepth := 6) (maxSteps := 1000000) only [go_sem, ↓reduceIte, Nat.reduceLT, Nat.reduceLeDiff, Nat.reduceEqDiff, Nat.reduceAdd, Nat.reduceMul, Nat.reduceSub, Nat.reduceBEq, reduceCtorEq, Int.reduceEq, Int.reduceLT, Int.reduceLE, Int.reduceNeg, Int.reduceToNat, nv]
  refine CW_mono _ (act_W h.wf htk (h.actsAt hi) hat rfl) ?_
  rintro _ H1 ⟨rfl, hE1⟩
  generalize (S.tk i).acts[(S.tk i).at_] = a at *
  have hE := hE1.alloc (⟨47, 0, false, [.int .i64 0, .int .i64 0, .int .i64 0, .int .i64 0]⟩ : Blk)
  have hE2 := hE.set (b := H1.next) hE1.le (by simp only [next_alloc]; omega) (⟨47, 0, false, a.cells⟩ : Blk)
  have h1 := h.ext hE2
  have hnb := hE1.wf.1
  have hcell : ((H1.alloc (⟨47, 0, false, [.int .i64 0, .int .i64 0, .int .i64 0, .int .i64 0]⟩ : Blk)).set H1.next ⟨47, 0, false, a.cells⟩).get H1.next = some ⟨47, 0, false, a.cells⟩ := get_set_eq hnb
  have hnx : ((H1.alloc (⟨47, 0, false, [.int .i64 0, .int .i64 0, .int .i64 0, .int .i64 0]⟩ : Blk)).set H1.next ⟨47, 0, false, a.cells⟩).next = H1.next + 1 := by simp only [next_set, next_alloc]
  have hon : M.own H1.next = none := by
    have h2 := h.lt H1.next; by_cases e : M.own H1.next = none
    · exact e
    · exact absurd (h2 e) (by have := hE1.le; omega)
  simp -implicitDefEqProofs (maxDischargeDepth := 6) (maxSteps := 1000000) only [go_sem, ↓reduceIte, Nat.reduceLT, Nat.reduceLeDiff, Nat.reduceEqDiff, Nat.reduceAdd, Nat.reduceMul, Nat.reduceSub, Nat.reduceBEq, reduceCtorEq, Int.reduceEq, Int.reduceLT, Int.reduceLE, Int.reduceNeg, Int.reduceToNat, hnb]
  generalize hG : (H1.alloc (⟨47, 0, false, [.int .i64 0, .int .i64 0, .int .i64 0, .int .i64 0]⟩ : Blk)).set H1.next ⟨47, 0, false, a.cells⟩ = G at *
  have htk1 := h1.task i hi
  have hr1 := h1.run
  have hrb := h1.rb
  have hgb := h1.wf.1
  have hrl := h1.lt r (by rw [h1.ro]; simp)
  have htl := h1.lt (M.ta i) (by rw [h1.tko i hi]; simp)
  have hne := h.ne_rt hi
  have hrn : r < H1.next := by have := h.lt r (by rw [h.ro]; simp); have := hE1.le; omega
  have hne' := hne.symm
  have hwr : IntKind.i64.wrap (((S.tk i).at_ : Int) + 1) = (((S.tk i).at_ + 1 : Nat) : Int) := IntWalk.i64_in _ (by omega)
  simp -implicitDefEqProofs (maxDischargeDepth := 6) (maxSteps := 1000000) only [go_sem, ↓reduceIte, Nat.reduceLT, Nat.reduceLeDiff, Nat.reduceEqDiff, Nat.reduceAdd, Nat.reduceMul, Nat.reduceSub, Nat.reduceBEq, reduceCtorEq, Int.reduceEq, Int.reduceLT, Int.reduceLE, Int.reduceNeg, Int.reduceToNat, hk, htk1, hr1, hrb, hgb, hrl, htl, hne, hne', hwr, hcell, htb, nv]
  have hd : doA S i a = (S, some a.n) := by simp [doA, hk]
  rw [hd]
  exact DoPost.pan hE2
theorem do_13 {H : Heap} {r : Nat} {M : Mem} {S : Sx} (h : Rep H r M S) {i : Nat} (hi : i < S.N) (hat : (S.tk i).at_ < (S.tk i).acts.length) (hlen : (S.tk i).acts.length ≤ 65536) (hV : Valid (S.tk i).acts.length (S.tk i).acts[(S.tk i).at_])
    (hk : (S.tk i).acts[(S.tk i).at_].k = 13) :
   CW Try.prog 46 #[.pointer (some ⟨r, 0, none⟩), nv i, .pointer (some ⟨M.ta i, 0, none⟩)] H (DoPost H r M S (doA S i (S.tk i).acts[(S.tk i).at_])) := by
  refine CW_k (n := 190) if46 rfl ?_
  unfold C46
  have htk := h.task i hi
  have htb := h.tkb i hi
  simp -implicitDefEqProofs (maxDischargeDepth := 6) (maxSteps := 1000000) only [go_sem, ↓reduceIte, Nat.reduceLT, Nat.reduceLeDiff, Nat.reduceEqDiff, Nat.reduceAdd, Nat.reduceMul, Nat.reduceSub, Nat.reduceBEq, reduceCtorEq, Int.reduceEq, Int.reduceLT, Int.reduceLE, Int.reduceNeg, Int.reduceToNat, nv]
  refine CW_mono _ (act_W h.wf htk (h.actsAt hi) hat rfl) ?_
  rintro _ H1 ⟨rfl, hE1⟩
  generalize (S.tk i).acts[(S.tk i).at_] = a at *
  have hE := hE1.alloc (⟨47, 0, false, [.int .i64 0, .int .i64 0, .int .i64 0, .int .i64 0]⟩ : Blk)
  have hE2 := hE.set (b := H1.next) hE1.le (by simp only [next_alloc]; omega) (⟨47, 0, false, a.cells⟩ : Blk)
  have h1 := h.ext hE2
  have hnb := hE1.wf.1
  have hcell : ((H1.alloc (⟨47, 0, false, [.int .i64 0, .int .i64 0, .int .i64 0, .int .i64 0]⟩ : Blk)).set H1.next ⟨47, 0, false, a.cells⟩).get H1.next = some ⟨47, 0, false, a.cells⟩ := get_set_eq hnb
  have hnx : ((H1.alloc (⟨47, 0, false, [.int .i64 0, .int .i64 0, .int .i64 0, .int .i64 0]⟩ : Blk)).set H1.next ⟨47, 0, false, a.cells⟩).next = H1.next + 1 := by simp only [next_set, next_alloc]
  have hon : M.own H1.next = none := by
    have h2 := h.lt H1.next; by_cases e : M.own H1.next = none
    · exact e
    · exact absurd (h2 e) (by have := hE1.le; omega)
  simp -implicitDefEqProofs (maxDischargeDepth := 6) (maxSteps := 1000000) only [go_sem, ↓reduceIte, Nat.reduceLT, Nat.reduceLeDiff, Nat.reduceEqDiff, Nat.reduceAdd, Nat.reduceMul, Nat.reduceSub, Nat.reduceBEq, reduceCtorEq, Int.reduceEq, Int.reduceLT, Int.reduceLE, Int.reduceNeg, Int.reduceToNat, hnb]
  generalize hG : (H1.alloc (⟨47, 0, false, [.int .i64 0, .int .i64 0, .int .i64 0, .int .i64 0]⟩ : Blk)).set H1.next ⟨47, 0, false, a.cells⟩ = G at *
  have htk1 := h1.task i hi
  have hr1 := h1.run
  have hrb := h1.rb
  have hgb := h1.wf.1
  have hrl := h1.lt r (by rw [h1.ro]; simp)
  have htl := h1.lt (M.ta i) (by rw [h1.tko i hi]; simp)
  have hne := h.ne_rt hi
  have hrn : r < H1.next := by have := h.lt r (by rw [h.ro]; simp); have := hE1.le; omega
  have hne' := hne.symm
  have hwr : IntKind.i64.wrap (((S.tk i).at_ : Int) + 1) = (((S.tk i).at_ + 1 : Nat) : Int) := IntWalk.i64_in _ (by omega)
  obtain ⟨hn0, hn1⟩ := hV.n13 hk
  have hwn : IntKind.i64.wrap a.n = a.n := IntWalk.i64_in _ (by omega)
  simp -implicitDefEqProofs (maxDischargeDepth := 6) (maxSteps := 1000000) only [go_sem, ↓reduceIte, Nat.reduceLT, Nat.reduceLeDiff, Nat.reduceEqDiff, Nat.reduceAdd, Nat.reduceMul, Nat.reduceSub, Nat.reduceBEq, reduceCtorEq, Int.reduceEq, Int.reduceLT, Int.reduceLE, Int.reduceNeg, Int.reduceToNat, hk, hwn, htk1, hr1, hrb, hgb, hrl, htl, hne, hne', hwr, hcell, htb, nv]
  have hd : doA S i a = (adv (setTk S i { S.tk i with guard := a.n }) i, none) := by simp [doA, hk]
  rw [hd]
  have h3 := h1.setTask hi (t := { S.tk i with guard := a.n }) rfl
  have hf := Rep_fin h3 ((Frm.ext (M := M) hE2).trans (Frm.set (b := M.ta i) (by rw [h.tko i hi]; simp) _ rfl rfl rfl)) hi
  simp only [upd_same, set_set] at hf
  exact DoPost.ok hf
theorem wakeAll_tk (l : List Nat) : ∀ (S : Sx) (j : Nat), ((wakeAll S l).tk j).at_ = (S.tk j).at_ ∧ ((wakeAll S l).tk j).acts = (S.tk j).acts := by
  induction l with
  | nil => intro S j; exact ⟨rfl, rfl⟩
  | cons i l ih =>
    intro S j
    have := ih (setTk S i { S.tk i with wait := 2 }) j
    have e : ((setTk S i { S.tk i with wait := 2 }).tk j).at_ = (S.tk j).at_ ∧ ((setTk S i { S.tk i with wait := 2 }).tk j).acts = (S.tk j).acts := by
      by_cases e : j = i
      · subst e; simp [setTk, upd_same]
      · simp [setTk, upd_ne e]
    exact ⟨this.1.trans e.1, this.2.trans e.2⟩
theorem do_4 {H : Heap} {r : Nat} {M : Mem} {S : Sx} (h : Rep H r M S) {i : Nat} (hi : i < S.N) (hat : (S.tk i).at_ < (S.tk i).acts.length) (hlen : (S.tk i).acts.length ≤ 65536) (hV : Valid (S.tk i).acts.length (S.tk i).acts[(S.tk i).at_])
    (hk : (S.tk i).acts[(S.tk i).at_].k = 4) (hci : CI S) (hbd : ∀ j, (S.conds j).length ≤ 1000000) :
   CW Try.prog 46 #[.pointer (some ⟨r, 0, none⟩), nv i, .pointer (some ⟨M.ta i, 0, none⟩)] H (DoPost H r M S (doA S i (S.tk i).acts[(S.tk i).at_])) := by
  refine CW_k (n := 190) if46 rfl ?_
  unfold C46
  have htk := h.task i hi
  have htb := h.tkb i hi
  simp -implicitDefEqProofs (maxDischargeDepth := 6) (maxSteps := 1000000) only [go_sem, ↓reduceIte, Nat.reduceLT, Nat.reduceLeDiff, Nat.reduceEqDiff, Nat.reduceAdd, Nat.reduceMul, Nat.reduceSub, Nat.reduceBEq, reduceCtorEq, Int.reduceEq, Int.reduceLT, Int.reduceLE, Int.reduceNeg, Int.reduceToNat, nv]
  refine CW_mono _ (act_W h.wf htk (h.actsAt hi) hat rfl) ?_
  rintro _ H1 ⟨rfl, hE1⟩
  generalize (S.tk i).acts[(S.tk i).at_] = a at *
  have hE := hE1.alloc (⟨47, 0, false, [.int .i64 0, .int .i64 0, .int .i64 0, .int .i64 0]⟩ : Blk)
  have hE2 := hE.set (b := H1.next) hE1.le (by simp only [next_alloc]; omega) (⟨47, 0, false, a.cells⟩ : Blk)
  have h1 := h.ext hE2
  have hnb := hE1.wf.1
  have hcell : ((H1.alloc (⟨47, 0, false, [.int .i64 0, .int .i64 0, .int .i64 0, .int .i64 0]⟩ : Blk)).set H1.next ⟨47, 0, false, a.cells⟩).get H1.next = some ⟨47, 0, false, a.cells⟩ := get_set_eq hnb
  have hnx : ((H1.alloc (⟨47, 0, false, [.int .i64 0, .int .i64 0, .int .i64 0, .int .i64 0]⟩ : Blk)).set H1.next ⟨47, 0, false, a.cells⟩).next = H1.next + 1 := by simp only [next_set, next_alloc]
  have hon : M.own H1.next = none := by
    have h2 := h.lt H1.next; by_cases e : M.own H1.next = none
    · exact e
    · exact absurd (h2 e) (by have := hE1.le; omega)
  simp -implicitDefEqProofs (maxDischargeDepth := 6) (maxSteps := 1000000) only [go_sem, ↓reduceIte, Nat.reduceLT, Nat.reduceLeDiff, Nat.reduceEqDiff, Nat.reduceAdd, Nat.reduceMul, Nat.reduceSub, Nat.reduceBEq, reduceCtorEq, Int.reduceEq, Int.reduceLT, Int.reduceLE, Int.reduceNeg, Int.reduceToNat, hnb]
  generalize hG : (H1.alloc (⟨47, 0, false, [.int .i64 0, .int .i64 0, .int .i64 0, .int .i64 0]⟩ : Blk)).set H1.next ⟨47, 0, false, a.cells⟩ = G at *
  have htk1 := h1.task i hi
  have hr1 := h1.run
  have hrb := h1.rb
  have hgb := h1.wf.1
  have hrl := h1.lt r (by rw [h1.ro]; simp)
  have htl := h1.lt (M.ta i) (by rw [h1.tko i hi]; simp)
  have hne := h.ne_rt hi
  have hrn : r < H1.next := by have := h.lt r (by rw [h.ro]; simp); have := hE1.le; omega
  have hne' := hne.symm
  have hwr : IntKind.i64.wrap (((S.tk i).at_ : Int) + 1) = (((S.tk i).at_ + 1 : Nat) : Int) := IntWalk.i64_in _ (by omega)
  obtain ⟨h0, h4⟩ := hV.a4 (by omega)
  have hA : a.a.toNat < 4 := by omega
  obtain ⟨ca, cc, hcv⟩ := (h.cond _ hA (by simp)).sl
  have hmin : (if (((S.conds a.a.toNat).length : Nat) : Int) < 1 then (((S.conds a.a.toNat).length : Nat) : Int) else 1) = ((min 1 (S.conds a.a.toNat).length : Nat) : Int) := by split <;> omega
  · simp -implicitDefEqProofs (maxDischargeDepth := 6) (maxSteps := 1000000) only [go_sem, ↓reduceIte, Nat.reduceLT, Nat.reduceLeDiff, Nat.reduceEqDiff, Nat.reduceAdd, Nat.reduceMul, Nat.reduceSub, Nat.reduceBEq, reduceCtorEq, Int.reduceEq, Int.reduceLT, Int.reduceLE, Int.reduceNeg, Int.reduceToNat, hk, h0, h4, hA, hcv, goInt, hmin, htk1, hr1, hrb, hgb, hrl, htl, hne, hne', hwr, hcell, htb, nv]
    refine CW_mono _ (wake_W (h1.ext (Ext.bump (Ext.refl h1.wf) 14)) hci h0 h4 (n := min 1 (S.conds a.a.toNat).length) (by omega) (hbd _)) ?_
    rintro _ H5 ⟨rfl, M5, h5, hF5⟩
    have hi5 : i < (wakeM S a.a.toNat (min 1 (S.conds a.a.toNat).length)).N := by rw [show (wakeM S a.a.toNat (min 1 (S.conds a.a.toNat).length)).N = S.N from (wakeAll_rest _ S).1]; exact hi
    have htk5 := h5.task i hi5
    have hat5 : ((wakeM S a.a.toNat (min 1 (S.conds a.a.toNat).length)).tk i).at_ = (S.tk i).at_ := (wakeAll_tk _ S i).1
    have hta5 := hF5.ta
    have hav5 := hF5.av
    have hb5 := h5.tkb i hi5
    rw [hta5] at htk5 hb5
    simp -implicitDefEqProofs (maxDischargeDepth := 6) (maxSteps := 1000000) only [go_sem, ↓reduceIte, Nat.reduceLT, Nat.reduceLeDiff, Nat.reduceEqDiff, Nat.reduceAdd, Nat.reduceMul, Nat.reduceSub, Nat.reduceBEq, reduceCtorEq, Int.reduceEq, Int.reduceLT, Int.reduceLE, Int.reduceNeg, Int.reduceToNat, htk5, hwr, hb5, hat5, hta5]
    have hd : doA S i a = (adv (wakeM S a.a.toNat (min 1 (S.conds a.a.toNat).length)) i, none) := by simp [doA, hk]
    rw [hd]
    have hf := Rep_fin h5 ((Frm.ext (M := M) (hE2.trans (Ext.bump (Ext.refl h1.wf) 14))).trans hF5) hi5
    simp only [hat5, hta5] at hf
    exact DoPost.ok hf
theorem do_5 {H : Heap} {r : Nat} {M : Mem} {S : Sx} (h : Rep H r M S) {i : Nat} (hi : i < S.N) (hat : (S.tk i).at_ < (S.tk i).acts.length) (hlen : (S.tk i).acts.length ≤ 65536) (hV : Valid (S.tk i).acts.length (S.tk i).acts[(S.tk i).at_])
    (hk : (S.tk i).acts[(S.tk i).at_].k = 5) (hci : CI S) (hbd : ∀ j, (S.conds j).length ≤ 1000000) :
   CW Try.prog 46 #[.pointer (some ⟨r, 0, none⟩), nv i, .pointer (some ⟨M.ta i, 0, none⟩)] H (DoPost H r M S (doA S i (S.tk i).acts[(S.tk i).at_])) := by
  refine CW_k (n := 190) if46 rfl ?_
  unfold C46
  have htk := h.task i hi
  have htb := h.tkb i hi
  simp -implicitDefEqProofs (maxDischargeDepth := 6) (maxSteps := 1000000) only [go_sem, ↓reduceIte, Nat.reduceLT, Nat.reduceLeDiff, Nat.reduceEqDiff, Nat.reduceAdd, Nat.reduceMul, Nat.reduceSub, Nat.reduceBEq, reduceCtorEq, Int.reduceEq, Int.reduceLT, Int.reduceLE, Int.reduceNeg, Int.reduceToNat, nv]
  refine CW_mono _ (act_W h.wf htk (h.actsAt hi) hat rfl) ?_
  rintro _ H1 ⟨rfl, hE1⟩
  generalize (S.tk i).acts[(S.tk i).at_] = a at *
  have hE := hE1.alloc (⟨47, 0, false, [.int .i64 0, .int .i64 0, .int .i64 0, .int .i64 0]⟩ : Blk)
  have hE2 := hE.set (b := H1.next) hE1.le (by simp only [next_alloc]; omega) (⟨47, 0, false, a.cells⟩ : Blk)
  have h1 := h.ext hE2
  have hnb := hE1.wf.1
  have hcell : ((H1.alloc (⟨47, 0, false, [.int .i64 0, .int .i64 0, .int .i64 0, .int .i64 0]⟩ : Blk)).set H1.next ⟨47, 0, false, a.cells⟩).get H1.next = some ⟨47, 0, false, a.cells⟩ := get_set_eq hnb
  have hnx : ((H1.alloc (⟨47, 0, false, [.int .i64 0, .int .i64 0, .int .i64 0, .int .i64 0]⟩ : Blk)).set H1.next ⟨47, 0, false, a.cells⟩).next = H1.next + 1 := by simp only [next_set, next_alloc]
  have hon : M.own H1.next = none := by
    have h2 := h.lt H1.next; by_cases e : M.own H1.next = none
    · exact e
    · exact absurd (h2 e) (by have := hE1.le; omega)
  simp -implicitDefEqProofs (maxDischargeDepth := 6) (maxSteps := 1000000) only [go_sem, ↓reduceIte, Nat.reduceLT, Nat.reduceLeDiff, Nat.reduceEqDiff, Nat.reduceAdd, Nat.reduceMul, Nat.reduceSub, Nat.reduceBEq, reduceCtorEq, Int.reduceEq, Int.reduceLT, Int.reduceLE, Int.reduceNeg, Int.reduceToNat, hnb]
  generalize hG : (H1.alloc (⟨47, 0, false, [.int .i64 0, .int .i64 0, .int .i64 0, .int .i64 0]⟩ : Blk)).set H1.next ⟨47, 0, false, a.cells⟩ = G at *
  have htk1 := h1.task i hi
  have hr1 := h1.run
  have hrb := h1.rb
  have hgb := h1.wf.1
  have hrl := h1.lt r (by rw [h1.ro]; simp)
  have htl := h1.lt (M.ta i) (by rw [h1.tko i hi]; simp)
  have hne := h.ne_rt hi
  have hrn : r < H1.next := by have := h.lt r (by rw [h.ro]; simp); have := hE1.le; omega
  have hne' := hne.symm
  have hwr : IntKind.i64.wrap (((S.tk i).at_ : Int) + 1) = (((S.tk i).at_ + 1 : Nat) : Int) := IntWalk.i64_in _ (by omega)
  obtain ⟨h0, h4⟩ := hV.a4 (by omega)
  have hA : a.a.toNat < 4 := by omega
  obtain ⟨ca, cc, hcv⟩ := (h.cond _ hA (by simp)).sl
  · simp -implicitDefEqProofs (maxDischargeDepth := 6) (maxSteps := 1000000) only [go_sem, ↓reduceIte, Nat.reduceLT, Nat.reduceLeDiff, Nat.reduceEqDiff, Nat.reduceAdd, Nat.reduceMul, Nat.reduceSub, Nat.reduceBEq, reduceCtorEq, Int.reduceEq, Int.reduceLT, Int.reduceLE, Int.reduceNeg, Int.reduceToNat, hk, h0, h4, hA, hcv, goInt, htk1, hr1, hrb, hgb, hrl, htl, hne, hne', hwr, hcell, htb, nv]
    refine CW_mono _ (wake_W (h1.ext (Ext.bump (Ext.refl h1.wf) 13)) hci h0 h4 (n := (S.conds a.a.toNat).length) (by omega) (hbd _)) ?_
    rintro _ H5 ⟨rfl, M5, h5, hF5⟩
    have hi5 : i < (wakeM S a.a.toNat (S.conds a.a.toNat).length).N := by rw [show (wakeM S a.a.toNat (S.conds a.a.toNat).length).N = S.N from (wakeAll_rest _ S).1]; exact hi
    have htk5 := h5.task i hi5
    have hat5 : ((wakeM S a.a.toNat (S.conds a.a.toNat).length).tk i).at_ = (S.tk i).at_ := (wakeAll_tk _ S i).1
    have hta5 := hF5.ta
    have hav5 := hF5.av
    have hb5 := h5.tkb i hi5
    rw [hta5] at htk5 hb5
    simp -implicitDefEqProofs (maxDischargeDepth := 6) (maxSteps := 1000000) only [go_sem, ↓reduceIte, Nat.reduceLT, Nat.reduceLeDiff, Nat.reduceEqDiff, Nat.reduceAdd, Nat.reduceMul, Nat.reduceSub, Nat.reduceBEq, reduceCtorEq, Int.reduceEq, Int.reduceLT, Int.reduceLE, Int.reduceNeg, Int.reduceToNat, htk5, hwr, hb5, hat5, hta5]
    have hd : doA S i a = (adv (wakeM S a.a.toNat (S.conds a.a.toNat).length) i, none) := by simp [doA, hk]
    rw [hd]
    have hf := Rep_fin h5 ((Frm.ext (M := M) (hE2.trans (Ext.bump (Ext.refl h1.wf) 13))).trans hF5) hi5
    simp only [hat5, hta5] at hf
    exact DoPost.ok hf
theorem do_3 {H : Heap} {r : Nat} {M : Mem} {S : Sx} (h : Rep H r M S) {i : Nat} (hi : i < S.N) (hat : (S.tk i).at_ < (S.tk i).acts.length) (hlen : (S.tk i).acts.length ≤ 65536) (hV : Valid (S.tk i).acts.length (S.tk i).acts[(S.tk i).at_])
    (hk : (S.tk i).acts[(S.tk i).at_].k = 3) (hbd : ∀ j, (S.conds j).length ≤ 1000000) :
   CW Try.prog 46 #[.pointer (some ⟨r, 0, none⟩), nv i, .pointer (some ⟨M.ta i, 0, none⟩)] H (DoPost H r M S (doA S i (S.tk i).acts[(S.tk i).at_])) := by
  refine CW_k (n := 190) if46 rfl ?_
  unfold C46
  have htk := h.task i hi
  have htb := h.tkb i hi
  simp -implicitDefEqProofs (maxDischargeDepth := 6) (maxSteps := 1000000) only [go_sem, ↓reduceIte, Nat.reduceLT, Nat.reduceLeDiff, Nat.reduceEqDiff, Nat.reduceAdd, Nat.reduceMul, Nat.reduceSub, Nat.reduceBEq, reduceCtorEq, Int.reduceEq, Int.reduceLT, Int.reduceLE, Int.reduceNeg, Int.reduceToNat, nv]
  refine CW_mono _ (act_W h.wf htk (h.actsAt hi) hat rfl) ?_
  rintro _ H1 ⟨rfl, hE1⟩
  generalize (S.tk i).acts[(S.tk i).at_] = a at *
  have hE := hE1.alloc (⟨47, 0, false, [.int .i64 0, .int .i64 0, .int .i64 0, .int .i64 0]⟩ : Blk)
  have hE2 := hE.set (b := H1.next) hE1.le (by simp only [next_alloc]; omega) (⟨47, 0, false, a.cells⟩ : Blk)
  have h1 := h.ext hE2
  have hnb := hE1.wf.1
  have hcell : ((H1.alloc (⟨47, 0, false, [.int .i64 0, .int .i64 0, .int .i64 0, .int .i64 0]⟩ : Blk)).set H1.next ⟨47, 0, false, a.cells⟩).get H1.next = some ⟨47, 0, false, a.cells⟩ := get_set_eq hnb
  have hnx : ((H1.alloc (⟨47, 0, false, [.int .i64 0, .int .i64 0, .int .i64 0, .int .i64 0]⟩ : Blk)).set H1.next ⟨47, 0, false, a.cells⟩).next = H1.next + 1 := by simp only [next_set, next_alloc]
  have hon : M.own H1.next = none := by
    have h2 := h.lt H1.next; by_cases e : M.own H1.next = none
    · exact e
    · exact absurd (h2 e) (by have := hE1.le; omega)
  simp -implicitDefEqProofs (maxDischargeDepth := 6) (maxSteps := 1000000) only [go_sem, ↓reduceIte, Nat.reduceLT, Nat.reduceLeDiff, Nat.reduceEqDiff, Nat.reduceAdd, Nat.reduceMul, Nat.reduceSub, Nat.reduceBEq, reduceCtorEq, Int.reduceEq, Int.reduceLT, Int.reduceLE, Int.reduceNeg, Int.reduceToNat, hnb]
  generalize hG : (H1.alloc (⟨47, 0, false, [.int .i64 0, .int .i64 0, .int .i64 0, .int .i64 0]⟩ : Blk)).set H1.next ⟨47, 0, false, a.cells⟩ = G at *
  have htk1 := h1.task i hi
  have hr1 := h1.run
  have hrb := h1.rb
  have hgb := h1.wf.1
  have hrl := h1.lt r (by rw [h1.ro]; simp)
  have htl := h1.lt (M.ta i) (by rw [h1.tko i hi]; simp)
  have hne := h.ne_rt hi
  have hrn : r < H1.next := by have := h.lt r (by rw [h.ro]; simp); have := hE1.le; omega
  have hne' := hne.symm
  have hwr : IntKind.i64.wrap (((S.tk i).at_ : Int) + 1) = (((S.tk i).at_ + 1 : Nat) : Int) := IntWalk.i64_in _ (by omega)
  obtain ⟨h0, h4⟩ := hV.a4 (by omega)
  obtain ⟨h0b, h4b⟩ := hV.b4 hk
  by_cases hw : (S.tk i).wait = 0
  · simp -implicitDefEqProofs (maxDischargeDepth := 6) (maxSteps := 1000000) only [go_sem, ↓reduceIte, Nat.reduceLT, Nat.reduceLeDiff, Nat.reduceEqDiff, Nat.reduceAdd, Nat.reduceMul, Nat.reduceSub, Nat.reduceBEq, reduceCtorEq, Int.reduceEq, Int.reduceLT, Int.reduceLE, Int.reduceNeg, Int.reduceToNat, hk, loads_eq, htk1, hr1, hrb, hgb, hrl, htl, hne, hne', hwr, hcell, htb, nv]
    refine CW_mono _ (wait0_W h1 hi h0b h4b h0 h4 hw (hbd _)) ?_
    by_cases hl : S.locks a.b.toNat = i
    · rintro x H' hx
      rw [if_pos hl] at hx
      obtain ⟨rfl, M5, h5, hF5⟩ := hx
      simp -implicitDefEqProofs (maxDischargeDepth := 6) (maxSteps := 1000000) only [go_sem, ↓reduceIte, Nat.reduceLT, Nat.reduceLeDiff, Nat.reduceEqDiff, Nat.reduceAdd, Nat.reduceMul, Nat.reduceSub, Nat.reduceBEq, reduceCtorEq, Int.reduceEq, Int.reduceLT, Int.reduceLE, Int.reduceNeg, Int.reduceToNat, htk1, hr1, hrb, hgb, hrl, htl, hne, hne', hwr, hcell, htb, nv]
      have hd : doA S i a = (waitS0 S i a, none) := by simp [doA, hk, hw, hl]
      rw [hd]
      exact DoPost.ok ⟨M5, h5, (Frm.ext hE2).trans hF5⟩
    · rintro x H' hx
      rw [if_neg hl] at hx
      obtain ⟨rfl, hE5⟩ := hx
      simp -implicitDefEqProofs (maxDischargeDepth := 6) (maxSteps := 1000000) only [go_sem, ↓reduceIte, Nat.reduceLT, Nat.reduceLeDiff, Nat.reduceEqDiff, Nat.reduceAdd, Nat.reduceMul, Nat.reduceSub, Nat.reduceBEq, reduceCtorEq, Int.reduceEq, Int.reduceLT, Int.reduceLE, Int.reduceNeg, Int.reduceToNat, htk1, hr1, hrb, hgb, hrl, htl, hne, hne', hwr, hcell, htb, nv]
      have hd : doA S i a = (S, some (-1)) := by simp [doA, hk, hw, hl]
      rw [hd]
      exact DoPost.pan (hE2.trans hE5)
  · simp -implicitDefEqProofs (maxDischargeDepth := 6) (maxSteps := 1000000) only [go_sem, ↓reduceIte, Nat.reduceLT, Nat.reduceLeDiff, Nat.reduceEqDiff, Nat.reduceAdd, Nat.reduceMul, Nat.reduceSub, Nat.reduceBEq, reduceCtorEq, Int.reduceEq, Int.reduceLT, Int.reduceLE, Int.reduceNeg, Int.reduceToNat, hk, loads_eq, htk1, hr1, hrb, hgb, hrl, htl, hne, hne', hwr, hcell, htb, nv]
    refine CW_mono _ (wait2_W h1 hi h0b h4b hw) ?_
    rintro _ H5 ⟨rfl, M5, h5, hF5⟩
    have hi5 : i < (waitS2 S i a).N := hi
    have htk5 := h5.task i hi5
    have hat5 : ((waitS2 S i a).tk i).at_ = (S.tk i).at_ := by simp [waitS2, setTk, upd_same]
    have hta5 := hF5.ta
    have hb5 := h5.tkb i hi5
    rw [hta5] at htk5 hb5
    simp -implicitDefEqProofs (maxDischargeDepth := 6) (maxSteps := 1000000) only [go_sem, ↓reduceIte, Nat.reduceLT, Nat.reduceLeDiff, Nat.reduceEqDiff, Nat.reduceAdd, Nat.reduceMul, Nat.reduceSub, Nat.reduceBEq, reduceCtorEq, Int.reduceEq, Int.reduceLT, Int.reduceLE, Int.reduceNeg, Int.reduceToNat, htk5, hwr, hb5, hat5, hta5]
    have hd : doA S i a = (adv (waitS2 S i a) i, none) := by simp [doA, hk, hw]
    rw [hd]
    have hf := Rep_fin h5 ((Frm.ext (M := M) hE2).trans hF5) hi5
    simp only [hat5, hta5] at hf
    exact DoPost.ok hf
theorem do_6 {H : Heap} {r : Nat} {M : Mem} {S : Sx} (h : Rep H r M S) {i : Nat} (hi : i < S.N) (hat : (S.tk i).at_ < (S.tk i).acts.length) (hlen : (S.tk i).acts.length ≤ 65536) (hV : Valid (S.tk i).acts.length (S.tk i).acts[(S.tk i).at_])
    (hk : (S.tk i).acts[(S.tk i).at_].k = 6) (hbd : ∀ j, (S.queues j).length ≤ 1000000) :
   CW Try.prog 46 #[.pointer (some ⟨r, 0, none⟩), nv i, .pointer (some ⟨M.ta i, 0, none⟩)] H (DoPost H r M S (doA S i (S.tk i).acts[(S.tk i).at_])) := by
  refine CW_k (n := 190) if46 rfl ?_
  unfold C46
  have htk := h.task i hi
  have htb := h.tkb i hi
  simp -implicitDefEqProofs (maxDischargeDepth := 6) (maxSteps := 1000000) only [go_sem, ↓reduceIte, Nat.reduceLT, Nat.reduceLeDiff, Nat.reduceEqDiff, Nat.reduceAdd, Nat.reduceMul, Nat.reduceSub, Nat.reduceBEq, reduceCtorEq, Int.reduceEq, Int.reduceLT, Int.reduceLE, Int.reduceNeg, Int.reduceToNat, nv]
  refine CW_mono _ (act_W h.wf htk (h.actsAt hi) hat rfl) ?_
  rintro _ H1 ⟨rfl, hE1⟩
  generalize (S.tk i).acts[(S.tk i).at_] = a at *
  have hE := hE1.alloc (⟨47, 0, false, [.int .i64 0, .int .i64 0, .int .i64 0, .int .i64 0]⟩ : Blk)
  have hE2 := hE.set (b := H1.next) hE1.le (by simp only [next_alloc]; omega) (⟨47, 0, false, a.cells⟩ : Blk)
  have h1 := h.ext hE2
  have hnb := hE1.wf.1
  have hcell : ((H1.alloc (⟨47, 0, false, [.int .i64 0, .int .i64 0, .int .i64 0, .int .i64 0]⟩ : Blk)).set H1.next ⟨47, 0, false, a.cells⟩).get H1.next = some ⟨47, 0, false, a.cells⟩ := get_set_eq hnb
  have hnx : ((H1.alloc (⟨47, 0, false, [.int .i64 0, .int .i64 0, .int .i64 0, .int .i64 0]⟩ : Blk)).set H1.next ⟨47, 0, false, a.cells⟩).next = H1.next + 1 := by simp only [next_set, next_alloc]
  have hon : M.own H1.next = none := by
    have h2 := h.lt H1.next; by_cases e : M.own H1.next = none
    · exact e
    · exact absurd (h2 e) (by have := hE1.le; omega)
  simp -implicitDefEqProofs (maxDischargeDepth := 6) (maxSteps := 1000000) only [go_sem, ↓reduceIte, Nat.reduceLT, Nat.reduceLeDiff, Nat.reduceEqDiff, Nat.reduceAdd, Nat.reduceMul, Nat.reduceSub, Nat.reduceBEq, reduceCtorEq, Int.reduceEq, Int.reduceLT, Int.reduceLE, Int.reduceNeg, Int.reduceToNat, hnb]
  generalize hG : (H1.alloc (⟨47, 0, false, [.int .i64 0, .int .i64 0, .int .i64 0, .int .i64 0]⟩ : Blk)).set H1.next ⟨47, 0, false, a.cells⟩ = G at *
  have htk1 := h1.task i hi
  have hr1 := h1.run
  have hrb := h1.rb
  have hgb := h1.wf.1
  have hrl := h1.lt r (by rw [h1.ro]; simp)
  have htl := h1.lt (M.ta i) (by rw [h1.tko i hi]; simp)
  have hne := h.ne_rt hi
  have hrn : r < H1.next := by have := h.lt r (by rw [h.ro]; simp); have := hE1.le; omega
  have hne' := hne.symm
  have hwr : IntKind.i64.wrap (((S.tk i).at_ : Int) + 1) = (((S.tk i).at_ + 1 : Nat) : Int) := IntWalk.i64_in _ (by omega)
  obtain ⟨h0, h4⟩ := hV.a4 (by omega)
  have hA : a.a.toNat < 4 := by omega
  obtain ⟨qa, qc, hqv⟩ := (h.queue _ hA (by simp)).sl
  simp -implicitDefEqProofs (maxDischargeDepth := 6) (maxSteps := 1000000) only [go_sem, ↓reduceIte, Nat.reduceLT, Nat.reduceLeDiff, Nat.reduceEqDiff, Nat.reduceAdd, Nat.reduceMul, Nat.reduceSub, Nat.reduceBEq, reduceCtorEq, Int.reduceEq, Int.reduceLT, Int.reduceLE, Int.reduceNeg, Int.reduceToNat, hk, h0, h4, hA, hqv, hnx, htk1, hr1, hrb, hgb, hrl, htl, hne, hne', hwr, hcell, htb, nv]
  refine Wk_w_c rfl rfl ?_
  simp -implicitDefEqProofs (maxDischargeDepth := 6) (maxSteps := 1000000) only [go_sem, ↓reduceIte, Nat.reduceLT, Nat.reduceLeDiff, Nat.reduceEqDiff, Nat.reduceAdd, Nat.reduceMul, Nat.reduceSub, Nat.reduceBEq, reduceCtorEq, Int.reduceEq, Int.reduceLT, Int.reduceLE, Int.reduceNeg, Int.reduceToNat, hk, h0, h4, hA, hqv, hnx, htk1, hr1, hrb, hgb, hrl, htl, hne, hne', hwr, hcell, htb, nv]
  have h5 := h1.ext ((Ext.bump (Ext.refl h1.wf) 19).set (b := H1.next + 1 + 12) (by omega) (by simp only [next_bump]; omega) ⟨2, 0, false, [iv a.n]⟩)
  have hOq := h5.queue _ hA (by simp)
  rw [hqv] at hOq
  obtain ⟨H6, ha6, h6, hO6, hF6, hn6, hk6⟩ := h5.append (.queue a.a.toNat) (by simp) (by simp) (by simp) (bytes := 8) (nb := H1.next + 1 + 12) (x := ⟨2, 0, false, [iv a.n]⟩) (vs := [iv a.n]) hOq (get_set_eq (by omega)) rfl rfl (by omega) rfl (by have := hbd a.a.toNat; omega) (by have := hbd a.a.toNat; omega)
  simp only [next_bump, next_set, hnx] at ha6 h6 hO6 hF6 hn6
  refine cK_vh ha6 ?_
  have hr6 := h6.run
  have htk6 := h6.task i hi
  have hcell6 := hk6 H1.next ⟨47, 0, false, a.cells⟩ (by simp -implicitDefEqProofs (maxDischargeDepth := 6) (maxSteps := 1000000) only [go_sem, ↓reduceIte, Nat.reduceLT, Nat.reduceLeDiff, Nat.reduceEqDiff, Nat.reduceAdd, Nat.reduceMul, Nat.reduceSub, Nat.reduceBEq, reduceCtorEq, Int.reduceEq, Int.reduceLT, Int.reduceLE, Int.reduceNeg, Int.reduceToNat, hnb, hcell, hnx]) hon
  have hn6' := h6.wf.1
  simp -implicitDefEqProofs (maxDischargeDepth := 6) (maxSteps := 1000000) only [go_sem, ↓reduceIte, Nat.reduceLT, Nat.reduceLeDiff, Nat.reduceEqDiff, Nat.reduceAdd, Nat.reduceMul, Nat.reduceSub, Nat.reduceBEq, reduceCtorEq, Int.reduceEq, Int.reduceLT, Int.reduceLE, Int.reduceNeg, Int.reduceToNat, hr6, hcell6, hn6']
  refine cK_some ?_ ?_
  · simp -implicitDefEqProofs (maxDischargeDepth := 6) (maxSteps := 1000000) only [go_sem, ↓reduceIte, Nat.reduceLT, Nat.reduceLeDiff, Nat.reduceEqDiff, Nat.reduceAdd, Nat.reduceMul, Nat.reduceSub, Nat.reduceBEq, reduceCtorEq, Int.reduceEq, Int.reduceLT, Int.reduceLE, Int.reduceNeg, Int.reduceToNat, reK, hcell6]
  · simp -implicitDefEqProofs (maxDischargeDepth := 6) (maxSteps := 1000000) only [go_sem, ↓reduceIte, Nat.reduceLT, Nat.reduceLeDiff, Nat.reduceEqDiff, Nat.reduceAdd, Nat.reduceMul, Nat.reduceSub, Nat.reduceBEq, reduceCtorEq, Int.reduceEq, Int.reduceLT, Int.reduceLE, Int.reduceNeg, Int.reduceToNat, hr6, hcell6, hn6', h0, h4, hA, hrb]
    refine Wk_w_c rfl rfl ?_
    simp -implicitDefEqProofs (maxDischargeDepth := 6) (maxSteps := 1000000) only [go_sem, ↓reduceIte, Nat.reduceLT, Nat.reduceLeDiff, Nat.reduceEqDiff, Nat.reduceAdd, Nat.reduceMul, Nat.reduceSub, Nat.reduceBEq, reduceCtorEq, Int.reduceEq, Int.reduceLT, Int.reduceLE, Int.reduceNeg, Int.reduceToNat, hr6, hcell6, hn6', h0, h4, hA, hrb, htk6, htb, hne, hne', hwr]
    have hd : doA S i a = (adv { S with queues := upd S.queues a.a.toNat (S.queues a.a.toNat ++ [a.n]) } i, none) := by simp [doA, hk]
    rw [hd]
    have h7 := h6.setRun (M' := { M with own := upd M.own (H1.next + 1 + 19) (some (.queue a.a.toNat)), qv := upd M.qv a.a.toNat (.slice (some ⟨H1.next + 1 + 19, 0, none⟩) ((S.queues a.a.toNat).length + 1) openCap) })
      (S' := { S with queues := upd S.queues a.a.toNat (S.queues a.a.toNat ++ [a.n]) }) rfl rfl rfl rfl rfl rfl (fun j hj => h6.cond j hj (by simp)) ?_ (h6.trace (by simp))
    · refine DoPost.ok (Rep_fin h7 ((((Frm.ext (M := M) hE2).trans (Frm.ext (M := M) ((Ext.bump (Ext.refl h1.wf) 19).set (b := H1.next + 1 + 12) (by omega) (by simp only [next_bump]; omega) ⟨2, 0, false, [iv a.n]⟩))).trans hF6).trans (Frm.set (by rw [h6.ro]; simp) _ rfl rfl rfl)) hi)
    · intro j hj
      by_cases e : j = a.a.toNat
      · subst e
        simp only [upd_same, List.length_append, List.map_append]
        exact hO6
      · simp only [upd_ne e]
        exact h6.queue j hj (by simp; exact fun x => e x.symm)
theorem do_7 {H : Heap} {r : Nat} {M : Mem} {S : Sx} (h : Rep H r M S) {i : Nat} (hi : i < S.N) (hat : (S.tk i).at_ < (S.tk i).acts.length) (hlen : (S.tk i).acts.length ≤ 65536) (hV : Valid (S.tk i).acts.length (S.tk i).acts[(S.tk i).at_])
    (hk : (S.tk i).acts[(S.tk i).at_].k = 7) (hq0 : S.queues (S.tk i).acts[(S.tk i).at_].a.toNat ≠ []) :
   CW Try.prog 46 #[.pointer (some ⟨r, 0, none⟩), nv i, .pointer (some ⟨M.ta i, 0, none⟩)] H (DoPost H r M S (doA S i (S.tk i).acts[(S.tk i).at_])) := by
  refine CW_k (n := 190) if46 rfl ?_
  unfold C46
  have htk := h.task i hi
  have htb := h.tkb i hi
  simp -implicitDefEqProofs (maxDischargeDepth := 6) (maxSteps := 1000000) only [go_sem, ↓reduceIte, Nat.reduceLT, Nat.reduceLeDiff, Nat.reduceEqDiff, Nat.reduceAdd, Nat.reduceMul, Nat.reduceSub, Nat.reduceBEq, reduceCtorEq, Int.reduceEq, Int.reduceLT, Int.reduceLE, Int.reduceNeg, Int.reduceToNat, nv]
  refine CW_mono _ (act_W h.wf htk (h.actsAt hi) hat rfl) ?_
  rintro _ H1 ⟨rfl, hE1⟩
  generalize (S.tk i).acts[(S.tk i).at_] = a at *
  have hE := hE1.alloc (⟨47, 0, false, [.int .i64 0, .int .i64 0, .int .i64 0, .int .i64 0]⟩ : Blk)
  have hE2 := hE.set (b := H1.next) hE1.le (by simp only [next_alloc]; omega) (⟨47, 0, false, a.cells⟩ : Blk)
  have h1 := h.ext hE2
  have hnb := hE1.wf.1
  have hcell : ((H1.alloc (⟨47, 0, false, [.int .i64 0, .int .i64 0, .int .i64 0, .int .i64 0]⟩ : Blk)).set H1.next ⟨47, 0, false, a.cells⟩).get H1.next = some ⟨47, 0, false, a.cells⟩ := get_set_eq hnb
  have hnx : ((H1.alloc (⟨47, 0, false, [.int .i64 0, .int .i64 0, .int .i64 0, .int .i64 0]⟩ : Blk)).set H1.next ⟨47, 0, false, a.cells⟩).next = H1.next + 1 := by simp only [next_set, next_alloc]
  have hon : M.own H1.next = none := by
    have h2 := h.lt H1.next; by_cases e : M.own H1.next = none
    · exact e
    · exact absurd (h2 e) (by have := hE1.le; omega)
  simp -implicitDefEqProofs (maxDischargeDepth := 6) (maxSteps := 1000000) only [go_sem, ↓reduceIte, Nat.reduceLT, Nat.reduceLeDiff, Nat.reduceEqDiff, Nat.reduceAdd, Nat.reduceMul, Nat.reduceSub, Nat.reduceBEq, reduceCtorEq, Int.reduceEq, Int.reduceLT, Int.reduceLE, Int.reduceNeg, Int.reduceToNat, hnb]
  generalize hG : (H1.alloc (⟨47, 0, false, [.int .i64 0, .int .i64 0, .int .i64 0, .int .i64 0]⟩ : Blk)).set H1.next ⟨47, 0, false, a.cells⟩ = G at *
  have htk1 := h1.task i hi
  have hr1 := h1.run
  have hrb := h1.rb
  have hgb := h1.wf.1
  have hrl := h1.lt r (by rw [h1.ro]; simp)
  have htl := h1.lt (M.ta i) (by rw [h1.tko i hi]; simp)
  have hne := h.ne_rt hi
  have hrn : r < H1.next := by have := h.lt r (by rw [h.ro]; simp); have := hE1.le; omega
  have hne' := hne.symm
  have hwr : IntKind.i64.wrap (((S.tk i).at_ : Int) + 1) = (((S.tk i).at_ + 1 : Nat) : Int) := IntWalk.i64_in _ (by omega)
  obtain ⟨h0, h4⟩ := hV.a4 (by omega)
  obtain ⟨h0b, h4b⟩ := hV.b8 (by omega)
  have hA : a.a.toNat < 4 := by omega
  have hB : a.b.toNat < 8 := by omega
  obtain ⟨q0, qs, hq⟩ := List.exists_cons_of_ne_nil hq0
  have hO := h1.queue _ hA (by simp)
  rw [hq] at hO
  obtain ⟨b, o, c, x, hqv, hc, hx, hxo⟩ := hO.rd.at_ (i := 0) (by simp)
  simp only [List.getElem_map, List.getElem_cons_zero, iv, Nat.add_zero, List.length_map] at hxo hqv
  obtain ⟨hR, hF⟩ := Rep_run h1 17 (S1 := { S with regs := upd S.regs a.b.toNat q0 }) rfl rfl rfl rfl rfl
  have hO2 := hR.queue _ hA (by simp)
  simp only [hq, hqv] at hO2
  obtain ⟨v', hv', hO3⟩ := sliceS_post (k := 1) hO2 (by omega) (by simp)
  rw [show ((1 : Nat) : Int) = 1 from rfl] at hv'
  simp only [List.length_cons] at hv' hqv
  obtain ⟨a', c', rfl⟩ := hO3.sl
  have hln : (0 : Int) < (((qs.length + 1 : Nat)) : Int) := by omega
  simp -implicitDefEqProofs (maxDischargeDepth := 6) (maxSteps := 1000000) only [go_sem, ↓reduceIte, Nat.reduceLT, Nat.reduceLeDiff, Nat.reduceEqDiff, Nat.reduceAdd, Nat.reduceMul, Nat.reduceSub, Nat.reduceBEq, reduceCtorEq, Int.reduceEq, Int.reduceLT, Int.reduceLE, Int.reduceNeg, Int.reduceToNat, hk, h0, h4, hA, hB, h0b, h4b, hqv, hc, hx, hxo, Nat.add_zero, hln, hv', hrn, htk1, hr1, hrb, hgb, hrl, htl, hne, hne', hwr, hcell, htb, nv]
  have hd : doA S i a = (adv { S with regs := upd S.regs a.b.toNat q0, queues := upd S.queues a.a.toNat qs } i, none) := by simp [doA, hk, hq]
  rw [hd]
  have h5 := hR.ext (Ext.bump (Ext.refl hR.wf) 16)
  have h7 := h5.setRun (M' := { M with qv := upd M.qv a.a.toNat (.slice a' (qs.length + 1 - 1) c') }) (S' := { S with regs := upd S.regs a.b.toNat q0, queues := upd S.queues a.a.toNat qs }) rfl rfl rfl rfl rfl rfl (fun j hj => h5.cond j hj (by simp)) ?_ (h5.trace (by simp))
  · refine DoPost.ok (Rep_fin h7 ((((Frm.ext (M := M) hE2).trans hF).trans (Frm.ext (Ext.bump (Ext.refl hR.wf) 16))).trans (Frm.set (by rw [h5.ro]; simp) _ rfl rfl rfl)) hi)
  · intro j hj
    by_cases e : j = a.a.toNat
    · subst e
      simp only [upd_same]
      exact hO3
    · simp only [upd_ne e]
      exact h5.queue j hj (by simp)
end Go.Am.T
namespace Go.Am
section
variable {P : Program}
theorem runOpsS_no {cl : Cl} {ops : Array Oper} : ∀ (l : List Oper), l.all (fun o => !isRec o) = true → ∀ (p : Option Value) (s : St), runOpsS P cl ops l p s = (runOps P cl ops l s).map fun (e, s) => (e, p, s)
  | [], _, p, s => rfl
  | o :: l, h, p, s => by
    simp only [List.all_cons, Bool.and_eq_true, Bool.not_eq_true'] at h
    simp only [runOpsS, runOps, h.1, Bool.false_eq_true, if_false]
    split
    · cases doOp P cl o s with
      | none => rfl
      | some q =>
        obtain ⟨e, s'⟩ := q
        cases e with
        | normal => exact runOpsS_no l h.2 p s'
        | _ => rfl
    · exact runOpsS_no l h.2 p _
def noRec : Code → Bool
  | .seq a b => noRec a && noRec b
  | .cond _ a b => noRec a && noRec b
  | .region _ ops draw => draw || !ops.any isRec
  | _ => true
theorem codeS_no : ∀ (c : Code), noRec c = true → ∀ (p : Option Value) (s : St), codeS P (callW P) (execW P) c p s = (execW P c s).map fun (e, s) => (e, p, s) := by
  intro c
  induction c with
  | seq a b iha ihb =>
    intro h p s
    simp only [noRec, Bool.and_eq_true] at h
    simp only [codeS, iha h.1, execW_seq]
    cases execW P a s with
    | none => rfl
    | some q =>
      obtain ⟨e, s'⟩ := q
      cases e with
      | normal => exact ihb h.2 p s'
      | _ => rfl
  | cond o a b iha ihb =>
    intro h p s
    simp only [noRec, Bool.and_eq_true] at h
    have iha := iha h.1 p s
    have ihb := ihb h.2 p s
    simp only [codeS, execW_cond]
    cases s.ev o with
    | none => rfl
    | some v =>
      cases v with
      | bool t =>
        cases t
        · exact ihb
        · exact iha
      | _ => rfl
  | region i ops draw =>
    intro h p s
    simp only [noRec] at h
    simp only [codeS, h, if_true]
  | _ => intro h p s; rfl
structure RFn where
  nt : Nat
  d : Tmp
  l : List IOp
  c : IC
def splitRec : Code → Option (Tmp × List IOp × IC)
  | .seq (.region _ ops false) b =>
    match ops.toList with
    | o :: rest =>
      match o.guard, o.dst with
      | none, some d => if isRec o && rest.all (fun o => !isRec o) && noRec b then (cmpL ops rest).map fun l => (d, l, cmpC b) else none
      | _, _ => none
    | _ => none
  | _ => none
variable (P) in
def rfn (f : FuncId) : Option RFn := (P.funcs[f]?).bind fun fn => if fn.results.isEmpty then fn.body.bind fun c => (splitRec c).map fun (d, l, c) => { nt := fn.ntmps, d := d, l := l, c := c } else none
def recV : Option Value → Value
  | some v => v
  | none => .nilIface
theorem splitRec_run {c : Code} {d : Tmp} {l : List IOp} {ic : IC} (h : splitRec c = some (d, l, ic)) {p : Option Value} {s : St} {Q : Ex → St → Prop}
    (hw : Wk P [.l l, .c ic] (some (s.put (some d) (recV p))) Q) : ∃ e s', codeS P (callW P) (execW P) c p s = some (e, none, s') ∧ Q e s' := by
  unfold splitRec at h
  split at h
  case h_2 => cases h
  rename_i i ops b
  split at h
  case h_2 => cases h
  rename_i o rest hops
  split at h
  case h_2 => cases h
  rename_i d' hg hd
  split at h
  case isFalse => cases h
  rename_i hc
  simp only [Bool.and_eq_true] at hc
  obtain ⟨⟨hro, hrr⟩, hnb⟩ := hc
  obtain ⟨l', hl, e⟩ := map_some' h
  simp only [Prod.mk.injEq] at e
  obtain ⟨rfl, rfl, rfl⟩ := e
  rw [Wk_some] at hw
  obtain ⟨e1, s1, h1, h2⟩ := WL_run P (ops := ops) rest l' hl (s.put (some d') (recV p)) _ hw
  have hany : ops.any isRec = true := by
    rw [Array.any_eq_true']
    exact ⟨o, by rw [← Array.mem_toList_iff, hops]; simp, hro⟩
  have hreg : codeS P (callW P) (execW P) (.region i ops false) p s = some (e1, none, s1) := by
    simp only [codeS, hany, Bool.not_true, Bool.or_self, Bool.false_eq_true, if_false, hops]
    have hwa : wantedA o ops s = true := by unfold wantedA; rw [hg]
    simp only [runOpsS, hwa, hro, if_true, hd]
    cases p with
    | some v =>
      simp only [runOpsS_no rest hrr]
      have : runOps P (callW P) ops rest (s.put (some d') v) = some (e1, s1) := h1
      rw [this]; rfl
    | none =>
      simp only [runOpsS_no rest hrr]
      have : runOps P (callW P) ops rest (s.put (some d') .nilIface) = some (e1, s1) := h1
      rw [this]; rfl
  cases e1 with
  | normal =>
    obtain ⟨e2, s2, h3, h4⟩ := Wq_sound P b s1 _ h2
    refine ⟨e2, s2, ?_, ?_⟩
    · simp only [codeS] at hreg ⊢
      rw [hreg]
      simp only [codeS_no b hnb, h3, Option.map_some]
    · cases e2 <;> exact h4
  | exit j => exact ⟨.exit j, s1, by simp only [codeS] at hreg ⊢; rw [hreg], h2⟩
  | ret => exact ⟨.ret, s1, by simp only [codeS] at hreg ⊢; rw [hreg], h2⟩
  | panic v => exact ⟨.panic v, s1, by simp only [codeS] at hreg ⊢; rw [hreg], h2⟩
def endD (Q : CR → Heap → Prop) : Ex → St → Prop
  | .normal, s => s.d = [] ∧ Q (.ret (.tuple #[])) s.H
  | .ret, s => s.d = [] ∧ Q (.ret (.tuple #[])) s.H
  | _, _ => False
def runDf (P : Program) (k2 : Nat) (d2 : Tmp) (l2 : List IOp) (c2 : IC) (p : Option Value) (cap args : Array Value) (H : Heap) (Q : CR → Heap → Prop) : Prop :=
  Wk P [.l l2, .c c2] (putO (some d2) (Nat.max k2 (args ++ cap).size) (ofArgs 0 (args ++ cap).toList) [] H (some (recV p))) (endD Q)
def dfrQ (P : Program) (g2 : FuncId) (k2 : Nat) (d2 : Tmp) (l2 : List IOp) (c2 : IC) (Q : CR → Heap → Prop) (e : Ex) (s : St) : Prop :=
  ∃ cap args, s.d = [{ target := .fn (.func g2) cap, args := args }] ∧
    match e with
    | .normal | .ret => runDf P k2 d2 l2 c2 none cap args s.H Q
    | .panic v => runDf P k2 d2 l2 c2 (some v) cap args s.H Q
    | .exit _ => False
section
variable {g2 : FuncId} {k2 : Nat} {d2 : Tmp} {l2 : List IOp} {c2 : IC} {Q : CR → Heap → Prop} {n : Nat} {f : Tr Value} {H : Heap} {cap args : Array Value}
@[go_sem ↓] theorem dfrQ_n : Wk P [] (some ⟨n, f, [{ target := .fn (.func g2) cap, args := args }], H⟩) (dfrQ P g2 k2 d2 l2 c2 Q) = runDf P k2 d2 l2 c2 none cap args H Q := by
  rw [Wk_some]
  refine propext ⟨?_, fun h => ⟨cap, args, rfl, h⟩⟩
  rintro ⟨cap', args', h, k⟩
  simp only [List.cons.injEq, and_true, Deferred.mk.injEq, Target.fn.injEq, true_and] at h
  obtain ⟨rfl, rfl⟩ := h
  exact k
@[go_sem ↓] theorem dfrQ_r : We P .ret [] (some ⟨n, f, [{ target := .fn (.func g2) cap, args := args }], H⟩) (dfrQ P g2 k2 d2 l2 c2 Q) = runDf P k2 d2 l2 c2 none cap args H Q := by
  rw [We_some]
  refine propext ⟨?_, fun h => ⟨cap, args, rfl, h⟩⟩
  rintro ⟨cap', args', h, k⟩
  simp only [List.cons.injEq, and_true, Deferred.mk.injEq, Target.fn.injEq, true_and] at h
  obtain ⟨rfl, rfl⟩ := h
  exact k
@[go_sem ↓] theorem dfrQ_p {v : Value} : We P (.panic v) [] (some ⟨n, f, [{ target := .fn (.func g2) cap, args := args }], H⟩) (dfrQ P g2 k2 d2 l2 c2 Q) = runDf P k2 d2 l2 c2 (some v) cap args H Q := by
  rw [We_some]
  refine propext ⟨?_, fun h => ⟨cap, args, rfl, h⟩⟩
  rintro ⟨cap', args', h, k⟩
  simp only [List.cons.injEq, and_true, Deferred.mk.injEq, Target.fn.injEq, true_and] at h
  obtain ⟨rfl, rfl⟩ := h
  exact k
@[go_sem ↓] theorem endD_n : Wk P [] (some ⟨n, f, [], H⟩) (endD Q) = Q (.ret (.tuple #[])) H := by
  rw [Wk_some]; exact propext ⟨fun h => h.2, fun h => ⟨rfl, h⟩⟩
@[go_sem ↓] theorem endD_r : We P .ret [] (some ⟨n, f, [], H⟩) (endD Q) = Q (.ret (.tuple #[])) H := by
  rw [We_some]; exact propext ⟨fun h => h.2, fun h => ⟨rfl, h⟩⟩
end
theorem CW_d {g g2 : FuncId} {k : Nat} {c : IC} (hf : ifn P g = some ⟨k, c, []⟩) {k2 : Nat} {d2 : Tmp} {l2 : List IOp} {c2 : IC} (hr : rfn P g2 = some ⟨k2, d2, l2, c2⟩) {args : Array Value} {n : Nat} (hn : Nat.max k args.size = n) {H : Heap} {Q : CR → Heap → Prop}
    (h : Wk P [.c c] (some ⟨n, ofArgs 0 args.toList, [], H⟩) (dfrQ P g2 k2 d2 l2 c2 Q)) : CW P g args H Q := by
  subst hn
  unfold ifn at hf
  obtain ⟨fn, hfn, h1⟩ := bind_some (x := P.funcs[g]?) hf
  obtain ⟨c0, hc, h2⟩ := map_some h1
  simp only [IFn.mk.injEq] at h2
  obtain ⟨rfl, rfl, hres⟩ := h2
  have hres : fn.results = #[] := by cases hq : fn.results with | mk l => rw [hq] at hres; subst hres; rfl
  rw [Wk_some] at h
  have h' : Wq P (cmpC c0) ⟨Nat.max fn.ntmps args.size, ofArgs 0 args.toList, [], H⟩ (dfrQ P g2 k2 d2 l2 c2 Q) := Wq_mono P _ h (fun e s h => by cases e <;> exact h)
  obtain ⟨e, s', h3, h4⟩ := Wq_sound P c0 _ _ h'
  obtain ⟨cap, args', hd, h4⟩ := h4
  unfold rfn at hr
  obtain ⟨gn, hgn, h5⟩ := bind_some (x := P.funcs[g2]?) hr
  split at h5
  case isFalse => cases h5
  rename_i hge
  obtain ⟨cg, hcg, h6⟩ := bind_some (x := gn.body) h5
  obtain ⟨⟨d', l', c'⟩, h7, h8⟩ := map_some' h6
  simp only [RFn.mk.injEq] at h8
  obtain ⟨rfl, rfl, rfl, rfl⟩ := h8
  have hge' : gn.results = #[] := by simpa using hge
  have run : ∀ p, runDf P gn.ntmps d' l' c' p cap args' s'.H Q → ∃ r H', unwindA P (callW P) (execW P) fn s' s'.d p s'.H = some (r, H') ∧ Q r H' := by
    intro p hp
    have hp' : Wk P [.l l', .c c'] (some ((enterA gn (args' ++ cap) s'.H).put (some d') (recV p))) (endD Q) := hp
    obtain ⟨e2, s2, h9, h10⟩ := splitRec_run h7 hp'
    rw [hd]
    simp only [unwindA, hgn, hcg, Option.bind_eq_bind, Option.bind_some, h9]
    have hrg : resultsA P gn s2 = some (.tuple #[]) := by unfold resultsA; rw [hge']; rfl
    have hrf : ∀ s3 : St, resultsA P fn s3 = some (.tuple #[]) := by intro s3; unfold resultsA; rw [hres]; rfl
    cases e2 with
    | normal =>
      obtain ⟨h11, h12⟩ := h10
      refine ⟨_, _, ?_, h12⟩
      dsimp only
      rw [h11]
      simp only [List.isEmpty_nil, if_true, hrg, Option.bind_some, unwindA, hrf, Option.map_some]
    | ret =>
      obtain ⟨h11, h12⟩ := h10
      refine ⟨_, _, ?_, h12⟩
      dsimp only
      rw [h11]
      simp only [List.isEmpty_nil, if_true, hrg, Option.bind_some, unwindA, hrf, Option.map_some]
    | exit j => exact h10.elim
    | panic v => exact h10.elim
  unfold CW
  rw [callW_eq]
  unfold callA
  simp only [hfn, hc, Option.bind_eq_bind, Option.bind_some]
  have he : execW P c0 (enterA fn args H) = some (e, s') := h3
  rw [he]
  cases e with
  | normal => exact run none h4
  | ret => exact run none h4
  | panic v =>
    have hem : (fn.results.isEmpty || s'.d.isEmpty) = true := by rw [hres]; rfl
    show ∃ r H', (if (fn.results.isEmpty || s'.d.isEmpty) = true then unwindA P (callW P) (execW P) fn s' s'.d (some v) s'.H else none) = some (r, H') ∧ Q r H'
    rw [if_pos hem]
    exact run (some v) h4
  | exit i => exact h4.elim
end
end Go.Am
namespace Go.Am.T
open Go Go.Am Go.Proofs.Ythanhcpnhionaaa Go.Proofs
structure OkS (S : Sx) : Prop where
  vs : VS S
  ci : CI S
  len : ∀ i, i < S.N → (S.tk i).acts.length ≤ 65536
  cb : ∀ j, (S.conds j).length ≤ 1000000
  qb : ∀ j, (S.queues j).length ≤ 1000000
theorem do_W {H : Heap} {r : Nat} {M : Mem} {S : Sx} (h : Rep H r M S) (ok : OkS S) {i : Nat} (hi : i < S.N) (hat : (S.tk i).at_ < (S.tk i).acts.length)
    (hq : (S.tk i).acts[(S.tk i).at_].k = 7 → S.queues (S.tk i).acts[(S.tk i).at_].a.toNat ≠ []) :
   CW Try.prog 46 #[.pointer (some ⟨r, 0, none⟩), nv i, .pointer (some ⟨M.ta i, 0, none⟩)] H (DoPost H r M S (doA S i (S.tk i).acts[(S.tk i).at_])) := by
  have hV := ok.vs i hi _ hat
  have hl := ok.len i hi
  have k1 := hV.k1
  have k2 := hV.k2
  by_cases e1 : (S.tk i).acts[(S.tk i).at_].k = 1
  · exact do_1 h hi hat hl hV e1
  by_cases e2 : (S.tk i).acts[(S.tk i).at_].k = 2
  · exact do_2 h hi hat hl hV e2
  by_cases e3 : (S.tk i).acts[(S.tk i).at_].k = 3
  · exact do_3 h hi hat hl hV e3 ok.cb
  by_cases e4 : (S.tk i).acts[(S.tk i).at_].k = 4
  · exact do_4 h hi hat hl hV e4 ok.ci ok.cb
  by_cases e5 : (S.tk i).acts[(S.tk i).at_].k = 5
  · exact do_5 h hi hat hl hV e5 ok.ci ok.cb
  by_cases e6 : (S.tk i).acts[(S.tk i).at_].k = 6
  · exact do_6 h hi hat hl hV e6 ok.qb
  by_cases e7 : (S.tk i).acts[(S.tk i).at_].k = 7
  · exact do_7 h hi hat hl hV e7 (hq e7)
  by_cases e8 : (S.tk i).acts[(S.tk i).at_].k = 8
  · exact do_8 h hi hat hl hV e8
  by_cases e9 : (S.tk i).acts[(S.tk i).at_].k = 9
  · exact do_9 h hi hat hl hV e9
  by_cases e10 : (S.tk i).acts[(S.tk i).at_].k = 10
  · exact do_10 h hi hat hl hV e10
  by_cases e11 : (S.tk i).acts[(S.tk i).at_].k = 11
  · exact do_11 h hi hat hl hV e11
  by_cases e12 : (S.tk i).acts[(S.tk i).at_].k = 12
  · exact do_12 h hi hat hl hV e12
  · exact do_13 h hi hat hl hV (by omega)
@[go_sem] theorem eq_20_n : binA Try.prog .eql 20 .nilIface .nilIface = some (.bool true) := by kernel_rfl
@[go_sem] theorem eq_20_i {v : Value} : binA Try.prog .eql 20 (.iface 95 v) .nilIface = some (.bool false) := by kernel_rfl
@[go_sem] theorem ta_95 {v : Value} : typeAssertA Try.prog (.iface 95 v) 95 true = some (.tuple #[v, .bool true]) := by kernel_rfl
attribute [go_sem] recV boom
def L44 : List IOp := [.o 2 (.assign (.tmp 5))]
theorem rf44 : rfn Try.prog 44 = some ⟨21, 5, L44, (match C44 with | .seq _ b => b | _ => .bad)⟩ := by kernel_rfl
def PanS (S : Sx) (d : Sx × Option Int) : Prop := ∀ n, d.2 = some n → d.1 = S
theorem PanS.ite {S : Sx} {c : Prop} [Decidable c] {x y : Sx × Option Int} (hx : PanS S x) (hy : PanS S y) : PanS S (if c then x else y) := by split <;> assumption
theorem PanS.ok {S S1 : Sx} : PanS S (S1, none) := fun n h => by cases h
theorem PanS.pan {S : Sx} {n : Int} : PanS S (S, some n) := fun _ _ => rfl
theorem doA_pan' {S : Sx} {i : Nat} {a : Act} : PanS S (doA S i a) := by
  unfold doA
  repeat' (first | exact PanS.ok | exact PanS.pan | refine PanS.ite ?_ ?_)
theorem doA_pan {S S1 : Sx} {i : Nat} {a : Act} {n : Int} (h : doA S i a = (S1, some n)) : S1 = S := by
  have := doA_pan' (S := S) (i := i) (a := a) n (by rw [h])
  rw [h] at this; exact this
def caughtM (S : Sx) (i : Nat) (n : Int) : Sx :=
  if (S.tk i).guard < 0 then setTk S i { S.tk i with died := true, n := n }
  else { setTk S i { S.tk i with at_ := (S.tk i).guard.toNat, guard := -1, wait := 0 } with regs := upd S.regs 7 n }
def begS (S : Sx) (i : Nat) : Sx := { S with trace := S.trace ++ [(i, (S.tk i).at_)], last := i }
def stepM (S : Sx) (i : Nat) : Sx :=
  match (S.tk i).acts[(S.tk i).at_]? with
  | none => S
  | some a =>
    match doA (begS S i) i a with
    | (S1, none) => S1
    | (S1, some n) => caughtM S1 i n
theorem step_W {H : Heap} {r : Nat} {M : Mem} {S : Sx} (h : Rep H r M S) (ok : OkS S) {i : Nat} (hi : i < S.N) (hat : (S.tk i).at_ < (S.tk i).acts.length) (htl : S.trace.length ≤ 1000000)
    (hq : (S.tk i).acts[(S.tk i).at_].k = 7 → S.queues (S.tk i).acts[(S.tk i).at_].a.toNat ≠ []) :
   CW Try.prog 40 #[.pointer (some ⟨r, 0, none⟩), nv i] H fun x H' => x = .ret (.tuple #[]) ∧ ∃ M', Rep H' r M' (stepM S i) ∧ Frm H M H' M' := by
  refine CW_d (n := 36) if40 rf44 rfl ?_
  unfold C40
  obtain ⟨b, o, c, x, htv, hc, hx, hxi⟩ := h.ptr hi
  have htk := h.task i hi
  have htb := h.tkb i hi
  have hrb := h.rb
  have hnb := h.wf.1
  have hrl := h.lt r (by rw [h.ro]; simp)
  have htlt := h.lt (M.ta i) (by rw [h.tko i hi]; simp)
  have hbl := h.wf.lt hx
  have hne := h.ne_rt hi
  have hne' := hne.symm
  have hiZ : (i : Int) < (S.N : Int) := by omega
  have hi0 : (0 : Int) ≤ (i : Int) := by omega
  obtain ⟨ra, rc, htr⟩ := (h.trace (by simp)).sl
  simp -implicitDefEqProofs (maxDischargeDepth := 6) (maxSteps := 1000000) only [go_sem, ↓reduceIte, Nat.reduceLT, Nat.reduceLeDiff, Nat.reduceEqDiff, Nat.reduceAdd, Nat.reduceMul, Nat.reduceSub, Nat.reduceBEq, reduceCtorEq, Int.reduceEq, Int.reduceLT, Int.reduceLE, Int.reduceNeg, Int.reduceToNat, h.run, nv, htv, hc, hx, hxi, htk, htb, hrb, hnb, hrl, htlt, hbl, hne, hne', hiZ, hi0, htr]
  refine Wk_w_c rfl rfl ?_
  simp -implicitDefEqProofs (maxDischargeDepth := 6) (maxSteps := 1000000) only [go_sem, ↓reduceIte, Nat.reduceLT, Nat.reduceLeDiff, Nat.reduceEqDiff, Nat.reduceAdd, Nat.reduceMul, Nat.reduceSub, Nat.reduceBEq, reduceCtorEq, Int.reduceEq, Int.reduceLT, Int.reduceLE, Int.reduceNeg, Int.reduceToNat, h.run, nv, htv, hc, hx, hxi, htk, htb, hrb, hnb, hrl, htlt, hbl, hne, hne', hiZ, hi0, htr]
  have hE0 := ((((Ext.refl h.wf).alloc (⟨71, 0, false, [.pointer (some ⟨r, 0, none⟩)]⟩ : Blk)).alloc (⟨77, 0, false, [.pointer none]⟩ : Blk)).set (b := H.next + 1) (by omega) (by simp only [next_alloc]; omega) (⟨77, 0, false, [.pointer (some ⟨M.ta i, 0, none⟩)]⟩ : Blk))
  have hE := ((hE0.bump 17).set (b := H.next + 1 + 1 + 11) (by omega) (by simp only [next_bump, next_set, next_alloc]; omega) (⟨39, 0, false, [nv i, nv (S.tk i).at_]⟩ : Blk))
  have h5 := h.ext hE
  have hOt := h5.trace (by simp)
  rw [htr] at hOt
  obtain ⟨H6, ha6, h6, hO6, hF6, hn6, hk6⟩ := h5.append .trace (by simp) (by simp) (by simp) (bytes := 16) (nb := H.next + 1 + 1 + 11) (x := ⟨39, 0, false, [nv i, nv (S.tk i).at_]⟩) (vs := [nv i, nv (S.tk i).at_]) hOt (get_set_eq (by omega)) rfl rfl (by omega) rfl (by omega) (by omega)
  simp only [next_bump, next_set, next_alloc] at ha6 h6 hO6 hF6 hn6
  refine cK_vh ha6 ?_
  have hr6 := h6.run
  have hon0 : M.own H.next = none := by
    by_cases e : M.own H.next = none
    · exact e
    · exact absurd (h.lt _ e) (by omega)
  have hon1 : M.own (H.next + 1) = none := by
    by_cases e : M.own (H.next + 1) = none
    · exact e
    · exact absurd (h.lt _ e) (by omega)
  have hc0 := hk6 H.next ⟨71, 0, false, [.pointer (some ⟨r, 0, none⟩)]⟩ (by simp -implicitDefEqProofs (maxDischargeDepth := 6) (maxSteps := 1000000) only [go_sem, ↓reduceIte, Nat.reduceLT, Nat.reduceLeDiff, Nat.reduceEqDiff, Nat.reduceAdd, Nat.reduceMul, Nat.reduceSub, Nat.reduceBEq, reduceCtorEq, Int.reduceEq, Int.reduceLT, Int.reduceLE, Int.reduceNeg, Int.reduceToNat, hnb]) hon0
  have hc1 := hk6 (H.next + 1) ⟨77, 0, false, [.pointer (some ⟨M.ta i, 0, none⟩)]⟩ (by simp -implicitDefEqProofs (maxDischargeDepth := 6) (maxSteps := 1000000) only [go_sem, ↓reduceIte, Nat.reduceLT, Nat.reduceLeDiff, Nat.reduceEqDiff, Nat.reduceAdd, Nat.reduceMul, Nat.reduceSub, Nat.reduceBEq, reduceCtorEq, Int.reduceEq, Int.reduceLT, Int.reduceLE, Int.reduceNeg, Int.reduceToNat, hnb]) hon1
  have hn6' := h6.wf.1
  have hr0 : H.next ≠ r := by omega
  have hr1 : H.next + 1 ≠ r := by omega
  simp -implicitDefEqProofs (maxDischargeDepth := 6) (maxSteps := 1000000) only [go_sem, ↓reduceIte, Nat.reduceLT, Nat.reduceLeDiff, Nat.reduceEqDiff, Nat.reduceAdd, Nat.reduceMul, Nat.reduceSub, Nat.reduceBEq, reduceCtorEq, Int.reduceEq, Int.reduceLT, Int.reduceLE, Int.reduceNeg, Int.reduceToNat, hr6, hc0, hn6']
  refine cK_some ?_ ?_
  · simp -implicitDefEqProofs (maxDischargeDepth := 6) (maxSteps := 1000000) only [go_sem, ↓reduceIte, Nat.reduceLT, Nat.reduceLeDiff, Nat.reduceEqDiff, Nat.reduceAdd, Nat.reduceMul, Nat.reduceSub, Nat.reduceBEq, reduceCtorEq, Int.reduceEq, Int.reduceLT, Int.reduceLE, Int.reduceNeg, Int.reduceToNat, reK, hc0]
  · simp -implicitDefEqProofs (maxDischargeDepth := 6) (maxSteps := 1000000) only [go_sem, ↓reduceIte, Nat.reduceLT, Nat.reduceLeDiff, Nat.reduceEqDiff, Nat.reduceAdd, Nat.reduceMul, Nat.reduceSub, Nat.reduceBEq, reduceCtorEq, Int.reduceEq, Int.reduceLT, Int.reduceLE, Int.reduceNeg, Int.reduceToNat, hr6, hc0, hn6', hrb]
    refine Wk_w_c rfl rfl ?_
    simp -implicitDefEqProofs (maxDischargeDepth := 6) (maxSteps := 1000000) only [go_sem, ↓reduceIte, Nat.reduceLT, Nat.reduceLeDiff, Nat.reduceEqDiff, Nat.reduceAdd, Nat.reduceMul, Nat.reduceSub, Nat.reduceBEq, reduceCtorEq, Int.reduceEq, Int.reduceLT, Int.reduceLE, Int.reduceNeg, Int.reduceToNat, hr6, hc0, hc1, hn6', hrb, hr0, hr1]
    have h7 := h6.setRun (M' := { M with own := upd M.own (H.next + 1 + 1 + 17) (some .trace), trv := .slice (some ⟨H.next + 1 + 1 + 17, 0, none⟩) (S.trace.length + 1) openCap }) (S' := begS S i) rfl rfl rfl rfl rfl rfl (fun j hj => h6.cond j hj (by simp)) (fun j hj => h6.queue j hj (by simp)) (by
      have e : trC (begS S i).trace = trC S.trace ++ [nv i, nv (S.tk i).at_] := by simp [begS, trC_app, trC]
      have e2 : (begS S i).trace.length = S.trace.length + 1 := by simp [begS]
      rw [e, e2]; exact hO6)
    have hF7 := (((Frm.ext (M := M) hE).trans hF6).trans (Frm.set (b := r) (M' := { M with own := upd M.own (H.next + 1 + 1 + 17) (some .trace), trv := .slice (some ⟨H.next + 1 + 1 + 17, 0, none⟩) (S.trace.length + 1) openCap }) (by rw [h6.ro]; simp) (runB (rv { M with own := upd M.own (H.next + 1 + 1 + 17) (some .trace), trv := .slice (some ⟨H.next + 1 + 1 + 17, 0, none⟩) (S.trace.length + 1) openCap } (begS S i))) rfl rfl rfl))
    refine CW_mono _ (do_W h7 (S := begS S i) ⟨ok.vs, ok.ci, ok.len, ok.cb, ok.qb⟩ hi hat hq) ?_
    intro x H8 hp
    have hmx : Nat.max 21 2 = 21 := rfl
    have hst : stepM S i = match doA (begS S i) i (S.tk i).acts[(S.tk i).at_] with | (S1, none) => S1 | (S1, some n) => caughtM S1 i n := by
      unfold stepM
      rw [List.getElem?_eq_getElem hat]
    rw [hst]
    have hp : DoPost _ r _ (begS S i) (doA (begS S i) i (S.tk i).acts[(S.tk i).at_]) x H8 := hp
    generalize hda : doA (begS S i) i (S.tk i).acts[(S.tk i).at_] = da at hp ⊢
    obtain ⟨S1, po⟩ := da
    cases po with
    | none =>
      obtain ⟨rfl, M8, h8, hF8⟩ := hp
      simp -implicitDefEqProofs (maxDischargeDepth := 6) (maxSteps := 1000000) only [go_sem, ↓reduceIte, Nat.reduceLT, Nat.reduceLeDiff, Nat.reduceEqDiff, Nat.reduceAdd, Nat.reduceMul, Nat.reduceSub, Nat.reduceBEq, reduceCtorEq, Int.reduceEq, Int.reduceLT, Int.reduceLE, Int.reduceNeg, Int.reduceToNat, runDf, C44, L44, hmx]
      exact ⟨M8, h8, hF7.trans hF8⟩
    | some n =>
      obtain ⟨rfl, hE8⟩ := hp
      simp -implicitDefEqProofs (maxDischargeDepth := 6) (maxSteps := 1000000) only [go_sem, ↓reduceIte, Nat.reduceLT, Nat.reduceLeDiff, Nat.reduceEqDiff, Nat.reduceAdd, Nat.reduceMul, Nat.reduceSub, Nat.reduceBEq, reduceCtorEq, Int.reduceEq, Int.reduceLT, Int.reduceLE, Int.reduceNeg, Int.reduceToNat, runDf, C44, L44, hmx]
      have hc0' := hE8.of h7.wf (b := H.next) (x := ⟨71, 0, false, [.pointer (some ⟨r, 0, none⟩)]⟩) (by rw [get_set_ne hr0]; exact hc0)
      have hc1' := hE8.of h7.wf (b := H.next + 1) (x := ⟨77, 0, false, [.pointer (some ⟨M.ta i, 0, none⟩)]⟩) (by rw [get_set_ne hr1]; exact hc1)
      have hnb8 := hE8.wf.1
      have hl0 := hE8.wf.lt hc0'
      have hl1 := hE8.wf.lt hc1'
      simp -implicitDefEqProofs (maxDischargeDepth := 6) (maxSteps := 1000000) only [go_sem, ↓reduceIte, Nat.reduceLT, Nat.reduceLeDiff, Nat.reduceEqDiff, Nat.reduceAdd, Nat.reduceMul, Nat.reduceSub, Nat.reduceBEq, reduceCtorEq, Int.reduceEq, Int.reduceLT, Int.reduceLE, Int.reduceNeg, Int.reduceToNat, hc0', hc1', hnb8, hl0, hl1]
      obtain rfl := doA_pan hda
      have h9 := h7.ext (hE8.trans (((Ext.refl hE8.wf).alloc (⟨95, 0, false, [.int .i64 0]⟩ : Blk)).set (b := H8.next) (Nat.le_refl _) (by simp only [next_alloc]; omega) (⟨95, 0, false, [.int .i64 n]⟩ : Blk)))
      have hF9 := hF7.trans (Frm.ext (M := { M with own := upd M.own (H.next + 1 + 1 + 17) (some .trace), trv := .slice (some ⟨H.next + 1 + 1 + 17, 0, none⟩) (S.trace.length + 1) openCap }) (hE8.trans (((Ext.refl hE8.wf).alloc (⟨95, 0, false, [.int .i64 0]⟩ : Blk)).set (b := H8.next) (Nat.le_refl _) (by simp only [next_alloc]; omega) (⟨95, 0, false, [.int .i64 n]⟩ : Blk))))
      have hi9 : i < (begS S i).N := hi
      refine CW_mono _ (caught_W h9.wf hrb h9.run htb (h9.task i hi)) ?_
      rintro x H' ⟨rfl, hx⟩
      by_cases hg : (S.tk i).guard < 0
      · have hg' : (tkV (M.av i) ((begS S i).tk i)).guard < 0 := hg
        rw [if_pos hg'] at hx
        subst hx
        simp -implicitDefEqProofs (maxDischargeDepth := 6) (maxSteps := 1000000) only [go_sem, ↓reduceIte, Nat.reduceLT, Nat.reduceLeDiff, Nat.reduceEqDiff, Nat.reduceAdd, Nat.reduceMul, Nat.reduceSub, Nat.reduceBEq, reduceCtorEq, Int.reduceEq, Int.reduceLT, Int.reduceLE, Int.reduceNeg, Int.reduceToNat, ]
        have e : caughtM (begS S i) i n = { (begS S i) with tk := upd (begS S i).tk i { (begS S i).tk i with died := true, n := n } } := by
          unfold caughtM
          rw [if_pos (show ((begS S i).tk i).guard < 0 from hg)]; rfl
        rw [e]
        exact ⟨_, h9.setTask hi9 (t := { (begS S i).tk i with died := true, n := n }) rfl, hF9.trans (Frm.set (b := M.ta i) (by rw [h9.tko i hi]; simp) _ rfl rfl rfl)⟩
      · have hg' : ¬ (tkV (M.av i) ((begS S i).tk i)).guard < 0 := hg
        rw [if_neg hg'] at hx
        subst hx
        simp -implicitDefEqProofs (maxDischargeDepth := 6) (maxSteps := 1000000) only [go_sem, ↓reduceIte, Nat.reduceLT, Nat.reduceLeDiff, Nat.reduceEqDiff, Nat.reduceAdd, Nat.reduceMul, Nat.reduceSub, Nat.reduceBEq, reduceCtorEq, Int.reduceEq, Int.reduceLT, Int.reduceLE, Int.reduceNeg, Int.reduceToNat, ]
        have h10 := h9.setTask hi9 (t := { (begS S i).tk i with at_ := (S.tk i).guard.toNat, guard := -1, wait := 0 }) rfl
        have h11 := h10.setRun (M' := { M with own := upd M.own (H.next + 1 + 1 + 17) (some .trace), trv := .slice (some ⟨H.next + 1 + 1 + 17, 0, none⟩) (S.trace.length + 1) openCap }) (S' := caughtM (begS S i) i n) rfl rfl rfl rfl (by unfold caughtM; split <;> rfl)
          (by unfold caughtM; rw [if_neg (show ¬ ((begS S i).tk i).guard < 0 from hg)]; rfl) (by unfold caughtM; rw [if_neg (show ¬ ((begS S i).tk i).guard < 0 from hg)]; exact fun j hj => h10.cond j hj (by simp))
          (by unfold caughtM; rw [if_neg (show ¬ ((begS S i).tk i).guard < 0 from hg)]; exact fun j hj => h10.queue j hj (by simp)) (by unfold caughtM; rw [if_neg (show ¬ ((begS S i).tk i).guard < 0 from hg)]; exact h10.trace (by simp))
        have hgz : ((S.tk i).guard.toNat : Int) = (S.tk i).guard := by omega
        refine ⟨{ M with own := upd M.own (H.next + 1 + 1 + 17) (some .trace), trv := .slice (some ⟨H.next + 1 + 1 + 17, 0, none⟩) (S.trace.length + 1) openCap }, ?_, (hF9.trans (Frm.set (b := M.ta i) (M' := { M with own := upd M.own (H.next + 1 + 1 + 17) (some .trace), trv := .slice (some ⟨H.next + 1 + 1 + 17, 0, none⟩) (S.trace.length + 1) openCap }) (by rw [h9.tko i hi]; simp) _ rfl rfl rfl)).trans (Frm.set (b := r) (by rw [h9.ro]; simp) _ rfl rfl rfl)⟩
        have e1 : taskB { acts := M.av i, at_ := ((begS S i).tk i).guard, guard := -1, wait := 0, died := ((begS S i).tk i).died, n := ((begS S i).tk i).n } = taskB (tkV (M.av i) { (begS S i).tk i with at_ := (S.tk i).guard.toNat, guard := -1, wait := 0 }) := by
          unfold tkV
          rw [hgz]; rfl
        have e2 : runB (rv { M with own := upd M.own (H.next + 1 + 1 + 17) (some .trace), trv := .slice (some ⟨H.next + 1 + 1 + 17, 0, none⟩) (S.trace.length + 1) openCap } (caughtM (begS S i) i n)) =
            runB { tasks := M.tv, room := (begS S i).room, locks := (begS S i).locks, conds := M.cv, queues := M.qv, regs := upd (begS S i).regs 7 n, last := (begS S i).last, trace := .slice (some ⟨H.next + 1 + 1 + 17, 0, none⟩) (S.trace.length + 1) openCap } := by
          unfold caughtM; rw [if_neg (show ¬ ((begS S i).tk i).guard < 0 from hg)]; rfl
        rw [e1, ← e2]
        exact h11
end Go.Am.T
namespace Go.Am.T
open Go Go.Am Go.Proofs.Ythanhcpnhionaaa Go.Proofs
structure Kp (S S' : Sx) : Prop where
  N : S'.N = S.N
  acts : ∀ j, (S'.tk j).acts = (S.tk j).acts
  room : S'.room = S.room
  trace : S'.trace = S.trace
  cond : ∀ j, (S'.conds j).length ≤ (S.conds j).length + 1
  queue : ∀ j, (S'.queues j).length ≤ (S.queues j).length + 1
  ci : CI S → CI S'
theorem Kp.refl {S : Sx} : Kp S S := ⟨rfl, fun _ => rfl, rfl, rfl, fun _ => Nat.le_succ _, fun _ => Nat.le_succ _, id⟩
theorem Kp.setTk {S S' : Sx} (h : Kp S S') {i : Nat} {t : Tk} (ht : t.acts = (S'.tk i).acts) : Kp S (setTk S' i t) :=
  ⟨h.N, fun j => by
    by_cases e : j = i
    · subst e; simp only [Go.Am.T.setTk, upd_same]; rw [ht]; exact h.acts j
    · simp only [Go.Am.T.setTk, upd_ne e]; exact h.acts j, h.room, h.trace, h.cond, h.queue, h.ci⟩
theorem Kp.wakeAll {S : Sx} (l : List Nat) : ∀ {S' : Sx}, Kp S S' → Kp S (wakeAll S' l) := by
  induction l with
  | nil => intro S' h; exact h
  | cons i l ih => intro S' h; exact ih (h.setTk rfl)
theorem Kp.wakeM {S : Sx} {c n : Nat} : Kp S (wakeM S c n) := by
  have h := Kp.wakeAll ((S.conds c).take n) (Kp.refl (S := S))
  refine ⟨h.N, h.acts, h.room, h.trace, fun j => ?_, h.queue, fun hc j hj x hx => ?_⟩
  · show (upd S.conds c ((S.conds c).drop n) j).length ≤ _
    by_cases e : j = c
    · subst e; rw [upd_same, List.length_drop]; omega
    · rw [upd_ne e]; omega
  · have hx : x ∈ upd S.conds c ((S.conds c).drop n) j := hx
    show x < (Go.Am.T.wakeAll S ((S.conds c).take n)).N
    rw [h.N]
    by_cases e : j = c
    · subst e; rw [upd_same] at hx; exact hc j hj x (List.mem_of_mem_drop hx)
    · rw [upd_ne e] at hx; exact hc j hj x hx
theorem Kp.ite {S : Sx} {c : Prop} [Decidable c] {x y : Sx × Option Int} (hx : Kp S x.1) (hy : Kp S y.1) : Kp S (if c then x else y).1 := by split <;> assumption
theorem Kp.same {S S' S2 : Sx} (h : Kp S S') (e1 : S2.N = S'.N) (e2 : S2.tk = S'.tk) (e3 : S2.room = S'.room) (e4 : S2.trace = S'.trace) (e5 : S2.conds = S'.conds) (e6 : S2.queues = S'.queues) : Kp S S2 :=
  ⟨e1.trans h.N, by rw [e2]; exact h.acts, e3.trans h.room, e4.trans h.trace, by rw [e5]; exact h.cond, by rw [e6]; exact h.queue, by unfold CI; rw [e5, e1]; exact h.ci⟩
theorem Kp.adv {S S' : Sx} {i : Nat} (h : Kp S S') : Kp S (adv S' i) := h.setTk rfl
theorem doA_kp {S : Sx} {i : Nat} {a : Act} (hi : i < S.N) : Kp S (doA S i a).1 := by
  unfold doA
  refine Kp.ite ?_ (Kp.ite (Kp.ite ?_ ?_) (Kp.ite (Kp.ite (Kp.ite ?_ ?_) ?_) (Kp.ite ?_ (Kp.ite ?_ (Kp.ite ?_ (Kp.ite ?_ (Kp.ite ?_ (Kp.ite ?_ (Kp.ite (Kp.ite ?_ ?_) (Kp.ite ?_ (Kp.ite ?_ ?_)))))))))))
  · exact Kp.adv (S' := { S with locks := upd S.locks a.a.toNat i }) (Kp.same (S' := S) Kp.refl rfl rfl rfl rfl rfl rfl)
  · exact Kp.adv (S' := { S with locks := upd S.locks a.a.toNat (-1) }) (Kp.same (S' := S) Kp.refl rfl rfl rfl rfl rfl rfl)
  · exact Kp.refl
  · have h : Kp S (setTk S i { S.tk i with wait := 1 }) := Kp.setTk Kp.refl rfl
    refine ⟨h.N, h.acts, h.room, h.trace, fun j => ?_, h.queue, fun hc j hj x hx => ?_⟩
    · show (upd S.conds a.a.toNat (S.conds a.a.toNat ++ [i]) j).length ≤ _
      by_cases e : j = a.a.toNat
      · subst e; rw [upd_same, List.length_append]; exact Nat.le_refl _
      · rw [upd_ne e]; omega
    · have hx : x ∈ upd S.conds a.a.toNat (S.conds a.a.toNat ++ [i]) j := hx
      show x < S.N
      by_cases e : j = a.a.toNat
      · subst e; rw [upd_same, List.mem_append, List.mem_singleton] at hx
        rcases hx with hx | hx
        · exact hc _ hj x hx
        · subst hx; exact hi
      · rw [upd_ne e] at hx; exact hc j hj x hx
  · exact Kp.refl
  · exact Kp.adv (S' := waitS2 S i a) (Kp.same (S' := setTk S i { S.tk i with wait := 0 }) (Kp.setTk Kp.refl rfl) rfl rfl rfl rfl rfl rfl)
  · exact Kp.adv Kp.wakeM
  · exact Kp.adv Kp.wakeM
  · refine Kp.adv (S' := { S with queues := upd S.queues a.a.toNat (S.queues a.a.toNat ++ [a.n]) }) ⟨rfl, fun _ => rfl, rfl, rfl, fun _ => Nat.le_succ _, fun j => ?_, id⟩
    show (upd S.queues a.a.toNat (S.queues a.a.toNat ++ [a.n]) j).length ≤ _
    by_cases e : j = a.a.toNat
    · subst e; rw [upd_same, List.length_append]; exact Nat.le_refl _
    · rw [upd_ne e]; omega
  · refine Kp.adv (S' := { S with regs := upd S.regs a.b.toNat ((S.queues a.a.toNat).headD 0), queues := upd S.queues a.a.toNat (S.queues a.a.toNat).tail }) ⟨rfl, fun _ => rfl, rfl, rfl, fun _ => Nat.le_succ _, fun j => ?_, id⟩
    show (upd S.queues a.a.toNat (S.queues a.a.toNat).tail j).length ≤ _
    by_cases e : j = a.a.toNat
    · subst e; rw [upd_same, List.length_tail]; omega
    · rw [upd_ne e]; omega
  · exact Kp.adv (S' := { S with regs := upd S.regs a.a.toNat (IntKind.i64.wrap (S.regs a.a.toNat + a.n)) }) (Kp.same (S' := S) Kp.refl rfl rfl rfl rfl rfl rfl)
  · exact Kp.adv (S' := { S with regs := upd S.regs a.b.toNat (S.regs a.a.toNat) }) (Kp.same (S' := S) Kp.refl rfl rfl rfl rfl rfl rfl)
  · exact Kp.adv (Kp.setTk Kp.refl rfl)
  · exact Kp.adv Kp.refl
  · exact Kp.refl
  · exact Kp.adv (Kp.setTk Kp.refl rfl)
  · exact Kp.adv Kp.refl
structure OkR (S : Sx) : Prop where
  vs : VS S
  ci : CI S
  len : ∀ i, i < S.N → (S.tk i).acts.length ≤ 65536
  N : S.N ≤ 65536
  cb : ∀ j, (S.conds j).length ≤ S.trace.length
  qb : ∀ j, (S.queues j).length ≤ S.trace.length
theorem stepM_kp {S : Sx} {i : Nat} (hi : i < S.N) (hat : (S.tk i).at_ < (S.tk i).acts.length) : Kp (begS S i) (stepM S i) := by
  unfold stepM
  rw [List.getElem?_eq_getElem hat]
  have h := doA_kp (S := begS S i) (i := i) (a := (S.tk i).acts[(S.tk i).at_]) hi
  dsimp only
  generalize doA (begS S i) i (S.tk i).acts[(S.tk i).at_] = d at h
  obtain ⟨S1, po⟩ := d
  cases po with
  | none => exact h
  | some n =>
    show Kp _ (caughtM S1 i n)
    unfold caughtM
    split
    · exact h.setTk rfl
    · exact Kp.same (h.setTk (i := i) (t := { S1.tk i with at_ := (S1.tk i).guard.toNat, guard := -1, wait := 0 }) rfl) rfl rfl rfl rfl rfl rfl
theorem OkR.step {S : Sx} (h : OkR S) {i : Nat} (hi : i < S.N) (hat : (S.tk i).at_ < (S.tk i).acts.length) : OkR (stepM S i) := by
  have k := stepM_kp hi hat
  have kt : (stepM S i).trace.length = S.trace.length + 1 := by rw [k.trace]; simp [begS]
  refine ⟨?_, k.ci h.ci, ?_, by rw [k.N]; exact h.N, fun j => ?_, fun j => ?_⟩
  · intro j hj m hm
    have e := k.acts j
    have hj : j < S.N := by rw [k.N] at hj; exact hj
    have e : ((stepM S i).tk j).acts = (S.tk j).acts := e
    simp only [e] at hm ⊢
    exact h.vs j hj m hm
  · intro j hj
    have e : ((stepM S i).tk j).acts = (S.tk j).acts := k.acts j
    rw [e]
    exact h.len j (by rw [k.N] at hj; exact hj)
  · have := k.cond j; have h2 := h.cb j; have e : (begS S i).conds j = S.conds j := rfl; rw [e] at this; omega
  · have := k.queue j; have h2 := h.qb j; have e : (begS S i).queues j = S.queues j := rfl; rw [e] at this; omega
theorem mem_rdy {S : Sx} {i : Nat} : i ∈ rdy S ↔ i < S.N ∧ howS S i = 3 := by
  unfold rdy rdyTo
  simp
theorem how_3 {S : Sx} {i : Nat} (h : howS S i = 3) : ∃ hat : (S.tk i).at_ < (S.tk i).acts.length, ((S.tk i).acts[(S.tk i).at_].k = 7 → S.queues (S.tk i).acts[(S.tk i).at_].a.toNat ≠ []) ∧ (S.tk i).died = false := by
  unfold howS howP at h
  have e : (tkV .nilIface (S.tk i)).at_.toNat = (S.tk i).at_ := by simp [tkV]
  have e2 : (tkV .nilIface (S.tk i)).died = (S.tk i).died := rfl
  rw [e, e2] at h
  cases hd : (S.tk i).died with
  | true => rw [hd] at h; simp at h
  | false =>
    rw [hd] at h
    simp only [Bool.false_eq_true, if_false] at h
    by_cases hat : (S.tk i).at_ < (S.tk i).acts.length
    · refine ⟨hat, ?_, rfl⟩
      rw [List.getElem?_eq_getElem hat] at h
      intro hk hq
      simp only [hk, hq, List.length_nil] at h
      simp at h
    · rw [List.getElem?_eq_none (by omega)] at h
      simp at h
theorem nextP_mem {last : Int} {k : Nat} {l : List Nat} {picks : List Int} (hl : l ≠ []) : nextP last k l picks ∈ l := by
  have hlen : 0 < l.length := by cases l with | nil => exact absurd rfl hl | cons a b => simp
  unfold nextP
  split
  · rename_i p hp
    have hm : p.toNat % l.length < l.length := Nat.mod_lt _ hlen
    rw [List.getD_eq_getElem?_getD, List.getElem?_eq_getElem hm]
    exact List.getElem_mem hm
  · cases hf : l.find? (fun (i : Nat) => decide (last < (i : Int))) with
    | some x => exact List.mem_of_find?_eq_some hf
    | none =>
      rw [Option.getD_none, List.getD_eq_getElem?_getD, List.getElem?_eq_getElem hlen]
      exact List.getElem_mem hlen
def runM : Nat → Sx → List Int → Sx
  | 0, S, _ => S
  | k + 1, S, picks => if rdy S = [] then S else runM k (stepM S (nextP S.last S.trace.length (rdy S) picks)) picks
def RdN (M : Mem) (H : Heap) (v : Value) (l : List Value) : Prop := RdI H v l ∧ ∀ a n c, v = .slice (some a) n c → l ≠ [] → M.own a.block = none
theorem RdN.frm {M M' : Mem} {H H' : Heap} {v : Value} {l : List Value} (h : RdN M H v l) (hw : WF H) (hF : Frm H M H' M') : RdN M' H' v l := by
  obtain ⟨⟨a, c, e, k⟩, ho⟩ := h
  refine ⟨⟨a, c, e, fun hl => ?_⟩, ?_⟩
  · obtain ⟨hc, b, o, x, ha, hx, q⟩ := k hl
    subst ha
    have hob := ho _ _ _ e hl
    exact ⟨hc, b, o, x, rfl, (hF.get b (hw.lt hx) hob).trans hx, q⟩
  · intro a' n' c' e' hl
    have hob := ho _ _ _ e' hl
    obtain ⟨hc, b, o, x, ha, hx, q⟩ := k hl
    subst ha
    rw [e] at e'
    simp only [Value.slice.injEq, Option.some.injEq] at e'
    obtain ⟨rfl, _⟩ := e'
    exact (hF.own b (hw.lt hx)).trans hob
theorem rdy_len (S : Sx) : (rdy S).length ≤ S.N := rdyTo_len S S.N
theorem all_W {H : Heap} {r : Nat} {M : Mem} {S : Sx} (h : Rep H r M S) (ok : OkR S) {pv : Value} {picks : List Int} (hp : RdN M H pv (picks.map iv)) (hpos : ∀ p ∈ picks, 0 ≤ p) {most : Nat} (hm : most ≤ 65536) (ht : S.trace.length ≤ 65536) :
   CW Try.prog 30 #[.pointer (some ⟨r, 0, none⟩), pv, nv most] H fun x H' => x = .ret (.tuple #[]) ∧ ∃ M', Rep H' r M' (runM (most - S.trace.length) S picks) ∧ Frm H M H' M' := by
  refine CW_k (n := 25) if30 rfl ?_
  unfold C30
  simp -implicitDefEqProofs (maxDischargeDepth := 6) (maxSteps := 1000000) only [go_sem, ↓reduceIte, Nat.reduceLT, Nat.reduceLeDiff, Nat.reduceEqDiff, Nat.reduceAdd, Nat.reduceMul, Nat.reduceSub, Nat.reduceBEq, reduceCtorEq, Int.reduceEq, Int.reduceLT, Int.reduceLE, Int.reduceNeg, Int.reduceToNat, nv]
  refine Wk_loopF (fun m f H1 => ∃ S1 M1, m = most - S1.trace.length ∧ S1.trace.length ≤ 65536 ∧ f.get 0 = some (.pointer (some ⟨r, 0, none⟩)) ∧ f.get 1 = some pv ∧ f.get 2 = some (nv most) ∧ Rep H1 r M1 S1 ∧ OkR S1 ∧ Frm H M H1 M1 ∧
    runM (most - S1.trace.length) S1 picks = runM (most - S.trace.length) S picks) (most - S.trace.length) ?_ ?_
  · refine ⟨S, M, rfl, ht, ?_, ?_, ?_, h, ok, Frm.refl, rfl⟩
    all_goals simp -implicitDefEqProofs (maxDischargeDepth := 6) (maxSteps := 1000000) only [go_sem, ↓reduceIte, Nat.reduceLT, Nat.reduceLeDiff, Nat.reduceEqDiff, Nat.reduceAdd, Nat.reduceMul, Nat.reduceSub, Nat.reduceBEq, reduceCtorEq, Int.reduceEq, Int.reduceLT, Int.reduceLE, Int.reduceNeg, Int.reduceToNat, nv]
  · rintro m f H1 ⟨S1, M1, rfl, ht1, f0, f1, f2, h1, ok1, hF, hrun⟩
    unfold L30_1
    obtain ⟨ta, tc, htr⟩ := (h1.trace (by simp)).sl
    by_cases hlt : S1.trace.length < most
    · have hltZ : (S1.trace.length : Int) < (most : Int) := by omega
      simp -implicitDefEqProofs (maxDischargeDepth := 6) (maxSteps := 1000000) only [go_sem, ↓reduceIte, Nat.reduceLT, Nat.reduceLeDiff, Nat.reduceEqDiff, Nat.reduceAdd, Nat.reduceMul, Nat.reduceSub, Nat.reduceBEq, reduceCtorEq, Int.reduceEq, Int.reduceLT, Int.reduceLE, Int.reduceNeg, Int.reduceToNat, f0, f1, f2, h1.run, htr, goInt, nv, hltZ]
      refine CW_mono _ (ready_W h1 ok1.vs ok1.N) ?_
      rintro _ H2 ⟨v, rfl, hE2, hO2⟩
      obtain ⟨va, vc, rfl⟩ := hO2.sl
      have hlen : (rdy S1).length ≤ 65536 := Nat.le_trans (rdy_len S1) ok1.N
      by_cases hem : rdy S1 = []
      · have hz : ((rdy S1).length : Int) = 0 := by rw [hem]; rfl
        simp -implicitDefEqProofs (maxDischargeDepth := 6) (maxSteps := 1000000) only [go_sem, ↓reduceIte, Nat.reduceLT, Nat.reduceLeDiff, Nat.reduceEqDiff, Nat.reduceAdd, Nat.reduceMul, Nat.reduceSub, Nat.reduceBEq, reduceCtorEq, Int.reduceEq, Int.reduceLT, Int.reduceLE, Int.reduceNeg, Int.reduceToNat, f0, f1, f2, goInt, nv, hz]
        refine ⟨M1, ?_, hF.trans (Frm.ext hE2)⟩
        rw [← hrun]
        obtain ⟨k, hk⟩ : ∃ k, most - S1.trace.length = k + 1 := ⟨most - S1.trace.length - 1, by omega⟩
        rw [hk, runM, if_pos hem]
        exact h1.ext hE2
      · have hz : ¬ ((rdy S1).length : Int) = 0 := by
          intro e; apply hem; exact List.eq_nil_of_length_eq_zero (by omega)
        simp -implicitDefEqProofs (maxDischargeDepth := 6) (maxSteps := 1000000) only [go_sem, ↓reduceIte, Nat.reduceLT, Nat.reduceLeDiff, Nat.reduceEqDiff, Nat.reduceAdd, Nat.reduceMul, Nat.reduceSub, Nat.reduceBEq, reduceCtorEq, Int.reduceEq, Int.reduceLT, Int.reduceLE, Int.reduceNeg, Int.reduceToNat, f0, f1, f2, goInt, nv, hz]
        have h2 := h1.ext hE2
        have hF2 := hF.trans (Frm.ext (M := M1) hE2)
        have hp2 := hp.frm h.wf hF2
        refine CW_mono _ (next_W h2 hO2.rd hp2.1 hem hpos hlen (by omega)) ?_
        rintro _ _ ⟨rfl, rfl⟩
        simp -implicitDefEqProofs (maxDischargeDepth := 6) (maxSteps := 1000000) only [go_sem, ↓reduceIte, Nat.reduceLT, Nat.reduceLeDiff, Nat.reduceEqDiff, Nat.reduceAdd, Nat.reduceMul, Nat.reduceSub, Nat.reduceBEq, reduceCtorEq, Int.reduceEq, Int.reduceLT, Int.reduceLE, Int.reduceNeg, Int.reduceToNat, f0, f1, f2, goInt, nv]
        have hmem := nextP_mem (last := S1.last) (k := S1.trace.length) (picks := picks) hem
        generalize hni : nextP S1.last S1.trace.length (rdy S1) picks = i at hmem ⊢
        obtain ⟨hi, hh⟩ := mem_rdy.1 hmem
        obtain ⟨hat, hq, _⟩ := how_3 hh
        refine CW_mono _ (step_W h2 ⟨ok1.vs, ok1.ci, ok1.len, fun j => by have := ok1.cb j; omega, fun j => by have := ok1.qb j; omega⟩ hi hat (by omega) hq) ?_
        rintro _ H3 ⟨rfl, M3, h3, hF3⟩
        have kt : (stepM S1 i).trace.length = S1.trace.length + 1 := by rw [(stepM_kp hi hat).trace]; simp [begS]
        simp -implicitDefEqProofs (maxDischargeDepth := 6) (maxSteps := 1000000) only [go_sem, ↓reduceIte, Nat.reduceLT, Nat.reduceLeDiff, Nat.reduceEqDiff, Nat.reduceAdd, Nat.reduceMul, Nat.reduceSub, Nat.reduceBEq, reduceCtorEq, Int.reduceEq, Int.reduceLT, Int.reduceLE, Int.reduceNeg, Int.reduceToNat, f0, f1, f2, goInt, nv]
        refine ⟨most - (stepM S1 i).trace.length, by omega, stepM S1 i, M3, rfl, by omega, ?_, ?_, ?_, h3, ok1.step hi hat, hF2.trans hF3, ?_⟩
        · simp only [Tr.get_put, Nat.reduceEqDiff, ↓reduceIte, f0, f1, f2]
        · simp only [Tr.get_put, Nat.reduceEqDiff, ↓reduceIte, f0, f1, f2]
        · simp only [Tr.get_put, Nat.reduceEqDiff, ↓reduceIte, f0, f1, f2, nv]
        · rw [← hrun]
          obtain ⟨k, hk⟩ : ∃ k, most - S1.trace.length = k + 1 := ⟨most - S1.trace.length - 1, by omega⟩
          rw [hk, runM, if_neg hem, hni, kt]
          congr 1
          omega
    · have hltZ : ¬ (S1.trace.length : Int) < (most : Int) := by omega
      simp -implicitDefEqProofs (maxDischargeDepth := 6) (maxSteps := 1000000) only [go_sem, ↓reduceIte, Nat.reduceLT, Nat.reduceLeDiff, Nat.reduceEqDiff, Nat.reduceAdd, Nat.reduceMul, Nat.reduceSub, Nat.reduceBEq, reduceCtorEq, Int.reduceEq, Int.reduceLT, Int.reduceLE, Int.reduceNeg, Int.reduceToNat, f0, f1, f2, h1.run, htr, goInt, nv, hltZ]
      refine ⟨M1, ?_, hF⟩
      rw [← hrun, show most - S1.trace.length = 0 from by omega]
      exact h1
end Go.Am.T
namespace Go.Am.T
open Go Go.Am Go.Proofs.Ythanhcpnhionaaa Go.Proofs
structure TasksAt (H : Heap) (tv : Value) (ts : List (List Act)) (av : Nat → Value) : Prop where
  rd : RdI H tv ((List.range ts.length).map av)
  acts : ∀ i (h : i < ts.length), ActsAt H (av i) ts[i]
def tk0 (l : List Act) : Tk := { acts := l, at_ := 0, guard := -1, wait := 0, died := false, n := 0 }
def S0 (ts : List (List Act)) (room : Int) : Sx :=
  { N := ts.length, tk := fun i => tk0 (ts.getD i []), room := room, locks := fun _ => -1, conds := fun _ => [], queues := fun _ => [], regs := fun _ => 0, last := -1, trace := [] }
def R0 (room : Int) (tv : Value) (k : Nat) : RunV :=
  { tasks := tv, room := room, locks := fun j => if j < k then -1 else 0, conds := fun _ => .slice none 0 0, queues := fun _ => .slice none 0 0, regs := fun _ => 0, last := -1, trace := .slice none 0 0 }
def ptrs (ta : Nat → Nat) (k : Nat) : List Value := (List.range k).map fun i => .pointer (some ⟨ta i, 0, none⟩)
theorem R0_lock {room : Int} {tv : Value} {k : Nat} : { R0 room tv k with locks := upd (R0 room tv k).locks k (-1) } = R0 room tv (k + 1) := by
  have : upd (R0 room tv k).locks k (-1) = (R0 room tv (k + 1)).locks := by
    funext j
    unfold upd R0
    dsimp only
    by_cases e : j = k
    · subst e; rw [if_pos rfl, if_pos (by omega)]
    · rw [if_neg e]
      by_cases h : j < k
      · rw [if_pos h, if_pos (by omega)]
      · rw [if_neg h, if_neg (by omega)]
  rw [this]; rfl
theorem ptrs_succ {ta : Nat → Nat} {k : Nat} : ptrs ta (k + 1) = ptrs ta k ++ [.pointer (some ⟨ta k, 0, none⟩)] := by
  unfold ptrs; rw [List.range_succ, List.map_append]; rfl
theorem ptrs_congr {ta tb : Nat → Nat} {k : Nat} (h : ∀ i, i < k → ta i = tb i) : ptrs ta k = ptrs tb k := by
  unfold ptrs
  apply List.map_congr_left
  intro i hi
  rw [h i (List.mem_range.1 hi)]
structure Made (H : Heap) (av : Nat → Value) (ts : List (List Act)) (room : Int) (k : Nat) (H1 : Heap) (tv1 : Value) (ta : Nat → Nat) : Prop where
  ext : Ext H H1
  run : H1.get H.next = some (runB (R0 room tv1 4))
  own : OwnL (fun b => H.next ≤ b) H1 1 77 tv1 k (ptrs ta k)
  task : ∀ i, i < k → H1.get (ta i) = some (taskB (tkV (av i) (tk0 (ts.getD i []))))
  ge : ∀ i, i < k → H.next ≤ ta i
  inj : ∀ i j, i < k → j < k → ta i = ta j → i = j
theorem made_rep {H : Heap} (hw : WF H) {tv : Value} {ts : List (List Act)} {av : Nat → Value} (ht : TasksAt H tv ts av) {room : Int} {H1 : Heap} {tv1 : Value} {ta : Nat → Nat} (hM : Made H av ts room ts.length H1 tv1 ta) :
    ∃ r M, CR.ret (.pointer (some ⟨H.next, 0, none⟩)) = .ret (.pointer (some ⟨r, 0, none⟩)) ∧ Rep H1 r M (S0 ts room) ∧ Ext H H1 ∧ (∀ b, b < H.next → M.own b = none) ∧ ∀ i, i < ts.length → M.av i = av i := by
  obtain ⟨ab, hab⟩ : ∃ ab : Option Nat, ∀ b, ab = some b ↔ ∃ o n c, tv1 = .slice (some ⟨b, o, none⟩) n c := by
    cases tv1 with
    | slice a n c =>
      cases a with
      | none => exact ⟨none, fun b => by simp⟩
      | some a =>
        obtain ⟨b, o, sp⟩ := a
        cases sp with
        | none => exact ⟨some b, fun b' => by simp⟩
        | some q => exact ⟨none, fun b => by simp⟩
    | _ => exact ⟨none, fun b => by simp⟩
  have hblk : ∀ b, ab = some b → ∃ x, H1.get b = some x ∧ x.opn = true ∧ H.next ≤ b := by
    intro b hb
    obtain ⟨o, n, c, e⟩ := (hab b).1 hb
    rcases hM.own with ⟨e2, _⟩ | ⟨b', o', pre, e2, _, h3, h4, _⟩
    · rw [e] at e2; cases e2
    · rw [e] at e2; simp only [Value.slice.injEq, Option.some.injEq, Addr.mk.injEq] at e2
      obtain ⟨⟨rfl, _⟩, _⟩ := e2
      exact ⟨_, h4, rfl, h3⟩
  let own : Nat → Option Role := fun b => if b = H.next then some .run else if ab = some b then some .arr else ((List.range ts.length).find? fun i => decide (ta i = b)).map .task
  have own_r : own H.next = some .run := by simp [own]
  have own_a : ∀ b, ab = some b → own b = some .arr := by
    intro b hb
    have : b ≠ H.next := by
      intro e; subst e
      obtain ⟨x, hx, ho, _⟩ := hblk _ hb
      rw [hM.run] at hx; cases hx; cases ho
    simp [own, this, hb]
  have own_t : ∀ i, i < ts.length → own (ta i) = some (.task i) := by
    intro i hi
    have h1 : ta i ≠ H.next := by
      intro e; have := hM.task i hi; rw [e, hM.run] at this; simp [runB, taskB] at this
    have h2 : ab ≠ some (ta i) := by
      intro e; obtain ⟨x, hx, ho, _⟩ := hblk _ e
      rw [hM.task i hi] at hx; cases hx; cases ho
    have h3 : (List.range ts.length).find? (fun j => decide (ta j = ta i)) = some i := by
      rw [List.find?_eq_some_iff_getElem]
      refine ⟨by simp, i, by simpa using hi, by simp, ?_⟩
      intro j hj
      simp only [List.getElem_range, Bool.not_eq_true', decide_eq_false_iff_not]
      intro e; have := hM.inj j i (by omega) hi e; omega
    simp only [own, h1, h2, if_false, h3, Option.map_some]
  have own_lt : ∀ b, own b ≠ none → H.next ≤ b ∧ b < H1.next := by
    intro b hb
    by_cases e1 : b = H.next
    · subst e1; exact ⟨Nat.le_refl _, hM.ext.wf.lt hM.run⟩
    · by_cases e2 : ab = some b
      · obtain ⟨x, hx, _, hge⟩ := hblk _ e2
        exact ⟨hge, hM.ext.wf.lt hx⟩
      · simp only [own, e1, e2, if_false] at hb
        cases hf : (List.range ts.length).find? (fun i => decide (ta i = b)) with
        | none => rw [hf] at hb; exact absurd rfl hb
        | some i =>
          have h1 := List.find?_some hf
          have h2 := List.mem_of_find?_eq_some hf
          simp only [decide_eq_true_eq] at h1
          rw [List.mem_range] at h2
          subst h1
          exact ⟨hM.ge i h2, hM.ext.wf.lt (hM.task i h2)⟩
  have own_no : ∀ b, b < H.next → own b = none := by
    intro b hb
    by_cases e : own b = none
    · exact e
    · have := (own_lt b e).1; omega
  refine ⟨H.next, { own := own, ta := ta, av := av, tv := tv1, cv := fun _ => .slice none 0 0, qv := fun _ => .slice none 0 0, trv := .slice none 0 0 }, rfl, ⟨hM.ext.wf, hM.run.trans ?_, own_r, hw.1, fun b hb => (own_lt b hb).2, ?_, ?_, own_t, fun i hi => Nat.le_trans hw.1 (hM.ge i hi), ?_, ?_, ?_, ?_⟩, hM.ext, own_no, fun i _ => rfl⟩
  · rfl
  · obtain ⟨a, c, e, k⟩ := hM.own.rd
    have hl : (ptrs ta ts.length).length = ts.length := by simp [ptrs]
    rw [hl] at e
    refine ⟨a, c, e, fun hN => ?_⟩
    obtain ⟨hc, b, o, x, rfl, hx, q⟩ := k (by intro e; rw [e] at hl; exact hN hl.symm)
    refine ⟨hc, b, o, x, rfl, own_a b ((hab b).2 ⟨o, _, c, e⟩), hx, fun i hi => ?_⟩
    have := q i (by rw [hl]; exact hi)
    rw [this]
    simp [ptrs]
  · exact hM.task
  · intro i hi
    have hi' : i < ts.length := hi
    have hgd : ((S0 ts room).tk i).acts = ts[i] := by simp [S0, tk0, hi']
    rw [hgd]
    obtain ⟨a, c, e, k⟩ := ht.acts i hi'
    refine ⟨a, c, e, fun hl => ?_⟩
    obtain ⟨hc, b, o, x, ha, hx, q⟩ := k hl
    exact ⟨hc, b, o, x, ha, hM.ext.of hw hx, own_no b (hw.lt hx), q⟩
  · intro j _ _; exact .inl ⟨rfl, rfl, rfl⟩
  · intro j _ _; exact .inl ⟨rfl, rfl, rfl⟩
  · intro _; exact .inl ⟨rfl, rfl, rfl⟩
theorem begun_W {H : Heap} (hw : WF H) {tv : Value} {ts : List (List Act)} {av : Nat → Value} (ht : TasksAt H tv ts av) {room : Int} (hN : ts.length ≤ 65536) :
   CW Try.prog 29 #[tv, .int .i64 room] H fun x H' => ∃ r M, x = .ret (.pointer (some ⟨r, 0, none⟩)) ∧ Rep H' r M (S0 ts room) ∧ Ext H H' ∧ (∀ b, b < H.next → M.own b = none) ∧ ∀ i, i < ts.length → M.av i = av i := by
  refine CW_k (n := 41) if29 rfl ?_
  unfold C29
  have hnb := hw.1
  simp -implicitDefEqProofs (maxDischargeDepth := 6) (maxSteps := 1000000) only [go_sem, ↓reduceIte, Nat.reduceLT, Nat.reduceLeDiff, Nat.reduceEqDiff, Nat.reduceAdd, Nat.reduceMul, Nat.reduceSub, Nat.reduceBEq, reduceCtorEq, Int.reduceEq, Int.reduceLT, Int.reduceLE, Int.reduceNeg, Int.reduceToNat, ]
  have hE0 := (Ext.refl hw).alloc (runB (R0 room (.slice none 0 0) 0))
  have hg0 : (H.alloc (runB (R0 room (.slice none 0 0) 0))).get H.next = some (runB (R0 room (.slice none 0 0) 0)) := get_alloc_eq hnb
  refine Wk_loopF (fun m f H1 => ∃ k, m = 4 - k ∧ k ≤ 4 ∧ f.get 0 = some tv ∧ f.get 5 = some (.pointer (some ⟨H.next, 0, none⟩)) ∧ f.get 12 = some (nv k) ∧ Ext H H1 ∧ H1.get H.next = some (runB (R0 room (.slice none 0 0) k))) 4 ?_ ?_
  · refine ⟨0, by omega, by omega, ?_, ?_, ?_, hE0, hg0⟩
    all_goals simp -implicitDefEqProofs (maxDischargeDepth := 6) (maxSteps := 1000000) only [go_sem, ↓reduceIte, Nat.reduceLT, Nat.reduceLeDiff, Nat.reduceEqDiff, Nat.reduceAdd, Nat.reduceMul, Nat.reduceSub, Nat.reduceBEq, reduceCtorEq, Int.reduceEq, Int.reduceLT, Int.reduceLE, Int.reduceNeg, Int.reduceToNat, nv]
    rfl
  rintro m f H1 ⟨k, rfl, hk, f0, f5, f12, hE1, hg1⟩
  have hrl := hE1.wf.lt hg1
  unfold L29_1
  by_cases hlt : k < 4
  · have hltZ : (k : Int) < 4 := by omega
    have hk0 : (0 : Int) ≤ (k : Int) := by omega
    have hw1 : IntKind.i64.wrap ((k : Int) + 1) = ((k + 1 : Nat) : Int) := IntWalk.i64_in _ (by omega)
    simp -implicitDefEqProofs (maxDischargeDepth := 6) (maxSteps := 1000000) only [go_sem, ↓reduceIte, Nat.reduceLT, Nat.reduceLeDiff, Nat.reduceEqDiff, Nat.reduceAdd, Nat.reduceMul, Nat.reduceSub, Nat.reduceBEq, reduceCtorEq, Int.reduceEq, Int.reduceLT, Int.reduceLE, Int.reduceNeg, Int.reduceToNat, f0, f5, f12, nv, hltZ, hk0, hlt, hg1, hnb, hw1]
    refine ⟨4 - (k + 1), by omega, k + 1, rfl, by omega, ?_, ?_, ?_, ?_, ?_⟩
    · simp only [Tr.get_put, Nat.reduceEqDiff, ↓reduceIte, f0]
    · simp only [Tr.get_put, Nat.reduceEqDiff, ↓reduceIte, f5]
    · simp only [Tr.get_put, Nat.reduceEqDiff, ↓reduceIte, nv]
    · exact hE1.set (Nat.le_refl _) hrl _
    · rw [get_set_eq hnb, ← R0_lock]
  have hltZ : ¬ (k : Int) < 4 := by omega
  obtain rfl : k = 4 := by omega
  obtain ⟨ta0, tc0, htv, htr⟩ := id ht.rd
  simp only [List.length_map, List.length_range] at htv
  simp -implicitDefEqProofs (maxDischargeDepth := 6) (maxSteps := 1000000) only [go_sem, ↓reduceIte, Nat.reduceLT, Nat.reduceLeDiff, Nat.reduceEqDiff, Nat.reduceAdd, Nat.reduceMul, Nat.reduceSub, Nat.reduceBEq, reduceCtorEq, Int.reduceEq, Int.reduceLT, Int.reduceLE, Int.reduceNeg, Int.reduceToNat, f0, f5, f12, nv, hltZ, htv, goInt]
  refine Wk_loopF (fun m f H1 => ∃ k tv1 ta, m = ts.length - k ∧ k ≤ ts.length ∧ f.get 5 = some (.pointer (some ⟨H.next, 0, none⟩)) ∧ f.get 21 = some (.slice ta0 ts.length tc0) ∧ f.get 22 = some (nv ts.length) ∧ f.get 23 = some (nv k) ∧ Made H av ts room k H1 tv1 ta) ts.length ?_ ?_
  · refine ⟨0, .slice none 0 0, fun _ => 0, by omega, by omega, ?_, ?_, ?_, ?_, hE1, hg1, .inl ⟨rfl, rfl, rfl⟩, fun i hi => absurd hi (by omega), fun i hi => absurd hi (by omega), fun i j hi => absurd hi (by omega)⟩
    all_goals simp -implicitDefEqProofs (maxDischargeDepth := 6) (maxSteps := 1000000) only [go_sem, ↓reduceIte, Nat.reduceLT, Nat.reduceLeDiff, Nat.reduceEqDiff, Nat.reduceAdd, Nat.reduceMul, Nat.reduceSub, Nat.reduceBEq, reduceCtorEq, Int.reduceEq, Int.reduceLT, Int.reduceLE, Int.reduceNeg, Int.reduceToNat, nv, f5]
    rfl
  rintro m f H1 ⟨k, tv1, ta, rfl, hk, f5, f21, f22, f23, hM⟩
  unfold L29_2
  by_cases hlt : k < ts.length
  · have hltZ : (k : Int) < (ts.length : Int) := by omega
    have hk0 : (0 : Int) ≤ (k : Int) := by omega
    have hw1 : IntKind.i64.wrap ((k : Int) + 1) = ((k + 1 : Nat) : Int) := IntWalk.i64_in _ (by omega)
    obtain ⟨b, o, c, x, hv, hc, hx, hxk⟩ := ht.rd.at_ (i := k) (by simpa using hlt)
    rw [htv] at hv
    simp only [Value.slice.injEq, List.length_map, List.length_range, true_and] at hv
    obtain ⟨rfl, rfl⟩ := hv
    simp only [List.getElem_map, List.getElem_range] at hxk
    obtain ⟨aa, ac, hav⟩ := (ht.acts k hlt).len
    have hx1 := hM.ext.of hw hx
    have hr1 := hM.run
    have hrl := hM.ext.wf.lt hr1
    have hnb1 := hM.ext.wf.1
    have hxl := hM.ext.wf.lt hx1
    obtain ⟨va, vc, rfl⟩ := hM.own.sl
    simp -implicitDefEqProofs (maxDischargeDepth := 6) (maxSteps := 1000000) only [go_sem, ↓reduceIte, Nat.reduceLT, Nat.reduceLeDiff, Nat.reduceEqDiff, Nat.reduceAdd, Nat.reduceMul, Nat.reduceSub, Nat.reduceBEq, reduceCtorEq, Int.reduceEq, Int.reduceLT, Int.reduceLE, Int.reduceNeg, Int.reduceToNat, f5, f21, f22, f23, nv, hltZ, hk0, hc, hx1, hxk, hr1, hrl, hnb1, hxl, R0, hav]
    have hgd : ts.getD k [] = ts[k] := by simp [hlt]
    have hE2 := (hM.ext.alloc (taskB (tkV (av k) (tk0 (ts.getD k []))))).alloc (⟨77, 0, false, [.pointer (some ⟨H1.next, 0, none⟩)]⟩ : Blk)
    have hk2 : ∀ b x, H1.get b = some x → ((H1.alloc (taskB (tkV (av k) (tk0 (ts.getD k []))))).alloc (⟨77, 0, false, [.pointer (some ⟨H1.next, 0, none⟩)]⟩ : Blk)).get b = some x := fun b x hb => ((((Ext.refl hM.ext.wf).alloc _).alloc _).of hM.ext.wf hb)
    have hO2 := hM.own.frame (p' := fun b => H.next ≤ b) fun b x hb hg => ⟨hb, hk2 b x hg⟩
    have hgt : ((H1.alloc (taskB (tkV (av k) (tk0 (ts.getD k []))))).alloc (⟨77, 0, false, [.pointer (some ⟨H1.next, 0, none⟩)]⟩ : Blk)).get H1.next = some (taskB (tkV (av k) (tk0 (ts.getD k [])))) := by
      rw [get_alloc_ne (by simp only [next_alloc]; omega), get_alloc_eq hnb1]
    obtain ⟨H6, ha6, hE6, hO6, hn6, hk6⟩ := appO (bytes := 8) (nb := H1.next + 1) (x := ⟨77, 0, false, [.pointer (some ⟨H1.next, 0, none⟩)]⟩) (vs := [.pointer (some ⟨H1.next, 0, none⟩)]) hE2 hO2
      (get_alloc_at (by simp only [next_alloc]; omega) (by simp only [next_alloc])) rfl rfl (by omega) rfl (by omega) (by omega)
    simp only [next_alloc] at ha6 hE6 hO6 hn6
    have ha6' := ha6
    simp only [hgd, hav] at ha6'
    refine Wk_vh ha6' ?_
    have hr6 := hk6 _ _ (hk2 _ _ hr1) (.inl rfl)
    simp -implicitDefEqProofs (maxDischargeDepth := 6) (maxSteps := 1000000) only [go_sem, ↓reduceIte, Nat.reduceLT, Nat.reduceLeDiff, Nat.reduceEqDiff, Nat.reduceAdd, Nat.reduceMul, Nat.reduceSub, Nat.reduceBEq, reduceCtorEq, Int.reduceEq, Int.reduceLT, Int.reduceLE, Int.reduceNeg, Int.reduceToNat, f5, f21, f22, f23, nv, hr6, hnb, hw1]
    have htr : ∀ i, i < k → upd ta k H1.next i = ta i := fun i hi => upd_ne (by omega)
    refine ⟨ts.length - (k + 1), by omega, k + 1, .slice (some ⟨H1.next + 1 + 1, 0, none⟩) (k + 1) openCap, upd ta k H1.next, rfl, by omega, ?_, ?_, ?_, ?_, ⟨?_, ?_, ?_, ?_, ?_, ?_⟩⟩
    · simp only [Tr.get_put, Nat.reduceEqDiff, ↓reduceIte, f5]
    · simp only [Tr.get_put, Nat.reduceEqDiff, ↓reduceIte, f21]
    · simp only [Tr.get_put, Nat.reduceEqDiff, ↓reduceIte, f22, nv]
    · simp only [Tr.get_put, Nat.reduceEqDiff, ↓reduceIte, nv]
    · exact hE6.set (Nat.le_refl _) (by have := hE6.wf.lt hr6; exact this) _
    · exact get_set_eq hnb
    · rw [ptrs_succ, upd_same, ptrs_congr htr]
      refine hO6.frameO fun b x hb hg ho => ⟨hb, ?_⟩
      rw [get_set_ne]
      · exact hg
      · intro e; subst e
        rw [hr6] at hg
        cases hg; cases ho.1
    · intro i hi
      have hne : upd ta k H1.next i ≠ H.next := by
        by_cases e : i = k
        · subst e; rw [upd_same]; omega
        · rw [htr i (by omega)]; intro e2
          have := hM.task i (by omega)
          rw [e2, hr1] at this; simp [runB, taskB] at this
      rw [get_set_ne hne]
      by_cases e : i = k
      · subst e; rw [upd_same]; exact hk6 _ _ hgt (.inl rfl)
      · rw [htr i (by omega)]; exact hk6 _ _ (hk2 _ _ (hM.task i (by omega))) (.inl rfl)
    · intro i hi
      by_cases e : i = k
      · subst e; rw [upd_same]; exact hM.ext.le
      · rw [htr i (by omega)]; exact hM.ge i (by omega)
    · intro i j hi hj hij
      have hlt2 : ∀ i, i < k → ta i < H1.next := fun i hi => hM.ext.wf.lt (hM.task i hi)
      by_cases e : i = k
      · by_cases e2 : j = k
        · omega
        · subst e; rw [upd_same, htr j (by omega)] at hij
          have := hlt2 j (by omega); omega
      · by_cases e2 : j = k
        · subst e2; rw [upd_same, htr i (by omega)] at hij
          have := hlt2 i (by omega); omega
        · rw [htr i (by omega), htr j (by omega)] at hij
          exact hM.inj i j (by omega) (by omega) hij
  · have hltZ : ¬ (k : Int) < (ts.length : Int) := by omega
    obtain rfl : k = ts.length := by omega
    simp -implicitDefEqProofs (maxDischargeDepth := 6) (maxSteps := 1000000) only [go_sem, ↓reduceIte, Nat.reduceLT, Nat.reduceLeDiff, Nat.reduceEqDiff, Nat.reduceAdd, Nat.reduceMul, Nat.reduceSub, Nat.reduceBEq, reduceCtorEq, Int.reduceEq, Int.reduceLT, Int.reduceLE, Int.reduceNeg, Int.reduceToNat, f5, f21, f22, f23, nv, hltZ]
    exact made_rep hw ht hM
end Go.Am.T
