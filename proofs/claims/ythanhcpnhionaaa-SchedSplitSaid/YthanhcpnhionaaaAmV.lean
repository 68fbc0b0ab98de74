/- What each operation comes to, in the form in which the simplifier uses it; heaps. Conditions: those of each theorem. -/
import Derived.Test.YthanhcpnhionaaaAmK
set_option linter.all false
set_option linter.unusedSimpArgs false
set_option linter.unusedVariables false
namespace Go.Am

section
variable {P : Program} {d : Option Tmp} {n : Nat} {f : Tr Value} {dd : List Deferred} {H : Heap}

@[go_sem] theorem t_move {x : Operand} : stepS P (.move x) d ⟨n, f, dd, H⟩ = putO d n f dd H (evF f x) := stepS_of s_move
@[go_sem] theorem t_assign {x : Operand} : stepS P (.assign x) d ⟨n, f, dd, H⟩ = putO d n f dd H (evF f x) := stepS_of s_assign
@[go_sem] theorem t_pick {c x y : Operand} : stepS P (.pick c x y) d ⟨n, f, dd, H⟩ = putO d n f dd H (pickO (evF f c) (evF f x) (evF f y)) := stepS_of s_pick
@[go_sem] theorem t_nil {x : Operand} : stepS P (.nilCheck x) d ⟨n, f, dd, H⟩ = putO d n f dd H (nilO (evF f x)) := stepS_of s_nil
@[go_sem] theorem t_load {t : TypeId} {x : Operand} : stepS P (.load t x) d ⟨n, f, dd, H⟩ = putO d n f dd H (loadO P H t (evF f x)) := stepS_of s_load
@[go_sem] theorem t_bin {op : BinOp} {t u : TypeId} {x y : Operand} : stepS P (.binOp op t x y u) d ⟨n, f, dd, H⟩ = putO d n f dd H (binO P op t x y (evF f x) (evF f y)) := stepS_of s_bin
@[go_sem] theorem t_un {op : UnOp} {t : TypeId} {x : Operand} : stepS P (.unOp op t x) d ⟨n, f, dd, H⟩ = putO d n f dd H (unO op (evF f x)) := stepS_of s_un
@[go_sem] theorem t_conv {a b : TypeId} {x : Operand} : stepS P (.convert a b x) d ⟨n, f, dd, H⟩ = putO d n f dd H (convO P a b (evF f x)) := stepS_of s_conv
@[go_sem] theorem t_iface {t : TypeId} {x : Operand} : stepS P (.makeInterface t x) d ⟨n, f, dd, H⟩ = putO d n f dd H (ifaceO P t (evF f x)) := stepS_of s_iface
@[go_sem] theorem t_fieldAddr {t : TypeId} {x : Operand} {i : Nat} : stepS P (.fieldAddr t x i) d ⟨n, f, dd, H⟩ = putO d n f dd H (fieldAO P t i (evF f x)) := stepS_of s_fieldAddr
@[go_sem] theorem t_field {t : TypeId} {x : Operand} {i : Nat} : stepS P (.field t x i) d ⟨n, f, dd, H⟩ = putO d n f dd H (fieldO P t i (evF f x)) := stepS_of s_field
@[go_sem] theorem t_ext {x : Operand} {i : Nat} : stepS P (.extract x i) d ⟨n, f, dd, H⟩ = putO d n f dd H (extO i (evF f x)) := stepS_of s_ext
@[go_sem] theorem t_assert {x : Operand} {a b : TypeId} {k : Bool} : stepS P (.typeAssert x a b k) d ⟨n, f, dd, H⟩ = putO d n f dd H (assertO P b k (evF f x)) := stepS_of s_assert
@[go_sem] theorem t_indexAddr {t : TypeId} {x y : Operand} : stepS P (.indexAddr t x y) d ⟨n, f, dd, H⟩ = putO d n f dd H (indexAO P t (evF f x) (evF f y)) := stepS_of s_indexAddr
@[go_sem] theorem t_index {t : TypeId} {x y : Operand} : stepS P (.index t x y) d ⟨n, f, dd, H⟩ = putO d n f dd H (indexO P t (evF f x) (evF f y)) := stepS_of s_index
@[go_sem] theorem t_func {g : Fn} {a b : Array Operand} : stepS P (.makeFunc g a b) d ⟨n, f, dd, H⟩ = putO d n f dd H (funcO g (evL f a.toList) (evL f b.toList)) := stepS_of s_func
@[go_sem] theorem t_slice {t : TypeId} {x : Operand} {lo hi mx : Option Operand} : stepS P (.slice t x lo hi mx) d ⟨n, f, dd, H⟩ = putO d n f dd H (sliceO P H t (evF f x) (evO f lo) (evO f hi) (evO f mx)) := stepS_of s_slice
@[go_sem] theorem t_store {t : TypeId} {x y : Operand} : stepS P (.store t x y) d ⟨n, f, dd, H⟩ = putH d n f dd (storeO P H t (evF f x) (evF f y)) := stepS_of s_store
@[go_sem] theorem t_builtin {b : Builtin} {args : Array Operand} {ts : Array TypeId} : stepS P (.call { callee := .builtin b, args := args, argTypes := ts }) d ⟨n, f, dd, H⟩ = putVH d n f dd (biO P b ts H (evL f args.toList)) := stepS_of s_builtin
@[go_sem] theorem t_alloc {t : TypeId} : stepS P (.alloc t) d ⟨n, f, dd, H⟩ = putA t d n f dd H (zeroA P t) := stepS_of s_alloc
@[go_sem] theorem t_box {t : TypeId} {x : Operand} : stepS P (.box t x) d ⟨n, f, dd, H⟩ = putA t d n f dd H (evF f x) := stepS_of s_box
@[go_sem] theorem t_build {t : TypeId} {parts : Array (Nat × Operand)} : stepS P (.build t parts) d ⟨n, f, dd, H⟩ = putO d n f dd H (buildO P t (evPs f parts.toList)) := stepS_of s_build
@[go_sem] theorem t_buildSlice {t : TypeId} {k : Nat} {parts : Array (Nat × Operand)} : stepS P (.buildSlice t k parts) d ⟨n, f, dd, H⟩ = putB d n f dd H (bslO P t k (evPs f parts.toList)) := stepS_of s_buildSlice
@[go_sem] theorem t_makeSlice {t : TypeId} {l c : Operand} : stepS P (.makeSlice t l c) d ⟨n, f, dd, H⟩ = putB d n f dd H (mkslO P t (evF f l) (evF f c)) := stepS_of s_makeSlice
@[go_sem] theorem t_defer {x : Operand} {args : Array Operand} {ts : Array TypeId} : stepS P (.defer { callee := .value x, args := args, argTypes := ts }) d ⟨n, f, dd, H⟩ = putD d n f dd H (defO (evF f x) (evL f args.toList)) := stepS_of s_defer

section
@[go_sem] theorem y_move {x : Operand} : simpleOp (.move x) = true := of_decide_eq_true rfl
@[go_sem] theorem y_assign {x : Operand} : simpleOp (.assign x) = true := of_decide_eq_true rfl
@[go_sem] theorem y_pick {c x y : Operand} : simpleOp (.pick c x y) = true := of_decide_eq_true rfl
@[go_sem] theorem y_nil {x : Operand} : simpleOp (.nilCheck x) = true := of_decide_eq_true rfl
@[go_sem] theorem y_load {t : TypeId} {x : Operand} : simpleOp (.load t x) = true := of_decide_eq_true rfl
@[go_sem] theorem y_bin {op : BinOp} {t u : TypeId} {x y : Operand} : simpleOp (.binOp op t x y u) = true := of_decide_eq_true rfl
@[go_sem] theorem y_un {op : UnOp} {t : TypeId} {x : Operand} : simpleOp (.unOp op t x) = true := of_decide_eq_true rfl
@[go_sem] theorem y_conv {a b : TypeId} {x : Operand} : simpleOp (.convert a b x) = true := of_decide_eq_true rfl
@[go_sem] theorem y_iface {t : TypeId} {x : Operand} : simpleOp (.makeInterface t x) = true := of_decide_eq_true rfl
@[go_sem] theorem y_fieldAddr {t : TypeId} {x : Operand} {i : Nat} : simpleOp (.fieldAddr t x i) = true := of_decide_eq_true rfl
@[go_sem] theorem y_field {t : TypeId} {x : Operand} {i : Nat} : simpleOp (.field t x i) = true := of_decide_eq_true rfl
@[go_sem] theorem y_ext {x : Operand} {i : Nat} : simpleOp (.extract x i) = true := of_decide_eq_true rfl
@[go_sem] theorem y_assert {x : Operand} {a b : TypeId} {k : Bool} : simpleOp (.typeAssert x a b k) = true := of_decide_eq_true rfl
@[go_sem] theorem y_indexAddr {t : TypeId} {x y : Operand} : simpleOp (.indexAddr t x y) = true := of_decide_eq_true rfl
@[go_sem] theorem y_index {t : TypeId} {x y : Operand} : simpleOp (.index t x y) = true := of_decide_eq_true rfl
@[go_sem] theorem y_func {g : Fn} {a b : Array Operand} : simpleOp (.makeFunc g a b) = true := of_decide_eq_true rfl
@[go_sem] theorem y_slice {t : TypeId} {x : Operand} {lo hi mx : Option Operand} : simpleOp (.slice t x lo hi mx) = true := of_decide_eq_true rfl
@[go_sem] theorem y_store {t : TypeId} {x y : Operand} : simpleOp (.store t x y) = true := of_decide_eq_true rfl
@[go_sem] theorem y_builtin {b : Builtin} {args : Array Operand} {ts : Array TypeId} : simpleOp (.call { callee := .builtin b, args := args, argTypes := ts }) = true := of_decide_eq_true rfl
@[go_sem] theorem y_alloc {t : TypeId} : simpleOp (.alloc t) = true := of_decide_eq_true rfl
@[go_sem] theorem y_box {t : TypeId} {x : Operand} : simpleOp (.box t x) = true := of_decide_eq_true rfl
@[go_sem] theorem y_build {t : TypeId} {parts : Array (Nat × Operand)} : simpleOp (.build t parts) = true := of_decide_eq_true rfl
@[go_sem] theorem y_buildSlice {t : TypeId} {k : Nat} {parts : Array (Nat × Operand)} : simpleOp (.buildSlice t k parts) = true := of_decide_eq_true rfl
@[go_sem] theorem y_makeSlice {t : TypeId} {l c : Operand} : simpleOp (.makeSlice t l c) = true := of_decide_eq_true rfl
@[go_sem] theorem y_defer {x : Operand} {args : Array Operand} {ts : Array TypeId} : simpleOp (.defer { callee := .value x, args := args, argTypes := ts }) = true := of_decide_eq_true rfl
@[go_sem] theorem y_panic {x : Operand} : simpleOp (.panic x) = false := of_decide_eq_true rfl
@[go_sem] theorem y_call {x : Operand} {args : Array Operand} {ts : Array TypeId} : simpleOp (.call { callee := .value x, args := args, argTypes := ts }) = false := of_decide_eq_true rfl
@[go_sem] theorem y_rload {t : TypeId} {x : Operand} : rdOp (.load t x) = true := of_decide_eq_true rfl
@[go_sem] theorem y_rslice {t : TypeId} {x : Operand} {lo hi mx : Option Operand} : rdOp (.slice t x lo hi mx) = true := of_decide_eq_true rfl
@[go_sem] theorem y_rdload {t : TypeId} {x : Operand} : rdO P f H (.load t x) = loadO P H t (evF f x) := rfl
@[go_sem] theorem y_rdslice {t : TypeId} {x : Operand} {lo hi mx : Option Operand} : rdO P f H (.slice t x lo hi mx) = sliceO P H t (evF f x) (evO f lo) (evO f hi) (evO f mx) := rfl
@[go_sem] theorem y_ab_alloc {t : TypeId} : allocB P f (.alloc t) = (zeroA P t).map fun z => (fun b => .pointer (some ⟨b, 0, none⟩), ⟨t, 0, false, z.cells.toList⟩) := rfl
@[go_sem] theorem y_ab_box {t : TypeId} {x : Operand} : allocB P f (.box t x) = (evF f x).map fun z => (fun b => .pointer (some ⟨b, 0, none⟩), ⟨t, 0, false, z.cells.toList⟩) := rfl
@[go_sem] theorem y_ab_bs {t : TypeId} {k : Nat} {parts : Array (Nat × Operand)} : allocB P f (.buildSlice t k parts) = bslO P t k (evPs f parts.toList) := rfl
@[go_sem] theorem y_ab_ms {t : TypeId} {a b : Operand} : allocB P f (.makeSlice t a b) = mkslO P t (evF f a) (evF f b) := rfl
end

section
variable {v w : Value}
@[go_sem] theorem putO_d {d : Tmp} : putO (some d) n f dd H (some v) = some ⟨n, if d < n then f.put d (some v) else f, dd, H⟩ := by
  simp only [putO, Option.map_some, put_mk]; split <;> rfl
@[go_sem] theorem putO_n : putO none n f dd H (some v) = some ⟨n, f, dd, H⟩ := rfl
@[go_sem] theorem putH_d {d : Tmp} : putH (some d) n f dd (some H) = some ⟨n, if d < n then f.put d (some undef) else f, dd, H⟩ := by
  simp only [putH, Option.map_some, put_mk]; split <;> rfl
@[go_sem] theorem putH_n : putH none n f dd (some H) = some ⟨n, f, dd, H⟩ := rfl
@[go_sem] theorem putVH_d {d : Tmp} : putVH (some d) n f dd (some (v, H)) = some ⟨n, if d < n then f.put d (some v) else f, dd, H⟩ := by
  simp only [putVH, Option.map_some, put_mk]; split <;> rfl
@[go_sem] theorem putVH_n : putVH none n f dd (some (v, H)) = some ⟨n, f, dd, H⟩ := rfl
@[go_sem] theorem putB_d {d : Tmp} {r : (Nat → Value) × Blk} : putB (some d) n f dd H (some r) = some ⟨n, if d < n then f.put d (some (r.1 H.next)) else f, dd, H.alloc r.2⟩ := by
  simp only [putB, Option.map_some, put_mk]; split <;> rfl
@[go_sem] theorem putA_d {t : TypeId} {d : Tmp} : putA t (some d) n f dd H (some v) = some ⟨n, if d < n then f.put d (some (.pointer (some ⟨H.next, 0, none⟩))) else f, dd, H.alloc ⟨t, 0, false, v.cells.toList⟩⟩ := by
  simp only [putA, Option.map_some, put_mk]; split <;> rfl
@[go_sem] theorem putD_n {x : Deferred} : putD none n f dd H (some x) = some ⟨n, f, x :: dd, H⟩ := rfl
@[go_sem] theorem putD_d {x : Deferred} {d : Tmp} : putD (some d) n f dd H (some x) = some ⟨n, if d < n then f.put d (some undef) else f, x :: dd, H⟩ := by
  simp only [putD, Option.map_some, put_mk]; split <;> rfl
@[go_sem] theorem evF_t {t : Tmp} : evF f (.tmp t) = some ((f.get t).getD undef) := rfl
@[go_sem] theorem evF_f {g : FuncId} : evF f (.func g) = some (.func (.func g) #[] #[]) := rfl
@[go_sem] theorem evF_int {k : IntKind} {i : Int} : evF f (.const (.int k i)) = some (.int k i) := rfl
@[go_sem] theorem evF_bool {b : Bool} : evF f (.const (.bool b)) = some (.bool b) := rfl
@[go_sem] theorem evF_str {s : ByteArray} : evF f (.const (.string s)) = some (.string s) := rfl
@[go_sem] theorem evF_float {k : FloatKind} {s : Nat} : evF f (.const (.float k s)) = some (.float k s) := rfl
@[go_sem] theorem evF_nilp : evF f (.const (.pointer none)) = some (.pointer none) := rfl
@[go_sem] theorem evF_nils : evF f (.const (.slice none 0 0)) = some (.slice none 0 0) := rfl
@[go_sem] theorem evF_nilm : evF f (.const (.map none)) = some (.map none) := rfl
@[go_sem] theorem evF_nilf : evF f (.const .nilFunc) = some .nilFunc := rfl
@[go_sem] theorem evF_nili : evF f (.const .nilIface) = some .nilIface := rfl
theorem evF_c {u : Value} : evF f (.const u) = if plainV u then some u else none := rfl
@[go_sem] theorem evF_agg {cs : Array Value} : evF f (.const (.agg cs)) = if plainV (.agg cs) then some (.agg cs) else none := rfl
@[go_sem] theorem evL_nil : evL f [] = some [] := rfl
@[go_sem] theorem evL_cons {x : Operand} {l : List Operand} : evL f (x :: l) = consO (evF f x) (evL f l) := by simp only [evL, consO]
@[go_sem] theorem consO_some {l : List Value} : consO (some v) (some l) = some (v :: l) := rfl
@[go_sem] theorem evPs_nil : evPs f [] = some [] := rfl
@[go_sem] theorem evPs_cons {i : Nat} {x : Operand} {l : List (Nat × Operand)} : evPs f ((i, x) :: l) = consP i (evF f x) (evPs f l) := by simp only [evPs, consP]
@[go_sem] theorem consP_some {i : Nat} {l : List (Nat × Value)} : consP i (some v) (some l) = some ((i, v) :: l) := rfl
@[go_sem] theorem evO_none : evO f none = some none := rfl
@[go_sem] theorem evO_some {x : Operand} : evO f (some x) = someO (evF f x) := rfl
@[go_sem] theorem someO_some : someO (some v) = some (some v) := rfl
@[go_sem] theorem pickO_t {x y : Option Value} : pickO (some (.bool true)) x y = x := rfl
@[go_sem] theorem pickO_f {x y : Option Value} : pickO (some (.bool false)) x y = y := rfl
theorem pickO_or {b c : Bool} : pickO (some (.bool b)) (some (.bool true)) (some (.bool c)) = some (.bool (b || c)) := by cases b <;> rfl
theorem pickO_and {b c : Bool} : pickO (some (.bool b)) (some (.bool c)) (some (.bool false)) = some (.bool (b && c)) := by cases b <;> cases c <;> rfl
@[go_sem] theorem nilO_p {a : Addr} : nilO (some (.pointer (some a))) = some (.pointer (some a)) := rfl
@[go_sem] theorem nilO_f {g : FuncId} {a c : Array Value} : nilO (some (.func (.func g) a c)) = some (.func (.func g) a c) := rfl
@[go_sem] theorem nilO_i {t : TypeId} : nilO (some (.iface t v)) = some (.iface t v) := rfl
@[go_sem] theorem loadO_some {t : TypeId} : loadO P H t (some v) = loadA P H t v := rfl
@[go_sem] theorem binO_some {op : BinOp} {t : TypeId} {x y : Operand} : binO P op t x y (some v) (some w) = if eqGuardA op x y v w then binA P op t v w else none := rfl
@[go_sem] theorem unO_some {op : UnOp} : unO op (some v) = unA op v := rfl
@[go_sem] theorem convO_some {a b : TypeId} : convO P a b (some v) = convertA P a b v := rfl
@[go_sem] theorem ifaceO_some {t : TypeId} : ifaceO P t (some v) = makeInterfaceA P t v := rfl
@[go_sem] theorem fieldAO_some {t : TypeId} {i : Nat} : fieldAO P t i (some v) = fieldAddrA P t v i := rfl
@[go_sem] theorem fieldO_some {t : TypeId} {i : Nat} : fieldO P t i (some v) = fieldA P t v i := rfl
@[go_sem] theorem extO_some {i : Nat} : extO i (some v) = extractA v i := rfl
@[go_sem] theorem assertO_some {b : TypeId} {k : Bool} : assertO P b k (some v) = typeAssertA P v b k := rfl
@[go_sem] theorem indexAO_some {t : TypeId} : indexAO P t (some v) (some w) = indexAddrA P t v w := rfl
@[go_sem] theorem indexO_some {t : TypeId} : indexO P t (some v) (some w) = indexA P t v w := rfl
@[go_sem] theorem funcO_some {g : Fn} {a b : List Value} : funcO g (some a) (some b) = some (.func g a.toArray b.toArray) := rfl
@[go_sem] theorem sliceO_some {t : TypeId} {a b c : Option Value} : sliceO P H t (some v) (some a) (some b) (some c) = sliceA P H t v a b c := rfl
@[go_sem] theorem storeO_some {t : TypeId} : storeO P H t (some v) (some w) = storeA P H t v w := rfl
@[go_sem] theorem biO_some {b : Builtin} {ts : Array TypeId} {l : List Value} : biO P b ts H (some l) = builtinA P b ts l H := rfl
@[go_sem] theorem buildO_some {t : TypeId} {l : List (Nat × Value)} : buildO P t (some l) = buildA P t l := rfl
@[go_sem] theorem bslO_some {t : TypeId} {k : Nat} {l : List (Nat × Value)} : bslO P t k (some l) = buildSliceA P t k l := rfl
@[go_sem] theorem mkslO_some {t : TypeId} : mkslO P t (some v) (some w) = makeSliceA P t v w := rfl
@[go_sem] theorem defO_some {l : List Value} : defO (some v) (some l) = deferA l v := rfl
end

@[go_sem] theorem ext_some {l : Array Value} {i : Nat} : extractA (.tuple l) i = l[i]? := rfl
@[go_sem] theorem deferA_f {g : FuncId} {a c : Array Value} {l : List Value} : deferA l (.func (.func g) a c) = some { target := .fn (.func g) c, args := a ++ l.toArray } := rfl
@[go_sem] theorem retK_s {Q : CR → Heap → Prop} {v : Value} : retK Q H (some v) = Q (.ret v) H := retK_some

attribute [go_sem] Tr.get_put Tr.get_nil Option.getD_some Option.bind_some Option.map_some Nat.reduceEqDiff List.getElem?_cons_zero List.getElem?_cons_succ List.getElem?_toArray ofArgs layA selA dropA

@[go_sem] theorem binA_int {op : BinOp} {t : TypeId} {k : IntKind} {x y : Int} (h1 : op ≠ .shl) (h2 : op ≠ .shr) : binA P op t (.int k x) (.int k y) = intOpA op k x y := by
  cases op <;> first | contradiction | (simp [binA])
@[go_sem] theorem iadd {k : IntKind} {x y : Int} : intOpA .add k x y = some (.int k (k.wrap (x + y))) := rfl
@[go_sem] theorem isub {k : IntKind} {x y : Int} : intOpA .sub k x y = some (.int k (k.wrap (x - y))) := rfl
@[go_sem] theorem imul {k : IntKind} {x y : Int} : intOpA .mul k x y = some (.int k (k.wrap (x * y))) := rfl
@[go_sem] theorem iquo {k : IntKind} {x y : Int} : intOpA .quo k x y = if y = 0 then none else some (.int k (k.wrap (x.tdiv y))) := rfl
@[go_sem] theorem irem {k : IntKind} {x y : Int} : intOpA .rem k x y = if y = 0 then none else some (.int k (x.tmod y)) := rfl
@[go_sem] theorem ieql {k : IntKind} {x y : Int} : intOpA .eql k x y = some (.bool (decide (x = y))) := rfl
@[go_sem] theorem ineq {k : IntKind} {x y : Int} : intOpA .neq k x y = some (.bool (!decide (x = y))) := rfl
@[go_sem] theorem ilss {k : IntKind} {x y : Int} : intOpA .lss k x y = some (.bool (decide (x < y))) := rfl
@[go_sem] theorem ileq {k : IntKind} {x y : Int} : intOpA .leq k x y = some (.bool (decide (x ≤ y))) := rfl
@[go_sem] theorem igtr {k : IntKind} {x y : Int} : intOpA .gtr k x y = some (.bool (decide (y < x))) := rfl
@[go_sem] theorem igeq {k : IntKind} {x y : Int} : intOpA .geq k x y = some (.bool (decide (y ≤ x))) := rfl
@[go_sem] theorem unot {b : Bool} : unA .not (.bool b) = some (.bool !b) := rfl
@[go_sem] theorem uneg {k : IntKind} {n : Int} : unA .neg (.int k n) = some (.int k (k.wrap (0 - n))) := rfl
@[go_sem] theorem guard_int {op : BinOp} {x y : Operand} {k : IntKind} {n : Int} {b : Value} : eqGuardA op x y (.int k n) b = true := by cases op <;> rfl
@[go_sem] theorem guard_agg {op : BinOp} {x y : Operand} {cs : Array Value} {b : Value} : eqGuardA op x y (.agg cs) b = true := by cases op <;> rfl
@[go_sem] theorem guard_bool {op : BinOp} {x y : Operand} {n : Bool} {b : Value} : eqGuardA op x y (.bool n) b = true := by cases op <;> rfl
@[go_sem] theorem guard_ptr {op : BinOp} {x y : Operand} {n : Option Addr} {b : Value} : eqGuardA op x y (.pointer n) b = true := by cases op <;> rfl
@[go_sem] theorem guard_slice {op : BinOp} {x y : Operand} {n : Option Addr} {i j : Nat} {b : Value} : eqGuardA op x y (.slice n i j) b = true := by cases op <;> rfl
@[go_sem] theorem guard_str {op : BinOp} {x y : Operand} {n : ByteArray} {b : Value} : eqGuardA op x y (.string n) b = true := by cases op <;> rfl
@[go_sem] theorem guard_iface {op : BinOp} {x y : Operand} {t : TypeId} {v b : Value} : eqGuardA op x y (.iface t v) b = true := by cases op <;> rfl
@[go_sem] theorem guard_nili {op : BinOp} {x : Operand} {c : Value} {a b : Value} : eqGuardA op x (.const c) a b = true := by
  unfold eqGuardA isConstA
  split <;> simp
@[go_sem] theorem bi_len {ts : Array TypeId} {x : Value} {H : Heap} : builtinA P .len ts [x] H = (ts[0]?).bind fun t => (lenA P t x).map (·, H) := rfl
@[go_sem] theorem bi_app {ts : Array TypeId} {s x : Value} {H : Heap} : builtinA P .append ts [s, x] H = (ts[0]?).bind fun t => (ts[1]?).bind fun u => appendA P H t u s x := rfl
@[go_sem] theorem bi_copy {ts : Array TypeId} {s x : Value} {H : Heap} : builtinA P .copy ts [s, x] H = (ts[0]?).bind fun t => copyA P H t s x := rfl
@[go_sem] theorem bi_min {ts : Array TypeId} {x y : Value} {H : Heap} : builtinA P .min ts [x, y] H = (min2A x y).map (·, H) := rfl
@[go_sem] theorem bi_max {ts : Array TypeId} {x y : Value} {H : Heap} : builtinA P .max ts [x, y] H = (max2A x y).map (·, H) := rfl
@[go_sem] theorem min2_int {k : IntKind} {x y : Int} : min2A (.int k x) (.int k y) = some (.int k (if y < x then y else x)) := rfl
@[go_sem] theorem max2_int {k : IntKind} {x y : Int} : max2A (.int k x) (.int k y) = some (.int k (if y > x then y else x)) := rfl

/- heaps -/
@[go_sem] theorem load1_eq {b o : Nat} : H.load1 ⟨b, o, none⟩ = (H.get b).bind fun x => x.cells[o]? := rfl
theorem loads_eq {b o n : Nat} : H.loads ⟨b, o, none⟩ n = (H.get b).bind fun x => if o + n ≤ x.cells.length then some ((x.cells.drop o).take n) else none := rfl

theorem get_set_ne {b c : Nat} {x : Blk} (h : c ≠ b) : (H.set b x).get c = H.get c := by
  unfold Heap.set Heap.put Heap.get
  by_cases hb : b < base0
  · simp [hb]
  · simp only [hb, if_false]
    by_cases hc : c < base0
    · simp [hc]
    · simp only [hc, if_false]
      rw [Tr.get_put, if_neg (by omega)]
theorem get_set_eq {b : Nat} {x : Blk} (h : base0 ≤ b) : (H.set b x).get b = some x := by
  unfold Heap.set Heap.put Heap.get
  simp [Nat.not_lt.2 h]
theorem get_del_ne {b c : Nat} (h : c ≠ b) : (H.del b).get c = H.get c := by
  unfold Heap.del Heap.put Heap.get
  by_cases hb : b < base0
  · simp [hb]
  · simp only [hb, if_false]
    by_cases hc : c < base0
    · simp [hc]
    · simp only [hc, if_false]
      rw [Tr.get_put, if_neg (by omega)]
theorem putF_putF {α : Type} (x y : Option α) : ∀ (f : Nat) (t : Tr α) (n : Nat), n < f → Tr.putF f (Tr.putF f t n x) n y = Tr.putF f t n y := by
  intro f
  induction f with
  | zero => intro t n h; omega
  | succ f ih =>
    intro t n h
    cases t with
    | nil =>
      simp only [Tr.putF]
      by_cases h0 : n = 0
      · simp only [h0, if_true, Tr.putF]
      · by_cases h1 : n % 2 = 1
        · simp only [h0, h1, if_false, if_true, Tr.putF, ih _ _ (show n / 2 < f by omega)]
        · simp only [h0, h1, if_false, Tr.putF, ih _ _ (show n / 2 - 1 < f by omega)]
    | node l v r =>
      simp only [Tr.putF]
      by_cases h0 : n = 0
      · simp only [h0, if_true, Tr.putF]
      · by_cases h1 : n % 2 = 1
        · simp only [h0, h1, if_false, if_true, Tr.putF, ih _ _ (show n / 2 < f by omega)]
        · simp only [h0, h1, if_false, Tr.putF, ih _ _ (show n / 2 - 1 < f by omega)]
@[go_sem] theorem set_set {b : Nat} {x y : Blk} : (H.set b x).set b y = H.set b y := by
  unfold Heap.set Heap.put
  by_cases h : b < base0
  · simp [h]
  · simp only [h, if_false]
    congr 1
    exact putF_putF _ _ _ _ _ (Nat.lt_succ_self _)
@[go_sem] theorem next_set {b : Nat} {x : Blk} : (H.set b x).next = H.next := by
  unfold Heap.set Heap.put; split <;> rfl
@[go_sem] theorem next_del {b : Nat} : (H.del b).next = H.next := by
  unfold Heap.del Heap.put; split <;> rfl
@[go_sem] theorem next_alloc {x : Blk} : (H.alloc x).next = H.next + 1 := rfl
@[go_sem] theorem next_bump {k : Nat} : (bump H k).next = H.next + k := rfl
@[go_sem] theorem get_bump {k b : Nat} : (bump H k).get b = H.get b := rfl
theorem get_alloc {b : Nat} {x : Blk} (h : base0 ≤ H.next) : (H.alloc x).get b = if b = H.next then some x else H.get b := by
  have : (H.alloc x).get b = (H.set H.next x).get b := rfl
  rw [this]
  by_cases e : b = H.next
  · rw [if_pos e, e, get_set_eq h]
  · rw [if_neg e, get_set_ne e]
theorem get_alloc_eq {x : Blk} (h : base0 ≤ H.next) : (H.alloc x).get H.next = some x := by rw [get_alloc h, if_pos rfl]
theorem get_alloc_ne {b : Nat} {x : Blk} (h : b ≠ H.next) : (H.alloc x).get b = H.get b := get_set_ne h

theorem stores1 {b o : Nat} {v : Value} {x : Blk} (hb : base0 ≤ b) (hg : H.get b = some x) (ho : o < x.cells.length) (hv : Heap.oneC v = true) :
    H.stores ⟨b, o, none⟩ [v] = some (H.set b { x with cells := x.cells.set o v }) := by
  unfold Heap.stores
  simp only [Option.isSome_none, Bool.false_or, List.all_cons, hv, List.all_nil, Bool.and_self, Bool.not_true, Bool.or_false, decide_eq_true_eq, Nat.not_lt.2 hb, if_false, hg, List.length_singleton,
    Option.bind_eq_bind, Option.bind_some, if_pos (show o + 1 ≤ x.cells.length by omega)]
  congr 2
  unfold Heap.splice
  rw [List.set_eq_take_append_cons_drop, if_pos ho]
  simp

/- a store, given what is at the place -/
def stoK (H : Heap) (b o : Nat) (vs : List Value) : Option Blk → Option Heap
  | some x => if base0 ≤ b ∧ vs.all Heap.oneC = true ∧ o + vs.length ≤ x.cells.length then some (H.set b { x with cells := Heap.splice x.cells o vs }) else none
  | none => none
@[go_sem] theorem stores_eq {b o : Nat} {vs : List Value} : H.stores ⟨b, o, none⟩ vs = stoK H b o vs (H.get b) := by
  unfold Heap.stores stoK
  simp only [Option.isSome_none, Bool.false_or, Option.bind_eq_bind]
  by_cases hb : base0 ≤ b
  · by_cases hv : vs.all Heap.oneC = true
    · simp only [hv, Nat.not_lt.2 hb, decide_false, Bool.not_true, Bool.or_self, Bool.false_eq_true, if_false, hb, true_and]
      cases H.get b <;> rfl
    · cases H.get b <;> simp [hv]
  · cases H.get b <;> simp [hb, Nat.not_le.1 hb]
theorem stoK_1 {b o : Nat} {v : Value} {x : Blk} (hb : base0 ≤ b) (ho : o < x.cells.length) (hv : Heap.oneC v = true) :
    stoK H b o [v] (some x) = some (H.set b { x with cells := x.cells.set o v }) := by
  have e : stoK H b o [v] (some x) = if base0 ≤ b ∧ [v].all Heap.oneC = true ∧ o + [v].length ≤ x.cells.length then some (H.set b { x with cells := Heap.splice x.cells o [v] }) else none := rfl
  rw [e, if_pos ⟨hb, by simp [hv], by simp; omega⟩]
  congr 2
  unfold Heap.splice
  rw [List.set_eq_take_append_cons_drop, if_pos ho]
  simp
@[go_sem] theorem o_int {k : IntKind} {i : Int} : Heap.oneC (.int k i) = true := of_decide_eq_true rfl
@[go_sem] theorem o_bool {b : Bool} : Heap.oneC (.bool b) = true := of_decide_eq_true rfl
@[go_sem] theorem o_ptr {a : Option Addr} : Heap.oneC (.pointer a) = true := of_decide_eq_true rfl
@[go_sem] theorem o_slice {a : Option Addr} {n c : Nat} : Heap.oneC (.slice a n c) = true := of_decide_eq_true rfl
@[go_sem] theorem o_str {s : ByteArray} : Heap.oneC (.string s) = true := of_decide_eq_true rfl
@[go_sem] theorem o_float {k : FloatKind} {s : Nat} : Heap.oneC (.float k s) = true := of_decide_eq_true rfl
@[go_sem] theorem o_iface {t : TypeId} {v : Value} : Heap.oneC (.iface t v) = true := of_decide_eq_true rfl
@[go_sem] theorem o_nili : Heap.oneC .nilIface = true := of_decide_eq_true rfl
@[go_sem] theorem c_int {k : IntKind} {i : Int} : (Value.int k i).cells = #[.int k i] := rfl
@[go_sem] theorem c_bool {b : Bool} : (Value.bool b).cells = #[.bool b] := rfl
@[go_sem] theorem c_ptr {a : Option Addr} : (Value.pointer a).cells = #[.pointer a] := rfl
@[go_sem] theorem c_slice {a : Option Addr} {n c : Nat} : (Value.slice a n c).cells = #[.slice a n c] := rfl
@[go_sem] theorem c_str {s : ByteArray} : (Value.string s).cells = #[.string s] := rfl
@[go_sem] theorem c_iface {t : TypeId} {v : Value} : (Value.iface t v).cells = #[.iface t v] := rfl
@[go_sem] theorem c_agg {cs : Array Value} : (Value.agg cs).cells = cs := rfl
@[go_sem] theorem lt_addT {b n k : Nat} (h : b < n) : (b < n + k) = True := eq_true (by omega)
@[go_sem] theorem lt_selfT {n k : Nat} : (n < n + (k + 1)) = True := eq_true (by omega)
@[go_sem] theorem lt_self1T {n : Nat} : (n < n + 1) = True := eq_true (by omega)
@[go_sem] theorem le_addT {b n k : Nat} (h : b ≤ n) : (b ≤ n + k) = True := eq_true (by omega)
@[go_sem] theorem get_alloc_at {b : Nat} {x : Blk} (h : base0 ≤ H.next) (e : b = H.next) : (H.alloc x).get b = some x := by rw [get_alloc h, if_pos e]
@[go_sem] theorem get_alloc_lt {b : Nat} {x : Blk} (h : b < H.next) : (H.alloc x).get b = H.get b := get_alloc_ne (by omega)
@[go_sem] theorem get_set_at {b c : Nat} {x : Blk} (h : base0 ≤ b) (e : c = b) : (H.set b x).get c = some x := by rw [e, get_set_eq h]
@[go_sem] theorem get_set_lt {b c : Nat} {x : Blk} (h : c < b) : (H.set b x).get c = H.get c := get_set_ne (by omega)
@[go_sem] theorem get_set_gt {b c : Nat} {x : Blk} (h : b < c) : (H.set b x).get c = H.get c := get_set_ne (by omega)
@[go_sem] theorem get_del_lt {b c : Nat} (h : c < b) : (H.del b).get c = H.get c := get_del_ne (by omega)
@[go_sem] theorem get_del_gt {b c : Nat} (h : b < c) : (H.del b).get c = H.get c := get_del_ne (by omega)
attribute [go_sem] get_set_ne get_del_ne stoK_1
@[go_sem] theorem stoK_all {b : Nat} {vs : List Value} {x : Blk} (hb : base0 ≤ b) (ho : vs.length = x.cells.length) (hv : vs.all Heap.oneC = true) :
    stoK H b 0 vs (some x) = some (H.set b { x with cells := vs }) := by
  have e : stoK H b 0 vs (some x) = if base0 ≤ b ∧ vs.all Heap.oneC = true ∧ 0 + vs.length ≤ x.cells.length then some (H.set b { x with cells := Heap.splice x.cells 0 vs }) else none := rfl
  rw [e, if_pos ⟨hb, hv, by omega⟩]
  congr 2
  unfold Heap.splice
  simp [ho]
attribute [go_sem] List.all_cons List.all_nil Bool.and_self

/- a heap in which nothing lies from its next number on -/
def WF (H : Heap) : Prop := base0 ≤ H.next ∧ ∀ b, H.next ≤ b → H.get b = none
theorem WF.lt {H : Heap} (h : WF H) {b : Nat} {x : Blk} (hb : H.get b = some x) : b < H.next := by
  apply Nat.lt_of_not_le; intro hn; rw [h.2 b hn] at hb; cases hb
theorem WF.alloc {H : Heap} (h : WF H) (x : Blk) : WF (H.alloc x) := by
  refine ⟨Nat.le_succ_of_le h.1, ?_⟩
  intro b hb
  have hb : H.next + 1 ≤ b := hb
  rw [get_alloc_ne (by omega)]; exact h.2 b (by omega)
theorem WF.bump {H : Heap} (h : WF H) (k : Nat) : WF (bump H k) := by
  refine ⟨Nat.le_add_right_of_le h.1, ?_⟩
  intro b hb
  have hb : H.next + k ≤ b := hb
  rw [get_bump]; exact h.2 b (by omega)
theorem WF.set {H : Heap} (h : WF H) {b : Nat} (hb : b < H.next) (x : Blk) : WF (H.set b x) := by
  refine ⟨by rw [next_set]; exact h.1, ?_⟩
  intro c hc
  rw [next_set] at hc
  rw [get_set_ne (by omega)]; exact h.2 c hc
theorem WF.del {H : Heap} (h : WF H) (b : Nat) : WF (H.del b) := by
  refine ⟨by rw [next_del]; exact h.1, ?_⟩
  intro c hc
  rw [next_del] at hc
  by_cases e : c = b
  · subst e
    unfold Heap.del Heap.put Heap.get
    by_cases hb : c < base0
    · have := h.1; omega
    · simp [hb]
  · rw [get_del_ne e]; exact h.2 c hc

/- only new blocks -/
structure Ext (H H' : Heap) : Prop where
  wf : WF H'
  le : H.next ≤ H'.next
  get : ∀ b, b < H.next → H'.get b = H.get b
theorem Ext.refl {H : Heap} (h : WF H) : Ext H H := ⟨h, Nat.le_refl _, fun _ _ => rfl⟩
theorem Ext.trans {H H1 H2 : Heap} (h : Ext H H1) (k : Ext H1 H2) : Ext H H2 := ⟨k.wf, Nat.le_trans h.le k.le, fun b hb => (k.get b (Nat.lt_of_lt_of_le hb h.le)).trans (h.get b hb)⟩
theorem Ext.alloc {H H1 : Heap} (h : Ext H H1) (x : Blk) : Ext H (H1.alloc x) :=
  ⟨h.wf.alloc x, Nat.le_succ_of_le h.le, fun b hb => (get_alloc_ne (by have := h.le; omega)).trans (h.get b hb)⟩
theorem Ext.bump {H H1 : Heap} (h : Ext H H1) (k : Nat) : Ext H (bump H1 k) := ⟨h.wf.bump k, Nat.le_add_right_of_le h.le, fun b hb => h.get b hb⟩
theorem Ext.set {H H1 : Heap} (h : Ext H H1) {b : Nat} (hb : H.next ≤ b) (hb2 : b < H1.next) (x : Blk) : Ext H (H1.set b x) :=
  ⟨h.wf.set hb2 x, by rw [next_set]; exact h.le, fun c hc => (get_set_ne (by omega)).trans (h.get c hc)⟩
theorem Ext.del {H H1 : Heap} (h : Ext H H1) {b : Nat} (hb : H.next ≤ b) : Ext H (H1.del b) :=
  ⟨h.wf.del b, by rw [next_del]; exact h.le, fun c hc => (get_del_ne (by omega)).trans (h.get c hc)⟩
theorem Ext.of {H H1 : Heap} (h : Ext H H1) {b : Nat} {x : Blk} (hw : WF H) (hb : H.get b = some x) : H1.get b = some x := (h.get b (hw.lt hb)).trans hb
/- loops, the slots and the heap by themselves -/
section
variable {st : List Fr} {Q : Ex → St → Prop}
def nextI (I : Nat → Tr Value → Heap → Prop) (m : Nat) (f : Tr Value) (H : Heap) : Prop := ∃ k, k < m ∧ I k f H
def loopJ (n : Nat) (dd : List Deferred) (I : Nat → Tr Value → Heap → Prop) (m : Nat) (s : St) : Prop := s.n = n ∧ s.d = dd ∧ nextI I m s.f s.H
@[go_sem ↓] theorem loopJ_mk {n : Nat} {dd : List Deferred} {I : Nat → Tr Value → Heap → Prop} {m : Nat} {f : Tr Value} {H : Heap} : loopJ n dd I m ⟨n, f, dd, H⟩ = nextI I m f H := by simp [loopJ]
@[congr] theorem nextI_congr {I : Nat → Tr Value → Heap → Prop} {m : Nat} {f f' : Tr Value} {H H' : Heap} (h : f = f') (h2 : H = H') : nextI I m f H = nextI I m f' H' := by rw [h, h2]
theorem Wk_loopF {b : IC} {n : Nat} {dd : List Deferred} {f : Tr Value} {H : Heap} (I : Nat → Tr Value → Heap → Prop) (m : Nat) (h0 : I m f H)
    (hs : ∀ m f H, I m f H → Wk P (.c b :: .i (loopJ n dd I m) :: st) (some ⟨n, f, dd, H⟩) Q) : Wk P (.c (.loop b) :: st) (some ⟨n, f, dd, H⟩) Q := by
  refine Wk_loop (fun m s => s.n = n ∧ s.d = dd ∧ I m s.f s.H) m ⟨rfl, rfl, h0⟩ ?_
  rintro m ⟨n', f, dd', H⟩ ⟨h1, h2, h3⟩
  have h1 : n' = n := h1
  have h2 : dd' = dd := h2
  subst h1 h2
  have := hs m f H h3
  rw [Wk_some] at this ⊢
  refine contF_mono (P := P) (Q := Q) (fun _ _ h => h) _ _ _ ?_
  have e : (fun s' : St => ∃ k, k < m ∧ s'.n = n' ∧ s'.d = dd' ∧ I k s'.f s'.H) = loopJ n' dd' I m := by
    funext s
    refine propext ⟨fun ⟨k, hk, h1, h2, h3⟩ => ⟨h1, h2, k, hk, h3⟩, fun ⟨h1, h2, k, hk, h3⟩ => ⟨k, hk, h1, h2, h3⟩⟩
  rw [e]; exact this
theorem Wk_vh {d : Option Tmp} {n : Nat} {f : Tr Value} {dd : List Deferred} {r : Option (Value × Heap)} {x : Value × Heap} (h : r = some x) (k : Wk P st (putVH d n f dd (some x)) Q) : Wk P st (putVH d n f dd r) Q := by rw [h]; exact k
theorem cK_vh {r0 i : Nat} {re : List Nat} {l : List DOp} {A : List (Nat × Blk)} {H0 : Heap} {hist : List (Nat × Heap)} {rd : List RdE} {d : Option Tmp} {n : Nat} {f : Tr Value} {dd : List Deferred} {r : Option (Value × Heap)} {x : Value × Heap} (h : r = some x)
    (k : cK P (putVH d n f dd (some x)) r0 i re l A H0 hist rd st Q) : cK P (putVH d n f dd r) r0 i re l A H0 hist rd st Q := by rw [h]; exact k
/- a reading is done in earlier heaps, too -/
def hsK (P : Program) (r0 : Nat) (f : Tr Value) (A : List (Nat × Blk)) (sees : List Nat) (op : Op) (u : Value) (nb : List Nat) : List (Nat × Heap) → Prop
  | [] => True
  | h :: t => if nb.contains h.1 = true then rdO P f (layA r0 h.2 (selA sees A)) op = some u ∧ hsK P r0 f A sees op u nb t else True
theorem hsK_of {r0 : Nat} {f : Tr Value} {A : List (Nat × Blk)} {sees : List Nat} {op : Op} {u : Value} {nb : List Nat} : ∀ {hist : List (Nat × Heap)}, hsK P r0 f A sees op u nb hist → ∀ h ∈ hist.takeWhile fun h => nb.contains h.1, rdO P f (layA r0 h.2 (selA sees A)) op = some u
  | [], _ => by simp
  | h :: t, k => by
    unfold hsK at k
    intro x hx
    by_cases hc : nb.contains h.1 = true
    · rw [if_pos hc] at k
      rw [List.takeWhile_cons, if_pos hc, List.mem_cons] at hx
      rcases hx with rfl | hx
      · exact k.1
      · exact hsK_of k.2 x hx
    · rw [List.takeWhile_cons, if_neg hc] at hx; cases hx
theorem wrK_some {v : Value} {r0 i : Nat} {sees nb : List Nat} {op : Op} {d : Option Tmp} {l : List DOp} {A : List (Nat × Blk)} {hist : List (Nat × Heap)} {rd : List RdE} {n : Nat} {f : Tr Value} {dd : List Deferred} {H : Heap}
    (h : hsK P r0 f A sees op v nb hist) (k : Wk P (.w r0 l A hist (⟨i, op, ⟨n, f, dd, H⟩, v, sees⟩ :: rd) :: st) (putO d n f dd H (some v)) Q) : wrK P (some v) r0 i sees nb op d l A hist rd st n f dd H Q := ⟨v, rfl, hsK_of h, k⟩
/- a call as an operation of the chain -/
def bkW (P : Program) (d : Option Tmp) (n : Nat) (f : Tr Value) (dd : List Deferred) (r0 i : Nat) (re : List Nat) (l : List DOp) (A : List (Nat × Blk)) (H0 : Heap) (hist : List (Nat × Heap)) (rd : List RdE) (st : List Fr) (Q : Ex → St → Prop) : CR → Heap → Prop
  | .ret v, H => cK P (putO d n f dd H (some v)) r0 i re l A H0 hist rd st Q
  | .pan _, _ => False
section
variable {d : Option Tmp} {n : Nat} {f : Tr Value} {dd : List Deferred} {H H0 : Heap} {r0 i : Nat} {re vis : List Nat} {l : List DOp} {A : List (Nat × Blk)} {hist : List (Nat × Heap)} {rd : List RdE}
@[go_sem ↓] theorem bkW_ret {v : Value} : bkW P d n f dd r0 i re l A H0 hist rd st Q (.ret v) H = cK P (putO d n f dd H (some v)) r0 i re l A H0 hist rd st Q := rfl
theorem Wk_w_call {x : Operand} {args : Array Operand} {ts : Array TypeId} (hr : allRd rd = true)
    (k : callK P (evF f x) (evL f args.toList) (layA r0 H (selA vis A)) (bkW P d n f dd r0 i re l (dropA vis A) H hist rd st Q)) :
    Wk P (.w r0 (⟨none, d, .call { callee := .value x, args := args, argTypes := ts }, .c i vis re⟩ :: l) A hist rd :: st) (some ⟨n, f, dd, H⟩) Q := by
  rw [Wk_some]
  show WO P _ d (setH ⟨n, f, dd, H⟩ (layA r0 H (A.filter fun p => vis.contains p.1))) (thenN (fun s =>
      (∀ e ∈ rd.filter fun e => re.contains e.k, RD P e.op e.s (layA r0 s.H ((A.filter fun p => !vis.contains p.1).filter fun p => e.sees.contains p.1)) e.v) ∧
      WD P r0 l { s := s, A := A.filter fun p => !vis.contains p.1, hist := (i, H) :: hist, rd := rd } (contF P st Q .normal)) noEx)
  rw [selA_eq, dropA_eq, setH_mk]
  refine WO'_call.2 ?_
  rw [ev_mk, ev_mk', evL_eq]
  obtain ⟨u, hu, a, ha, t, ht, hc⟩ := k
  refine ⟨u, hu, a, ha, t, ht, CW_mono P hc ?_⟩
  intro r H' hq
  cases r with
  | ret v =>
    obtain ⟨s, hs, h1, h2⟩ := hq
    simp only [putO, Option.map_some, Option.some.injEq] at hs
    subst hs
    simp only [backW_ret, setH_mk, thenN_normal]
    refine ⟨reK_of rd (allRd_of hr) h1, ?_⟩
    rw [Wk_some] at h2
    exact h2
  | pan v => exact hq.elim
end
theorem WF.next0 {H : Heap} (h : WF H) : base0 ≤ H.next := h.1
end
@[go_sem] theorem sliceS_bump {k size n c : Nat} {a : Option Addr} {l h m : Option Value} : sliceS (bump H k) size a n c l h m = sliceS H size a n c l h m := rfl

/- composite values -/
section
theorem splice_step {L vs : List Value} {v : Value} {q : Nat} (h : q + (vs.length + 1) ≤ L.length) : Heap.splice (L.set q v) (q + 1) vs = Heap.splice L q (v :: vs) := by
  unfold Heap.splice
  rw [List.set_eq_take_append_cons_drop, if_pos (by omega)]
  have h1 : (L.take q ++ [v]).length = q + 1 := by simp; omega
  have e : L.take q ++ v :: L.drop (q + 1) = (L.take q ++ [v]) ++ L.drop (q + 1) := by simp
  have h3 : q + 1 + vs.length = (L.take q ++ [v]).length + vs.length := by rw [h1]
  rw [e, List.take_left' h1, h3, List.drop_length_add_append, List.drop_drop]
  have h4 : q + 1 + vs.length = q + (v :: vs).length := by simp; omega
  rw [h4]
  simp
theorem foldl_set (vs : List Value) : ∀ (off k : Nat) (cells : Array Value), off + k + vs.length ≤ cells.size →
    ((vs.zipIdx k).foldl (fun (cs : Array Value) (x : Value × Nat) => cs.setIfInBounds (off + x.2) x.1) cells).toList = Heap.splice cells.toList (off + k) vs := by
  induction vs with
  | nil =>
    intro off k cells h
    simp [Heap.splice]
  | cons v vs ih =>
    intro off k cells h
    simp only [List.length_cons] at h
    simp only [List.zipIdx_cons, List.foldl_cons]
    have e : off + (k + 1) = off + k + 1 := by omega
    rw [ih off (k + 1) _ (by simp; omega), e, Array.toList_setIfInBounds, splice_step (by simp; omega)]

def fillP (ps : Nat → Option (Nat × Nat)) (cs : List Value) (v : Value) (rest : List (Nat × Value)) : Option (Nat × Nat) → Option (List Value)
  | none => none
  | some (off, size) => if v.cells.size = size ∧ off + size ≤ cs.length then (Instr.fill ps (Heap.splice cs off v.cells.toList).toArray rest).map (·.toList) else none
def fillS (ps : Nat → Option (Nat × Nat)) (cs : List Value) (parts : List (Nat × Value)) : Option (List Value) := (Instr.fill ps cs.toArray parts).map (·.toList)
@[go_sem] theorem fillS_nil {ps : Nat → Option (Nat × Nat)} {cs : List Value} : fillS ps cs [] = some cs := rfl
theorem fillS_cons {ps : Nat → Option (Nat × Nat)} {cs : List Value} {i : Nat} {v : Value} {rest : List (Nat × Value)} : fillS ps cs ((i, v) :: rest) = fillP ps cs v rest (ps i) := by
  unfold fillS
  simp only [Instr.fill]
  cases ps i with
  | none => rfl
  | some p =>
    obtain ⟨off, size⟩ := p
    simp only [fillP]
    by_cases h1 : v.cells.size = size
    · by_cases h2 : off + size ≤ cs.length
      · have c1 : ¬ ((v.cells.size ≠ size || off + v.cells.size > cs.toArray.size) = true) := by simp [h1]; omega
        rw [if_neg c1, if_pos (And.intro h1 h2)]
        have := foldl_set v.cells.toList off 0 cs.toArray (by simp [h1]; omega)
        have e : v.cells.zipIdx.foldl (fun (cs : Array Value) (x : Value × Nat) => cs.setIfInBounds (off + x.2) x.1) cs.toArray = (Heap.splice cs off v.cells.toList).toArray := by
          apply Array.ext'
          rw [← Array.foldl_toList, Array.toList_zipIdx]
          exact this
        have e' : v.cells.zipIdx.foldl (fun cs (c, j) => cs.setIfInBounds (off + j) c) cs.toArray = (Heap.splice cs off v.cells.toList).toArray := e
        rw [e']
      · have c1 : (v.cells.size ≠ size || off + v.cells.size > cs.toArray.size) = true := by simp [h1]; omega
        have c2 : ¬ (v.cells.size = size ∧ off + size ≤ cs.length) := fun h => h2 h.2
        rw [if_pos c1, if_neg c2]; rfl
    · have c1 : (v.cells.size ≠ size || off + v.cells.size > cs.toArray.size) = true := by simp [h1]
      have c2 : ¬ (v.cells.size = size ∧ off + size ≤ cs.length) := fun h => h1 h.1
      rw [if_pos c1, if_neg c2]; rfl
@[go_sem] theorem fillP_some {ps : Nat → Option (Nat × Nat)} {cs : List Value} {v : Value} {rest : List (Nat × Value)} {off size : Nat} :
    fillP ps cs v rest (some (off, size)) = if v.cells.size = size ∧ off + size ≤ cs.length then fillS ps (Heap.splice cs off v.cells.toList) rest else none := rfl
def plL (l : List (Nat × Nat)) : Nat → Option (Nat × Nat) := (l[·]?)
def plR (size : Nat) : Nat → Option (Nat × Nat) := fun i => some (i * size, size)
@[go_sem] theorem fillL_cons {l : List (Nat × Nat)} {cs : List Value} {i : Nat} {v : Value} {rest : List (Nat × Value)} : fillS (plL l) cs ((i, v) :: rest) = fillP (plL l) cs v rest (l[i]?) := fillS_cons
@[go_sem] theorem fillR_cons {size : Nat} {cs : List Value} {i : Nat} {v : Value} {rest : List (Nat × Value)} : fillS (plR size) cs ((i, v) :: rest) = fillP (plR size) cs v rest (some (i * size, size)) := fillS_cons
def aggO (l : Option (List Value)) : Option Value := l.map fun l => .agg l.toArray
@[go_sem] theorem aggO_some {l : List Value} : aggO (some l) = some (.agg l.toArray) := rfl
theorem aggO_eq {ps : Nat → Option (Nat × Nat)} {zero : Array Value} {parts : List (Nat × Value)} : (Instr.fill ps zero parts).map .agg = aggO (fillS ps zero.toList parts) := by
  unfold aggO fillS
  have : zero.toList.toArray = zero := by simp
  rw [this]
  cases Instr.fill ps zero parts <;> simp
@[go_sem] theorem buildS_eq {places : List (Nat × Nat)} {zero : Array Value} {parts : List (Nat × Value)} : buildS places zero parts = aggO (fillS (plL places) zero.toList parts) := aggO_eq
@[go_sem] theorem buildR_eq {size : Nat} {zero : Array Value} {parts : List (Nat × Value)} : buildR size zero parts = aggO (fillS (plR size) zero.toList parts) := aggO_eq
def bslK (elem len : Nat) (l : Option (List Value)) : Option ((Nat → Value) × Blk) := l.map fun l => (fun b => .slice (some ⟨b, 0, none⟩) len len, ⟨elem, 0, false, l⟩)
@[go_sem] theorem bslK_some {elem len : Nat} {l : List Value} : bslK elem len (some l) = some (fun b => .slice (some ⟨b, 0, none⟩) len len, ⟨elem, 0, false, l⟩) := rfl
@[go_sem] theorem bslS_eq {elem size len : Nat} {zero : List Value} {parts : List (Nat × Value)} : bslS elem size len zero parts = bslK elem len (fillS (plR size) (manyA zero len) parts) := by
  unfold bslS bslK fillS plR
  simp only [Option.bind_eq_bind]
  cases Instr.fill (fun i => some (i * size, size)) (manyA zero len).toArray parts <;> rfl
attribute [go_sem] manyA Heap.splice
end
end
end Go.Am
