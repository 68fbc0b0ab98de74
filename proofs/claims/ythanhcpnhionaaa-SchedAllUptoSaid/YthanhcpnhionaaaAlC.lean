/- Lemmas for the theorem of the last text: parts AmK to TryFns of it. Conditions: those of each theorem. -/
import Derived.Test.YthanhcpnhionaaaAlB
set_option linter.all false
set_option linter.unusedSimpArgs false
set_option linter.unusedVariables false
namespace Go.Am
inductive Fr where
  | l (l : List IOp)
  | c (c : IC)
  | b (id : Nat)
  | i (J : St → Prop)
  | x
  | e (r0 : Nat) (l : List DOp) (A : List (Nat × Blk))
  | w (r0 : Nat) (l : List DOp) (A : List (Nat × Blk)) (hist : List (Nat × Heap)) (rd : List RdE)
def noEx : Ex → St → Prop := fun _ _ => False
section
variable (P : Program)
def contF : List Fr → (Ex → St → Prop) → Ex → St → Prop
  | [], Q => Q
  | .l l :: st, Q => thenN (fun s => WL P l s (contF st Q)) (contF st Q)
  | .c c :: st, Q => thenN (fun s => Wq P c s (contF st Q)) (contF st Q)
  | .b id :: st, Q => blk id (contF st Q)
  | .i J :: st, Q => thenN J (contF st Q)
  | .x :: st, Q => thenN (contF st Q .normal) noEx
  | .e r0 l A :: st, Q => thenN (fun s => WE P r0 l s A (contF st Q .normal)) noEx
  | .w r0 l A hist rd :: st, Q => thenN (fun s => WD P r0 l { s := s, A := A, hist := hist, rd := rd } (contF st Q .normal)) noEx
def Wk (st : List Fr) (so : Option St) (Q : Ex → St → Prop) : Prop := ∃ s, so = some s ∧ contF P st Q .normal s
def We (e : Ex) (st : List Fr) (so : Option St) (Q : Ex → St → Prop) : Prop := ∃ s, so = some s ∧ contF P st Q e s
def evF (f : Tr Value) : Operand → Option Value
  | .tmp t => some ((f.get t).getD undef)
  | .const v => if plainV v then some v else none
  | .global _ => none
  | .func g => some (.func (.func g) #[] #[])
def evL (f : Tr Value) : List Operand → Option (List Value)
  | [] => some []
  | x :: l => (evF f x).bind fun v => (evL f l).map fun vs => v :: vs
def consO (v : Option Value) (l : Option (List Value)) : Option (List Value) := v.bind fun v => l.map fun l => v :: l
def evPs (f : Tr Value) : List (Nat × Operand) → Option (List (Nat × Value))
  | [] => some []
  | x :: l => (evF f x.2).bind fun v => (evPs f l).map fun vs => (x.1, v) :: vs
def consP (i : Nat) (v : Option Value) (l : Option (List (Nat × Value))) : Option (List (Nat × Value)) := v.bind fun v => l.map fun l => (i, v) :: l
def evO (f : Tr Value) : Option Operand → Option (Option Value)
  | none => some none
  | some x => (evF f x).map some
def someO (v : Option Value) : Option (Option Value) := v.map some
def putO (d : Option Tmp) (n : Nat) (f : Tr Value) (dd : List Deferred) (H : Heap) (v : Option Value) : Option St := v.map fun v => (St.mk n f dd H).put d v
def putH (d : Option Tmp) (n : Nat) (f : Tr Value) (dd : List Deferred) (H : Option Heap) : Option St := H.map fun H => (St.mk n f dd H).put d undef
def putVH (d : Option Tmp) (n : Nat) (f : Tr Value) (dd : List Deferred) (r : Option (Value × Heap)) : Option St := r.map fun r => (St.mk n f dd r.2).put d r.1
def putB (d : Option Tmp) (n : Nat) (f : Tr Value) (dd : List Deferred) (H : Heap) (r : Option ((Nat → Value) × Blk)) : Option St := r.map fun r => (St.mk n f dd (H.alloc r.2)).put d (r.1 H.next)
def putA (t : TypeId) (d : Option Tmp) (n : Nat) (f : Tr Value) (dd : List Deferred) (H : Heap) (z : Option Value) : Option St :=
  z.map fun z => (St.mk n f dd (H.alloc ⟨t, 0, false, z.cells.toList⟩)).put d (.pointer (some ⟨H.next, 0, none⟩))
def putD (d : Option Tmp) (n : Nat) (f : Tr Value) (dd : List Deferred) (H : Heap) (r : Option Deferred) : Option St := r.map fun x => (St.mk n f (x :: dd) H).put d undef
noncomputable def stepS (op : Op) (d : Option Tmp) (s : St) : Option St := match doOp P (callW P) { dst := d, op := op, type := 0, pos := "", after := #[], guard := none } s with | some (.normal, s') => some s' | _ => none
variable {P}
def Simple (P : Program) (op : Op) (d : Option Tmp) (s : St) (r : Option St) : Prop := ∀ K : Ex → St → Prop, WO P op d s K ↔ ∃ s', r = some s' ∧ K .normal s'
theorem stepS_of {op : Op} {d : Option Tmp} {s : St} {r : Option St} (h : Simple P op d s r) : stepS P op d s = r := by
  unfold stepS
  cases hd : doOp P (callW P) { dst := d, op := op, type := 0, pos := "", after := #[], guard := none } s with
  | none =>
    cases r with
    | none => rfl
    | some s' =>
      obtain ⟨e, s2, h2, _⟩ := (h (fun _ _ => True)).2 ⟨s', rfl, trivial⟩
      rw [hd] at h2; cases h2
  | some q =>
    obtain ⟨e, s'⟩ := q
    obtain ⟨s2, h2, h3, h4⟩ := (h (fun e1 s1 => e1 = e ∧ s1 = s')).1 ⟨e, s', hd, rfl, rfl⟩
    subst h3 h4
    exact h2.symm
theorem simple_step {op : Op} {d : Option Tmp} {s : St} {r : Option St} (h : Simple P op d s r) : Simple P op d s (stepS P op d s) := by rw [stepS_of h]; exact h
section
variable {d : Option Tmp} {n : Nat} {f : Tr Value} {dd : List Deferred} {H : Heap}
theorem ev_mk (x : Operand) : (St.mk n f dd H).ev x = evF f x := by cases x <;> rfl
theorem ev_mk' : (St.mk n f dd H).ev = evF f := funext fun x => ev_mk x
theorem evL_eq (l : List Operand) : List.mapM (evF f) l = evL f l := by
  induction l with
  | nil => rfl
  | cons x l ih =>
    rw [mapM_cons', ih]
    simp only [evL]
    cases evF f x with
    | none => rfl
    | some v => cases evL f l <;> rfl
theorem evPs_eq (l : List (Nat × Operand)) : (l.mapM fun (p : Nat × Operand) => (evF f p.2).map (p.1, ·)) = evPs f l := by
  induction l with
  | nil => rfl
  | cons x l ih =>
    rw [mapM_cons', ih]
    simp only [evPs]
    cases evF f x.2 with
    | none => rfl
    | some v => cases evPs f l <;> rfl
theorem evO_eq (x : Option Operand) : x.mapM (evF f) = evO f x := by
  cases x with
  | none => rfl
  | some x =>
    simp only [Option.mapM, evO]
    cases evF f x <;> rfl
def loadO (P : Program) (H : Heap) (t : TypeId) (v : Option Value) : Option Value := v.bind (loadA P H t)
def binO (P : Program) (op : BinOp) (t : TypeId) (x y : Operand) (a b : Option Value) : Option Value := a.bind fun a => b.bind fun b => if eqGuardA op x y a b then binA P op t a b else none
def unO (op : UnOp) (a : Option Value) : Option Value := a.bind (unA op)
def convO (P : Program) (a b : TypeId) (v : Option Value) : Option Value := v.bind (convertA P a b)
def ifaceO (P : Program) (t : TypeId) (v : Option Value) : Option Value := v.bind (makeInterfaceA P t)
def fieldAO (P : Program) (t : TypeId) (i : Nat) (v : Option Value) : Option Value := v.bind (fieldAddrA P t · i)
def fieldO (P : Program) (t : TypeId) (i : Nat) (v : Option Value) : Option Value := v.bind (fieldA P t · i)
def extO (i : Nat) (v : Option Value) : Option Value := v.bind (extractA · i)
def assertO (P : Program) (b : TypeId) (k : Bool) (v : Option Value) : Option Value := v.bind (typeAssertA P · b k)
def indexAO (P : Program) (t : TypeId) (v i : Option Value) : Option Value := v.bind fun v => i.bind fun i => indexAddrA P t v i
def indexO (P : Program) (t : TypeId) (v i : Option Value) : Option Value := v.bind fun v => i.bind fun i => indexA P t v i
def funcO (g : Fn) (a b : Option (List Value)) : Option Value := a.bind fun a => b.map fun b => .func g a.toArray b.toArray
def sliceO (P : Program) (H : Heap) (t : TypeId) (v : Option Value) (l h m : Option (Option Value)) : Option Value := v.bind fun v => l.bind fun l => h.bind fun h => m.bind fun m => sliceA P H t v l h m
def storeO (P : Program) (H : Heap) (t : TypeId) (a v : Option Value) : Option Heap := a.bind fun a => v.bind fun v => storeA P H t a v
def biO (P : Program) (b : Builtin) (ts : Array TypeId) (H : Heap) (l : Option (List Value)) : Option (Value × Heap) := l.bind fun l => builtinA P b ts l H
def buildO (P : Program) (t : TypeId) (l : Option (List (Nat × Value))) : Option Value := l.bind (buildA P t)
def bslO (P : Program) (t : TypeId) (k : Nat) (l : Option (List (Nat × Value))) : Option ((Nat → Value) × Blk) := l.bind (buildSliceA P t k)
def mkslO (P : Program) (t : TypeId) (a b : Option Value) : Option ((Nat → Value) × Blk) := a.bind fun a => b.bind fun b => makeSliceA P t a b
def defO (v : Option Value) (l : Option (List Value)) : Option Deferred := v.bind fun v => l.bind fun l => deferA l v
def nilO (v : Option Value) : Option Value := v.bind nilChkA
def pickO (c x y : Option Value) : Option Value := c.bind fun c => match c with | .bool b => if b then x else y | _ => none
theorem s_move {x : Operand} : Simple P (.move x) d ⟨n, f, dd, H⟩ (putO d n f dd H (evF f x)) := fun K => by
  rw [WO'_move, ev_mk]; cases evF f x <;> simp [putO]
theorem s_assign {x : Operand} : Simple P (.assign x) d ⟨n, f, dd, H⟩ (putO d n f dd H (evF f x)) := fun K => by
  rw [WO'_assign, ev_mk]; cases evF f x <;> simp [putO]
theorem s_pick {c x y : Operand} : Simple P (.pick c x y) d ⟨n, f, dd, H⟩ (putO d n f dd H (pickO (evF f c) (evF f x) (evF f y))) := fun K => by
  rw [WO'_pick, ev_mk, ev_mk']
  cases evF f c with
  | none => simp [putO, pickO]
  | some v =>
    cases v with
    | bool b => cases b <;> (simp [putO, pickO, pickA]; try (cases evF f x <;> cases evF f y <;> simp))
    | _ => simp [putO, pickO, pickA]
theorem s_nil {x : Operand} : Simple P (.nilCheck x) d ⟨n, f, dd, H⟩ (putO d n f dd H (nilO (evF f x))) := fun K => by
  rw [WO'_nilCheck, ev_mk]
  cases evF f x with
  | none => simp [putO, nilO]
  | some v => simp only [putO, nilO, Option.bind_some, Option.some.injEq, exists_eq_left']; cases nilChkA v <;> simp
theorem s_load {t : TypeId} {x : Operand} : Simple P (.load t x) d ⟨n, f, dd, H⟩ (putO d n f dd H (loadO P H t (evF f x))) := fun K => by
  rw [WO'_load, ev_mk]
  cases evF f x with
  | none => simp [putO, loadO]
  | some v => simp only [putO, loadO, Option.bind_some, Option.some.injEq, exists_eq_left']; cases loadA P H t v <;> simp
theorem s_bin {op : BinOp} {t u : TypeId} {x y : Operand} : Simple P (.binOp op t x y u) d ⟨n, f, dd, H⟩ (putO d n f dd H (binO P op t x y (evF f x) (evF f y))) := fun K => by
  rw [WO'_bin, ev_mk, ev_mk]
  cases evF f x with
  | none => simp [putO, binO]
  | some a => cases evF f y with
    | none => simp [putO, binO]
    | some b =>
      simp only [putO, binO, Option.bind_some, Option.some.injEq, exists_eq_left']
      by_cases hg : eqGuardA op x y a b = true
      · simp only [hg, true_and, if_true]; cases binA P op t a b <;> simp
      · simp [hg]
theorem s_un {op : UnOp} {t : TypeId} {x : Operand} : Simple P (.unOp op t x) d ⟨n, f, dd, H⟩ (putO d n f dd H (unO op (evF f x))) := fun K => by
  rw [WO'_un, ev_mk]
  cases evF f x with
  | none => simp [putO, unO]
  | some v => simp only [putO, unO, Option.bind_some, Option.some.injEq, exists_eq_left']; cases unA op v <;> simp
theorem s_conv {a b : TypeId} {x : Operand} : Simple P (.convert a b x) d ⟨n, f, dd, H⟩ (putO d n f dd H (convO P a b (evF f x))) := fun K => by
  rw [WO'_convert, ev_mk]
  cases evF f x with
  | none => simp [putO, convO]
  | some v => simp only [putO, convO, Option.bind_some, Option.some.injEq, exists_eq_left']; cases convertA P a b v <;> simp
theorem s_iface {t : TypeId} {x : Operand} : Simple P (.makeInterface t x) d ⟨n, f, dd, H⟩ (putO d n f dd H (ifaceO P t (evF f x))) := fun K => by
  rw [WO'_iface, ev_mk]
  cases evF f x with
  | none => simp [putO, ifaceO]
  | some v => simp only [putO, ifaceO, Option.bind_some, Option.some.injEq, exists_eq_left']; cases makeInterfaceA P t v <;> simp
theorem s_fieldAddr {t : TypeId} {x : Operand} {i : Nat} : Simple P (.fieldAddr t x i) d ⟨n, f, dd, H⟩ (putO d n f dd H (fieldAO P t i (evF f x))) := fun K => by
  rw [WO'_fieldAddr, ev_mk]
  cases evF f x with
  | none => simp [putO, fieldAO]
  | some v => simp only [putO, fieldAO, Option.bind_some, Option.some.injEq, exists_eq_left']; cases fieldAddrA P t v i <;> simp
theorem s_field {t : TypeId} {x : Operand} {i : Nat} : Simple P (.field t x i) d ⟨n, f, dd, H⟩ (putO d n f dd H (fieldO P t i (evF f x))) := fun K => by
  rw [WO'_field, ev_mk]
  cases evF f x with
  | none => simp [putO, fieldO]
  | some v => simp only [putO, fieldO, Option.bind_some, Option.some.injEq, exists_eq_left']; cases fieldA P t v i <;> simp
theorem s_ext {x : Operand} {i : Nat} : Simple P (.extract x i) d ⟨n, f, dd, H⟩ (putO d n f dd H (extO i (evF f x))) := fun K => by
  rw [WO'_extract, ev_mk]
  cases evF f x with
  | none => simp [putO, extO]
  | some v => simp only [putO, extO, Option.bind_some, Option.some.injEq, exists_eq_left']; cases extractA v i <;> simp
theorem s_assert {x : Operand} {a b : TypeId} {k : Bool} : Simple P (.typeAssert x a b k) d ⟨n, f, dd, H⟩ (putO d n f dd H (assertO P b k (evF f x))) := fun K => by
  rw [WO'_typeAssert, ev_mk]
  cases evF f x with
  | none => simp [putO, assertO]
  | some v => simp only [putO, assertO, Option.bind_some, Option.some.injEq, exists_eq_left']; cases typeAssertA P v b k <;> simp
theorem s_indexAddr {t : TypeId} {x y : Operand} : Simple P (.indexAddr t x y) d ⟨n, f, dd, H⟩ (putO d n f dd H (indexAO P t (evF f x) (evF f y))) := fun K => by
  rw [WO'_indexAddr, ev_mk, ev_mk]
  cases evF f x with
  | none => simp [putO, indexAO]
  | some v => cases evF f y with
    | none => simp [putO, indexAO]
    | some i => simp only [putO, indexAO, Option.bind_some, Option.some.injEq, exists_eq_left']; cases indexAddrA P t v i <;> simp
theorem s_index {t : TypeId} {x y : Operand} : Simple P (.index t x y) d ⟨n, f, dd, H⟩ (putO d n f dd H (indexO P t (evF f x) (evF f y))) := fun K => by
  rw [WO'_index, ev_mk, ev_mk]
  cases evF f x with
  | none => simp [putO, indexO]
  | some v => cases evF f y with
    | none => simp [putO, indexO]
    | some i => simp only [putO, indexO, Option.bind_some, Option.some.injEq, exists_eq_left']; cases indexA P t v i <;> simp
theorem s_func {g : Fn} {a b : Array Operand} : Simple P (.makeFunc g a b) d ⟨n, f, dd, H⟩ (putO d n f dd H (funcO g (evL f a.toList) (evL f b.toList))) := fun K => by
  rw [WO'_makeFunc, ev_mk', evL_eq, evL_eq]
  cases evL f a.toList with
  | none => simp [putO, funcO]
  | some v => cases evL f b.toList <;> simp [putO, funcO]
theorem s_slice {t : TypeId} {x : Operand} {lo hi mx : Option Operand} : Simple P (.slice t x lo hi mx) d ⟨n, f, dd, H⟩ (putO d n f dd H (sliceO P H t (evF f x) (evO f lo) (evO f hi) (evO f mx))) := fun K => by
  rw [WO'_slice, ev_mk', evO_eq, evO_eq, evO_eq]
  cases evF f x with
  | none => simp [putO, sliceO]
  | some v => cases evO f lo with
    | none => simp [putO, sliceO]
    | some l => cases evO f hi with
      | none => simp [putO, sliceO]
      | some h => cases evO f mx with
        | none => simp [putO, sliceO]
        | some m => simp only [putO, sliceO, Option.bind_some, Option.some.injEq, exists_eq_left']; cases sliceA P H t v l h m <;> simp
theorem s_store {t : TypeId} {x y : Operand} : Simple P (.store t x y) d ⟨n, f, dd, H⟩ (putH d n f dd (storeO P H t (evF f x) (evF f y))) := fun K => by
  rw [WO'_store, ev_mk, ev_mk]
  cases evF f x with
  | none => simp [putH, storeO]
  | some v => cases evF f y with
    | none => simp [putH, storeO]
    | some i => simp only [putH, storeO, Option.bind_some, Option.some.injEq, exists_eq_left', setH_mk]; cases storeA P H t v i <;> simp
theorem s_builtin {b : Builtin} {args : Array Operand} {ts : Array TypeId} : Simple P (.call { callee := .builtin b, args := args, argTypes := ts }) d ⟨n, f, dd, H⟩ (putVH d n f dd (biO P b ts H (evL f args.toList))) := fun K => by
  rw [WO'_builtin, ev_mk', evL_eq]
  cases evL f args.toList with
  | none => simp [putVH, biO]
  | some l => simp only [putVH, biO, Option.bind_some, Option.some.injEq, exists_eq_left', setH_mk]; cases builtinA P b ts l H <;> simp
theorem s_alloc {t : TypeId} : Simple P (.alloc t) d ⟨n, f, dd, H⟩ (putA t d n f dd H (zeroA P t)) := fun K => by
  rw [WO'_alloc]; cases zeroA P t <;> simp [putA, setH_mk]
theorem s_box {t : TypeId} {x : Operand} : Simple P (.box t x) d ⟨n, f, dd, H⟩ (putA t d n f dd H (evF f x)) := fun K => by
  rw [WO'_box, ev_mk]; cases evF f x <;> simp [putA, setH_mk]
theorem s_build {t : TypeId} {parts : Array (Nat × Operand)} : Simple P (.build t parts) d ⟨n, f, dd, H⟩ (putO d n f dd H (buildO P t (evPs f parts.toList))) := fun K => by
  rw [WO'_build]; simp only [ev_mk]; rw [evPs_eq]
  cases evPs f parts.toList with
  | none => simp [putO, buildO]
  | some l => simp only [putO, buildO, Option.bind_some, Option.some.injEq, exists_eq_left']; cases buildA P t l <;> simp
theorem s_buildSlice {t : TypeId} {k : Nat} {parts : Array (Nat × Operand)} : Simple P (.buildSlice t k parts) d ⟨n, f, dd, H⟩ (putB d n f dd H (bslO P t k (evPs f parts.toList))) := fun K => by
  rw [WO'_buildSlice]; simp only [ev_mk]; rw [evPs_eq]
  cases evPs f parts.toList with
  | none => simp [putB, bslO]
  | some l => simp only [putB, bslO, Option.bind_some, Option.some.injEq, exists_eq_left', setH_mk]; cases buildSliceA P t k l <;> simp
theorem s_makeSlice {t : TypeId} {l c : Operand} : Simple P (.makeSlice t l c) d ⟨n, f, dd, H⟩ (putB d n f dd H (mkslO P t (evF f l) (evF f c))) := fun K => by
  rw [WO'_makeSlice, ev_mk, ev_mk]
  cases evF f l with
  | none => simp [putB, mkslO]
  | some a => cases evF f c with
    | none => simp [putB, mkslO]
    | some b => simp only [putB, mkslO, Option.bind_some, Option.some.injEq, exists_eq_left', setH_mk]; cases makeSliceA P t a b <;> simp
theorem s_defer {x : Operand} {args : Array Operand} {ts : Array TypeId} : Simple P (.defer { callee := .value x, args := args, argTypes := ts }) d ⟨n, f, dd, H⟩ (putD d n f dd H (defO (evF f x) (evL f args.toList))) := fun K => by
  rw [WO'_defer, ev_mk, ev_mk', evL_eq]
  cases evF f x with
  | none => simp [putD, defO]
  | some v => cases evL f args.toList with
    | none => simp [putD, defO]
    | some l => simp only [putD, defO, Option.bind_some, Option.some.injEq, exists_eq_left', addD_mk]; cases deferA l v <;> simp
end
def simpleOp : Op → Bool
  | .move _ | .assign _ | .pick _ _ _ | .nilCheck _ | .load _ _ | .binOp _ _ _ _ _ | .unOp _ _ _ | .convert _ _ _ | .makeInterface _ _ | .fieldAddr _ _ _ | .field _ _ _ | .extract _ _ | .typeAssert _ _ _ _
  | .indexAddr _ _ _ | .index _ _ _ | .makeFunc _ _ _ | .slice _ _ _ _ _ | .store _ _ _ | .alloc _ | .box _ _ | .build _ _ | .buildSlice _ _ _ | .makeSlice _ _ _ => true
  | .call { callee := .builtin _, .. } => true
  | .defer { callee := .value _, .. } => true
  | _ => false
theorem simple_all {op : Op} (h : simpleOp op = true) (d : Option Tmp) (s : St) : Simple P op d s (stepS P op d s) := by
  obtain ⟨n, f, dd, H⟩ := s
  cases op with
  | move x => exact simple_step s_move
  | assign x => exact simple_step s_assign
  | pick c x y => exact simple_step s_pick
  | nilCheck x => exact simple_step s_nil
  | load t x => exact simple_step s_load
  | binOp op t x y u => exact simple_step s_bin
  | unOp op t x => exact simple_step s_un
  | convert a b x => exact simple_step s_conv
  | makeInterface t x => exact simple_step s_iface
  | fieldAddr t x i => exact simple_step s_fieldAddr
  | field t x i => exact simple_step s_field
  | extract x i => exact simple_step s_ext
  | typeAssert x a b k => exact simple_step s_assert
  | indexAddr t x y => exact simple_step s_indexAddr
  | index t x y => exact simple_step s_index
  | makeFunc g a b => exact simple_step s_func
  | slice t x a b c => exact simple_step s_slice
  | store t x y => exact simple_step s_store
  | alloc t => exact simple_step s_alloc
  | box t x => exact simple_step s_box
  | build t p => exact simple_step s_build
  | buildSlice t k p => exact simple_step s_buildSlice
  | makeSlice t l c => exact simple_step s_makeSlice
  | call c =>
    obtain ⟨callee, args, ts⟩ := c
    cases callee with
    | builtin b => exact simple_step s_builtin
    | _ => cases h
  | defer c =>
    obtain ⟨callee, args, ts⟩ := c
    cases callee with
    | value b => exact simple_step s_defer
    | _ => cases h
  | _ => cases h
def brK (P : Program) (v : Option Value) (a b : List Fr) (s : St) (Q : Ex → St → Prop) : Prop := ∃ t, v = some (.bool t) ∧ if t then Wk P a (some s) Q else Wk P b (some s) Q
def gdK (P : Program) (v : Option Value) (w : Bool) (a b : List Fr) (d : Option Tmp) (s : St) (Q : Ex → St → Prop) : Prop :=
  ∃ t, gB v w t ∧ if t = w then Wk P a (some s) Q else Wk P b (some (s.put d undef)) Q
section
variable {st : List Fr} {Q : Ex → St → Prop} {n : Nat} {f : Tr Value} {dd : List Deferred} {H : Heap} {rest : List IOp}
theorem Wk_some {s : St} : Wk P st (some s) Q = contF P st Q .normal s := propext ⟨fun ⟨_, h, k⟩ => by cases h; exact k, fun h => ⟨s, rfl, h⟩⟩
theorem We_some {e : Ex} {s : St} : We P e st (some s) Q = contF P st Q e s := propext ⟨fun ⟨_, h, k⟩ => by cases h; exact k, fun h => ⟨s, rfl, h⟩⟩
theorem simple_Wk {op : Op} (h : simpleOp op = true) {d : Option Tmp} {s : St} {K : Ex → St → Prop} : WO P op d s K = ∃ s', stepS P op d s = some s' ∧ K .normal s' := propext (simple_all h d s K)
@[congr] theorem Wk_congr {so so' : Option St} (h : so = so') : Wk P st so Q = Wk P st so' Q := by rw [h]
@[congr] theorem We_congr {e : Ex} {so so' : Option St} (h : so = so') : We P e st so Q = We P e st so' Q := by rw [h]
@[congr] theorem brK_congr {v v' : Option Value} {a b : List Fr} {s : St} (h : v = v') : brK P v a b s Q = brK P v' a b s Q := by rw [h]
@[congr] theorem gdK_congr {v v' : Option Value} {w : Bool} {a b : List Fr} {d : Option Tmp} {s : St} (h : v = v') : gdK P v w a b d s Q = gdK P v' w a b d s Q := by rw [h]
@[go_sem ↓] theorem Wk_l_nil : Wk P (.l [] :: st) (some ⟨n, f, dd, H⟩) Q = Wk P st (some ⟨n, f, dd, H⟩) Q := by simp only [Wk_some]; rfl
@[go_sem ↓] theorem Wk_o {d : Tmp} {op : Op} (h : simpleOp op = true) : Wk P (.l (.o d op :: rest) :: st) (some ⟨n, f, dd, H⟩) Q = Wk P (.l rest :: st) (stepS P op (some d) ⟨n, f, dd, H⟩) Q := by
  rw [Wk_some]; exact simple_Wk h
@[go_sem ↓] theorem Wk_n {op : Op} (h : simpleOp op = true) : Wk P (.l (.n op :: rest) :: st) (some ⟨n, f, dd, H⟩) Q = Wk P (.l rest :: st) (stepS P op none ⟨n, f, dd, H⟩) Q := by
  rw [Wk_some]; exact simple_Wk h
@[go_sem ↓] theorem Wk_gs {t : Tmp} {w : Bool} {d : Tmp} {op : Op} : Wk P (.l (.g t w (some d) op :: rest) :: st) (some ⟨n, f, dd, H⟩) Q = gdK P (f.get t) w (.l (.o d op :: rest) :: st) (.l rest :: st) (some d) ⟨n, f, dd, H⟩ Q := by
  simp only [Wk_some, gdK]; rfl
@[go_sem ↓] theorem Wk_gn {t : Tmp} {w : Bool} {op : Op} : Wk P (.l (.g t w none op :: rest) :: st) (some ⟨n, f, dd, H⟩) Q = gdK P (f.get t) w (.l (.n op :: rest) :: st) (.l rest :: st) none ⟨n, f, dd, H⟩ Q := by
  simp only [Wk_some, gdK]; rfl
variable {a b : List Fr} {s : St} {d : Option Tmp}
@[go_sem] theorem gdK_tt : gdK P (some (.bool true)) true a b d s Q = Wk P a (some s) Q := by simp [gdK, gB, undef]
@[go_sem] theorem gdK_ff : gdK P (some (.bool false)) false a b d s Q = Wk P a (some s) Q := by simp [gdK, gB, undef]
@[go_sem] theorem gdK_tf : gdK P (some (.bool true)) false a b d ⟨n, f, dd, H⟩ Q = Wk P b (putO d n f dd H (some undef)) Q := by simp [gdK, gB, undef, putO]
@[go_sem] theorem gdK_ft : gdK P (some (.bool false)) true a b d ⟨n, f, dd, H⟩ Q = Wk P b (putO d n f dd H (some undef)) Q := by simp [gdK, gB, undef, putO]
@[go_sem] theorem gdK_u {w : Bool} : gdK P (some undef) w a b d ⟨n, f, dd, H⟩ Q = Wk P b (putO d n f dd H (some undef)) Q := by cases w <;> simp [gdK, gB, undef, putO]
@[go_sem] theorem brK_t : brK P (some (.bool true)) a b s Q = Wk P a (some s) Q := by simp [brK]
@[go_sem] theorem brK_f : brK P (some (.bool false)) a b s Q = Wk P b (some s) Q := by simp [brK]
@[go_sem ↓] theorem Wk_skip : Wk P (.c .skip :: st) (some ⟨n, f, dd, H⟩) Q = Wk P st (some ⟨n, f, dd, H⟩) Q := by simp only [Wk_some]; rfl
@[go_sem ↓] theorem Wk_seq {a b : IC} : Wk P (.c (.seq a b) :: st) (some ⟨n, f, dd, H⟩) Q = Wk P (.c a :: .c b :: st) (some ⟨n, f, dd, H⟩) Q := by simp only [Wk_some]; rfl
@[go_sem ↓] theorem Wk_reg {l : List IOp} : Wk P (.c (.reg l) :: st) (some ⟨n, f, dd, H⟩) Q = Wk P (.l l :: st) (some ⟨n, f, dd, H⟩) Q := by simp only [Wk_some]; rfl
@[go_sem ↓] theorem Wk_regb {k : Nat} {l : List IOp} : Wk P (.c (.regb k l) :: st) (some ⟨n, f, dd, H⟩) Q = Wk P (.l l :: .x :: st) (some ⟨n, f, dd, bump H k⟩) Q := by simp only [Wk_some]; rfl
@[go_sem ↓] theorem Wk_x : Wk P (.x :: st) (some ⟨n, f, dd, H⟩) Q = Wk P st (some ⟨n, f, dd, H⟩) Q := by simp only [Wk_some]; rfl
@[go_sem ↓] theorem Wk_b {i : Nat} : Wk P (.b i :: st) (some ⟨n, f, dd, H⟩) Q = Wk P st (some ⟨n, f, dd, H⟩) Q := by simp only [Wk_some]; rfl
@[go_sem ↓] theorem Wk_i {J : St → Prop} : Wk P (.i J :: st) (some ⟨n, f, dd, H⟩) Q = J ⟨n, f, dd, H⟩ := by simp only [Wk_some]; rfl
@[go_sem ↓] theorem Wk_block {i : Nat} {b : IC} : Wk P (.c (.block i b) :: st) (some ⟨n, f, dd, H⟩) Q = Wk P (.c b :: .b i :: st) (some ⟨n, f, dd, H⟩) Q := by simp only [Wk_some]; rfl
@[go_sem ↓] theorem Wk_cond {c : Operand} {a b : IC} : Wk P (.c (.cond c a b) :: st) (some ⟨n, f, dd, H⟩) Q = brK P (evF f c) (.c a :: st) (.c b :: st) ⟨n, f, dd, H⟩ Q := by
  simp only [Wk_some, brK]
  show (∃ t, (St.mk n f dd H).ev c = some (.bool t) ∧ if t then _ else _) = _
  rw [ev_mk]
  refine propext (exists_congr fun t => ?_)
  cases t <;> exact Iff.rfl
@[go_sem ↓] theorem Wk_exit {i : Nat} : Wk P (.c (.exit i) :: st) (some ⟨n, f, dd, H⟩) Q = We P (.exit i) st (some ⟨n, f, dd, H⟩) Q := by simp only [Wk_some, We_some]; rfl
@[go_sem ↓] theorem Wk_ret : Wk P (.c .ret :: st) (some ⟨n, f, dd, H⟩) Q = We P .ret st (some ⟨n, f, dd, H⟩) Q := by simp only [Wk_some, We_some]; rfl
@[go_sem ↓] theorem We_exit_l {i : Nat} {l : List IOp} {so : Option St} : We P (.exit i) (.l l :: st) so Q = We P (.exit i) st so Q := rfl
@[go_sem ↓] theorem We_exit_c {i : Nat} {l : IC} {so : Option St} : We P (.exit i) (.c l :: st) so Q = We P (.exit i) st so Q := rfl
@[go_sem ↓] theorem We_exit_i {i : Nat} {J : St → Prop} {so : Option St} : We P (.exit i) (.i J :: st) so Q = We P (.exit i) st so Q := rfl
@[go_sem ↓] theorem We_exit_b {i j : Nat} {so : Option St} : We P (.exit i) (.b j :: st) so Q = if i = j then Wk P st so Q else We P (.exit i) st so Q := by
  unfold We Wk
  by_cases h : i = j
  · rw [if_pos h]
    refine propext (exists_congr fun s => and_congr Iff.rfl ?_)
    show (if i = j then _ else _) ↔ _
    rw [if_pos h]
  · rw [if_neg h]
    refine propext (exists_congr fun s => and_congr Iff.rfl ?_)
    show (if i = j then _ else _) ↔ _
    rw [if_neg h]
@[go_sem ↓] theorem We_ret_l {l : List IOp} {so : Option St} : We P .ret (.l l :: st) so Q = We P .ret st so Q := rfl
@[go_sem ↓] theorem We_ret_c {l : IC} {so : Option St} : We P .ret (.c l :: st) so Q = We P .ret st so Q := rfl
@[go_sem ↓] theorem We_ret_i {J : St → Prop} {so : Option St} : We P .ret (.i J :: st) so Q = We P .ret st so Q := rfl
@[go_sem ↓] theorem We_ret_b {j : Nat} {so : Option St} : We P .ret (.b j :: st) so Q = We P .ret st so Q := rfl
@[go_sem ↓] theorem We_pan_l {v : Value} {l : List IOp} {so : Option St} : We P (.panic v) (.l l :: st) so Q = We P (.panic v) st so Q := rfl
@[go_sem ↓] theorem We_pan_c {v : Value} {l : IC} {so : Option St} : We P (.panic v) (.c l :: st) so Q = We P (.panic v) st so Q := rfl
@[go_sem ↓] theorem We_pan_i {v : Value} {J : St → Prop} {so : Option St} : We P (.panic v) (.i J :: st) so Q = We P (.panic v) st so Q := rfl
@[go_sem ↓] theorem We_pan_b {v : Value} {j : Nat} {so : Option St} : We P (.panic v) (.b j :: st) so Q = We P (.panic v) st so Q := rfl
def panK (P : Program) (v : Option Value) (st : List Fr) (s : St) (Q : Ex → St → Prop) : Prop := ∃ u, v = some u ∧ ∃ w, panicA u = some w ∧ contF P st Q (.panic w) s
@[congr] theorem panK_congr {v v' : Option Value} {s : St} (h : v = v') : panK P v st s Q = panK P v' st s Q := by rw [h]
@[go_sem] theorem panK_some {t : TypeId} {v : Value} : panK P (some (.iface t v)) st s Q = We P (.panic (.iface t v)) st (some s) Q := by
  rw [We_some]
  refine propext ⟨?_, fun h => ⟨_, rfl, _, rfl, h⟩⟩
  rintro ⟨u, hu, w, hw, h⟩
  cases hu; cases hw; exact h
@[go_sem ↓] theorem Wk_panic {x : Operand} : Wk P (.l (.n (.panic x) :: rest) :: st) (some ⟨n, f, dd, H⟩) Q = panK P (evF f x) st ⟨n, f, dd, H⟩ Q := by
  rw [Wk_some]
  show WO P (.panic x) none ⟨n, f, dd, H⟩ (thenN _ _) = _
  refine propext (WO'_panic.trans ?_)
  rw [ev_mk]; exact Iff.rfl
def bkK (P : Program) (d : Option Tmp) (n : Nat) (f : Tr Value) (dd : List Deferred) (st : List Fr) (Q : Ex → St → Prop) : CR → Heap → Prop
  | .ret v, H => Wk P st (putO d n f dd H (some v)) Q
  | .pan v, H => We P (.panic v) st (some ⟨n, f, dd, H⟩) Q
@[go_sem ↓] theorem bkK_ret {d : Option Tmp} {v : Value} : bkK P d n f dd st Q (.ret v) H = Wk P st (putO d n f dd H (some v)) Q := rfl
@[go_sem ↓] theorem bkK_pan {d : Option Tmp} {v : Value} : bkK P d n f dd st Q (.pan v) H = We P (.panic v) st (some ⟨n, f, dd, H⟩) Q := rfl
def callK (P : Program) (g : Option Value) (l : Option (List Value)) (H : Heap) (K : CR → Heap → Prop) : Prop := ∃ u, g = some u ∧ ∃ a, l = some a ∧ ∃ t, targetA u a = some t ∧ CW P t.1 t.2 H K
@[congr] theorem callK_congr {g g' : Option Value} {l l' : Option (List Value)} {K : CR → Heap → Prop} (h : g = g') (h2 : l = l') : callK P g l H K = callK P g' l' H K := by rw [h, h2]
@[congr] theorem CW_congr {g : FuncId} {a a' : Array Value} {K : CR → Heap → Prop} (h : a = a') : CW P g a H K = CW P g a' H K := by rw [h]
@[go_sem] theorem callK_some {g : FuncId} {l : List Value} {a c : Array Value} {K : CR → Heap → Prop} : callK P (some (.func (.func g) a c)) (some l) H K = CW P g (a ++ l.toArray ++ c) H K := by
  refine propext ⟨?_, fun h => ⟨_, rfl, _, rfl, _, rfl, h⟩⟩
  rintro ⟨u, hu, x, hx, t, ht, h⟩
  cases hu; cases hx; cases ht; exact h
theorem call_W {x : Operand} {args : Array Operand} {ts : Array TypeId} {d : Option Tmp} : WO P (.call { callee := .value x, args := args, argTypes := ts }) d ⟨n, f, dd, H⟩ (contF P st Q) =
    callK P (evF f x) (evL f args.toList) H (bkK P d n f dd st Q) := by
  refine propext (WO'_call.trans ?_)
  rw [ev_mk, ev_mk', evL_eq]
  unfold callK
  refine exists_congr fun u => and_congr Iff.rfl (exists_congr fun a => and_congr Iff.rfl (exists_congr fun t => and_congr Iff.rfl ?_))
  have e : ∀ r H', backW d ⟨n, f, dd, H⟩ (contF P st Q) r H' ↔ bkK P d n f dd st Q r H' := by
    intro r H'
    cases r with
    | ret v => simp only [backW_ret, bkK_ret, setH_mk, putO, Option.map_some, Wk_some]
    | pan v => simp only [backW_pan, bkK_pan, setH_mk, We_some]
  exact ⟨fun h => CW_mono P h fun r H' k => (e r H').1 k, fun h => CW_mono P h fun r H' k => (e r H').2 k⟩
@[go_sem ↓] theorem Wk_call {x : Operand} {args : Array Operand} {ts : Array TypeId} {d : Tmp} : Wk P (.l (.o d (.call { callee := .value x, args := args, argTypes := ts }) :: rest) :: st) (some ⟨n, f, dd, H⟩) Q =
    callK P (evF f x) (evL f args.toList) H (bkK P (some d) n f dd (.l rest :: st) Q) := by
  rw [Wk_some, ← call_W (ts := ts)]; rfl
@[go_sem ↓] theorem Wk_calln {x : Operand} {args : Array Operand} {ts : Array TypeId} : Wk P (.l (.n (.call { callee := .value x, args := args, argTypes := ts }) :: rest) :: st) (some ⟨n, f, dd, H⟩) Q =
    callK P (evF f x) (evL f args.toList) H (bkK P none n f dd (.l rest :: st) Q) := by
  rw [Wk_some, ← call_W (ts := ts)]; rfl
theorem contF_mono {Q Q' : Ex → St → Prop} (k : ∀ e s, Q e s → Q' e s) : ∀ (st : List Fr) (e : Ex) (s : St), contF P st Q e s → contF P st Q' e s
  | [], e, s, h => k e s h
  | .l l :: st, e, s, h => by
    cases e with
    | normal => exact WL_mono P l h (contF_mono k st)
    | _ => exact contF_mono k st _ _ h
  | .c c :: st, e, s, h => by
    cases e with
    | normal => exact Wq_mono P c h (contF_mono k st)
    | _ => exact contF_mono k st _ _ h
  | .b i :: st, e, s, h => by
    cases e with
    | exit j =>
      have h : if j = i then _ else _ := h
      show if j = i then _ else _
      split at h
      · rename_i e; rw [if_pos e]; exact contF_mono k st _ _ h
      · rename_i e; rw [if_neg e]; exact contF_mono k st _ _ h
    | _ => exact contF_mono k st _ _ h
  | .i J :: st, e, s, h => by
    cases e with
    | normal => exact h
    | _ => exact contF_mono k st _ _ h
  | .x :: st, e, s, h => by
    cases e with
    | normal => exact contF_mono k st _ _ h
    | _ => exact h
  | .e r0 l A :: st, e, s, h => by
    cases e with
    | normal => exact WE_mono P l h (contF_mono k st .normal)
    | _ => exact h
  | .w r0 l A hist rd :: st, e, s, h => by
    cases e with
    | normal => exact WD_mono P l h (contF_mono k st .normal)
    | _ => exact h
theorem Wk_loop {b : IC} {s : St} (I : Nat → St → Prop) (m : Nat) (h0 : I m s)
    (hs : ∀ m s, I m s → Wk P (.c b :: .i (fun s' => ∃ k, k < m ∧ I k s') :: st) (some s) Q) : Wk P (.c (.loop b) :: st) (some s) Q := by
  rw [Wk_some]
  refine Wq_loop P I m h0 ?_
  intro m s hI
  have := hs m s hI
  rw [Wk_some] at this
  exact this
theorem Wk_cut {fr : Fr} (J : St → Prop) (h : Wk P (fr :: .i J :: st) (some s) Q) (k : ∀ s, J s → Wk P st (some s) Q) : Wk P (fr :: st) (some s) Q := by
  rw [Wk_some] at h ⊢
  have k' : ∀ e s, contF P (.i J :: st) Q e s → contF P st Q e s := by
    intro e s h
    cases e with
    | normal => have := k s h; rw [Wk_some] at this; exact this
    | _ => exact h
  cases fr with
  | l l => exact WL_mono P l h k'
  | c c => exact Wq_mono P c h k'
  | b i => exact k' _ _ h
  | i J => exact h
  | x => exact k' .normal _ h
  | e r0 l A => exact WE_mono P l h (k' .normal)
  | w r0 l A hist rd => exact WD_mono P l h (k' .normal)
theorem CW_k {g : FuncId} {k : Nat} {c : IC} {res : List ResultVar} (hf : ifn P g = some ⟨k, c, res⟩) {args : Array Value} {n : Nat} (hn : Nat.max k args.size = n) {Q : CR → Heap → Prop}
    (h : Wk P [.c c] (some ⟨n, ofArgs 0 args.toList, [], H⟩) (retW P res Q)) : CW P g args H Q := by
  subst hn
  refine CW_of P hf ?_
  rw [Wk_some] at h
  exact Wq_mono P c h (fun e s h => by cases e <;> exact h)
def resO (P : Program) (res : List ResultVar) (f : Tr Value) (H : Heap) : Option Value := resW P res ⟨0, f, [], H⟩
def retK (Q : CR → Heap → Prop) (H : Heap) (v : Option Value) : Prop := ∃ u, v = some u ∧ Q (.ret u) H
@[congr] theorem retK_congr {Q : CR → Heap → Prop} {v v' : Option Value} (h : v = v') : retK Q H v = retK Q H v' := by rw [h]
theorem retK_some {Q : CR → Heap → Prop} {v : Value} : retK Q H (some v) = Q (.ret v) H := propext ⟨fun ⟨_, h, k⟩ => by cases h; exact k, fun h => ⟨v, rfl, h⟩⟩
@[go_sem ↓] theorem Wk_end {res : List ResultVar} {Q : CR → Heap → Prop} : Wk P [] (some ⟨n, f, [], H⟩) (retW P res Q) = retK Q H (resO P res f H) := by
  rw [Wk_some]; exact propext ⟨fun h => h.2, fun h => ⟨rfl, h⟩⟩
@[go_sem ↓] theorem We_end {res : List ResultVar} {Q : CR → Heap → Prop} : We P .ret [] (some ⟨n, f, [], H⟩) (retW P res Q) = retK Q H (resO P res f H) := by
  rw [We_some]; exact propext ⟨fun h => h.2, fun h => ⟨rfl, h⟩⟩
@[go_sem ↓] theorem We_endp {v : Value} {res : List ResultVar} {Q : CR → Heap → Prop} : We P (.panic v) [] (some ⟨n, f, [], H⟩) (retW P res Q) = Q (.pan v) H := by
  rw [We_some]; exact propext ⟨fun h => h.2, fun h => ⟨rfl, h⟩⟩
@[go_sem] theorem resO_nil : resO P [] f H = some (.tuple #[]) := rfl
@[go_sem] theorem resO_t1 {t : Tmp} : resO P [.tmp t] f H = some ((f.get t).getD undef) := rfl
def tup2 (a b : Option Value) : Option Value := a.bind fun a => b.map fun b => .tuple #[a, b]
def tup3 (a b c : Option Value) : Option Value := a.bind fun a => b.bind fun b => c.map fun c => .tuple #[a, b, c]
@[go_sem] theorem tup2_some {a b : Value} : tup2 (some a) (some b) = some (.tuple #[a, b]) := rfl
@[go_sem] theorem tup3_some {a b c : Value} : tup3 (some a) (some b) (some c) = some (.tuple #[a, b, c]) := rfl
def resV (P : Program) (f : Tr Value) (H : Heap) : ResultVar → Option Value
  | .tmp t => some ((f.get t).getD undef)
  | .cell t ty => loadA P H ty ((f.get t).getD undef)
@[go_sem] theorem resV_t {t : Tmp} : resV P f H (.tmp t) = some ((f.get t).getD undef) := rfl
@[go_sem] theorem resV_c {t : Tmp} {ty : TypeId} : resV P f H (.cell t ty) = loadA P H ty ((f.get t).getD undef) := rfl
theorem resA_eq (x : ResultVar) : resultA P ⟨0, f, [], H⟩ x = resV P f H x := by cases x <;> rfl
@[go_sem] theorem resO_c1 {t : Tmp} {ty : TypeId} : resO P [.cell t ty] f H = loadA P H ty ((f.get t).getD undef) := by
  unfold resO resW
  rw [mapM_cons', mapM_nil', resA_eq, resV_c]
  cases loadA P H ty ((f.get t).getD undef) <;> rfl
@[go_sem] theorem resO_2 {x y : ResultVar} : resO P [x, y] f H = tup2 (resV P f H x) (resV P f H y) := by
  unfold resO resW
  rw [mapM_cons', mapM_cons', mapM_nil', resA_eq, resA_eq]
  cases resV P f H x with
  | none => rfl
  | some u => cases resV P f H y <;> rfl
@[go_sem] theorem resO_3 {x y z : ResultVar} : resO P [x, y, z] f H = tup3 (resV P f H x) (resV P f H y) (resV P f H z) := by
  unfold resO resW
  rw [mapM_cons', mapM_cons', mapM_cons', mapM_nil', resA_eq, resA_eq, resA_eq]
  cases resV P f H x with
  | none => rfl
  | some u => cases resV P f H y with
    | none => rfl
    | some v => cases resV P f H z <;> rfl
end
section
variable {st : List Fr} {Q : Ex → St → Prop} {n : Nat} {f : Tr Value} {dd : List Deferred} {H : Heap} {r0 : Nat} {l : List DOp} {A : List (Nat × Blk)} {hist : List (Nat × Heap)} {rd : List RdE}
def selA (vis : List Nat) : List (Nat × Blk) → List (Nat × Blk)
  | [] => []
  | p :: A => if vis.contains p.1 then p :: selA vis A else selA vis A
def dropA (vis : List Nat) : List (Nat × Blk) → List (Nat × Blk)
  | [] => []
  | p :: A => if vis.contains p.1 then dropA vis A else p :: dropA vis A
theorem selA_eq (vis : List Nat) (A : List (Nat × Blk)) : (A.filter fun p => vis.contains p.1) = selA vis A := by
  induction A with
  | nil => rfl
  | cons p A ih => simp only [List.filter_cons, selA, ih]
theorem dropA_eq (vis : List Nat) (A : List (Nat × Blk)) : (A.filter fun p => !vis.contains p.1) = dropA vis A := by
  induction A with
  | nil => rfl
  | cons p A ih =>
    simp only [List.filter_cons, dropA, ih]
    cases vis.contains p.1 <;> rfl
def allocB (P : Program) (f : Tr Value) : Op → Option ((Nat → Value) × Blk)
  | .alloc t => (zeroA P t).map fun z => (fun b => .pointer (some ⟨b, 0, none⟩), ⟨t, 0, false, z.cells.toList⟩)
  | .box t x => (evF f x).map fun z => (fun b => .pointer (some ⟨b, 0, none⟩), ⟨t, 0, false, z.cells.toList⟩)
  | .buildSlice t k parts => bslO P t k (evPs f parts.toList)
  | .makeSlice t a b => mkslO P t (evF f a) (evF f b)
  | _ => none
theorem allocB_eq {op : Op} : allocA P op (St.mk n f dd H).ev = allocB P f op := by
  cases op with
  | alloc t => simp only [allocA, allocB]; cases zeroA P t <;> rfl
  | box t x => simp only [allocA, allocB, ev_mk]; cases evF f x <;> rfl
  | buildSlice t k p =>
    simp only [allocA, allocB, bslO, ev_mk]
    rw [← evPs_eq]
    rfl
  | makeSlice t a b =>
    simp only [allocA, allocB, mkslO, ev_mk]
    rfl
  | _ => rfl
def aK (P : Program) (r : Option ((Nat → Value) × Blk)) (r0 i : Nat) (d : Option Tmp) (l : List DOp) (A : List (Nat × Blk)) (st : List Fr) (n : Nat) (f : Tr Value) (dd : List Deferred) (H : Heap) (Q : Ex → St → Prop) : Prop :=
  ∃ u, r = some u ∧ Wk P (.e r0 l (A ++ [(i, u.2)]) :: st) (putO d n f dd H (some (u.1 (r0 + i)))) Q
def wK (P : Program) (r : Option ((Nat → Value) × Blk)) (r0 i : Nat) (d : Option Tmp) (l : List DOp) (A : List (Nat × Blk)) (hist : List (Nat × Heap)) (rd : List RdE) (st : List Fr) (n : Nat) (f : Tr Value) (dd : List Deferred) (H : Heap) (Q : Ex → St → Prop) : Prop :=
  ∃ u, r = some u ∧ Wk P (.w r0 l (A ++ [(i, u.2)]) hist rd :: st) (putO d n f dd H (some (u.1 (r0 + i)))) Q
@[congr] theorem aK_congr {r r' : Option ((Nat → Value) × Blk)} {i : Nat} {d : Option Tmp} (h : r = r') : aK P r r0 i d l A st n f dd H Q = aK P r' r0 i d l A st n f dd H Q := by rw [h]
@[congr] theorem wK_congr {r r' : Option ((Nat → Value) × Blk)} {i : Nat} {d : Option Tmp} (h : r = r') : wK P r r0 i d l A hist rd st n f dd H Q = wK P r' r0 i d l A hist rd st n f dd H Q := by rw [h]
@[go_sem] theorem aK_some {u : (Nat → Value) × Blk} {i : Nat} {d : Option Tmp} : aK P (some u) r0 i d l A st n f dd H Q = Wk P (.e r0 l (A ++ [(i, u.2)]) :: st) (putO d n f dd H (some (u.1 (r0 + i)))) Q :=
  propext ⟨fun ⟨_, h, k⟩ => by cases h; exact k, fun h => ⟨u, rfl, h⟩⟩
@[go_sem] theorem wK_some {u : (Nat → Value) × Blk} {i : Nat} {d : Option Tmp} : wK P (some u) r0 i d l A hist rd st n f dd H Q = Wk P (.w r0 l (A ++ [(i, u.2)]) hist rd :: st) (putO d n f dd H (some (u.1 (r0 + i)))) Q :=
  propext ⟨fun ⟨_, h, k⟩ => by cases h; exact k, fun h => ⟨u, rfl, h⟩⟩
@[go_sem ↓] theorem Wk_drl {k : Nat} {l : List DOp} : Wk P (.c (.drl k l) :: st) (some ⟨n, f, dd, H⟩) Q = Wk P (.e H.next l [] :: st) (some ⟨n, f, dd, bump H k⟩) Q := by simp only [Wk_some]; rfl
@[go_sem ↓] theorem Wk_drw {k : Nat} {l : List DOp} : Wk P (.c (.drw k l) :: st) (some ⟨n, f, dd, H⟩) Q = Wk P (.w H.next l [] [] [] :: st) (some ⟨n, f, dd, bump H k⟩) Q := by simp only [Wk_some]; rfl
@[go_sem ↓] theorem Wk_e_nil : Wk P (.e r0 [] A :: st) (some ⟨n, f, dd, H⟩) Q = Wk P st (some ⟨n, f, dd, layA r0 H A⟩) Q := by simp only [Wk_some]; rfl
@[go_sem ↓] theorem Wk_w_nil : Wk P (.w r0 [] A hist rd :: st) (some ⟨n, f, dd, H⟩) Q = Wk P st (some ⟨n, f, dd, layA r0 H A⟩) Q := by simp only [Wk_some]; rfl
@[go_sem ↓] theorem Wk_e_q {d : Option Tmp} {op : Op} (h : simpleOp op = true) : Wk P (.e r0 (⟨none, d, op, .q⟩ :: l) A :: st) (some ⟨n, f, dd, H⟩) Q = Wk P (.e r0 l A :: st) (stepS P op d ⟨n, f, dd, H⟩) Q := by
  rw [Wk_some]; exact simple_Wk h
@[go_sem ↓] theorem Wk_w_q {d : Option Tmp} {op : Op} (h : simpleOp op = true) : Wk P (.w r0 (⟨none, d, op, .q⟩ :: l) A hist rd :: st) (some ⟨n, f, dd, H⟩) Q = Wk P (.w r0 l A hist rd :: st) (stepS P op d ⟨n, f, dd, H⟩) Q := by
  rw [Wk_some]; exact simple_Wk h
@[go_sem ↓] theorem Wk_e_a {d : Option Tmp} {op : Op} {i : Nat} : Wk P (.e r0 (⟨none, d, op, .a i⟩ :: l) A :: st) (some ⟨n, f, dd, H⟩) Q = aK P (allocB P f op) r0 i d l A st n f dd H Q := by
  rw [Wk_some]
  show (∃ r, allocA P op (St.mk n f dd H).ev = some r ∧ WE P r0 l ((St.mk n f dd H).put d (r.1 (r0 + i))) (A ++ [(i, r.2)]) (contF P st Q .normal)) = _
  rw [allocB_eq]
  refine propext (exists_congr fun r => and_congr Iff.rfl ?_)
  rw [putO, Option.map_some, Wk_some]; rfl
@[go_sem ↓] theorem Wk_w_a {d : Option Tmp} {op : Op} {i : Nat} : Wk P (.w r0 (⟨none, d, op, .a i⟩ :: l) A hist rd :: st) (some ⟨n, f, dd, H⟩) Q = wK P (allocB P f op) r0 i d l A hist rd st n f dd H Q := by
  rw [Wk_some]
  show (∃ r, allocA P op (St.mk n f dd H).ev = some r ∧ WD P r0 l { s := (St.mk n f dd H).put d (r.1 (r0 + i)), A := A ++ [(i, r.2)], hist := hist, rd := rd } (contF P st Q .normal)) = _
  rw [allocB_eq]
  refine propext (exists_congr fun r => and_congr Iff.rfl ?_)
  rw [putO, Option.map_some, Wk_some]; rfl
def rdO (P : Program) (f : Tr Value) (H : Heap) : Op → Option Value
  | .load t x => loadO P H t (evF f x)
  | .slice t x lo hi mx => sliceO P H t (evF f x) (evO f lo) (evO f hi) (evO f mx)
  | _ => none
def rdOp : Op → Bool
  | .load _ _ | .slice _ _ _ _ _ => true
  | _ => false
theorem RD_eq {op : Op} (h : rdOp op = true) {v : Value} {H0 : Heap} : RD P op ⟨n, f, dd, H0⟩ H v = (rdO P f H op = some v) := by
  unfold RD
  cases op with
  | load t x =>
    simp only [opA, isAlloc, Bool.false_eq_true, if_false, ev_mk, rdO, loadO]
    cases evF f x with
    | none => simp
    | some u =>
      refine propext ?_
      show (∃ H', (do let v ← loadA P H t u; some (R.val v, H)) = some (R.val v, H')) ↔ _
      simp only [Option.bind_some]
      cases loadA P H t u <;> simp
  | slice t x lo hi mx =>
    simp only [opA, isAlloc, Bool.false_eq_true, if_false, ev_mk', rdO, sliceO, evO_eq]
    refine propext ?_
    cases evF f x with
    | none => simp
    | some u =>
      cases evO f lo with
      | none => simp
      | some a => cases evO f hi with
        | none => simp
        | some b => cases evO f mx with
          | none => simp
          | some c =>
            show (∃ H', (do let v ← sliceA P H t u a b c; some (R.val v, H)) = some (R.val v, H')) ↔ _
            simp only [Option.bind_some]
            cases sliceA P H t u a b c <;> simp
  | _ => cases h
@[go_sem ↓] theorem Wk_e_r {d : Option Tmp} {op : Op} {i : Nat} {sees nb : List Nat} (h : rdOp op = true) : Wk P (.e r0 (⟨none, d, op, .r i sees nb⟩ :: l) A :: st) (some ⟨n, f, dd, H⟩) Q =
    Wk P (.e r0 l A :: st) (putO d n f dd H (rdO P f (layA r0 H (selA sees A)) op)) Q := by
  rw [Wk_some]
  show (∃ v, RD P op ⟨n, f, dd, H⟩ (layA r0 H (A.filter fun p => sees.contains p.1)) v ∧ WE P r0 l ((St.mk n f dd H).put d v) A (contF P st Q .normal)) = _
  simp only [RD_eq h, selA_eq]
  refine propext ?_
  unfold Wk
  cases rdO P f (layA r0 H (selA sees A)) op with
  | none => simp [putO]
  | some v => simp only [putO, Option.map_some, Option.some.injEq, exists_eq_left']; exact Iff.rfl
def wrK (P : Program) (v : Option Value) (r0 i : Nat) (sees nb : List Nat) (op : Op) (d : Option Tmp) (l : List DOp) (A : List (Nat × Blk)) (hist : List (Nat × Heap)) (rd : List RdE) (st : List Fr) (n : Nat) (f : Tr Value) (dd : List Deferred) (H : Heap) (Q : Ex → St → Prop) : Prop :=
  ∃ u, v = some u ∧ (∀ h ∈ hist.takeWhile fun h => nb.contains h.1, rdO P f (layA r0 h.2 (selA sees A)) op = some u) ∧ Wk P (.w r0 l A hist (⟨i, op, ⟨n, f, dd, H⟩, u, sees⟩ :: rd) :: st) (putO d n f dd H (some u)) Q
@[congr] theorem wrK_congr {v v' : Option Value} {i : Nat} {sees nb : List Nat} {op : Op} {d : Option Tmp} (h : v = v') : wrK P v r0 i sees nb op d l A hist rd st n f dd H Q = wrK P v' r0 i sees nb op d l A hist rd st n f dd H Q := by rw [h]
@[go_sem ↓] theorem Wk_w_r {d : Option Tmp} {op : Op} {i : Nat} {sees nb : List Nat} (h : rdOp op = true) : Wk P (.w r0 (⟨none, d, op, .r i sees nb⟩ :: l) A hist rd :: st) (some ⟨n, f, dd, H⟩) Q =
    wrK P (rdO P f (layA r0 H (selA sees A)) op) r0 i sees nb op d l A hist rd st n f dd H Q := by
  rw [Wk_some]
  show (∃ v, RD P op ⟨n, f, dd, H⟩ (layA r0 H (A.filter fun p => sees.contains p.1)) v ∧
      (∀ h ∈ hist.takeWhile fun h => nb.contains h.1, RD P op ⟨n, f, dd, H⟩ (layA r0 h.2 (A.filter fun p => sees.contains p.1)) v) ∧
      WD P r0 l { s := (St.mk n f dd H).put d v, A := A, hist := hist, rd := ⟨i, op, ⟨n, f, dd, H⟩, v, sees⟩ :: rd } (contF P st Q .normal)) = _
  simp only [RD_eq h, selA_eq]
  unfold wrK
  refine propext (exists_congr fun v => and_congr Iff.rfl (and_congr Iff.rfl ?_))
  rw [putO, Option.map_some, Wk_some]; rfl
@[go_sem] theorem wrK_nil {v : Value} {i : Nat} {sees nb : List Nat} {op : Op} {d : Option Tmp} : wrK P (some v) r0 i sees nb op d l A [] rd st n f dd H Q =
    Wk P (.w r0 l A [] (⟨i, op, ⟨n, f, dd, H⟩, v, sees⟩ :: rd) :: st) (putO d n f dd H (some v)) Q := by
  refine propext ⟨?_, fun h => ⟨v, rfl, by simp, h⟩⟩
  rintro ⟨u, h, _, k⟩; cases h; exact k
@[go_sem ↓] theorem Wk_e_c {d : Option Tmp} {op : Op} {i : Nat} {vis re : List Nat} (h : simpleOp op = true) : Wk P (.e r0 (⟨none, d, op, .c i vis re⟩ :: l) A :: st) (some ⟨n, f, dd, H⟩) Q =
    Wk P (.e r0 l (dropA vis A) :: st) (stepS P op d ⟨n, f, dd, layA r0 H (selA vis A)⟩) Q := by
  rw [Wk_some]
  show WO P op d (setH ⟨n, f, dd, H⟩ (layA r0 H (A.filter fun p => vis.contains p.1))) (thenN (fun s => WE P r0 l s (A.filter fun p => !vis.contains p.1) (contF P st Q .normal)) noEx) = _
  rw [selA_eq, dropA_eq, setH_mk, simple_Wk h]
  rfl
def reK (P : Program) (r0 : Nat) (H : Heap) (A : List (Nat × Blk)) (re : List Nat) : List RdE → Prop
  | [] => True
  | e :: rd => (re.contains e.k = true → rdO P e.s.f (layA r0 H (selA e.sees A)) e.op = some e.v) ∧ reK P r0 H A re rd
theorem reK_of {A : List (Nat × Blk)} {re : List Nat} : ∀ (rd : List RdE), (∀ e ∈ rd, rdOp e.op = true) → reK P r0 H A re rd → ∀ e ∈ rd.filter fun e => re.contains e.k, RD P e.op e.s (layA r0 H (A.filter fun p => e.sees.contains p.1)) e.v
  | [], _, _ => by simp
  | e :: rd, hr, h => by
    intro x hx
    rw [List.mem_filter, List.mem_cons] at hx
    obtain ⟨hx, hc⟩ := hx
    rcases hx with rfl | hx
    · have := h.1 hc
      obtain ⟨k, op, s, v, sees⟩ := x
      obtain ⟨n, f, dd, H0⟩ := s
      rw [RD_eq (hr _ (by simp)), selA_eq]
      exact this
    · exact reK_of rd (fun e he => hr e (by simp [he])) h.2 x (by rw [List.mem_filter]; exact ⟨hx, hc⟩)
def allRd : List RdE → Bool
  | [] => true
  | e :: rd => rdOp e.op && allRd rd
theorem allRd_of : ∀ {rd : List RdE}, allRd rd = true → ∀ e ∈ rd, rdOp e.op = true
  | [], _ => by simp
  | e :: rd, h => by
    simp only [allRd, Bool.and_eq_true] at h
    intro x hx
    rcases List.mem_cons.1 hx with rfl | hx
    · exact h.1
    · exact allRd_of h.2 x hx
def cK (P : Program) (so : Option St) (r0 i : Nat) (re : List Nat) (l : List DOp) (A : List (Nat × Blk)) (H0 : Heap) (hist : List (Nat × Heap)) (rd : List RdE) (st : List Fr) (Q : Ex → St → Prop) : Prop :=
  ∃ s, so = some s ∧ reK P r0 s.H A re rd ∧ Wk P (.w r0 l A ((i, H0) :: hist) rd :: st) (some s) Q
@[congr] theorem cK_congr {so so' : Option St} {i : Nat} {re : List Nat} {H0 : Heap} (h : so = so') : cK P so r0 i re l A H0 hist rd st Q = cK P so' r0 i re l A H0 hist rd st Q := by rw [h]
theorem Wk_w_c {d : Option Tmp} {op : Op} {i : Nat} {vis re : List Nat} (h : simpleOp op = true) (hr : allRd rd = true)
    (k : cK P (stepS P op d ⟨n, f, dd, layA r0 H (selA vis A)⟩) r0 i re l (dropA vis A) H hist rd st Q) : Wk P (.w r0 (⟨none, d, op, .c i vis re⟩ :: l) A hist rd :: st) (some ⟨n, f, dd, H⟩) Q := by
  rw [Wk_some]
  show WO P op d (setH ⟨n, f, dd, H⟩ (layA r0 H (A.filter fun p => vis.contains p.1))) (thenN (fun s =>
      (∀ e ∈ rd.filter fun e => re.contains e.k, RD P e.op e.s (layA r0 s.H ((A.filter fun p => !vis.contains p.1).filter fun p => e.sees.contains p.1)) e.v) ∧
      WD P r0 l { s := s, A := A.filter fun p => !vis.contains p.1, hist := (i, H) :: hist, rd := rd } (contF P st Q .normal)) noEx)
  rw [selA_eq, dropA_eq, setH_mk, simple_Wk h]
  obtain ⟨s, hs, h1, h2⟩ := k
  refine ⟨s, hs, reK_of rd (allRd_of hr) h1, ?_⟩
  rw [Wk_some] at h2
  exact h2
theorem cK_some {s : St} {i : Nat} {re : List Nat} {H0 : Heap} (h1 : reK P r0 s.H A re rd) (h2 : Wk P (.w r0 l A ((i, H0) :: hist) rd :: st) (some s) Q) : cK P (some s) r0 i re l A H0 hist rd st Q := ⟨s, rfl, h1, h2⟩
@[go_sem] theorem cK_nil {s : St} {i : Nat} {H0 : Heap} : cK P (some s) r0 i [] l A H0 hist rd st Q = Wk P (.w r0 l A ((i, H0) :: hist) rd :: st) (some s) Q := by
  refine propext ⟨fun ⟨_, h, _, k⟩ => by cases h; exact k, fun h => ⟨s, rfl, ?_, h⟩⟩
  clear h
  induction rd with
  | nil => exact trivial
  | cons e rd ih => exact ⟨by simp, ih⟩
end
end
end Go.Am
namespace Go.Am
section
variable {P : Program} {d : Option Tmp} {n : Nat} {f : Tr Value} {dd : List Deferred} {H : Heap}
@[go_sem] theorem t_move {x : Operand} : stepS P (.move x) d ⟨n, f, dd, H⟩ = putO d n f dd H (evF f x) := stepS_of s_move
@[go_sem] theorem t_assign {x : Operand} : stepS P (.assign x) d ⟨n, f, dd, H⟩ = putO d n f dd H (evF f x) := stepS_of s_assign
@[go_sem] theorem t_pick {c x y : Operand} : stepS P (.pick c x y) d ⟨n, f, dd, H⟩ = putO d n f dd H (pickO (evF f c) (evF f x) (evF f y)) := stepS_of s_pick
@[go_sem] theorem t_nil {x : Operand} : stepS P (.nilCheck x) d ⟨n, f, dd, H⟩ = putO d n f dd H (nilO (evF f x)) := stepS_of s_nil
@[go_sem] theorem t_load {t : TypeId} {x : Operand} : stepS P (.load t x) d ⟨n, f, dd, H⟩ = putO d n f dd H (loadO P H t (evF f x)) := stepS_of s_load
@[go_sem] theorem t_bin {op : BinOp} {t u : TypeId} {x y : Operand} : stepS P (.binOp op t x y u) d ⟨n, f, dd, H⟩ = putO d n f dd H (binO P op t x y (evF f x) (evF f y)) := stepS_of s_bin
@[go_sem] theorem t_un {op : UnOp} {t : TypeId} {x : Operand} : stepS P (.unOp op t x) d ⟨n, f, dd, H⟩ = putO d n f dd H (unO op (evF f x)) := stepS_of s_un
@[go_sem] theorem t_conv {a b : TypeId} {x : Operand} : stepS P (.convert a b x) d ⟨n, f, dd, H⟩ = putO d n f dd H (convO P a b (evF f x)) := stepS_of s_conv
@[go_sem] theorem t_iface {t : TypeId} {x : Operand} : stepS P (.makeInterface t x) d ⟨n, f, dd, H⟩ = putO d n f dd H (ifaceO P t (evF f x)) := stepS_of s_iface
@[go_sem] theorem t_fieldAddr {t : TypeId} {x : Operand} {i : Nat} : stepS P (.fieldAddr t x i) d ⟨n, f, dd, H⟩ = putO d n f dd H (fieldAO P t i (evF f x)) := stepS_of s_fieldAddr
@[go_sem] theorem t_field {t : TypeId} {x : Operand} {i : Nat} : stepS P (.field t x i) d ⟨n, f, dd, H⟩ = putO d n f dd H (fieldO P t i (evF f x)) := stepS_of s_field
@[go_sem] theorem t_ext {x : Operand} {i : Nat} : stepS P (.extract x i) d ⟨n, f, dd, H⟩ = putO d n f dd H (extO i (evF f x)) := stepS_of s_ext
@[go_sem] theorem t_assert {x : Operand} {a b : TypeId} {k : Bool} : stepS P (.typeAssert x a b k) d ⟨n, f, dd, H⟩ = putO d n f dd H (assertO P b k (evF f x)) := stepS_of s_assert
@[go_sem] theorem t_indexAddr {t : TypeId} {x y : Operand} : stepS P (.indexAddr t x y) d ⟨n, f, dd, H⟩ = putO d n f dd H (indexAO P t (evF f x) (evF f y)) := stepS_of s_indexAddr
@[go_sem] theorem t_index {t : TypeId} {x y : Operand} : stepS P (.index t x y) d ⟨n, f, dd, H⟩ = putO d n f dd H (indexO P t (evF f x) (evF f y)) := stepS_of s_index
@[go_sem] theorem t_func {g : Fn} {a b : Array Operand} : stepS P (.makeFunc g a b) d ⟨n, f, dd, H⟩ = putO d n f dd H (funcO g (evL f a.toList) (evL f b.toList)) := stepS_of s_func
@[go_sem] theorem t_slice {t : TypeId} {x : Operand} {lo hi mx : Option Operand} : stepS P (.slice t x lo hi mx) d ⟨n, f, dd, H⟩ = putO d n f dd H (sliceO P H t (evF f x) (evO f lo) (evO f hi) (evO f mx)) := stepS_of s_slice
@[go_sem] theorem t_store {t : TypeId} {x y : Operand} : stepS P (.store t x y) d ⟨n, f, dd, H⟩ = putH d n f dd (storeO P H t (evF f x) (evF f y)) := stepS_of s_store
@[go_sem] theorem t_builtin {b : Builtin} {args : Array Operand} {ts : Array TypeId} : stepS P (.call { callee := .builtin b, args := args, argTypes := ts }) d ⟨n, f, dd, H⟩ = putVH d n f dd (biO P b ts H (evL f args.toList)) := stepS_of s_builtin
@[go_sem] theorem t_alloc {t : TypeId} : stepS P (.alloc t) d ⟨n, f, dd, H⟩ = putA t d n f dd H (zeroA P t) := stepS_of s_alloc
@[go_sem] theorem t_box {t : TypeId} {x : Operand} : stepS P (.box t x) d ⟨n, f, dd, H⟩ = putA t d n f dd H (evF f x) := stepS_of s_box
@[go_sem] theorem t_build {t : TypeId} {parts : Array (Nat × Operand)} : stepS P (.build t parts) d ⟨n, f, dd, H⟩ = putO d n f dd H (buildO P t (evPs f parts.toList)) := stepS_of s_build
@[go_sem] theorem t_buildSlice {t : TypeId} {k : Nat} {parts : Array (Nat × Operand)} : stepS P (.buildSlice t k parts) d ⟨n, f, dd, H⟩ = putB d n f dd H (bslO P t k (evPs f parts.toList)) := stepS_of s_buildSlice
@[go_sem] theorem t_makeSlice {t : TypeId} {l c : Operand} : stepS P (.makeSlice t l c) d ⟨n, f, dd, H⟩ = putB d n f dd H (mkslO P t (evF f l) (evF f c)) := stepS_of s_makeSlice
@[go_sem] theorem t_defer {x : Operand} {args : Array Operand} {ts : Array TypeId} : stepS P (.defer { callee := .value x, args := args, argTypes := ts }) d ⟨n, f, dd, H⟩ = putD d n f dd H (defO (evF f x) (evL f args.toList)) := stepS_of s_defer
section
@[go_sem] theorem y_move {x : Operand} : simpleOp (.move x) = true := of_decide_eq_true rfl
@[go_sem] theorem y_assign {x : Operand} : simpleOp (.assign x) = true := of_decide_eq_true rfl
@[go_sem] theorem y_pick {c x y : Operand} : simpleOp (.pick c x y) = true := of_decide_eq_true rfl
@[go_sem] theorem y_nil {x : Operand} : simpleOp (.nilCheck x) = true := of_decide_eq_true rfl
@[go_sem] theorem y_load {t : TypeId} {x : Operand} : simpleOp (.load t x) = true := of_decide_eq_true rfl
@[go_sem] theorem y_bin {op : BinOp} {t u : TypeId} {x y : Operand} : simpleOp (.binOp op t x y u) = true := of_decide_eq_true rfl
@[go_sem] theorem y_un {op : UnOp} {t : TypeId} {x : Operand} : simpleOp (.unOp op t x) = true := of_decide_eq_true rfl
@[go_sem] theorem y_conv {a b : TypeId} {x : Operand} : simpleOp (.convert a b x) = true := of_decide_eq_true rfl
@[go_sem] theorem y_iface {t : TypeId} {x : Operand} : simpleOp (.makeInterface t x) = true := of_decide_eq_true rfl
@[go_sem] theorem y_fieldAddr {t : TypeId} {x : Operand} {i : Nat} : simpleOp (.fieldAddr t x i) = true := of_decide_eq_true rfl
@[go_sem] theorem y_field {t : TypeId} {x : Operand} {i : Nat} : simpleOp (.field t x i) = true := of_decide_eq_true rfl
@[go_sem] theorem y_ext {x : Operand} {i : Nat} : simpleOp (.extract x i) = true := of_decide_eq_true rfl
@[go_sem] theorem y_assert {x : Operand} {a b : TypeId} {k : Bool} : simpleOp (.typeAssert x a b k) = true := of_decide_eq_true rfl
@[go_sem] theorem y_indexAddr {t : TypeId} {x y : Operand} : simpleOp (.indexAddr t x y) = true := of_decide_eq_true rfl
@[go_sem] theorem y_index {t : TypeId} {x y : Operand} : simpleOp (.index t x y) = true := of_decide_eq_true rfl
@[go_sem] theorem y_func {g : Fn} {a b : Array Operand} : simpleOp (.makeFunc g a b) = true := of_decide_eq_true rfl
@[go_sem] theorem y_slice {t : TypeId} {x : Operand} {lo hi mx : Option Operand} : simpleOp (.slice t x lo hi mx) = true := of_decide_eq_true rfl
@[go_sem] theorem y_store {t : TypeId} {x y : Operand} : simpleOp (.store t x y) = true := of_decide_eq_true rfl
@[go_sem] theorem y_builtin {b : Builtin} {args : Array Operand} {ts : Array TypeId} : simpleOp (.call { callee := .builtin b, args := args, argTypes := ts }) = true := of_decide_eq_true rfl
@[go_sem] theorem y_alloc {t : TypeId} : simpleOp (.alloc t) = true := of_decide_eq_true rfl
@[go_sem] theorem y_box {t : TypeId} {x : Operand} : simpleOp (.box t x) = true := of_decide_eq_true rfl
@[go_sem] theorem y_build {t : TypeId} {parts : Array (Nat × Operand)} : simpleOp (.build t parts) = true := of_decide_eq_true rfl
@[go_sem] theorem y_buildSlice {t : TypeId} {k : Nat} {parts : Array (Nat × Operand)} : simpleOp (.buildSlice t k parts) = true := of_decide_eq_true rfl
@[go_sem] theorem y_makeSlice {t : TypeId} {l c : Operand} : simpleOp (.makeSlice t l c) = true := of_decide_eq_true rfl
@[go_sem] theorem y_defer {x : Operand} {args : Array Operand} {ts : Array TypeId} : simpleOp (.defer { callee := .value x, args := args, argTypes := ts }) = true := of_decide_eq_true rfl
@[go_sem] theorem y_panic {x : Operand} : simpleOp (.panic x) = false := of_decide_eq_true rfl
@[go_sem] theorem y_call {x : Operand} {args : Array Operand} {ts : Array TypeId} : simpleOp (.call { callee := .value x, args := args, argTypes := ts }) = false := of_decide_eq_true rfl
@[go_sem] theorem y_rload {t : TypeId} {x : Operand} : rdOp (.load t x) = true := of_decide_eq_true rfl
@[go_sem] theorem y_rslice {t : TypeId} {x : Operand} {lo hi mx : Option Operand} : rdOp (.slice t x lo hi mx) = true := of_decide_eq_true rfl
@[go_sem] theorem y_rdload {t : TypeId} {x : Operand} : rdO P f H (.load t x) = loadO P H t (evF f x) := rfl
@[go_sem] theorem y_rdslice {t : TypeId} {x : Operand} {lo hi mx : Option Operand} : rdO P f H (.slice t x lo hi mx) = sliceO P H t (evF f x) (evO f lo) (evO f hi) (evO f mx) := rfl
@[go_sem] theorem y_ab_alloc {t : TypeId} : allocB P f (.alloc t) = (zeroA P t).map fun z => (fun b => .pointer (some ⟨b, 0, none⟩), ⟨t, 0, false, z.cells.toList⟩) := rfl
@[go_sem] theorem y_ab_box {t : TypeId} {x : Operand} : allocB P f (.box t x) = (evF f x).map fun z => (fun b => .pointer (some ⟨b, 0, none⟩), ⟨t, 0, false, z.cells.toList⟩) := rfl
@[go_sem] theorem y_ab_bs {t : TypeId} {k : Nat} {parts : Array (Nat × Operand)} : allocB P f (.buildSlice t k parts) = bslO P t k (evPs f parts.toList) := rfl
@[go_sem] theorem y_ab_ms {t : TypeId} {a b : Operand} : allocB P f (.makeSlice t a b) = mkslO P t (evF f a) (evF f b) := rfl
end
section
variable {v w : Value}
@[go_sem] theorem putO_d {d : Tmp} : putO (some d) n f dd H (some v) = some ⟨n, if d < n then f.put d (some v) else f, dd, H⟩ := by
  simp only [putO, Option.map_some, put_mk]; split <;> rfl
@[go_sem] theorem putO_n : putO none n f dd H (some v) = some ⟨n, f, dd, H⟩ := rfl
@[go_sem] theorem putH_d {d : Tmp} : putH (some d) n f dd (some H) = some ⟨n, if d < n then f.put d (some undef) else f, dd, H⟩ := by
  simp only [putH, Option.map_some, put_mk]; split <;> rfl
@[go_sem] theorem putH_n : putH none n f dd (some H) = some ⟨n, f, dd, H⟩ := rfl
@[go_sem] theorem putVH_d {d : Tmp} : putVH (some d) n f dd (some (v, H)) = some ⟨n, if d < n then f.put d (some v) else f, dd, H⟩ := by
  simp only [putVH, Option.map_some, put_mk]; split <;> rfl
@[go_sem] theorem putVH_n : putVH none n f dd (some (v, H)) = some ⟨n, f, dd, H⟩ := rfl
@[go_sem] theorem putB_d {d : Tmp} {r : (Nat → Value) × Blk} : putB (some d) n f dd H (some r) = some ⟨n, if d < n then f.put d (some (r.1 H.next)) else f, dd, H.alloc r.2⟩ := by
  simp only [putB, Option.map_some, put_mk]; split <;> rfl
@[go_sem] theorem putA_d {t : TypeId} {d : Tmp} : putA t (some d) n f dd H (some v) = some ⟨n, if d < n then f.put d (some (.pointer (some ⟨H.next, 0, none⟩))) else f, dd, H.alloc ⟨t, 0, false, v.cells.toList⟩⟩ := by
  simp only [putA, Option.map_some, put_mk]; split <;> rfl
@[go_sem] theorem putD_n {x : Deferred} : putD none n f dd H (some x) = some ⟨n, f, x :: dd, H⟩ := rfl
@[go_sem] theorem putD_d {x : Deferred} {d : Tmp} : putD (some d) n f dd H (some x) = some ⟨n, if d < n then f.put d (some undef) else f, x :: dd, H⟩ := by
  simp only [putD, Option.map_some, put_mk]; split <;> rfl
@[go_sem] theorem evF_t {t : Tmp} : evF f (.tmp t) = some ((f.get t).getD undef) := rfl
@[go_sem] theorem evF_f {g : FuncId} : evF f (.func g) = some (.func (.func g) #[] #[]) := rfl
@[go_sem] theorem evF_int {k : IntKind} {i : Int} : evF f (.const (.int k i)) = some (.int k i) := rfl
@[go_sem] theorem evF_bool {b : Bool} : evF f (.const (.bool b)) = some (.bool b) := rfl
@[go_sem] theorem evF_str {s : ByteArray} : evF f (.const (.string s)) = some (.string s) := rfl
@[go_sem] theorem evF_float {k : FloatKind} {s : Nat} : evF f (.const (.float k s)) = some (.float k s) := rfl
@[go_sem] theorem evF_nilp : evF f (.const (.pointer none)) = some (.pointer none) := rfl
@[go_sem] theorem evF_nils : evF f (.const (.slice none 0 0)) = some (.slice none 0 0) := rfl
@[go_sem] theorem evF_nilm : evF f (.const (.map none)) = some (.map none) := rfl
@[go_sem] theorem evF_nilf : evF f (.const .nilFunc) = some .nilFunc := rfl
@[go_sem] theorem evF_nili : evF f (.const .nilIface) = some .nilIface := rfl
@[go_sem] theorem evF_agg {cs : Array Value} : evF f (.const (.agg cs)) = if plainV (.agg cs) then some (.agg cs) else none := rfl
@[go_sem] theorem evL_nil : evL f [] = some [] := rfl
@[go_sem] theorem evL_cons {x : Operand} {l : List Operand} : evL f (x :: l) = consO (evF f x) (evL f l) := by simp only [evL, consO]
@[go_sem] theorem consO_some {l : List Value} : consO (some v) (some l) = some (v :: l) := rfl
@[go_sem] theorem evPs_nil : evPs f [] = some [] := rfl
@[go_sem] theorem evPs_cons {i : Nat} {x : Operand} {l : List (Nat × Operand)} : evPs f ((i, x) :: l) = consP i (evF f x) (evPs f l) := by simp only [evPs, consP]
@[go_sem] theorem consP_some {i : Nat} {l : List (Nat × Value)} : consP i (some v) (some l) = some ((i, v) :: l) := rfl
@[go_sem] theorem evO_none : evO f none = some none := rfl
@[go_sem] theorem evO_some {x : Operand} : evO f (some x) = someO (evF f x) := rfl
@[go_sem] theorem someO_some : someO (some v) = some (some v) := rfl
@[go_sem] theorem pickO_t {x y : Option Value} : pickO (some (.bool true)) x y = x := rfl
@[go_sem] theorem pickO_f {x y : Option Value} : pickO (some (.bool false)) x y = y := rfl
@[go_sem] theorem nilO_p {a : Addr} : nilO (some (.pointer (some a))) = some (.pointer (some a)) := rfl
@[go_sem] theorem nilO_f {g : FuncId} {a c : Array Value} : nilO (some (.func (.func g) a c)) = some (.func (.func g) a c) := rfl
@[go_sem] theorem nilO_i {t : TypeId} : nilO (some (.iface t v)) = some (.iface t v) := rfl
@[go_sem] theorem loadO_some {t : TypeId} : loadO P H t (some v) = loadA P H t v := rfl
@[go_sem] theorem binO_some {op : BinOp} {t : TypeId} {x y : Operand} : binO P op t x y (some v) (some w) = if eqGuardA op x y v w then binA P op t v w else none := rfl
@[go_sem] theorem unO_some {op : UnOp} : unO op (some v) = unA op v := rfl
@[go_sem] theorem convO_some {a b : TypeId} : convO P a b (some v) = convertA P a b v := rfl
@[go_sem] theorem ifaceO_some {t : TypeId} : ifaceO P t (some v) = makeInterfaceA P t v := rfl
@[go_sem] theorem fieldAO_some {t : TypeId} {i : Nat} : fieldAO P t i (some v) = fieldAddrA P t v i := rfl
@[go_sem] theorem fieldO_some {t : TypeId} {i : Nat} : fieldO P t i (some v) = fieldA P t v i := rfl
@[go_sem] theorem extO_some {i : Nat} : extO i (some v) = extractA v i := rfl
@[go_sem] theorem assertO_some {b : TypeId} {k : Bool} : assertO P b k (some v) = typeAssertA P v b k := rfl
@[go_sem] theorem indexAO_some {t : TypeId} : indexAO P t (some v) (some w) = indexAddrA P t v w := rfl
@[go_sem] theorem indexO_some {t : TypeId} : indexO P t (some v) (some w) = indexA P t v w := rfl
@[go_sem] theorem funcO_some {g : Fn} {a b : List Value} : funcO g (some a) (some b) = some (.func g a.toArray b.toArray) := rfl
@[go_sem] theorem sliceO_some {t : TypeId} {a b c : Option Value} : sliceO P H t (some v) (some a) (some b) (some c) = sliceA P H t v a b c := rfl
@[go_sem] theorem storeO_some {t : TypeId} : storeO P H t (some v) (some w) = storeA P H t v w := rfl
@[go_sem] theorem biO_some {b : Builtin} {ts : Array TypeId} {l : List Value} : biO P b ts H (some l) = builtinA P b ts l H := rfl
@[go_sem] theorem buildO_some {t : TypeId} {l : List (Nat × Value)} : buildO P t (some l) = buildA P t l := rfl
@[go_sem] theorem bslO_some {t : TypeId} {k : Nat} {l : List (Nat × Value)} : bslO P t k (some l) = buildSliceA P t k l := rfl
@[go_sem] theorem mkslO_some {t : TypeId} : mkslO P t (some v) (some w) = makeSliceA P t v w := rfl
@[go_sem] theorem defO_some {l : List Value} : defO (some v) (some l) = deferA l v := rfl
end
@[go_sem] theorem ext_some {l : Array Value} {i : Nat} : extractA (.tuple l) i = l[i]? := rfl
@[go_sem] theorem deferA_f {g : FuncId} {a c : Array Value} {l : List Value} : deferA l (.func (.func g) a c) = some { target := .fn (.func g) c, args := a ++ l.toArray } := rfl
@[go_sem] theorem retK_s {Q : CR → Heap → Prop} {v : Value} : retK Q H (some v) = Q (.ret v) H := retK_some
attribute [go_sem] Tr.get_put Tr.get_nil Option.getD_some Option.bind_some Option.map_some Nat.reduceEqDiff List.getElem?_cons_zero List.getElem?_cons_succ List.getElem?_toArray ofArgs layA selA dropA
@[go_sem] theorem binA_int {op : BinOp} {t : TypeId} {k : IntKind} {x y : Int} (h1 : op ≠ .shl) (h2 : op ≠ .shr) : binA P op t (.int k x) (.int k y) = intOpA op k x y := by
  cases op <;> first | contradiction | (simp [binA])
@[go_sem] theorem iadd {k : IntKind} {x y : Int} : intOpA .add k x y = some (.int k (k.wrap (x + y))) := rfl
@[go_sem] theorem isub {k : IntKind} {x y : Int} : intOpA .sub k x y = some (.int k (k.wrap (x - y))) := rfl
@[go_sem] theorem imul {k : IntKind} {x y : Int} : intOpA .mul k x y = some (.int k (k.wrap (x * y))) := rfl
@[go_sem] theorem iquo {k : IntKind} {x y : Int} : intOpA .quo k x y = if y = 0 then none else some (.int k (k.wrap (x.tdiv y))) := rfl
@[go_sem] theorem irem {k : IntKind} {x y : Int} : intOpA .rem k x y = if y = 0 then none else some (.int k (x.tmod y)) := rfl
@[go_sem] theorem ieql {k : IntKind} {x y : Int} : intOpA .eql k x y = some (.bool (decide (x = y))) := rfl
@[go_sem] theorem ineq {k : IntKind} {x y : Int} : intOpA .neq k x y = some (.bool (!decide (x = y))) := rfl
@[go_sem] theorem ilss {k : IntKind} {x y : Int} : intOpA .lss k x y = some (.bool (decide (x < y))) := rfl
@[go_sem] theorem ileq {k : IntKind} {x y : Int} : intOpA .leq k x y = some (.bool (decide (x ≤ y))) := rfl
@[go_sem] theorem igtr {k : IntKind} {x y : Int} : intOpA .gtr k x y = some (.bool (decide (y < x))) := rfl
@[go_sem] theorem igeq {k : IntKind} {x y : Int} : intOpA .geq k x y = some (.bool (decide (y ≤ x))) := rfl
@[go_sem] theorem unot {b : Bool} : unA .not (.bool b) = some (.bool !b) := rfl
@[go_sem] theorem uneg {k : IntKind} {n : Int} : unA .neg (.int k n) = some (.int k (k.wrap (0 - n))) := rfl
@[go_sem] theorem guard_int {op : BinOp} {x y : Operand} {k : IntKind} {n : Int} {b : Value} : eqGuardA op x y (.int k n) b = true := by cases op <;> rfl
@[go_sem] theorem guard_agg {op : BinOp} {x y : Operand} {cs : Array Value} {b : Value} : eqGuardA op x y (.agg cs) b = true := by cases op <;> rfl
@[go_sem] theorem guard_bool {op : BinOp} {x y : Operand} {n : Bool} {b : Value} : eqGuardA op x y (.bool n) b = true := by cases op <;> rfl
@[go_sem] theorem guard_ptr {op : BinOp} {x y : Operand} {n : Option Addr} {b : Value} : eqGuardA op x y (.pointer n) b = true := by cases op <;> rfl
@[go_sem] theorem guard_slice {op : BinOp} {x y : Operand} {n : Option Addr} {i j : Nat} {b : Value} : eqGuardA op x y (.slice n i j) b = true := by cases op <;> rfl
@[go_sem] theorem guard_str {op : BinOp} {x y : Operand} {n : ByteArray} {b : Value} : eqGuardA op x y (.string n) b = true := by cases op <;> rfl
@[go_sem] theorem guard_iface {op : BinOp} {x y : Operand} {t : TypeId} {v b : Value} : eqGuardA op x y (.iface t v) b = true := by cases op <;> rfl
@[go_sem] theorem guard_nili {op : BinOp} {x : Operand} {c : Value} {a b : Value} : eqGuardA op x (.const c) a b = true := by
  unfold eqGuardA isConstA
  split <;> simp
@[go_sem] theorem bi_len {ts : Array TypeId} {x : Value} {H : Heap} : builtinA P .len ts [x] H = (ts[0]?).bind fun t => (lenA P t x).map (·, H) := rfl
@[go_sem] theorem bi_app {ts : Array TypeId} {s x : Value} {H : Heap} : builtinA P .append ts [s, x] H = (ts[0]?).bind fun t => (ts[1]?).bind fun u => appendA P H t u s x := rfl
@[go_sem] theorem bi_copy {ts : Array TypeId} {s x : Value} {H : Heap} : builtinA P .copy ts [s, x] H = (ts[0]?).bind fun t => copyA P H t s x := rfl
@[go_sem] theorem bi_min {ts : Array TypeId} {x y : Value} {H : Heap} : builtinA P .min ts [x, y] H = (min2A x y).map (·, H) := rfl
@[go_sem] theorem bi_max {ts : Array TypeId} {x y : Value} {H : Heap} : builtinA P .max ts [x, y] H = (max2A x y).map (·, H) := rfl
@[go_sem] theorem min2_int {k : IntKind} {x y : Int} : min2A (.int k x) (.int k y) = some (.int k (if y < x then y else x)) := rfl
@[go_sem] theorem max2_int {k : IntKind} {x y : Int} : max2A (.int k x) (.int k y) = some (.int k (if y > x then y else x)) := rfl
@[go_sem] theorem load1_eq {b o : Nat} : H.load1 ⟨b, o, none⟩ = (H.get b).bind fun x => x.cells[o]? := rfl
theorem loads_eq {b o n : Nat} : H.loads ⟨b, o, none⟩ n = (H.get b).bind fun x => if o + n ≤ x.cells.length then some ((x.cells.drop o).take n) else none := rfl
theorem get_set_ne {b c : Nat} {x : Blk} (h : c ≠ b) : (H.set b x).get c = H.get c := by
  unfold Heap.set Heap.put Heap.get
  by_cases hb : b < base0
  · simp [hb]
  · simp only [hb, if_false]
    by_cases hc : c < base0
    · simp [hc]
    · simp only [hc, if_false]
      rw [Tr.get_put, if_neg (by omega)]
theorem get_set_eq {b : Nat} {x : Blk} (h : base0 ≤ b) : (H.set b x).get b = some x := by
  unfold Heap.set Heap.put Heap.get
  simp [Nat.not_lt.2 h]
theorem get_del_ne {b c : Nat} (h : c ≠ b) : (H.del b).get c = H.get c := by
  unfold Heap.del Heap.put Heap.get
  by_cases hb : b < base0
  · simp [hb]
  · simp only [hb, if_false]
    by_cases hc : c < base0
    · simp [hc]
    · simp only [hc, if_false]
      rw [Tr.get_put, if_neg (by omega)]
theorem putF_putF {α : Type} (x y : Option α) : ∀ (f : Nat) (t : Tr α) (n : Nat), n < f → Tr.putF f (Tr.putF f t n x) n y = Tr.putF f t n y := by
  intro f
  induction f with
  | zero => intro t n h; omega
  | succ f ih =>
    intro t n h
    cases t with
    | nil =>
      simp only [Tr.putF]
      by_cases h0 : n = 0
      · simp only [h0, if_true, Tr.putF]
      · by_cases h1 : n % 2 = 1
        · simp only [h0, h1, if_false, if_true, Tr.putF, ih _ _ (show n / 2 < f by omega)]
        · simp only [h0, h1, if_false, Tr.putF, ih _ _ (show n / 2 - 1 < f by omega)]
    | node l v r =>
      simp only [Tr.putF]
      by_cases h0 : n = 0
      · simp only [h0, if_true, Tr.putF]
      · by_cases h1 : n % 2 = 1
        · simp only [h0, h1, if_false, if_true, Tr.putF, ih _ _ (show n / 2 < f by omega)]
        · simp only [h0, h1, if_false, Tr.putF, ih _ _ (show n / 2 - 1 < f by omega)]
@[go_sem] theorem set_set {b : Nat} {x y : Blk} : (H.set b x).set b y = H.set b y := by
  unfold Heap.set Heap.put
  by_cases h : b < base0
  · simp [h]
  · simp only [h, if_false]
    congr 1
    exact putF_putF _ _ _ _ _ (Nat.lt_succ_self _)
@[go_sem] theorem next_set {b : Nat} {x : Blk} : (H.set b x).next = H.next := by
  unfold Heap.set Heap.put; split <;> rfl
@[go_sem] theorem next_del {b : Nat} : (H.del b).next = H.next := by
  unfold Heap.del Heap.put; split <;> rfl
@[go_sem] theorem next_alloc {x : Blk} : (H.alloc x).next = H.next + 1 := rfl
@[go_sem] theorem next_bump {k : Nat} : (bump H k).next = H.next + k := rfl
@[go_sem] theorem get_bump {k b : Nat} : (bump H k).get b = H.get b := rfl
theorem get_alloc {b : Nat} {x : Blk} (h : base0 ≤ H.next) : (H.alloc x).get b = if b = H.next then some x else H.get b := by
  have : (H.alloc x).get b = (H.set H.next x).get b := rfl
  rw [this]
  by_cases e : b = H.next
  · rw [if_pos e, e, get_set_eq h]
  · rw [if_neg e, get_set_ne e]
theorem get_alloc_eq {x : Blk} (h : base0 ≤ H.next) : (H.alloc x).get H.next = some x := by rw [get_alloc h, if_pos rfl]
theorem get_alloc_ne {b : Nat} {x : Blk} (h : b ≠ H.next) : (H.alloc x).get b = H.get b := get_set_ne h
theorem stores1 {b o : Nat} {v : Value} {x : Blk} (hb : base0 ≤ b) (hg : H.get b = some x) (ho : o < x.cells.length) (hv : Heap.oneC v = true) :
    H.stores ⟨b, o, none⟩ [v] = some (H.set b { x with cells := x.cells.set o v }) := by
  unfold Heap.stores
  simp only [Option.isSome_none, Bool.false_or, List.all_cons, hv, List.all_nil, Bool.and_self, Bool.not_true, Bool.or_false, decide_eq_true_eq, Nat.not_lt.2 hb, if_false, hg, List.length_singleton,
    Option.bind_eq_bind, Option.bind_some, if_pos (show o + 1 ≤ x.cells.length by omega)]
  congr 2
  unfold Heap.splice
  rw [List.set_eq_take_append_cons_drop, if_pos ho]
  simp
def stoK (H : Heap) (b o : Nat) (vs : List Value) : Option Blk → Option Heap
  | some x => if base0 ≤ b ∧ vs.all Heap.oneC = true ∧ o + vs.length ≤ x.cells.length then some (H.set b { x with cells := Heap.splice x.cells o vs }) else none
  | none => none
@[go_sem] theorem stores_eq {b o : Nat} {vs : List Value} : H.stores ⟨b, o, none⟩ vs = stoK H b o vs (H.get b) := by
  unfold Heap.stores stoK
  simp only [Option.isSome_none, Bool.false_or, Option.bind_eq_bind]
  by_cases hb : base0 ≤ b
  · by_cases hv : vs.all Heap.oneC = true
    · simp only [hv, Nat.not_lt.2 hb, decide_false, Bool.not_true, Bool.or_self, Bool.false_eq_true, if_false, hb, true_and]
      cases H.get b <;> rfl
    · cases H.get b <;> simp [hv]
  · cases H.get b <;> simp [hb, Nat.not_le.1 hb]
theorem stoK_1 {b o : Nat} {v : Value} {x : Blk} (hb : base0 ≤ b) (ho : o < x.cells.length) (hv : Heap.oneC v = true) :
    stoK H b o [v] (some x) = some (H.set b { x with cells := x.cells.set o v }) := by
  have e : stoK H b o [v] (some x) = if base0 ≤ b ∧ [v].all Heap.oneC = true ∧ o + [v].length ≤ x.cells.length then some (H.set b { x with cells := Heap.splice x.cells o [v] }) else none := rfl
  rw [e, if_pos ⟨hb, by simp [hv], by simp; omega⟩]
  congr 2
  unfold Heap.splice
  rw [List.set_eq_take_append_cons_drop, if_pos ho]
  simp
@[go_sem] theorem o_int {k : IntKind} {i : Int} : Heap.oneC (.int k i) = true := of_decide_eq_true rfl
@[go_sem] theorem o_bool {b : Bool} : Heap.oneC (.bool b) = true := of_decide_eq_true rfl
@[go_sem] theorem o_ptr {a : Option Addr} : Heap.oneC (.pointer a) = true := of_decide_eq_true rfl
@[go_sem] theorem o_slice {a : Option Addr} {n c : Nat} : Heap.oneC (.slice a n c) = true := of_decide_eq_true rfl
@[go_sem] theorem o_str {s : ByteArray} : Heap.oneC (.string s) = true := of_decide_eq_true rfl
@[go_sem] theorem o_float {k : FloatKind} {s : Nat} : Heap.oneC (.float k s) = true := of_decide_eq_true rfl
@[go_sem] theorem o_iface {t : TypeId} {v : Value} : Heap.oneC (.iface t v) = true := of_decide_eq_true rfl
@[go_sem] theorem o_nili : Heap.oneC .nilIface = true := of_decide_eq_true rfl
@[go_sem] theorem c_int {k : IntKind} {i : Int} : (Value.int k i).cells = #[.int k i] := rfl
@[go_sem] theorem c_bool {b : Bool} : (Value.bool b).cells = #[.bool b] := rfl
@[go_sem] theorem c_ptr {a : Option Addr} : (Value.pointer a).cells = #[.pointer a] := rfl
@[go_sem] theorem c_slice {a : Option Addr} {n c : Nat} : (Value.slice a n c).cells = #[.slice a n c] := rfl
@[go_sem] theorem c_str {s : ByteArray} : (Value.string s).cells = #[.string s] := rfl
@[go_sem] theorem c_iface {t : TypeId} {v : Value} : (Value.iface t v).cells = #[.iface t v] := rfl
@[go_sem] theorem c_agg {cs : Array Value} : (Value.agg cs).cells = cs := rfl
@[go_sem] theorem lt_addT {b n k : Nat} (h : b < n) : (b < n + k) = True := eq_true (by omega)
@[go_sem] theorem lt_selfT {n k : Nat} : (n < n + (k + 1)) = True := eq_true (by omega)
@[go_sem] theorem lt_self1T {n : Nat} : (n < n + 1) = True := eq_true (by omega)
@[go_sem] theorem le_addT {b n k : Nat} (h : b ≤ n) : (b ≤ n + k) = True := eq_true (by omega)
@[go_sem] theorem get_alloc_at {b : Nat} {x : Blk} (h : base0 ≤ H.next) (e : b = H.next) : (H.alloc x).get b = some x := by rw [get_alloc h, if_pos e]
@[go_sem] theorem get_alloc_lt {b : Nat} {x : Blk} (h : b < H.next) : (H.alloc x).get b = H.get b := get_alloc_ne (by omega)
@[go_sem] theorem get_set_at {b c : Nat} {x : Blk} (h : base0 ≤ b) (e : c = b) : (H.set b x).get c = some x := by rw [e, get_set_eq h]
@[go_sem] theorem get_set_lt {b c : Nat} {x : Blk} (h : c < b) : (H.set b x).get c = H.get c := get_set_ne (by omega)
@[go_sem] theorem get_set_gt {b c : Nat} {x : Blk} (h : b < c) : (H.set b x).get c = H.get c := get_set_ne (by omega)
@[go_sem] theorem get_del_lt {b c : Nat} (h : c < b) : (H.del b).get c = H.get c := get_del_ne (by omega)
@[go_sem] theorem get_del_gt {b c : Nat} (h : b < c) : (H.del b).get c = H.get c := get_del_ne (by omega)
attribute [go_sem] get_set_ne get_del_ne stoK_1
@[go_sem] theorem stoK_all {b : Nat} {vs : List Value} {x : Blk} (hb : base0 ≤ b) (ho : vs.length = x.cells.length) (hv : vs.all Heap.oneC = true) :
    stoK H b 0 vs (some x) = some (H.set b { x with cells := vs }) := by
  have e : stoK H b 0 vs (some x) = if base0 ≤ b ∧ vs.all Heap.oneC = true ∧ 0 + vs.length ≤ x.cells.length then some (H.set b { x with cells := Heap.splice x.cells 0 vs }) else none := rfl
  rw [e, if_pos ⟨hb, hv, by omega⟩]
  congr 2
  unfold Heap.splice
  simp [ho]
attribute [go_sem] List.all_cons List.all_nil Bool.and_self
def WF (H : Heap) : Prop := base0 ≤ H.next ∧ ∀ b, H.next ≤ b → H.get b = none
theorem WF.lt {H : Heap} (h : WF H) {b : Nat} {x : Blk} (hb : H.get b = some x) : b < H.next := by
  apply Nat.lt_of_not_le; intro hn; rw [h.2 b hn] at hb; cases hb
theorem WF.alloc {H : Heap} (h : WF H) (x : Blk) : WF (H.alloc x) := by
  refine ⟨Nat.le_succ_of_le h.1, ?_⟩
  intro b hb
  have hb : H.next + 1 ≤ b := hb
  rw [get_alloc_ne (by omega)]; exact h.2 b (by omega)
theorem WF.bump {H : Heap} (h : WF H) (k : Nat) : WF (bump H k) := by
  refine ⟨Nat.le_add_right_of_le h.1, ?_⟩
  intro b hb
  have hb : H.next + k ≤ b := hb
  rw [get_bump]; exact h.2 b (by omega)
theorem WF.set {H : Heap} (h : WF H) {b : Nat} (hb : b < H.next) (x : Blk) : WF (H.set b x) := by
  refine ⟨by rw [next_set]; exact h.1, ?_⟩
  intro c hc
  rw [next_set] at hc
  rw [get_set_ne (by omega)]; exact h.2 c hc
theorem WF.del {H : Heap} (h : WF H) (b : Nat) : WF (H.del b) := by
  refine ⟨by rw [next_del]; exact h.1, ?_⟩
  intro c hc
  rw [next_del] at hc
  by_cases e : c = b
  · subst e
    unfold Heap.del Heap.put Heap.get
    by_cases hb : c < base0
    · have := h.1; omega
    · simp [hb]
  · rw [get_del_ne e]; exact h.2 c hc
structure Ext (H H' : Heap) : Prop where
  wf : WF H'
  le : H.next ≤ H'.next
  get : ∀ b, b < H.next → H'.get b = H.get b
theorem Ext.refl {H : Heap} (h : WF H) : Ext H H := ⟨h, Nat.le_refl _, fun _ _ => rfl⟩
theorem Ext.trans {H H1 H2 : Heap} (h : Ext H H1) (k : Ext H1 H2) : Ext H H2 := ⟨k.wf, Nat.le_trans h.le k.le, fun b hb => (k.get b (Nat.lt_of_lt_of_le hb h.le)).trans (h.get b hb)⟩
theorem Ext.alloc {H H1 : Heap} (h : Ext H H1) (x : Blk) : Ext H (H1.alloc x) :=
  ⟨h.wf.alloc x, Nat.le_succ_of_le h.le, fun b hb => (get_alloc_ne (by have := h.le; omega)).trans (h.get b hb)⟩
theorem Ext.bump {H H1 : Heap} (h : Ext H H1) (k : Nat) : Ext H (bump H1 k) := ⟨h.wf.bump k, Nat.le_add_right_of_le h.le, fun b hb => h.get b hb⟩
theorem Ext.set {H H1 : Heap} (h : Ext H H1) {b : Nat} (hb : H.next ≤ b) (hb2 : b < H1.next) (x : Blk) : Ext H (H1.set b x) :=
  ⟨h.wf.set hb2 x, by rw [next_set]; exact h.le, fun c hc => (get_set_ne (by omega)).trans (h.get c hc)⟩
theorem Ext.del {H H1 : Heap} (h : Ext H H1) {b : Nat} (hb : H.next ≤ b) : Ext H (H1.del b) :=
  ⟨h.wf.del b, by rw [next_del]; exact h.le, fun c hc => (get_del_ne (by omega)).trans (h.get c hc)⟩
theorem Ext.of {H H1 : Heap} (h : Ext H H1) {b : Nat} {x : Blk} (hw : WF H) (hb : H.get b = some x) : H1.get b = some x := (h.get b (hw.lt hb)).trans hb
section
variable {st : List Fr} {Q : Ex → St → Prop}
def nextI (I : Nat → Tr Value → Heap → Prop) (m : Nat) (f : Tr Value) (H : Heap) : Prop := ∃ k, k < m ∧ I k f H
def loopJ (n : Nat) (dd : List Deferred) (I : Nat → Tr Value → Heap → Prop) (m : Nat) (s : St) : Prop := s.n = n ∧ s.d = dd ∧ nextI I m s.f s.H
@[go_sem ↓] theorem loopJ_mk {n : Nat} {dd : List Deferred} {I : Nat → Tr Value → Heap → Prop} {m : Nat} {f : Tr Value} {H : Heap} : loopJ n dd I m ⟨n, f, dd, H⟩ = nextI I m f H := by simp [loopJ]
@[congr] theorem nextI_congr {I : Nat → Tr Value → Heap → Prop} {m : Nat} {f f' : Tr Value} {H H' : Heap} (h : f = f') (h2 : H = H') : nextI I m f H = nextI I m f' H' := by rw [h, h2]
theorem Wk_loopF {b : IC} {n : Nat} {dd : List Deferred} {f : Tr Value} {H : Heap} (I : Nat → Tr Value → Heap → Prop) (m : Nat) (h0 : I m f H)
    (hs : ∀ m f H, I m f H → Wk P (.c b :: .i (loopJ n dd I m) :: st) (some ⟨n, f, dd, H⟩) Q) : Wk P (.c (.loop b) :: st) (some ⟨n, f, dd, H⟩) Q := by
  refine Wk_loop (fun m s => s.n = n ∧ s.d = dd ∧ I m s.f s.H) m ⟨rfl, rfl, h0⟩ ?_
  rintro m ⟨n', f, dd', H⟩ ⟨h1, h2, h3⟩
  have h1 : n' = n := h1
  have h2 : dd' = dd := h2
  subst h1 h2
  have := hs m f H h3
  rw [Wk_some] at this ⊢
  refine contF_mono (P := P) (Q := Q) (fun _ _ h => h) _ _ _ ?_
  have e : (fun s' : St => ∃ k, k < m ∧ s'.n = n' ∧ s'.d = dd' ∧ I k s'.f s'.H) = loopJ n' dd' I m := by
    funext s
    refine propext ⟨fun ⟨k, hk, h1, h2, h3⟩ => ⟨h1, h2, k, hk, h3⟩, fun ⟨h1, h2, k, hk, h3⟩ => ⟨k, hk, h1, h2, h3⟩⟩
  rw [e]; exact this
theorem Wk_vh {d : Option Tmp} {n : Nat} {f : Tr Value} {dd : List Deferred} {r : Option (Value × Heap)} {x : Value × Heap} (h : r = some x) (k : Wk P st (putVH d n f dd (some x)) Q) : Wk P st (putVH d n f dd r) Q := by rw [h]; exact k
theorem cK_vh {r0 i : Nat} {re : List Nat} {l : List DOp} {A : List (Nat × Blk)} {H0 : Heap} {hist : List (Nat × Heap)} {rd : List RdE} {d : Option Tmp} {n : Nat} {f : Tr Value} {dd : List Deferred} {r : Option (Value × Heap)} {x : Value × Heap} (h : r = some x)
    (k : cK P (putVH d n f dd (some x)) r0 i re l A H0 hist rd st Q) : cK P (putVH d n f dd r) r0 i re l A H0 hist rd st Q := by rw [h]; exact k
def hsK (P : Program) (r0 : Nat) (f : Tr Value) (A : List (Nat × Blk)) (sees : List Nat) (op : Op) (u : Value) (nb : List Nat) : List (Nat × Heap) → Prop
  | [] => True
  | h :: t => if nb.contains h.1 = true then rdO P f (layA r0 h.2 (selA sees A)) op = some u ∧ hsK P r0 f A sees op u nb t else True
theorem hsK_of {r0 : Nat} {f : Tr Value} {A : List (Nat × Blk)} {sees : List Nat} {op : Op} {u : Value} {nb : List Nat} : ∀ {hist : List (Nat × Heap)}, hsK P r0 f A sees op u nb hist → ∀ h ∈ hist.takeWhile fun h => nb.contains h.1, rdO P f (layA r0 h.2 (selA sees A)) op = some u
  | [], _ => by simp
  | h :: t, k => by
    unfold hsK at k
    intro x hx
    by_cases hc : nb.contains h.1 = true
    · rw [if_pos hc] at k
      rw [List.takeWhile_cons, if_pos hc, List.mem_cons] at hx
      rcases hx with rfl | hx
      · exact k.1
      · exact hsK_of k.2 x hx
    · rw [List.takeWhile_cons, if_neg hc] at hx; cases hx
theorem wrK_some {v : Value} {r0 i : Nat} {sees nb : List Nat} {op : Op} {d : Option Tmp} {l : List DOp} {A : List (Nat × Blk)} {hist : List (Nat × Heap)} {rd : List RdE} {n : Nat} {f : Tr Value} {dd : List Deferred} {H : Heap}
    (h : hsK P r0 f A sees op v nb hist) (k : Wk P (.w r0 l A hist (⟨i, op, ⟨n, f, dd, H⟩, v, sees⟩ :: rd) :: st) (putO d n f dd H (some v)) Q) : wrK P (some v) r0 i sees nb op d l A hist rd st n f dd H Q := ⟨v, rfl, hsK_of h, k⟩
def bkW (P : Program) (d : Option Tmp) (n : Nat) (f : Tr Value) (dd : List Deferred) (r0 i : Nat) (re : List Nat) (l : List DOp) (A : List (Nat × Blk)) (H0 : Heap) (hist : List (Nat × Heap)) (rd : List RdE) (st : List Fr) (Q : Ex → St → Prop) : CR → Heap → Prop
  | .ret v, H => cK P (putO d n f dd H (some v)) r0 i re l A H0 hist rd st Q
  | .pan _, _ => False
section
variable {d : Option Tmp} {n : Nat} {f : Tr Value} {dd : List Deferred} {H H0 : Heap} {r0 i : Nat} {re vis : List Nat} {l : List DOp} {A : List (Nat × Blk)} {hist : List (Nat × Heap)} {rd : List RdE}
@[go_sem ↓] theorem bkW_ret {v : Value} : bkW P d n f dd r0 i re l A H0 hist rd st Q (.ret v) H = cK P (putO d n f dd H (some v)) r0 i re l A H0 hist rd st Q := rfl
theorem Wk_w_call {x : Operand} {args : Array Operand} {ts : Array TypeId} (hr : allRd rd = true)
    (k : callK P (evF f x) (evL f args.toList) (layA r0 H (selA vis A)) (bkW P d n f dd r0 i re l (dropA vis A) H hist rd st Q)) :
    Wk P (.w r0 (⟨none, d, .call { callee := .value x, args := args, argTypes := ts }, .c i vis re⟩ :: l) A hist rd :: st) (some ⟨n, f, dd, H⟩) Q := by
  rw [Wk_some]
  show WO P _ d (setH ⟨n, f, dd, H⟩ (layA r0 H (A.filter fun p => vis.contains p.1))) (thenN (fun s =>
      (∀ e ∈ rd.filter fun e => re.contains e.k, RD P e.op e.s (layA r0 s.H ((A.filter fun p => !vis.contains p.1).filter fun p => e.sees.contains p.1)) e.v) ∧
      WD P r0 l { s := s, A := A.filter fun p => !vis.contains p.1, hist := (i, H) :: hist, rd := rd } (contF P st Q .normal)) noEx)
  rw [selA_eq, dropA_eq, setH_mk]
  refine WO'_call.2 ?_
  rw [ev_mk, ev_mk', evL_eq]
  obtain ⟨u, hu, a, ha, t, ht, hc⟩ := k
  refine ⟨u, hu, a, ha, t, ht, CW_mono P hc ?_⟩
  intro r H' hq
  cases r with
  | ret v =>
    obtain ⟨s, hs, h1, h2⟩ := hq
    simp only [putO, Option.map_some, Option.some.injEq] at hs
    subst hs
    simp only [backW_ret, setH_mk, thenN_normal]
    refine ⟨reK_of rd (allRd_of hr) h1, ?_⟩
    rw [Wk_some] at h2
    exact h2
  | pan v => exact hq.elim
end
end
@[go_sem] theorem sliceS_bump {k size n c : Nat} {a : Option Addr} {l h m : Option Value} : sliceS (bump H k) size a n c l h m = sliceS H size a n c l h m := rfl
section
theorem splice_step {L vs : List Value} {v : Value} {q : Nat} (h : q + (vs.length + 1) ≤ L.length) : Heap.splice (L.set q v) (q + 1) vs = Heap.splice L q (v :: vs) := by
  unfold Heap.splice
  rw [List.set_eq_take_append_cons_drop, if_pos (by omega)]
  have h1 : (L.take q ++ [v]).length = q + 1 := by simp; omega
  have e : L.take q ++ v :: L.drop (q + 1) = (L.take q ++ [v]) ++ L.drop (q + 1) := by simp
  have h3 : q + 1 + vs.length = (L.take q ++ [v]).length + vs.length := by rw [h1]
  rw [e, List.take_left' h1, h3, List.drop_length_add_append, List.drop_drop]
  have h4 : q + 1 + vs.length = q + (v :: vs).length := by simp; omega
  rw [h4]
  simp
theorem foldl_set (vs : List Value) : ∀ (off k : Nat) (cells : Array Value), off + k + vs.length ≤ cells.size →
    ((vs.zipIdx k).foldl (fun (cs : Array Value) (x : Value × Nat) => cs.setIfInBounds (off + x.2) x.1) cells).toList = Heap.splice cells.toList (off + k) vs := by
  induction vs with
  | nil =>
    intro off k cells h
    simp [Heap.splice]
  | cons v vs ih =>
    intro off k cells h
    simp only [List.length_cons] at h
    simp only [List.zipIdx_cons, List.foldl_cons]
    have e : off + (k + 1) = off + k + 1 := by omega
    rw [ih off (k + 1) _ (by simp; omega), e, Array.toList_setIfInBounds, splice_step (by simp; omega)]
def fillP (ps : Nat → Option (Nat × Nat)) (cs : List Value) (v : Value) (rest : List (Nat × Value)) : Option (Nat × Nat) → Option (List Value)
  | none => none
  | some (off, size) => if v.cells.size = size ∧ off + size ≤ cs.length then (Instr.fill ps (Heap.splice cs off v.cells.toList).toArray rest).map (·.toList) else none
def fillS (ps : Nat → Option (Nat × Nat)) (cs : List Value) (parts : List (Nat × Value)) : Option (List Value) := (Instr.fill ps cs.toArray parts).map (·.toList)
@[go_sem] theorem fillS_nil {ps : Nat → Option (Nat × Nat)} {cs : List Value} : fillS ps cs [] = some cs := rfl
theorem fillS_cons {ps : Nat → Option (Nat × Nat)} {cs : List Value} {i : Nat} {v : Value} {rest : List (Nat × Value)} : fillS ps cs ((i, v) :: rest) = fillP ps cs v rest (ps i) := by
  unfold fillS
  simp only [Instr.fill]
  cases ps i with
  | none => rfl
  | some p =>
    obtain ⟨off, size⟩ := p
    simp only [fillP]
    by_cases h1 : v.cells.size = size
    · by_cases h2 : off + size ≤ cs.length
      · have c1 : ¬ ((v.cells.size ≠ size || off + v.cells.size > cs.toArray.size) = true) := by simp [h1]; omega
        rw [if_neg c1, if_pos (And.intro h1 h2)]
        have := foldl_set v.cells.toList off 0 cs.toArray (by simp [h1]; omega)
        have e : v.cells.zipIdx.foldl (fun (cs : Array Value) (x : Value × Nat) => cs.setIfInBounds (off + x.2) x.1) cs.toArray = (Heap.splice cs off v.cells.toList).toArray := by
          apply Array.ext'
          rw [← Array.foldl_toList, Array.toList_zipIdx]
          exact this
        have e' : v.cells.zipIdx.foldl (fun cs (c, j) => cs.setIfInBounds (off + j) c) cs.toArray = (Heap.splice cs off v.cells.toList).toArray := e
        rw [e']
      · have c1 : (v.cells.size ≠ size || off + v.cells.size > cs.toArray.size) = true := by simp [h1]; omega
        have c2 : ¬ (v.cells.size = size ∧ off + size ≤ cs.length) := fun h => h2 h.2
        rw [if_pos c1, if_neg c2]; rfl
    · have c1 : (v.cells.size ≠ size || off + v.cells.size > cs.toArray.size) = true := by simp [h1]
      have c2 : ¬ (v.cells.size = size ∧ off + size ≤ cs.length) := fun h => h1 h.1
      rw [if_pos c1, if_neg c2]; rfl
@[go_sem] theorem fillP_some {ps : Nat → Option (Nat × Nat)} {cs : List Value} {v : Value} {rest : List (Nat × Value)} {off size : Nat} :
    fillP ps cs v rest (some (off, size)) = if v.cells.size = size ∧ off + size ≤ cs.length then fillS ps (Heap.splice cs off v.cells.toList) rest else none := rfl
def plL (l : List (Nat × Nat)) : Nat → Option (Nat × Nat) := (l[·]?)
def plR (size : Nat) : Nat → Option (Nat × Nat) := fun i => some (i * size, size)
@[go_sem] theorem fillL_cons {l : List (Nat × Nat)} {cs : List Value} {i : Nat} {v : Value} {rest : List (Nat × Value)} : fillS (plL l) cs ((i, v) :: rest) = fillP (plL l) cs v rest (l[i]?) := fillS_cons
@[go_sem] theorem fillR_cons {size : Nat} {cs : List Value} {i : Nat} {v : Value} {rest : List (Nat × Value)} : fillS (plR size) cs ((i, v) :: rest) = fillP (plR size) cs v rest (some (i * size, size)) := fillS_cons
def aggO (l : Option (List Value)) : Option Value := l.map fun l => .agg l.toArray
@[go_sem] theorem aggO_some {l : List Value} : aggO (some l) = some (.agg l.toArray) := rfl
theorem aggO_eq {ps : Nat → Option (Nat × Nat)} {zero : Array Value} {parts : List (Nat × Value)} : (Instr.fill ps zero parts).map .agg = aggO (fillS ps zero.toList parts) := by
  unfold aggO fillS
  have : zero.toList.toArray = zero := by simp
  rw [this]
  cases Instr.fill ps zero parts <;> simp
@[go_sem] theorem buildS_eq {places : List (Nat × Nat)} {zero : Array Value} {parts : List (Nat × Value)} : buildS places zero parts = aggO (fillS (plL places) zero.toList parts) := aggO_eq
@[go_sem] theorem buildR_eq {size : Nat} {zero : Array Value} {parts : List (Nat × Value)} : buildR size zero parts = aggO (fillS (plR size) zero.toList parts) := aggO_eq
def bslK (elem len : Nat) (l : Option (List Value)) : Option ((Nat → Value) × Blk) := l.map fun l => (fun b => .slice (some ⟨b, 0, none⟩) len len, ⟨elem, 0, false, l⟩)
@[go_sem] theorem bslK_some {elem len : Nat} {l : List Value} : bslK elem len (some l) = some (fun b => .slice (some ⟨b, 0, none⟩) len len, ⟨elem, 0, false, l⟩) := rfl
@[go_sem] theorem bslS_eq {elem size len : Nat} {zero : List Value} {parts : List (Nat × Value)} : bslS elem size len zero parts = bslK elem len (fillS (plR size) (manyA zero len) parts) := by
  unfold bslS bslK fillS plR
  simp only [Option.bind_eq_bind]
  cases Instr.fill (fun i => some (i * size, size)) (manyA zero len).toArray parts <;> rfl
attribute [go_sem] manyA Heap.splice
end
end
end Go.Am
namespace Go.Am
open Go.RowKit Go.ChangeShapes
structure Ent where
  b : Nat
  p : Nat
  m : Nat
  cells : List Value
abbrev InL := List (Option Ent)
def inB (L : InL) : Ren := fun i => match L[i]? with | some (some e) => .live ⟨e.b, e.p, e.cells.length, e.m, 0, false⟩ | some none => .dead | none => .un
def inH (L : InL) : Heap := ⟨fun i => match L[i]? with | some (some e) => some ⟨0, 0, false, e.cells⟩ | _ => none, .nil, base0⟩
structure EntOk (W : World) (β : Ren) (e : Ent) : Prop where
  le : e.p + e.cells.length ≤ e.m
  obj : ∃ C ty fz, W.heap[e.b]? = some (.cells C ty fz) ∧ C.size = e.m ∧ LR β e.cells ((C.toList.drop e.p).take e.cells.length)
theorem inH_get (L : InL) (hL : L.length ≤ base0) (i : Nat) : (inH L).get i = match L[i]? with | some (some e) => some ⟨0, 0, false, e.cells⟩ | _ => none := by
  unfold Heap.get
  by_cases h : i < base0
  · rw [if_pos h]; rfl
  · rw [if_neg h, List.getElem?_eq_none (by omega)]
    rfl
theorem WF_in (L : InL) (hL : L.length ≤ base0) : WF (inH L) := by
  refine ⟨Nat.le_refl _, fun b hb => ?_⟩
  have hb : base0 ≤ b := hb
  rw [inH_get L hL, List.getElem?_eq_none (by omega)]
theorem HR_in {L : InL} (hL : L.length ≤ base0) {W : World} (h : ∀ (i : Nat) (e : Ent), L[i]? = some (some e) → EntOk W (inB L) e) : HR (inB L) (inH L) (fun _ => none) W.heap.size W where
  next := Nat.le_refl _
  fresh := fun i hi => by
    have hi : base0 ≤ i := hi
    unfold inB; rw [List.getElem?_eq_none (by omega)]
  disj := fun i x hx => by cases hx
  xlt := fun i x hx => by cases hx
  res := fun i hx => by cases hx
  blk := fun i x hx => by
    have hx : (inH L).get i = some x := by
      unfold getX at hx; simpa using hx
    rw [inH_get L hL] at hx
    cases hl : L[i]? with
    | none => rw [hl] at hx; cases hx
    | some o =>
      cases o with
      | none => rw [hl] at hx; cases hx
      | some e =>
        rw [hl] at hx
        cases hx
        have hi : i < L.length := by
          apply Nat.lt_of_not_le; intro hn; rw [List.getElem?_eq_none hn] at hl; cases hl
        obtain ⟨C, ty, fz, h1, h2, h3⟩ := (h i e hl).obj
        refine ⟨⟨e.b, e.p, e.cells.length, e.m, 0, false⟩, by unfold inB; rw [hl], ⟨rfl, rfl, rfl, (h i e hl).le, C, ty, fz, h1, h2, fun hb => by omega, h3⟩, ?_⟩
        rw [if_neg (by omega)]
        rcases Nat.lt_or_ge e.b W.heap.size with k | k
        · exact k
        · simp [Array.getElem?_eq_none k] at h1
  live := fun i T hT => by
    unfold inB at hT
    cases hl : L[i]? with
    | none => rw [hl] at hT; cases hT
    | some o =>
      cases o with
      | none => rw [hl] at hT; cases hT
      | some e => exact ⟨⟨0, 0, false, e.cells⟩, by unfold getX; rw [inH_get L hL, hl]; rfl⟩
  inj := fun i j T U hi hj hT _ _ => by
    unfold inB at hT; rw [List.getElem?_eq_none (by omega)] at hT; cases hT
  sz := Nat.le_refl _
theorem ent_of {W : World} {a : Addr} {vs : List Value} (h0 : vs ≠ []) (hc : ∀ k v, vs[k]? = some v → W.cell? (a.add k) = some v) :
    a.spot = none ∧ ∃ m, ∀ (β : Ren) (us : List Value), LR β us vs → EntOk W β ⟨a.block, a.off, m, us⟩ := by
  obtain ⟨v0, vt, rfl⟩ := List.exists_cons_of_ne_nil h0
  have h1 := hc 0 v0 rfl
  have e0 : a.add 0 = a := by unfold Addr.add; rw [if_pos rfl]
  rw [e0] at h1
  have h1' := h1
  unfold World.cell? at h1
  split at h1
  case h_2 => cases h1
  rename_i C ty fz hb
  split at h1
  case isTrue => cases h1
  rename_i hs
  have hs : a.spot = none := by cases h : a.spot with | none => rfl | some q => rw [h] at hs; exact absurd rfl hs
  have hat : ∀ k v, (v0 :: vt)[k]? = some v → C[a.off + k]? = some v := by
    intro k v hv
    have := hc k v hv
    unfold World.cell? Addr.add at this
    by_cases hk : k = 0
    · subst hk; rw [if_pos rfl] at this; simp only [hb, hs, Option.isSome_none, Bool.false_eq_true, if_false] at this; exact this
    · rw [if_neg hk] at this; simp only [hb, Option.isSome_none, Bool.false_eq_true, if_false] at this; exact this
  have hlen : a.off + (v0 :: vt).length ≤ C.size := by
    have hl : (v0 :: vt).length - 1 < (v0 :: vt).length := by simp
    have := hat ((v0 :: vt).length - 1) _ (List.getElem?_eq_getElem hl)
    have := (Array.getElem?_eq_some_iff.1 this).1
    simp only [List.length_cons] at this ⊢
    omega
  refine ⟨hs, C.size, fun β us hu => ⟨?_, C, ty, fz, hb, rfl, ?_⟩⟩
  · show a.off + us.length ≤ C.size
    rw [hu.1]; exact hlen
  · have e : (C.toList.drop a.off).take us.length = v0 :: vt := by
      apply List.ext_getElem?
      intro k
      rw [List.getElem?_take, hu.1]
      split
      · rename_i hk
        rw [List.getElem?_drop]
        have := hat k _ (List.getElem?_eq_getElem hk)
        rw [List.getElem?_eq_getElem hk]
        simpa using this
      · rename_i hk
        rw [List.getElem?_eq_none (by omega)]
    show LR β us ((C.toList.drop a.off).take us.length)
    rw [e]; exact hu
theorem AR_in {L : InL} {i : Nat} {e : Ent} {a : Addr} (h : L[i]? = some (some e)) (hb : e.b = a.block) (hp : e.p = a.off) (hs : a.spot = none) : AR (inB L) ⟨i, 0, none⟩ a := by
  have hB : inB L i = .live ⟨e.b, e.p, e.cells.length, e.m, 0, false⟩ := by unfold inB; rw [h]
  refine ⟨rfl, by show inB L i ≠ _; rw [hB]; simp, fun T hT => ?_⟩
  have hT : inB L i = .live T := hT
  rw [hB] at hT
  cases hT
  obtain ⟨x, y, z⟩ := a
  simp only at hb hp hs
  subst hb hp hs
  rfl
theorem AR_dead {L : InL} {i : Nat} {a : Addr} (h : L[i]? = some none) : AR (inB L) ⟨i, 0, none⟩ a := by
  have hB : inB L i = .dead := by unfold inB; rw [h]
  refine ⟨rfl, by show inB L i ≠ _; rw [hB]; simp, fun T hT => ?_⟩
  have hT : inB L i = .live T := hT
  rw [hB] at hT; cases hT
section
variable {P : Program}
theorem calls_of {f : FuncId} (hM : P.follows .mixedOrders = true) (hN : NameOk P) {L : InL} (hL : L.length ≤ base0) {W : World} (h : ∀ (i : Nat) (e : Ent), L[i]? = some (some e) → EntOk W (inB L) e) {args args' : Array Value} (ha : LR (inB L) args.toList args'.toList)
    (hc : CW P f args (inH L) fun x _ => x = .ret (.bool true)) : Calls P f args' W fun e W' => e = .returned (.bool true) ∧ Below W.heap.size W W' := by
  obtain ⟨r, H', hr, hq⟩ := hc
  subst hq
  obtain ⟨k, hk⟩ := callW_iff.1 hr
  refine (am_sound hM hN hk ha (HR_in hL h)).mono ?_
  rintro e W' ⟨β', _, _, hb, v', rfl, hv⟩
  cases hv
  exact ⟨rfl, hb⟩
theorem trodAll_below {Hd : Type} {enc : TypeId × Value → Hd} (hl : laidOutB P = true) {W W' : World} (hb : Below W.heap.size W W') {sp : Nat → Bool} : ∀ {ts : List TypeId} {vs : List Value} {ds : List (DataW Hd)} {ps : List MemPlace},
    (∀ t ∈ ts, P.readableRec t = true ∧ t < P.types.size) → DataW.TrodAll enc P W 0 (fun _ => true) true ts vs ds ps → (∀ x ∈ ps, x.block < W.heap.size) → (∀ x ∈ ps, sp x.block = true) → DataW.TrodAll enc P W' 0 sp true ts vs ds ps
  | [], [], [], _, _, h, _, _ => h
  | t :: ts, v :: vs, d :: ds, _, ht, ⟨p, q, h1, h2, e⟩, hlt, hs =>
    ⟨p, q, WideElems.Trod_stays hl (ht t (by simp)).1 (ht t (by simp)).2 h1 (fun x hx => hb.same (hlt x (by rw [e]; exact List.mem_append_left _ hx))) (fun x hx => hs x (by rw [e]; exact List.mem_append_left _ hx)),
     trodAll_below hl hb (fun t' h' => ht t' (by simp [h'])) h2 (fun x hx => hlt x (by rw [e]; exact List.mem_append_right _ hx)) (fun x hx => hs x (by rw [e]; exact List.mem_append_right _ hx)), e⟩
theorem law_post {Hd : Type} {enc : TypeId × Value → Hd} (hl : laidOutB P = true) {f : Func} {s : ChangeSpec} {apart fresh handsOn again : Bool} {W W' : World} {args : Array Value} {ds gs : List (DataW Hd)} {before : List MemPlace} {tb : TypeId}
    (hW : DataW.Whole enc P f.params.toList s.vars apart W args.toList ds gs before) (hvars : s.vars = []) (hres : (s.fn Hd (ds ++ gs)).results = [.lit (.bool true)]) (hargs : (s.fn Hd (ds ++ gs)).args = ds) (hvs : (s.fn Hd (ds ++ gs)).vars = [])
    (hpar : ∀ t ∈ f.params.toList, P.readableRec t = true ∧ t < P.types.size) (hrt : f.resultTypes = #[tb]) (htb : P.underlying tb = some .bool) (hb : Below W.heap.size W W') : s.post enc P f apart fresh handsOn again W args (.bool true) W' := by
  have hW' := hW
  obtain ⟨p, q, hA, hV, rfl, hfz, hnd⟩ := hW
  rw [hvars] at hV
  have hgs : gs = [] ∧ q = [] := by obtain ⟨h1, h2⟩ := trodVars_none hV; exact ⟨h1, h2⟩
  obtain ⟨rfl, rfl⟩ := hgs
  have hlt : ∀ x ∈ p ++ [], x.block < W.heap.size := fun x hx => hW'.lt x hx
  have hok : ∀ (j : Nat) (t : TypeId) (r : Value), f.resultTypes[j]? = some t → ((Value.bool true).resultList f.resultTypes.size)[j]? = some r → Value.okWide P W' .any 0 t r := ok_one hrt rfl (okWide_bool_mk htb true)
  have hr : ∀ (b : Nat) (sp : Nat → Bool) (hd : Bool), DataW.TrodAll enc P W' b sp hd f.resultTypes.toList ((Value.bool true).resultList f.resultTypes.size) (s.fn Hd (ds ++ [])).results [] := by
    intro b sp hd
    rw [hres, hrt]
    exact trodAll_mk1 (shut_bool htb true)
  have ha : ∀ sp : Nat → Bool, (∀ x ∈ p, sp x.block = true) → DataW.TrodAll enc P W' 0 sp true f.params.toList args.toList (s.fn Hd (ds ++ [])).args p := by
    intro sp hsp
    rw [hargs]
    exact trodAll_below hl hb hpar hA (fun x hx => hlt x (by simpa using hx)) hsp
  have hv : ∀ sp : Nat → Bool, DataW.TrodVars enc P W' sp s.vars (s.fn Hd (ds ++ [])).vars [] := by
    intro sp
    rw [hvars, hvs]
    exact hV
  have hold : ∀ x ∈ p, (fun b => decide (b < W.heap.size)) x.block = true := fun x hx => by simpa using hlt x (by simpa using hx)
  refine ⟨ds, [], p ++ [], [], p, [], hW', hr _ _ _, ha _ hold, hv _, World.keptBut_mono (fun x hx => ⟨hx, .inr (by simpa using hx)⟩) (hb.frame (· ∈ p ++ [])), fun _ => ⟨hok, _, _, ([] ++ p) ++ [], ⟨[] ++ p, [], trodAll_append (ha _ (fun _ _ => rfl)) (hr _ _ _), hv _, rfl, ?_, ?_⟩, ?_⟩⟩
  · intro b off hx
    have hin : MemPlace.cell b off ∈ p ++ [] := by simpa using hx
    rw [hb.frozen (hlt _ hin)]
    exact hfz b off hin
  · intro hap
    simpa using hnd hap
  · intro x hx _
    simpa using hx
end
end Go.Am
namespace Go.Am.T
open Go Go.Am Go.Proofs.Ythanhcpnhionaaa Go.Proofs
set_option maxRecDepth 20000
def L3_1 : IC := (.seq (.seq (.reg [.o 70 (.move (.tmp 15)), .o 71 (.fieldAddr 33 (.tmp 13) 1), .o 72 (.load 28 (.tmp 71)), .o 73 (.call ⟨(.builtin .len), #[(.tmp 72)], #[28]⟩), .o 74 (.binOp .lss 3 (.tmp 70) (.tmp 73) 3)]) (.cond (.tmp 74) .skip (.exit 2))) (.seq (.block 3 (.reg [.o 77 (.fieldAddr 33 (.tmp 13) 1), .o 78 (.load 28 (.tmp 77)), .o 79 (.move (.tmp 15)), .o 80 (.build 39 #[(0, (.const (.int .i64 (-1))))]), .o 81 (.indexAddr 28 (.tmp 78) (.tmp 79)), .n (.store 39 (.tmp 81) (.tmp 80))])) (.reg [.o 75 (.move (.tmp 15)), .o 76 (.binOp .add 3 (.tmp 75) (.const (.int .i64 1)) 3), .o 15 (.assign (.tmp 76))])))
def L3_2 : IC := (.seq (.seq (.reg [.o 89 (.move (.tmp 17)), .o 90 (.fieldAddr 33 (.tmp 13) 4), .o 91 (.load 31 (.tmp 90)), .o 92 (.move (.tmp 16)), .o 93 (.indexAddr 31 (.tmp 91) (.tmp 92)), .o 94 (.load 29 (.tmp 93)), .o 95 (.call ⟨(.builtin .len), #[(.tmp 94)], #[29]⟩), .o 96 (.binOp .lss 3 (.tmp 89) (.tmp 95) 3)]) (.cond (.tmp 96) .skip (.exit 6))) (.seq (.block 7 (.reg [.o 99 (.fieldAddr 33 (.tmp 13) 4), .o 100 (.load 31 (.tmp 99)), .o 101 (.move (.tmp 16)), .o 102 (.indexAddr 31 (.tmp 100) (.tmp 101)), .o 103 (.load 29 (.tmp 102)), .o 104 (.move (.tmp 17)), .o 105 (.indexAddr 29 (.tmp 103) (.tmp 104)), .n (.store 2 (.tmp 105) (.const (.int .i64 (-5))))])) (.reg [.o 97 (.move (.tmp 17)), .o 98 (.binOp .add 3 (.tmp 97) (.const (.int .i64 1)) 3), .o 17 (.assign (.tmp 98))])))
def L3_3 : IC := (.seq (.seq (.reg [.o 82 (.move (.tmp 16)), .o 83 (.fieldAddr 33 (.tmp 13) 4), .o 84 (.load 31 (.tmp 83)), .o 85 (.call ⟨(.builtin .len), #[(.tmp 84)], #[31]⟩), .o 86 (.binOp .lss 3 (.tmp 82) (.tmp 85) 3)]) (.cond (.tmp 86) .skip (.exit 4))) (.seq (.block 5 (.seq (.reg [.o 17 (.assign (.const (.int .i64 0)))]) (.block 6 (.loop L3_2)))) (.reg [.o 87 (.move (.tmp 16)), .o 88 (.binOp .add 3 (.tmp 87) (.const (.int .i64 1)) 3), .o 16 (.assign (.tmp 88))])))
def L3_4 : IC := (.seq (.seq (.reg [.o 48 (.move (.tmp 12)), .o 49 (.binOp .lss 3 (.tmp 48) (.const (.int .i64 2)) 3)]) (.cond (.tmp 49) .skip (.exit 0))) (.seq (.block 1 (.seq (.reg [.o 53 (.move (.tmp 9)), .o 54 (.move (.tmp 1)), .o 55 (.move (.tmp 2)), .o 56 (.move (.tmp 3)), .o 57 (.call ⟨(.value (.func 14)), #[(.tmp 56)], #[3]⟩), .o 58 (.call ⟨(.value (.func 15)), #[(.tmp 53), (.tmp 54), (.tmp 55), (.tmp 57)], #[22, 3, 23, 3]⟩), .o 52 (.move (.tmp 58)), .o 59 (.extract (.tmp 52) 0), .o 60 (.extract (.tmp 52) 1), .o 13 (.alloc 33), .n (.store 33 (.tmp 13) (.tmp 59)), .o 14 (.assign (.tmp 60))]) (.seq (.seq (.reg [.o 61 (.move (.tmp 14)), .o 62 (.move (.tmp 11)), .o 63 (.binOp .neq 26 (.tmp 61) (.tmp 62) 26), .o 64 (.move (.tmp 63)), .g 64 false (some 65) (.load 33 (.tmp 13)), .g 64 false (some 66) (.load 33 (.tmp 10)), .g 64 false (some 67) (.call ⟨(.value (.func 16)), #[(.tmp 65), (.tmp 66)], #[33, 33]⟩), .g 64 false (some 68) (.unOp .not 4 (.tmp 67)), .o 69 (.pick (.tmp 64) (.const (.bool true)) (.tmp 68))]) (.cond (.tmp 69) (.seq (.reg [.o 8 (.assign (.const (.bool false)))]) .ret) .skip)) (.seq (.seq (.reg [.o 15 (.assign (.const (.int .i64 0)))]) (.block 2 (.loop L3_1))) (.seq (.reg [.o 16 (.assign (.const (.int .i64 0)))]) (.block 4 (.loop L3_3))))))) (.reg [.o 50 (.move (.tmp 12)), .o 51 (.binOp .add 3 (.tmp 50) (.const (.int .i64 1)) 3), .o 12 (.assign (.tmp 51))])))
def L3_5 : IC := (.seq (.seq (.reg [.o 130 (.move (.tmp 21)), .o 131 (.move (.tmp 18)), .o 132 (.call ⟨(.builtin .len), #[(.tmp 131)], #[23]⟩), .o 133 (.binOp .lss 3 (.tmp 130) (.tmp 132) 3)]) (.cond (.tmp 133) .skip (.exit 8))) (.seq (.block 9 (.seq (.reg [.o 136 (.move (.tmp 18)), .o 137 (.move (.tmp 21)), .o 138 (.indexAddr 23 (.tmp 136) (.tmp 137)), .o 139 (.load 3 (.tmp 138)), .o 140 (.move (.tmp 20)), .o 141 (.move (.tmp 21)), .o 142 (.indexAddr 23 (.tmp 140) (.tmp 141)), .o 143 (.load 3 (.tmp 142)), .o 144 (.binOp .neq 3 (.tmp 139) (.tmp 143) 3)]) (.cond (.tmp 144) (.seq (.reg [.o 8 (.assign (.const (.bool false)))]) .ret) .skip))) (.reg [.o 134 (.move (.tmp 21)), .o 135 (.binOp .add 3 (.tmp 134) (.const (.int .i64 1)) 3), .o 21 (.assign (.tmp 135))])))
def C3 : IC := (.seq (.reg [.o 8 (.assign (.const (.bool false)))]) (.seq (.seq (.reg [.o 22 (.call ⟨(.value (.func 9)), #[], #[]⟩), .o 23 (.unOp .not 4 (.tmp 22))]) (.cond (.tmp 23) (.seq (.reg [.o 8 (.assign (.const (.bool false)))]) .ret) .skip)) (.seq (.seq (.reg [.o 24 (.move (.tmp 0)), .o 25 (.call ⟨(.builtin .len), #[(.tmp 24)], #[22]⟩), .o 26 (.binOp .gtr 3 (.tmp 25) (.const (.int .i64 40)) 3), .o 27 (.move (.tmp 26)), .g 27 false (some 28) (.move (.tmp 2)), .g 27 false (some 29) (.call ⟨(.builtin .len), #[(.tmp 28)], #[23]⟩), .g 27 false (some 30) (.binOp .gtr 3 (.tmp 29) (.const (.int .i64 3000)) 3), .o 31 (.pick (.tmp 27) (.const (.bool true)) (.tmp 30))]) (.cond (.tmp 31) (.seq (.reg [.o 8 (.assign (.const (.bool true)))]) .ret) .skip)) (.seq (.reg [.o 32 (.move (.tmp 0)), .o 33 (.call ⟨(.value (.func 10)), #[(.tmp 32)], #[22]⟩), .o 9 (.assign (.tmp 33))]) (.seq (.seq (.reg [.o 34 (.move (.tmp 9)), .o 35 (.call ⟨(.value (.func 11)), #[(.tmp 34)], #[22]⟩), .o 36 (.move (.tmp 0)), .o 37 (.call ⟨(.value (.func 12)), #[(.tmp 36)], #[22]⟩), .o 38 (.binOp .neq 26 (.tmp 35) (.tmp 37) 26)]) (.cond (.tmp 38) (.seq (.reg [.o 8 (.assign (.const (.bool false)))]) .ret) .skip)) (.seq (.reg [.o 40 (.move (.tmp 0)), .o 41 (.move (.tmp 1)), .o 42 (.move (.tmp 2)), .o 43 (.move (.tmp 3)), .o 44 (.call ⟨(.value (.func 14)), #[(.tmp 43)], #[3]⟩), .o 45 (.call ⟨(.value (.func 13)), #[(.tmp 40), (.tmp 41), (.tmp 42), (.tmp 44)], #[22, 3, 23, 3]⟩), .o 39 (.move (.tmp 45)), .o 46 (.extract (.tmp 39) 0), .o 47 (.extract (.tmp 39) 1), .o 10 (.alloc 33), .n (.store 33 (.tmp 10) (.tmp 46)), .o 11 (.assign (.tmp 47))]) (.seq (.seq (.reg [.o 12 (.assign (.const (.int .i64 0)))]) (.block 0 (.loop L3_4))) (.seq (.reg [.o 107 (.move (.tmp 9)), .o 108 (.move (.tmp 1)), .o 109 (.move (.tmp 2)), .o 110 (.call ⟨(.value (.func 17)), #[(.tmp 107), (.tmp 108), (.tmp 109)], #[22, 3, 23]⟩), .o 106 (.move (.tmp 110)), .o 111 (.extract (.tmp 106) 0), .o 112 (.extract (.tmp 106) 1), .o 18 (.assign (.tmp 111)), .o 19 (.assign (.tmp 112))]) (.seq (.reg [.o 114 (.move (.tmp 0)), .o 115 (.move (.tmp 1)), .o 116 (.move (.tmp 2)), .o 117 (.call ⟨(.value (.func 18)), #[(.tmp 114), (.tmp 115), (.tmp 116)], #[22, 3, 23]⟩), .o 113 (.move (.tmp 117)), .o 118 (.extract (.tmp 113) 0), .o 119 (.extract (.tmp 113) 1), .o 20 (.assign (.tmp 118)), .o 11 (.assign (.tmp 119))]) (.seq (.seq (.reg [.o 120 (.move (.tmp 19)), .o 121 (.move (.tmp 11)), .o 122 (.binOp .neq 26 (.tmp 120) (.tmp 121) 26), .o 123 (.move (.tmp 122)), .g 123 false (some 124) (.move (.tmp 18)), .g 123 false (some 125) (.call ⟨(.builtin .len), #[(.tmp 124)], #[23]⟩), .g 123 false (some 126) (.move (.tmp 20)), .g 123 false (some 127) (.call ⟨(.builtin .len), #[(.tmp 126)], #[23]⟩), .g 123 false (some 128) (.binOp .neq 3 (.tmp 125) (.tmp 127) 3), .o 129 (.pick (.tmp 123) (.const (.bool true)) (.tmp 128))]) (.cond (.tmp 129) (.seq (.reg [.o 8 (.assign (.const (.bool false)))]) .ret) .skip)) (.seq (.seq (.reg [.o 21 (.assign (.const (.int .i64 0)))]) (.block 8 (.loop L3_5))) (.seq (.reg [.o 145 (.move (.tmp 9)), .o 146 (.move (.tmp 0)), .o 147 (.call ⟨(.value (.func 19)), #[(.tmp 145), (.tmp 146)], #[22, 22]⟩), .o 8 (.assign (.tmp 147))]) .ret))))))))))))
theorem if3 : ifn Try.prog 3 = some ⟨148, C3, [.tmp 8]⟩ := by kernel_rfl
def L10_1 : IC := (.seq (.seq (.reg [.o 5 (.move (.tmp 4)), .o 6 (.move (.tmp 0)), .o 7 (.call ⟨(.builtin .len), #[(.tmp 6)], #[22]⟩), .o 8 (.binOp .lss 3 (.tmp 5) (.tmp 7) 3)]) (.cond (.tmp 8) .skip (.exit 0))) (.seq (.block 1 (.drw 19 [⟨none, (some 11), (.move (.tmp 3)), .q⟩, ⟨none, (some 12), (.move (.tmp 0)), .q⟩, ⟨none, (some 13), (.move (.tmp 4)), .q⟩, ⟨none, (some 14), (.indexAddr 22 (.tmp 12) (.tmp 13)), .q⟩, ⟨none, (some 15), (.load 45 (.tmp 14)), (.r 4 [] [])⟩, ⟨none, (some 16), (.call ⟨(.builtin .append), #[(.const (.slice none 0 0)), (.tmp 15)], #[45, 45]⟩), (.c 5 [] [])⟩, ⟨none, (some 17), (.build 47 #[(0, (.const (.int .i64 (-3))))]), .q⟩, ⟨none, (some 18), (.buildSlice 45 1 #[(0, (.tmp 17))]), (.a 7)⟩, ⟨none, (some 19), (.call ⟨(.builtin .append), #[(.tmp 16), (.tmp 18)], #[45, 45]⟩), (.c 8 [7] [])⟩, ⟨none, (some 20), (.move (.tmp 0)), .q⟩, ⟨none, (some 21), (.move (.tmp 4)), .q⟩, ⟨none, (some 22), (.indexAddr 22 (.tmp 20) (.tmp 21)), .q⟩, ⟨none, (some 23), (.load 45 (.tmp 22)), (.r 12 [] [5, 8])⟩, ⟨none, (some 24), (.call ⟨(.builtin .len), #[(.tmp 23)], #[45]⟩), .q⟩, ⟨none, (some 25), (.slice 45 (.tmp 19) none (some (.tmp 24)) none), (.r 14 [7] [])⟩, ⟨none, (some 26), (.buildSlice 22 1 #[(0, (.tmp 25))]), (.a 15)⟩, ⟨none, (some 27), (.call ⟨(.builtin .append), #[(.tmp 11), (.tmp 26)], #[22, 22]⟩), (.c 16 [7, 15] [])⟩, ⟨none, (some 3), (.assign (.tmp 27)), .q⟩])) (.reg [.o 9 (.move (.tmp 4)), .o 10 (.binOp .add 3 (.tmp 9) (.const (.int .i64 1)) 3), .o 4 (.assign (.tmp 10))])))
def C10 : IC := (.seq (.reg [.o 2 (.assign (.const (.slice none 0 0)))]) (.seq (.reg [.o 3 (.assign (.const (.slice none 0 0)))]) (.seq (.seq (.reg [.o 4 (.assign (.const (.int .i64 0)))]) (.block 0 (.loop L10_1))) (.seq (.reg [.o 28 (.move (.tmp 3)), .o 2 (.assign (.tmp 28))]) .ret))))
theorem if10 : ifn Try.prog 10 = some ⟨29, C10, [.tmp 2]⟩ := by kernel_rfl
def L11_1 : IC := (.seq (.reg [.o 24 (.binOp .lss 3 (.tmp 23) (.tmp 22) 3)]) (.seq (.cond (.tmp 24) .skip (.exit 2)) (.seq (.block 3 (.seq (.reg [.o 25 (.indexAddr 45 (.tmp 21) (.tmp 23)), .o 26 (.load 47 (.tmp 25)), .o 8 (.alloc 47), .n (.store 47 (.tmp 8) (.tmp 26))]) (.seq (.reg [.o 27 (.move (.tmp 3)), .o 28 (.move (.tmp 27)), .g 28 false (some 29) (.fieldAddr 47 (.tmp 8) 0), .g 28 false (some 30) (.load 3 (.tmp 29)), .g 28 false (some 31) (.binOp .lss 3 (.tmp 30) (.const (.int .i64 1)) 3), .o 32 (.pick (.tmp 28) (.const (.bool true)) (.tmp 31)), .o 33 (.move (.tmp 32)), .g 33 false (some 34) (.fieldAddr 47 (.tmp 8) 0), .g 33 false (some 35) (.load 3 (.tmp 34)), .g 33 false (some 36) (.binOp .gtr 3 (.tmp 35) (.const (.int .i64 13)) 3), .o 37 (.pick (.tmp 33) (.const (.bool true)) (.tmp 36)), .o 3 (.assign (.tmp 37))]) (.reg [.o 38 (.move (.tmp 4)), .o 39 (.move (.tmp 38)), .g 39 false (some 40) (.load 47 (.tmp 8)), .g 39 false (some 41) (.move (.tmp 6)), .g 39 false (some 42) (.call ⟨(.builtin .len), #[(.tmp 41)], #[45]⟩), .g 39 false (some 43) (.call ⟨(.value (.func 20)), #[(.tmp 40), (.tmp 42)], #[47, 3]⟩), .g 39 false (some 44) (.unOp .not 4 (.tmp 43)), .o 45 (.pick (.tmp 39) (.const (.bool true)) (.tmp 44)), .o 4 (.assign (.tmp 45))])))) (.reg [.o 46 (.binOp .add 3 (.tmp 23) (.const (.int .i64 1)) 3), .o 23 (.move (.tmp 46))]))))
def L11_2 : IC := (.seq (.reg [.o 15 (.binOp .lss 3 (.tmp 14) (.tmp 13) 3)]) (.seq (.cond (.tmp 15) .skip (.exit 0)) (.seq (.block 1 (.seq (.reg [.o 16 (.indexAddr 22 (.tmp 12) (.tmp 14)), .o 17 (.load 45 (.tmp 16)), .o 6 (.assign (.tmp 17))]) (.seq (.seq (.reg [.o 18 (.move (.tmp 6)), .o 19 (.call ⟨(.builtin .len), #[(.tmp 18)], #[45]⟩), .o 20 (.binOp .gtr 3 (.tmp 19) (.const (.int .i64 256)) 3)]) (.cond (.tmp 20) (.seq (.reg [.o 2 (.assign (.const (.int .i64 9)))]) .ret) .skip)) (.seq (.reg [.o 21 (.move (.tmp 6)), .o 22 (.call ⟨(.builtin .len), #[(.tmp 21)], #[45]⟩), .o 23 (.move (.const (.int .i64 0)))]) (.block 2 (.loop L11_1)))))) (.reg [.o 47 (.binOp .add 3 (.tmp 14) (.const (.int .i64 1)) 3), .o 14 (.move (.tmp 47))]))))
def C11 : IC := (.seq (.reg [.o 2 (.assign (.const (.int .i64 0)))]) (.seq (.seq (.reg [.o 9 (.move (.tmp 0)), .o 10 (.call ⟨(.builtin .len), #[(.tmp 9)], #[22]⟩), .o 11 (.binOp .gtr 3 (.tmp 10) (.const (.int .i64 16)) 3)]) (.cond (.tmp 11) (.seq (.reg [.o 2 (.assign (.const (.int .i64 9)))]) .ret) .skip)) (.seq (.reg [.o 3 (.assign (.const (.bool false))), .o 4 (.assign (.const (.bool false)))]) (.seq (.seq (.reg [.o 12 (.move (.tmp 0)), .o 13 (.call ⟨(.builtin .len), #[(.tmp 12)], #[22]⟩), .o 14 (.move (.const (.int .i64 0)))]) (.block 0 (.loop L11_2))) (.seq (.block 4 (.seq (.reg [.o 49 (.move (.tmp 3)), .o 48 (.assign (.tmp 49))]) (.cond (.tmp 48) (.seq (.reg [.o 2 (.assign (.const (.int .i64 62)))]) .ret) (.seq (.reg [.o 51 (.move (.tmp 4)), .o 50 (.assign (.tmp 51))]) (.cond (.tmp 50) (.seq (.reg [.o 2 (.assign (.const (.int .i64 1)))]) .ret) .skip))))) (.seq (.reg [.o 2 (.assign (.const (.int .i64 0)))]) .ret))))))
theorem if11 : ifn Try.prog 11 = some ⟨52, C11, [.tmp 2]⟩ := by kernel_rfl
def L12_1 : IC := (.seq (.seq (.reg [.o 11 (.move (.tmp 3)), .o 12 (.move (.tmp 0)), .o 13 (.call ⟨(.builtin .len), #[(.tmp 12)], #[22]⟩), .o 14 (.binOp .lss 3 (.tmp 11) (.tmp 13) 3)]) (.cond (.tmp 14) .skip (.exit 0))) (.seq (.block 1 (.seq (.reg [.o 17 (.move (.tmp 0)), .o 18 (.move (.tmp 3)), .o 19 (.indexAddr 22 (.tmp 17) (.tmp 18)), .o 20 (.load 45 (.tmp 19)), .o 21 (.call ⟨(.builtin .len), #[(.tmp 20)], #[45]⟩), .o 22 (.binOp .gtr 3 (.tmp 21) (.const (.int .i64 256)) 3)]) (.cond (.tmp 22) (.seq (.reg [.o 2 (.assign (.const (.int .i64 9)))]) .ret) .skip))) (.reg [.o 15 (.move (.tmp 3)), .o 16 (.binOp .add 3 (.tmp 15) (.const (.int .i64 1)) 3), .o 3 (.assign (.tmp 16))])))
def L12_2 : IC := (.seq (.seq (.reg [.o 29 (.move (.tmp 5)), .o 30 (.move (.tmp 0)), .o 31 (.move (.tmp 4)), .o 32 (.indexAddr 22 (.tmp 30) (.tmp 31)), .o 33 (.load 45 (.tmp 32)), .o 34 (.call ⟨(.builtin .len), #[(.tmp 33)], #[45]⟩), .o 35 (.binOp .lss 3 (.tmp 29) (.tmp 34) 3)]) (.cond (.tmp 35) .skip (.exit 4))) (.seq (.block 5 (.seq (.reg [.o 38 (.move (.tmp 0)), .o 39 (.move (.tmp 4)), .o 40 (.indexAddr 22 (.tmp 38) (.tmp 39)), .o 41 (.load 45 (.tmp 40)), .o 42 (.move (.tmp 5)), .o 43 (.indexAddr 45 (.tmp 41) (.tmp 42)), .o 44 (.fieldAddr 47 (.tmp 43) 0), .o 45 (.load 3 (.tmp 44)), .o 46 (.binOp .lss 3 (.tmp 45) (.const (.int .i64 1)) 3), .o 47 (.move (.tmp 46)), .g 47 false (some 48) (.move (.tmp 0)), .g 47 false (some 49) (.move (.tmp 4)), .g 47 false (some 50) (.indexAddr 22 (.tmp 48) (.tmp 49)), .g 47 false (some 51) (.load 45 (.tmp 50)), .g 47 false (some 52) (.move (.tmp 5)), .g 47 false (some 53) (.indexAddr 45 (.tmp 51) (.tmp 52)), .g 47 false (some 54) (.fieldAddr 47 (.tmp 53) 0), .g 47 false (some 55) (.load 3 (.tmp 54)), .g 47 false (some 56) (.binOp .gtr 3 (.tmp 55) (.const (.int .i64 13)) 3), .o 57 (.pick (.tmp 47) (.const (.bool true)) (.tmp 56))]) (.cond (.tmp 57) (.seq (.reg [.o 2 (.assign (.const (.int .i64 62)))]) .ret) .skip))) (.reg [.o 36 (.move (.tmp 5)), .o 37 (.binOp .add 3 (.tmp 36) (.const (.int .i64 1)) 3), .o 5 (.assign (.tmp 37))])))
def L12_3 : IC := (.seq (.seq (.reg [.o 23 (.move (.tmp 4)), .o 24 (.move (.tmp 0)), .o 25 (.call ⟨(.builtin .len), #[(.tmp 24)], #[22]⟩), .o 26 (.binOp .lss 3 (.tmp 23) (.tmp 25) 3)]) (.cond (.tmp 26) .skip (.exit 2))) (.seq (.block 3 (.seq (.reg [.o 5 (.assign (.const (.int .i64 0)))]) (.block 4 (.loop L12_2)))) (.reg [.o 27 (.move (.tmp 4)), .o 28 (.binOp .add 3 (.tmp 27) (.const (.int .i64 1)) 3), .o 4 (.assign (.tmp 28))])))
def L12_4 : IC := (.seq (.seq (.reg [.o 64 (.move (.tmp 7)), .o 65 (.move (.tmp 0)), .o 66 (.move (.tmp 6)), .o 67 (.indexAddr 22 (.tmp 65) (.tmp 66)), .o 68 (.load 45 (.tmp 67)), .o 69 (.call ⟨(.builtin .len), #[(.tmp 68)], #[45]⟩), .o 70 (.binOp .lss 3 (.tmp 64) (.tmp 69) 3)]) (.cond (.tmp 70) .skip (.exit 8))) (.seq (.block 9 (.seq (.regb 15 [.o 73 (.move (.tmp 0)), .o 74 (.move (.tmp 6)), .o 75 (.indexAddr 22 (.tmp 73) (.tmp 74)), .o 76 (.load 45 (.tmp 75)), .o 77 (.move (.tmp 7)), .o 78 (.indexAddr 45 (.tmp 76) (.tmp 77)), .o 79 (.load 47 (.tmp 78)), .o 80 (.move (.tmp 0)), .o 81 (.move (.tmp 6)), .o 82 (.indexAddr 22 (.tmp 80) (.tmp 81)), .o 83 (.load 45 (.tmp 82)), .o 84 (.call ⟨(.builtin .len), #[(.tmp 83)], #[45]⟩), .o 85 (.call ⟨(.value (.func 21)), #[(.tmp 79), (.tmp 84)], #[47, 3]⟩), .o 86 (.unOp .not 4 (.tmp 85))]) (.cond (.tmp 86) (.seq (.reg [.o 2 (.assign (.const (.int .i64 1)))]) .ret) .skip))) (.reg [.o 71 (.move (.tmp 7)), .o 72 (.binOp .add 3 (.tmp 71) (.const (.int .i64 1)) 3), .o 7 (.assign (.tmp 72))])))
def L12_5 : IC := (.seq (.seq (.reg [.o 58 (.move (.tmp 6)), .o 59 (.move (.tmp 0)), .o 60 (.call ⟨(.builtin .len), #[(.tmp 59)], #[22]⟩), .o 61 (.binOp .lss 3 (.tmp 58) (.tmp 60) 3)]) (.cond (.tmp 61) .skip (.exit 6))) (.seq (.block 7 (.seq (.reg [.o 7 (.assign (.const (.int .i64 0)))]) (.block 8 (.loop L12_4)))) (.reg [.o 62 (.move (.tmp 6)), .o 63 (.binOp .add 3 (.tmp 62) (.const (.int .i64 1)) 3), .o 6 (.assign (.tmp 63))])))
def C12 : IC := (.seq (.reg [.o 2 (.assign (.const (.int .i64 0)))]) (.seq (.seq (.reg [.o 8 (.move (.tmp 0)), .o 9 (.call ⟨(.builtin .len), #[(.tmp 8)], #[22]⟩), .o 10 (.binOp .gtr 3 (.tmp 9) (.const (.int .i64 16)) 3)]) (.cond (.tmp 10) (.seq (.reg [.o 2 (.assign (.const (.int .i64 9)))]) .ret) .skip)) (.seq (.seq (.reg [.o 3 (.assign (.const (.int .i64 0)))]) (.block 0 (.loop L12_1))) (.seq (.seq (.reg [.o 4 (.assign (.const (.int .i64 0)))]) (.block 2 (.loop L12_3))) (.seq (.seq (.reg [.o 6 (.assign (.const (.int .i64 0)))]) (.block 6 (.loop L12_5))) (.seq (.reg [.o 2 (.assign (.const (.int .i64 0)))]) .ret))))))
theorem if12 : ifn Try.prog 12 = some ⟨87, C12, [.tmp 2]⟩ := by kernel_rfl
def L13_1 : IC := (.seq (.seq (.reg [.o 42 (.fieldAddr 33 (.tmp 12) 0), .o 43 (.load 3 (.tmp 42)), .o 44 (.move (.tmp 3)), .o 45 (.binOp .lss 3 (.tmp 43) (.tmp 44) 3), .o 46 (.move (.tmp 45)), .g 46 true (some 47) (.move (.tmp 13)), .g 46 true (some 48) (.call ⟨(.builtin .len), #[(.tmp 47)], #[23]⟩), .g 46 true (some 49) (.binOp .gtr 3 (.tmp 48) (.const (.int .i64 0)) 3), .o 50 (.pick (.tmp 46) (.tmp 49) (.const (.bool false)))]) (.cond (.tmp 50) .skip (.exit 0))) (.block 1 (.seq (.reg [.o 14 (.assign (.const (.int .i64 (-1))))]) (.seq (.seq (.reg [.o 51 (.fieldAddr 33 (.tmp 12) 0), .o 52 (.load 3 (.tmp 51)), .o 53 (.move (.tmp 2)), .o 54 (.call ⟨(.builtin .len), #[(.tmp 53)], #[23]⟩), .o 55 (.binOp .lss 3 (.tmp 52) (.tmp 54) 3)]) (.cond (.tmp 55) (.reg [.o 56 (.move (.tmp 2)), .o 57 (.fieldAddr 33 (.tmp 12) 0), .o 58 (.load 3 (.tmp 57)), .o 59 (.indexAddr 23 (.tmp 56) (.tmp 58)), .o 60 (.load 3 (.tmp 59)), .o 14 (.assign (.tmp 60))]) .skip)) (.seq (.reg [.o 61 (.move (.tmp 13)), .o 62 (.move (.tmp 14)), .o 63 (.move (.tmp 11)), .o 64 (.nilCheck (.tmp 63)), .o 65 (.fieldAddr 66 (.tmp 64) 6), .o 66 (.load 3 (.tmp 65)), .o 67 (.call ⟨(.value (.func 25)), #[(.tmp 61), (.tmp 62), (.tmp 66)], #[23, 3, 3]⟩), .o 15 (.assign (.tmp 67))]) (.seq (.drl 17 [⟨none, (some 68), (.fieldAddr 33 (.tmp 12) 1), .q⟩, ⟨none, (some 69), (.load 28 (.tmp 68)), (.r 1 [] [])⟩, ⟨none, (some 70), (.move (.tmp 15)), .q⟩, ⟨none, (some 71), (.move (.tmp 11)), .q⟩, ⟨none, (some 72), (.nilCheck (.tmp 71)), .q⟩, ⟨none, (some 73), (.fieldAddr 66 (.tmp 72) 0), .q⟩, ⟨none, (some 74), (.load 60 (.tmp 73)), (.r 6 [] [])⟩, ⟨none, (some 75), (.move (.tmp 15)), .q⟩, ⟨none, (some 76), (.indexAddr 60 (.tmp 74) (.tmp 75)), .q⟩, ⟨none, (some 77), (.fieldAddr 68 (.tmp 76) 1), .q⟩, ⟨none, (some 78), (.load 3 (.tmp 77)), (.r 10 [] [])⟩, ⟨none, (some 79), (.build 39 #[(0, (.tmp 70)), (1, (.tmp 78))]), .q⟩, ⟨none, (some 80), (.buildSlice 28 1 #[(0, (.tmp 79))]), (.a 12)⟩, ⟨none, (some 81), (.call ⟨(.builtin .append), #[(.tmp 69), (.tmp 80)], #[28, 28]⟩), (.c 13 [12] [])⟩, ⟨none, (some 82), (.fieldAddr 33 (.tmp 12) 1), .q⟩, ⟨none, none, (.store 28 (.tmp 82) (.tmp 81)), (.c 15 [12] [])⟩]) (.seq (.reg [.o 83 (.move (.tmp 11)), .o 84 (.move (.tmp 15)), .o 85 (.call ⟨(.value (.func 26)), #[(.tmp 83), (.tmp 84)], #[56, 3]⟩)]) (.seq (.reg [.o 86 (.fieldAddr 33 (.tmp 12) 0), .o 87 (.load 3 (.tmp 86)), .o 88 (.binOp .add 3 (.tmp 87) (.const (.int .i64 1)) 3), .o 89 (.fieldAddr 33 (.tmp 12) 0), .n (.store 3 (.tmp 89) (.tmp 88))]) (.reg [.o 90 (.move (.tmp 11)), .o 91 (.call ⟨(.value (.func 24)), #[(.tmp 90)], #[56]⟩), .o 13 (.assign (.tmp 91))])))))))))
def L13_2 : IC := (.seq (.seq (.reg [.o 100 (.move (.tmp 16)), .o 101 (.binOp .lss 3 (.tmp 100) (.const (.int .i64 4)) 3)]) (.cond (.tmp 101) .skip (.exit 2))) (.seq (.block 3 (.drw 14 [⟨none, (some 104), (.fieldAddr 33 (.tmp 12) 4), .q⟩, ⟨none, (some 105), (.load 31 (.tmp 104)), (.r 1 [] [])⟩, ⟨none, (some 106), (.move (.tmp 11)), .q⟩, ⟨none, (some 107), (.move (.tmp 16)), .q⟩, ⟨none, (some 108), (.nilCheck (.tmp 106)), .q⟩, ⟨none, (some 109), (.fieldAddr 66 (.tmp 108) 3), .q⟩, ⟨none, (some 110), (.indexAddr 63 (.tmp 109) (.tmp 107)), .q⟩, ⟨none, (some 111), (.load 29 (.tmp 110)), (.r 7 [] [])⟩, ⟨none, (some 112), (.call ⟨(.builtin .append), #[(.const (.slice none 0 0)), (.tmp 111)], #[29, 29]⟩), (.c 8 [] [1])⟩, ⟨none, (some 113), (.buildSlice 31 1 #[(0, (.tmp 112))]), (.a 9)⟩, ⟨none, (some 114), (.call ⟨(.builtin .append), #[(.tmp 105), (.tmp 113)], #[31, 31]⟩), (.c 10 [9] [])⟩, ⟨none, (some 115), (.fieldAddr 33 (.tmp 12) 4), .q⟩, ⟨none, none, (.store 31 (.tmp 115) (.tmp 114)), (.c 12 [9] [])⟩])) (.reg [.o 102 (.move (.tmp 16)), .o 103 (.binOp .add 3 (.tmp 102) (.const (.int .i64 1)) 3), .o 16 (.assign (.tmp 103))])))
def L13_3 : IC := (.seq (.seq (.reg [.o 116 (.move (.tmp 17)), .o 117 (.move (.tmp 11)), .o 118 (.nilCheck (.tmp 117)), .o 119 (.fieldAddr 66 (.tmp 118) 0), .o 120 (.load 60 (.tmp 119)), .o 121 (.call ⟨(.builtin .len), #[(.tmp 120)], #[60]⟩), .o 122 (.binOp .lss 3 (.tmp 116) (.tmp 121) 3)]) (.cond (.tmp 122) .skip (.exit 4))) (.seq (.block 5 (.seq (.drl 20 [⟨none, (some 125), (.move (.tmp 11)), .q⟩, ⟨none, (some 126), (.nilCheck (.tmp 125)), .q⟩, ⟨none, (some 127), (.fieldAddr 66 (.tmp 126) 0), .q⟩, ⟨none, (some 128), (.load 60 (.tmp 127)), (.r 3 [] [])⟩, ⟨none, (some 129), (.move (.tmp 17)), .q⟩, ⟨none, (some 130), (.indexAddr 60 (.tmp 128) (.tmp 129)), .q⟩, ⟨none, (some 131), (.fieldAddr 68 (.tmp 130) 4), .q⟩, ⟨none, (some 132), (.load 3 (.tmp 131)), (.r 7 [] [])⟩, ⟨none, (some 133), (.move (.tmp 11)), .q⟩, ⟨none, (some 134), (.nilCheck (.tmp 133)), .q⟩, ⟨none, (some 135), (.fieldAddr 66 (.tmp 134) 0), .q⟩, ⟨none, (some 136), (.load 60 (.tmp 135)), (.r 11 [] [])⟩, ⟨none, (some 137), (.move (.tmp 17)), .q⟩, ⟨none, (some 138), (.indexAddr 60 (.tmp 136) (.tmp 137)), .q⟩, ⟨none, (some 139), (.fieldAddr 68 (.tmp 138) 5), .q⟩, ⟨none, (some 140), (.load 2 (.tmp 139)), (.r 15 [] [])⟩, ⟨none, (some 141), (.build 49 #[(0, (.tmp 132)), (1, (.tmp 140))]), .q⟩, ⟨none, (some 18), (.alloc 49), (.a 17)⟩, ⟨none, none, (.store 49 (.tmp 18) (.tmp 141)), (.c 18 [17] [])⟩]) (.seq (.seq (.reg [.o 142 (.fieldAddr 49 (.tmp 18) 0), .o 143 (.load 3 (.tmp 142)), .o 144 (.binOp .eql 3 (.tmp 143) (.const (.int .i64 0)) 3)]) (.cond (.tmp 144) (.reg [.o 145 (.move (.tmp 11)), .o 146 (.move (.tmp 17)), .o 147 (.call ⟨(.value (.func 27)), #[(.tmp 145), (.tmp 146)], #[56, 3]⟩), .o 148 (.fieldAddr 49 (.tmp 18) 0), .n (.store 3 (.tmp 148) (.tmp 147))]) .skip)) (.seq (.seq (.reg [.o 149 (.fieldAddr 49 (.tmp 18) 0), .o 150 (.load 3 (.tmp 149)), .o 151 (.binOp .eql 3 (.tmp 150) (.const (.int .i64 0)) 3)]) (.cond (.tmp 151) (.reg [.o 152 (.fieldAddr 49 (.tmp 18) 0), .n (.store 3 (.tmp 152) (.const (.int .i64 3)))]) .skip)) (.reg [.o 153 (.fieldAddr 33 (.tmp 12) 3), .o 154 (.load 30 (.tmp 153)), .o 155 (.load 49 (.tmp 18)), .o 156 (.buildSlice 30 1 #[(0, (.tmp 155))]), .o 157 (.call ⟨(.builtin .append), #[(.tmp 154), (.tmp 156)], #[30, 30]⟩), .o 158 (.fieldAddr 33 (.tmp 12) 3), .n (.store 30 (.tmp 158) (.tmp 157))]))))) (.reg [.o 123 (.move (.tmp 17)), .o 124 (.binOp .add 3 (.tmp 123) (.const (.int .i64 1)) 3), .o 17 (.assign (.tmp 124))])))
def C13 : IC := (.seq (.reg [.o 8 (.alloc 33), .o 9 (.assign (.const (.int .i64 0)))]) (.seq (.reg [.o 19 (.move (.tmp 0)), .o 20 (.move (.tmp 1)), .o 21 (.move (.tmp 2)), .o 22 (.call ⟨(.value (.func 22)), #[(.tmp 19), (.tmp 20), (.tmp 21)], #[22, 3, 23]⟩), .o 10 (.assign (.tmp 22))]) (.seq (.seq (.reg [.o 23 (.move (.tmp 10)), .o 24 (.binOp .eql 26 (.tmp 23) (.const (.int .i64 0)) 26), .o 25 (.move (.tmp 24)), .g 25 true (some 26) (.move (.tmp 3)), .g 25 true (some 27) (.binOp .lss 3 (.tmp 26) (.const (.int .i64 0)) 3), .g 25 true (some 28) (.move (.tmp 27)), .g 28 false (some 29) (.move (.tmp 3)), .g 28 false (some 30) (.binOp .gtr 3 (.tmp 29) (.const (.int .i64 65536)) 3), .g 25 true (some 31) (.pick (.tmp 28) (.const (.bool true)) (.tmp 30)), .o 32 (.pick (.tmp 25) (.tmp 31) (.const (.bool false)))]) (.cond (.tmp 32) (.reg [.o 10 (.assign (.const (.int .i64 1)))]) .skip)) (.seq (.seq (.reg [.o 33 (.move (.tmp 10)), .o 34 (.binOp .neq 26 (.tmp 33) (.const (.int .i64 0)) 26)]) (.cond (.tmp 34) (.seq (.reg [.o 35 (.build 33 #[]), .o 36 (.move (.tmp 10)), .n (.store 33 (.tmp 8) (.tmp 35)), .o 9 (.assign (.tmp 36))]) .ret) .skip)) (.seq (.reg [.o 37 (.move (.tmp 0)), .o 38 (.move (.tmp 1)), .o 39 (.call ⟨(.value (.func 23)), #[(.tmp 37), (.tmp 38)], #[22, 3]⟩), .o 11 (.assign (.tmp 39))]) (.seq (.reg [.o 12 (.alloc 33)]) (.seq (.reg [.o 40 (.move (.tmp 11)), .o 41 (.call ⟨(.value (.func 24)), #[(.tmp 40)], #[56]⟩), .o 13 (.assign (.tmp 41))]) (.seq (.block 0 (.loop L13_1)) (.seq (.regb 10 [.o 92 (.fieldAddr 33 (.tmp 12) 2), .o 93 (.load 29 (.tmp 92)), .o 94 (.move (.tmp 11)), .o 95 (.nilCheck (.tmp 94)), .o 96 (.fieldAddr 66 (.tmp 95) 4), .o 97 (.slice 64 (.tmp 96) none none none), .o 98 (.call ⟨(.builtin .append), #[(.tmp 93), (.tmp 97)], #[29, 29]⟩), .o 99 (.fieldAddr 33 (.tmp 12) 2), .n (.store 29 (.tmp 99) (.tmp 98))]) (.seq (.seq (.reg [.o 16 (.assign (.const (.int .i64 0)))]) (.block 2 (.loop L13_2))) (.seq (.seq (.reg [.o 17 (.assign (.const (.int .i64 0)))]) (.block 4 (.loop L13_3))) (.seq (.reg [.o 159 (.load 33 (.tmp 12)), .n (.store 33 (.tmp 8) (.tmp 159)), .o 9 (.assign (.const (.int .i64 0)))]) .ret))))))))))))
theorem if13 : ifn Try.prog 13 = some ⟨160, C13, [.cell 8 33, .tmp 9]⟩ := by kernel_rfl
def C14 : IC := (.seq (.reg [.o 2 (.assign (.const (.int .i64 0)))]) (.seq (.seq (.reg [.o 3 (.move (.tmp 0)), .o 4 (.binOp .gtr 3 (.tmp 3) (.const (.int .i64 3000)) 3), .o 5 (.move (.tmp 4)), .g 5 true (some 6) (.move (.tmp 0)), .g 5 true (some 7) (.binOp .leq 3 (.tmp 6) (.const (.int .i64 65536)) 3), .o 8 (.pick (.tmp 5) (.tmp 7) (.const (.bool false)))]) (.cond (.tmp 8) (.seq (.reg [.o 2 (.assign (.const (.int .i64 3000)))]) .ret) .skip)) (.seq (.reg [.o 9 (.move (.tmp 0)), .o 2 (.assign (.tmp 9))]) .ret)))
theorem if14 : ifn Try.prog 14 = some ⟨10, C14, [.tmp 2]⟩ := by kernel_rfl
def L15_1 : IC := (.seq (.reg [.o 53 (.binOp .lss 3 (.tmp 52) (.const (.int .i64 4)) 3)]) (.seq (.cond (.tmp 53) .skip (.exit 0)) (.seq (.block 1 (.seq (.reg [.o 54 (.index 63 (.tmp 51) (.tmp 52)), .o 14 (.assign (.tmp 54))]) (.drw 9 [⟨none, (some 55), (.fieldAddr 33 (.tmp 12) 4), .q⟩, ⟨none, (some 56), (.load 31 (.tmp 55)), (.r 1 [] [])⟩, ⟨none, (some 57), (.move (.tmp 14)), .q⟩, ⟨none, (some 58), (.call ⟨(.builtin .append), #[(.const (.slice none 0 0)), (.tmp 57)], #[29, 29]⟩), (.c 3 [] [1])⟩, ⟨none, (some 59), (.buildSlice 31 1 #[(0, (.tmp 58))]), (.a 4)⟩, ⟨none, (some 60), (.call ⟨(.builtin .append), #[(.tmp 56), (.tmp 59)], #[31, 31]⟩), (.c 5 [4] [])⟩, ⟨none, (some 61), (.fieldAddr 33 (.tmp 12) 4), .q⟩, ⟨none, none, (.store 31 (.tmp 61) (.tmp 60)), (.c 7 [4] [])⟩]))) (.reg [.o 62 (.binOp .add 3 (.tmp 52) (.const (.int .i64 1)) 3), .o 52 (.move (.tmp 62))]))))
def L15_2 : IC := (.seq (.reg [.o 69 (.binOp .lss 3 (.tmp 68) (.tmp 67) 3)]) (.seq (.cond (.tmp 69) .skip (.exit 2)) (.seq (.block 3 (.seq (.reg [.o 70 (.indexAddr 74 (.tmp 66) (.tmp 68)), .o 71 (.load 77 (.tmp 70)), .o 16 (.assign (.tmp 71))]) (.drw 15 [⟨none, (some 72), (.fieldAddr 33 (.tmp 12) 3), .q⟩, ⟨none, (some 73), (.load 30 (.tmp 72)), (.r 1 [] [])⟩, ⟨none, (some 74), (.move (.tmp 11)), .q⟩, ⟨none, (some 75), (.move (.tmp 16)), .q⟩, ⟨none, (some 76), (.call ⟨(.value (.func 31)), #[(.tmp 74), (.tmp 75)], #[71, 77]⟩), (.c 4 [] [1])⟩, ⟨none, (some 77), (.move (.tmp 16)), .q⟩, ⟨none, (some 78), (.nilCheck (.tmp 77)), .q⟩, ⟨none, (some 79), (.fieldAddr 80 (.tmp 78) 5), .q⟩, ⟨none, (some 80), (.load 2 (.tmp 79)), (.r 8 [] [4])⟩, ⟨none, (some 81), (.build 49 #[(0, (.tmp 76)), (1, (.tmp 80))]), .q⟩, ⟨none, (some 82), (.buildSlice 30 1 #[(0, (.tmp 81))]), (.a 10)⟩, ⟨none, (some 83), (.call ⟨(.builtin .append), #[(.tmp 73), (.tmp 82)], #[30, 30]⟩), (.c 11 [10] [])⟩, ⟨none, (some 84), (.fieldAddr 33 (.tmp 12) 3), .q⟩, ⟨none, none, (.store 30 (.tmp 84) (.tmp 83)), (.c 13 [10] [])⟩]))) (.reg [.o 85 (.binOp .add 3 (.tmp 68) (.const (.int .i64 1)) 3), .o 68 (.move (.tmp 85))]))))
def C15 : IC := (.seq (.reg [.o 8 (.alloc 33), .o 9 (.assign (.const (.int .i64 0)))]) (.seq (.seq (.reg [.o 17 (.move (.tmp 0)), .o 18 (.move (.tmp 1)), .o 19 (.move (.tmp 2)), .o 20 (.move (.tmp 3)), .o 21 (.call ⟨(.value (.func 28)), #[(.tmp 17), (.tmp 18), (.tmp 19), (.tmp 20)], #[22, 3, 23, 3]⟩), .o 10 (.assign (.tmp 21))]) (.seq (.reg [.o 22 (.move (.tmp 10)), .o 23 (.binOp .neq 26 (.tmp 22) (.const (.int .i64 0)) 26)]) (.cond (.tmp 23) (.seq (.reg [.o 24 (.build 33 #[]), .o 25 (.move (.tmp 10)), .n (.store 33 (.tmp 8) (.tmp 24)), .o 9 (.assign (.tmp 25))]) .ret) .skip))) (.seq (.reg [.o 26 (.move (.tmp 0)), .o 27 (.move (.tmp 1)), .o 28 (.call ⟨(.value (.func 29)), #[(.tmp 26), (.tmp 27)], #[22, 3]⟩), .o 11 (.assign (.tmp 28))]) (.seq (.reg [.o 29 (.move (.tmp 11)), .o 30 (.move (.tmp 2)), .o 31 (.move (.tmp 3)), .o 32 (.call ⟨(.value (.func 30)), #[(.tmp 29), (.tmp 30), (.tmp 31)], #[71, 23, 3]⟩)]) (.seq (.drw 18 [⟨none, (some 33), (.move (.tmp 11)), .q⟩, ⟨none, (some 34), (.nilCheck (.tmp 33)), .q⟩, ⟨none, (some 35), (.fieldAddr 76 (.tmp 34) 7), .q⟩, ⟨none, (some 36), (.load 28 (.tmp 35)), (.r 3 [] [])⟩, ⟨none, (some 37), (.call ⟨(.builtin .len), #[(.tmp 36)], #[28]⟩), .q⟩, ⟨none, (some 38), (.move (.tmp 11)), .q⟩, ⟨none, (some 39), (.nilCheck (.tmp 38)), .q⟩, ⟨none, (some 40), (.fieldAddr 76 (.tmp 39) 7), .q⟩, ⟨none, (some 41), (.load 28 (.tmp 40)), (.r 8 [] [])⟩, ⟨none, (some 42), (.move (.tmp 11)), .q⟩, ⟨none, (some 43), (.nilCheck (.tmp 42)), .q⟩, ⟨none, (some 44), (.fieldAddr 76 (.tmp 43) 5), .q⟩, ⟨none, (some 45), (.slice 64 (.tmp 44) none none none), (.r 12 [] [])⟩, ⟨none, (some 46), (.call ⟨(.builtin .append), #[(.const (.slice none 0 0)), (.tmp 45)], #[29, 29]⟩), (.c 13 [] [3, 8])⟩, ⟨none, (some 47), (.build 33 #[(0, (.tmp 37)), (1, (.tmp 41)), (2, (.tmp 46))]), .q⟩, ⟨none, (some 12), (.alloc 33), (.a 15)⟩, ⟨none, none, (.store 33 (.tmp 12) (.tmp 47)), (.c 16 [15] [])⟩]) (.seq (.seq (.reg [.o 48 (.move (.tmp 11)), .o 49 (.nilCheck (.tmp 48)), .o 50 (.fieldAddr 76 (.tmp 49) 4), .o 51 (.load 63 (.tmp 50)), .o 52 (.move (.const (.int .i64 0)))]) (.block 0 (.loop L15_1))) (.seq (.seq (.reg [.o 63 (.move (.tmp 11)), .o 64 (.nilCheck (.tmp 63)), .o 65 (.fieldAddr 76 (.tmp 64) 0), .o 66 (.load 74 (.tmp 65)), .o 67 (.call ⟨(.builtin .len), #[(.tmp 66)], #[74]⟩), .o 68 (.move (.const (.int .i64 0)))]) (.block 2 (.loop L15_2))) (.seq (.reg [.o 86 (.load 33 (.tmp 12)), .n (.store 33 (.tmp 8) (.tmp 86)), .o 9 (.assign (.const (.int .i64 0)))]) .ret))))))))
theorem if15 : ifn Try.prog 15 = some ⟨87, C15, [.cell 8 33, .tmp 9]⟩ := by kernel_rfl
def L16_1 : IC := (.seq (.seq (.reg [.o 48 (.move (.tmp 5)), .o 49 (.fieldAddr 33 (.tmp 2) 1), .o 50 (.load 28 (.tmp 49)), .o 51 (.call ⟨(.builtin .len), #[(.tmp 50)], #[28]⟩), .o 52 (.binOp .lss 3 (.tmp 48) (.tmp 51) 3)]) (.cond (.tmp 52) .skip (.exit 0))) (.seq (.block 1 (.seq (.reg [.o 55 (.fieldAddr 33 (.tmp 2) 1), .o 56 (.load 28 (.tmp 55)), .o 57 (.move (.tmp 5)), .o 58 (.indexAddr 28 (.tmp 56) (.tmp 57)), .o 59 (.load 39 (.tmp 58)), .o 60 (.fieldAddr 33 (.tmp 3) 1), .o 61 (.load 28 (.tmp 60)), .o 62 (.move (.tmp 5)), .o 63 (.indexAddr 28 (.tmp 61) (.tmp 62)), .o 64 (.load 39 (.tmp 63)), .o 65 (.binOp .neq 39 (.tmp 59) (.tmp 64) 39)]) (.cond (.tmp 65) (.seq (.reg [.o 4 (.assign (.const (.bool false)))]) .ret) .skip))) (.reg [.o 53 (.move (.tmp 5)), .o 54 (.binOp .add 3 (.tmp 53) (.const (.int .i64 1)) 3), .o 5 (.assign (.tmp 54))])))
def L16_2 : IC := (.seq (.seq (.reg [.o 66 (.move (.tmp 6)), .o 67 (.fieldAddr 33 (.tmp 2) 3), .o 68 (.load 30 (.tmp 67)), .o 69 (.call ⟨(.builtin .len), #[(.tmp 68)], #[30]⟩), .o 70 (.binOp .lss 3 (.tmp 66) (.tmp 69) 3)]) (.cond (.tmp 70) .skip (.exit 2))) (.seq (.block 3 (.seq (.reg [.o 73 (.fieldAddr 33 (.tmp 2) 3), .o 74 (.load 30 (.tmp 73)), .o 75 (.move (.tmp 6)), .o 76 (.indexAddr 30 (.tmp 74) (.tmp 75)), .o 77 (.load 49 (.tmp 76)), .o 78 (.fieldAddr 33 (.tmp 3) 3), .o 79 (.load 30 (.tmp 78)), .o 80 (.move (.tmp 6)), .o 81 (.indexAddr 30 (.tmp 79) (.tmp 80)), .o 82 (.load 49 (.tmp 81)), .o 83 (.binOp .neq 49 (.tmp 77) (.tmp 82) 49)]) (.cond (.tmp 83) (.seq (.reg [.o 4 (.assign (.const (.bool false)))]) .ret) .skip))) (.reg [.o 71 (.move (.tmp 6)), .o 72 (.binOp .add 3 (.tmp 71) (.const (.int .i64 1)) 3), .o 6 (.assign (.tmp 72))])))
def L16_3 : IC := (.seq (.seq (.reg [.o 84 (.move (.tmp 7)), .o 85 (.fieldAddr 33 (.tmp 2) 4), .o 86 (.load 31 (.tmp 85)), .o 87 (.call ⟨(.builtin .len), #[(.tmp 86)], #[31]⟩), .o 88 (.binOp .lss 3 (.tmp 84) (.tmp 87) 3)]) (.cond (.tmp 88) .skip (.exit 4))) (.seq (.block 5 (.seq (.regb 13 [.o 91 (.fieldAddr 33 (.tmp 2) 4), .o 92 (.load 31 (.tmp 91)), .o 93 (.move (.tmp 7)), .o 94 (.indexAddr 31 (.tmp 92) (.tmp 93)), .o 95 (.load 29 (.tmp 94)), .o 96 (.fieldAddr 33 (.tmp 3) 4), .o 97 (.load 31 (.tmp 96)), .o 98 (.move (.tmp 7)), .o 99 (.indexAddr 31 (.tmp 97) (.tmp 98)), .o 100 (.load 29 (.tmp 99)), .o 101 (.call ⟨(.value (.func 32)), #[(.tmp 95), (.tmp 100)], #[29, 29]⟩), .o 102 (.unOp .not 4 (.tmp 101))]) (.cond (.tmp 102) (.seq (.reg [.o 4 (.assign (.const (.bool false)))]) .ret) .skip))) (.reg [.o 89 (.move (.tmp 7)), .o 90 (.binOp .add 3 (.tmp 89) (.const (.int .i64 1)) 3), .o 7 (.assign (.tmp 90))])))
def C16 : IC := (.seq (.reg [.o 2 (.box 33 (.tmp 0)), .o 3 (.box 33 (.tmp 1)), .o 4 (.assign (.const (.bool false)))]) (.seq (.seq (.reg [.o 8 (.fieldAddr 33 (.tmp 2) 0), .o 9 (.load 3 (.tmp 8)), .o 10 (.fieldAddr 33 (.tmp 3) 0), .o 11 (.load 3 (.tmp 10)), .o 12 (.binOp .neq 3 (.tmp 9) (.tmp 11) 3), .o 13 (.move (.tmp 12)), .g 13 false (some 14) (.fieldAddr 33 (.tmp 2) 1), .g 13 false (some 15) (.load 28 (.tmp 14)), .g 13 false (some 16) (.call ⟨(.builtin .len), #[(.tmp 15)], #[28]⟩), .g 13 false (some 17) (.fieldAddr 33 (.tmp 3) 1), .g 13 false (some 18) (.load 28 (.tmp 17)), .g 13 false (some 19) (.call ⟨(.builtin .len), #[(.tmp 18)], #[28]⟩), .g 13 false (some 20) (.binOp .neq 3 (.tmp 16) (.tmp 19) 3), .o 21 (.pick (.tmp 13) (.const (.bool true)) (.tmp 20)), .o 22 (.move (.tmp 21)), .g 22 false (some 23) (.fieldAddr 33 (.tmp 2) 3), .g 22 false (some 24) (.load 30 (.tmp 23)), .g 22 false (some 25) (.call ⟨(.builtin .len), #[(.tmp 24)], #[30]⟩), .g 22 false (some 26) (.fieldAddr 33 (.tmp 3) 3), .g 22 false (some 27) (.load 30 (.tmp 26)), .g 22 false (some 28) (.call ⟨(.builtin .len), #[(.tmp 27)], #[30]⟩), .g 22 false (some 29) (.binOp .neq 3 (.tmp 25) (.tmp 28) 3), .o 30 (.pick (.tmp 22) (.const (.bool true)) (.tmp 29)), .o 31 (.move (.tmp 30)), .g 31 false (some 32) (.fieldAddr 33 (.tmp 2) 4), .g 31 false (some 33) (.load 31 (.tmp 32)), .g 31 false (some 34) (.call ⟨(.builtin .len), #[(.tmp 33)], #[31]⟩), .g 31 false (some 35) (.fieldAddr 33 (.tmp 3) 4), .g 31 false (some 36) (.load 31 (.tmp 35)), .g 31 false (some 37) (.call ⟨(.builtin .len), #[(.tmp 36)], #[31]⟩), .g 31 false (some 38) (.binOp .neq 3 (.tmp 34) (.tmp 37) 3), .o 39 (.pick (.tmp 31) (.const (.bool true)) (.tmp 38)), .o 40 (.move (.tmp 39)), .g 40 false (some 41) (.fieldAddr 33 (.tmp 2) 2), .g 40 false (some 42) (.load 29 (.tmp 41)), .g 40 false (some 43) (.fieldAddr 33 (.tmp 3) 2), .g 40 false (some 44) (.load 29 (.tmp 43)), .g 40 false (some 45) (.call ⟨(.value (.func 32)), #[(.tmp 42), (.tmp 44)], #[29, 29]⟩), .g 40 false (some 46) (.unOp .not 4 (.tmp 45)), .o 47 (.pick (.tmp 40) (.const (.bool true)) (.tmp 46))]) (.cond (.tmp 47) (.seq (.reg [.o 4 (.assign (.const (.bool false)))]) .ret) .skip)) (.seq (.seq (.reg [.o 5 (.assign (.const (.int .i64 0)))]) (.block 0 (.loop L16_1))) (.seq (.seq (.reg [.o 6 (.assign (.const (.int .i64 0)))]) (.block 2 (.loop L16_2))) (.seq (.seq (.reg [.o 7 (.assign (.const (.int .i64 0)))]) (.block 4 (.loop L16_3))) (.seq (.reg [.o 4 (.assign (.const (.bool true)))]) .ret))))))
theorem if16 : ifn Try.prog 16 = some ⟨103, C16, [.tmp 4]⟩ := by kernel_rfl
def C17 : IC := (.seq (.reg [.o 6 (.assign (.const (.slice none 0 0))), .o 7 (.assign (.const (.int .i64 0)))]) (.seq (.seq (.reg [.o 10 (.move (.tmp 0)), .o 11 (.move (.tmp 1)), .o 12 (.move (.tmp 2)), .o 13 (.call ⟨(.value (.func 28)), #[(.tmp 10), (.tmp 11), (.tmp 12), (.const (.int .i64 0))], #[22, 3, 23, 3]⟩), .o 8 (.assign (.tmp 13))]) (.seq (.reg [.o 14 (.move (.tmp 8)), .o 15 (.binOp .neq 26 (.tmp 14) (.const (.int .i64 0)) 26)]) (.cond (.tmp 15) (.seq (.reg [.o 16 (.move (.tmp 8)), .o 6 (.assign (.const (.slice none 0 0))), .o 7 (.assign (.tmp 16))]) .ret) .skip))) (.seq (.reg [.o 17 (.move (.tmp 0)), .o 18 (.move (.tmp 1)), .o 19 (.call ⟨(.value (.func 29)), #[(.tmp 17), (.tmp 18)], #[22, 3]⟩), .o 9 (.assign (.tmp 19))]) (.seq (.reg [.o 20 (.move (.tmp 9)), .o 21 (.move (.tmp 2)), .o 22 (.move (.tmp 2)), .o 23 (.call ⟨(.builtin .len), #[(.tmp 22)], #[23]⟩), .o 24 (.call ⟨(.value (.func 30)), #[(.tmp 20), (.tmp 21), (.tmp 23)], #[71, 23, 3]⟩)]) (.seq (.reg [.o 25 (.move (.tmp 9)), .o 26 (.call ⟨(.value (.func 33)), #[(.tmp 25)], #[71]⟩), .o 6 (.assign (.tmp 26)), .o 7 (.assign (.const (.int .i64 0)))]) .ret)))))
theorem if17 : ifn Try.prog 17 = some ⟨27, C17, [.tmp 6, .tmp 7]⟩ := by kernel_rfl
def L18_1 : IC := (.seq (.seq (.reg [.o 24 (.move (.tmp 11)), .o 25 (.move (.tmp 2)), .o 26 (.call ⟨(.builtin .len), #[(.tmp 25)], #[23]⟩), .o 27 (.binOp .lss 3 (.tmp 24) (.tmp 26) 3), .o 28 (.move (.tmp 27)), .g 28 true (some 29) (.move (.tmp 10)), .g 28 true (some 30) (.call ⟨(.builtin .len), #[(.tmp 29)], #[23]⟩), .g 28 true (some 31) (.binOp .gtr 3 (.tmp 30) (.const (.int .i64 0)) 3), .o 32 (.pick (.tmp 28) (.tmp 31) (.const (.bool false)))]) (.cond (.tmp 32) .skip (.exit 0))) (.seq (.block 1 (.seq (.regb 13 [.o 35 (.move (.tmp 9)), .o 36 (.move (.tmp 10)), .o 37 (.move (.tmp 2)), .o 38 (.move (.tmp 11)), .o 39 (.indexAddr 23 (.tmp 37) (.tmp 38)), .o 40 (.load 3 (.tmp 39)), .o 41 (.move (.tmp 9)), .o 42 (.nilCheck (.tmp 41)), .o 43 (.fieldAddr 66 (.tmp 42) 6), .o 44 (.load 3 (.tmp 43)), .o 45 (.call ⟨(.value (.func 25)), #[(.tmp 36), (.tmp 40), (.tmp 44)], #[23, 3, 3]⟩), .o 46 (.call ⟨(.value (.func 26)), #[(.tmp 35), (.tmp 45)], #[56, 3]⟩)]) (.reg [.o 47 (.move (.tmp 9)), .o 48 (.call ⟨(.value (.func 24)), #[(.tmp 47)], #[56]⟩), .o 10 (.assign (.tmp 48))]))) (.reg [.o 33 (.move (.tmp 11)), .o 34 (.binOp .add 3 (.tmp 33) (.const (.int .i64 1)) 3), .o 11 (.assign (.tmp 34))])))
def C18 : IC := (.seq (.reg [.o 6 (.assign (.const (.slice none 0 0))), .o 7 (.assign (.const (.int .i64 0)))]) (.seq (.reg [.o 12 (.move (.tmp 0)), .o 13 (.move (.tmp 1)), .o 14 (.move (.tmp 2)), .o 15 (.call ⟨(.value (.func 22)), #[(.tmp 12), (.tmp 13), (.tmp 14)], #[22, 3, 23]⟩), .o 8 (.assign (.tmp 15))]) (.seq (.seq (.reg [.o 16 (.move (.tmp 8)), .o 17 (.binOp .neq 26 (.tmp 16) (.const (.int .i64 0)) 26)]) (.cond (.tmp 17) (.seq (.reg [.o 18 (.move (.tmp 8)), .o 6 (.assign (.const (.slice none 0 0))), .o 7 (.assign (.tmp 18))]) .ret) .skip)) (.seq (.reg [.o 19 (.move (.tmp 0)), .o 20 (.move (.tmp 1)), .o 21 (.call ⟨(.value (.func 23)), #[(.tmp 19), (.tmp 20)], #[22, 3]⟩), .o 9 (.assign (.tmp 21))]) (.seq (.reg [.o 22 (.move (.tmp 9)), .o 23 (.call ⟨(.value (.func 24)), #[(.tmp 22)], #[56]⟩), .o 10 (.assign (.tmp 23))]) (.seq (.seq (.reg [.o 11 (.assign (.const (.int .i64 0)))]) (.block 0 (.loop L18_1))) (.seq (.reg [.o 49 (.move (.tmp 10)), .o 6 (.assign (.tmp 49)), .o 7 (.assign (.const (.int .i64 0)))]) .ret)))))))
theorem if18 : ifn Try.prog 18 = some ⟨50, C18, [.tmp 6, .tmp 7]⟩ := by kernel_rfl
def L19_1 : IC := (.seq (.seq (.reg [.o 40 (.move (.tmp 7)), .o 41 (.move (.tmp 6)), .o 42 (.binOp .lss 3 (.tmp 40) (.tmp 41) 3)]) (.cond (.tmp 42) .skip (.exit 2))) (.seq (.block 3 (.seq (.reg [.o 45 (.move (.tmp 0)), .o 46 (.move (.tmp 5)), .o 47 (.indexAddr 22 (.tmp 45) (.tmp 46)), .o 48 (.load 45 (.tmp 47)), .o 49 (.move (.tmp 7)), .o 50 (.indexAddr 45 (.tmp 48) (.tmp 49)), .o 51 (.load 47 (.tmp 50)), .o 52 (.move (.tmp 1)), .o 53 (.move (.tmp 5)), .o 54 (.indexAddr 22 (.tmp 52) (.tmp 53)), .o 55 (.load 45 (.tmp 54)), .o 56 (.move (.tmp 7)), .o 57 (.indexAddr 45 (.tmp 55) (.tmp 56)), .o 58 (.load 47 (.tmp 57)), .o 59 (.binOp .neq 47 (.tmp 51) (.tmp 58) 47)]) (.cond (.tmp 59) (.seq (.reg [.o 4 (.assign (.const (.bool false)))]) .ret) .skip))) (.reg [.o 43 (.move (.tmp 7)), .o 44 (.binOp .add 3 (.tmp 43) (.const (.int .i64 1)) 3), .o 7 (.assign (.tmp 44))])))
def L19_2 : IC := (.seq (.seq (.reg [.o 8 (.move (.tmp 5)), .o 9 (.move (.tmp 1)), .o 10 (.call ⟨(.builtin .len), #[(.tmp 9)], #[22]⟩), .o 11 (.binOp .lss 3 (.tmp 8) (.tmp 10) 3)]) (.cond (.tmp 11) .skip (.exit 0))) (.seq (.block 1 (.seq (.reg [.o 14 (.move (.tmp 1)), .o 15 (.move (.tmp 5)), .o 16 (.indexAddr 22 (.tmp 14) (.tmp 15)), .o 17 (.load 45 (.tmp 16)), .o 18 (.call ⟨(.builtin .len), #[(.tmp 17)], #[45]⟩), .o 6 (.assign (.tmp 18))]) (.seq (.seq (.reg [.o 19 (.move (.tmp 0)), .o 20 (.move (.tmp 5)), .o 21 (.indexAddr 22 (.tmp 19) (.tmp 20)), .o 22 (.load 45 (.tmp 21)), .o 23 (.call ⟨(.builtin .len), #[(.tmp 22)], #[45]⟩), .o 24 (.move (.tmp 6)), .o 25 (.binOp .neq 3 (.tmp 23) (.tmp 24) 3), .o 26 (.move (.tmp 25)), .g 26 false (some 27) (.move (.tmp 0)), .g 26 false (some 28) (.move (.tmp 5)), .g 26 false (some 29) (.indexAddr 22 (.tmp 27) (.tmp 28)), .g 26 false (some 30) (.load 45 (.tmp 29)), .g 26 false (some 31) (.move (.tmp 6)), .g 26 false (some 32) (.binOp .add 3 (.tmp 31) (.const (.int .i64 1)) 3), .g 26 false (some 33) (.slice 45 (.tmp 30) none (some (.tmp 32)) none), .g 26 false (some 34) (.move (.tmp 6)), .g 26 false (some 35) (.indexAddr 45 (.tmp 33) (.tmp 34)), .g 26 false (some 36) (.fieldAddr 47 (.tmp 35) 0), .g 26 false (some 37) (.load 3 (.tmp 36)), .g 26 false (some 38) (.binOp .neq 3 (.tmp 37) (.const (.int .i64 (-3))) 3), .o 39 (.pick (.tmp 26) (.const (.bool true)) (.tmp 38))]) (.cond (.tmp 39) (.seq (.reg [.o 4 (.assign (.const (.bool false)))]) .ret) .skip)) (.seq (.reg [.o 7 (.assign (.const (.int .i64 0)))]) (.block 2 (.loop L19_1)))))) (.reg [.o 12 (.move (.tmp 5)), .o 13 (.binOp .add 3 (.tmp 12) (.const (.int .i64 1)) 3), .o 5 (.assign (.tmp 13))])))
def C19 : IC := (.seq (.reg [.o 4 (.assign (.const (.bool false)))]) (.seq (.seq (.reg [.o 5 (.assign (.const (.int .i64 0)))]) (.block 0 (.loop L19_2))) (.seq (.reg [.o 4 (.assign (.const (.bool true)))]) .ret)))
theorem if19 : ifn Try.prog 19 = some ⟨60, C19, [.tmp 4]⟩ := by kernel_rfl
def C20 : IC := (.seq (.reg [.o 2 (.box 47 (.tmp 0)), .o 4 (.assign (.const (.bool false)))]) (.seq (.reg [.o 8 (.load 47 (.tmp 2)), .o 5 (.alloc 47), .n (.store 47 (.tmp 5) (.tmp 8))]) (.seq (.reg [.o 9 (.fieldAddr 47 (.tmp 5) 0), .n (.store 3 (.tmp 9) (.const (.int .i64 0)))]) (.seq (.reg [.o 6 (.alloc 4), .n (.store 4 (.tmp 6) (.const (.bool true)))]) (.seq (.reg [.o 10 (.makeFunc (.func 34) #[] #[(.tmp 6)]), .o 7 (.assign (.tmp 10))]) (.seq (.seq (.reg [.o 11 (.fieldAddr 47 (.tmp 2) 0), .o 12 (.load 3 (.tmp 11))]) (.block 0 (.seq (.seq (.reg [.o 14 (.binOp .eql 3 (.tmp 12) (.const (.int .i64 1)) 3), .o 13 (.assign (.tmp 14))]) (.cond (.tmp 13) .skip (.seq (.reg [.o 15 (.binOp .eql 3 (.tmp 12) (.const (.int .i64 2)) 3), .o 13 (.assign (.tmp 15))]) (.cond (.tmp 13) .skip (.seq (.reg [.o 16 (.binOp .eql 3 (.tmp 12) (.const (.int .i64 4)) 3), .o 13 (.assign (.tmp 16))]) (.cond (.tmp 13) .skip (.reg [.o 17 (.binOp .eql 3 (.tmp 12) (.const (.int .i64 5)) 3), .o 13 (.assign (.tmp 17))]))))))) (.cond (.tmp 13) (.reg [.o 18 (.move (.tmp 7)), .o 19 (.fieldAddr 47 (.tmp 5) 1), .o 20 (.call ⟨(.value (.tmp 18)), #[(.tmp 19), (.const (.int .i64 4))], #[82, 3]⟩)]) (.seq (.reg [.o 22 (.binOp .eql 3 (.tmp 12) (.const (.int .i64 3)) 3), .o 21 (.assign (.tmp 22))]) (.cond (.tmp 21) (.seq (.reg [.o 23 (.move (.tmp 7)), .o 24 (.fieldAddr 47 (.tmp 5) 1), .o 25 (.call ⟨(.value (.tmp 23)), #[(.tmp 24), (.const (.int .i64 4))], #[82, 3]⟩)]) (.reg [.o 26 (.move (.tmp 7)), .o 27 (.fieldAddr 47 (.tmp 5) 2), .o 28 (.call ⟨(.value (.tmp 26)), #[(.tmp 27), (.const (.int .i64 4))], #[82, 3]⟩)])) (.seq (.reg [.o 30 (.binOp .eql 3 (.tmp 12) (.const (.int .i64 6)) 3), .o 29 (.assign (.tmp 30))]) (.cond (.tmp 29) (.seq (.reg [.o 31 (.move (.tmp 7)), .o 32 (.fieldAddr 47 (.tmp 5) 1), .o 33 (.call ⟨(.value (.tmp 31)), #[(.tmp 32), (.const (.int .i64 4))], #[82, 3]⟩)]) (.reg [.o 34 (.fieldAddr 47 (.tmp 5) 3), .n (.store 2 (.tmp 34) (.const (.int .i64 0)))])) (.seq (.reg [.o 36 (.binOp .eql 3 (.tmp 12) (.const (.int .i64 7)) 3), .o 35 (.assign (.tmp 36))]) (.cond (.tmp 35) (.seq (.reg [.o 37 (.move (.tmp 7)), .o 38 (.fieldAddr 47 (.tmp 5) 1), .o 39 (.call ⟨(.value (.tmp 37)), #[(.tmp 38), (.const (.int .i64 4))], #[82, 3]⟩)]) (.reg [.o 40 (.move (.tmp 7)), .o 41 (.fieldAddr 47 (.tmp 5) 2), .o 42 (.call ⟨(.value (.tmp 40)), #[(.tmp 41), (.const (.int .i64 8))], #[82, 3]⟩)])) (.seq (.reg [.o 44 (.binOp .eql 3 (.tmp 12) (.const (.int .i64 8)) 3), .o 43 (.assign (.tmp 44))]) (.cond (.tmp 43) (.seq (.reg [.o 45 (.move (.tmp 7)), .o 46 (.fieldAddr 47 (.tmp 5) 1), .o 47 (.call ⟨(.value (.tmp 45)), #[(.tmp 46), (.const (.int .i64 8))], #[82, 3]⟩)]) (.reg [.o 48 (.fieldAddr 47 (.tmp 5) 3), .n (.store 2 (.tmp 48) (.const (.int .i64 0)))])) (.seq (.reg [.o 50 (.binOp .eql 3 (.tmp 12) (.const (.int .i64 9)) 3), .o 49 (.assign (.tmp 50))]) (.cond (.tmp 49) (.seq (.reg [.o 51 (.move (.tmp 7)), .o 52 (.fieldAddr 47 (.tmp 5) 1), .o 53 (.call ⟨(.value (.tmp 51)), #[(.tmp 52), (.const (.int .i64 8))], #[82, 3]⟩)]) (.reg [.o 54 (.move (.tmp 7)), .o 55 (.fieldAddr 47 (.tmp 5) 2), .o 56 (.call ⟨(.value (.tmp 54)), #[(.tmp 55), (.const (.int .i64 8))], #[82, 3]⟩)])) (.seq (.reg [.o 58 (.binOp .eql 3 (.tmp 12) (.const (.int .i64 10)) 3), .o 57 (.assign (.tmp 58))]) (.cond (.tmp 57) (.seq (.reg [.o 59 (.move (.tmp 7)), .o 60 (.fieldAddr 47 (.tmp 5) 1), .o 61 (.call ⟨(.value (.tmp 59)), #[(.tmp 60), (.const (.int .i64 8))], #[82, 3]⟩)]) (.seq (.reg [.o 62 (.load 4 (.tmp 6)), .o 63 (.move (.tmp 62)), .g 63 true (some 64) (.fieldAddr 47 (.tmp 2) 3), .g 63 true (some 65) (.load 2 (.tmp 64)), .g 63 true (some 66) (.binOp .geq 2 (.tmp 65) (.const (.int .i64 0)) 2), .o 67 (.pick (.tmp 63) (.tmp 66) (.const (.bool false))), .o 68 (.move (.tmp 67)), .g 68 true (some 69) (.fieldAddr 47 (.tmp 2) 3), .g 68 true (some 70) (.load 2 (.tmp 69)), .g 68 true (some 71) (.binOp .leq 2 (.tmp 70) (.const (.int .i64 255)) 2), .o 72 (.pick (.tmp 68) (.tmp 71) (.const (.bool false))), .n (.store 4 (.tmp 6) (.tmp 72))]) (.reg [.o 73 (.fieldAddr 47 (.tmp 5) 3), .n (.store 2 (.tmp 73) (.const (.int .i64 0)))]))) (.seq (.reg [.o 75 (.binOp .eql 3 (.tmp 12) (.const (.int .i64 12)) 3), .o 74 (.assign (.tmp 75))]) (.cond (.tmp 74) (.reg [.o 76 (.fieldAddr 47 (.tmp 5) 3), .n (.store 2 (.tmp 76) (.const (.int .i64 0)))]) (.seq (.reg [.o 78 (.binOp .eql 3 (.tmp 12) (.const (.int .i64 13)) 3), .o 77 (.assign (.tmp 78))]) (.cond (.tmp 77) (.seq (.reg [.o 79 (.load 4 (.tmp 6)), .o 80 (.move (.tmp 79)), .g 80 true (some 81) (.fieldAddr 47 (.tmp 2) 3), .g 80 true (some 82) (.load 2 (.tmp 81)), .g 80 true (some 83) (.binOp .geq 2 (.tmp 82) (.const (.int .i64 0)) 2), .o 84 (.pick (.tmp 80) (.tmp 83) (.const (.bool false))), .o 85 (.move (.tmp 84)), .g 85 true (some 86) (.fieldAddr 47 (.tmp 2) 3), .g 85 true (some 87) (.load 2 (.tmp 86)), .g 85 true (some 88) (.move (.tmp 1)), .g 85 true (some 89) (.binOp .leq 2 (.tmp 87) (.tmp 88) 2), .o 90 (.pick (.tmp 85) (.tmp 89) (.const (.bool false))), .n (.store 4 (.tmp 6) (.tmp 90))]) (.reg [.o 91 (.fieldAddr 47 (.tmp 5) 3), .n (.store 2 (.tmp 91) (.const (.int .i64 0)))])) .skip)))))))))))))))))))) (.seq (.reg [.o 92 (.load 4 (.tmp 6)), .o 93 (.move (.tmp 92)), .g 93 true (some 94) (.load 47 (.tmp 5)), .g 93 true (some 95) (.build 47 #[]), .g 93 true (some 96) (.binOp .eql 47 (.tmp 94) (.tmp 95) 47), .o 97 (.pick (.tmp 93) (.tmp 96) (.const (.bool false))), .o 4 (.assign (.tmp 97))]) .ret)))))))
theorem if20 : ifn Try.prog 20 = some ⟨98, C20, [.tmp 4]⟩ := by kernel_rfl
def C21 : IC := (.seq (.reg [.o 2 (.box 47 (.tmp 0)), .o 4 (.assign (.const (.bool false)))]) (.seq (.reg [.o 7 (.build 86 #[(0, (.const (.int .i64 1))), (1, (.const (.int .i64 1))), (2, (.const (.int .i64 0)))]), .o 5 (.alloc 86), .n (.store 86 (.tmp 5) (.tmp 7))]) (.seq (.seq (.reg [.o 8 (.fieldAddr 47 (.tmp 2) 0), .o 9 (.load 3 (.tmp 8))]) (.block 0 (.seq (.seq (.reg [.o 11 (.binOp .eql 3 (.tmp 9) (.const (.int .i64 1)) 3), .o 10 (.assign (.tmp 11))]) (.cond (.tmp 10) .skip (.seq (.reg [.o 12 (.binOp .eql 3 (.tmp 9) (.const (.int .i64 2)) 3), .o 10 (.assign (.tmp 12))]) (.cond (.tmp 10) .skip (.seq (.reg [.o 13 (.binOp .eql 3 (.tmp 9) (.const (.int .i64 4)) 3), .o 10 (.assign (.tmp 13))]) (.cond (.tmp 10) .skip (.reg [.o 14 (.binOp .eql 3 (.tmp 9) (.const (.int .i64 5)) 3), .o 10 (.assign (.tmp 14))]))))))) (.cond (.tmp 10) (.reg [.o 15 (.build 86 #[(0, (.const (.int .i64 4))), (1, (.const (.int .i64 1))), (2, (.const (.int .i64 0)))]), .n (.store 86 (.tmp 5) (.tmp 15))]) (.seq (.reg [.o 17 (.binOp .eql 3 (.tmp 9) (.const (.int .i64 3)) 3), .o 16 (.assign (.tmp 17))]) (.cond (.tmp 16) (.reg [.o 18 (.build 86 #[(0, (.const (.int .i64 4))), (1, (.const (.int .i64 4))), (2, (.const (.int .i64 0)))]), .n (.store 86 (.tmp 5) (.tmp 18))]) (.seq (.reg [.o 20 (.binOp .eql 3 (.tmp 9) (.const (.int .i64 6)) 3), .o 19 (.assign (.tmp 20))]) (.cond (.tmp 19) (.reg [.o 21 (.build 86 #[(0, (.const (.int .i64 4))), (1, (.const (.int .i64 1))), (2, (.const (.int .i64 1)))]), .n (.store 86 (.tmp 5) (.tmp 21))]) (.seq (.reg [.o 23 (.binOp .eql 3 (.tmp 9) (.const (.int .i64 7)) 3), .o 22 (.assign (.tmp 23))]) (.cond (.tmp 22) (.reg [.o 24 (.build 86 #[(0, (.const (.int .i64 4))), (1, (.const (.int .i64 8))), (2, (.const (.int .i64 0)))]), .n (.store 86 (.tmp 5) (.tmp 24))]) (.seq (.reg [.o 26 (.binOp .eql 3 (.tmp 9) (.const (.int .i64 8)) 3), .o 25 (.assign (.tmp 26))]) (.cond (.tmp 25) (.reg [.o 27 (.build 86 #[(0, (.const (.int .i64 8))), (1, (.const (.int .i64 1))), (2, (.const (.int .i64 1)))]), .n (.store 86 (.tmp 5) (.tmp 27))]) (.seq (.reg [.o 29 (.binOp .eql 3 (.tmp 9) (.const (.int .i64 9)) 3), .o 28 (.assign (.tmp 29))]) (.cond (.tmp 28) (.reg [.o 30 (.build 86 #[(0, (.const (.int .i64 8))), (1, (.const (.int .i64 8))), (2, (.const (.int .i64 0)))]), .n (.store 86 (.tmp 5) (.tmp 30))]) (.seq (.reg [.o 32 (.binOp .eql 3 (.tmp 9) (.const (.int .i64 10)) 3), .o 31 (.assign (.tmp 32))]) (.cond (.tmp 31) (.reg [.o 33 (.build 86 #[(0, (.const (.int .i64 8))), (1, (.const (.int .i64 1))), (2, (.const (.int .i64 (-256))))]), .n (.store 86 (.tmp 5) (.tmp 33))]) (.seq (.reg [.o 35 (.binOp .eql 3 (.tmp 9) (.const (.int .i64 12)) 3), .o 34 (.assign (.tmp 35))]) (.cond (.tmp 34) (.reg [.o 36 (.build 86 #[(0, (.const (.int .i64 1))), (1, (.const (.int .i64 1))), (2, (.const (.int .i64 1)))]), .n (.store 86 (.tmp 5) (.tmp 36))]) (.seq (.reg [.o 38 (.binOp .eql 3 (.tmp 9) (.const (.int .i64 13)) 3), .o 37 (.assign (.tmp 38))]) (.cond (.tmp 37) (.reg [.o 39 (.move (.tmp 1)), .o 40 (.unOp .neg 3 (.tmp 39)), .o 41 (.binOp .sub 3 (.tmp 40) (.const (.int .i64 1)) 3), .o 42 (.build 86 #[(0, (.const (.int .i64 1))), (1, (.const (.int .i64 1))), (2, (.tmp 41))]), .n (.store 86 (.tmp 5) (.tmp 42))]) .skip)))))))))))))))))))) (.seq (.reg [.o 43 (.fieldAddr 47 (.tmp 2) 3), .o 44 (.load 2 (.tmp 43)), .o 45 (.binOp .eql 2 (.tmp 44) (.const (.int .i64 0)) 2), .o 46 (.move (.tmp 45)), .g 46 false (some 47) (.fieldAddr 86 (.tmp 5) 2), .g 46 false (some 48) (.load 3 (.tmp 47)), .g 46 false (some 49) (.binOp .eql 3 (.tmp 48) (.const (.int .i64 1)) 3), .o 50 (.pick (.tmp 46) (.const (.bool true)) (.tmp 49)), .o 51 (.move (.tmp 50)), .g 51 false (some 52) (.fieldAddr 86 (.tmp 5) 2), .g 51 false (some 53) (.load 3 (.tmp 52)), .g 51 false (some 54) (.binOp .lss 3 (.tmp 53) (.const (.int .i64 0)) 3), .g 51 false (some 55) (.move (.tmp 54)), .g 55 true (some 56) (.fieldAddr 47 (.tmp 2) 3), .g 55 true (some 57) (.load 2 (.tmp 56)), .g 55 true (some 58) (.binOp .geq 2 (.tmp 57) (.const (.int .i64 0)) 2), .g 51 false (some 59) (.pick (.tmp 55) (.tmp 58) (.const (.bool false))), .g 51 false (some 60) (.move (.tmp 59)), .g 60 true (some 61) (.fieldAddr 47 (.tmp 2) 3), .g 60 true (some 62) (.load 2 (.tmp 61)), .g 60 true (some 63) (.fieldAddr 86 (.tmp 5) 2), .g 60 true (some 64) (.load 3 (.tmp 63)), .g 60 true (some 65) (.unOp .neg 3 (.tmp 64)), .g 60 true (some 66) (.binOp .lss 2 (.tmp 62) (.tmp 65) 2), .g 51 false (some 67) (.pick (.tmp 60) (.tmp 66) (.const (.bool false))), .o 68 (.pick (.tmp 51) (.const (.bool true)) (.tmp 67)), .o 6 (.assign (.tmp 68))]) (.seq (.reg [.o 69 (.fieldAddr 47 (.tmp 2) 1), .o 70 (.load 3 (.tmp 69)), .o 71 (.binOp .geq 3 (.tmp 70) (.const (.int .i64 0)) 3), .o 72 (.move (.tmp 71)), .g 72 true (some 73) (.fieldAddr 47 (.tmp 2) 1), .g 72 true (some 74) (.load 3 (.tmp 73)), .g 72 true (some 75) (.fieldAddr 86 (.tmp 5) 0), .g 72 true (some 76) (.load 3 (.tmp 75)), .g 72 true (some 77) (.binOp .lss 3 (.tmp 74) (.tmp 76) 3), .o 78 (.pick (.tmp 72) (.tmp 77) (.const (.bool false))), .o 79 (.move (.tmp 78)), .g 79 true (some 80) (.fieldAddr 47 (.tmp 2) 2), .g 79 true (some 81) (.load 3 (.tmp 80)), .g 79 true (some 82) (.binOp .geq 3 (.tmp 81) (.const (.int .i64 0)) 3), .o 83 (.pick (.tmp 79) (.tmp 82) (.const (.bool false))), .o 84 (.move (.tmp 83)), .g 84 true (some 85) (.fieldAddr 47 (.tmp 2) 2), .g 84 true (some 86) (.load 3 (.tmp 85)), .g 84 true (some 87) (.fieldAddr 86 (.tmp 5) 1), .g 84 true (some 88) (.load 3 (.tmp 87)), .g 84 true (some 89) (.binOp .lss 3 (.tmp 86) (.tmp 88) 3), .o 90 (.pick (.tmp 84) (.tmp 89) (.const (.bool false))), .o 91 (.move (.tmp 90)), .g 91 true (some 92) (.move (.tmp 6)), .o 93 (.pick (.tmp 91) (.tmp 92) (.const (.bool false))), .o 4 (.assign (.tmp 93))]) .ret)))))
theorem if21 : ifn Try.prog 21 = some ⟨94, C21, [.tmp 4]⟩ := by kernel_rfl
def L22_1 : IC := (.seq (.seq (.reg [.o 25 (.move (.tmp 8)), .o 26 (.move (.tmp 2)), .o 27 (.call ⟨(.builtin .len), #[(.tmp 26)], #[23]⟩), .o 28 (.binOp .lss 3 (.tmp 25) (.tmp 27) 3)]) (.cond (.tmp 28) .skip (.exit 0))) (.seq (.block 1 (.seq (.reg [.o 31 (.move (.tmp 2)), .o 32 (.move (.tmp 8)), .o 33 (.indexAddr 23 (.tmp 31) (.tmp 32)), .o 34 (.load 3 (.tmp 33)), .o 35 (.binOp .lss 3 (.tmp 34) (.const (.int .i64 0)) 3)]) (.cond (.tmp 35) (.seq (.reg [.o 6 (.assign (.const (.int .i64 1)))]) .ret) .skip))) (.reg [.o 29 (.move (.tmp 8)), .o 30 (.binOp .add 3 (.tmp 29) (.const (.int .i64 1)) 3), .o 8 (.assign (.tmp 30))])))
def C22 : IC := (.seq (.reg [.o 6 (.assign (.const (.int .i64 0)))]) (.seq (.reg [.o 9 (.move (.tmp 0)), .o 10 (.call ⟨(.value (.func 12)), #[(.tmp 9)], #[22]⟩), .o 7 (.assign (.tmp 10))]) (.seq (.seq (.reg [.o 11 (.move (.tmp 7)), .o 12 (.binOp .neq 26 (.tmp 11) (.const (.int .i64 0)) 26)]) (.cond (.tmp 12) (.seq (.reg [.o 13 (.move (.tmp 7)), .o 6 (.assign (.tmp 13))]) .ret) .skip)) (.seq (.seq (.reg [.o 14 (.move (.tmp 1)), .o 15 (.binOp .lss 3 (.tmp 14) (.const (.int .i64 1)) 3), .o 16 (.move (.tmp 15)), .g 16 false (some 17) (.move (.tmp 1)), .g 16 false (some 18) (.binOp .gtr 3 (.tmp 17) (.const (.int .i64 16)) 3), .o 19 (.pick (.tmp 16) (.const (.bool true)) (.tmp 18)), .o 20 (.move (.tmp 19)), .g 20 false (some 21) (.move (.tmp 2)), .g 20 false (some 22) (.call ⟨(.builtin .len), #[(.tmp 21)], #[23]⟩), .g 20 false (some 23) (.binOp .gtr 3 (.tmp 22) (.const (.int .i64 65536)) 3), .o 24 (.pick (.tmp 20) (.const (.bool true)) (.tmp 23))]) (.cond (.tmp 24) (.seq (.reg [.o 6 (.assign (.const (.int .i64 1)))]) .ret) .skip)) (.seq (.seq (.reg [.o 8 (.assign (.const (.int .i64 0)))]) (.block 0 (.loop L22_1))) (.seq (.reg [.o 6 (.assign (.const (.int .i64 0)))]) .ret))))))
theorem if22 : ifn Try.prog 22 = some ⟨36, C22, [.tmp 6]⟩ := by kernel_rfl
def L23_1 : IC := (.seq (.seq (.reg [.o 11 (.move (.tmp 6)), .o 12 (.move (.tmp 0)), .o 13 (.call ⟨(.builtin .len), #[(.tmp 12)], #[22]⟩), .o 14 (.binOp .lss 3 (.tmp 11) (.tmp 13) 3)]) (.cond (.tmp 14) .skip (.exit 0))) (.seq (.block 1 (.seq (.reg [.o 17 (.move (.tmp 0)), .o 18 (.move (.tmp 6)), .o 19 (.indexAddr 22 (.tmp 17) (.tmp 18)), .o 20 (.load 45 (.tmp 19)), .o 21 (.build 68 #[(0, (.tmp 20)), (3, (.const (.int .i64 (-1))))]), .o 7 (.alloc 68), .n (.store 68 (.tmp 7) (.tmp 21))]) (.seq (.reg [.o 22 (.call ⟨(.value (.func 36)), #[(.tmp 7)], #[68]⟩)]) (.drl 12 [⟨none, (some 23), (.move (.tmp 5)), .q⟩, ⟨none, (some 24), (.move (.tmp 5)), .q⟩, ⟨none, (some 25), (.nilCheck (.tmp 24)), .q⟩, ⟨none, (some 26), (.fieldAddr 66 (.tmp 25) 0), .q⟩, ⟨none, (some 27), (.load 60 (.tmp 26)), (.r 4 [] [])⟩, ⟨none, (some 28), (.load 68 (.tmp 7)), (.r 5 [] [])⟩, ⟨none, (some 29), (.buildSlice 60 1 #[(0, (.tmp 28))]), (.a 6)⟩, ⟨none, (some 30), (.call ⟨(.builtin .append), #[(.tmp 27), (.tmp 29)], #[60, 60]⟩), (.c 7 [6] [])⟩, ⟨none, (some 31), (.nilCheck (.tmp 23)), .q⟩, ⟨none, (some 32), (.fieldAddr 66 (.tmp 31) 0), .q⟩, ⟨none, none, (.store 60 (.tmp 32) (.tmp 30)), (.c 10 [6] [])⟩])))) (.reg [.o 15 (.move (.tmp 6)), .o 16 (.binOp .add 3 (.tmp 15) (.const (.int .i64 1)) 3), .o 6 (.assign (.tmp 16))])))
def C23 : IC := (.seq (.reg [.o 4 (.assign (.const (.pointer none)))]) (.seq (.reg [.o 8 (.move (.tmp 1)), .o 9 (.build 66 #[(5, (.tmp 8)), (6, (.const (.int .i64 (-1))))]), .o 10 (.box 66 (.tmp 9)), .o 5 (.assign (.tmp 10))]) (.seq (.seq (.reg [.o 6 (.assign (.const (.int .i64 0)))]) (.block 0 (.loop L23_1))) (.seq (.reg [.o 33 (.move (.tmp 5)), .o 4 (.assign (.tmp 33))]) .ret))))
theorem if23 : ifn Try.prog 23 = some ⟨34, C23, [.tmp 4]⟩ := by kernel_rfl
def L24_1 : IC := (.seq (.seq (.reg [.o 5 (.move (.tmp 4)), .o 6 (.move (.tmp 0)), .o 7 (.nilCheck (.tmp 6)), .o 8 (.fieldAddr 66 (.tmp 7) 0), .o 9 (.load 60 (.tmp 8)), .o 10 (.call ⟨(.builtin .len), #[(.tmp 9)], #[60]⟩), .o 11 (.binOp .lss 3 (.tmp 5) (.tmp 10) 3)]) (.cond (.tmp 11) .skip (.exit 0))) (.seq (.block 1 (.seq (.reg [.o 14 (.move (.tmp 0)), .o 15 (.nilCheck (.tmp 14)), .o 16 (.fieldAddr 66 (.tmp 15) 0), .o 17 (.load 60 (.tmp 16)), .o 18 (.move (.tmp 4)), .o 19 (.indexAddr 60 (.tmp 17) (.tmp 18)), .o 20 (.fieldAddr 68 (.tmp 19) 4), .o 21 (.load 3 (.tmp 20)), .o 22 (.binOp .eql 3 (.tmp 21) (.const (.int .i64 0)) 3), .o 23 (.move (.tmp 22)), .g 23 true (some 24) (.move (.tmp 0)), .g 23 true (some 25) (.move (.tmp 4)), .g 23 true (some 26) (.call ⟨(.value (.func 27)), #[(.tmp 24), (.tmp 25)], #[56, 3]⟩), .g 23 true (some 27) (.binOp .eql 3 (.tmp 26) (.const (.int .i64 0)) 3), .o 28 (.pick (.tmp 23) (.tmp 27) (.const (.bool false)))]) (.cond (.tmp 28) (.reg [.o 29 (.move (.tmp 3)), .o 30 (.move (.tmp 4)), .o 31 (.buildSlice 23 1 #[(0, (.tmp 30))]), .o 32 (.call ⟨(.builtin .append), #[(.tmp 29), (.tmp 31)], #[23, 23]⟩), .o 3 (.assign (.tmp 32))]) .skip))) (.reg [.o 12 (.move (.tmp 4)), .o 13 (.binOp .add 3 (.tmp 12) (.const (.int .i64 1)) 3), .o 4 (.assign (.tmp 13))])))
def C24 : IC := (.seq (.reg [.o 2 (.assign (.const (.slice none 0 0)))]) (.seq (.reg [.o 3 (.assign (.const (.slice none 0 0)))]) (.seq (.seq (.reg [.o 4 (.assign (.const (.int .i64 0)))]) (.block 0 (.loop L24_1))) (.seq (.reg [.o 33 (.move (.tmp 3)), .o 2 (.assign (.tmp 33))]) .ret))))
theorem if24 : ifn Try.prog 24 = some ⟨34, C24, [.tmp 2]⟩ := by kernel_rfl
def L25_1 : IC := (.seq (.seq (.reg [.o 17 (.move (.tmp 7)), .o 18 (.move (.tmp 0)), .o 19 (.call ⟨(.builtin .len), #[(.tmp 18)], #[23]⟩), .o 20 (.binOp .lss 3 (.tmp 17) (.tmp 19) 3)]) (.cond (.tmp 20) .skip (.exit 0))) (.seq (.block 1 (.seq (.reg [.o 23 (.move (.tmp 0)), .o 24 (.move (.tmp 7)), .o 25 (.indexAddr 23 (.tmp 23) (.tmp 24)), .o 26 (.load 3 (.tmp 25)), .o 27 (.move (.tmp 2)), .o 28 (.binOp .gtr 3 (.tmp 26) (.tmp 27) 3)]) (.cond (.tmp 28) (.seq (.reg [.o 29 (.move (.tmp 0)), .o 30 (.move (.tmp 7)), .o 31 (.indexAddr 23 (.tmp 29) (.tmp 30)), .o 32 (.load 3 (.tmp 31)), .o 6 (.assign (.tmp 32))]) .ret) .skip))) (.reg [.o 21 (.move (.tmp 7)), .o 22 (.binOp .add 3 (.tmp 21) (.const (.int .i64 1)) 3), .o 7 (.assign (.tmp 22))])))
def C25 : IC := (.seq (.reg [.o 6 (.assign (.const (.int .i64 0)))]) (.seq (.seq (.reg [.o 8 (.move (.tmp 1)), .o 9 (.binOp .geq 3 (.tmp 8) (.const (.int .i64 0)) 3)]) (.cond (.tmp 9) (.seq (.reg [.o 10 (.move (.tmp 0)), .o 11 (.move (.tmp 1)), .o 12 (.move (.tmp 0)), .o 13 (.call ⟨(.builtin .len), #[(.tmp 12)], #[23]⟩), .o 14 (.binOp .rem 3 (.tmp 11) (.tmp 13) 3), .o 15 (.indexAddr 23 (.tmp 10) (.tmp 14)), .o 16 (.load 3 (.tmp 15)), .o 6 (.assign (.tmp 16))]) .ret) .skip)) (.seq (.seq (.reg [.o 7 (.assign (.const (.int .i64 0)))]) (.block 0 (.loop L25_1))) (.seq (.reg [.o 33 (.move (.tmp 0)), .o 34 (.indexAddr 23 (.tmp 33) (.const (.int .i64 0))), .o 35 (.load 3 (.tmp 34)), .o 6 (.assign (.tmp 35))]) .ret))))
theorem if25 : ifn Try.prog 25 = some ⟨36, C25, [.tmp 6]⟩ := by kernel_rfl
def C26 : IC := (.seq (.reg [.o 9 (.move (.tmp 0)), .o 10 (.move (.tmp 1)), .o 11 (.nilCheck (.tmp 9)), .o 12 (.fieldAddr 66 (.tmp 11) 6), .n (.store 3 (.tmp 12) (.tmp 10))]) (.seq (.reg [.o 13 (.move (.tmp 0)), .o 14 (.nilCheck (.tmp 13)), .o 15 (.fieldAddr 66 (.tmp 14) 0), .o 16 (.load 60 (.tmp 15)), .o 17 (.move (.tmp 1)), .o 18 (.indexAddr 60 (.tmp 16) (.tmp 17)), .o 4 (.assign (.tmp 18))]) (.seq (.drl 13 [⟨none, (some 19), (.move (.tmp 4)), .q⟩, ⟨none, (some 20), (.nilCheck (.tmp 19)), .q⟩, ⟨none, (some 21), (.fieldAddr 68 (.tmp 20) 0), .q⟩, ⟨none, (some 22), (.load 45 (.tmp 21)), (.r 3 [] [])⟩, ⟨none, (some 23), (.move (.tmp 4)), .q⟩, ⟨none, (some 24), (.nilCheck (.tmp 23)), .q⟩, ⟨none, (some 25), (.fieldAddr 68 (.tmp 24) 1), .q⟩, ⟨none, (some 26), (.load 3 (.tmp 25)), (.r 7 [] [])⟩, ⟨none, (some 27), (.indexAddr 45 (.tmp 22) (.tmp 26)), .q⟩, ⟨none, (some 28), (.load 47 (.tmp 27)), (.r 9 [] [])⟩, ⟨none, (some 5), (.alloc 47), (.a 10)⟩, ⟨none, none, (.store 47 (.tmp 5) (.tmp 28)), (.c 11 [10] [])⟩]) (.seq (.reg [.o 29 (.move (.tmp 4)), .o 30 (.nilCheck (.tmp 29)), .o 31 (.fieldAddr 68 (.tmp 30) 1), .o 32 (.load 3 (.tmp 31)), .o 33 (.binOp .add 3 (.tmp 32) (.const (.int .i64 1)) 3), .o 6 (.assign (.tmp 33))]) (.seq (.seq (.reg [.o 34 (.fieldAddr 47 (.tmp 5) 0), .o 35 (.load 3 (.tmp 34))]) (.block 0 (.seq (.reg [.o 37 (.binOp .eql 3 (.tmp 35) (.const (.int .i64 1)) 3), .o 36 (.assign (.tmp 37))]) (.cond (.tmp 36) (.regb 10 [.o 38 (.move (.tmp 0)), .o 39 (.fieldAddr 47 (.tmp 5) 1), .o 40 (.load 3 (.tmp 39)), .o 41 (.move (.tmp 1)), .o 42 (.binOp .add 3 (.tmp 41) (.const (.int .i64 1)) 3), .o 43 (.nilCheck (.tmp 38)), .o 44 (.fieldAddr 66 (.tmp 43) 1), .o 45 (.indexAddr 61 (.tmp 44) (.tmp 40)), .n (.store 3 (.tmp 45) (.tmp 42))]) (.seq (.reg [.o 47 (.binOp .eql 3 (.tmp 35) (.const (.int .i64 2)) 3), .o 46 (.assign (.tmp 47))]) (.cond (.tmp 46) (.seq (.seq (.reg [.o 48 (.move (.tmp 0)), .o 49 (.fieldAddr 47 (.tmp 5) 1), .o 50 (.load 3 (.tmp 49)), .o 51 (.nilCheck (.tmp 48)), .o 52 (.fieldAddr 66 (.tmp 51) 1), .o 53 (.indexAddr 61 (.tmp 52) (.tmp 50)), .o 54 (.load 3 (.tmp 53)), .o 55 (.move (.tmp 1)), .o 56 (.binOp .add 3 (.tmp 55) (.const (.int .i64 1)) 3), .o 57 (.binOp .neq 3 (.tmp 54) (.tmp 56) 3)]) (.cond (.tmp 57) (.seq (.reg [.o 58 (.move (.tmp 0)), .o 59 (.move (.tmp 1)), .o 60 (.call ⟨(.value (.func 37)), #[(.tmp 58), (.tmp 59), (.const (.int .i64 (-1)))], #[56, 3, 2]⟩)]) .ret) .skip)) (.regb 8 [.o 61 (.move (.tmp 0)), .o 62 (.fieldAddr 47 (.tmp 5) 1), .o 63 (.load 3 (.tmp 62)), .o 64 (.nilCheck (.tmp 61)), .o 65 (.fieldAddr 66 (.tmp 64) 1), .o 66 (.indexAddr 61 (.tmp 65) (.tmp 63)), .n (.store 3 (.tmp 66) (.const (.int .i64 0)))])) (.seq (.reg [.o 68 (.binOp .eql 3 (.tmp 35) (.const (.int .i64 3)) 3), .o 67 (.assign (.tmp 68))]) (.cond (.tmp 67) (.seq (.reg [.o 70 (.move (.tmp 0)), .o 71 (.move (.tmp 1)), .o 72 (.load 47 (.tmp 5)), .o 73 (.call ⟨(.value (.func 38)), #[(.tmp 70), (.tmp 71), (.tmp 72)], #[56, 3, 47]⟩), .o 69 (.move (.tmp 73)), .o 74 (.extract (.tmp 69) 0), .o 75 (.extract (.tmp 69) 1), .o 7 (.assign (.tmp 74)), .o 8 (.assign (.tmp 75))]) (.seq (.seq (.reg [.o 76 (.move (.tmp 8)), .o 77 (.unOp .not 4 (.tmp 76))]) (.cond (.tmp 77) (.seq (.reg [.o 78 (.move (.tmp 0)), .o 79 (.move (.tmp 1)), .o 80 (.call ⟨(.value (.func 37)), #[(.tmp 78), (.tmp 79), (.const (.int .i64 (-1)))], #[56, 3, 2]⟩)]) .ret) .skip)) (.seq (.reg [.o 81 (.move (.tmp 7)), .o 82 (.unOp .not 4 (.tmp 81))]) (.cond (.tmp 82) .ret .skip)))) (.seq (.reg [.o 84 (.binOp .eql 3 (.tmp 35) (.const (.int .i64 4)) 3), .o 83 (.assign (.tmp 84))]) (.cond (.tmp 83) (.reg [.o 85 (.move (.tmp 0)), .o 86 (.fieldAddr 47 (.tmp 5) 1), .o 87 (.load 3 (.tmp 86)), .o 88 (.call ⟨(.value (.func 39)), #[(.tmp 85), (.tmp 87), (.const (.int .i64 1))], #[56, 3, 3]⟩)]) (.seq (.reg [.o 90 (.binOp .eql 3 (.tmp 35) (.const (.int .i64 5)) 3), .o 89 (.assign (.tmp 90))]) (.cond (.tmp 89) (.reg [.o 91 (.move (.tmp 0)), .o 92 (.fieldAddr 47 (.tmp 5) 1), .o 93 (.load 3 (.tmp 92)), .o 94 (.call ⟨(.value (.func 39)), #[(.tmp 91), (.tmp 93), (.const (.int .i64 16))], #[56, 3, 3]⟩)]) (.seq (.reg [.o 96 (.binOp .eql 3 (.tmp 35) (.const (.int .i64 6)) 3), .o 95 (.assign (.tmp 96))]) (.cond (.tmp 95) (.drw 19 [⟨none, (some 97), (.move (.tmp 0)), .q⟩, ⟨none, (some 98), (.fieldAddr 47 (.tmp 5) 1), .q⟩, ⟨none, (some 99), (.load 3 (.tmp 98)), (.r 2 [] [])⟩, ⟨none, (some 100), (.move (.tmp 0)), .q⟩, ⟨none, (some 101), (.fieldAddr 47 (.tmp 5) 1), .q⟩, ⟨none, (some 102), (.load 3 (.tmp 101)), (.r 5 [] [])⟩, ⟨none, (some 103), (.nilCheck (.tmp 100)), .q⟩, ⟨none, (some 104), (.fieldAddr 66 (.tmp 103) 3), .q⟩, ⟨none, (some 105), (.indexAddr 63 (.tmp 104) (.tmp 102)), .q⟩, ⟨none, (some 106), (.load 29 (.tmp 105)), (.r 9 [] [])⟩, ⟨none, (some 107), (.fieldAddr 47 (.tmp 5) 3), .q⟩, ⟨none, (some 108), (.load 2 (.tmp 107)), (.r 11 [] [])⟩, ⟨none, (some 109), (.buildSlice 29 1 #[(0, (.tmp 108))]), (.a 12)⟩, ⟨none, (some 110), (.call ⟨(.builtin .append), #[(.tmp 106), (.tmp 109)], #[29, 29]⟩), (.c 13 [12] [2])⟩, ⟨none, (some 111), (.nilCheck (.tmp 97)), .q⟩, ⟨none, (some 112), (.fieldAddr 66 (.tmp 111) 3), .q⟩, ⟨none, (some 113), (.indexAddr 63 (.tmp 112) (.tmp 99)), .q⟩, ⟨none, none, (.store 29 (.tmp 113) (.tmp 110)), (.c 17 [12] [])⟩]) (.seq (.reg [.o 115 (.binOp .eql 3 (.tmp 35) (.const (.int .i64 7)) 3), .o 114 (.assign (.tmp 115))]) (.cond (.tmp 114) (.seq (.regb 17 [.o 116 (.move (.tmp 0)), .o 117 (.fieldAddr 47 (.tmp 5) 2), .o 118 (.load 3 (.tmp 117)), .o 119 (.move (.tmp 0)), .o 120 (.fieldAddr 47 (.tmp 5) 1), .o 121 (.load 3 (.tmp 120)), .o 122 (.nilCheck (.tmp 119)), .o 123 (.fieldAddr 66 (.tmp 122) 3), .o 124 (.indexAddr 63 (.tmp 123) (.tmp 121)), .o 125 (.load 29 (.tmp 124)), .o 126 (.indexAddr 29 (.tmp 125) (.const (.int .i64 0))), .o 127 (.load 2 (.tmp 126)), .o 128 (.nilCheck (.tmp 116)), .o 129 (.fieldAddr 66 (.tmp 128) 4), .o 130 (.indexAddr 64 (.tmp 129) (.tmp 118)), .n (.store 2 (.tmp 130) (.tmp 127))]) (.drw 17 [⟨none, (some 131), (.move (.tmp 0)), .q⟩, ⟨none, (some 132), (.fieldAddr 47 (.tmp 5) 1), .q⟩, ⟨none, (some 133), (.load 3 (.tmp 132)), (.r 2 [] [])⟩, ⟨none, (some 134), (.move (.tmp 0)), .q⟩, ⟨none, (some 135), (.fieldAddr 47 (.tmp 5) 1), .q⟩, ⟨none, (some 136), (.load 3 (.tmp 135)), (.r 5 [] [])⟩, ⟨none, (some 137), (.nilCheck (.tmp 134)), .q⟩, ⟨none, (some 138), (.fieldAddr 66 (.tmp 137) 3), .q⟩, ⟨none, (some 139), (.indexAddr 63 (.tmp 138) (.tmp 136)), .q⟩, ⟨none, (some 140), (.load 29 (.tmp 139)), (.r 9 [] [])⟩, ⟨none, (some 141), (.slice 29 (.tmp 140) (some (.const (.int .i64 1))) none none), (.r 10 [] [])⟩, ⟨none, (some 142), (.call ⟨(.builtin .append), #[(.const (.slice none 0 0)), (.tmp 141)], #[29, 29]⟩), (.c 11 [] [2])⟩, ⟨none, (some 143), (.nilCheck (.tmp 131)), .q⟩, ⟨none, (some 144), (.fieldAddr 66 (.tmp 143) 3), .q⟩, ⟨none, (some 145), (.indexAddr 63 (.tmp 144) (.tmp 133)), .q⟩, ⟨none, none, (.store 29 (.tmp 145) (.tmp 142)), (.c 15 [] [])⟩])) (.seq (.reg [.o 147 (.binOp .eql 3 (.tmp 35) (.const (.int .i64 8)) 3), .o 146 (.assign (.tmp 147))]) (.cond (.tmp 146) (.regb 18 [.o 148 (.move (.tmp 0)), .o 149 (.fieldAddr 47 (.tmp 5) 1), .o 150 (.load 3 (.tmp 149)), .o 151 (.move (.tmp 0)), .o 152 (.fieldAddr 47 (.tmp 5) 1), .o 153 (.load 3 (.tmp 152)), .o 154 (.nilCheck (.tmp 151)), .o 155 (.fieldAddr 66 (.tmp 154) 4), .o 156 (.indexAddr 64 (.tmp 155) (.tmp 153)), .o 157 (.load 2 (.tmp 156)), .o 158 (.fieldAddr 47 (.tmp 5) 3), .o 159 (.load 2 (.tmp 158)), .o 160 (.binOp .add 2 (.tmp 157) (.tmp 159) 2), .o 161 (.nilCheck (.tmp 148)), .o 162 (.fieldAddr 66 (.tmp 161) 4), .o 163 (.indexAddr 64 (.tmp 162) (.tmp 150)), .n (.store 2 (.tmp 163) (.tmp 160))]) (.seq (.reg [.o 165 (.binOp .eql 3 (.tmp 35) (.const (.int .i64 9)) 3), .o 164 (.assign (.tmp 165))]) (.cond (.tmp 164) (.regb 15 [.o 166 (.move (.tmp 0)), .o 167 (.fieldAddr 47 (.tmp 5) 2), .o 168 (.load 3 (.tmp 167)), .o 169 (.move (.tmp 0)), .o 170 (.fieldAddr 47 (.tmp 5) 1), .o 171 (.load 3 (.tmp 170)), .o 172 (.nilCheck (.tmp 169)), .o 173 (.fieldAddr 66 (.tmp 172) 4), .o 174 (.indexAddr 64 (.tmp 173) (.tmp 171)), .o 175 (.load 2 (.tmp 174)), .o 176 (.nilCheck (.tmp 166)), .o 177 (.fieldAddr 66 (.tmp 176) 4), .o 178 (.indexAddr 64 (.tmp 177) (.tmp 168)), .n (.store 2 (.tmp 178) (.tmp 175))]) (.seq (.reg [.o 180 (.binOp .eql 3 (.tmp 35) (.const (.int .i64 10)) 3), .o 179 (.assign (.tmp 180))]) (.cond (.tmp 179) (.seq (.reg [.o 181 (.move (.tmp 0)), .o 182 (.fieldAddr 47 (.tmp 5) 1), .o 183 (.load 3 (.tmp 182)), .o 184 (.nilCheck (.tmp 181)), .o 185 (.fieldAddr 66 (.tmp 184) 4), .o 186 (.indexAddr 64 (.tmp 185) (.tmp 183)), .o 187 (.load 2 (.tmp 186)), .o 188 (.binOp .eql 2 (.tmp 187) (.const (.int .i64 0)) 2)]) (.cond (.tmp 188) (.reg [.o 189 (.move (.tmp 6)), .o 190 (.fieldAddr 47 (.tmp 5) 3), .o 191 (.load 2 (.tmp 190)), .o 192 (.binOp .add 3 (.tmp 189) (.tmp 191) 3), .o 6 (.assign (.tmp 192))]) .skip)) (.seq (.reg [.o 194 (.binOp .eql 3 (.tmp 35) (.const (.int .i64 12)) 3), .o 193 (.assign (.tmp 194))]) (.cond (.tmp 193) (.seq (.reg [.o 195 (.move (.tmp 0)), .o 196 (.move (.tmp 1)), .o 197 (.fieldAddr 47 (.tmp 5) 3), .o 198 (.load 2 (.tmp 197)), .o 199 (.call ⟨(.value (.func 37)), #[(.tmp 195), (.tmp 196), (.tmp 198)], #[56, 3, 2]⟩)]) .ret) (.seq (.reg [.o 201 (.binOp .eql 3 (.tmp 35) (.const (.int .i64 13)) 3), .o 200 (.assign (.tmp 201))]) (.cond (.tmp 200) (.reg [.o 202 (.move (.tmp 4)), .o 203 (.fieldAddr 47 (.tmp 5) 3), .o 204 (.load 2 (.tmp 203)), .o 205 (.nilCheck (.tmp 202)), .o 206 (.fieldAddr 68 (.tmp 205) 3), .n (.store 3 (.tmp 206) (.tmp 204))]) .skip)))))))))))))))))))))))))) (.seq (.reg [.o 207 (.move (.tmp 4)), .o 208 (.move (.tmp 6)), .o 209 (.nilCheck (.tmp 207)), .o 210 (.fieldAddr 68 (.tmp 209) 1), .n (.store 3 (.tmp 210) (.tmp 208))]) (.reg [.o 211 (.move (.tmp 4)), .o 212 (.call ⟨(.value (.func 36)), #[(.tmp 211)], #[87]⟩)])))))))
theorem if26 : ifn Try.prog 26 = some ⟨213, C26, []⟩ := by kernel_rfl
def C27 : IC := (.seq (.reg [.o 4 (.assign (.const (.int .i64 0)))]) (.seq (.reg [.o 7 (.move (.tmp 0)), .o 8 (.nilCheck (.tmp 7)), .o 9 (.fieldAddr 66 (.tmp 8) 0), .o 10 (.load 60 (.tmp 9)), .o 11 (.move (.tmp 1)), .o 12 (.indexAddr 60 (.tmp 10) (.tmp 11)), .o 13 (.load 68 (.tmp 12)), .o 5 (.alloc 68), .n (.store 68 (.tmp 5) (.tmp 13))]) (.seq (.reg [.o 14 (.fieldAddr 68 (.tmp 5) 0), .o 15 (.load 45 (.tmp 14)), .o 16 (.fieldAddr 68 (.tmp 5) 1), .o 17 (.load 3 (.tmp 16)), .o 18 (.indexAddr 45 (.tmp 15) (.tmp 17)), .o 19 (.load 47 (.tmp 18)), .o 6 (.alloc 47), .n (.store 47 (.tmp 6) (.tmp 19))]) (.seq (.block 0 (.seq (.reg [.o 21 (.fieldAddr 68 (.tmp 5) 2), .o 22 (.load 3 (.tmp 21)), .o 23 (.binOp .eql 3 (.tmp 22) (.const (.int .i64 1)) 3), .o 20 (.assign (.tmp 23))]) (.cond (.tmp 20) (.seq (.reg [.o 4 (.assign (.const (.int .i64 5)))]) .ret) (.seq (.reg [.o 25 (.fieldAddr 68 (.tmp 5) 2), .o 26 (.load 3 (.tmp 25)), .o 27 (.binOp .eql 3 (.tmp 26) (.const (.int .i64 2)) 3), .o 28 (.move (.tmp 27)), .g 28 true (some 29) (.move (.tmp 0)), .g 28 true (some 30) (.fieldAddr 47 (.tmp 6) 2), .g 28 true (some 31) (.load 3 (.tmp 30)), .g 28 true (some 32) (.nilCheck (.tmp 29)), .g 28 true (some 33) (.fieldAddr 66 (.tmp 32) 1), .g 28 true (some 34) (.indexAddr 61 (.tmp 33) (.tmp 31)), .g 28 true (some 35) (.load 3 (.tmp 34)), .g 28 true (some 36) (.binOp .neq 3 (.tmp 35) (.const (.int .i64 0)) 3), .o 37 (.pick (.tmp 28) (.tmp 36) (.const (.bool false))), .o 24 (.assign (.tmp 37))]) (.cond (.tmp 24) (.seq (.reg [.o 4 (.assign (.const (.int .i64 4)))]) .ret) (.seq (.reg [.o 39 (.fieldAddr 47 (.tmp 6) 0), .o 40 (.load 3 (.tmp 39)), .o 41 (.binOp .eql 3 (.tmp 40) (.const (.int .i64 1)) 3), .o 42 (.move (.tmp 41)), .g 42 true (some 43) (.move (.tmp 0)), .g 42 true (some 44) (.fieldAddr 47 (.tmp 6) 1), .g 42 true (some 45) (.load 3 (.tmp 44)), .g 42 true (some 46) (.nilCheck (.tmp 43)), .g 42 true (some 47) (.fieldAddr 66 (.tmp 46) 1), .g 42 true (some 48) (.indexAddr 61 (.tmp 47) (.tmp 45)), .g 42 true (some 49) (.load 3 (.tmp 48)), .g 42 true (some 50) (.binOp .neq 3 (.tmp 49) (.const (.int .i64 0)) 3), .o 51 (.pick (.tmp 42) (.tmp 50) (.const (.bool false))), .o 38 (.assign (.tmp 51))]) (.cond (.tmp 38) (.seq (.reg [.o 4 (.assign (.const (.int .i64 4)))]) .ret) (.seq (.reg [.o 53 (.fieldAddr 47 (.tmp 6) 0), .o 54 (.load 3 (.tmp 53)), .o 55 (.binOp .eql 3 (.tmp 54) (.const (.int .i64 6)) 3), .o 56 (.move (.tmp 55)), .g 56 true (some 57) (.move (.tmp 0)), .g 56 true (some 58) (.fieldAddr 47 (.tmp 6) 1), .g 56 true (some 59) (.load 3 (.tmp 58)), .g 56 true (some 60) (.nilCheck (.tmp 57)), .g 56 true (some 61) (.fieldAddr 66 (.tmp 60) 3), .g 56 true (some 62) (.indexAddr 63 (.tmp 61) (.tmp 59)), .g 56 true (some 63) (.load 29 (.tmp 62)), .g 56 true (some 64) (.call ⟨(.builtin .len), #[(.tmp 63)], #[29]⟩), .g 56 true (some 65) (.move (.tmp 0)), .g 56 true (some 66) (.nilCheck (.tmp 65)), .g 56 true (some 67) (.fieldAddr 66 (.tmp 66) 5), .g 56 true (some 68) (.load 3 (.tmp 67)), .g 56 true (some 69) (.binOp .geq 3 (.tmp 64) (.tmp 68) 3), .o 70 (.pick (.tmp 56) (.tmp 69) (.const (.bool false))), .o 52 (.assign (.tmp 70))]) (.cond (.tmp 52) (.seq (.reg [.o 4 (.assign (.const (.int .i64 6)))]) .ret) (.seq (.reg [.o 72 (.fieldAddr 47 (.tmp 6) 0), .o 73 (.load 3 (.tmp 72)), .o 74 (.binOp .eql 3 (.tmp 73) (.const (.int .i64 7)) 3), .o 75 (.move (.tmp 74)), .g 75 true (some 76) (.move (.tmp 0)), .g 75 true (some 77) (.fieldAddr 47 (.tmp 6) 1), .g 75 true (some 78) (.load 3 (.tmp 77)), .g 75 true (some 79) (.nilCheck (.tmp 76)), .g 75 true (some 80) (.fieldAddr 66 (.tmp 79) 3), .g 75 true (some 81) (.indexAddr 63 (.tmp 80) (.tmp 78)), .g 75 true (some 82) (.load 29 (.tmp 81)), .g 75 true (some 83) (.call ⟨(.builtin .len), #[(.tmp 82)], #[29]⟩), .g 75 true (some 84) (.binOp .eql 3 (.tmp 83) (.const (.int .i64 0)) 3), .o 85 (.pick (.tmp 75) (.tmp 84) (.const (.bool false))), .o 71 (.assign (.tmp 85))]) (.cond (.tmp 71) (.seq (.reg [.o 4 (.assign (.const (.int .i64 7)))]) .ret) .skip))))))))))) (.seq (.reg [.o 4 (.assign (.const (.int .i64 0)))]) .ret)))))
theorem if27 : ifn Try.prog 27 = some ⟨86, C27, [.tmp 4]⟩ := by kernel_rfl
def L28_1 : IC := (.seq (.reg [.o 39 (.binOp .lss 3 (.tmp 38) (.tmp 37) 3)]) (.seq (.cond (.tmp 39) .skip (.exit 0)) (.seq (.block 1 (.seq (.reg [.o 40 (.indexAddr 23 (.tmp 36) (.tmp 38)), .o 41 (.load 3 (.tmp 40)), .o 11 (.assign (.tmp 41))]) (.seq (.reg [.o 42 (.move (.tmp 11)), .o 43 (.binOp .lss 3 (.tmp 42) (.const (.int .i64 0)) 3)]) (.cond (.tmp 43) (.seq (.reg [.o 8 (.assign (.const (.int .i64 1)))]) .ret) .skip)))) (.reg [.o 44 (.binOp .add 3 (.tmp 38) (.const (.int .i64 1)) 3), .o 38 (.move (.tmp 44))]))))
def C28 : IC := (.seq (.reg [.o 8 (.assign (.const (.int .i64 0)))]) (.seq (.seq (.reg [.o 12 (.move (.tmp 0)), .o 13 (.call ⟨(.value (.func 11)), #[(.tmp 12)], #[22]⟩), .o 9 (.assign (.tmp 13))]) (.seq (.reg [.o 14 (.move (.tmp 9)), .o 15 (.binOp .neq 26 (.tmp 14) (.const (.int .i64 0)) 26)]) (.cond (.tmp 15) (.seq (.reg [.o 16 (.move (.tmp 9)), .o 8 (.assign (.tmp 16))]) .ret) .skip))) (.seq (.seq (.reg [.o 17 (.move (.tmp 1)), .o 18 (.binOp .lss 3 (.tmp 17) (.const (.int .i64 1)) 3), .o 19 (.move (.tmp 18)), .g 19 false (some 20) (.move (.tmp 1)), .g 19 false (some 21) (.binOp .gtr 3 (.tmp 20) (.const (.int .i64 16)) 3), .o 22 (.pick (.tmp 19) (.const (.bool true)) (.tmp 21)), .o 23 (.move (.tmp 22)), .g 23 false (some 24) (.move (.tmp 3)), .g 23 false (some 25) (.binOp .lss 3 (.tmp 24) (.const (.int .i64 0)) 3), .o 26 (.pick (.tmp 23) (.const (.bool true)) (.tmp 25)), .o 27 (.move (.tmp 26)), .g 27 false (some 28) (.move (.tmp 3)), .g 27 false (some 29) (.binOp .gtr 3 (.tmp 28) (.const (.int .i64 65536)) 3), .o 30 (.pick (.tmp 27) (.const (.bool true)) (.tmp 29)), .o 31 (.move (.tmp 30)), .g 31 false (some 32) (.move (.tmp 2)), .g 31 false (some 33) (.call ⟨(.builtin .len), #[(.tmp 32)], #[23]⟩), .g 31 false (some 34) (.binOp .gtr 3 (.tmp 33) (.const (.int .i64 65536)) 3), .o 35 (.pick (.tmp 31) (.const (.bool true)) (.tmp 34))]) (.cond (.tmp 35) (.seq (.reg [.o 8 (.assign (.const (.int .i64 1)))]) .ret) .skip)) (.seq (.seq (.reg [.o 36 (.move (.tmp 2)), .o 37 (.call ⟨(.builtin .len), #[(.tmp 36)], #[23]⟩), .o 38 (.move (.const (.int .i64 0)))]) (.block 0 (.loop L28_1))) (.seq (.reg [.o 8 (.assign (.const (.int .i64 0)))]) .ret)))))
theorem if28 : ifn Try.prog 28 = some ⟨45, C28, [.tmp 8]⟩ := by kernel_rfl
def L29_1 : IC := (.seq (.reg [.o 13 (.binOp .lss 3 (.tmp 12) (.const (.int .i64 4)) 3)]) (.seq (.cond (.tmp 13) .skip (.exit 0)) (.seq (.block 1 (.seq (.reg [.o 14 (.move (.tmp 12)), .o 6 (.assign (.tmp 14))]) (.reg [.o 15 (.move (.tmp 5)), .o 16 (.move (.tmp 6)), .o 17 (.nilCheck (.tmp 15)), .o 18 (.fieldAddr 76 (.tmp 17) 2), .o 19 (.indexAddr 61 (.tmp 18) (.tmp 16)), .n (.store 3 (.tmp 19) (.const (.int .i64 (-1))))]))) (.reg [.o 20 (.binOp .add 3 (.tmp 12) (.const (.int .i64 1)) 3), .o 12 (.move (.tmp 20))]))))
def L29_2 : IC := (.seq (.reg [.o 24 (.binOp .lss 3 (.tmp 23) (.tmp 22) 3)]) (.seq (.cond (.tmp 24) .skip (.exit 2)) (.seq (.block 3 (.seq (.reg [.o 25 (.indexAddr 22 (.tmp 21) (.tmp 23)), .o 26 (.load 45 (.tmp 25)), .o 8 (.assign (.tmp 26))]) (.reg [.o 27 (.move (.tmp 5)), .o 28 (.move (.tmp 5)), .o 29 (.nilCheck (.tmp 28)), .o 30 (.fieldAddr 76 (.tmp 29) 0), .o 31 (.load 74 (.tmp 30)), .o 32 (.move (.tmp 8)), .o 33 (.build 80 #[(0, (.tmp 32)), (2, (.const (.int .i64 (-1))))]), .o 34 (.box 80 (.tmp 33)), .o 35 (.buildSlice 74 1 #[(0, (.tmp 34))]), .o 36 (.call ⟨(.builtin .append), #[(.tmp 31), (.tmp 35)], #[74, 74]⟩), .o 37 (.nilCheck (.tmp 27)), .o 38 (.fieldAddr 76 (.tmp 37) 0), .n (.store 74 (.tmp 38) (.tmp 36))]))) (.reg [.o 39 (.binOp .add 3 (.tmp 23) (.const (.int .i64 1)) 3), .o 23 (.move (.tmp 39))]))))
def C29 : IC := (.seq (.reg [.o 4 (.assign (.const (.pointer none)))]) (.seq (.reg [.o 9 (.move (.tmp 1)), .o 10 (.build 76 #[(1, (.tmp 9)), (6, (.const (.int .i64 (-1))))]), .o 11 (.box 76 (.tmp 10)), .o 5 (.assign (.tmp 11))]) (.seq (.seq (.reg [.o 12 (.move (.const (.int .i64 0)))]) (.block 0 (.loop L29_1))) (.seq (.seq (.reg [.o 21 (.move (.tmp 0)), .o 22 (.call ⟨(.builtin .len), #[(.tmp 21)], #[22]⟩), .o 23 (.move (.const (.int .i64 0)))]) (.block 2 (.loop L29_2))) (.seq (.reg [.o 40 (.move (.tmp 5)), .o 4 (.assign (.tmp 40))]) .ret)))))
theorem if29 : ifn Try.prog 29 = some ⟨41, C29, [.tmp 4]⟩ := by kernel_rfl
def L30_1 : IC := (.seq (.seq (.reg [.o 7 (.move (.tmp 0)), .o 8 (.nilCheck (.tmp 7)), .o 9 (.fieldAddr 76 (.tmp 8) 7), .o 10 (.load 28 (.tmp 9)), .o 11 (.call ⟨(.builtin .len), #[(.tmp 10)], #[28]⟩), .o 12 (.move (.tmp 2)), .o 13 (.binOp .lss 3 (.tmp 11) (.tmp 12) 3)]) (.cond (.tmp 13) .skip (.exit 0))) (.block 1 (.seq (.reg [.o 14 (.move (.tmp 0)), .o 15 (.call ⟨(.value (.func 33)), #[(.tmp 14)], #[71]⟩), .o 6 (.assign (.tmp 15))]) (.seq (.seq (.reg [.o 16 (.move (.tmp 6)), .o 17 (.call ⟨(.builtin .len), #[(.tmp 16)], #[23]⟩), .o 18 (.binOp .eql 3 (.tmp 17) (.const (.int .i64 0)) 3)]) (.cond (.tmp 18) .ret .skip)) (.reg [.o 19 (.move (.tmp 0)), .o 20 (.move (.tmp 0)), .o 21 (.move (.tmp 6)), .o 22 (.move (.tmp 1)), .o 23 (.call ⟨(.value (.func 41)), #[(.tmp 20), (.tmp 21), (.tmp 22)], #[71, 23, 23]⟩), .o 24 (.call ⟨(.value (.func 40)), #[(.tmp 19), (.tmp 23)], #[71, 3]⟩)])))))
def C30 : IC := (.block 0 (.loop L30_1))
theorem if30 : ifn Try.prog 30 = some ⟨25, C30, []⟩ := by kernel_rfl
def C31 : IC := (.seq (.reg [.o 4 (.assign (.const (.int .i64 0)))]) (.seq (.seq (.reg [.o 6 (.move (.tmp 1)), .o 7 (.nilCheck (.tmp 6)), .o 8 (.fieldAddr 80 (.tmp 7) 4), .o 9 (.load 4 (.tmp 8))]) (.cond (.tmp 9) (.seq (.reg [.o 4 (.assign (.const (.int .i64 2)))]) .ret) .skip)) (.seq (.seq (.reg [.o 10 (.move (.tmp 1)), .o 11 (.call ⟨(.value (.func 42)), #[(.tmp 10)], #[77]⟩)]) (.cond (.tmp 11) (.seq (.reg [.o 4 (.assign (.const (.int .i64 1)))]) .ret) .skip)) (.seq (.reg [.o 12 (.move (.tmp 1)), .o 13 (.call ⟨(.value (.func 43)), #[(.tmp 12)], #[77]⟩), .o 5 (.alloc 47), .n (.store 47 (.tmp 5) (.tmp 13))]) (.seq (.block 0 (.seq (.seq (.reg [.o 15 (.fieldAddr 47 (.tmp 5) 0), .o 16 (.load 3 (.tmp 15)), .o 17 (.binOp .eql 3 (.tmp 16) (.const (.int .i64 1)) 3), .o 18 (.move (.tmp 17)), .g 18 true (some 19) (.move (.tmp 0)), .g 18 true (some 20) (.fieldAddr 47 (.tmp 5) 1), .g 18 true (some 21) (.load 3 (.tmp 20)), .g 18 true (some 22) (.nilCheck (.tmp 19)), .g 18 true (some 23) (.fieldAddr 76 (.tmp 22) 2), .g 18 true (some 24) (.indexAddr 61 (.tmp 23) (.tmp 21)), .g 18 true (some 25) (.load 3 (.tmp 24)), .g 18 true (some 26) (.binOp .geq 3 (.tmp 25) (.const (.int .i64 0)) 3), .o 27 (.pick (.tmp 18) (.tmp 26) (.const (.bool false))), .o 14 (.assign (.tmp 27))]) (.cond (.tmp 14) .skip (.reg [.o 28 (.fieldAddr 47 (.tmp 5) 0), .o 29 (.load 3 (.tmp 28)), .o 30 (.binOp .eql 3 (.tmp 29) (.const (.int .i64 3)) 3), .o 31 (.move (.tmp 30)), .g 31 true (some 32) (.move (.tmp 1)), .g 31 true (some 33) (.nilCheck (.tmp 32)), .g 31 true (some 34) (.fieldAddr 80 (.tmp 33) 3), .g 31 true (some 35) (.load 3 (.tmp 34)), .g 31 true (some 36) (.binOp .eql 3 (.tmp 35) (.const (.int .i64 2)) 3), .o 37 (.pick (.tmp 31) (.tmp 36) (.const (.bool false))), .o 38 (.move (.tmp 37)), .g 38 true (some 39) (.move (.tmp 0)), .g 38 true (some 40) (.fieldAddr 47 (.tmp 5) 2), .g 38 true (some 41) (.load 3 (.tmp 40)), .g 38 true (some 42) (.nilCheck (.tmp 39)), .g 38 true (some 43) (.fieldAddr 76 (.tmp 42) 2), .g 38 true (some 44) (.indexAddr 61 (.tmp 43) (.tmp 41)), .g 38 true (some 45) (.load 3 (.tmp 44)), .g 38 true (some 46) (.binOp .geq 3 (.tmp 45) (.const (.int .i64 0)) 3), .o 47 (.pick (.tmp 38) (.tmp 46) (.const (.bool false))), .o 14 (.assign (.tmp 47))]))) (.cond (.tmp 14) (.seq (.reg [.o 4 (.assign (.const (.int .i64 4)))]) .ret) (.seq (.reg [.o 49 (.fieldAddr 47 (.tmp 5) 0), .o 50 (.load 3 (.tmp 49)), .o 51 (.binOp .eql 3 (.tmp 50) (.const (.int .i64 3)) 3), .o 52 (.move (.tmp 51)), .g 52 true (some 53) (.move (.tmp 1)), .g 52 true (some 54) (.nilCheck (.tmp 53)), .g 52 true (some 55) (.fieldAddr 80 (.tmp 54) 3), .g 52 true (some 56) (.load 3 (.tmp 55)), .g 52 true (some 57) (.binOp .eql 3 (.tmp 56) (.const (.int .i64 1)) 3), .o 58 (.pick (.tmp 52) (.tmp 57) (.const (.bool false))), .o 48 (.assign (.tmp 58))]) (.cond (.tmp 48) (.seq (.reg [.o 4 (.assign (.const (.int .i64 5)))]) .ret) (.seq (.reg [.o 60 (.fieldAddr 47 (.tmp 5) 0), .o 61 (.load 3 (.tmp 60)), .o 62 (.binOp .eql 3 (.tmp 61) (.const (.int .i64 6)) 3), .o 63 (.move (.tmp 62)), .g 63 true (some 64) (.move (.tmp 0)), .g 63 true (some 65) (.fieldAddr 47 (.tmp 5) 1), .g 63 true (some 66) (.load 3 (.tmp 65)), .g 63 true (some 67) (.nilCheck (.tmp 64)), .g 63 true (some 68) (.fieldAddr 76 (.tmp 67) 4), .g 63 true (some 69) (.indexAddr 63 (.tmp 68) (.tmp 66)), .g 63 true (some 70) (.load 29 (.tmp 69)), .g 63 true (some 71) (.call ⟨(.builtin .len), #[(.tmp 70)], #[29]⟩), .g 63 true (some 72) (.move (.tmp 0)), .g 63 true (some 73) (.nilCheck (.tmp 72)), .g 63 true (some 74) (.fieldAddr 76 (.tmp 73) 1), .g 63 true (some 75) (.load 3 (.tmp 74)), .g 63 true (some 76) (.binOp .geq 3 (.tmp 71) (.tmp 75) 3), .o 77 (.pick (.tmp 63) (.tmp 76) (.const (.bool false))), .o 59 (.assign (.tmp 77))]) (.cond (.tmp 59) (.seq (.reg [.o 4 (.assign (.const (.int .i64 6)))]) .ret) (.seq (.reg [.o 79 (.fieldAddr 47 (.tmp 5) 0), .o 80 (.load 3 (.tmp 79)), .o 81 (.binOp .eql 3 (.tmp 80) (.const (.int .i64 7)) 3), .o 82 (.move (.tmp 81)), .g 82 true (some 83) (.move (.tmp 0)), .g 82 true (some 84) (.fieldAddr 47 (.tmp 5) 1), .g 82 true (some 85) (.load 3 (.tmp 84)), .g 82 true (some 86) (.nilCheck (.tmp 83)), .g 82 true (some 87) (.fieldAddr 76 (.tmp 86) 4), .g 82 true (some 88) (.indexAddr 63 (.tmp 87) (.tmp 85)), .g 82 true (some 89) (.load 29 (.tmp 88)), .g 82 true (some 90) (.call ⟨(.builtin .len), #[(.tmp 89)], #[29]⟩), .g 82 true (some 91) (.binOp .eql 3 (.tmp 90) (.const (.int .i64 0)) 3), .o 92 (.pick (.tmp 82) (.tmp 91) (.const (.bool false))), .o 78 (.assign (.tmp 92))]) (.cond (.tmp 78) (.seq (.reg [.o 4 (.assign (.const (.int .i64 7)))]) .ret) .skip))))))))) (.seq (.reg [.o 4 (.assign (.const (.int .i64 3)))]) .ret))))))
theorem if31 : ifn Try.prog 31 = some ⟨93, C31, [.tmp 4]⟩ := by kernel_rfl
def L32_1 : IC := (.seq (.seq (.reg [.o 11 (.move (.tmp 5)), .o 12 (.move (.tmp 0)), .o 13 (.call ⟨(.builtin .len), #[(.tmp 12)], #[29]⟩), .o 14 (.binOp .lss 3 (.tmp 11) (.tmp 13) 3)]) (.cond (.tmp 14) .skip (.exit 0))) (.seq (.block 1 (.seq (.reg [.o 17 (.move (.tmp 0)), .o 18 (.move (.tmp 5)), .o 19 (.indexAddr 29 (.tmp 17) (.tmp 18)), .o 20 (.load 2 (.tmp 19)), .o 21 (.move (.tmp 1)), .o 22 (.move (.tmp 5)), .o 23 (.indexAddr 29 (.tmp 21) (.tmp 22)), .o 24 (.load 2 (.tmp 23)), .o 25 (.binOp .neq 2 (.tmp 20) (.tmp 24) 2)]) (.cond (.tmp 25) (.seq (.reg [.o 4 (.assign (.const (.bool false)))]) .ret) .skip))) (.reg [.o 15 (.move (.tmp 5)), .o 16 (.binOp .add 3 (.tmp 15) (.const (.int .i64 1)) 3), .o 5 (.assign (.tmp 16))])))
def C32 : IC := (.seq (.reg [.o 4 (.assign (.const (.bool false)))]) (.seq (.seq (.reg [.o 6 (.move (.tmp 0)), .o 7 (.call ⟨(.builtin .len), #[(.tmp 6)], #[29]⟩), .o 8 (.move (.tmp 1)), .o 9 (.call ⟨(.builtin .len), #[(.tmp 8)], #[29]⟩), .o 10 (.binOp .neq 3 (.tmp 7) (.tmp 9) 3)]) (.cond (.tmp 10) (.seq (.reg [.o 4 (.assign (.const (.bool false)))]) .ret) .skip)) (.seq (.seq (.reg [.o 5 (.assign (.const (.int .i64 0)))]) (.block 0 (.loop L32_1))) (.seq (.reg [.o 4 (.assign (.const (.bool true)))]) .ret))))
theorem if32 : ifn Try.prog 32 = some ⟨26, C32, [.tmp 4]⟩ := by kernel_rfl
def L33_1 : IC := (.seq (.reg [.o 12 (.binOp .lss 3 (.tmp 11) (.tmp 10) 3)]) (.seq (.cond (.tmp 12) .skip (.exit 0)) (.seq (.block 1 (.seq (.reg [.o 13 (.move (.tmp 11)), .o 14 (.indexAddr 74 (.tmp 9) (.tmp 11)), .o 15 (.load 77 (.tmp 14)), .o 4 (.assign (.tmp 13)), .o 5 (.assign (.tmp 15))]) (.seq (.reg [.o 16 (.move (.tmp 0)), .o 17 (.move (.tmp 5)), .o 18 (.call ⟨(.value (.func 31)), #[(.tmp 16), (.tmp 17)], #[71, 77]⟩), .o 19 (.binOp .eql 3 (.tmp 18) (.const (.int .i64 3)) 3)]) (.cond (.tmp 19) (.reg [.o 20 (.move (.tmp 3)), .o 21 (.move (.tmp 4)), .o 22 (.buildSlice 23 1 #[(0, (.tmp 21))]), .o 23 (.call ⟨(.builtin .append), #[(.tmp 20), (.tmp 22)], #[23, 23]⟩), .o 3 (.assign (.tmp 23))]) .skip)))) (.reg [.o 24 (.binOp .add 3 (.tmp 11) (.const (.int .i64 1)) 3), .o 11 (.move (.tmp 24))]))))
def C33 : IC := (.seq (.reg [.o 2 (.assign (.const (.slice none 0 0)))]) (.seq (.reg [.o 3 (.assign (.const (.slice none 0 0)))]) (.seq (.seq (.reg [.o 6 (.move (.tmp 0)), .o 7 (.nilCheck (.tmp 6)), .o 8 (.fieldAddr 76 (.tmp 7) 0), .o 9 (.load 74 (.tmp 8)), .o 10 (.call ⟨(.builtin .len), #[(.tmp 9)], #[74]⟩), .o 11 (.move (.const (.int .i64 0)))]) (.block 0 (.loop L33_1))) (.seq (.reg [.o 25 (.move (.tmp 3)), .o 2 (.assign (.tmp 25))]) .ret))))
theorem if33 : ifn Try.prog 33 = some ⟨26, C33, [.tmp 2]⟩ := by kernel_rfl
def C34 : IC := (.seq (.reg [.o 5 (.load 4 (.tmp 2)), .o 6 (.move (.tmp 5)), .g 6 true (some 7) (.move (.tmp 0)), .g 6 true (some 8) (.nilCheck (.tmp 7)), .g 6 true (some 9) (.load 3 (.tmp 8)), .g 6 true (some 10) (.move (.tmp 1)), .g 6 true (some 11) (.call ⟨(.value (.func 35)), #[(.tmp 9), (.tmp 10)], #[3, 3]⟩), .o 12 (.pick (.tmp 6) (.tmp 11) (.const (.bool false))), .n (.store 4 (.tmp 2) (.tmp 12))]) (.reg [.o 13 (.move (.tmp 0)), .o 14 (.nilCheck (.tmp 13)), .n (.store 3 (.tmp 14) (.const (.int .i64 0)))]))
theorem if34 : ifn Try.prog 34 = some ⟨15, C34, []⟩ := by kernel_rfl
def C35 : IC := (.seq (.reg [.o 4 (.assign (.const (.bool false)))]) (.seq (.reg [.o 5 (.move (.tmp 0)), .o 6 (.binOp .geq 3 (.tmp 5) (.const (.int .i64 0)) 3), .o 7 (.move (.tmp 6)), .g 7 true (some 8) (.move (.tmp 0)), .g 7 true (some 9) (.move (.tmp 1)), .g 7 true (some 10) (.binOp .lss 3 (.tmp 8) (.tmp 9) 3), .o 11 (.pick (.tmp 7) (.tmp 10) (.const (.bool false))), .o 4 (.assign (.tmp 11))]) .ret))
theorem if35 : ifn Try.prog 35 = some ⟨12, C35, [.tmp 4]⟩ := by kernel_rfl
def C36 : IC := (.seq (.reg [.o 2 (.move (.tmp 0)), .o 3 (.nilCheck (.tmp 2)), .o 4 (.fieldAddr 68 (.tmp 3) 1), .o 5 (.load 3 (.tmp 4)), .o 6 (.move (.tmp 0)), .o 7 (.nilCheck (.tmp 6)), .o 8 (.fieldAddr 68 (.tmp 7) 0), .o 9 (.load 45 (.tmp 8)), .o 10 (.call ⟨(.builtin .len), #[(.tmp 9)], #[45]⟩), .o 11 (.binOp .geq 3 (.tmp 5) (.tmp 10) 3)]) (.cond (.tmp 11) (.reg [.o 12 (.move (.tmp 0)), .o 13 (.nilCheck (.tmp 12)), .o 14 (.fieldAddr 68 (.tmp 13) 4), .n (.store 3 (.tmp 14) (.const (.int .i64 1)))]) .skip))
theorem if36 : ifn Try.prog 36 = some ⟨15, C36, []⟩ := by kernel_rfl
def C37 : IC := (.seq (.reg [.o 7 (.move (.tmp 0)), .o 8 (.nilCheck (.tmp 7)), .o 9 (.fieldAddr 66 (.tmp 8) 0), .o 10 (.load 60 (.tmp 9)), .o 11 (.move (.tmp 1)), .o 12 (.indexAddr 60 (.tmp 10) (.tmp 11)), .o 6 (.assign (.tmp 12))]) (.seq (.seq (.reg [.o 13 (.move (.tmp 6)), .o 14 (.nilCheck (.tmp 13)), .o 15 (.fieldAddr 68 (.tmp 14) 3), .o 16 (.load 3 (.tmp 15)), .o 17 (.binOp .lss 3 (.tmp 16) (.const (.int .i64 0)) 3)]) (.cond (.tmp 17) (.seq (.reg [.o 18 (.move (.tmp 6)), .o 19 (.nilCheck (.tmp 18)), .o 20 (.fieldAddr 68 (.tmp 19) 4), .n (.store 3 (.tmp 20) (.const (.int .i64 2)))]) (.seq (.reg [.o 21 (.move (.tmp 6)), .o 22 (.move (.tmp 2)), .o 23 (.nilCheck (.tmp 21)), .o 24 (.fieldAddr 68 (.tmp 23) 5), .n (.store 2 (.tmp 24) (.tmp 22))]) .ret)) .skip)) (.seq (.reg [.o 25 (.move (.tmp 0)), .o 26 (.move (.tmp 2)), .o 27 (.nilCheck (.tmp 25)), .o 28 (.fieldAddr 66 (.tmp 27) 4), .o 29 (.indexAddr 64 (.tmp 28) (.const (.int .i64 7))), .n (.store 2 (.tmp 29) (.tmp 26))]) (.seq (.reg [.o 30 (.move (.tmp 6)), .o 31 (.move (.tmp 6)), .o 32 (.nilCheck (.tmp 31)), .o 33 (.fieldAddr 68 (.tmp 32) 3), .o 34 (.load 3 (.tmp 33)), .o 35 (.nilCheck (.tmp 30)), .o 36 (.fieldAddr 68 (.tmp 35) 1), .n (.store 3 (.tmp 36) (.tmp 34))]) (.seq (.reg [.o 37 (.move (.tmp 6)), .o 38 (.nilCheck (.tmp 37)), .o 39 (.fieldAddr 68 (.tmp 38) 3), .n (.store 3 (.tmp 39) (.const (.int .i64 (-1))))]) (.reg [.o 40 (.move (.tmp 6)), .o 41 (.call ⟨(.value (.func 36)), #[(.tmp 40)], #[87]⟩)]))))))
theorem if37 : ifn Try.prog 37 = some ⟨42, C37, []⟩ := by kernel_rfl
def C38 : IC := (.seq (.reg [.o 5 (.box 47 (.tmp 2)), .o 6 (.assign (.const (.bool false))), .o 7 (.assign (.const (.bool false)))]) (.seq (.reg [.o 9 (.move (.tmp 0)), .o 10 (.nilCheck (.tmp 9)), .o 11 (.fieldAddr 66 (.tmp 10) 0), .o 12 (.load 60 (.tmp 11)), .o 13 (.move (.tmp 1)), .o 14 (.indexAddr 60 (.tmp 12) (.tmp 13)), .o 8 (.assign (.tmp 14))]) (.seq (.seq (.reg [.o 15 (.move (.tmp 8)), .o 16 (.nilCheck (.tmp 15)), .o 17 (.fieldAddr 68 (.tmp 16) 2), .o 18 (.load 3 (.tmp 17)), .o 19 (.binOp .eql 3 (.tmp 18) (.const (.int .i64 2)) 3)]) (.cond (.tmp 19) (.seq (.regb 10 [.o 20 (.move (.tmp 0)), .o 21 (.fieldAddr 47 (.tmp 5) 2), .o 22 (.load 3 (.tmp 21)), .o 23 (.move (.tmp 1)), .o 24 (.binOp .add 3 (.tmp 23) (.const (.int .i64 1)) 3), .o 25 (.nilCheck (.tmp 20)), .o 26 (.fieldAddr 66 (.tmp 25) 1), .o 27 (.indexAddr 61 (.tmp 26) (.tmp 22)), .n (.store 3 (.tmp 27) (.tmp 24))]) (.seq (.reg [.o 28 (.move (.tmp 8)), .o 29 (.nilCheck (.tmp 28)), .o 30 (.fieldAddr 68 (.tmp 29) 2), .n (.store 3 (.tmp 30) (.const (.int .i64 0)))]) (.seq (.reg [.o 6 (.assign (.const (.bool true))), .o 7 (.assign (.const (.bool true)))]) .ret))) .skip)) (.seq (.seq (.reg [.o 31 (.move (.tmp 0)), .o 32 (.fieldAddr 47 (.tmp 5) 2), .o 33 (.load 3 (.tmp 32)), .o 34 (.nilCheck (.tmp 31)), .o 35 (.fieldAddr 66 (.tmp 34) 1), .o 36 (.indexAddr 61 (.tmp 35) (.tmp 33)), .o 37 (.load 3 (.tmp 36)), .o 38 (.move (.tmp 1)), .o 39 (.binOp .add 3 (.tmp 38) (.const (.int .i64 1)) 3), .o 40 (.binOp .neq 3 (.tmp 37) (.tmp 39) 3)]) (.cond (.tmp 40) (.seq (.reg [.o 6 (.assign (.const (.bool false))), .o 7 (.assign (.const (.bool false)))]) .ret) .skip)) (.seq (.regb 8 [.o 41 (.move (.tmp 0)), .o 42 (.fieldAddr 47 (.tmp 5) 2), .o 43 (.load 3 (.tmp 42)), .o 44 (.nilCheck (.tmp 41)), .o 45 (.fieldAddr 66 (.tmp 44) 1), .o 46 (.indexAddr 61 (.tmp 45) (.tmp 43)), .n (.store 3 (.tmp 46) (.const (.int .i64 0)))]) (.seq (.reg [.o 47 (.move (.tmp 8)), .o 48 (.nilCheck (.tmp 47)), .o 49 (.fieldAddr 68 (.tmp 48) 2), .n (.store 3 (.tmp 49) (.const (.int .i64 1)))]) (.seq (.drw 18 [⟨none, (some 50), (.move (.tmp 0)), .q⟩, ⟨none, (some 51), (.fieldAddr 47 (.tmp 5) 1), .q⟩, ⟨none, (some 52), (.load 3 (.tmp 51)), (.r 2 [] [])⟩, ⟨none, (some 53), (.move (.tmp 0)), .q⟩, ⟨none, (some 54), (.fieldAddr 47 (.tmp 5) 1), .q⟩, ⟨none, (some 55), (.load 3 (.tmp 54)), (.r 5 [] [])⟩, ⟨none, (some 56), (.nilCheck (.tmp 53)), .q⟩, ⟨none, (some 57), (.fieldAddr 66 (.tmp 56) 2), .q⟩, ⟨none, (some 58), (.indexAddr 62 (.tmp 57) (.tmp 55)), .q⟩, ⟨none, (some 59), (.load 23 (.tmp 58)), (.r 9 [] [])⟩, ⟨none, (some 60), (.move (.tmp 1)), .q⟩, ⟨none, (some 61), (.buildSlice 23 1 #[(0, (.tmp 60))]), (.a 11)⟩, ⟨none, (some 62), (.call ⟨(.builtin .append), #[(.tmp 59), (.tmp 61)], #[23, 23]⟩), (.c 12 [11] [2])⟩, ⟨none, (some 63), (.nilCheck (.tmp 50)), .q⟩, ⟨none, (some 64), (.fieldAddr 66 (.tmp 63) 2), .q⟩, ⟨none, (some 65), (.indexAddr 62 (.tmp 64) (.tmp 52)), .q⟩, ⟨none, none, (.store 23 (.tmp 65) (.tmp 62)), (.c 16 [11] [])⟩]) (.seq (.reg [.o 6 (.assign (.const (.bool false))), .o 7 (.assign (.const (.bool true)))]) .ret))))))))
theorem if38 : ifn Try.prog 38 = some ⟨66, C38, [.tmp 6, .tmp 7]⟩ := by kernel_rfl
def L39_1 : IC := (.seq (.seq (.reg [.o 6 (.move (.tmp 2)), .o 7 (.binOp .gtr 3 (.tmp 6) (.const (.int .i64 0)) 3), .o 8 (.move (.tmp 7)), .g 8 true (some 9) (.move (.tmp 0)), .g 8 true (some 10) (.move (.tmp 1)), .g 8 true (some 11) (.nilCheck (.tmp 9)), .g 8 true (some 12) (.fieldAddr 66 (.tmp 11) 2), .g 8 true (some 13) (.indexAddr 62 (.tmp 12) (.tmp 10)), .g 8 true (some 14) (.load 23 (.tmp 13)), .g 8 true (some 15) (.call ⟨(.builtin .len), #[(.tmp 14)], #[23]⟩), .g 8 true (some 16) (.binOp .gtr 3 (.tmp 15) (.const (.int .i64 0)) 3), .o 17 (.pick (.tmp 8) (.tmp 16) (.const (.bool false)))]) (.cond (.tmp 17) .skip (.exit 0))) (.block 1 (.seq (.regb 16 [.o 18 (.move (.tmp 0)), .o 19 (.nilCheck (.tmp 18)), .o 20 (.fieldAddr 66 (.tmp 19) 0), .o 21 (.load 60 (.tmp 20)), .o 22 (.move (.tmp 0)), .o 23 (.move (.tmp 1)), .o 24 (.nilCheck (.tmp 22)), .o 25 (.fieldAddr 66 (.tmp 24) 2), .o 26 (.indexAddr 62 (.tmp 25) (.tmp 23)), .o 27 (.load 23 (.tmp 26)), .o 28 (.indexAddr 23 (.tmp 27) (.const (.int .i64 0))), .o 29 (.load 3 (.tmp 28)), .o 30 (.indexAddr 60 (.tmp 21) (.tmp 29)), .o 31 (.fieldAddr 68 (.tmp 30) 2), .n (.store 3 (.tmp 31) (.const (.int .i64 2)))]) (.seq (.regb 15 [.o 32 (.move (.tmp 0)), .o 33 (.move (.tmp 1)), .o 34 (.move (.tmp 0)), .o 35 (.move (.tmp 1)), .o 36 (.nilCheck (.tmp 34)), .o 37 (.fieldAddr 66 (.tmp 36) 2), .o 38 (.indexAddr 62 (.tmp 37) (.tmp 35)), .o 39 (.load 23 (.tmp 38)), .o 40 (.slice 23 (.tmp 39) (some (.const (.int .i64 1))) none none), .o 41 (.call ⟨(.builtin .append), #[(.const (.slice none 0 0)), (.tmp 40)], #[23, 23]⟩), .o 42 (.nilCheck (.tmp 32)), .o 43 (.fieldAddr 66 (.tmp 42) 2), .o 44 (.indexAddr 62 (.tmp 43) (.tmp 33)), .n (.store 23 (.tmp 44) (.tmp 41))]) (.reg [.o 45 (.move (.tmp 2)), .o 46 (.binOp .sub 3 (.tmp 45) (.const (.int .i64 1)) 3), .o 2 (.assign (.tmp 46))])))))
def C39 : IC := (.block 0 (.loop L39_1))
theorem if39 : ifn Try.prog 39 = some ⟨47, C39, []⟩ := by kernel_rfl
def C40 : IC := (.seq (.reg [.o 2 (.box 71 (.tmp 0))]) (.seq (.reg [.o 5 (.load 71 (.tmp 2)), .o 6 (.nilCheck (.tmp 5)), .o 7 (.fieldAddr 76 (.tmp 6) 0), .o 8 (.load 74 (.tmp 7)), .o 9 (.move (.tmp 1)), .o 10 (.indexAddr 74 (.tmp 8) (.tmp 9)), .o 11 (.load 77 (.tmp 10)), .o 4 (.alloc 77), .n (.store 77 (.tmp 4) (.tmp 11))]) (.seq (.drw 17 [⟨none, (some 12), (.load 71 (.tmp 2)), (.r 0 [] [])⟩, ⟨none, (some 13), (.load 71 (.tmp 2)), (.r 1 [] [])⟩, ⟨none, (some 14), (.nilCheck (.tmp 13)), .q⟩, ⟨none, (some 15), (.fieldAddr 76 (.tmp 14) 7), .q⟩, ⟨none, (some 16), (.load 28 (.tmp 15)), (.r 4 [] [])⟩, ⟨none, (some 17), (.move (.tmp 1)), .q⟩, ⟨none, (some 18), (.load 77 (.tmp 4)), (.r 6 [] [])⟩, ⟨none, (some 19), (.nilCheck (.tmp 18)), .q⟩, ⟨none, (some 20), (.fieldAddr 80 (.tmp 19) 1), .q⟩, ⟨none, (some 21), (.load 3 (.tmp 20)), (.r 9 [] [])⟩, ⟨none, (some 22), (.build 39 #[(0, (.tmp 17)), (1, (.tmp 21))]), .q⟩, ⟨none, (some 23), (.buildSlice 28 1 #[(0, (.tmp 22))]), (.a 11)⟩, ⟨none, (some 24), (.call ⟨(.builtin .append), #[(.tmp 16), (.tmp 23)], #[28, 28]⟩), (.c 12 [11] [0])⟩, ⟨none, (some 25), (.nilCheck (.tmp 12)), .q⟩, ⟨none, (some 26), (.fieldAddr 76 (.tmp 25) 7), .q⟩, ⟨none, none, (.store 28 (.tmp 26) (.tmp 24)), (.c 15 [11] [])⟩]) (.seq (.reg [.o 27 (.load 71 (.tmp 2)), .o 28 (.move (.tmp 1)), .o 29 (.nilCheck (.tmp 27)), .o 30 (.fieldAddr 76 (.tmp 29) 6), .n (.store 3 (.tmp 30) (.tmp 28))]) (.seq (.reg [.o 31 (.makeFunc (.func 44) #[] #[(.tmp 2), (.tmp 4)]), .n (.defer ⟨(.value (.tmp 31)), #[], #[]⟩)]) (.reg [.o 32 (.load 71 (.tmp 2)), .o 33 (.move (.tmp 1)), .o 34 (.load 77 (.tmp 4)), .o 35 (.call ⟨(.value (.func 46)), #[(.tmp 32), (.tmp 33), (.tmp 34)], #[71, 3, 77]⟩)]))))))
theorem if40 : ifn Try.prog 40 = some ⟨36, C40, []⟩ := by kernel_rfl
def L41_1 : IC := (.seq (.reg [.o 32 (.binOp .lss 3 (.tmp 31) (.tmp 30) 3)]) (.seq (.cond (.tmp 32) .skip (.exit 0)) (.seq (.block 1 (.seq (.reg [.o 33 (.indexAddr 23 (.tmp 29) (.tmp 31)), .o 34 (.load 3 (.tmp 33)), .o 9 (.assign (.tmp 34))]) (.seq (.reg [.o 35 (.move (.tmp 9)), .o 36 (.move (.tmp 0)), .o 37 (.nilCheck (.tmp 36)), .o 38 (.fieldAddr 76 (.tmp 37) 6), .o 39 (.load 3 (.tmp 38)), .o 40 (.binOp .gtr 3 (.tmp 35) (.tmp 39) 3)]) (.cond (.tmp 40) (.seq (.reg [.o 41 (.move (.tmp 9)), .o 6 (.assign (.tmp 41))]) .ret) .skip)))) (.reg [.o 42 (.binOp .add 3 (.tmp 31) (.const (.int .i64 1)) 3), .o 31 (.move (.tmp 42))]))))
def C41 : IC := (.seq (.reg [.o 6 (.assign (.const (.int .i64 0)))]) (.seq (.seq (.reg [.o 10 (.move (.tmp 0)), .o 11 (.nilCheck (.tmp 10)), .o 12 (.fieldAddr 76 (.tmp 11) 7), .o 13 (.load 28 (.tmp 12)), .o 14 (.call ⟨(.builtin .len), #[(.tmp 13)], #[28]⟩), .o 7 (.assign (.tmp 14))]) (.seq (.reg [.o 15 (.move (.tmp 7)), .o 16 (.move (.tmp 2)), .o 17 (.call ⟨(.builtin .len), #[(.tmp 16)], #[23]⟩), .o 18 (.binOp .lss 3 (.tmp 15) (.tmp 17) 3)]) (.cond (.tmp 18) (.seq (.reg [.o 19 (.move (.tmp 1)), .o 20 (.move (.tmp 2)), .o 21 (.move (.tmp 7)), .o 22 (.indexAddr 23 (.tmp 20) (.tmp 21)), .o 23 (.load 3 (.tmp 22)), .o 24 (.move (.tmp 1)), .o 25 (.call ⟨(.builtin .len), #[(.tmp 24)], #[23]⟩), .o 26 (.binOp .rem 3 (.tmp 23) (.tmp 25) 3), .o 27 (.indexAddr 23 (.tmp 19) (.tmp 26)), .o 28 (.load 3 (.tmp 27)), .o 6 (.assign (.tmp 28))]) .ret) .skip))) (.seq (.seq (.reg [.o 29 (.move (.tmp 1)), .o 30 (.call ⟨(.builtin .len), #[(.tmp 29)], #[23]⟩), .o 31 (.move (.const (.int .i64 0)))]) (.block 0 (.loop L41_1))) (.seq (.reg [.o 43 (.move (.tmp 1)), .o 44 (.indexAddr 23 (.tmp 43) (.const (.int .i64 0))), .o 45 (.load 3 (.tmp 44)), .o 6 (.assign (.tmp 45))]) .ret))))
theorem if41 : ifn Try.prog 41 = some ⟨46, C41, [.tmp 6]⟩ := by kernel_rfl
def C42 : IC := (.seq (.reg [.o 2 (.assign (.const (.bool false)))]) (.seq (.reg [.o 3 (.move (.tmp 0)), .o 4 (.nilCheck (.tmp 3)), .o 5 (.fieldAddr 80 (.tmp 4) 4), .o 6 (.load 4 (.tmp 5)), .o 7 (.move (.tmp 6)), .g 7 false (some 8) (.move (.tmp 0)), .g 7 false (some 9) (.nilCheck (.tmp 8)), .g 7 false (some 10) (.fieldAddr 80 (.tmp 9) 1), .g 7 false (some 11) (.load 3 (.tmp 10)), .g 7 false (some 12) (.move (.tmp 0)), .g 7 false (some 13) (.nilCheck (.tmp 12)), .g 7 false (some 14) (.fieldAddr 80 (.tmp 13) 0), .g 7 false (some 15) (.load 45 (.tmp 14)), .g 7 false (some 16) (.call ⟨(.builtin .len), #[(.tmp 15)], #[45]⟩), .g 7 false (some 17) (.binOp .geq 3 (.tmp 11) (.tmp 16) 3), .o 18 (.pick (.tmp 7) (.const (.bool true)) (.tmp 17)), .o 2 (.assign (.tmp 18))]) .ret))
theorem if42 : ifn Try.prog 42 = some ⟨19, C42, [.tmp 2]⟩ := by kernel_rfl
def C43 : IC := (.seq (.reg [.o 2 (.alloc 47)]) (.seq (.regb 12 [.o 3 (.move (.tmp 0)), .o 4 (.nilCheck (.tmp 3)), .o 5 (.fieldAddr 80 (.tmp 4) 0), .o 6 (.load 45 (.tmp 5)), .o 7 (.move (.tmp 0)), .o 8 (.nilCheck (.tmp 7)), .o 9 (.fieldAddr 80 (.tmp 8) 1), .o 10 (.load 3 (.tmp 9)), .o 11 (.indexAddr 45 (.tmp 6) (.tmp 10)), .o 12 (.load 47 (.tmp 11)), .n (.store 47 (.tmp 2) (.tmp 12))]) .ret))
theorem if43 : ifn Try.prog 43 = some ⟨13, C43, [.cell 2 47]⟩ := by kernel_rfl
def C44 : IC := (.seq (.reg [.o 5 (.call ⟨(.builtin .recover), #[], #[]⟩), .o 2 (.assign (.tmp 5))]) (.seq (.seq (.reg [.o 6 (.move (.tmp 2)), .o 7 (.binOp .eql 20 (.tmp 6) (.const .nilIface) 20)]) (.cond (.tmp 7) .ret .skip)) (.seq (.reg [.o 9 (.move (.tmp 2)), .o 10 (.typeAssert (.tmp 9) 20 95 true), .o 8 (.move (.tmp 10)), .o 11 (.extract (.tmp 8) 0), .o 12 (.extract (.tmp 8) 1), .o 3 (.alloc 95), .n (.store 95 (.tmp 3) (.tmp 11)), .o 4 (.assign (.tmp 12))]) (.seq (.seq (.reg [.o 13 (.move (.tmp 4)), .o 14 (.unOp .not 4 (.tmp 13))]) (.cond (.tmp 14) (.reg [.o 15 (.move (.tmp 2)), .n (.panic (.tmp 15))]) .skip)) (.reg [.o 16 (.load 71 (.tmp 0)), .o 17 (.load 77 (.tmp 1)), .o 18 (.fieldAddr 95 (.tmp 3) 0), .o 19 (.load 2 (.tmp 18)), .o 20 (.call ⟨(.value (.func 45)), #[(.tmp 16), (.tmp 17), (.tmp 19)], #[71, 77, 2]⟩)])))))
def C45 : IC := (.seq (.seq (.reg [.o 6 (.move (.tmp 1)), .o 7 (.nilCheck (.tmp 6)), .o 8 (.fieldAddr 80 (.tmp 7) 2), .o 9 (.load 3 (.tmp 8)), .o 10 (.binOp .lss 3 (.tmp 9) (.const (.int .i64 0)) 3)]) (.cond (.tmp 10) (.seq (.reg [.o 11 (.move (.tmp 1)), .o 12 (.move (.tmp 1)), .o 13 (.move (.tmp 2)), .o 14 (.nilCheck (.tmp 11)), .o 15 (.fieldAddr 80 (.tmp 14) 4), .n (.store 4 (.tmp 15) (.const (.bool true))), .o 16 (.nilCheck (.tmp 12)), .o 17 (.fieldAddr 80 (.tmp 16) 5), .n (.store 2 (.tmp 17) (.tmp 13))]) .ret) .skip)) (.seq (.reg [.o 18 (.move (.tmp 1)), .o 19 (.move (.tmp 1)), .o 20 (.move (.tmp 1)), .o 21 (.move (.tmp 1)), .o 22 (.nilCheck (.tmp 21)), .o 23 (.fieldAddr 80 (.tmp 22) 2), .o 24 (.load 3 (.tmp 23)), .o 25 (.nilCheck (.tmp 18)), .o 26 (.fieldAddr 80 (.tmp 25) 1), .n (.store 3 (.tmp 26) (.tmp 24)), .o 27 (.nilCheck (.tmp 19)), .o 28 (.fieldAddr 80 (.tmp 27) 2), .n (.store 3 (.tmp 28) (.const (.int .i64 (-1)))), .o 29 (.nilCheck (.tmp 20)), .o 30 (.fieldAddr 80 (.tmp 29) 3), .n (.store 3 (.tmp 30) (.const (.int .i64 0)))]) (.reg [.o 31 (.move (.tmp 0)), .o 32 (.move (.tmp 2)), .o 33 (.nilCheck (.tmp 31)), .o 34 (.fieldAddr 76 (.tmp 33) 5), .o 35 (.indexAddr 64 (.tmp 34) (.const (.int .i64 7))), .n (.store 2 (.tmp 35) (.tmp 32))])))
theorem if45 : ifn Try.prog 45 = some ⟨36, C45, []⟩ := by kernel_rfl
def C46 : IC := (.seq (.reg [.o 7 (.move (.tmp 2)), .o 8 (.call ⟨(.value (.func 43)), #[(.tmp 7)], #[77]⟩), .o 6 (.alloc 47), .n (.store 47 (.tmp 6) (.tmp 8))]) (.seq (.seq (.reg [.o 9 (.fieldAddr 47 (.tmp 6) 0), .o 10 (.load 3 (.tmp 9))]) (.block 0 (.seq (.reg [.o 12 (.binOp .eql 3 (.tmp 10) (.const (.int .i64 1)) 3), .o 11 (.assign (.tmp 12))]) (.cond (.tmp 11) (.regb 9 [.o 13 (.move (.tmp 0)), .o 14 (.fieldAddr 47 (.tmp 6) 1), .o 15 (.load 3 (.tmp 14)), .o 16 (.move (.tmp 1)), .o 17 (.nilCheck (.tmp 13)), .o 18 (.fieldAddr 76 (.tmp 17) 2), .o 19 (.indexAddr 61 (.tmp 18) (.tmp 15)), .n (.store 3 (.tmp 19) (.tmp 16))]) (.seq (.reg [.o 21 (.binOp .eql 3 (.tmp 10) (.const (.int .i64 2)) 3), .o 20 (.assign (.tmp 21))]) (.cond (.tmp 20) (.reg [.o 22 (.move (.tmp 0)), .o 23 (.move (.tmp 1)), .o 24 (.fieldAddr 47 (.tmp 6) 1), .o 25 (.load 3 (.tmp 24)), .o 26 (.call ⟨(.value (.func 47)), #[(.tmp 22), (.tmp 23), (.tmp 25)], #[71, 3, 3]⟩)]) (.seq (.reg [.o 28 (.binOp .eql 3 (.tmp 10) (.const (.int .i64 3)) 3), .o 27 (.assign (.tmp 28))]) (.cond (.tmp 27) (.seq (.reg [.o 29 (.move (.tmp 0)), .o 30 (.move (.tmp 1)), .o 31 (.move (.tmp 2)), .o 32 (.load 47 (.tmp 6)), .o 33 (.call ⟨(.value (.func 48)), #[(.tmp 29), (.tmp 30), (.tmp 31), (.tmp 32)], #[71, 3, 77, 47]⟩), .o 34 (.unOp .not 4 (.tmp 33))]) (.cond (.tmp 34) .ret .skip)) (.seq (.reg [.o 36 (.binOp .eql 3 (.tmp 10) (.const (.int .i64 4)) 3), .o 35 (.assign (.tmp 36))]) (.cond (.tmp 35) (.regb 14 [.o 37 (.move (.tmp 0)), .o 38 (.fieldAddr 47 (.tmp 6) 1), .o 39 (.load 3 (.tmp 38)), .o 40 (.move (.tmp 0)), .o 41 (.fieldAddr 47 (.tmp 6) 1), .o 42 (.load 3 (.tmp 41)), .o 43 (.nilCheck (.tmp 40)), .o 44 (.fieldAddr 76 (.tmp 43) 3), .o 45 (.indexAddr 62 (.tmp 44) (.tmp 42)), .o 46 (.load 23 (.tmp 45)), .o 47 (.call ⟨(.builtin .len), #[(.tmp 46)], #[23]⟩), .o 48 (.call ⟨(.builtin .min), #[(.const (.int .i64 1)), (.tmp 47)], #[3, 3]⟩), .o 49 (.call ⟨(.value (.func 49)), #[(.tmp 37), (.tmp 39), (.tmp 48)], #[71, 3, 3]⟩)]) (.seq (.reg [.o 51 (.binOp .eql 3 (.tmp 10) (.const (.int .i64 5)) 3), .o 50 (.assign (.tmp 51))]) (.cond (.tmp 50) (.regb 13 [.o 52 (.move (.tmp 0)), .o 53 (.fieldAddr 47 (.tmp 6) 1), .o 54 (.load 3 (.tmp 53)), .o 55 (.move (.tmp 0)), .o 56 (.fieldAddr 47 (.tmp 6) 1), .o 57 (.load 3 (.tmp 56)), .o 58 (.nilCheck (.tmp 55)), .o 59 (.fieldAddr 76 (.tmp 58) 3), .o 60 (.indexAddr 62 (.tmp 59) (.tmp 57)), .o 61 (.load 23 (.tmp 60)), .o 62 (.call ⟨(.builtin .len), #[(.tmp 61)], #[23]⟩), .o 63 (.call ⟨(.value (.func 49)), #[(.tmp 52), (.tmp 54), (.tmp 62)], #[71, 3, 3]⟩)]) (.seq (.reg [.o 65 (.binOp .eql 3 (.tmp 10) (.const (.int .i64 6)) 3), .o 64 (.assign (.tmp 65))]) (.cond (.tmp 64) (.drw 19 [⟨none, (some 66), (.move (.tmp 0)), .q⟩, ⟨none, (some 67), (.fieldAddr 47 (.tmp 6) 1), .q⟩, ⟨none, (some 68), (.load 3 (.tmp 67)), (.r 2 [] [])⟩, ⟨none, (some 69), (.move (.tmp 0)), .q⟩, ⟨none, (some 70), (.fieldAddr 47 (.tmp 6) 1), .q⟩, ⟨none, (some 71), (.load 3 (.tmp 70)), (.r 5 [] [])⟩, ⟨none, (some 72), (.nilCheck (.tmp 69)), .q⟩, ⟨none, (some 73), (.fieldAddr 76 (.tmp 72) 4), .q⟩, ⟨none, (some 74), (.indexAddr 63 (.tmp 73) (.tmp 71)), .q⟩, ⟨none, (some 75), (.load 29 (.tmp 74)), (.r 9 [] [])⟩, ⟨none, (some 76), (.fieldAddr 47 (.tmp 6) 3), .q⟩, ⟨none, (some 77), (.load 2 (.tmp 76)), (.r 11 [] [])⟩, ⟨none, (some 78), (.buildSlice 29 1 #[(0, (.tmp 77))]), (.a 12)⟩, ⟨none, (some 79), (.call ⟨(.builtin .append), #[(.tmp 75), (.tmp 78)], #[29, 29]⟩), (.c 13 [12] [2])⟩, ⟨none, (some 80), (.nilCheck (.tmp 66)), .q⟩, ⟨none, (some 81), (.fieldAddr 76 (.tmp 80) 4), .q⟩, ⟨none, (some 82), (.indexAddr 63 (.tmp 81) (.tmp 68)), .q⟩, ⟨none, none, (.store 29 (.tmp 82) (.tmp 79)), (.c 17 [12] [])⟩]) (.seq (.reg [.o 84 (.binOp .eql 3 (.tmp 10) (.const (.int .i64 7)) 3), .o 83 (.assign (.tmp 84))]) (.cond (.tmp 83) (.seq (.regb 17 [.o 85 (.move (.tmp 0)), .o 86 (.fieldAddr 47 (.tmp 6) 2), .o 87 (.load 3 (.tmp 86)), .o 88 (.move (.tmp 0)), .o 89 (.fieldAddr 47 (.tmp 6) 1), .o 90 (.load 3 (.tmp 89)), .o 91 (.nilCheck (.tmp 88)), .o 92 (.fieldAddr 76 (.tmp 91) 4), .o 93 (.indexAddr 63 (.tmp 92) (.tmp 90)), .o 94 (.load 29 (.tmp 93)), .o 95 (.indexAddr 29 (.tmp 94) (.const (.int .i64 0))), .o 96 (.load 2 (.tmp 95)), .o 97 (.nilCheck (.tmp 85)), .o 98 (.fieldAddr 76 (.tmp 97) 5), .o 99 (.indexAddr 64 (.tmp 98) (.tmp 87)), .n (.store 2 (.tmp 99) (.tmp 96))]) (.regb 16 [.o 100 (.move (.tmp 0)), .o 101 (.fieldAddr 47 (.tmp 6) 1), .o 102 (.load 3 (.tmp 101)), .o 103 (.move (.tmp 0)), .o 104 (.fieldAddr 47 (.tmp 6) 1), .o 105 (.load 3 (.tmp 104)), .o 106 (.nilCheck (.tmp 103)), .o 107 (.fieldAddr 76 (.tmp 106) 4), .o 108 (.indexAddr 63 (.tmp 107) (.tmp 105)), .o 109 (.load 29 (.tmp 108)), .o 110 (.slice 29 (.tmp 109) (some (.const (.int .i64 1))) none none), .o 111 (.nilCheck (.tmp 100)), .o 112 (.fieldAddr 76 (.tmp 111) 4), .o 113 (.indexAddr 63 (.tmp 112) (.tmp 102)), .n (.store 29 (.tmp 113) (.tmp 110))])) (.seq (.reg [.o 115 (.binOp .eql 3 (.tmp 10) (.const (.int .i64 8)) 3), .o 114 (.assign (.tmp 115))]) (.cond (.tmp 114) (.regb 15 [.o 116 (.move (.tmp 0)), .o 117 (.fieldAddr 47 (.tmp 6) 1), .o 118 (.load 3 (.tmp 117)), .o 119 (.nilCheck (.tmp 116)), .o 120 (.fieldAddr 76 (.tmp 119) 5), .o 121 (.indexAddr 64 (.tmp 120) (.tmp 118)), .o 122 (.load 2 (.tmp 121)), .o 123 (.fieldAddr 47 (.tmp 6) 3), .o 124 (.load 2 (.tmp 123)), .o 125 (.binOp .add 2 (.tmp 122) (.tmp 124) 2), .o 126 (.nilCheck (.tmp 116)), .o 127 (.fieldAddr 76 (.tmp 126) 5), .o 128 (.indexAddr 64 (.tmp 127) (.tmp 118)), .n (.store 2 (.tmp 128) (.tmp 125))]) (.seq (.reg [.o 130 (.binOp .eql 3 (.tmp 10) (.const (.int .i64 9)) 3), .o 129 (.assign (.tmp 130))]) (.cond (.tmp 129) (.regb 15 [.o 131 (.move (.tmp 0)), .o 132 (.fieldAddr 47 (.tmp 6) 2), .o 133 (.load 3 (.tmp 132)), .o 134 (.move (.tmp 0)), .o 135 (.fieldAddr 47 (.tmp 6) 1), .o 136 (.load 3 (.tmp 135)), .o 137 (.nilCheck (.tmp 134)), .o 138 (.fieldAddr 76 (.tmp 137) 5), .o 139 (.indexAddr 64 (.tmp 138) (.tmp 136)), .o 140 (.load 2 (.tmp 139)), .o 141 (.nilCheck (.tmp 131)), .o 142 (.fieldAddr 76 (.tmp 141) 5), .o 143 (.indexAddr 64 (.tmp 142) (.tmp 133)), .n (.store 2 (.tmp 143) (.tmp 140))]) (.seq (.reg [.o 145 (.binOp .eql 3 (.tmp 10) (.const (.int .i64 10)) 3), .o 144 (.assign (.tmp 145))]) (.cond (.tmp 144) (.seq (.reg [.o 146 (.move (.tmp 0)), .o 147 (.fieldAddr 47 (.tmp 6) 1), .o 148 (.load 3 (.tmp 147)), .o 149 (.nilCheck (.tmp 146)), .o 150 (.fieldAddr 76 (.tmp 149) 5), .o 151 (.indexAddr 64 (.tmp 150) (.tmp 148)), .o 152 (.load 2 (.tmp 151)), .o 153 (.binOp .eql 2 (.tmp 152) (.const (.int .i64 0)) 2)]) (.cond (.tmp 153) (.regb 18 [.o 154 (.move (.tmp 2)), .o 155 (.move (.tmp 2)), .o 156 (.nilCheck (.tmp 155)), .o 157 (.fieldAddr 80 (.tmp 156) 1), .o 158 (.load 3 (.tmp 157)), .o 159 (.fieldAddr 47 (.tmp 6) 3), .o 160 (.load 2 (.tmp 159)), .o 161 (.binOp .add 3 (.tmp 158) (.tmp 160) 3), .o 162 (.move (.tmp 2)), .o 163 (.nilCheck (.tmp 162)), .o 164 (.fieldAddr 80 (.tmp 163) 0), .o 165 (.load 45 (.tmp 164)), .o 166 (.call ⟨(.builtin .len), #[(.tmp 165)], #[45]⟩), .o 167 (.call ⟨(.builtin .min), #[(.tmp 161), (.tmp 166)], #[3, 3]⟩), .o 168 (.nilCheck (.tmp 154)), .o 169 (.fieldAddr 80 (.tmp 168) 1), .n (.store 3 (.tmp 169) (.tmp 167))]) .skip)) (.seq (.reg [.o 171 (.binOp .eql 3 (.tmp 10) (.const (.int .i64 12)) 3), .o 170 (.assign (.tmp 171))]) (.cond (.tmp 170) (.reg [.o 172 (.fieldAddr 47 (.tmp 6) 3), .o 173 (.load 2 (.tmp 172)), .o 174 (.build 95 #[(0, (.tmp 173))]), .o 175 (.makeInterface 95 (.tmp 174)), .n (.panic (.tmp 175))]) (.seq (.reg [.o 177 (.binOp .eql 3 (.tmp 10) (.const (.int .i64 13)) 3), .o 176 (.assign (.tmp 177))]) (.cond (.tmp 176) (.reg [.o 178 (.move (.tmp 2)), .o 179 (.fieldAddr 47 (.tmp 6) 3), .o 180 (.load 2 (.tmp 179)), .o 181 (.nilCheck (.tmp 178)), .o 182 (.fieldAddr 80 (.tmp 181) 2), .n (.store 3 (.tmp 182) (.tmp 180))]) .skip)))))))))))))))))))))))))) (.reg [.o 183 (.move (.tmp 2)), .o 184 (.nilCheck (.tmp 183)), .o 185 (.fieldAddr 80 (.tmp 184) 1), .o 186 (.load 3 (.tmp 185)), .o 187 (.binOp .add 3 (.tmp 186) (.const (.int .i64 1)) 3), .o 188 (.nilCheck (.tmp 183)), .o 189 (.fieldAddr 80 (.tmp 188) 1), .n (.store 3 (.tmp 189) (.tmp 187))])))
theorem if46 : ifn Try.prog 46 = some ⟨190, C46, []⟩ := by kernel_rfl
def C47 : IC := (.seq (.seq (.reg [.o 6 (.move (.tmp 0)), .o 7 (.move (.tmp 2)), .o 8 (.nilCheck (.tmp 6)), .o 9 (.fieldAddr 76 (.tmp 8) 2), .o 10 (.indexAddr 61 (.tmp 9) (.tmp 7)), .o 11 (.load 3 (.tmp 10)), .o 12 (.move (.tmp 1)), .o 13 (.binOp .neq 3 (.tmp 11) (.tmp 12) 3)]) (.cond (.tmp 13) (.reg [.o 14 (.build 95 #[(0, (.const (.int .i64 (-1))))]), .o 15 (.makeInterface 95 (.tmp 14)), .n (.panic (.tmp 15))]) .skip)) (.reg [.o 16 (.move (.tmp 0)), .o 17 (.move (.tmp 2)), .o 18 (.nilCheck (.tmp 16)), .o 19 (.fieldAddr 76 (.tmp 18) 2), .o 20 (.indexAddr 61 (.tmp 19) (.tmp 17)), .n (.store 3 (.tmp 20) (.const (.int .i64 (-1))))]))
theorem if47 : ifn Try.prog 47 = some ⟨21, C47, []⟩ := by kernel_rfl
def C48 : IC := (.seq (.reg [.o 7 (.box 47 (.tmp 3)), .o 8 (.assign (.const (.bool false)))]) (.seq (.seq (.reg [.o 9 (.move (.tmp 2)), .o 10 (.nilCheck (.tmp 9)), .o 11 (.fieldAddr 80 (.tmp 10) 3), .o 12 (.load 3 (.tmp 11)), .o 13 (.binOp .eql 3 (.tmp 12) (.const (.int .i64 0)) 3)]) (.cond (.tmp 13) (.seq (.reg [.o 14 (.move (.tmp 0)), .o 15 (.move (.tmp 1)), .o 16 (.fieldAddr 47 (.tmp 7) 2), .o 17 (.load 3 (.tmp 16)), .o 18 (.call ⟨(.value (.func 47)), #[(.tmp 14), (.tmp 15), (.tmp 17)], #[71, 3, 3]⟩)]) (.seq (.reg [.o 19 (.move (.tmp 2)), .o 20 (.nilCheck (.tmp 19)), .o 21 (.fieldAddr 80 (.tmp 20) 3), .n (.store 3 (.tmp 21) (.const (.int .i64 1)))]) (.seq (.drw 18 [⟨none, (some 22), (.move (.tmp 0)), .q⟩, ⟨none, (some 23), (.fieldAddr 47 (.tmp 7) 1), .q⟩, ⟨none, (some 24), (.load 3 (.tmp 23)), (.r 2 [] [])⟩, ⟨none, (some 25), (.move (.tmp 0)), .q⟩, ⟨none, (some 26), (.fieldAddr 47 (.tmp 7) 1), .q⟩, ⟨none, (some 27), (.load 3 (.tmp 26)), (.r 5 [] [])⟩, ⟨none, (some 28), (.nilCheck (.tmp 25)), .q⟩, ⟨none, (some 29), (.fieldAddr 76 (.tmp 28) 3), .q⟩, ⟨none, (some 30), (.indexAddr 62 (.tmp 29) (.tmp 27)), .q⟩, ⟨none, (some 31), (.load 23 (.tmp 30)), (.r 9 [] [])⟩, ⟨none, (some 32), (.move (.tmp 1)), .q⟩, ⟨none, (some 33), (.buildSlice 23 1 #[(0, (.tmp 32))]), (.a 11)⟩, ⟨none, (some 34), (.call ⟨(.builtin .append), #[(.tmp 31), (.tmp 33)], #[23, 23]⟩), (.c 12 [11] [2])⟩, ⟨none, (some 35), (.nilCheck (.tmp 22)), .q⟩, ⟨none, (some 36), (.fieldAddr 76 (.tmp 35) 3), .q⟩, ⟨none, (some 37), (.indexAddr 62 (.tmp 36) (.tmp 24)), .q⟩, ⟨none, none, (.store 23 (.tmp 37) (.tmp 34)), (.c 16 [11] [])⟩]) (.seq (.reg [.o 8 (.assign (.const (.bool false)))]) .ret)))) .skip)) (.seq (.reg [.o 38 (.move (.tmp 2)), .o 39 (.nilCheck (.tmp 38)), .o 40 (.fieldAddr 80 (.tmp 39) 3), .n (.store 3 (.tmp 40) (.const (.int .i64 0)))]) (.seq (.regb 9 [.o 41 (.move (.tmp 0)), .o 42 (.fieldAddr 47 (.tmp 7) 2), .o 43 (.load 3 (.tmp 42)), .o 44 (.move (.tmp 1)), .o 45 (.nilCheck (.tmp 41)), .o 46 (.fieldAddr 76 (.tmp 45) 2), .o 47 (.indexAddr 61 (.tmp 46) (.tmp 43)), .n (.store 3 (.tmp 47) (.tmp 44))]) (.seq (.reg [.o 8 (.assign (.const (.bool true)))]) .ret)))))
theorem if48 : ifn Try.prog 48 = some ⟨48, C48, [.tmp 8]⟩ := by kernel_rfl
def L49_1 : IC := (.seq (.reg [.o 18 (.binOp .lss 3 (.tmp 17) (.tmp 16) 3)]) (.seq (.cond (.tmp 18) .skip (.exit 0)) (.seq (.block 1 (.seq (.reg [.o 19 (.indexAddr 23 (.tmp 15) (.tmp 17)), .o 20 (.load 3 (.tmp 19)), .o 7 (.assign (.tmp 20))]) (.reg [.o 21 (.move (.tmp 0)), .o 22 (.nilCheck (.tmp 21)), .o 23 (.fieldAddr 76 (.tmp 22) 0), .o 24 (.load 74 (.tmp 23)), .o 25 (.move (.tmp 7)), .o 26 (.indexAddr 74 (.tmp 24) (.tmp 25)), .o 27 (.load 77 (.tmp 26)), .o 28 (.nilCheck (.tmp 27)), .o 29 (.fieldAddr 80 (.tmp 28) 3), .n (.store 3 (.tmp 29) (.const (.int .i64 2)))]))) (.reg [.o 30 (.binOp .add 3 (.tmp 17) (.const (.int .i64 1)) 3), .o 17 (.move (.tmp 30))]))))
def C49 : IC := (.seq (.seq (.reg [.o 8 (.move (.tmp 0)), .o 9 (.move (.tmp 1)), .o 10 (.nilCheck (.tmp 8)), .o 11 (.fieldAddr 76 (.tmp 10) 3), .o 12 (.indexAddr 62 (.tmp 11) (.tmp 9)), .o 13 (.load 23 (.tmp 12)), .o 14 (.move (.tmp 2)), .o 15 (.slice 23 (.tmp 13) none (some (.tmp 14)) none), .o 16 (.call ⟨(.builtin .len), #[(.tmp 15)], #[23]⟩), .o 17 (.move (.const (.int .i64 0)))]) (.block 0 (.loop L49_1))) (.regb 15 [.o 31 (.move (.tmp 0)), .o 32 (.move (.tmp 1)), .o 33 (.move (.tmp 0)), .o 34 (.move (.tmp 1)), .o 35 (.nilCheck (.tmp 33)), .o 36 (.fieldAddr 76 (.tmp 35) 3), .o 37 (.indexAddr 62 (.tmp 36) (.tmp 34)), .o 38 (.load 23 (.tmp 37)), .o 39 (.move (.tmp 2)), .o 40 (.slice 23 (.tmp 38) (some (.tmp 39)) none none), .o 41 (.nilCheck (.tmp 31)), .o 42 (.fieldAddr 76 (.tmp 41) 3), .o 43 (.indexAddr 62 (.tmp 42) (.tmp 32)), .n (.store 23 (.tmp 43) (.tmp 40))]))
theorem if49 : ifn Try.prog 49 = some ⟨44, C49, []⟩ := by kernel_rfl
end Go.Am.T
