/- The calculus of weakest conditions with a stack of code that is data: the equations that the simplifier uses to walk compact code. Conditions: those of each theorem. -/
import Derived.Test.YthanhcpnhionaaaAmOpsW
import Derived.Attr
set_option linter.all false
set_option linter.unusedSimpArgs false
set_option linter.unusedVariables false
namespace Go.Am

/- what is still to be done -/
inductive Fr where
  | l (l : List IOp)
  | c (c : IC)
  | b (id : Nat)
  | i (J : St → Prop)
  | x
  | e (r0 : Nat) (l : List DOp) (A : List (Nat × Blk))
  | w (r0 : Nat) (l : List DOp) (A : List (Nat × Blk)) (hist : List (Nat × Heap)) (rd : List RdE)

def noEx : Ex → St → Prop := fun _ _ => False

section
variable (P : Program)

def contF : List Fr → (Ex → St → Prop) → Ex → St → Prop
  | [], Q => Q
  | .l l :: st, Q => thenN (fun s => WL P l s (contF st Q)) (contF st Q)
  | .c c :: st, Q => thenN (fun s => Wq P c s (contF st Q)) (contF st Q)
  | .b id :: st, Q => blk id (contF st Q)
  | .i J :: st, Q => thenN J (contF st Q)
  | .x :: st, Q => thenN (contF st Q .normal) noEx
  | .e r0 l A :: st, Q => thenN (fun s => WE P r0 l s A (contF st Q .normal)) noEx
  | .w r0 l A hist rd :: st, Q => thenN (fun s => WD P r0 l { s := s, A := A, hist := hist, rd := rd } (contF st Q .normal)) noEx

def Wk (st : List Fr) (so : Option St) (Q : Ex → St → Prop) : Prop := ∃ s, so = some s ∧ contF P st Q .normal s
def We (e : Ex) (st : List Fr) (so : Option St) (Q : Ex → St → Prop) : Prop := ∃ s, so = some s ∧ contF P st Q e s

def evF (f : Tr Value) : Operand → Option Value
  | .tmp t => some ((f.get t).getD undef)
  | .const v => if plainV v then some v else none
  | .global _ => none
  | .func g => some (.func (.func g) #[] #[])

def evL (f : Tr Value) : List Operand → Option (List Value)
  | [] => some []
  | x :: l => (evF f x).bind fun v => (evL f l).map fun vs => v :: vs
def consO (v : Option Value) (l : Option (List Value)) : Option (List Value) := v.bind fun v => l.map fun l => v :: l
def evPs (f : Tr Value) : List (Nat × Operand) → Option (List (Nat × Value))
  | [] => some []
  | x :: l => (evF f x.2).bind fun v => (evPs f l).map fun vs => (x.1, v) :: vs
def consP (i : Nat) (v : Option Value) (l : Option (List (Nat × Value))) : Option (List (Nat × Value)) := v.bind fun v => l.map fun l => (i, v) :: l
def evO (f : Tr Value) : Option Operand → Option (Option Value)
  | none => some none
  | some x => (evF f x).map some
def someO (v : Option Value) : Option (Option Value) := v.map some

def putO (d : Option Tmp) (n : Nat) (f : Tr Value) (dd : List Deferred) (H : Heap) (v : Option Value) : Option St := v.map fun v => (St.mk n f dd H).put d v
def putH (d : Option Tmp) (n : Nat) (f : Tr Value) (dd : List Deferred) (H : Option Heap) : Option St := H.map fun H => (St.mk n f dd H).put d undef
def putVH (d : Option Tmp) (n : Nat) (f : Tr Value) (dd : List Deferred) (r : Option (Value × Heap)) : Option St := r.map fun r => (St.mk n f dd r.2).put d r.1
def putB (d : Option Tmp) (n : Nat) (f : Tr Value) (dd : List Deferred) (H : Heap) (r : Option ((Nat → Value) × Blk)) : Option St := r.map fun r => (St.mk n f dd (H.alloc r.2)).put d (r.1 H.next)
def putA (t : TypeId) (d : Option Tmp) (n : Nat) (f : Tr Value) (dd : List Deferred) (H : Heap) (z : Option Value) : Option St :=
  z.map fun z => (St.mk n f dd (H.alloc ⟨t, 0, false, z.cells.toList⟩)).put d (.pointer (some ⟨H.next, 0, none⟩))
def putD (d : Option Tmp) (n : Nat) (f : Tr Value) (dd : List Deferred) (H : Heap) (r : Option Deferred) : Option St := r.map fun x => (St.mk n f (x :: dd) H).put d undef

noncomputable def stepS (op : Op) (d : Option Tmp) (s : St) : Option St := match doOp P (callW P) { dst := d, op := op, type := 0, pos := "", after := #[], guard := none } s with | some (.normal, s') => some s' | _ => none

variable {P}
def Simple (P : Program) (op : Op) (d : Option Tmp) (s : St) (r : Option St) : Prop := ∀ K : Ex → St → Prop, WO P op d s K ↔ ∃ s', r = some s' ∧ K .normal s'

theorem stepS_of {op : Op} {d : Option Tmp} {s : St} {r : Option St} (h : Simple P op d s r) : stepS P op d s = r := by
  unfold stepS
  cases hd : doOp P (callW P) { dst := d, op := op, type := 0, pos := "", after := #[], guard := none } s with
  | none =>
    cases r with
    | none => rfl
    | some s' =>
      obtain ⟨e, s2, h2, _⟩ := (h (fun _ _ => True)).2 ⟨s', rfl, trivial⟩
      rw [hd] at h2; cases h2
  | some q =>
    obtain ⟨e, s'⟩ := q
    obtain ⟨s2, h2, h3, h4⟩ := (h (fun e1 s1 => e1 = e ∧ s1 = s')).1 ⟨e, s', hd, rfl, rfl⟩
    subst h3 h4
    exact h2.symm

theorem simple_step {op : Op} {d : Option Tmp} {s : St} {r : Option St} (h : Simple P op d s r) : Simple P op d s (stepS P op d s) := by rw [stepS_of h]; exact h

section
variable {d : Option Tmp} {n : Nat} {f : Tr Value} {dd : List Deferred} {H : Heap}

theorem ev_mk (x : Operand) : (St.mk n f dd H).ev x = evF f x := by cases x <;> rfl
theorem ev_mk' : (St.mk n f dd H).ev = evF f := funext fun x => ev_mk x
theorem evL_eq (l : List Operand) : List.mapM (evF f) l = evL f l := by
  induction l with
  | nil => rfl
  | cons x l ih =>
    rw [mapM_cons', ih]
    simp only [evL]
    cases evF f x with
    | none => rfl
    | some v => cases evL f l <;> rfl
theorem evPs_eq (l : List (Nat × Operand)) : (l.mapM fun (p : Nat × Operand) => (evF f p.2).map (p.1, ·)) = evPs f l := by
  induction l with
  | nil => rfl
  | cons x l ih =>
    rw [mapM_cons', ih]
    simp only [evPs]
    cases evF f x.2 with
    | none => rfl
    | some v => cases evPs f l <;> rfl
theorem evO_eq (x : Option Operand) : x.mapM (evF f) = evO f x := by
  cases x with
  | none => rfl
  | some x =>
    simp only [Option.mapM, evO]
    cases evF f x <;> rfl

def loadO (P : Program) (H : Heap) (t : TypeId) (v : Option Value) : Option Value := v.bind (loadA P H t)
def binO (P : Program) (op : BinOp) (t : TypeId) (x y : Operand) (a b : Option Value) : Option Value := a.bind fun a => b.bind fun b => if eqGuardA op x y a b then binA P op t a b else none
def unO (op : UnOp) (a : Option Value) : Option Value := a.bind (unA op)
def convO (P : Program) (a b : TypeId) (v : Option Value) : Option Value := v.bind (convertA P a b)
def ifaceO (P : Program) (t : TypeId) (v : Option Value) : Option Value := v.bind (makeInterfaceA P t)
def fieldAO (P : Program) (t : TypeId) (i : Nat) (v : Option Value) : Option Value := v.bind (fieldAddrA P t · i)
def fieldO (P : Program) (t : TypeId) (i : Nat) (v : Option Value) : Option Value := v.bind (fieldA P t · i)
def extO (i : Nat) (v : Option Value) : Option Value := v.bind (extractA · i)
def assertO (P : Program) (b : TypeId) (k : Bool) (v : Option Value) : Option Value := v.bind (typeAssertA P · b k)
def indexAO (P : Program) (t : TypeId) (v i : Option Value) : Option Value := v.bind fun v => i.bind fun i => indexAddrA P t v i
def indexO (P : Program) (t : TypeId) (v i : Option Value) : Option Value := v.bind fun v => i.bind fun i => indexA P t v i
def funcO (g : Fn) (a b : Option (List Value)) : Option Value := a.bind fun a => b.map fun b => .func g a.toArray b.toArray
def sliceO (P : Program) (H : Heap) (t : TypeId) (v : Option Value) (l h m : Option (Option Value)) : Option Value := v.bind fun v => l.bind fun l => h.bind fun h => m.bind fun m => sliceA P H t v l h m
def storeO (P : Program) (H : Heap) (t : TypeId) (a v : Option Value) : Option Heap := a.bind fun a => v.bind fun v => storeA P H t a v
def biO (P : Program) (b : Builtin) (ts : Array TypeId) (H : Heap) (l : Option (List Value)) : Option (Value × Heap) := l.bind fun l => builtinA P b ts l H
def buildO (P : Program) (t : TypeId) (l : Option (List (Nat × Value))) : Option Value := l.bind (buildA P t)
def bslO (P : Program) (t : TypeId) (k : Nat) (l : Option (List (Nat × Value))) : Option ((Nat → Value) × Blk) := l.bind (buildSliceA P t k)
def mkslO (P : Program) (t : TypeId) (a b : Option Value) : Option ((Nat → Value) × Blk) := a.bind fun a => b.bind fun b => makeSliceA P t a b
def defO (v : Option Value) (l : Option (List Value)) : Option Deferred := v.bind fun v => l.bind fun l => deferA l v
def nilO (v : Option Value) : Option Value := v.bind nilChkA
def pickO (c x y : Option Value) : Option Value := c.bind fun c => match c with | .bool b => if b then x else y | _ => none

theorem s_move {x : Operand} : Simple P (.move x) d ⟨n, f, dd, H⟩ (putO d n f dd H (evF f x)) := fun K => by
  rw [WO'_move, ev_mk]; cases evF f x <;> simp [putO]
theorem s_assign {x : Operand} : Simple P (.assign x) d ⟨n, f, dd, H⟩ (putO d n f dd H (evF f x)) := fun K => by
  rw [WO'_assign, ev_mk]; cases evF f x <;> simp [putO]
theorem s_pick {c x y : Operand} : Simple P (.pick c x y) d ⟨n, f, dd, H⟩ (putO d n f dd H (pickO (evF f c) (evF f x) (evF f y))) := fun K => by
  rw [WO'_pick, ev_mk, ev_mk']
  cases evF f c with
  | none => simp [putO, pickO]
  | some v =>
    cases v with
    | bool b => cases b <;> (simp [putO, pickO, pickA]; try (cases evF f x <;> cases evF f y <;> simp))
    | _ => simp [putO, pickO, pickA]
theorem s_nil {x : Operand} : Simple P (.nilCheck x) d ⟨n, f, dd, H⟩ (putO d n f dd H (nilO (evF f x))) := fun K => by
  rw [WO'_nilCheck, ev_mk]
  cases evF f x with
  | none => simp [putO, nilO]
  | some v => simp only [putO, nilO, Option.bind_some, Option.some.injEq, exists_eq_left']; cases nilChkA v <;> simp
theorem s_load {t : TypeId} {x : Operand} : Simple P (.load t x) d ⟨n, f, dd, H⟩ (putO d n f dd H (loadO P H t (evF f x))) := fun K => by
  rw [WO'_load, ev_mk]
  cases evF f x with
  | none => simp [putO, loadO]
  | some v => simp only [putO, loadO, Option.bind_some, Option.some.injEq, exists_eq_left']; cases loadA P H t v <;> simp
theorem s_bin {op : BinOp} {t u : TypeId} {x y : Operand} : Simple P (.binOp op t x y u) d ⟨n, f, dd, H⟩ (putO d n f dd H (binO P op t x y (evF f x) (evF f y))) := fun K => by
  rw [WO'_bin, ev_mk, ev_mk]
  cases evF f x with
  | none => simp [putO, binO]
  | some a => cases evF f y with
    | none => simp [putO, binO]
    | some b =>
      simp only [putO, binO, Option.bind_some, Option.some.injEq, exists_eq_left']
      by_cases hg : eqGuardA op x y a b = true
      · simp only [hg, true_and, if_true]; cases binA P op t a b <;> simp
      · simp [hg]
theorem s_un {op : UnOp} {t : TypeId} {x : Operand} : Simple P (.unOp op t x) d ⟨n, f, dd, H⟩ (putO d n f dd H (unO op (evF f x))) := fun K => by
  rw [WO'_un, ev_mk]
  cases evF f x with
  | none => simp [putO, unO]
  | some v => simp only [putO, unO, Option.bind_some, Option.some.injEq, exists_eq_left']; cases unA op v <;> simp
theorem s_conv {a b : TypeId} {x : Operand} : Simple P (.convert a b x) d ⟨n, f, dd, H⟩ (putO d n f dd H (convO P a b (evF f x))) := fun K => by
  rw [WO'_convert, ev_mk]
  cases evF f x with
  | none => simp [putO, convO]
  | some v => simp only [putO, convO, Option.bind_some, Option.some.injEq, exists_eq_left']; cases convertA P a b v <;> simp
theorem s_iface {t : TypeId} {x : Operand} : Simple P (.makeInterface t x) d ⟨n, f, dd, H⟩ (putO d n f dd H (ifaceO P t (evF f x))) := fun K => by
  rw [WO'_iface, ev_mk]
  cases evF f x with
  | none => simp [putO, ifaceO]
  | some v => simp only [putO, ifaceO, Option.bind_some, Option.some.injEq, exists_eq_left']; cases makeInterfaceA P t v <;> simp
theorem s_fieldAddr {t : TypeId} {x : Operand} {i : Nat} : Simple P (.fieldAddr t x i) d ⟨n, f, dd, H⟩ (putO d n f dd H (fieldAO P t i (evF f x))) := fun K => by
  rw [WO'_fieldAddr, ev_mk]
  cases evF f x with
  | none => simp [putO, fieldAO]
  | some v => simp only [putO, fieldAO, Option.bind_some, Option.some.injEq, exists_eq_left']; cases fieldAddrA P t v i <;> simp
theorem s_field {t : TypeId} {x : Operand} {i : Nat} : Simple P (.field t x i) d ⟨n, f, dd, H⟩ (putO d n f dd H (fieldO P t i (evF f x))) := fun K => by
  rw [WO'_field, ev_mk]
  cases evF f x with
  | none => simp [putO, fieldO]
  | some v => simp only [putO, fieldO, Option.bind_some, Option.some.injEq, exists_eq_left']; cases fieldA P t v i <;> simp
theorem s_ext {x : Operand} {i : Nat} : Simple P (.extract x i) d ⟨n, f, dd, H⟩ (putO d n f dd H (extO i (evF f x))) := fun K => by
  rw [WO'_extract, ev_mk]
  cases evF f x with
  | none => simp [putO, extO]
  | some v => simp only [putO, extO, Option.bind_some, Option.some.injEq, exists_eq_left']; cases extractA v i <;> simp
theorem s_assert {x : Operand} {a b : TypeId} {k : Bool} : Simple P (.typeAssert x a b k) d ⟨n, f, dd, H⟩ (putO d n f dd H (assertO P b k (evF f x))) := fun K => by
  rw [WO'_typeAssert, ev_mk]
  cases evF f x with
  | none => simp [putO, assertO]
  | some v => simp only [putO, assertO, Option.bind_some, Option.some.injEq, exists_eq_left']; cases typeAssertA P v b k <;> simp
theorem s_indexAddr {t : TypeId} {x y : Operand} : Simple P (.indexAddr t x y) d ⟨n, f, dd, H⟩ (putO d n f dd H (indexAO P t (evF f x) (evF f y))) := fun K => by
  rw [WO'_indexAddr, ev_mk, ev_mk]
  cases evF f x with
  | none => simp [putO, indexAO]
  | some v => cases evF f y with
    | none => simp [putO, indexAO]
    | some i => simp only [putO, indexAO, Option.bind_some, Option.some.injEq, exists_eq_left']; cases indexAddrA P t v i <;> simp
theorem s_index {t : TypeId} {x y : Operand} : Simple P (.index t x y) d ⟨n, f, dd, H⟩ (putO d n f dd H (indexO P t (evF f x) (evF f y))) := fun K => by
  rw [WO'_index, ev_mk, ev_mk]
  cases evF f x with
  | none => simp [putO, indexO]
  | some v => cases evF f y with
    | none => simp [putO, indexO]
    | some i => simp only [putO, indexO, Option.bind_some, Option.some.injEq, exists_eq_left']; cases indexA P t v i <;> simp
theorem s_func {g : Fn} {a b : Array Operand} : Simple P (.makeFunc g a b) d ⟨n, f, dd, H⟩ (putO d n f dd H (funcO g (evL f a.toList) (evL f b.toList))) := fun K => by
  rw [WO'_makeFunc, ev_mk', evL_eq, evL_eq]
  cases evL f a.toList with
  | none => simp [putO, funcO]
  | some v => cases evL f b.toList <;> simp [putO, funcO]
theorem s_slice {t : TypeId} {x : Operand} {lo hi mx : Option Operand} : Simple P (.slice t x lo hi mx) d ⟨n, f, dd, H⟩ (putO d n f dd H (sliceO P H t (evF f x) (evO f lo) (evO f hi) (evO f mx))) := fun K => by
  rw [WO'_slice, ev_mk', evO_eq, evO_eq, evO_eq]
  cases evF f x with
  | none => simp [putO, sliceO]
  | some v => cases evO f lo with
    | none => simp [putO, sliceO]
    | some l => cases evO f hi with
      | none => simp [putO, sliceO]
      | some h => cases evO f mx with
        | none => simp [putO, sliceO]
        | some m => simp only [putO, sliceO, Option.bind_some, Option.some.injEq, exists_eq_left']; cases sliceA P H t v l h m <;> simp
theorem s_store {t : TypeId} {x y : Operand} : Simple P (.store t x y) d ⟨n, f, dd, H⟩ (putH d n f dd (storeO P H t (evF f x) (evF f y))) := fun K => by
  rw [WO'_store, ev_mk, ev_mk]
  cases evF f x with
  | none => simp [putH, storeO]
  | some v => cases evF f y with
    | none => simp [putH, storeO]
    | some i => simp only [putH, storeO, Option.bind_some, Option.some.injEq, exists_eq_left', setH_mk]; cases storeA P H t v i <;> simp
theorem s_builtin {b : Builtin} {args : Array Operand} {ts : Array TypeId} : Simple P (.call { callee := .builtin b, args := args, argTypes := ts }) d ⟨n, f, dd, H⟩ (putVH d n f dd (biO P b ts H (evL f args.toList))) := fun K => by
  rw [WO'_builtin, ev_mk', evL_eq]
  cases evL f args.toList with
  | none => simp [putVH, biO]
  | some l => simp only [putVH, biO, Option.bind_some, Option.some.injEq, exists_eq_left', setH_mk]; cases builtinA P b ts l H <;> simp
theorem s_alloc {t : TypeId} : Simple P (.alloc t) d ⟨n, f, dd, H⟩ (putA t d n f dd H (zeroA P t)) := fun K => by
  rw [WO'_alloc]; cases zeroA P t <;> simp [putA, setH_mk]
theorem s_box {t : TypeId} {x : Operand} : Simple P (.box t x) d ⟨n, f, dd, H⟩ (putA t d n f dd H (evF f x)) := fun K => by
  rw [WO'_box, ev_mk]; cases evF f x <;> simp [putA, setH_mk]
theorem s_build {t : TypeId} {parts : Array (Nat × Operand)} : Simple P (.build t parts) d ⟨n, f, dd, H⟩ (putO d n f dd H (buildO P t (evPs f parts.toList))) := fun K => by
  rw [WO'_build]; simp only [ev_mk]; rw [evPs_eq]
  cases evPs f parts.toList with
  | none => simp [putO, buildO]
  | some l => simp only [putO, buildO, Option.bind_some, Option.some.injEq, exists_eq_left']; cases buildA P t l <;> simp
theorem s_buildSlice {t : TypeId} {k : Nat} {parts : Array (Nat × Operand)} : Simple P (.buildSlice t k parts) d ⟨n, f, dd, H⟩ (putB d n f dd H (bslO P t k (evPs f parts.toList))) := fun K => by
  rw [WO'_buildSlice]; simp only [ev_mk]; rw [evPs_eq]
  cases evPs f parts.toList with
  | none => simp [putB, bslO]
  | some l => simp only [putB, bslO, Option.bind_some, Option.some.injEq, exists_eq_left', setH_mk]; cases buildSliceA P t k l <;> simp
theorem s_makeSlice {t : TypeId} {l c : Operand} : Simple P (.makeSlice t l c) d ⟨n, f, dd, H⟩ (putB d n f dd H (mkslO P t (evF f l) (evF f c))) := fun K => by
  rw [WO'_makeSlice, ev_mk, ev_mk]
  cases evF f l with
  | none => simp [putB, mkslO]
  | some a => cases evF f c with
    | none => simp [putB, mkslO]
    | some b => simp only [putB, mkslO, Option.bind_some, Option.some.injEq, exists_eq_left', setH_mk]; cases makeSliceA P t a b <;> simp
theorem s_defer {x : Operand} {args : Array Operand} {ts : Array TypeId} : Simple P (.defer { callee := .value x, args := args, argTypes := ts }) d ⟨n, f, dd, H⟩ (putD d n f dd H (defO (evF f x) (evL f args.toList))) := fun K => by
  rw [WO'_defer, ev_mk, ev_mk', evL_eq]
  cases evF f x with
  | none => simp [putD, defO]
  | some v => cases evL f args.toList with
    | none => simp [putD, defO]
    | some l => simp only [putD, defO, Option.bind_some, Option.some.injEq, exists_eq_left', addD_mk]; cases deferA l v <;> simp

end

def simpleOp : Op → Bool
  | .move _ | .assign _ | .pick _ _ _ | .nilCheck _ | .load _ _ | .binOp _ _ _ _ _ | .unOp _ _ _ | .convert _ _ _ | .makeInterface _ _ | .fieldAddr _ _ _ | .field _ _ _ | .extract _ _ | .typeAssert _ _ _ _
  | .indexAddr _ _ _ | .index _ _ _ | .makeFunc _ _ _ | .slice _ _ _ _ _ | .store _ _ _ | .alloc _ | .box _ _ | .build _ _ | .buildSlice _ _ _ | .makeSlice _ _ _ => true
  | .call { callee := .builtin _, .. } => true
  | .defer { callee := .value _, .. } => true
  | _ => false

theorem simple_all {op : Op} (h : simpleOp op = true) (d : Option Tmp) (s : St) : Simple P op d s (stepS P op d s) := by
  obtain ⟨n, f, dd, H⟩ := s
  cases op with
  | move x => exact simple_step s_move
  | assign x => exact simple_step s_assign
  | pick c x y => exact simple_step s_pick
  | nilCheck x => exact simple_step s_nil
  | load t x => exact simple_step s_load
  | binOp op t x y u => exact simple_step s_bin
  | unOp op t x => exact simple_step s_un
  | convert a b x => exact simple_step s_conv
  | makeInterface t x => exact simple_step s_iface
  | fieldAddr t x i => exact simple_step s_fieldAddr
  | field t x i => exact simple_step s_field
  | extract x i => exact simple_step s_ext
  | typeAssert x a b k => exact simple_step s_assert
  | indexAddr t x y => exact simple_step s_indexAddr
  | index t x y => exact simple_step s_index
  | makeFunc g a b => exact simple_step s_func
  | slice t x a b c => exact simple_step s_slice
  | store t x y => exact simple_step s_store
  | alloc t => exact simple_step s_alloc
  | box t x => exact simple_step s_box
  | build t p => exact simple_step s_build
  | buildSlice t k p => exact simple_step s_buildSlice
  | makeSlice t l c => exact simple_step s_makeSlice
  | call c =>
    obtain ⟨callee, args, ts⟩ := c
    cases callee with
    | builtin b => exact simple_step s_builtin
    | _ => cases h
  | defer c =>
    obtain ⟨callee, args, ts⟩ := c
    cases callee with
    | value b => exact simple_step s_defer
    | _ => cases h
  | _ => cases h

/- a branch whose test may not be known -/
def brK (P : Program) (v : Option Value) (a b : List Fr) (s : St) (Q : Ex → St → Prop) : Prop := ∃ t, v = some (.bool t) ∧ if t then Wk P a (some s) Q else Wk P b (some s) Q
/- a guard -/
def gdK (P : Program) (v : Option Value) (w : Bool) (a b : List Fr) (d : Option Tmp) (s : St) (Q : Ex → St → Prop) : Prop :=
  ∃ t, gB v w t ∧ if t = w then Wk P a (some s) Q else Wk P b (some (s.put d undef)) Q

section
variable {st : List Fr} {Q : Ex → St → Prop} {n : Nat} {f : Tr Value} {dd : List Deferred} {H : Heap} {rest : List IOp}

theorem Wk_some {s : St} : Wk P st (some s) Q = contF P st Q .normal s := propext ⟨fun ⟨_, h, k⟩ => by cases h; exact k, fun h => ⟨s, rfl, h⟩⟩
theorem We_some {e : Ex} {s : St} : We P e st (some s) Q = contF P st Q e s := propext ⟨fun ⟨_, h, k⟩ => by cases h; exact k, fun h => ⟨s, rfl, h⟩⟩
theorem simple_Wk {op : Op} (h : simpleOp op = true) {d : Option Tmp} {s : St} {K : Ex → St → Prop} : WO P op d s K = ∃ s', stepS P op d s = some s' ∧ K .normal s' := propext (simple_all h d s K)

@[congr] theorem Wk_congr {so so' : Option St} (h : so = so') : Wk P st so Q = Wk P st so' Q := by rw [h]
@[congr] theorem We_congr {e : Ex} {so so' : Option St} (h : so = so') : We P e st so Q = We P e st so' Q := by rw [h]
@[congr] theorem brK_congr {v v' : Option Value} {a b : List Fr} {s : St} (h : v = v') : brK P v a b s Q = brK P v' a b s Q := by rw [h]
@[congr] theorem gdK_congr {v v' : Option Value} {w : Bool} {a b : List Fr} {d : Option Tmp} {s : St} (h : v = v') : gdK P v w a b d s Q = gdK P v' w a b d s Q := by rw [h]

@[go_sem ↓] theorem Wk_l_nil : Wk P (.l [] :: st) (some ⟨n, f, dd, H⟩) Q = Wk P st (some ⟨n, f, dd, H⟩) Q := by simp only [Wk_some]; rfl
@[go_sem ↓] theorem Wk_o {d : Tmp} {op : Op} (h : simpleOp op = true) : Wk P (.l (.o d op :: rest) :: st) (some ⟨n, f, dd, H⟩) Q = Wk P (.l rest :: st) (stepS P op (some d) ⟨n, f, dd, H⟩) Q := by
  rw [Wk_some]; exact simple_Wk h
@[go_sem ↓] theorem Wk_n {op : Op} (h : simpleOp op = true) : Wk P (.l (.n op :: rest) :: st) (some ⟨n, f, dd, H⟩) Q = Wk P (.l rest :: st) (stepS P op none ⟨n, f, dd, H⟩) Q := by
  rw [Wk_some]; exact simple_Wk h
@[go_sem ↓] theorem Wk_gs {t : Tmp} {w : Bool} {d : Tmp} {op : Op} : Wk P (.l (.g t w (some d) op :: rest) :: st) (some ⟨n, f, dd, H⟩) Q = gdK P (f.get t) w (.l (.o d op :: rest) :: st) (.l rest :: st) (some d) ⟨n, f, dd, H⟩ Q := by
  simp only [Wk_some, gdK]; rfl
@[go_sem ↓] theorem Wk_gn {t : Tmp} {w : Bool} {op : Op} : Wk P (.l (.g t w none op :: rest) :: st) (some ⟨n, f, dd, H⟩) Q = gdK P (f.get t) w (.l (.n op :: rest) :: st) (.l rest :: st) none ⟨n, f, dd, H⟩ Q := by
  simp only [Wk_some, gdK]; rfl
variable {a b : List Fr} {s : St} {d : Option Tmp}
@[go_sem] theorem gdK_tt : gdK P (some (.bool true)) true a b d s Q = Wk P a (some s) Q := by simp [gdK, gB, undef]
@[go_sem] theorem gdK_ff : gdK P (some (.bool false)) false a b d s Q = Wk P a (some s) Q := by simp [gdK, gB, undef]
@[go_sem] theorem gdK_tf : gdK P (some (.bool true)) false a b d ⟨n, f, dd, H⟩ Q = Wk P b (putO d n f dd H (some undef)) Q := by simp [gdK, gB, undef, putO]
@[go_sem] theorem gdK_ft : gdK P (some (.bool false)) true a b d ⟨n, f, dd, H⟩ Q = Wk P b (putO d n f dd H (some undef)) Q := by simp [gdK, gB, undef, putO]
@[go_sem] theorem gdK_u {w : Bool} : gdK P (some undef) w a b d ⟨n, f, dd, H⟩ Q = Wk P b (putO d n f dd H (some undef)) Q := by cases w <;> simp [gdK, gB, undef, putO]
@[go_sem] theorem brK_t : brK P (some (.bool true)) a b s Q = Wk P a (some s) Q := by simp [brK]
@[go_sem] theorem brK_f : brK P (some (.bool false)) a b s Q = Wk P b (some s) Q := by simp [brK]
theorem brK_by {t : Bool} (h1 : t = true → Wk P a (some s) Q) (h2 : t = false → Wk P b (some s) Q) : brK P (some (.bool t)) a b s Q := by
  cases t
  · rw [brK_f]; exact h2 rfl
  · rw [brK_t]; exact h1 rfl
theorem gdK_by {t w : Bool} (h1 : t = true → gdK P (some (.bool true)) w a b d s Q) (h2 : t = false → gdK P (some (.bool false)) w a b d s Q) : gdK P (some (.bool t)) w a b d s Q := by
  cases t
  · exact h2 rfl
  · exact h1 rfl
@[go_sem ↓] theorem Wk_skip : Wk P (.c .skip :: st) (some ⟨n, f, dd, H⟩) Q = Wk P st (some ⟨n, f, dd, H⟩) Q := by simp only [Wk_some]; rfl
@[go_sem ↓] theorem Wk_seq {a b : IC} : Wk P (.c (.seq a b) :: st) (some ⟨n, f, dd, H⟩) Q = Wk P (.c a :: .c b :: st) (some ⟨n, f, dd, H⟩) Q := by simp only [Wk_some]; rfl
@[go_sem ↓] theorem Wk_reg {l : List IOp} : Wk P (.c (.reg l) :: st) (some ⟨n, f, dd, H⟩) Q = Wk P (.l l :: st) (some ⟨n, f, dd, H⟩) Q := by simp only [Wk_some]; rfl
@[go_sem ↓] theorem Wk_regb {k : Nat} {l : List IOp} : Wk P (.c (.regb k l) :: st) (some ⟨n, f, dd, H⟩) Q = Wk P (.l l :: .x :: st) (some ⟨n, f, dd, bump H k⟩) Q := by simp only [Wk_some]; rfl
@[go_sem ↓] theorem Wk_x : Wk P (.x :: st) (some ⟨n, f, dd, H⟩) Q = Wk P st (some ⟨n, f, dd, H⟩) Q := by simp only [Wk_some]; rfl
@[go_sem ↓] theorem Wk_b {i : Nat} : Wk P (.b i :: st) (some ⟨n, f, dd, H⟩) Q = Wk P st (some ⟨n, f, dd, H⟩) Q := by simp only [Wk_some]; rfl
@[go_sem ↓] theorem Wk_i {J : St → Prop} : Wk P (.i J :: st) (some ⟨n, f, dd, H⟩) Q = J ⟨n, f, dd, H⟩ := by simp only [Wk_some]; rfl
@[go_sem ↓] theorem Wk_block {i : Nat} {b : IC} : Wk P (.c (.block i b) :: st) (some ⟨n, f, dd, H⟩) Q = Wk P (.c b :: .b i :: st) (some ⟨n, f, dd, H⟩) Q := by simp only [Wk_some]; rfl
@[go_sem ↓] theorem Wk_cond {c : Operand} {a b : IC} : Wk P (.c (.cond c a b) :: st) (some ⟨n, f, dd, H⟩) Q = brK P (evF f c) (.c a :: st) (.c b :: st) ⟨n, f, dd, H⟩ Q := by
  simp only [Wk_some, brK]
  show (∃ t, (St.mk n f dd H).ev c = some (.bool t) ∧ if t then _ else _) = _
  rw [ev_mk]
  refine propext (exists_congr fun t => ?_)
  cases t <;> exact Iff.rfl
@[go_sem ↓] theorem Wk_exit {i : Nat} : Wk P (.c (.exit i) :: st) (some ⟨n, f, dd, H⟩) Q = We P (.exit i) st (some ⟨n, f, dd, H⟩) Q := by simp only [Wk_some, We_some]; rfl
@[go_sem ↓] theorem Wk_ret : Wk P (.c .ret :: st) (some ⟨n, f, dd, H⟩) Q = We P .ret st (some ⟨n, f, dd, H⟩) Q := by simp only [Wk_some, We_some]; rfl
@[go_sem ↓] theorem We_exit_l {i : Nat} {l : List IOp} {so : Option St} : We P (.exit i) (.l l :: st) so Q = We P (.exit i) st so Q := rfl
@[go_sem ↓] theorem We_exit_c {i : Nat} {l : IC} {so : Option St} : We P (.exit i) (.c l :: st) so Q = We P (.exit i) st so Q := rfl
@[go_sem ↓] theorem We_exit_i {i : Nat} {J : St → Prop} {so : Option St} : We P (.exit i) (.i J :: st) so Q = We P (.exit i) st so Q := rfl
@[go_sem ↓] theorem We_exit_b {i j : Nat} {so : Option St} : We P (.exit i) (.b j :: st) so Q = if i = j then Wk P st so Q else We P (.exit i) st so Q := by
  unfold We Wk
  by_cases h : i = j
  · rw [if_pos h]
    refine propext (exists_congr fun s => and_congr Iff.rfl ?_)
    show (if i = j then _ else _) ↔ _
    rw [if_pos h]
  · rw [if_neg h]
    refine propext (exists_congr fun s => and_congr Iff.rfl ?_)
    show (if i = j then _ else _) ↔ _
    rw [if_neg h]
@[go_sem ↓] theorem We_ret_l {l : List IOp} {so : Option St} : We P .ret (.l l :: st) so Q = We P .ret st so Q := rfl
@[go_sem ↓] theorem We_ret_c {l : IC} {so : Option St} : We P .ret (.c l :: st) so Q = We P .ret st so Q := rfl
@[go_sem ↓] theorem We_ret_i {J : St → Prop} {so : Option St} : We P .ret (.i J :: st) so Q = We P .ret st so Q := rfl
@[go_sem ↓] theorem We_ret_b {j : Nat} {so : Option St} : We P .ret (.b j :: st) so Q = We P .ret st so Q := rfl
@[go_sem ↓] theorem We_pan_l {v : Value} {l : List IOp} {so : Option St} : We P (.panic v) (.l l :: st) so Q = We P (.panic v) st so Q := rfl
@[go_sem ↓] theorem We_pan_c {v : Value} {l : IC} {so : Option St} : We P (.panic v) (.c l :: st) so Q = We P (.panic v) st so Q := rfl
@[go_sem ↓] theorem We_pan_i {v : Value} {J : St → Prop} {so : Option St} : We P (.panic v) (.i J :: st) so Q = We P (.panic v) st so Q := rfl
@[go_sem ↓] theorem We_pan_b {v : Value} {j : Nat} {so : Option St} : We P (.panic v) (.b j :: st) so Q = We P (.panic v) st so Q := rfl

/- a panic -/
def panK (P : Program) (v : Option Value) (st : List Fr) (s : St) (Q : Ex → St → Prop) : Prop := ∃ u, v = some u ∧ ∃ w, panicA u = some w ∧ contF P st Q (.panic w) s
@[congr] theorem panK_congr {v v' : Option Value} {s : St} (h : v = v') : panK P v st s Q = panK P v' st s Q := by rw [h]
@[go_sem] theorem panK_some {t : TypeId} {v : Value} : panK P (some (.iface t v)) st s Q = We P (.panic (.iface t v)) st (some s) Q := by
  rw [We_some]
  refine propext ⟨?_, fun h => ⟨_, rfl, _, rfl, h⟩⟩
  rintro ⟨u, hu, w, hw, h⟩
  cases hu; cases hw; exact h
@[go_sem ↓] theorem Wk_panic {x : Operand} : Wk P (.l (.n (.panic x) :: rest) :: st) (some ⟨n, f, dd, H⟩) Q = panK P (evF f x) st ⟨n, f, dd, H⟩ Q := by
  rw [Wk_some]
  show WO P (.panic x) none ⟨n, f, dd, H⟩ (thenN _ _) = _
  refine propext (WO'_panic.trans ?_)
  rw [ev_mk]; exact Iff.rfl

/- a call: what its end is for the rest -/
def bkK (P : Program) (d : Option Tmp) (n : Nat) (f : Tr Value) (dd : List Deferred) (st : List Fr) (Q : Ex → St → Prop) : CR → Heap → Prop
  | .ret v, H => Wk P st (putO d n f dd H (some v)) Q
  | .pan v, H => We P (.panic v) st (some ⟨n, f, dd, H⟩) Q
@[go_sem ↓] theorem bkK_ret {d : Option Tmp} {v : Value} : bkK P d n f dd st Q (.ret v) H = Wk P st (putO d n f dd H (some v)) Q := rfl
@[go_sem ↓] theorem bkK_pan {d : Option Tmp} {v : Value} : bkK P d n f dd st Q (.pan v) H = We P (.panic v) st (some ⟨n, f, dd, H⟩) Q := rfl
def callK (P : Program) (g : Option Value) (l : Option (List Value)) (H : Heap) (K : CR → Heap → Prop) : Prop := ∃ u, g = some u ∧ ∃ a, l = some a ∧ ∃ t, targetA u a = some t ∧ CW P t.1 t.2 H K
@[congr] theorem callK_congr {g g' : Option Value} {l l' : Option (List Value)} {K : CR → Heap → Prop} (h : g = g') (h2 : l = l') : callK P g l H K = callK P g' l' H K := by rw [h, h2]
@[congr] theorem CW_congr {g : FuncId} {a a' : Array Value} {K : CR → Heap → Prop} (h : a = a') : CW P g a H K = CW P g a' H K := by rw [h]
@[go_sem] theorem callK_some {g : FuncId} {l : List Value} {a c : Array Value} {K : CR → Heap → Prop} : callK P (some (.func (.func g) a c)) (some l) H K = CW P g (a ++ l.toArray ++ c) H K := by
  refine propext ⟨?_, fun h => ⟨_, rfl, _, rfl, _, rfl, h⟩⟩
  rintro ⟨u, hu, x, hx, t, ht, h⟩
  cases hu; cases hx; cases ht; exact h
theorem call_W {x : Operand} {args : Array Operand} {ts : Array TypeId} {d : Option Tmp} : WO P (.call { callee := .value x, args := args, argTypes := ts }) d ⟨n, f, dd, H⟩ (contF P st Q) =
    callK P (evF f x) (evL f args.toList) H (bkK P d n f dd st Q) := by
  refine propext (WO'_call.trans ?_)
  rw [ev_mk, ev_mk', evL_eq]
  unfold callK
  refine exists_congr fun u => and_congr Iff.rfl (exists_congr fun a => and_congr Iff.rfl (exists_congr fun t => and_congr Iff.rfl ?_))
  have e : ∀ r H', backW d ⟨n, f, dd, H⟩ (contF P st Q) r H' ↔ bkK P d n f dd st Q r H' := by
    intro r H'
    cases r with
    | ret v => simp only [backW_ret, bkK_ret, setH_mk, putO, Option.map_some, Wk_some]
    | pan v => simp only [backW_pan, bkK_pan, setH_mk, We_some]
  exact ⟨fun h => CW_mono P h fun r H' k => (e r H').1 k, fun h => CW_mono P h fun r H' k => (e r H').2 k⟩
@[go_sem ↓] theorem Wk_call {x : Operand} {args : Array Operand} {ts : Array TypeId} {d : Tmp} : Wk P (.l (.o d (.call { callee := .value x, args := args, argTypes := ts }) :: rest) :: st) (some ⟨n, f, dd, H⟩) Q =
    callK P (evF f x) (evL f args.toList) H (bkK P (some d) n f dd (.l rest :: st) Q) := by
  rw [Wk_some, ← call_W (ts := ts)]; rfl
@[go_sem ↓] theorem Wk_calln {x : Operand} {args : Array Operand} {ts : Array TypeId} : Wk P (.l (.n (.call { callee := .value x, args := args, argTypes := ts }) :: rest) :: st) (some ⟨n, f, dd, H⟩) Q =
    callK P (evF f x) (evL f args.toList) H (bkK P none n f dd (.l rest :: st) Q) := by
  rw [Wk_some, ← call_W (ts := ts)]; rfl

theorem contF_mono {Q Q' : Ex → St → Prop} (k : ∀ e s, Q e s → Q' e s) : ∀ (st : List Fr) (e : Ex) (s : St), contF P st Q e s → contF P st Q' e s
  | [], e, s, h => k e s h
  | .l l :: st, e, s, h => by
    cases e with
    | normal => exact WL_mono P l h (contF_mono k st)
    | _ => exact contF_mono k st _ _ h
  | .c c :: st, e, s, h => by
    cases e with
    | normal => exact Wq_mono P c h (contF_mono k st)
    | _ => exact contF_mono k st _ _ h
  | .b i :: st, e, s, h => by
    cases e with
    | exit j =>
      have h : if j = i then _ else _ := h
      show if j = i then _ else _
      split at h
      · rename_i e; rw [if_pos e]; exact contF_mono k st _ _ h
      · rename_i e; rw [if_neg e]; exact contF_mono k st _ _ h
    | _ => exact contF_mono k st _ _ h
  | .i J :: st, e, s, h => by
    cases e with
    | normal => exact h
    | _ => exact contF_mono k st _ _ h
  | .x :: st, e, s, h => by
    cases e with
    | normal => exact contF_mono k st _ _ h
    | _ => exact h
  | .e r0 l A :: st, e, s, h => by
    cases e with
    | normal => exact WE_mono P l h (contF_mono k st .normal)
    | _ => exact h
  | .w r0 l A hist rd :: st, e, s, h => by
    cases e with
    | normal => exact WD_mono P l h (contF_mono k st .normal)
    | _ => exact h

/- a loop with an invariant and a measure -/
theorem Wk_loop {b : IC} {s : St} (I : Nat → St → Prop) (m : Nat) (h0 : I m s)
    (hs : ∀ m s, I m s → Wk P (.c b :: .i (fun s' => ∃ k, k < m ∧ I k s') :: st) (some s) Q) : Wk P (.c (.loop b) :: st) (some s) Q := by
  rw [Wk_some]
  refine Wq_loop P I m h0 ?_
  intro m s hI
  have := hs m s hI
  rw [Wk_some] at this
  exact this

/- code is walked to a place, and on from there -/
theorem Wk_cut {fr : Fr} (J : St → Prop) (h : Wk P (fr :: .i J :: st) (some s) Q) (k : ∀ s, J s → Wk P st (some s) Q) : Wk P (fr :: st) (some s) Q := by
  rw [Wk_some] at h ⊢
  have k' : ∀ e s, contF P (.i J :: st) Q e s → contF P st Q e s := by
    intro e s h
    cases e with
    | normal => have := k s h; rw [Wk_some] at this; exact this
    | _ => exact h
  cases fr with
  | l l => exact WL_mono P l h k'
  | c c => exact Wq_mono P c h k'
  | b i => exact k' _ _ h
  | i J => exact h
  | x => exact k' .normal _ h
  | e r0 l A => exact WE_mono P l h (k' .normal)
  | w r0 l A hist rd => exact WD_mono P l h (k' .normal)

/- a function that defers nothing -/
theorem CW_k {g : FuncId} {k : Nat} {c : IC} {res : List ResultVar} (hf : ifn P g = some ⟨k, c, res⟩) {args : Array Value} {n : Nat} (hn : Nat.max k args.size = n) {Q : CR → Heap → Prop}
    (h : Wk P [.c c] (some ⟨n, ofArgs 0 args.toList, [], H⟩) (retW P res Q)) : CW P g args H Q := by
  subst hn
  refine CW_of P hf ?_
  rw [Wk_some] at h
  exact Wq_mono P c h (fun e s h => by cases e <;> exact h)

def resO (P : Program) (res : List ResultVar) (f : Tr Value) (H : Heap) : Option Value := resW P res ⟨0, f, [], H⟩
def retK (Q : CR → Heap → Prop) (H : Heap) (v : Option Value) : Prop := ∃ u, v = some u ∧ Q (.ret u) H
@[congr] theorem retK_congr {Q : CR → Heap → Prop} {v v' : Option Value} (h : v = v') : retK Q H v = retK Q H v' := by rw [h]
theorem retK_some {Q : CR → Heap → Prop} {v : Value} : retK Q H (some v) = Q (.ret v) H := propext ⟨fun ⟨_, h, k⟩ => by cases h; exact k, fun h => ⟨v, rfl, h⟩⟩
@[go_sem ↓] theorem Wk_end {res : List ResultVar} {Q : CR → Heap → Prop} : Wk P [] (some ⟨n, f, [], H⟩) (retW P res Q) = retK Q H (resO P res f H) := by
  rw [Wk_some]; exact propext ⟨fun h => h.2, fun h => ⟨rfl, h⟩⟩
@[go_sem ↓] theorem We_end {res : List ResultVar} {Q : CR → Heap → Prop} : We P .ret [] (some ⟨n, f, [], H⟩) (retW P res Q) = retK Q H (resO P res f H) := by
  rw [We_some]; exact propext ⟨fun h => h.2, fun h => ⟨rfl, h⟩⟩
@[go_sem ↓] theorem We_endp {v : Value} {res : List ResultVar} {Q : CR → Heap → Prop} : We P (.panic v) [] (some ⟨n, f, [], H⟩) (retW P res Q) = Q (.pan v) H := by
  rw [We_some]; exact propext ⟨fun h => h.2, fun h => ⟨rfl, h⟩⟩
@[go_sem] theorem resO_nil : resO P [] f H = some (.tuple #[]) := rfl
@[go_sem] theorem resO_t1 {t : Tmp} : resO P [.tmp t] f H = some ((f.get t).getD undef) := rfl
def tup2 (a b : Option Value) : Option Value := a.bind fun a => b.map fun b => .tuple #[a, b]
def tup3 (a b c : Option Value) : Option Value := a.bind fun a => b.bind fun b => c.map fun c => .tuple #[a, b, c]
@[go_sem] theorem tup2_some {a b : Value} : tup2 (some a) (some b) = some (.tuple #[a, b]) := rfl
@[go_sem] theorem tup3_some {a b c : Value} : tup3 (some a) (some b) (some c) = some (.tuple #[a, b, c]) := rfl
def resV (P : Program) (f : Tr Value) (H : Heap) : ResultVar → Option Value
  | .tmp t => some ((f.get t).getD undef)
  | .cell t ty => loadA P H ty ((f.get t).getD undef)
@[go_sem] theorem resV_t {t : Tmp} : resV P f H (.tmp t) = some ((f.get t).getD undef) := rfl
@[go_sem] theorem resV_c {t : Tmp} {ty : TypeId} : resV P f H (.cell t ty) = loadA P H ty ((f.get t).getD undef) := rfl
theorem resA_eq (x : ResultVar) : resultA P ⟨0, f, [], H⟩ x = resV P f H x := by cases x <;> rfl
@[go_sem] theorem resO_c1 {t : Tmp} {ty : TypeId} : resO P [.cell t ty] f H = loadA P H ty ((f.get t).getD undef) := by
  unfold resO resW
  rw [mapM_cons', mapM_nil', resA_eq, resV_c]
  cases loadA P H ty ((f.get t).getD undef) <;> rfl
@[go_sem] theorem resO_2 {x y : ResultVar} : resO P [x, y] f H = tup2 (resV P f H x) (resV P f H y) := by
  unfold resO resW
  rw [mapM_cons', mapM_cons', mapM_nil', resA_eq, resA_eq]
  cases resV P f H x with
  | none => rfl
  | some u => cases resV P f H y <;> rfl
@[go_sem] theorem resO_3 {x y z : ResultVar} : resO P [x, y, z] f H = tup3 (resV P f H x) (resV P f H y) (resV P f H z) := by
  unfold resO resW
  rw [mapM_cons', mapM_cons', mapM_cons', mapM_nil', resA_eq, resA_eq, resA_eq]
  cases resV P f H x with
  | none => rfl
  | some u => cases resV P f H y with
    | none => rfl
    | some v => cases resV P f H z <;> rfl

end

/- drawing regions -/
section
variable {st : List Fr} {Q : Ex → St → Prop} {n : Nat} {f : Tr Value} {dd : List Deferred} {H : Heap} {r0 : Nat} {l : List DOp} {A : List (Nat × Blk)} {hist : List (Nat × Heap)} {rd : List RdE}

def selA (vis : List Nat) : List (Nat × Blk) → List (Nat × Blk)
  | [] => []
  | p :: A => if vis.contains p.1 then p :: selA vis A else selA vis A
def dropA (vis : List Nat) : List (Nat × Blk) → List (Nat × Blk)
  | [] => []
  | p :: A => if vis.contains p.1 then dropA vis A else p :: dropA vis A
theorem selA_eq (vis : List Nat) (A : List (Nat × Blk)) : (A.filter fun p => vis.contains p.1) = selA vis A := by
  induction A with
  | nil => rfl
  | cons p A ih => simp only [List.filter_cons, selA, ih]
theorem dropA_eq (vis : List Nat) (A : List (Nat × Blk)) : (A.filter fun p => !vis.contains p.1) = dropA vis A := by
  induction A with
  | nil => rfl
  | cons p A ih =>
    simp only [List.filter_cons, dropA, ih]
    cases vis.contains p.1 <;> rfl

/- a block made, its number kept for it -/
def allocB (P : Program) (f : Tr Value) : Op → Option ((Nat → Value) × Blk)
  | .alloc t => (zeroA P t).map fun z => (fun b => .pointer (some ⟨b, 0, none⟩), ⟨t, 0, false, z.cells.toList⟩)
  | .box t x => (evF f x).map fun z => (fun b => .pointer (some ⟨b, 0, none⟩), ⟨t, 0, false, z.cells.toList⟩)
  | .buildSlice t k parts => bslO P t k (evPs f parts.toList)
  | .makeSlice t a b => mkslO P t (evF f a) (evF f b)
  | _ => none
theorem allocB_eq {op : Op} : allocA P op (St.mk n f dd H).ev = allocB P f op := by
  cases op with
  | alloc t => simp only [allocA, allocB]; cases zeroA P t <;> rfl
  | box t x => simp only [allocA, allocB, ev_mk]; cases evF f x <;> rfl
  | buildSlice t k p =>
    simp only [allocA, allocB, bslO, ev_mk]
    rw [← evPs_eq]
    rfl
  | makeSlice t a b =>
    simp only [allocA, allocB, mkslO, ev_mk]
    rfl
  | _ => rfl

def aK (P : Program) (r : Option ((Nat → Value) × Blk)) (r0 i : Nat) (d : Option Tmp) (l : List DOp) (A : List (Nat × Blk)) (st : List Fr) (n : Nat) (f : Tr Value) (dd : List Deferred) (H : Heap) (Q : Ex → St → Prop) : Prop :=
  ∃ u, r = some u ∧ Wk P (.e r0 l (A ++ [(i, u.2)]) :: st) (putO d n f dd H (some (u.1 (r0 + i)))) Q
def wK (P : Program) (r : Option ((Nat → Value) × Blk)) (r0 i : Nat) (d : Option Tmp) (l : List DOp) (A : List (Nat × Blk)) (hist : List (Nat × Heap)) (rd : List RdE) (st : List Fr) (n : Nat) (f : Tr Value) (dd : List Deferred) (H : Heap) (Q : Ex → St → Prop) : Prop :=
  ∃ u, r = some u ∧ Wk P (.w r0 l (A ++ [(i, u.2)]) hist rd :: st) (putO d n f dd H (some (u.1 (r0 + i)))) Q
@[congr] theorem aK_congr {r r' : Option ((Nat → Value) × Blk)} {i : Nat} {d : Option Tmp} (h : r = r') : aK P r r0 i d l A st n f dd H Q = aK P r' r0 i d l A st n f dd H Q := by rw [h]
@[congr] theorem wK_congr {r r' : Option ((Nat → Value) × Blk)} {i : Nat} {d : Option Tmp} (h : r = r') : wK P r r0 i d l A hist rd st n f dd H Q = wK P r' r0 i d l A hist rd st n f dd H Q := by rw [h]
@[go_sem] theorem aK_some {u : (Nat → Value) × Blk} {i : Nat} {d : Option Tmp} : aK P (some u) r0 i d l A st n f dd H Q = Wk P (.e r0 l (A ++ [(i, u.2)]) :: st) (putO d n f dd H (some (u.1 (r0 + i)))) Q :=
  propext ⟨fun ⟨_, h, k⟩ => by cases h; exact k, fun h => ⟨u, rfl, h⟩⟩
@[go_sem] theorem wK_some {u : (Nat → Value) × Blk} {i : Nat} {d : Option Tmp} : wK P (some u) r0 i d l A hist rd st n f dd H Q = Wk P (.w r0 l (A ++ [(i, u.2)]) hist rd :: st) (putO d n f dd H (some (u.1 (r0 + i)))) Q :=
  propext ⟨fun ⟨_, h, k⟩ => by cases h; exact k, fun h => ⟨u, rfl, h⟩⟩

@[go_sem ↓] theorem Wk_drl {k : Nat} {l : List DOp} : Wk P (.c (.drl k l) :: st) (some ⟨n, f, dd, H⟩) Q = Wk P (.e H.next l [] :: st) (some ⟨n, f, dd, bump H k⟩) Q := by simp only [Wk_some]; rfl
@[go_sem ↓] theorem Wk_drw {k : Nat} {l : List DOp} : Wk P (.c (.drw k l) :: st) (some ⟨n, f, dd, H⟩) Q = Wk P (.w H.next l [] [] [] :: st) (some ⟨n, f, dd, bump H k⟩) Q := by simp only [Wk_some]; rfl
@[go_sem ↓] theorem Wk_e_nil : Wk P (.e r0 [] A :: st) (some ⟨n, f, dd, H⟩) Q = Wk P st (some ⟨n, f, dd, layA r0 H A⟩) Q := by simp only [Wk_some]; rfl
@[go_sem ↓] theorem Wk_w_nil : Wk P (.w r0 [] A hist rd :: st) (some ⟨n, f, dd, H⟩) Q = Wk P st (some ⟨n, f, dd, layA r0 H A⟩) Q := by simp only [Wk_some]; rfl
@[go_sem ↓] theorem Wk_e_q {d : Option Tmp} {op : Op} (h : simpleOp op = true) : Wk P (.e r0 (⟨none, d, op, .q⟩ :: l) A :: st) (some ⟨n, f, dd, H⟩) Q = Wk P (.e r0 l A :: st) (stepS P op d ⟨n, f, dd, H⟩) Q := by
  rw [Wk_some]; exact simple_Wk h
@[go_sem ↓] theorem Wk_w_q {d : Option Tmp} {op : Op} (h : simpleOp op = true) : Wk P (.w r0 (⟨none, d, op, .q⟩ :: l) A hist rd :: st) (some ⟨n, f, dd, H⟩) Q = Wk P (.w r0 l A hist rd :: st) (stepS P op d ⟨n, f, dd, H⟩) Q := by
  rw [Wk_some]; exact simple_Wk h
@[go_sem ↓] theorem Wk_e_a {d : Option Tmp} {op : Op} {i : Nat} : Wk P (.e r0 (⟨none, d, op, .a i⟩ :: l) A :: st) (some ⟨n, f, dd, H⟩) Q = aK P (allocB P f op) r0 i d l A st n f dd H Q := by
  rw [Wk_some]
  show (∃ r, allocA P op (St.mk n f dd H).ev = some r ∧ WE P r0 l ((St.mk n f dd H).put d (r.1 (r0 + i))) (A ++ [(i, r.2)]) (contF P st Q .normal)) = _
  rw [allocB_eq]
  refine propext (exists_congr fun r => and_congr Iff.rfl ?_)
  rw [putO, Option.map_some, Wk_some]; rfl
@[go_sem ↓] theorem Wk_w_a {d : Option Tmp} {op : Op} {i : Nat} : Wk P (.w r0 (⟨none, d, op, .a i⟩ :: l) A hist rd :: st) (some ⟨n, f, dd, H⟩) Q = wK P (allocB P f op) r0 i d l A hist rd st n f dd H Q := by
  rw [Wk_some]
  show (∃ r, allocA P op (St.mk n f dd H).ev = some r ∧ WD P r0 l { s := (St.mk n f dd H).put d (r.1 (r0 + i)), A := A ++ [(i, r.2)], hist := hist, rd := rd } (contF P st Q .normal)) = _
  rw [allocB_eq]
  refine propext (exists_congr fun r => and_congr Iff.rfl ?_)
  rw [putO, Option.map_some, Wk_some]; rfl

/- a reading's value -/
def rdO (P : Program) (f : Tr Value) (H : Heap) : Op → Option Value
  | .load t x => loadO P H t (evF f x)
  | .slice t x lo hi mx => sliceO P H t (evF f x) (evO f lo) (evO f hi) (evO f mx)
  | _ => none
def rdOp : Op → Bool
  | .load _ _ | .slice _ _ _ _ _ => true
  | _ => false
theorem RD_eq {op : Op} (h : rdOp op = true) {v : Value} {H0 : Heap} : RD P op ⟨n, f, dd, H0⟩ H v = (rdO P f H op = some v) := by
  unfold RD
  cases op with
  | load t x =>
    simp only [opA, isAlloc, Bool.false_eq_true, if_false, ev_mk, rdO, loadO]
    cases evF f x with
    | none => simp
    | some u =>
      refine propext ?_
      show (∃ H', (do let v ← loadA P H t u; some (R.val v, H)) = some (R.val v, H')) ↔ _
      simp only [Option.bind_some]
      cases loadA P H t u <;> simp
  | slice t x lo hi mx =>
    simp only [opA, isAlloc, Bool.false_eq_true, if_false, ev_mk', rdO, sliceO, evO_eq]
    refine propext ?_
    cases evF f x with
    | none => simp
    | some u =>
      cases evO f lo with
      | none => simp
      | some a => cases evO f hi with
        | none => simp
        | some b => cases evO f mx with
          | none => simp
          | some c =>
            show (∃ H', (do let v ← sliceA P H t u a b c; some (R.val v, H)) = some (R.val v, H')) ↔ _
            simp only [Option.bind_some]
            cases sliceA P H t u a b c <;> simp
  | _ => cases h

def rK (P : Program) (v : Option Value) (r0 : Nat) (d : Option Tmp) (l : List DOp) (A : List (Nat × Blk)) (st : List Fr) (n : Nat) (f : Tr Value) (dd : List Deferred) (H : Heap) (Q : Ex → St → Prop) : Prop :=
  Wk P (.e r0 l A :: st) (putO d n f dd H v) Q
@[go_sem ↓] theorem Wk_e_r {d : Option Tmp} {op : Op} {i : Nat} {sees nb : List Nat} (h : rdOp op = true) : Wk P (.e r0 (⟨none, d, op, .r i sees nb⟩ :: l) A :: st) (some ⟨n, f, dd, H⟩) Q =
    Wk P (.e r0 l A :: st) (putO d n f dd H (rdO P f (layA r0 H (selA sees A)) op)) Q := by
  rw [Wk_some]
  show (∃ v, RD P op ⟨n, f, dd, H⟩ (layA r0 H (A.filter fun p => sees.contains p.1)) v ∧ WE P r0 l ((St.mk n f dd H).put d v) A (contF P st Q .normal)) = _
  simp only [RD_eq h, selA_eq]
  refine propext ?_
  unfold Wk
  cases rdO P f (layA r0 H (selA sees A)) op with
  | none => simp [putO]
  | some v => simp only [putO, Option.map_some, Option.some.injEq, exists_eq_left']; exact Iff.rfl

/- a reading; in earlier heaps, too -/
def wrK (P : Program) (v : Option Value) (r0 i : Nat) (sees nb : List Nat) (op : Op) (d : Option Tmp) (l : List DOp) (A : List (Nat × Blk)) (hist : List (Nat × Heap)) (rd : List RdE) (st : List Fr) (n : Nat) (f : Tr Value) (dd : List Deferred) (H : Heap) (Q : Ex → St → Prop) : Prop :=
  ∃ u, v = some u ∧ (∀ h ∈ hist.takeWhile fun h => nb.contains h.1, rdO P f (layA r0 h.2 (selA sees A)) op = some u) ∧ Wk P (.w r0 l A hist (⟨i, op, ⟨n, f, dd, H⟩, u, sees⟩ :: rd) :: st) (putO d n f dd H (some u)) Q
@[congr] theorem wrK_congr {v v' : Option Value} {i : Nat} {sees nb : List Nat} {op : Op} {d : Option Tmp} (h : v = v') : wrK P v r0 i sees nb op d l A hist rd st n f dd H Q = wrK P v' r0 i sees nb op d l A hist rd st n f dd H Q := by rw [h]
@[go_sem ↓] theorem Wk_w_r {d : Option Tmp} {op : Op} {i : Nat} {sees nb : List Nat} (h : rdOp op = true) : Wk P (.w r0 (⟨none, d, op, .r i sees nb⟩ :: l) A hist rd :: st) (some ⟨n, f, dd, H⟩) Q =
    wrK P (rdO P f (layA r0 H (selA sees A)) op) r0 i sees nb op d l A hist rd st n f dd H Q := by
  rw [Wk_some]
  show (∃ v, RD P op ⟨n, f, dd, H⟩ (layA r0 H (A.filter fun p => sees.contains p.1)) v ∧
      (∀ h ∈ hist.takeWhile fun h => nb.contains h.1, RD P op ⟨n, f, dd, H⟩ (layA r0 h.2 (A.filter fun p => sees.contains p.1)) v) ∧
      WD P r0 l { s := (St.mk n f dd H).put d v, A := A, hist := hist, rd := ⟨i, op, ⟨n, f, dd, H⟩, v, sees⟩ :: rd } (contF P st Q .normal)) = _
  simp only [RD_eq h, selA_eq]
  unfold wrK
  refine propext (exists_congr fun v => and_congr Iff.rfl (and_congr Iff.rfl ?_))
  rw [putO, Option.map_some, Wk_some]; rfl
@[go_sem] theorem wrK_nil {v : Value} {i : Nat} {sees nb : List Nat} {op : Op} {d : Option Tmp} : wrK P (some v) r0 i sees nb op d l A [] rd st n f dd H Q =
    Wk P (.w r0 l A [] (⟨i, op, ⟨n, f, dd, H⟩, v, sees⟩ :: rd) :: st) (putO d n f dd H (some v)) Q := by
  refine propext ⟨?_, fun h => ⟨v, rfl, by simp, h⟩⟩
  rintro ⟨u, h, _, k⟩; cases h; exact k

/- an operation of the chain -/
@[go_sem ↓] theorem Wk_e_c {d : Option Tmp} {op : Op} {i : Nat} {vis re : List Nat} (h : simpleOp op = true) : Wk P (.e r0 (⟨none, d, op, .c i vis re⟩ :: l) A :: st) (some ⟨n, f, dd, H⟩) Q =
    Wk P (.e r0 l (dropA vis A) :: st) (stepS P op d ⟨n, f, dd, layA r0 H (selA vis A)⟩) Q := by
  rw [Wk_some]
  show WO P op d (setH ⟨n, f, dd, H⟩ (layA r0 H (A.filter fun p => vis.contains p.1))) (thenN (fun s => WE P r0 l s (A.filter fun p => !vis.contains p.1) (contF P st Q .normal)) noEx) = _
  rw [selA_eq, dropA_eq, setH_mk, simple_Wk h]
  rfl
/- what was read is read again -/
def reK (P : Program) (r0 : Nat) (H : Heap) (A : List (Nat × Blk)) (re : List Nat) : List RdE → Prop
  | [] => True
  | e :: rd => (re.contains e.k = true → rdO P e.s.f (layA r0 H (selA e.sees A)) e.op = some e.v) ∧ reK P r0 H A re rd
theorem reK_of {A : List (Nat × Blk)} {re : List Nat} : ∀ (rd : List RdE), (∀ e ∈ rd, rdOp e.op = true) → reK P r0 H A re rd → ∀ e ∈ rd.filter fun e => re.contains e.k, RD P e.op e.s (layA r0 H (A.filter fun p => e.sees.contains p.1)) e.v
  | [], _, _ => by simp
  | e :: rd, hr, h => by
    intro x hx
    rw [List.mem_filter, List.mem_cons] at hx
    obtain ⟨hx, hc⟩ := hx
    rcases hx with rfl | hx
    · have := h.1 hc
      obtain ⟨k, op, s, v, sees⟩ := x
      obtain ⟨n, f, dd, H0⟩ := s
      rw [RD_eq (hr _ (by simp)), selA_eq]
      exact this
    · exact reK_of rd (fun e he => hr e (by simp [he])) h.2 x (by rw [List.mem_filter]; exact ⟨hx, hc⟩)
def allRd : List RdE → Bool
  | [] => true
  | e :: rd => rdOp e.op && allRd rd
theorem allRd_of : ∀ {rd : List RdE}, allRd rd = true → ∀ e ∈ rd, rdOp e.op = true
  | [], _ => by simp
  | e :: rd, h => by
    simp only [allRd, Bool.and_eq_true] at h
    intro x hx
    rcases List.mem_cons.1 hx with rfl | hx
    · exact h.1
    · exact allRd_of h.2 x hx
/- the chain's operation was done -/
def cK (P : Program) (so : Option St) (r0 i : Nat) (re : List Nat) (l : List DOp) (A : List (Nat × Blk)) (H0 : Heap) (hist : List (Nat × Heap)) (rd : List RdE) (st : List Fr) (Q : Ex → St → Prop) : Prop :=
  ∃ s, so = some s ∧ reK P r0 s.H A re rd ∧ Wk P (.w r0 l A ((i, H0) :: hist) rd :: st) (some s) Q
@[congr] theorem cK_congr {so so' : Option St} {i : Nat} {re : List Nat} {H0 : Heap} (h : so = so') : cK P so r0 i re l A H0 hist rd st Q = cK P so' r0 i re l A H0 hist rd st Q := by rw [h]
theorem Wk_w_c {d : Option Tmp} {op : Op} {i : Nat} {vis re : List Nat} (h : simpleOp op = true) (hr : allRd rd = true)
    (k : cK P (stepS P op d ⟨n, f, dd, layA r0 H (selA vis A)⟩) r0 i re l (dropA vis A) H hist rd st Q) : Wk P (.w r0 (⟨none, d, op, .c i vis re⟩ :: l) A hist rd :: st) (some ⟨n, f, dd, H⟩) Q := by
  rw [Wk_some]
  show WO P op d (setH ⟨n, f, dd, H⟩ (layA r0 H (A.filter fun p => vis.contains p.1))) (thenN (fun s =>
      (∀ e ∈ rd.filter fun e => re.contains e.k, RD P e.op e.s (layA r0 s.H ((A.filter fun p => !vis.contains p.1).filter fun p => e.sees.contains p.1)) e.v) ∧
      WD P r0 l { s := s, A := A.filter fun p => !vis.contains p.1, hist := (i, H) :: hist, rd := rd } (contF P st Q .normal)) noEx)
  rw [selA_eq, dropA_eq, setH_mk, simple_Wk h]
  obtain ⟨s, hs, h1, h2⟩ := k
  refine ⟨s, hs, reK_of rd (allRd_of hr) h1, ?_⟩
  rw [Wk_some] at h2
  exact h2
theorem cK_some {s : St} {i : Nat} {re : List Nat} {H0 : Heap} (h1 : reK P r0 s.H A re rd) (h2 : Wk P (.w r0 l A ((i, H0) :: hist) rd :: st) (some s) Q) : cK P (some s) r0 i re l A H0 hist rd st Q := ⟨s, rfl, h1, h2⟩
@[go_sem] theorem cK_nil {s : St} {i : Nat} {H0 : Heap} : cK P (some s) r0 i [] l A H0 hist rd st Q = Wk P (.w r0 l A ((i, H0) :: hist) rd :: st) (some s) Q := by
  refine propext ⟨fun ⟨_, h, _, k⟩ => by cases h; exact k, fun h => ⟨s, rfl, ?_, h⟩⟩
  clear h
  induction rd with
  | nil => exact trivial
  | cons e rd ih => exact ⟨by simp, ih⟩
end
end
end Go.Am
