/- Equations for one operation at a time, in the form in which the simplifier uses them. Conditions: those of each theorem. -/
import Derived.Test.YthanhcpnhionaaaAmEval
set_option linter.all false
set_option linter.unusedSimpArgs false
set_option linter.unusedVariables false
namespace Go.Am

section
variable {P : Program} {cl : Cl} {ops : Array Oper} {rest : List Oper} {d : Option Tmp} {ty : TypeId} {ps : String} {af : Array Edge} {s : St}

theorem runOps_nil : runOps P cl ops [] s = some (.normal, s) := rfl

/- what a guard says -/
def grd (ops : Array Oper) (s : St) (j : Nat) : Option Bool := yieldedA ops s j

theorem runOps_guard {op : Op} {j : Nat} {w : Bool} : runOps P cl ops ({ dst := d, op := op, type := ty, pos := ps, after := af, guard := some (j, w) } :: rest) s =
    if yieldedA ops s j == some w then runOps P cl ops ({ dst := d, op := op, type := ty, pos := ps, after := af, guard := none } :: rest) s
    else runOps P cl ops rest (s.put d undef) := rfl

theorem yieldedA_eq {j : Nat} : yieldedA ops s j = match (ops[j]?).bind (·.dst) with | some t => (match s.f.get t with | some (.bool b) => some b | _ => none) | none => none := rfl

theorem runOps_of {o : Oper} (hg : o.guard = none) : runOps P cl ops (o :: rest) s = match doOp P cl o s with | some (.normal, s') => runOps P cl ops rest s' | r => r := by
  simp only [runOps, wantedA, hg, if_true]
  rfl

theorem runOps_val {op : Op} {r : Option Value} (h : opA P { dst := d, op := op, type := ty, pos := ps, after := af, guard := none } s.ev s.H = r.map fun v => (.val v, s.H)) :
    runOps P cl ops ({ dst := d, op := op, type := ty, pos := ps, after := af, guard := none } :: rest) s = r.bind fun v => runOps P cl ops rest (s.put d v) := by
  rw [runOps_of rfl]
  unfold doOp
  rw [h]
  cases r with
  | none => rfl
  | some v =>
    cases s; rfl

theorem runOps_move {x : Operand} : runOps P cl ops ({ dst := d, op := .move x, type := ty, pos := ps, after := af, guard := none } :: rest) s = (s.ev x).bind fun v => runOps P cl ops rest (s.put d v) :=
  runOps_val (by simp only [opA, isAlloc, Bool.false_eq_true, if_false]; cases s.ev x <;> rfl)
theorem runOps_assign {x : Operand} : runOps P cl ops ({ dst := d, op := .assign x, type := ty, pos := ps, after := af, guard := none } :: rest) s = (s.ev x).bind fun v => runOps P cl ops rest (s.put d v) :=
  runOps_val (by simp only [opA, isAlloc, Bool.false_eq_true, if_false]; cases s.ev x <;> rfl)

def pickA (ev : Operand → Option Value) (x y : Operand) : Value → Option Value
  | .bool c => ev (if c then x else y)
  | _ => none
theorem runOps_pick {c x y : Operand} : runOps P cl ops ({ dst := d, op := .pick c x y, type := ty, pos := ps, after := af, guard := none } :: rest) s = (s.ev c).bind fun v => (pickA s.ev x y v).bind fun v => runOps P cl ops rest (s.put d v) := by
  rw [runOps_val (r := (s.ev c).bind (pickA s.ev x y))]
  · cases s.ev c <;> rfl
  · simp only [opA, isAlloc, Bool.false_eq_true, if_false]
    cases s.ev c with
    | none => rfl
    | some v =>
      cases v <;> try rfl
      rename_i b
      cases b
      · show (do some (R.val (← s.ev y), s.H)) = _
        simp only [Option.bind_some, pickA, Bool.false_eq_true, if_false]
        cases s.ev y <;> rfl
      · show (do some (R.val (← s.ev x), s.H)) = _
        simp only [Option.bind_some, pickA, if_true]
        cases s.ev x <;> rfl

def nilChkA : Value → Option Value
  | .pointer (some a) => some (.pointer (some a))
  | .func (.func f) first captured => some (.func (.func f) first captured)
  | .iface t v => some (.iface t v)
  | _ => none
theorem runOps_nilCheck {x : Operand} : runOps P cl ops ({ dst := d, op := .nilCheck x, type := ty, pos := ps, after := af, guard := none } :: rest) s = (s.ev x).bind fun v => (nilChkA v).bind fun v => runOps P cl ops rest (s.put d v) := by
  rw [runOps_val (r := (s.ev x).bind nilChkA)]
  · cases s.ev x <;> rfl
  · simp only [opA, isAlloc, Bool.false_eq_true, if_false]
    cases s.ev x with
    | none => rfl
    | some v =>
      cases v <;> try rfl
      · rename_i q; cases q <;> rfl
      · rename_i q _ _; cases q <;> rfl

theorem runOps_build {t : TypeId} {parts : Array (Nat × Operand)} : runOps P cl ops ({ dst := d, op := .build t parts, type := ty, pos := ps, after := af, guard := none } :: rest) s = (parts.toList.mapM fun (p : Nat × Operand) => (s.ev p.2).map (p.1, ·)).bind fun l => (buildA P t l).bind fun v => runOps P cl ops rest (s.put d v) := by
  rw [runOps_val (r := (parts.toList.mapM fun (p : Nat × Operand) => (s.ev p.2).map (p.1, ·)).bind fun l => buildA P t l)]
  · cases (parts.toList.mapM fun (p : Nat × Operand) => (s.ev p.2).map (p.1, ·)) <;> rfl
  · simp only [opA, isAlloc, Bool.false_eq_true, if_false]
    show (do let l ← (parts.toList.mapM fun (p : Nat × Operand) => (s.ev p.2).map (p.1, ·)); let u ← buildA P t l; some (R.val u, s.H)) = _
    cases (parts.toList.mapM fun (p : Nat × Operand) => (s.ev p.2).map (p.1, ·)) with
    | none => rfl
    | some l =>
      show (do let u ← buildA P t l; some (R.val u, s.H)) = (buildA P t l).map _
      cases buildA P t l <;> rfl

theorem runOps_load {t : TypeId} {x : Operand} : runOps P cl ops ({ dst := d, op := .load t x, type := ty, pos := ps, after := af, guard := none } :: rest) s = (s.ev x).bind fun v => (loadA P s.H t v).bind fun v => runOps P cl ops rest (s.put d v) := by
  rw [runOps_val (r := (s.ev x).bind (loadA P s.H t))]
  · cases s.ev x <;> rfl
  · simp only [opA, isAlloc, Bool.false_eq_true, if_false]
    cases s.ev x with
    | none => rfl
    | some v =>
      show (do let u ← loadA P s.H t v; some (R.val u, s.H)) = (loadA P s.H t v).map _
      cases loadA P s.H t v <;> rfl

theorem runOps_bin {op : BinOp} {t u : TypeId} {x y : Operand} : runOps P cl ops ({ dst := d, op := .binOp op t x y u, type := ty, pos := ps, after := af, guard := none } :: rest) s =
    (s.ev x).bind fun a => (s.ev y).bind fun b => if eqGuardA op x y a b then (binA P op t a b).bind fun v => runOps P cl ops rest (s.put d v) else none := by
  rw [runOps_val (r := (s.ev x).bind fun a => (s.ev y).bind fun b => if eqGuardA op x y a b then binA P op t a b else none)]
  · cases s.ev x with
    | none => rfl
    | some a => cases s.ev y with
      | none => rfl
      | some b => simp only [Option.bind_some]; split <;> rfl
  · simp only [opA, isAlloc, Bool.false_eq_true, if_false]
    cases s.ev x with
    | none => rfl
    | some a => cases s.ev y with
      | none => rfl
      | some b =>
        show (if eqGuardA op x y a b then (do let u ← binA P op t a b; some (R.val u, s.H)) else none) = (if eqGuardA op x y a b then binA P op t a b else none).map _
        split
        · cases binA P op t a b <;> rfl
        · rfl

theorem runOps_un {op : UnOp} {t : TypeId} {x : Operand} : runOps P cl ops ({ dst := d, op := .unOp op t x, type := ty, pos := ps, after := af, guard := none } :: rest) s = (s.ev x).bind fun v => (unA op v).bind fun v => runOps P cl ops rest (s.put d v) := by
  rw [runOps_val (r := (s.ev x).bind (unA op))]
  · cases s.ev x <;> rfl
  · simp only [opA, isAlloc, Bool.false_eq_true, if_false]
    cases s.ev x with
    | none => rfl
    | some v =>
      show (do let u ← unA op v; some (R.val u, s.H)) = (unA op v).map _
      cases unA op v <;> rfl
theorem runOps_convert {a b : TypeId} {x : Operand} : runOps P cl ops ({ dst := d, op := .convert a b x, type := ty, pos := ps, after := af, guard := none } :: rest) s = (s.ev x).bind fun v => (convertA P a b v).bind fun v => runOps P cl ops rest (s.put d v) := by
  rw [runOps_val (r := (s.ev x).bind (convertA P a b))]
  · cases s.ev x <;> rfl
  · simp only [opA, isAlloc, Bool.false_eq_true, if_false]
    cases s.ev x with
    | none => rfl
    | some v =>
      show (do let u ← convertA P a b v; some (R.val u, s.H)) = (convertA P a b v).map _
      cases convertA P a b v <;> rfl
theorem runOps_iface {t : TypeId} {x : Operand} : runOps P cl ops ({ dst := d, op := .makeInterface t x, type := ty, pos := ps, after := af, guard := none } :: rest) s = (s.ev x).bind fun v => (makeInterfaceA P t v).bind fun v => runOps P cl ops rest (s.put d v) := by
  rw [runOps_val (r := (s.ev x).bind (makeInterfaceA P t))]
  · cases s.ev x <;> rfl
  · simp only [opA, isAlloc, Bool.false_eq_true, if_false]
    cases s.ev x with
    | none => rfl
    | some v =>
      show (do let u ← makeInterfaceA P t v; some (R.val u, s.H)) = (makeInterfaceA P t v).map _
      cases makeInterfaceA P t v <;> rfl
theorem runOps_fieldAddr {t : TypeId} {x : Operand} {i : Nat} : runOps P cl ops ({ dst := d, op := .fieldAddr t x i, type := ty, pos := ps, after := af, guard := none } :: rest) s = (s.ev x).bind fun v => (fieldAddrA P t v i).bind fun v => runOps P cl ops rest (s.put d v) := by
  rw [runOps_val (r := (s.ev x).bind (fieldAddrA P t · i))]
  · cases s.ev x <;> rfl
  · simp only [opA, isAlloc, Bool.false_eq_true, if_false]
    cases s.ev x with
    | none => rfl
    | some v =>
      show (do let u ← fieldAddrA P t v i; some (R.val u, s.H)) = (fieldAddrA P t v i).map _
      cases fieldAddrA P t v i <;> rfl
theorem runOps_field {t : TypeId} {x : Operand} {i : Nat} : runOps P cl ops ({ dst := d, op := .field t x i, type := ty, pos := ps, after := af, guard := none } :: rest) s = (s.ev x).bind fun v => (fieldA P t v i).bind fun v => runOps P cl ops rest (s.put d v) := by
  rw [runOps_val (r := (s.ev x).bind (fieldA P t · i))]
  · cases s.ev x <;> rfl
  · simp only [opA, isAlloc, Bool.false_eq_true, if_false]
    cases s.ev x with
    | none => rfl
    | some v =>
      show (do let u ← fieldA P t v i; some (R.val u, s.H)) = (fieldA P t v i).map _
      cases fieldA P t v i <;> rfl
theorem runOps_extract {x : Operand} {i : Nat} : runOps P cl ops ({ dst := d, op := .extract x i, type := ty, pos := ps, after := af, guard := none } :: rest) s = (s.ev x).bind fun v => (extractA v i).bind fun v => runOps P cl ops rest (s.put d v) := by
  rw [runOps_val (r := (s.ev x).bind (extractA · i))]
  · cases s.ev x <;> rfl
  · simp only [opA, isAlloc, Bool.false_eq_true, if_false]
    cases s.ev x with
    | none => rfl
    | some v =>
      show (do let u ← extractA v i; some (R.val u, s.H)) = (extractA v i).map _
      cases extractA v i <;> rfl
theorem runOps_typeAssert {x : Operand} {a b : TypeId} {k : Bool} : runOps P cl ops ({ dst := d, op := .typeAssert x a b k, type := ty, pos := ps, after := af, guard := none } :: rest) s = (s.ev x).bind fun v => (typeAssertA P v b k).bind fun v => runOps P cl ops rest (s.put d v) := by
  rw [runOps_val (r := (s.ev x).bind (typeAssertA P · b k))]
  · cases s.ev x <;> rfl
  · simp only [opA, isAlloc, Bool.false_eq_true, if_false]
    cases s.ev x with
    | none => rfl
    | some v =>
      show (do let u ← typeAssertA P v b k; some (R.val u, s.H)) = (typeAssertA P v b k).map _
      cases typeAssertA P v b k <;> rfl
theorem runOps_indexAddr {t : TypeId} {x y : Operand} : runOps P cl ops ({ dst := d, op := .indexAddr t x y, type := ty, pos := ps, after := af, guard := none } :: rest) s = (s.ev x).bind fun v => (s.ev y).bind fun i => (indexAddrA P t v i).bind fun v => runOps P cl ops rest (s.put d v) := by
  rw [runOps_val (r := (s.ev x).bind fun v => (s.ev y).bind fun i => indexAddrA P t v i)]
  · cases s.ev x with
    | none => rfl
    | some v => cases s.ev y <;> rfl
  · simp only [opA, isAlloc, Bool.false_eq_true, if_false]
    cases s.ev x with
    | none => rfl
    | some v =>
      cases s.ev y with
      | none => rfl
      | some i =>
        show (do let u ← indexAddrA P t v i; some (R.val u, s.H)) = (indexAddrA P t v i).map _
        cases indexAddrA P t v i <;> rfl
theorem runOps_index {t : TypeId} {x y : Operand} : runOps P cl ops ({ dst := d, op := .index t x y, type := ty, pos := ps, after := af, guard := none } :: rest) s = (s.ev x).bind fun v => (s.ev y).bind fun i => (indexA P t v i).bind fun v => runOps P cl ops rest (s.put d v) := by
  rw [runOps_val (r := (s.ev x).bind fun v => (s.ev y).bind fun i => indexA P t v i)]
  · cases s.ev x with
    | none => rfl
    | some v => cases s.ev y <;> rfl
  · simp only [opA, isAlloc, Bool.false_eq_true, if_false]
    cases s.ev x with
    | none => rfl
    | some v =>
      cases s.ev y with
      | none => rfl
      | some i =>
        show (do let u ← indexA P t v i; some (R.val u, s.H)) = (indexA P t v i).map _
        cases indexA P t v i <;> rfl
theorem runOps_makeFunc {g : Fn} {a b : Array Operand} : runOps P cl ops ({ dst := d, op := .makeFunc g a b, type := ty, pos := ps, after := af, guard := none } :: rest) s = (a.toList.mapM s.ev).bind fun x => (b.toList.mapM s.ev).bind fun y => runOps P cl ops rest (s.put d (.func g x.toArray y.toArray)) := by
  rw [runOps_val (r := (a.toList.mapM s.ev).bind fun x => (b.toList.mapM s.ev).bind fun y => some (.func g x.toArray y.toArray))]
  · cases a.toList.mapM s.ev with
    | none => rfl
    | some v => cases b.toList.mapM s.ev <;> rfl
  · simp only [opA, isAlloc, Bool.false_eq_true, if_false]
    show (do let x ← a.toList.mapM s.ev; let y ← b.toList.mapM s.ev; some (R.val (.func g x.toArray y.toArray), s.H)) = _
    cases a.toList.mapM s.ev with
    | none => rfl
    | some v => cases b.toList.mapM s.ev <;> rfl
theorem runOps_slice {t : TypeId} {x : Operand} {lo hi mx : Option Operand} : runOps P cl ops ({ dst := d, op := .slice t x lo hi mx, type := ty, pos := ps, after := af, guard := none } :: rest) s = (s.ev x).bind fun v => (lo.mapM s.ev).bind fun l => (hi.mapM s.ev).bind fun h => (mx.mapM s.ev).bind fun m => (sliceA P s.H t v l h m).bind fun v => runOps P cl ops rest (s.put d v) := by
  rw [runOps_val (r := (s.ev x).bind fun v => (lo.mapM s.ev).bind fun l => (hi.mapM s.ev).bind fun h => (mx.mapM s.ev).bind fun m => sliceA P s.H t v l h m)]
  · cases s.ev x with
    | none => rfl
    | some v => cases lo.mapM s.ev with
      | none => rfl
      | some l => cases hi.mapM s.ev with
        | none => rfl
        | some h => cases mx.mapM s.ev <;> rfl
  · simp only [opA, isAlloc, Bool.false_eq_true, if_false]
    show (do let v ← s.ev x; let l ← lo.mapM s.ev; let h ← hi.mapM s.ev; let m ← mx.mapM s.ev; let u ← sliceA P s.H t v l h m; some (R.val u, s.H)) = _
    cases s.ev x with
    | none => rfl
    | some v => cases lo.mapM s.ev with
      | none => rfl
      | some l => cases hi.mapM s.ev with
        | none => rfl
        | some h => cases mx.mapM s.ev with
          | none => rfl
          | some m =>
            show (do let u ← sliceA P s.H t v l h m; some (R.val u, s.H)) = (sliceA P s.H t v l h m).map _
            cases sliceA P s.H t v l h m <;> rfl

def setH (s : St) (H : Heap) : St := { s with H := H }
@[simp] theorem setH_mk (n : Nat) (f : Tr Value) (d : List Deferred) (H H1 : Heap) : setH ⟨n, f, d, H⟩ H1 = ⟨n, f, d, H1⟩ := rfl

theorem runOps_vh {op : Op} {r : Option (Value × Heap)} (h : opA P { dst := d, op := op, type := ty, pos := ps, after := af, guard := none } s.ev s.H = r.map fun v => (.val v.1, v.2)) :
    runOps P cl ops ({ dst := d, op := op, type := ty, pos := ps, after := af, guard := none } :: rest) s = r.bind fun v => runOps P cl ops rest ((setH s v.2).put d v.1) := by
  rw [runOps_of rfl]
  unfold doOp
  rw [h]
  cases r with
  | none => rfl
  | some v => rfl

theorem runOps_store {t : TypeId} {x y : Operand} : runOps P cl ops ({ dst := d, op := .store t x y, type := ty, pos := ps, after := af, guard := none } :: rest) s =
    (s.ev x).bind fun a => (s.ev y).bind fun v => (storeA P s.H t a v).bind fun H => runOps P cl ops rest ((setH s H).put d undef) := by
  rw [runOps_vh (r := (s.ev x).bind fun a => (s.ev y).bind fun v => (storeA P s.H t a v).map fun H => (undef, H))]
  · cases s.ev x with
    | none => rfl
    | some v => cases s.ev y with
      | none => rfl
      | some i =>
        show ((storeA P s.H t v i).map fun H => (undef, H)).bind _ = (storeA P s.H t v i).bind _
        cases storeA P s.H t v i <;> rfl
  · simp only [opA, isAlloc, Bool.false_eq_true, if_false]
    cases s.ev x with
    | none => rfl
    | some v =>
      cases s.ev y with
      | none => rfl
      | some i =>
        show (do let u ← storeA P s.H t v i; some (R.val undef, u)) = ((storeA P s.H t v i).map fun H => (undef, H)).map _
        cases storeA P s.H t v i <;> rfl

theorem runOps_builtin {b : Builtin} {args : Array Operand} {ts : Array TypeId} : runOps P cl ops ({ dst := d, op := .call { callee := .builtin b, args := args, argTypes := ts }, type := ty, pos := ps, after := af, guard := none } :: rest) s =
    (args.toList.mapM s.ev).bind fun l => (builtinA P b ts l s.H).bind fun r => runOps P cl ops rest ((setH s r.2).put d r.1) := by
  rw [runOps_vh (r := (args.toList.mapM s.ev).bind fun l => builtinA P b ts l s.H)]
  · cases args.toList.mapM s.ev <;> rfl
  · simp only [opA, isAlloc, Bool.false_eq_true, if_false]
    show (do let l ← args.toList.mapM s.ev; let r ← builtinA P b ts l s.H; some (R.val r.1, r.2)) = _
    cases args.toList.mapM s.ev with
    | none => rfl
    | some l =>
      show (do let r ← builtinA P b ts l s.H; some (R.val r.1, r.2)) = (builtinA P b ts l s.H).map _
      cases builtinA P b ts l s.H <;> rfl

theorem runOps_allocs {op : Op} (h : isAlloc op = true) : runOps P cl ops ({ dst := d, op := op, type := ty, pos := ps, after := af, guard := none } :: rest) s =
    (allocA P op s.ev).bind fun r => runOps P cl ops rest ((setH s (s.H.alloc r.2)).put d (r.1 s.H.next)) := by
  rw [runOps_vh (r := (allocA P op s.ev).map fun r => (r.1 s.H.next, s.H.alloc r.2))]
  · cases allocA P op s.ev <;> rfl
  · unfold opA
    rw [if_pos h]
    cases allocA P op s.ev <;> rfl
theorem runOps_alloc {t : TypeId} : runOps P cl ops ({ dst := d, op := .alloc t, type := ty, pos := ps, after := af, guard := none } :: rest) s =
    (zeroA P t).bind fun z => runOps P cl ops rest ((setH s (s.H.alloc ⟨t, 0, false, z.cells.toList⟩)).put d (.pointer (some ⟨s.H.next, 0, none⟩))) := by
  rw [runOps_allocs rfl]; simp only [allocA]; cases zeroA P t <;> rfl
theorem runOps_box {t : TypeId} {x : Operand} : runOps P cl ops ({ dst := d, op := .box t x, type := ty, pos := ps, after := af, guard := none } :: rest) s =
    (s.ev x).bind fun z => runOps P cl ops rest ((setH s (s.H.alloc ⟨t, 0, false, z.cells.toList⟩)).put d (.pointer (some ⟨s.H.next, 0, none⟩))) := by
  rw [runOps_allocs rfl]; simp only [allocA]; cases s.ev x <;> rfl
theorem runOps_buildSlice {t : TypeId} {n : Nat} {parts : Array (Nat × Operand)} : runOps P cl ops ({ dst := d, op := .buildSlice t n parts, type := ty, pos := ps, after := af, guard := none } :: rest) s =
    (parts.toList.mapM fun (p : Nat × Operand) => (s.ev p.2).map (p.1, ·)).bind fun l => (buildSliceA P t n l).bind fun r => runOps P cl ops rest ((setH s (s.H.alloc r.2)).put d (r.1 s.H.next)) := by
  rw [runOps_allocs rfl]; simp only [allocA]
  show ((parts.toList.mapM fun (p : Nat × Operand) => (s.ev p.2).map (p.1, ·)).bind fun l => buildSliceA P t n l).bind _ = _
  cases (parts.toList.mapM fun (p : Nat × Operand) => (s.ev p.2).map (p.1, ·)) <;> rfl
theorem runOps_makeSlice {t : TypeId} {l c : Operand} : runOps P cl ops ({ dst := d, op := .makeSlice t l c, type := ty, pos := ps, after := af, guard := none } :: rest) s =
    (s.ev l).bind fun x => (s.ev c).bind fun y => (makeSliceA P t x y).bind fun r => runOps P cl ops rest ((setH s (s.H.alloc r.2)).put d (r.1 s.H.next)) := by
  rw [runOps_allocs rfl]; simp only [allocA]
  show ((s.ev l).bind fun x => (s.ev c).bind fun y => makeSliceA P t x y).bind _ = _
  cases s.ev l with
  | none => rfl
  | some x => cases s.ev c <;> rfl

/- what a call comes to, for the rest -/
def backR (cr : CR) (k : Value → Option (Ex × St)) (s : St) : Option (Ex × St) :=
  match cr with
  | .ret v => k v
  | .pan v => some (.panic v, s)
@[simp] theorem backR_ret (v : Value) (k : Value → Option (Ex × St)) (s : St) : backR (.ret v) k s = k v := rfl
@[simp] theorem backR_pan (v : Value) (k : Value → Option (Ex × St)) (s : St) : backR (.pan v) k s = some (.panic v, s) := rfl

theorem runOps_call {x : Operand} {args : Array Operand} {ts : Array TypeId} : runOps P cl ops ({ dst := d, op := .call { callee := .value x, args := args, argTypes := ts }, type := ty, pos := ps, after := af, guard := none } :: rest) s =
    (s.ev x).bind fun f => (args.toList.mapM s.ev).bind fun l => (targetA f l).bind fun t => (cl t.1 t.2 s.H).bind fun r => backR r.1 (fun v => runOps P cl ops rest ((setH s r.2).put d v)) (setH s r.2) := by
  rw [runOps_of rfl]
  simp only [doOp, opA, isAlloc, Bool.false_eq_true, if_false, Option.bind_eq_bind]
  cases s.ev x with
  | none => rfl
  | some f => cases args.toList.mapM s.ev with
    | none => rfl
    | some l =>
      cases ht : targetA f l with
      | none => simp only [Option.bind_some, ht]; rfl
      | some t =>
        simp only [Option.bind_some, ht]
        cases cl t.1 t.2 s.H with
        | none => rfl
        | some r =>
          obtain ⟨r, H⟩ := r
          cases r <;> rfl

def deferA (l : List Value) : Value → Option Deferred
  | .func (.func f) first captured => some { target := .fn (.func f) captured, args := first ++ l.toArray }
  | _ => none
def addD (s : St) (x : Deferred) : St := { s with d := x :: s.d }
@[simp] theorem addD_mk (n : Nat) (f : Tr Value) (d : List Deferred) (H : Heap) (x : Deferred) : addD ⟨n, f, d, H⟩ x = ⟨n, f, x :: d, H⟩ := rfl
theorem runOps_defer {x : Operand} {args : Array Operand} {ts : Array TypeId} : runOps P cl ops ({ dst := d, op := .defer { callee := .value x, args := args, argTypes := ts }, type := ty, pos := ps, after := af, guard := none } :: rest) s =
    (s.ev x).bind fun f => (args.toList.mapM s.ev).bind fun l => (deferA l f).bind fun x => runOps P cl ops rest ((addD s x).put d undef) := by
  rw [runOps_of rfl]
  simp only [doOp, opA, isAlloc, Bool.false_eq_true, if_false, Option.bind_eq_bind]
  cases s.ev x with
  | none => rfl
  | some f => cases hl : args.toList.mapM s.ev with
    | none =>
      simp only [Option.bind_some, Option.bind_none]
      cases f <;> try rfl
      rename_i q _ _
      cases q <;> rfl
    | some l =>
      simp only [Option.bind_some]
      cases f <;> try rfl
      rename_i q _ _
      cases q <;> rfl

def panicA : Value → Option Value
  | .iface t v => some (.iface t v)
  | _ => none
theorem runOps_panic {x : Operand} : runOps P cl ops ({ dst := d, op := .panic x, type := ty, pos := ps, after := af, guard := none } :: rest) s = (s.ev x).bind fun v => (panicA v).bind fun v => some (.panic v, s) := by
  rw [runOps_of rfl]
  simp only [doOp, opA, isAlloc, Bool.false_eq_true, if_false, Option.bind_eq_bind]
  cases s.ev x with
  | none => rfl
  | some v => cases v <;> rfl

theorem ev_tmp (s : St) (t : Tmp) : s.ev (.tmp t) = some (s.slot t) := rfl
theorem ev_const (s : St) (v : Value) : s.ev (.const v) = if plainV v then some v else none := rfl
theorem ev_func (s : St) (f : FuncId) : s.ev (.func f) = some (.func (.func f) #[] #[]) := rfl
theorem slot_mk (n : Nat) (f : Tr Value) (d : List Deferred) (H : Heap) (t : Tmp) : (St.mk n f d H).slot t = (f.get t).getD undef := rfl
theorem put_mk (n : Nat) (f : Tr Value) (d : List Deferred) (H : Heap) (k : Tmp) (v : Value) : (St.mk n f d H).put (some k) v = if k < n then ⟨n, f.put k (some v), d, H⟩ else ⟨n, f, d, H⟩ := rfl
theorem put_none (s : St) (v : Value) : s.put none v = s := rfl
theorem mapM_nil' {α β : Type} (f : α → Option β) : List.mapM f [] = some [] := rfl
theorem mapM_cons' {α β : Type} (f : α → Option β) (x : α) (l : List α) : List.mapM f (x :: l) = (f x).bind fun y => (List.mapM f l).bind fun ys => some (y :: ys) := by
  rw [List.mapM_cons]; rfl

end
end Go.Am
