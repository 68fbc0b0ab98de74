/- The abstract machine's runs: regions in the text's order, regions that draw their order (with what makes every order alike checked), code, calls, deferred calls. Definitions alone; no condition. -/
import Derived.Test.YthanhcpnhionaaaAmCore
set_option linter.all false
set_option linter.unusedSimpArgs false
set_option linter.unusedVariables false
namespace Go.Am

section
variable (P : Program)

mutual
def veq : Value → Value → Bool
  | .bool a, .bool b => a == b
  | .int k a, .int k' b => k == k' && a == b
  | .float k a, .float k' b => k == k' && a == b
  | .string a, .string b => a == b
  | .pointer a, .pointer b => a == b
  | .slice a l c, .slice a' l' c' => a == a' && l == l' && c == c'
  | .map a, .map b => a == b
  | .complex k a b, .complex k' a' b' => k == k' && a == a' && b == b'
  | .chan a, .chan b => a == b
  | .nilFunc, .nilFunc => true
  | .nilIface, .nilIface => true
  | .func f x y, .func f' x' y' => f == f' && veqA x x' && veqA y y'
  | .iface t v, .iface t' v' => t == t' && veq v v'
  | .agg x, .agg y => veqA x y
  | .tuple x, .tuple y => veqA x y
  | _, _ => false
def veqA : Array Value → Array Value → Bool
  | ⟨x⟩, ⟨y⟩ => veqL x y
def veqL : List Value → List Value → Bool
  | [], [] => true
  | x :: xs, y :: ys => veq x y && veqL xs ys
  | _, _ => false
end

def yieldedA (ops : Array Oper) (s : St) (j : Nat) : Option Bool :=
  match (ops[j]?).bind (·.dst) with
  | some t => match s.f.get t with
    | some (.bool b) => some b
    | _ => none
  | none => none

def wantedA (o : Oper) (ops : Array Oper) (s : St) : Bool :=
  match o.guard with
  | none => true
  | some (j, want) => yieldedA ops s j == some want

/- what a call comes to -/
abbrev Cl := FuncId → Array Value → Heap → Option (CR × Heap)

/- one operation that is wanted -/
def doOp (cl : Cl) (o : Oper) (s : St) : Option (Ex × St) := do
  match ← opA P o s.ev s.H with
  | (.val v, H) => some (.normal, ({ s with H := H }).put o.dst v)
  | (.dfr d, H) => some (.normal, ({ s with H := H, d := d :: s.d }).put o.dst undef)
  | (.pan v, H) => some (.panic v, { s with H := H })
  | (.call f args, H) =>
    match ← cl f args H with
    | (.ret v, H) => some (.normal, ({ s with H := H }).put o.dst v)
    | (.pan v, H) => some (.panic v, { s with H := H })

/- a region in the text's order -/
def runOps (cl : Cl) (ops : Array Oper) : List Oper → St → Option (Ex × St)
  | [], s => some (.normal, s)
  | o :: rest, s =>
    if wantedA o ops s then
      match doOp P cl o s with
      | some (.normal, s') => runOps cl ops rest s'
      | r => r
    else runOps cl ops rest (s.put o.dst undef)

inductive Kd where
  | quiet | read | alloc | chain
  deriving DecidableEq

def kdA (o : Oper) : Kd :=
  match o.op with
  | .alloc _ | .box _ _ | .buildSlice _ _ _ | .makeSlice _ _ _ => .alloc
  | .load _ _ | .slice _ _ _ _ _ => .read
  | .move _ | .assign _ | .pick _ _ _ | .build _ _ | .nilCheck _ | .binOp _ _ _ _ _ | .unOp _ _ _ | .convert _ _ _ | .makeInterface _ _ | .makeFunc _ _ _
  | .fieldAddr _ _ _ | .field _ _ _ | .indexAddr _ _ _ | .index _ _ _ | .typeAssert _ _ _ _ | .extract _ _ => .quiet
  | .call { callee := .builtin .len, .. } | .call { callee := .builtin .min, .. } | .call { callee := .builtin .max, .. } => .quiet
  | _ => .chain

/- the operations that must be ahead of operation i -/
def ancA (b : Array Nat) (i k : Nat) : Bool := (b.getD i 0).testBit k

/- WHAT A DRAWING REGION's TEXT MUST SHOW: its edges lead back; 'ancA' holds of no others than the edges' ends and their own; two operations of which one writes a slot that the other looks at are in order; none is a select. -/
def okD (ops : Array Oper) : Bool :=
  let b := Region.before ops
  (List.range ops.size).all fun i =>
    match ops[i]? with
    | none => false
    | some o =>
      (match o.op with | .select _ _ => false | _ => true) &&
      (o.after.toList.all fun e => !Region.binds .any e || e.on < i) &&
      ((List.range ops.size).all fun k => !ancA b i k || o.after.toList.any fun e => Region.binds .any e && (e.on == k || ancA b e.on k)) &&
      ((List.range i).all fun k => ancA b i k || match ops[k]? with | some ok => ok.apart ops o | none => false)

structure DS where
  s : St
  /- blocks made that no operation of the chain has wanted yet: the operation's number, the block -/
  A : List (Nat × Blk)
  /- the heaps ahead of the chain's operations, the last first -/
  hist : List Heap
  /- the chain's operations that were done, the last first -/
  cs : List Nat
  /- the readings that were done: the number, the operation, the slots then, what was read -/
  rd : List (Nat × Oper × St × Value)

/- the blocks of some pending ones laid into a heap -/
def layA (r0 : Nat) (H : Heap) : List (Nat × Blk) → Heap
  | [] => H
  | (i, x) :: rest => layA r0 (H.set (r0 + i) x) rest

/- does the operation read this value in that heap, with the pending blocks that it may see? -/
def readsA (r0 : Nat) (b : Array Nat) (A : List (Nat × Blk)) (i : Nat) (o : Oper) (s : St) (H : Heap) : Option Value :=
  match opA P o s.ev (layA r0 H (A.filter fun p => ancA b i p.1)) with
  | some (.val v, _) => some v
  | _ => none

/- the same in each earlier heap in which it may be done -/
def backA (r0 : Nat) (b : Array Nat) (A : List (Nat × Blk)) (i : Nat) (o : Oper) (s : St) (v : Value) : List Nat → List Heap → Bool
  | c :: cs, H :: hs =>
    if ancA b i c then true
    else (match readsA P r0 b A i o s H with | some u => veq u v | none => false) && backA r0 b A i o s v cs hs
  | _, _ => true

def stepD (cl : Cl) (ops : Array Oper) (b : Array Nat) (r0 i : Nat) (o : Oper) (x : DS) : Option DS :=
  if wantedA o ops x.s then
    match kdA o with
    | .quiet => do
      match ← opA P o x.s.ev x.s.H with
      | (.val v, _) => some { x with s := x.s.put o.dst v }
      | _ => none
    | .alloc => do
      let r ← allocA P o.op x.s.ev
      some { x with s := x.s.put o.dst (r.1 (r0 + i)), A := x.A ++ [(i, r.2)] }
    | .read => do
      let v ← readsA P r0 b x.A i o x.s x.s.H
      if backA P r0 b x.A i o x.s v x.cs x.hist then
        some { x with s := x.s.put o.dst v, rd := (i, o, x.s, v) :: x.rd }
      else none
    | .chain =>
      if x.cs.all (ancA b i) then do
        let H0 := layA r0 x.s.H (x.A.filter fun p => ancA b i p.1)
        let A' := x.A.filter fun p => !ancA b i p.1
        match ← doOp P cl o { x.s with H := H0 } with
        | (.normal, s') =>
          if x.rd.all fun (k, ok, sk, v) => ancA b i k || (match readsA P r0 b A' k ok sk s'.H with | some u => veq u v | none => false) then
            some { s := s', A := A', hist := x.s.H :: x.hist, cs := i :: x.cs, rd := x.rd }
          else none
        | _ => none
      else none
  else some { x with s := x.s.put o.dst undef }

def runD (cl : Cl) (ops : Array Oper) (b : Array Nat) (r0 : Nat) : Nat → List Oper → DS → Option DS
  | _, [], x => some x
  | i, o :: rest, x => (stepD P cl ops b r0 i o x).bind (runD cl ops b r0 (i + 1) rest)

/- does it only compute and read? -/
def calmD (ops : Array Oper) : Bool := ops.toList.all fun o => kdA o == .quiet || kdA o == .read

/- a region that draws its order -/
def regionD (cl : Cl) (ops : Array Oper) (s : St) : Option (Ex × St) :=
  if okD ops then do
    let r0 := s.H.next
    let x ← runD P cl ops (Region.before ops) r0 0 ops.toList { s := { s with H := { s.H with next := r0 + ops.size + 1 } }, A := [], hist := [], cs := [], rd := [] }
    if calmD ops then some (.normal, { x.s with H := s.H }) else some (.normal, { x.s with H := layA r0 x.s.H x.A })
  else none

/- code, given what a call comes to and code with less fuel -/
def stepC (cl : Cl) (ex : Code → St → Option (Ex × St)) (c : Code) (s : St) : Option (Ex × St) :=
  match c with
  | .skip => some (.normal, s)
  | .region _ ops draw => if draw then regionD P cl ops s else runOps P cl ops ops.toList s
  | .seq a b =>
    match ex a s with
    | some (.normal, s') => ex b s'
    | r => r
  | .cond c a b =>
    match s.ev c with
    | some (.bool t) => ex (if t then a else b) s
    | _ => none
  | .block id b =>
    match ex b s with
    | some (.exit id', s') => if id' = id then some (.normal, s') else some (.exit id', s')
    | r => r
  | .loop b =>
    match ex b s with
    | some (.normal, s') => ex (.loop b) s'
    | r => r
  | .exit id => some (.exit id, s)
  | .ret => some (.ret, s)
  | _ => none

/- the operations of a deferred function's region: 'recover' is one -/
def isRec (o : Oper) : Bool := match o.op with | .call { callee := .builtin .recover, .. } => true | _ => false

/- a deferred function's code: 'p': what it may recover -/
def runOpsS (cl : Cl) (ops : Array Oper) : List Oper → Option Value → St → Option (Ex × Option Value × St)
  | [], p, s => some (.normal, p, s)
  | o :: rest, p, s =>
    if wantedA o ops s then
      if isRec o then
        match p with
        | some v => runOpsS cl ops rest none (s.put o.dst v)
        | none => runOpsS cl ops rest none (s.put o.dst .nilIface)
      else
        match doOp P cl o s with
        | some (.normal, s') => runOpsS cl ops rest p s'
        | some (e, s') => some (e, p, s')
        | none => none
    else runOpsS cl ops rest p (s.put o.dst undef)

def codeS (cl : Cl) (ex : Code → St → Option (Ex × St)) : Code → Option Value → St → Option (Ex × Option Value × St)
  | .seq a b, p, s =>
    match codeS cl ex a p s with
    | some (.normal, p', s') => codeS cl ex b p' s'
    | r => r
  | .cond c a b, p, s =>
    match s.ev c with
    | some (.bool t) => if t then codeS cl ex a p s else codeS cl ex b p s
    | _ => none
  | .region i ops draw, p, s => if draw || !ops.any isRec then (ex (.region i ops draw) s).map fun (e, s) => (e, p, s) else runOpsS P cl ops ops.toList p s
  | c, p, s => (ex c s).map fun (e, s) => (e, p, s)

def ofArgs : Nat → List Value → Tr Value
  | _, [] => .nil
  | i, v :: vs => (ofArgs (i + 1) vs).put i (some v)

def enterA (fn : Func) (args : Array Value) (H : Heap) : St := { n := Nat.max fn.ntmps args.size, f := ofArgs 0 args.toList, d := [], H := H }

def resultA (s : St) : ResultVar → Option Value
  | .tmp t => some (s.slot t)
  | .cell a t => loadA P s.H t (s.slot a)

def resultsA (fn : Func) (s : St) : Option Value := do
  match ← fn.results.toList.mapM (resultA P s) with
  | [v] => some v
  | vs => some (.tuple vs.toArray)

/- the deferred calls, the last first; 'p': the panic under way -/
def unwindA (cl : Cl) (ex : Code → St → Option (Ex × St)) (fn : Func) (s : St) : List Deferred → Option Value → Heap → Option (CR × Heap)
  | [], none, H => (resultsA P fn { s with H := H }).map fun v => (.ret v, H)
  | [], some v, H => some (.pan v, H)
  | d :: ds, p, H => do
    match d.target with
    | .fn (.func g) captured =>
      let gn ← P.funcs[g]?
      let c ← gn.body
      match ← codeS P cl ex c p (enterA gn (d.args ++ captured) H) with
      | (.normal, p', s') | (.ret, p', s') =>
        if s'.d.isEmpty then
          let _ ← resultsA P gn s'
          unwindA cl ex fn s ds p' s'.H
        else none
      | _ => none
    | _ => none

/- a call, given code -/
def callA (cl : Cl) (ex : Code → St → Option (Ex × St)) (f : FuncId) (args : Array Value) (H : Heap) : Option (CR × Heap) := do
  let fn ← P.funcs[f]?
  let c ← fn.body
  match ← ex c (enterA fn args H) with
  | (.normal, s) | (.ret, s) => unwindA P cl ex fn s s.d none s.H
  | (.panic v, s) => if fn.results.isEmpty || s.d.isEmpty then unwindA P cl ex fn s s.d (some v) s.H else none
  | _ => none

/- code and calls with so much fuel -/
def lvl : Nat → (Code → St → Option (Ex × St)) × Cl
  | 0 => (fun _ _ => none, fun _ _ _ => none)
  | k + 1 => (stepC P (lvl k).2 (lvl k).1, callA P (lvl k).2 (lvl k).1)

def exec (k : Nat) : Code → St → Option (Ex × St) := (lvl P k).1
def call (k : Nat) : Cl := (lvl P k).2

end
end Go.Am
